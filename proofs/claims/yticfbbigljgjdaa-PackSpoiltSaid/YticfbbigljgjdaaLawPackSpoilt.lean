/- umlautlaw18.PackSpoilt: the walk. A table's bytes that are cut off, that have something behind them, or of which one is another one, are none. Condition: none beyond the row's own. -/
import Derived.Test.YticfbbigljgjdaaBehind
namespace Go.Proofs.Yticfbbigljgjdaa
open Go.RowKit
set_option linter.unusedVariables false
set_option linter.unusedSimpArgs false
theorem few2 {T : TabL} (h : SmallT T) (hc : T.cls.length = 256) : (bodyB T).length ≤ 16000000 := by
  obtain ⟨a1, a2, a3, hs⟩ := h
  unfold sumT at hs
  have h1 := flat_bound nodeB nodeN 8 4 T.nodes (fun n hn => nodeB_bound (by have := sum_mem nodeN hn; omega))
  have h2 := flat_bound actB (fun a => sizeL a.out) 12 24 T.acts (fun a ha => by
    have h3 := sum_mem (fun a : ActL => sizeL a.out) ha
    have h4 := termsB_bound (l := a.out) (by omega)
    simp only [actB, List.length_append, numB_len]
    omega)
  have h3 := flat_bound termsB sizeL 4 24 T.ends (fun l hl => termsB_bound (by have := sum_mem sizeL hl; omega))
  have hm : markB.length = 5 := rfl
  simp only [bodyB, innerB, headB, List.length_append, numB_len, hc, hm]
  omega
theorem place_ex (d : Int) (n : Nat) (hn : 0 < n) (hn2 : n ≤ 16000004) : ∃ (k : Nat), wrap64 ((IntKind.u64.wrap d).tmod n) = (k : Int) ∧ k < n := by
  obtain ⟨u, hu, h0⟩ : ∃ u, IntKind.u64.wrap d = u ∧ 0 ≤ u := ⟨_, rfl, by simp [IntKind.wrap, IntKind.signed, IntKind.bits]; omega⟩
  rw [hu]
  have h1 := Int.tmod_nonneg (n : Int) h0
  have h2 := Int.tmod_lt_of_pos u (b := (n : Int)) (by omega)
  obtain ⟨k, hk⟩ := Int.eq_ofNat_of_zero_le h1
  rw [hk]
  exact ⟨k, by unfold wrap64; omega, by omega⟩
theorem own_addr {W : World} {base : Nat} {e : TypeId} {size n m c : Nat} {A : Option Addr} {xs : List Value} (h : W.ownsRow base e size (.slice A n c) m xs) (hm : 0 < m) : ∃ g, A = some ⟨g, 0, none⟩ ∧ base ≤ g := by
  rcases h.2 with ⟨_, h1⟩ | ⟨g, cap, cur, h1, hg, _⟩
  · omega
  · injection h1 with h2 _ _; exact ⟨g, h2, hg⟩
theorem bxor8 (y x : Int) (hy : 0 ≤ y ∧ y < 256) (h0 : 0 ≤ x) (h1 : x < 256) : ∃ v, bits .xor .u8 y x = v ∧ 0 ≤ v ∧ v < 256 ∧ (v = y ↔ x = 0) := by
  obtain ⟨a, rfl⟩ := Int.eq_ofNat_of_zero_le hy.1
  obtain ⟨b, rfl⟩ := Int.eq_ofNat_of_zero_le h0
  have ha : a < 256 := by omega
  have hb : b < 256 := by omega
  have hx : a ^^^ b < 256 := Nat.xor_lt_two_pow (n := 8) ha hb
  refine ⟨((a ^^^ b : Nat) : Int), ?_, by omega, by omega, ?_⟩
  · have e1 : (BitVec.ofInt 8 (a : Int)).toNat = a := by
      rw [BitVec.ofInt_natCast, BitVec.toNat_ofNat]; exact Nat.mod_eq_of_lt (by omega)
    have e2 : (BitVec.ofInt 8 (b : Int)).toNat = b := by
      rw [BitVec.ofInt_natCast, BitVec.toNat_ofNat]; exact Nat.mod_eq_of_lt (by omega)
    show IntKind.u8.wrap ((BitVec.ofInt 8 (a : Int) ^^^ BitVec.ofInt 8 (b : Int)).toNat : Int) = _
    rw [BitVec.toNat_xor, e1, e2]
    show ((a ^^^ b : Nat) : Int) % 256 = _
    omega
  · constructor
    · intro h
      have h2 : a ^^^ b = a := by omega
      have h3 : a ^^^ (a ^^^ b) = b := by rw [← Nat.xor_assoc, Nat.xor_self, Nat.zero_xor]
      rw [h2, Nat.xor_self] at h3
      omega
    · intro h
      have : b = 0 := by omega
      subst this
      simp
set_option maxRecDepth 100000 in
set_option maxHeartbeats 16000000 in
theorem PackSpoilt_walk (cs : Array Value) (T : TabI) (i x : Int) (A0 : Option Addr) (c0 : Nat) (l0 : List Int) (w : World) (hC : TabC cs T) (hT : TabW T w) (wi : (Lit.int .i64 i).wf = true) (wx : (Lit.int .u8 x).wf = true) (hs0 : BytesAt A0 l0 w) (hl0 : l0.length ≤ c0) (hc0 : c0 ≤ 9223372036854775807) :
    Calls Try.prog 7 #[.agg cs, .int .i64 i, .int .u8 x, .slice A0 l0.length c0] w fun e w' => e = .returned (.bool true) ∧ Below w.heap.size w w' := by
  obtain ⟨hx0, hx1⟩ : 0 ≤ x ∧ x < 256 := by
    simp [Lit.wf, IntKind.min, IntKind.max, IntKind.signed, IntKind.bits] at wx
    omega
  obtain ⟨z, hz⟩ : ∃ z, z = zeroT := ⟨_, rfl⟩
  have HZ : Hid ((Try.prog.info? 27).map (fun i => i.zero) = some (some (.agg z))) := Lib.hid (by rw [hz]; exact info_tabZ)
  have HZC : Hid (TabC z zeroTab) := Lib.hid (by rw [hz]; exact zeroT_C)
  have HZS := HZC.out.size
  clear hz wi wx
  have HK : Hid (St w (w.alloc (.cells cs 27)) (fun W => TabBox w.heap.size cs W ∧ TabW T W ∧ BytesAt A0 l0 W)) := St.tbox (Lib.hid (St.start fun W hW => ⟨hT.below hW, hs0.below hW⟩)) cs
  have HC := Lib.hid hC
  have HI : Hid ((Try.prog.info? 27).map (·.size) = some cs.size) := Lib.hid (by rw [hC.size]; exact info_tabS)
  have HFT : Hid (∀ W, TabBox w.heap.size cs W ∧ TabW T W ∧ BytesAt A0 l0 W → TabW T W) := Lib.hid fun W h => h.2.1
  clear hC hT hs0
  go_enter Try.func7, Try.ntmps7
  by_cases hs : SmallT T.L
  case neg =>
    have HV := Lib.hid (pB_false hs)
    clear hs
    go_wp2_with (first
      | (refine wpList_load_row rfl 27 _ rfl w.heap.size rfl _ cs _ _ HK.out.now.1 Try.underlying27 rfl HI.out ?_)
      | (go_at_call 8; refine (Small_st HK cs T HC.out HFT.out false HV).mono ?_; rintro e w2 ⟨rfl, HK2⟩)
      | (go_at_call 9; refine (awake18_st HK2).mono ?_; rintro e w3 ⟨rfl, HK3⟩))
    go_ret
    exact ⟨rfl, HK3.out.2⟩
  have HV := Lib.hid (pB_true hs)
  have HFEW := Lib.hid (hs.few HC.out.ln)
  have HFEW2 := Lib.hid (few2 hs HC.out.ln)
  clear hs
  by_cases hm : 1000 < l0.length
  · have hm1 : (1000 : Int) < l0.length := by omega
    go_wp2_with (first
      | (refine wpList_load_row rfl 27 _ rfl w.heap.size rfl _ cs _ _ HK.out.now.1 Try.underlying27 rfl HI.out ?_)
      | (go_at_call 8; refine (Small_st HK cs T HC.out HFT.out true HV).mono ?_; rintro e w2 ⟨rfl, HK2⟩)
      | (go_at_call 9; refine (awake18_st HK2).mono ?_; rintro e w3 ⟨rfl, HK3⟩))
    go_ret
    exact ⟨rfl, HK3.out.2⟩
  have hm1 : decide ((1000 : Int) < l0.length) = false := by rw [decide_eq_false_iff_not]; omega
  go_wp2_with (first
    | (refine wpList_load_row rfl 27 _ rfl w.heap.size rfl _ cs _ _ HK.out.now.1 Try.underlying27 rfl HI.out ?_)
    | (go_at_call 8; refine (Small_st HK cs T HC.out HFT.out true HV).mono ?_; rintro e w2 ⟨rfl, HK2⟩)
    | (refine wpList_load_row rfl 27 _ rfl w.heap.size rfl _ cs _ _ HK2.out.now.1 Try.underlying27 rfl HI.out ?_))
  refine (Pack_st HK2 cs T HC.out HFT.out HFEW.out).mono ?_
  rintro e w3 (⟨hno, rfl, HK3⟩ | ⟨hyes, A, c, hlc, rfl, HK3⟩)
  · go_wp2_with (go_at_call 9; refine (awake18_st HK3).mono ?_; rintro e w5 ⟨rfl, HK5⟩)
    go_ret
    exact ⟨rfl, HK5.out.2⟩
  have hbl : (packB T.L).length ≤ 16000004 := by rw [pack_len]; have := HFEW2.out; omega
  have hfit := hyes.fits HC.out.ln HC.out.u8
  have hu8 := packB_u8 (T := T.L) HC.out.u8
  have HCUT := Lib.hid (fun (k : Nat) hk => good_cut hfit hu8 (k := k) hk)
  have HSET := Lib.hid (fun (k : Nat) (y : Int) hk hy hne => good_set (T := T.L) hu8 (k := k) (y := y) hk hy hne)
  have HGB : Hid (UnpackOk (packB T.L)) := Lib.hid (by
    obtain ⟨h1, h2⟩ := good_pack hfit
    exact ⟨h1, by rw [h2]; exact hyes.1⟩)
  have h0l : 281 ≤ (packB T.L).length := HGB.out.1.1
  have HU8 := Lib.hid hu8
  clear hfit hu8 hyes
  generalize packB T.L = bs at HK3 HCUT HSET HGB HU8 h0l hlc hbl ⊢
  have hne0 : ((bs.length : Int) == 0) = false := by rw [beq_eq_false_iff_ne]; omega
  obtain ⟨k, hwk, hk⟩ := place_ex i bs.length (by omega) hbl
  have hk0 : (0 : Int) ≤ k := by omega
  have hkc : (k : Int) ≤ c := by omega
  go_wp2_with fail
  have htl : (bs.take k).length = k := by rw [List.length_take]; omega
  have hUn := Unpack_st HK3 A c (bs.take k) (fun _ h => bytes_take h.1 (by omega)) (by omega) (by omega)
  rw [htl] at hUn
  refine hUn.mono ?_
  clear hUn htl
  rintro e w4 ⟨ds, U, v, rfl, HDC, HK4, HSD⟩
  obtain rfl : v = 9 := by
    rcases HSD.out with ⟨_, h2, _⟩ | ⟨h1, _⟩
    · exact absurd h2.1 (HCUT.out k hk)
    · exact h1
  have HDS : Hid ((Try.prog.info? 27).map (·.size) = some ds.size) := Lib.hid (by rw [HDC.out.size]; exact info_tabS)
  have HD1 := Lib.hid (cells_one HDC.out)
  have HZD : Hid (z.size = ds.size) := Lib.hid (by rw [HZS, HDC.out.size])
  have HK5 := tab_box (cs := ds) HK4 z
  clear HSD HCUT
  go_upto_region 10 with (first
    | (refine wpList_allocZ rfl 27 rfl z HZ.out ?_)
    | (refine wpList_store_row rfl 27 _ _ rfl w4.heap.size ds rfl rfl 27 z (heap_alloc_new w4 _) HDS.out HZD.out HD1.out ?_))
  generalize (w4.alloc (.cells z 27)).setRow w4.heap.size ds = w5 at HK5 ⊢
  have HB1 : Hid (Below w5.heap.size w5 (w5.alloc (.cells #[] 5))) := Lib.hid ((Below.refl _ _).alloc (Nat.le_refl _) _)
  have HO1 : Hid ((w5.alloc (.cells #[] 5)).ownsRow w5.heap.size 5 1 (.slice (some ⟨w5.heap.size, 0, none⟩) 0 0) 0 (([] : List Int).map (Value.int .u8))) := Lib.hid (World.ownsRow_lit w5 #[] 0 (Nat.le_refl _) (by unfold maxLen; omega) rfl)
  have hs1 : w5.heap.size ≤ (w5.alloc (.cells #[] 5)).heap.size := by simp
  have hbb : 0 + bs.length ≤ 1073741824 := by omega
  go_upto_region 11 with (at_builtin; refine wpList_appB rfl _ _ rfl HO1.out rfl (HK5.out.1 _ HB1.out).2.2.1 rfl rfl hbb hs1 ?_; intro A6 c6 w6 HO6 HB6; (rw [Nat.zero_add, List.nil_append] at HO6); (rw [Nat.zero_add]); (have HB7 := Lib.hid (HB1.out.trans HB6.out)))
  obtain ⟨g, rfl, hg⟩ := own_addr HO6.out (by omega)
  obtain ⟨y, hy⟩ : ∃ y, bs[k]? = some y := ⟨bs[k], List.getElem?_eq_getElem hk⟩
  have hcell : w6.cell? ⟨g, k, none⟩ = some (.int .u8 y) := by
    rw [World.ownsRow.cellAt HO6.out k (by omega), List.getElem?_map, hy]; rfl
  have hfr := World.ownsRow.frozenAt HO6.out k
  have hk1 : (k : Int) < bs.length := by omega
  go_upto_region 12 with fail
  clear hwk hcell hfr hk1
  obtain ⟨y2, hy2, hv0, hv1, hvx⟩ := bxor8 y x (HU8.out y (List.mem_of_getElem? hy)) hx0 hx1
  rw [hy2]
  clear hy2
  obtain ⟨hst, hgr⟩ := World.ownsRow.stored HO6.out k (.int .u8 y2)
  have hlen2 : (bs.set k y2).length = bs.length := List.length_set
  have hu82 : U8s (bs.set k y2) := fun q hq => by
    rcases List.mem_or_eq_of_mem_set hq with h | h
    · exact HU8.out q h
    · subst h; exact ⟨hv0, hv1⟩
  have hcap6 := own_cap HO6.out
  rw [← List.map_set, ← hlen2] at hst
  have HBY : Hid (BytesAt (some ⟨g, 0, none⟩) (bs.set k y2) (w6.setCell ⟨g, k, none⟩ (.int .u8 y2))) := Lib.hid (BytesAt.of_own hst hu82 (by omega))
  have HB8 : Hid (Below w5.heap.size w5 (w6.setCell ⟨g, k, none⟩ (.int .u8 y2))) := Lib.hid (HB7.out.setCell (by show w5.heap.size ≤ g; omega) _)
  have HK8 := Lib.hid ((HK5.out.step HB8.out).add (Below.refl _ _) fun W hW => HBY.out.below hW)
  generalize w6.setCell ⟨g, k, none⟩ (.int .u8 y2) = w8 at HK8 ⊢
  clear HBY HB8 hst hgr HO6 HB6 HB7 HO1 HB1 hs1
  have hUn := Unpack_st HK8 (some ⟨g, 0, none⟩) c6 (bs.set k y2) (fun _ h => h.1) (by rw [hlen2]; exact hcap6) (by rw [hlen2]; omega)
  rw [hlen2] at hUn
  have HX : Hid (UnpackOk (bs.set k y2) ↔ x = 0) := Lib.hid ⟨fun h => by
      by_cases hxx : x = 0
      · exact hxx
      · have hne : bs[k] ≠ y2 := fun he => hxx (hvx.1 (by rw [← he]; have := List.getElem?_eq_getElem hk; rw [hy] at this; exact (Option.some.inj this).symm))
        exact absurd h.1 (HSET.out k y2 hk ⟨hv0, hv1⟩ hne), fun h => by
      have h1 := hvx.2 h
      have : bs.set k y2 = bs := by
        rw [h1]
        refine List.ext_getElem? fun j => ?_
        rw [List.getElem?_set]
        split
        · rename_i he; subst he
          exact hy.symm
        · rfl
      rw [this]; exact HGB.out⟩
  clear HSET hvx hv0 hv1 hu82 hy hne0
  go_wp2_with fail
  refine hUn.mono ?_
  clear hUn
  rintro e w9 ⟨es, V, v, rfl, HEC, HK9, HSD⟩
  obtain ⟨v9, hv9, HV9⟩ : ∃ v9 : Bool, (v == 9) = v9 ∧ Hid (v9 = (x != 0)) := by
    refine ⟨_, rfl, Lib.hid ?_⟩
    rcases HSD.out with ⟨h1, h2, _⟩ | ⟨h1, h2, _⟩
    · have := HX.out.1 h2; subst this; subst h1; rfl
    · have h3 : x ≠ 0 := fun h => h2 (HX.out.2 h)
      subst h1
      have : (x != 0) = true := by rw [bne_iff_ne]; exact h3
      rw [this]; rfl
  have HES : Hid ((Try.prog.info? 27).map (·.size) = some es.size) := Lib.hid (by rw [HEC.out.size]; exact info_tabS)
  have HE1 := Lib.hid (cells_one HEC.out)
  have HZE : Hid (z.size = es.size) := Lib.hid (by rw [HZS, HEC.out.size])
  have HK10 := tab_box (cs := es) HK9 z
  clear HSD HX
  have hbeq : (v9 == (x != 0)) = true := by rw [HV9.out]; simp
  go_upto_region 13 with (first
    | (refine wpList_allocZ rfl 27 rfl z HZ.out ?_)
    | (refine wpList_store_row rfl 27 _ _ rfl w9.heap.size es rfl rfl 27 z (heap_alloc_new w9 _) HES.out HZE.out HE1.out ?_))
  generalize (w9.alloc (.cells z 27)).setRow w9.heap.size es = w10 at HK10 ⊢
  by_cases h0 : l0.length = 0
  · have h01 : ((l0.length : Int) == 0) = true := by rw [beq_iff_eq]; omega
    go_wp2_with (go_at_call 9; refine (awake18_st HK10).mono ?_; rintro e w11 ⟨rfl, HK11⟩)
    go_ret
    exact ⟨rfl, HK11.out.2⟩
  · have h01 : ((l0.length : Int) == 0) = false := by rw [beq_eq_false_iff_ne]; omega
    go_wp2_with (first
      | (go_at_call 17; refine (behind_st HK10 A c bs A0 c0 l0 (fun _ h => h.2.2.2.2.2.1) (fun _ h => h.2.2.2.2.2.2.2.2) (by omega)).mono ?_; rintro e w11 ⟨rfl, HK11⟩)
      | (go_at_call 9; refine (awake18_st HK11).mono ?_; rintro e w12 ⟨rfl, HK12⟩))
    go_ret
    exact ⟨rfl, HK12.out.2⟩
end Go.Proofs.Yticfbbigljgjdaa
