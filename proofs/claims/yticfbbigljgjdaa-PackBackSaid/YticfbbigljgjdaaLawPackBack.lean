/- umlautlaw18.PackBack: the walk. Any right table that is packed is unpacked as it was. Condition: none beyond the row's own. -/
import Derived.Test.YticfbbigljgjdaaStr18
namespace Go.Proofs.Yticfbbigljgjdaa
open Go.RowKit
set_option linter.unusedVariables false
set_option linter.unusedSimpArgs false
/-- what is packed is read again -/
theorem pack_unpack {T : TabI} {cs : Array Value} (hC : TabC cs T) (h : PackOk T.L) : UnpackOk (packB T.L) ∧ tabOf (packB T.L) = T.L := by
  obtain ⟨h1, h2⟩ := good_pack (h.fits hC.ln hC.u8)
  exact ⟨⟨h1, by rw [h2]; exact h.1⟩, h2⟩
set_option maxRecDepth 100000 in
set_option maxHeartbeats 16000000 in
theorem PackBack_walk (cs : Array Value) (T : TabI) (w : World) (hC : TabC cs T) (hT : TabW T w) :
    Calls Try.prog 6 #[.agg cs] w fun e w' => e = .returned (.bool true) ∧ Below w.heap.size w w' := by
  obtain ⟨z, hz⟩ : ∃ z, z = zeroT := ⟨_, rfl⟩
  have HZ : Hid ((Try.prog.info? 27).map (fun i => i.zero) = some (some (.agg z))) := Lib.hid (by rw [hz]; exact info_tabZ)
  have HZC : Hid (TabC z zeroTab) := Lib.hid (by rw [hz]; exact zeroT_C)
  clear hz
  have HK := tab_start (cs := cs) hT
  have HC := Lib.hid hC
  have HI : Hid ((Try.prog.info? 27).map (·.size) = some cs.size) := Lib.hid (by rw [hC.size]; exact info_tabS)
  have HFT : Hid (∀ W, TabBox w.heap.size cs W ∧ TabW T W → TabW T W) := Lib.hid fun W h => h.2
  clear hC hT
  go_enter Try.func6, Try.ntmps6
  by_cases hs : SmallT T.L
  case neg =>
    have HV := Lib.hid (pB_false hs)
    clear hs
    go_wp2_with (first
      | (refine wpList_load_row rfl 27 _ rfl w.heap.size rfl _ cs _ _ HK.out.now.1 Try.underlying27 rfl HI.out ?_)
      | (go_at_call 8; refine (Small_st HK cs T HC.out HFT.out false HV).mono ?_; rintro e w2 ⟨rfl, HK2⟩)
      | (go_at_call 9; refine (awake18_st HK2).mono ?_; rintro e w3 ⟨rfl, HK3⟩))
    go_ret
    exact ⟨rfl, HK3.out.2⟩
  have HV := Lib.hid (pB_true hs)
  have HFEW := Lib.hid (hs.few HC.out.ln)
  clear hs
  go_wp2_with (first
    | (refine wpList_load_row rfl 27 _ rfl w.heap.size rfl _ cs _ _ HK.out.now.1 Try.underlying27 rfl HI.out ?_)
    | (go_at_call 8; refine (Small_st HK cs T HC.out HFT.out true HV).mono ?_; rintro e w2 ⟨rfl, HK2⟩)
    | (refine wpList_load_row rfl 27 _ rfl w.heap.size rfl _ cs _ _ HK2.out.now.1 Try.underlying27 rfl HI.out ?_))
  refine (Pack_st HK2 cs T HC.out HFT.out HFEW.out).mono ?_
  rintro e w3 (⟨hno, rfl, HK3⟩ | ⟨hyes, A, c, hlc, rfl, HK3⟩)
  · go_wp2_with (go_at_call 9; refine (awake18_st HK3).mono ?_; rintro e w5 ⟨rfl, HK5⟩)
    go_ret
    exact ⟨rfl, HK5.out.2⟩
  obtain ⟨hu1, hu2⟩ := pack_unpack HC.out hyes
  have hbl : (packB T.L).length ≤ 1073741824 := by rw [pack_len]; have := HFEW.out; omega
  have HU := Lib.hid (And.intro hu1 hu2)
  have HTO := Lib.hid hyes.1
  clear hu1 hu2 hyes
  generalize packB T.L = bs at HK3 HU hlc hbl ⊢
  go_wp2_with fail
  refine (Unpack_st HK3 A c bs (fun _ h => h.1) hlc hbl).mono ?_
  rintro e w4 ⟨ds, U, v, rfl, HDC, HK4, HSD⟩
  obtain ⟨rfl, hUL⟩ : v = 0 ∧ U.L = T.L := by
    rcases HSD.out with ⟨h1, h2, h3⟩ | ⟨_, h2, _⟩
    · exact ⟨h1, h3.trans HU.out.2⟩
    · exact absurd HU.out.1 h2
  have HUL := Lib.hid hUL
  have HCH : Hid (pB (TabOk U.L) = true) := Lib.hid (pB_true (by rw [hUL]; exact HTO.out))
  have HDS : Hid ((Try.prog.info? 27).map (·.size) = some ds.size) := Lib.hid (by rw [HDC.out.size]; exact info_tabS)
  have HD1 := Lib.hid (cells_one HDC.out)
  have HZD : Hid (z.size = ds.size) := Lib.hid (by rw [HZC.out.size, HDC.out.size])
  have HK5 := tab_box (cs := ds) HK4 z
  clear hUL HSD
  go_wp2_with (first
    | (refine wpList_allocZ rfl 27 rfl z HZ.out ?_)
    | (refine wpList_store_row rfl 27 _ _ rfl w4.heap.size ds rfl rfl 27 z (heap_alloc_new w4 _) HDS.out HZD.out HD1.out ?_))
  refine wp_load_row 27 _ rfl w4.heap.size rfl _ ds _ _ HK5.out.now.1 Try.underlying27 rfl HDS.out ?_
  go_wp2_with fail
  refine wp_load_row 27 _ rfl w.heap.size rfl _ cs _ _ HK5.out.now.2.2.2.1 Try.underlying27 rfl HI.out ?_
  go_wp2_with (go_at_call 15; refine (Same17_st HK5 ds cs U T HDC.out HC.out (fun _ h => h.2.1) (fun _ h => h.2.2.2.2) HUL.out).mono ?_; rintro e w6 ⟨rfl, HK6⟩)
  refine wp_load_row 27 _ rfl w4.heap.size rfl _ ds _ _ HK6.out.now.1 Try.underlying27 rfl HDS.out ?_
  go_wp2_with (first
    | (go_at_call 16; refine (Check_st HK6 ds U HDC.out (fun W h => h.2.1) true HCH).mono ?_; rintro e w7 ⟨rfl, HK7⟩)
    | (go_at_call 9; refine (awake18_st HK7).mono ?_; rintro e w8 ⟨rfl, HK8⟩))
  go_ret
  exact ⟨rfl, HK8.out.2⟩
end Go.Proofs.Yticfbbigljgjdaa
