/- umlautlaw18.PackReads: the walk. Any bytes are a table's just if that table, packed, is these bytes. Condition: none beyond the row's own. -/
import Derived.Test.YticfbbigljgjdaaStr18
namespace Go.Proofs.Yticfbbigljgjdaa
open Go.RowKit
set_option linter.unusedVariables false
set_option linter.unusedSimpArgs false
/-- bytes that are a table's: that table may be packed, and gives them again -/
theorem unpack_pack {l : List Int} (hu : U8s l) (h : UnpackOk l) (hl : l.length ≤ 16777216) : packB (tabOf l) = l ∧ (bodyB (tabOf l)).length ≤ 16777216 ∧ RPackOk (tabOf l) := by
  obtain ⟨h1, h2⟩ := pack_good hu h.1
  have hb : (bodyB (tabOf l)).length ≤ 16777216 := by have := pack_len (tabOf l); rw [h1] at this; omega
  have tf : ∀ t : TermL, TermFits t → FitsM t := fun t ⟨a, b, c, d, e, _, f⟩ => ⟨⟨a, b, c, d, e⟩, f⟩
  exact ⟨h1, hb, h.2, fun a ha t ht => tf t ((h2.af a ha).2.2.2 t ht), fun l hl t ht => tf t ((h2.ef l hl).2 t ht)⟩
theorem run_zeroT {P : Program} {t : TypeId} {cs : Array Value} (hz : (P.info? t).map (fun i => i.zero) = some (some (.agg cs))) (w : World) : (zeroValue t).run P w = .ok (.agg cs) w := by
  cases hq : P.info? t with
  | none => simp [hq] at hz
  | some i =>
    have hzz : i.zero = some (.agg cs) := by simpa [hq] using hz
    simp [zeroValue, typeInfo, hq, hzz]
set_option maxRecDepth 100000 in
set_option maxHeartbeats 16000000 in
theorem PackReads_walk (A : Option Addr) (c : Nat) (l : List Int) (w : World) (hs : BytesAt A l w) (hl : l.length ≤ c) (hc : c ≤ 9223372036854775807) :
    Calls Try.prog 5 #[.slice A l.length c] w fun e w' => e = .returned (.bool true) ∧ Below w.heap.size w w' := by
  obtain ⟨z, hz⟩ : ∃ z, z = zeroT := ⟨_, rfl⟩
  have HZ : Hid ((Try.prog.info? 27).map (fun i => i.zero) = some (some (.agg z))) := Lib.hid (by rw [hz]; exact info_tabZ)
  have HZC : Hid (TabC z zeroTab) := Lib.hid (by rw [hz]; exact zeroT_C)
  clear hz
  have HK : Hid (St w w (fun W => BytesAt A l W)) := Lib.hid (St.start (fun W hW => hs.below hW))
  clear hs
  go_enter Try.func5, Try.ntmps5
  by_cases hlen : 262144 < l.length
  · have h1 : (262144 : Int) < l.length := by omega
    go_wp2_with (go_at_call 9; refine (awake18_st HK).mono ?_; rintro e w3 ⟨rfl, HK3⟩)
    go_ret
    exact ⟨rfl, HK3.out.2⟩
  have h1 : decide ((262144 : Int) < l.length) = false := by rw [decide_eq_false_iff_not]; omega
  go_wp2_with fail
  refine (Unpack_st HK A c l (fun _ h => h) hl (by omega)).mono ?_
  rintro e w3 ⟨ds, U, v, rfl, HDC, HK3, HSD⟩
  have HDS : Hid ((Try.prog.info? 27).map (·.size) = some ds.size) := Lib.hid (by rw [HDC.out.size]; exact info_tabS)
  have HD1 := Lib.hid (cells_one HDC.out)
  have HZD : Hid (z.size = ds.size) := Lib.hid (by rw [HZC.out.size, HDC.out.size])
  have HK4 := tab_box (cs := ds) HK3 z
  rcases HSD.out with ⟨rfl, hok, hul⟩ | ⟨rfl, hno, hzt⟩
  · obtain ⟨q1, q2, q3⟩ := unpack_pack HK.out.now.u8 hok (by omega)
    rw [← hul] at q1 q2 q3
    have HQ := Lib.hid (And.intro q1 (And.intro q2 q3))
    clear q1 q2 q3 HSD hok hul
    go_wp2_with (first
      | (refine wpList_allocZ rfl 27 rfl z HZ.out ?_)
      | (refine wpList_store_row rfl 27 _ _ rfl w3.heap.size ds rfl rfl 27 z (heap_alloc_new w3 _) HDS.out HZD.out HD1.out ?_)
      | (refine wpList_load_row rfl 27 _ rfl w3.heap.size rfl _ ds _ _ HK4.out.now.1 Try.underlying27 rfl HDS.out ?_))
    refine (rPack_st HK4 ds U HDC.out (fun _ h => h.2.1) HQ.out.2.1).mono ?_
    rintro e w5 (⟨hno2, _⟩ | ⟨_, A5, c5, rfl, HK5⟩)
    · exact absurd HQ.out.2.2 hno2
    have e1 := bytes_str c HK5.out.now.2.2.2
    have e2 := bytes_str c5 HK5.out.now.1
    rw [HQ.out.1] at e2 ⊢
    go_wp2_with (go_at_call 9; refine (awake18_st HK5).mono ?_; rintro e w6 ⟨rfl, HK6⟩)
    go_ret
    exact ⟨rfl, HK6.out.2⟩
  · subst hzt
    clear HSD
    go_wp2_with (first
      | (refine wpList_allocZ rfl 27 rfl z HZ.out ?_)
      | (refine wpList_store_row rfl 27 _ _ rfl w3.heap.size ds rfl rfl 27 z (heap_alloc_new w3 _) HDS.out HZD.out HD1.out ?_))
    refine wp_load_row 27 _ rfl w3.heap.size rfl _ ds _ _ HK4.out.now.1 Try.underlying27 rfl HDS.out ?_
    have hrz := run_zeroT HZ.out
    go_wp2_with (first
      | (go_at_call 15; refine (Same17_st HK4 ds z zeroTab zeroTab HDC.out HZC.out (fun _ h => h.2.1) (fun _ _ => zeroTab_W _) rfl).mono ?_; rintro e w5 ⟨rfl, HK5⟩)
      | (go_at_call 9; refine (awake18_st HK5).mono ?_; rintro e w6 ⟨rfl, HK6⟩))
    go_ret
    exact ⟨rfl, HK6.out.2⟩
end Go.Proofs.Yticfbbigljgjdaa
