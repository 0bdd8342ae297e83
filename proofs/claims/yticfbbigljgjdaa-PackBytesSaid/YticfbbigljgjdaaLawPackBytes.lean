/- umlautlaw18.PackBytes: the walk. Any right table's bytes, or that it isn't right. Condition: none beyond the row's own. -/
import Derived.Test.YticfbbigljgjdaaStr18
namespace Go.Proofs.Yticfbbigljgjdaa
open Go.RowKit
set_option linter.unusedVariables false
set_option linter.unusedSimpArgs false
set_option maxRecDepth 100000 in
set_option maxHeartbeats 16000000 in
theorem PackBytes_walk (cs : Array Value) (T : TabI) (w : World) (hC : TabC cs T) (hT : TabW T w) :
    Calls Try.prog 3 #[.agg cs] w fun e w' => e = .returned (.bool true) ∧ Below w.heap.size w w' := by
  have HK := tab_start (cs := cs) hT
  have HC := Lib.hid hC
  have HI : Hid ((Try.prog.info? 27).map (·.size) = some cs.size) := Lib.hid (by rw [hC.size]; exact info_tabS)
  have HFT : Hid (∀ W, TabBox w.heap.size cs W ∧ TabW T W → TabW T W) := Lib.hid fun W h => h.2
  clear hC hT
  go_enter Try.func3, Try.ntmps3
  by_cases hs : SmallT T.L
  case neg =>
    have HV := Lib.hid (pB_false hs)
    clear hs
    go_wp2_with (first
      | (refine wpList_load_row rfl 27 _ rfl w.heap.size rfl _ cs _ _ HK.out.now.1 Try.underlying27 rfl HI.out ?_)
      | (go_at_call 8; refine (Small_st HK cs T HC.out HFT.out false HV).mono ?_; rintro e w2 ⟨rfl, HK2⟩)
      | (go_at_call 9; refine (awake18_st HK2).mono ?_; rintro e w3 ⟨rfl, HK3⟩))
    go_ret
    exact ⟨rfl, HK3.out.2⟩
  have HV := Lib.hid (pB_true hs)
  have HFEW := Lib.hid (hs.few HC.out.ln)
  clear hs
  go_wp2_with (first
    | (refine wpList_load_row rfl 27 _ rfl w.heap.size rfl _ cs _ _ HK.out.now.1 Try.underlying27 rfl HI.out ?_)
    | (go_at_call 8; refine (Small_st HK cs T HC.out HFT.out true HV).mono ?_; rintro e w2 ⟨rfl, HK2⟩)
    | (refine wpList_load_row rfl 27 _ rfl w.heap.size rfl _ cs _ _ HK2.out.now.1 Try.underlying27 rfl HI.out ?_))
  refine (Pack_st HK2 cs T HC.out HFT.out HFEW.out).mono ?_
  rintro e w3 (⟨hno, rfl, HK3⟩ | ⟨hyes, A, c, hlc, rfl, HK3⟩)
  · go_wp2_with (refine wpList_load_row rfl 27 _ rfl w.heap.size rfl _ cs _ _ HK3.out.now.1 Try.underlying27 rfl HI.out ?_)
    refine (rPack_st HK3 cs T HC.out HFT.out HFEW.out).mono ?_
    rintro e w4 (⟨_, rfl, HK4⟩ | ⟨hno2, _⟩)
    · go_wp2_with (go_at_call 9; refine (awake18_st HK4).mono ?_; rintro e w5 ⟨rfl, HK5⟩)
      go_ret
      exact ⟨rfl, HK5.out.2⟩
    · exact absurd ((ok_ok HFEW.out).2 hno2) hno
  · go_wp2_with (refine wpList_load_row rfl 27 _ rfl w.heap.size rfl _ cs _ _ HK3.out.now.2.1 Try.underlying27 rfl HI.out ?_)
    refine (rPack_st HK3 cs T HC.out (fun W h => HFT.out W h.2) HFEW.out).mono ?_
    rintro e w4 (⟨hno, _⟩ | ⟨_, A4, c4, rfl, HK4⟩)
    · exact absurd ((ok_ok HFEW.out).1 hyes) hno
    · have e1 := bytes_str c HK4.out.now.2.1
      have e2 := bytes_str c4 HK4.out.now.1
      generalize packB T.L = bs at e1 e2 HK4 ⊢
      go_wp2_with (go_at_call 9; refine (awake18_st HK4).mono ?_; rintro e w5 ⟨rfl, HK5⟩)
      go_ret
      exact ⟨rfl, HK5.out.2⟩
end Go.Proofs.Yticfbbigljgjdaa
