/- umlautlaw05.MintermSplits: the walk. The blocks of any set that any family tells apart are the document's; or there are too many. Condition: none beyond the row's own. -/
import Derived.Test.YtdaagdohhnhbdaaRefSplit
import Derived.Test.YtdaagdohhnhbdaaMinRow
namespace Go.Proofs.Ytdaagdohhnhbdaa
open Go.RowKit
set_option linter.unusedVariables false
set_option linter.unusedSimpArgs false

set_option maxRecDepth 100000 in
set_option maxHeartbeats 32000000 in
theorem MintermSplits_walk (A : Option Addr) (n c : Nat) (a : List Sp) (B : Option Addr) (m d : Nat) (L : List Lst3) (w : World)
    (ha : Spans w A n a) (hwa : SpW a) (hna : n ≤ 9223372036854775807) (h : SssIn w B m L) :
    Calls Try.prog 9 #[.slice A n c, .slice B m d] w fun e w' => e = .returned (.bool true) ∧ Below w.heap.size w w' := by
  obtain rfl := ha.len
  have HG := Lib.hid (great05_any B m d L w h)
  by_cases h1 : 30 < a.length
  · have h1' : (30 : Int) < a.length := by omega
    have HK : Hid (St w w (fun W => True)) := Lib.hid (St.start (fun W hW => trivial))
    clear h ha HG h1
    go_enter Try.func9, Try.ntmps9
    go_wp2_with fail
    refine (awake05_st HK).mono ?_
    rintro e w2 ⟨rfl, HK2⟩
    go_wp2_with fail
    go_ret
    exact ⟨rfl, HK2.out.2⟩
  have h1' : ¬ (30 : Int) < a.length := by omega
  rcases hbig : bigL L with _ | _
  case neg.true =>
    rw [hbig] at HG
    have HK : Hid (St w w (fun W => True)) := Lib.hid (St.start (fun W hW => trivial))
    clear h ha hbig h1
    go_enter Try.func9, Try.ntmps9
    go_wp2_with (go_at_call 38; refine HG.out.mono ?_; rintro e w0 ⟨rfl, rfl⟩)
    refine (awake05_st HK).mono ?_
    rintro e w2 ⟨rfl, HK2⟩
    go_wp2_with fail
    go_ret
    exact ⟨rfl, HK2.out.2⟩
  rw [hbig] at HG
  obtain ⟨rfl, hll⟩ := h.ll hbig
  have h30 := (bigL_no hbig).1
  have HBL : Hid (∀ s ∈ bodies L, s.length ≤ 30) := Lib.hid fun s hs => by
    unfold bodies at hs
    obtain ⟨i, hi, rfl⟩ := List.mem_map.1 hs
    exact (bigL_no hbig).2 i hi
  have HK : Hid (St w w (fun W => Lst A a W ∧ LL B L W)) := Lib.hid (St.start (fun W hW => ⟨⟨ha.below hW, hwa, by omega⟩, hll W hW⟩))
  obtain ⟨r, HR⟩ := rep_norm a
  have ha30 : a.length ≤ 30 := by omega
  clear h ha hll hbig h1 hna
  go_enter Try.func9, Try.ntmps9
  go_wp2_with (go_at_call 38; refine HG.out.mono ?_; rintro e w0 ⟨rfl, rfl⟩)
  refine (Split_st HK (fun _ h => h.1) (fun _ h => h.2) (by omega) _ _ HR).mono ?_
  rintro e w1 hS
  rcases hS with ⟨hs, rfl, HK1⟩ | ⟨A1, c1, O, hs, hol, rfl, HK1⟩
  · have HS := Lib.hid hs
    clear hs
    go_wp2_with fail
    refine (rSplit_st HK1 (fun _ h => h.1) (fun _ h => h.2) ha30 h30 HBL.out _ _ HR).mono ?_
    rintro e w2 ⟨A2, c2, M, rfl, hM, HBO, HK2⟩
    have hbig : (1024 : Int) < M.length := by
      have h2 := split_told HR.out.1 HBO.out.1 HBO.out.2
      rw [HS.out, bodies_length] at h2
      split at h2
      · omega
      · cases h2
    go_wp2_with fail
    refine (awake05_st HK2).mono ?_
    rintro e w3 ⟨rfl, HK3⟩
    go_wp2_with fail
    go_ret
    exact ⟨rfl, HK3.out.2⟩
  · have HS := Lib.hid hs
    clear hs
    go_wp2_with fail
    refine (rSplit_st HK1 (fun _ h => h.2.1) (fun _ h => h.2.2) ha30 h30 HBL.out _ _ HR).mono ?_
    rintro e w2 ⟨A2, c2, M, rfl, hM, HBO, HK2⟩
    have hsm : ¬ (1024 : Int) < M.length ∧ bodies O = bodies M := by
      have h2 := split_told HR.out.1 HBO.out.1 HBO.out.2
      rw [HS.out, bodies_length] at h2
      split at h2
      · cases h2
      · injection h2 with h2
        exact ⟨by omega, h2⟩
    obtain ⟨hsm, hbo⟩ := hsm
    have hv : decide (bodies O = bodies M) = true := decide_eq_true hbo
    have HV := Lib.hid hv
    clear hbo hv
    go_wp2_with fail
    refine (LSame_st HK2 (fun _ h => h.2.1) (fun _ h => h.1) (by omega) (by omega) _ _ HV.out).mono ?_
    rintro e w3 ⟨rfl, HK3⟩
    go_wp2_with fail
    refine (awake05_st HK3).mono ?_
    rintro e w4 ⟨rfl, HK4⟩
    go_wp2_with fail
    go_ret
    exact ⟨rfl, HK4.out.2⟩
end Go.Proofs.Ytdaagdohhnhbdaa
