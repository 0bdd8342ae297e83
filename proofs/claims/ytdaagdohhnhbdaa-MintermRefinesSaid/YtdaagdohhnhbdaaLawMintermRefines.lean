/- umlautlaw05.MintermRefines: the walk. Any lists, parted by any set, are the document's. Condition: none beyond the row's own. -/
import Derived.Test.YtdaagdohhnhbdaaRefRefine
import Derived.Test.YtdaagdohhnhbdaaSplit
namespace Go.Proofs.Ytdaagdohhnhbdaa
open Go.RowKit
set_option linter.unusedVariables false
set_option linter.unusedSimpArgs false

set_option maxRecDepth 100000 in
set_option maxHeartbeats 16000000 in
theorem MintermRefines_walk (B : Option Addr) (m d : Nat) (L : List Lst3) (A : Option Addr) (n c : Nat) (a : List Sp) (w : World)
    (h : SssIn w B m L) (ha : Spans w A n a) (hwa : SpW a) (hna : n ≤ 9223372036854775807) :
    Calls Try.prog 10 #[.slice B m d, .slice A n c] w fun e w' => e = .returned (.bool true) ∧ Below w.heap.size w w' := by
  obtain rfl := ha.len
  have HG := Lib.hid (great05_any B m d L w h)
  by_cases h1 : 30 < a.length
  · have h1' : (30 : Int) < a.length := by omega
    have HK : Hid (St w w (fun W => True)) := Lib.hid (St.start (fun W hW => trivial))
    clear h ha HG h1
    go_enter Try.func10, Try.ntmps10
    go_wp2_with fail
    refine (awake05_st HK).mono ?_
    rintro e w2 ⟨rfl, HK2⟩
    go_wp2_with fail
    go_ret
    exact ⟨rfl, HK2.out.2⟩
  have h1' : ¬ (30 : Int) < a.length := by omega
  rcases hbig : bigL L with _ | _
  case neg.true =>
    rw [hbig] at HG
    have HK : Hid (St w w (fun W => True)) := Lib.hid (St.start (fun W hW => trivial))
    clear h ha hbig h1
    go_enter Try.func10, Try.ntmps10
    go_wp2_with (go_at_call 38; refine HG.out.mono ?_; rintro e w0 ⟨rfl, rfl⟩)
    refine (awake05_st HK).mono ?_
    rintro e w2 ⟨rfl, HK2⟩
    go_wp2_with fail
    go_ret
    exact ⟨rfl, HK2.out.2⟩
  rw [hbig] at HG
  obtain ⟨rfl, hll⟩ := h.ll hbig
  have h30 := (bigL_no hbig).1
  have H30 : Hid (∀ b ∈ bodies L, b.length < 1048576) := Lib.hid fun b hb => by
    obtain ⟨i, hi, rfl⟩ := List.mem_map.1 hb
    have := (bigL_no hbig).2 i hi
    omega
  have HK : Hid (St w w (fun W => Lst A a W ∧ LL B L W)) := Lib.hid (St.start (fun W hW => ⟨⟨ha.below hW, hwa, by omega⟩, hll W hW⟩))
  have HPL := Lib.hid (parts_len2 a (bodies L) [])
  have hal : a.length < 1048576 := by omega
  clear h ha hll hbig h1 hna
  go_enter Try.func10, Try.ntmps10
  go_wp2_with (go_at_call 38; refine HG.out.mono ?_; rintro e w0 ⟨rfl, rfl⟩)
  refine (Refine_st HK (fun _ h => h.2) (fun _ h => h.1) (by omega) _ _).mono ?_
  rintro e w1 hR
  rcases hR with ⟨hbig, _⟩ | ⟨hsm, A1, c1, O, rfl, HST, HK⟩
  · have := HPL.out
    rw [bodies_length] at this
    simp at this
    omega
  have hol : O.length ≤ 1024 := by
    have := HST.out.len
    rw [bodies_length] at this
    omega
  go_wp2_with fail
  refine (rRefine_st HK (fun _ h => h.2.2) (fun _ h => h.2.1) (by omega) hal H30.out _ _).mono ?_
  rintro e w2 ⟨A2, c2, M, rfl, HSM, hml, HK⟩
  go_wp2_with fail
  refine (LSame_st HK (fun _ h => h.2.1) (fun _ h => h.1) (by omega) (by omega) _ _ (v := true) (by rw [HST.out.unique HSM.out]; simp)).mono ?_
  rintro e w3 ⟨rfl, HK⟩
  go_wp2_with fail
  refine (awake05_st HK).mono ?_
  rintro e w4 ⟨rfl, HK4⟩
  go_wp2_with fail
  go_ret
  exact ⟨rfl, HK4.out.2⟩
end Go.Proofs.Ytdaagdohhnhbdaa
