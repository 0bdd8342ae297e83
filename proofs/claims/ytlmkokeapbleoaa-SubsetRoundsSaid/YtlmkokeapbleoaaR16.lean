/- Contract of umlautlaw20.letters: a description that reads so many a. Condition: fewer than 1000. Contract of umlautlaw20.awake: the document's example comes out. Condition: none. -/
import Derived.Test.YtlmkokeapbleoaaR14
import Derived.Test.YtlmkokeapbleoaaR05
import Derived.Test.YtlmkokeapbleoaaR11
import Derived.Test.YtlmkokeapbleoaaR15
set_option maxRecDepth 100000
set_option maxHeartbeats 64000000
set_option linter.unusedVariables false
set_option linter.unusedSimpArgs false
section
namespace Go.Proofs.Ytlmkokeapbleoaa
open Go.RowKit
section
variable {w0 w : World} {F : World → Prop}
theorem letters_st (hK : Hid (St w0 w F)) (n : Nat) (hn : n ≤ 1000) (b : Bool) :
    Calls Try.prog 4 #[.int .i64 (n : Int), .bool b] w (fun e w' => ∃ (A : Option Addr) (c : Nat) (d : DescI), Hid (d = letDI (w.heap.size + 1 + 1 + 1) A c n (letRs (w.heap.size + 1) (w.heap.size + 1 + 1) n ++ if b = true then [letR (w.heap.size + 1) (w.heap.size + 1 + 1) (n : Int) 0] else [])) ∧ e = .returned (.agg #[.int .i64 d.i, .int .i64 d.o, .int .i64 d.n, .int .i64 d.s, .slice d.ra d.rs.length d.rc, .slice d.fa d.fs.length d.fc]) ∧ Hid (St w0 w' (fun W => DescW d W ∧ F W))) := by
  obtain ⟨j0, ji, jz0, jz1, jz2⟩ := info_parts infoRule
  obtain ⟨w5, hw5⟩ : ∃ z, (((((w.alloc (.cells #[.int .i64 0, .int .i64 0, .int .i64 0, .int .i64 0, .slice none 0 0, .slice none 0 0] 26)).alloc (.cells #[.int .i64 97, .int .i64 97] 35)).alloc (.cells #[.slice (some ⟨w.heap.size + 1, 0, none⟩) 1 1] 36)).alloc (.cells #[.int .i64 (n : Int), .slice none 0 0, .slice none 0 0] 40)).alloc (.cells #[.int .i64 1, .int .i64 1, .int .i64 ((n : Int) + 1), .int .i64 0, .slice none 0 0, .slice (some ⟨w.heap.size + 1 + 1 + 1, 0, none⟩) 1 1] 26)) = z := ⟨_, rfl⟩
  have hL : allocL w [.cells #[.int .i64 0, .int .i64 0, .int .i64 0, .int .i64 0, .slice none 0 0, .slice none 0 0] 26, .cells #[.int .i64 97, .int .i64 97] 35, .cells #[.slice (some ⟨w.heap.size + 1, 0, none⟩) 1 1] 36, .cells #[.int .i64 (n : Int), .slice none 0 0, .slice none 0 0] 40, .cells #[.int .i64 1, .int .i64 1, .int .i64 ((n : Int) + 1), .int .i64 0, .slice none 0 0, .slice (some ⟨w.heap.size + 1 + 1 + 1, 0, none⟩) 1 1] 26] = w5 := hw5
  have h0 := allocL_at [.cells #[.int .i64 0, .int .i64 0, .int .i64 0, .int .i64 0, .slice none 0 0, .slice none 0 0] 26, .cells #[.int .i64 97, .int .i64 97] 35, .cells #[.slice (some ⟨w.heap.size + 1, 0, none⟩) 1 1] 36, .cells #[.int .i64 (n : Int), .slice none 0 0, .slice none 0 0] 40, .cells #[.int .i64 1, .int .i64 1, .int .i64 ((n : Int) + 1), .int .i64 0, .slice none 0 0, .slice (some ⟨w.heap.size + 1 + 1 + 1, 0, none⟩) 1 1] 26] w 0 _ rfl
  have h1 := allocL_at [.cells #[.int .i64 0, .int .i64 0, .int .i64 0, .int .i64 0, .slice none 0 0, .slice none 0 0] 26, .cells #[.int .i64 97, .int .i64 97] 35, .cells #[.slice (some ⟨w.heap.size + 1, 0, none⟩) 1 1] 36, .cells #[.int .i64 (n : Int), .slice none 0 0, .slice none 0 0] 40, .cells #[.int .i64 1, .int .i64 1, .int .i64 ((n : Int) + 1), .int .i64 0, .slice none 0 0, .slice (some ⟨w.heap.size + 1 + 1 + 1, 0, none⟩) 1 1] 26] w 1 _ rfl
  have h2 := allocL_at [.cells #[.int .i64 0, .int .i64 0, .int .i64 0, .int .i64 0, .slice none 0 0, .slice none 0 0] 26, .cells #[.int .i64 97, .int .i64 97] 35, .cells #[.slice (some ⟨w.heap.size + 1, 0, none⟩) 1 1] 36, .cells #[.int .i64 (n : Int), .slice none 0 0, .slice none 0 0] 40, .cells #[.int .i64 1, .int .i64 1, .int .i64 ((n : Int) + 1), .int .i64 0, .slice none 0 0, .slice (some ⟨w.heap.size + 1 + 1 + 1, 0, none⟩) 1 1] 26] w 2 _ rfl
  have h3 := allocL_at [.cells #[.int .i64 0, .int .i64 0, .int .i64 0, .int .i64 0, .slice none 0 0, .slice none 0 0] 26, .cells #[.int .i64 97, .int .i64 97] 35, .cells #[.slice (some ⟨w.heap.size + 1, 0, none⟩) 1 1] 36, .cells #[.int .i64 (n : Int), .slice none 0 0, .slice none 0 0] 40, .cells #[.int .i64 1, .int .i64 1, .int .i64 ((n : Int) + 1), .int .i64 0, .slice none 0 0, .slice (some ⟨w.heap.size + 1 + 1 + 1, 0, none⟩) 1 1] 26] w 3 _ rfl
  have h4 := allocL_at [.cells #[.int .i64 0, .int .i64 0, .int .i64 0, .int .i64 0, .slice none 0 0, .slice none 0 0] 26, .cells #[.int .i64 97, .int .i64 97] 35, .cells #[.slice (some ⟨w.heap.size + 1, 0, none⟩) 1 1] 36, .cells #[.int .i64 (n : Int), .slice none 0 0, .slice none 0 0] 40, .cells #[.int .i64 1, .int .i64 1, .int .i64 ((n : Int) + 1), .int .i64 0, .slice none 0 0, .slice (some ⟨w.heap.size + 1 + 1 + 1, 0, none⟩) 1 1] 26] w 4 _ rfl
  have hB5 := allocL_below [.cells #[.int .i64 0, .int .i64 0, .int .i64 0, .int .i64 0, .slice none 0 0, .slice none 0 0] 26, .cells #[.int .i64 97, .int .i64 97] 35, .cells #[.slice (some ⟨w.heap.size + 1, 0, none⟩) 1 1] 36, .cells #[.int .i64 (n : Int), .slice none 0 0, .slice none 0 0] 40, .cells #[.int .i64 1, .int .i64 1, .int .i64 ((n : Int) + 1), .int .i64 0, .slice none 0 0, .slice (some ⟨w.heap.size + 1 + 1 + 1, 0, none⟩) 1 1] 26] w _ _ (Below.refl _ _) (Nat.le_refl _)
  have hs5 := allocL_size [.cells #[.int .i64 0, .int .i64 0, .int .i64 0, .int .i64 0, .slice none 0 0, .slice none 0 0] 26, .cells #[.int .i64 97, .int .i64 97] 35, .cells #[.slice (some ⟨w.heap.size + 1, 0, none⟩) 1 1] 36, .cells #[.int .i64 (n : Int), .slice none 0 0, .slice none 0 0] 40, .cells #[.int .i64 1, .int .i64 1, .int .i64 ((n : Int) + 1), .int .i64 0, .slice none 0 0, .slice (some ⟨w.heap.size + 1 + 1 + 1, 0, none⟩) 1 1] 26] w
  rw [hL] at h0 h1 h2 h3 h4 hB5 hs5
  simp only [List.length_cons, List.length_nil] at hs5
  have H0 := Lib.hid h0
  have H1 := Lib.hid h1
  have H2 := Lib.hid h2
  have H3 := Lib.hid h3
  have H4 := Lib.hid h4
  have HB5 := Lib.hid hB5
  clear hL h0 h1 h2 h3 h4 hB5
  obtain ⟨z4, hz4⟩ : ∃ z, w.heap.size + 1 + 1 + 1 + 1 = z := ⟨_, rfl⟩
  go_enter Try.func4, Try.ntmps4
  go_wp2_with fail
  (try rw [hw5])
  (try rw [hz4])
  go_loopw [7] (fun iv wr => ∃ (k : Nat) (A : Option Addr) (c : Nat), k ≤ n ∧ iv = .int .i64 k ∧ Hid (wr.heap[z4]? = some (.cells #[.int .i64 1, .int .i64 1, .int .i64 ((n : Int) + 1), .int .i64 0, .slice A k c, .slice (some ⟨w.heap.size + 1 + 1 + 1, 0, none⟩) 1 1] 26 (0, 0))) ∧
    Hid (wr.ownsRow (z4 + 1) 42 5 (.slice A k c) k ((letRs (w.heap.size + 1) (w.heap.size + 1 + 1) k).flatMap ruleC)) ∧ Hid (Below z4 w5 wr) ∧ Hid (z4 + 1 ≤ wr.heap.size)) (fun iv _ => n - (intOf iv).toNat)
  case atStart => exact ⟨0, none, 0, Nat.zero_le _, rfl, Lib.hid (by rw [← hz4]; exact H4.out), Lib.hid (World.ownsRow_nil _ _ _ _), Lib.hid (Below.refl _ _), Lib.hid (by omega)⟩
  case round =>
  obtain ⟨k, A, c, hk, rfl, HD, HO, HB, HS⟩ := hrel
  by_cases hlt : k < n
  · have c4 : wr.cell? ⟨z4, 4, none⟩ = some (.slice A k c) := by
      have := HD.out
      simp [World.cell?, this]
    have hs := HS.out
    have hl40 : k < 1099511627776 := by omega
    have hkn : (k : Int) < (n : Int) := by omega
    clear hw5 hz4
    go_wp2_with (at_builtin; go_must (refine wpList_pushG rfl _ _ 23 rfl (z4 + 1) 42 j0 _ 5 72 Try.underlying23 ji jz0 jz1 jz2 rfl (by decide) HO.out rfl [.int .i64 (k : Int), .int .i64 ((k : Int) + 1), .slice (some ⟨w.heap.size + 1 + 1, 0, none⟩) 1 1, .int .i64 1, .slice none 0 0] 42 (by first | rfl | (simp; rfl) | simp) rfl (by simp [Value.oneCell']) hl40 (by decide) hs ?_); intro A9 c9 w9 HO9 HG9 HN9; (have h9 : w9.heap[z4]? = wr.heap[z4]? := (HG9.out.block _ (by simp; omega) (fun e => by have := (HO.out.lt z4 (by rw [own_ownA]; exact e.symm)).1; omega)).trans (Below.heap_alloc _ _ _ (by omega))); (have h9d := h9.trans HD.out); (have c49 : w9.cell? ⟨z4, 4, none⟩ = some (.slice A k c) := by simp [World.cell?, h9d]); (have f49 : w9.frozen? ⟨z4, 4, none⟩ = false := by simp [World.frozen?, h9d]))
    have HDN : Hid ((w9.setCell ⟨z4, 4, none⟩ (.slice A9 (k + 1) c9)).heap[z4]? = some (.cells #[.int .i64 1, .int .i64 1, .int .i64 ((n : Int) + 1), .int .i64 0, .slice A9 (k + 1) c9, .slice (some ⟨w.heap.size + 1 + 1 + 1, 0, none⟩) 1 1] 26 (0, 0))) := Lib.hid (heap_setCell_same w9 z4 4 _ _ _ h9d)
    have HON : Hid ((w9.setCell ⟨z4, 4, none⟩ (.slice A9 (k + 1) c9)).ownsRow (z4 + 1) 42 5 (.slice A9 (k + 1) c9) (k + 1) ((letRs (w.heap.size + 1) (w.heap.size + 1 + 1) (k + 1)).flatMap ruleC)) := Lib.hid (by
      rw [letRs_succ, List.flatMap_append]
      exact ownsRow_setCell_below HO9.out (by show z4 < z4 + 1; omega) _)
    have HBN : Hid (Below z4 w5 (w9.setCell ⟨z4, 4, none⟩ (.slice A9 (k + 1) c9))) := Lib.hid (((HB.out.alloc (by omega) _).grown HG9.out (by simp; omega) (fun g hg => by have := (HO.out.lt g (by rw [own_ownA]; exact hg)).1; omega)).setCell (p := ⟨z4, 4, none⟩) (Nat.le_refl _) _)
    have HSN : Hid (z4 + 1 ≤ (w9.setCell ⟨z4, 4, none⟩ (.slice A9 (k + 1) c9)).heap.size) := Lib.hid (by
      have := HG9.out.size
      simp at this ⊢
      omega)
    exact ⟨⟨k + 1, A9, c9, by omega, by go_num, HDN, HON, HBN, HSN⟩, by simp [intOf]; omega⟩
  obtain rfl : k = n := by omega
  have hnl : ¬ ((k : Int) < (k : Int)) := by omega
  have hzz : w.heap.size + 4 ≤ z4 := by omega
  clear hw5 hz4
  have hsw := HS.out
  rcases b with _ | _
  · go_upto_region 9 with fail
    have h0 : wr.heap[w.heap.size]? = some (.cells #[.int .i64 0, .int .i64 0, .int .i64 0, .int .i64 0, .slice none 0 0, .slice none 0 0] 26 (0, 0)) := (HB.out.block _ (by omega)).trans H0.out
    have h1 : wr.heap[w.heap.size + 1]? = some (.cells #[.int .i64 97, .int .i64 97] 35 (0, 0)) := (HB.out.block _ (by omega)).trans H1.out
    have h2 : wr.heap[w.heap.size + 1 + 1]? = some (.cells #[.slice (some ⟨w.heap.size + 1, 0, none⟩) 1 1] 36 (0, 0)) := (HB.out.block _ (by omega)).trans H2.out
    have h3 : wr.heap[w.heap.size + 1 + 1 + 1]? = some (.cells #[.int .i64 (k : Int), .slice none 0 0, .slice none 0 0] 40 (0, 0)) := (HB.out.block _ (by omega)).trans H3.out
    have hd := HD.out
    have d0 : wr.cell? ⟨z4, 0, none⟩ = some (.int .i64 1) := by simp [World.cell?, hd]
    have e0 : wr.cell? ⟨w.heap.size, 0, none⟩ = some (.int .i64 0) := by simp [World.cell?, h0]
    have f0 : wr.frozen? ⟨w.heap.size, 0, none⟩ = false := by simp [World.frozen?, h0]
    have d1 : wr.cell? ⟨z4, 1, none⟩ = some (.int .i64 1) := by simp [World.cell?, hd]
    have e1 : wr.cell? ⟨w.heap.size, 1, none⟩ = some (.int .i64 0) := by simp [World.cell?, h0]
    have f1 : wr.frozen? ⟨w.heap.size, 1, none⟩ = false := by simp [World.frozen?, h0]
    have d2 : wr.cell? ⟨z4, 2, none⟩ = some (.int .i64 ((k : Int) + 1)) := by simp [World.cell?, hd]
    have e2 : wr.cell? ⟨w.heap.size, 2, none⟩ = some (.int .i64 0) := by simp [World.cell?, h0]
    have f2 : wr.frozen? ⟨w.heap.size, 2, none⟩ = false := by simp [World.frozen?, h0]
    have d3 : wr.cell? ⟨z4, 3, none⟩ = some (.int .i64 0) := by simp [World.cell?, hd]
    have e3 : wr.cell? ⟨w.heap.size, 3, none⟩ = some (.int .i64 0) := by simp [World.cell?, h0]
    have f3 : wr.frozen? ⟨w.heap.size, 3, none⟩ = false := by simp [World.frozen?, h0]
    have d4 : wr.cell? ⟨z4, 4, none⟩ = some (.slice A (k) c) := by simp [World.cell?, hd]
    have e4 : wr.cell? ⟨w.heap.size, 4, none⟩ = some (.slice none 0 0) := by simp [World.cell?, h0]
    have f4 : wr.frozen? ⟨w.heap.size, 4, none⟩ = false := by simp [World.frozen?, h0]
    have d5 : wr.cell? ⟨z4, 5, none⟩ = some (.slice (some ⟨w.heap.size + 1 + 1 + 1, 0, none⟩) 1 1) := by simp [World.cell?, hd]
    have e5 : wr.cell? ⟨w.heap.size, 5, none⟩ = some (.slice none 0 0) := by simp [World.cell?, h0]
    have f5 : wr.frozen? ⟨w.heap.size, 5, none⟩ = false := by simp [World.frozen?, h0]
    have Hx0 := Lib.hid h0
    have Hx1 := Lib.hid h1
    have Hx2 := Lib.hid h2
    have Hx3 := Lib.hid h3
    clear h0 h1 h2 h3 hd
    go_wp2_with fail
    have hF : ((((((wr.setCell ⟨w.heap.size, 0, none⟩ (.int .i64 1)).setCell ⟨w.heap.size, 1, none⟩ (.int .i64 1)).setCell ⟨w.heap.size, 2, none⟩ (.int .i64 ((k : Int) + 1))).setCell ⟨w.heap.size, 3, none⟩ (.int .i64 0)).setCell ⟨w.heap.size, 4, none⟩ (.slice A (k) c)).setCell ⟨w.heap.size, 5, none⟩ (.slice (some ⟨w.heap.size + 1 + 1 + 1, 0, none⟩) 1 1)).heap[w.heap.size]? = some (.cells #[.int .i64 1, .int .i64 1, .int .i64 ((k : Int) + 1), .int .i64 0, .slice A (k) c, .slice (some ⟨w.heap.size + 1 + 1 + 1, 0, none⟩) 1 1] 26 (0, 0)) := (heap_setCell_same _ w.heap.size 5 _ _ _ (heap_setCell_same _ w.heap.size 4 _ _ _ (heap_setCell_same _ w.heap.size 3 _ _ _ (heap_setCell_same _ w.heap.size 2 _ _ _ (heap_setCell_same _ w.heap.size 1 _ _ _ (heap_setCell_same _ w.heap.size 0 _ _ _ Hx0.out))))))
    have hbw : Below w.heap.size w wr := HB5.out.trans (HB.out.mono (by omega))
    have hbF : Below w.heap.size w ((((((wr.setCell ⟨w.heap.size, 0, none⟩ (.int .i64 1)).setCell ⟨w.heap.size, 1, none⟩ (.int .i64 1)).setCell ⟨w.heap.size, 2, none⟩ (.int .i64 ((k : Int) + 1))).setCell ⟨w.heap.size, 3, none⟩ (.int .i64 0)).setCell ⟨w.heap.size, 4, none⟩ (.slice A (k) c)).setCell ⟨w.heap.size, 5, none⟩ (.slice (some ⟨w.heap.size + 1 + 1 + 1, 0, none⟩) 1 1)) := ((((((hbw.setCell (p := ⟨w.heap.size, 0, none⟩) (Nat.le_refl _) _).setCell (p := ⟨w.heap.size, 1, none⟩) (Nat.le_refl _) _).setCell (p := ⟨w.heap.size, 2, none⟩) (Nat.le_refl _) _).setCell (p := ⟨w.heap.size, 3, none⟩) (Nat.le_refl _) _).setCell (p := ⟨w.heap.size, 4, none⟩) (Nat.le_refl _) _).setCell (p := ⟨w.heap.size, 5, none⟩) (Nat.le_refl _) _)
    have hlo : ∀ j, j ≠ w.heap.size → ((((((wr.setCell ⟨w.heap.size, 0, none⟩ (.int .i64 1)).setCell ⟨w.heap.size, 1, none⟩ (.int .i64 1)).setCell ⟨w.heap.size, 2, none⟩ (.int .i64 ((k : Int) + 1))).setCell ⟨w.heap.size, 3, none⟩ (.int .i64 0)).setCell ⟨w.heap.size, 4, none⟩ (.slice A (k) c)).setCell ⟨w.heap.size, 5, none⟩ (.slice (some ⟨w.heap.size + 1 + 1 + 1, 0, none⟩) 1 1)).heap[j]? = wr.heap[j]? := fun j hj => (heap_setCell_other _ _ _ _ hj).trans ((heap_setCell_other _ _ _ _ hj).trans ((heap_setCell_other _ _ _ _ hj).trans ((heap_setCell_other _ _ _ _ hj).trans ((heap_setCell_other _ _ _ _ hj).trans (heap_setCell_other _ _ _ _ hj)))))
    have hsF : ((((((wr.setCell ⟨w.heap.size, 0, none⟩ (.int .i64 1)).setCell ⟨w.heap.size, 1, none⟩ (.int .i64 1)).setCell ⟨w.heap.size, 2, none⟩ (.int .i64 ((k : Int) + 1))).setCell ⟨w.heap.size, 3, none⟩ (.int .i64 0)).setCell ⟨w.heap.size, 4, none⟩ (.slice A (k) c)).setCell ⟨w.heap.size, 5, none⟩ (.slice (some ⟨w.heap.size + 1 + 1 + 1, 0, none⟩) 1 1)).heap.size = wr.heap.size := by simp
    obtain ⟨wF, hwF⟩ : ∃ z, ((((((wr.setCell ⟨w.heap.size, 0, none⟩ (.int .i64 1)).setCell ⟨w.heap.size, 1, none⟩ (.int .i64 1)).setCell ⟨w.heap.size, 2, none⟩ (.int .i64 ((k : Int) + 1))).setCell ⟨w.heap.size, 3, none⟩ (.int .i64 0)).setCell ⟨w.heap.size, 4, none⟩ (.slice A (k) c)).setCell ⟨w.heap.size, 5, none⟩ (.slice (some ⟨w.heap.size + 1 + 1 + 1, 0, none⟩) 1 1)) = z := ⟨_, rfl⟩
    rw [hwF] at hF hbF hlo hsF ⊢
    have hrl : (letRs (w.heap.size + 1) (w.heap.size + 1 + 1) k ++ []).length = k := by simp [letRs]
    refine bodyPost_ret (v := .agg #[.int .i64 1, .int .i64 1, .int .i64 ((k : Int) + 1), .int .i64 0, .slice A (k) c, .slice (some ⟨w.heap.size + 1 + 1 + 1, 0, none⟩) 1 1]) (results_cell_row rfl _ _ w.heap.size 26 _ (0, 0) _ rfl hF Try.underlying26 rfl infoDescS) rfl ⟨A, c, _, Lib.hid rfl, ?_, Lib.hid (hK.out.add hbF fun V hV => ?_)⟩
    · simp [letDI, letRs]
    · refine let_W ((hV.block _ (by omega)).trans ((hlo _ (by omega)).trans Hx1.out)) ((hV.block _ (by omega)).trans ((hlo _ (by omega)).trans Hx2.out)) ((hV.block _ (by omega)).trans ((hlo _ (by omega)).trans Hx3.out)) ?_ ?_ (by simp [letRs]; omega) (by omega)
      · have hown := own_keep (w' := V) HO.out fun j hj => by
          have ht := own_ty HO.out hj
          exact (hV.block j (by omega)).trans (hlo j (by omega))
        have h9 := Sl.of_own hown
        simpa [letRs] using h9
      · intro r hr
        obtain ⟨i, hi, rfl⟩ := List.mem_map.1 hr
        have := List.mem_range.1 hi
        exact ⟨_, _, rfl, by unfold I64; omega, by unfold I64; omega⟩
  · have c4 : wr.cell? ⟨z4, 4, none⟩ = some (.slice A k c) := by
      have := HD.out
      simp [World.cell?, this]
    have hs := HS.out
    have hl40 : k < 1099511627776 := by omega
    go_upto_region 9 with (at_builtin; go_must (refine wpList_pushG rfl _ _ 23 rfl (z4 + 1) 42 j0 _ 5 72 Try.underlying23 ji jz0 jz1 jz2 rfl (by decide) HO.out rfl [.int .i64 (k : Int), .int .i64 0, .slice (some ⟨w.heap.size + 1 + 1, 0, none⟩) 1 1, .int .i64 1, .slice none 0 0] 42 (by first | rfl | (simp; rfl) | simp) rfl (by simp [Value.oneCell']) hl40 (by decide) hs ?_); intro A9 c9 w9 HO9 HG9 HN9; (have h9 : w9.heap[z4]? = wr.heap[z4]? := (HG9.out.block _ (by simp; omega) (fun e => by have := (HO.out.lt z4 (by rw [own_ownA]; exact e.symm)).1; omega)).trans (Below.heap_alloc _ _ _ (by omega))); (have h9d := h9.trans HD.out); (have c49 : w9.cell? ⟨z4, 4, none⟩ = some (.slice A k c) := by simp [World.cell?, h9d]); (have f49 : w9.frozen? ⟨z4, 4, none⟩ = false := by simp [World.frozen?, h9d]))
    have HDN : Hid ((w9.setCell ⟨z4, 4, none⟩ (.slice A9 (k + 1) c9)).heap[z4]? = some (.cells #[.int .i64 1, .int .i64 1, .int .i64 ((k : Int) + 1), .int .i64 0, .slice A9 (k + 1) c9, .slice (some ⟨w.heap.size + 1 + 1 + 1, 0, none⟩) 1 1] 26 (0, 0))) := Lib.hid (heap_setCell_same w9 z4 4 _ _ _ h9d)
    have HON : Hid ((w9.setCell ⟨z4, 4, none⟩ (.slice A9 (k + 1) c9)).ownsRow (z4 + 1) 42 5 (.slice A9 (k + 1) c9) (k + 1) ((letRs (w.heap.size + 1) (w.heap.size + 1 + 1) k ++ [letR (w.heap.size + 1) (w.heap.size + 1 + 1) (k : Int) 0]).flatMap ruleC)) := Lib.hid (by
      rw [List.flatMap_append]
      exact ownsRow_setCell_below HO9.out (by show z4 < z4 + 1; omega) _)
    have HBN : Hid (Below z4 w5 (w9.setCell ⟨z4, 4, none⟩ (.slice A9 (k + 1) c9))) := Lib.hid (((HB.out.alloc (by omega) _).grown HG9.out (by simp; omega) (fun g hg => by have := (HO.out.lt g (by rw [own_ownA]; exact hg)).1; omega)).setCell (p := ⟨z4, 4, none⟩) (Nat.le_refl _) _)
    have HSN : Hid (z4 + 1 ≤ (w9.setCell ⟨z4, 4, none⟩ (.slice A9 (k + 1) c9)).heap.size) := Lib.hid (by
      have := HG9.out.size
      simp at this ⊢
      omega)
    obtain ⟨wQ, hwQ⟩ : ∃ z, (w9.setCell ⟨z4, 4, none⟩ (.slice A9 (k + 1) c9)) = z := ⟨_, rfl⟩
    rw [hwQ] at HDN HON HBN HSN
    (try rw [hwQ])
    have hsw := HSN.out
    clear hwQ c4 hs HD HO HB HS h9 h9d c49 f49 HO9 HG9 HN9
    have HD := HDN
    have HO := HON
    have HB := HBN
    have h0 : wQ.heap[w.heap.size]? = some (.cells #[.int .i64 0, .int .i64 0, .int .i64 0, .int .i64 0, .slice none 0 0, .slice none 0 0] 26 (0, 0)) := (HB.out.block _ (by omega)).trans H0.out
    have h1 : wQ.heap[w.heap.size + 1]? = some (.cells #[.int .i64 97, .int .i64 97] 35 (0, 0)) := (HB.out.block _ (by omega)).trans H1.out
    have h2 : wQ.heap[w.heap.size + 1 + 1]? = some (.cells #[.slice (some ⟨w.heap.size + 1, 0, none⟩) 1 1] 36 (0, 0)) := (HB.out.block _ (by omega)).trans H2.out
    have h3 : wQ.heap[w.heap.size + 1 + 1 + 1]? = some (.cells #[.int .i64 (k : Int), .slice none 0 0, .slice none 0 0] 40 (0, 0)) := (HB.out.block _ (by omega)).trans H3.out
    have hd := HD.out
    have d0 : wQ.cell? ⟨z4, 0, none⟩ = some (.int .i64 1) := by simp [World.cell?, hd]
    have e0 : wQ.cell? ⟨w.heap.size, 0, none⟩ = some (.int .i64 0) := by simp [World.cell?, h0]
    have f0 : wQ.frozen? ⟨w.heap.size, 0, none⟩ = false := by simp [World.frozen?, h0]
    have d1 : wQ.cell? ⟨z4, 1, none⟩ = some (.int .i64 1) := by simp [World.cell?, hd]
    have e1 : wQ.cell? ⟨w.heap.size, 1, none⟩ = some (.int .i64 0) := by simp [World.cell?, h0]
    have f1 : wQ.frozen? ⟨w.heap.size, 1, none⟩ = false := by simp [World.frozen?, h0]
    have d2 : wQ.cell? ⟨z4, 2, none⟩ = some (.int .i64 ((k : Int) + 1)) := by simp [World.cell?, hd]
    have e2 : wQ.cell? ⟨w.heap.size, 2, none⟩ = some (.int .i64 0) := by simp [World.cell?, h0]
    have f2 : wQ.frozen? ⟨w.heap.size, 2, none⟩ = false := by simp [World.frozen?, h0]
    have d3 : wQ.cell? ⟨z4, 3, none⟩ = some (.int .i64 0) := by simp [World.cell?, hd]
    have e3 : wQ.cell? ⟨w.heap.size, 3, none⟩ = some (.int .i64 0) := by simp [World.cell?, h0]
    have f3 : wQ.frozen? ⟨w.heap.size, 3, none⟩ = false := by simp [World.frozen?, h0]
    have d4 : wQ.cell? ⟨z4, 4, none⟩ = some (.slice A9 (k + 1) c9) := by simp [World.cell?, hd]
    have e4 : wQ.cell? ⟨w.heap.size, 4, none⟩ = some (.slice none 0 0) := by simp [World.cell?, h0]
    have f4 : wQ.frozen? ⟨w.heap.size, 4, none⟩ = false := by simp [World.frozen?, h0]
    have d5 : wQ.cell? ⟨z4, 5, none⟩ = some (.slice (some ⟨w.heap.size + 1 + 1 + 1, 0, none⟩) 1 1) := by simp [World.cell?, hd]
    have e5 : wQ.cell? ⟨w.heap.size, 5, none⟩ = some (.slice none 0 0) := by simp [World.cell?, h0]
    have f5 : wQ.frozen? ⟨w.heap.size, 5, none⟩ = false := by simp [World.frozen?, h0]
    have Hx0 := Lib.hid h0
    have Hx1 := Lib.hid h1
    have Hx2 := Lib.hid h2
    have Hx3 := Lib.hid h3
    clear h0 h1 h2 h3 hd
    go_wp2_with fail
    have hF : ((((((wQ.setCell ⟨w.heap.size, 0, none⟩ (.int .i64 1)).setCell ⟨w.heap.size, 1, none⟩ (.int .i64 1)).setCell ⟨w.heap.size, 2, none⟩ (.int .i64 ((k : Int) + 1))).setCell ⟨w.heap.size, 3, none⟩ (.int .i64 0)).setCell ⟨w.heap.size, 4, none⟩ (.slice A9 (k + 1) c9)).setCell ⟨w.heap.size, 5, none⟩ (.slice (some ⟨w.heap.size + 1 + 1 + 1, 0, none⟩) 1 1)).heap[w.heap.size]? = some (.cells #[.int .i64 1, .int .i64 1, .int .i64 ((k : Int) + 1), .int .i64 0, .slice A9 (k + 1) c9, .slice (some ⟨w.heap.size + 1 + 1 + 1, 0, none⟩) 1 1] 26 (0, 0)) := (heap_setCell_same _ w.heap.size 5 _ _ _ (heap_setCell_same _ w.heap.size 4 _ _ _ (heap_setCell_same _ w.heap.size 3 _ _ _ (heap_setCell_same _ w.heap.size 2 _ _ _ (heap_setCell_same _ w.heap.size 1 _ _ _ (heap_setCell_same _ w.heap.size 0 _ _ _ Hx0.out))))))
    have hbw : Below w.heap.size w wQ := HB5.out.trans (HB.out.mono (by omega))
    have hbF : Below w.heap.size w ((((((wQ.setCell ⟨w.heap.size, 0, none⟩ (.int .i64 1)).setCell ⟨w.heap.size, 1, none⟩ (.int .i64 1)).setCell ⟨w.heap.size, 2, none⟩ (.int .i64 ((k : Int) + 1))).setCell ⟨w.heap.size, 3, none⟩ (.int .i64 0)).setCell ⟨w.heap.size, 4, none⟩ (.slice A9 (k + 1) c9)).setCell ⟨w.heap.size, 5, none⟩ (.slice (some ⟨w.heap.size + 1 + 1 + 1, 0, none⟩) 1 1)) := ((((((hbw.setCell (p := ⟨w.heap.size, 0, none⟩) (Nat.le_refl _) _).setCell (p := ⟨w.heap.size, 1, none⟩) (Nat.le_refl _) _).setCell (p := ⟨w.heap.size, 2, none⟩) (Nat.le_refl _) _).setCell (p := ⟨w.heap.size, 3, none⟩) (Nat.le_refl _) _).setCell (p := ⟨w.heap.size, 4, none⟩) (Nat.le_refl _) _).setCell (p := ⟨w.heap.size, 5, none⟩) (Nat.le_refl _) _)
    have hlo : ∀ j, j ≠ w.heap.size → ((((((wQ.setCell ⟨w.heap.size, 0, none⟩ (.int .i64 1)).setCell ⟨w.heap.size, 1, none⟩ (.int .i64 1)).setCell ⟨w.heap.size, 2, none⟩ (.int .i64 ((k : Int) + 1))).setCell ⟨w.heap.size, 3, none⟩ (.int .i64 0)).setCell ⟨w.heap.size, 4, none⟩ (.slice A9 (k + 1) c9)).setCell ⟨w.heap.size, 5, none⟩ (.slice (some ⟨w.heap.size + 1 + 1 + 1, 0, none⟩) 1 1)).heap[j]? = wQ.heap[j]? := fun j hj => (heap_setCell_other _ _ _ _ hj).trans ((heap_setCell_other _ _ _ _ hj).trans ((heap_setCell_other _ _ _ _ hj).trans ((heap_setCell_other _ _ _ _ hj).trans ((heap_setCell_other _ _ _ _ hj).trans (heap_setCell_other _ _ _ _ hj)))))
    have hsF : ((((((wQ.setCell ⟨w.heap.size, 0, none⟩ (.int .i64 1)).setCell ⟨w.heap.size, 1, none⟩ (.int .i64 1)).setCell ⟨w.heap.size, 2, none⟩ (.int .i64 ((k : Int) + 1))).setCell ⟨w.heap.size, 3, none⟩ (.int .i64 0)).setCell ⟨w.heap.size, 4, none⟩ (.slice A9 (k + 1) c9)).setCell ⟨w.heap.size, 5, none⟩ (.slice (some ⟨w.heap.size + 1 + 1 + 1, 0, none⟩) 1 1)).heap.size = wQ.heap.size := by simp
    obtain ⟨wF, hwF⟩ : ∃ z, ((((((wQ.setCell ⟨w.heap.size, 0, none⟩ (.int .i64 1)).setCell ⟨w.heap.size, 1, none⟩ (.int .i64 1)).setCell ⟨w.heap.size, 2, none⟩ (.int .i64 ((k : Int) + 1))).setCell ⟨w.heap.size, 3, none⟩ (.int .i64 0)).setCell ⟨w.heap.size, 4, none⟩ (.slice A9 (k + 1) c9)).setCell ⟨w.heap.size, 5, none⟩ (.slice (some ⟨w.heap.size + 1 + 1 + 1, 0, none⟩) 1 1)) = z := ⟨_, rfl⟩
    rw [hwF] at hF hbF hlo hsF ⊢
    have hrl : (letRs (w.heap.size + 1) (w.heap.size + 1 + 1) k ++ [letR (w.heap.size + 1) (w.heap.size + 1 + 1) (k : Int) 0]).length = k + 1 := by simp [letRs]
    refine bodyPost_ret (v := .agg #[.int .i64 1, .int .i64 1, .int .i64 ((k : Int) + 1), .int .i64 0, .slice A9 (k + 1) c9, .slice (some ⟨w.heap.size + 1 + 1 + 1, 0, none⟩) 1 1]) (results_cell_row rfl _ _ w.heap.size 26 _ (0, 0) _ rfl hF Try.underlying26 rfl infoDescS) rfl ⟨A9, c9, _, Lib.hid rfl, ?_, Lib.hid (hK.out.add hbF fun V hV => ?_)⟩
    · simp [letDI, letRs]
    · refine let_W ((hV.block _ (by omega)).trans ((hlo _ (by omega)).trans Hx1.out)) ((hV.block _ (by omega)).trans ((hlo _ (by omega)).trans Hx2.out)) ((hV.block _ (by omega)).trans ((hlo _ (by omega)).trans Hx3.out)) ?_ ?_ (by simp [letRs]; omega) (by omega)
      · have hown := own_keep (w' := V) HO.out fun j hj => by
          have ht := own_ty HO.out hj
          exact (hV.block j (by omega)).trans (hlo j (by omega))
        have h9 := Sl.of_own hown
        simpa [letRs] using h9
      · intro r hr
        rcases List.mem_append.1 hr with hr | hr
        · obtain ⟨i, hi, rfl⟩ := List.mem_map.1 hr
          have := List.mem_range.1 hi
          exact ⟨_, _, rfl, by unfold I64; omega, by unfold I64; omega⟩
        · obtain rfl := List.mem_singleton.1 hr
          exact ⟨_, _, rfl, by unfold I64; omega, i64_0⟩
end
end Go.Proofs.Ytlmkokeapbleoaa
end
section
namespace Go.Proofs.Ytlmkokeapbleoaa
open Go.RowKit
open Pairs
section
variable {w0 w : World} {F : World → Prop}
theorem awake20_st (hK : Hid (St w0 w F)) : Calls Try.prog 6 #[] w (RetV w0 (.bool true) F) := by
  go_enter Try.func6, Try.ntmps6
  go_wp2_with fail
  refine (letters_st hK 2 (by omega) false).mono ?_
  rintro e w1 ⟨A1, c1, d1, HD1, rfl, HK1⟩
  go_wp2_with fail
  refine (letters_st HK1 0 (by omega) true).mono ?_
  rintro e w2 ⟨A2, c2, d2, HD2, rfl, HK2⟩
  go_wp2_with fail
  refine (SubSame_st HK2 d1 d2 (fun W h => h.2.1) (fun W h => h.1) 9 (by omega)).mono ?_
  rintro e w3 hr
  have hr := let_ret (n := 2) (m := 0) (a := false) (b := true) HD1.out HD2.out (by omega) (by omega) (by simp) hr
  have e1 : sameP (letDS 2 false) (letDS 0 true) 2 (9 : Int).toNat = .tells [] := awake20_a
  rw [e1] at hr
  rcases hr with ⟨h, _⟩ | ⟨h, _⟩ | ⟨wd, A3, c3, h, _, rfl, HK3⟩
  · cases h
  · cases h
  obtain rfl : [] = wd := by injection h
  have HK3 : Hid (St w0 w3 F) := Lib.hid (HK3.out.weaken fun W h => h.2.2)
  clear h e1 HD1 HD2
  go_wp2_with fail
  refine (letters_st HK3 0 (by omega) true).mono ?_
  rintro e w4 ⟨A4, c4, d4, HD4, rfl, HK4⟩
  go_wp2_with fail
  refine (letters_st HK4 0 (by omega) true).mono ?_
  rintro e w5 ⟨A5, c5, d5, HD5, rfl, HK5⟩
  go_wp2_with fail
  refine (SubSame_st HK5 d4 d5 (fun W h => h.2.1) (fun W h => h.1) 9 (by omega)).mono ?_
  rintro e w6 hr
  have hr := let_ret (n := 0) (m := 0) (a := true) (b := true) HD4.out HD5.out (by omega) (by omega) (by simp) hr
  have e1 : sameP (letDS 0 true) (letDS 0 true) 2 (9 : Int).toNat = .same := awake20_b
  rw [e1] at hr
  rcases hr with ⟨h, rfl, HK6⟩ | ⟨h, _⟩ | ⟨wd, A3, c3, h, _⟩
  rotate_left
  · cases h
  · cases h
  clear h e1
  go_wp2_with fail
  go_ret
  exact ⟨rfl, Lib.hid (HK6.out.weaken fun W h => h.2.2)⟩
end
end Go.Proofs.Ytlmkokeapbleoaa
end
