/- Contract of umlautlaw18.awake: the examples hold. Condition: none. -/
import Derived.Test.YticfbbigljgjdaaTiny
import Derived.Test.YticfbbigljgjdaaPackFits
import Derived.Test.YticfbbigljgjdaaUnpack
import Derived.Test.YticfbbigljgjdaaSameTab
namespace Go.Proofs.Yticfbbigljgjdaa
open Go.RowKit
set_option linter.unusedVariables false
set_option linter.unusedSimpArgs false
theorem tiny_ok : PackOk tinyL := by
  refine ⟨⟨⟨by decide, by decide, by decide, _, rfl, rfl, by decide, by decide⟩, fun c hc => ?_, fun a ha => (by cases ha), fun l hl => ?_, fun n hn => ?_⟩, by decide +kernel⟩
  · have := List.eq_of_mem_replicate hc
    subst this
    decide
  · obtain rfl := List.mem_singleton.1 hl
    decide
  · obtain rfl := List.mem_singleton.1 hn
    refine ⟨⟨by decide, by decide, rfl, by decide, by decide⟩, fun _ => ⟨_, rfl, fun t ht => ?_⟩, fun x hx => ?_⟩
    · obtain rfl := List.mem_singleton.1 ht
      refine ⟨⟨⟨by decide, by decide⟩, ⟨by decide, by decide⟩, ⟨by decide, by decide, by decide, by decide, by decide, by decide, .inl rfl⟩, ⟨fun i p q hp => (by simp at hp), by decide⟩⟩, fun p hp => (by cases hp)⟩
    · obtain rfl := List.mem_singleton.1 hx
      exact .inl rfl
theorem tiny_few : (bodyB tinyL).length ≤ 16777216 := by decide +kernel
theorem tiny_bytes : (packB tinyL).length ≤ 1073741824 := by rw [pack_len]; have := tiny_few; omega
theorem tiny_un : UnpackOk (packB tinyL) ∧ tabOf (packB tinyL) = tinyL := by
  obtain ⟨h1, h2⟩ := good_pack (tiny_ok.fits List.length_replicate (fun x hx => by have := List.eq_of_mem_replicate hx; omega))
  exact ⟨⟨h1, by rw [h2]; exact tiny_ok.1⟩, h2⟩
theorem load_tab {cs : Array Value} (hs : cs.size = 259) (tb : Nat) (W : World) (h : TabBox tb cs W) : (Instr.loadAt 27 (.pointer (some ⟨tb, 0, none⟩))).run Try.prog W = .ok (.agg cs) W := by
  have hl := run_loadAt_mid (P := Try.prog) W tb 0 27 cs.toList _ (fun j v hv => by rw [Nat.zero_add]; exact h.cell1 (by simpa using hv)) Try.underlying27 rfl (by rw [show cs.toList.length = 259 from by simpa using hs]; exact info_tabS)
  simpa using hl
section
variable {w0 w : World} {F : World → Prop}
theorem tab_box {W : World} {cs : Array Value} {G : World → Prop} (hK : Hid (St w0 W G)) (z : Array Value) : Hid (St w0 ((W.alloc (.cells z 27)).setRow W.heap.size cs) (fun V => TabBox W.heap.size cs V ∧ G V)) := by
  have hb : Below W.heap.size W ((W.alloc (.cells z 27)).setRow W.heap.size cs) := below_setRow ((Below.refl _ _).alloc (Nat.le_refl _) _) (Nat.le_refl _) _
  exact Lib.hid (hK.out.add hb fun V hV => TabBox.below (setRow_heap _ _ _ _ _ _ (heap_alloc_new W _)) hV)
theorem exec_load_row {P : Program} {op : Oper} {a : Act} {w : World} (ty : TypeId) (x : Operand) (ho : op.op = .load ty x)
    (g : Nat) (hx : a.eval x = .pointer (some ⟨g, 0, none⟩)) (t : TypeId) (cs : Array Value) (fr : Nat × Nat) (d : TypeDesc) (hS : w.heap[g]? = some (.cells cs t fr))
    (hu : P.underlying ty = some d) (hd : (match d with | .struct _ | .array _ _ => true | _ => false) = true) (hi : (P.info? ty).map (·.size) = some cs.size) : (execOp a.eval op).run P w = .ok (.value (.agg cs)) w := by
  unfold execOp
  simp only [ho, hx, Instr.loadAt, Instr.sureAddr, Sem.run_bind, Sem.run_pure, Result.andThen_ok, run_loadVar_row w g t ty cs fr d hS hu hd hi]
theorem sum_nil (w : World) : Calls Try.prog 12 #[.slice none 0 0] w fun e w' => e = .returned (.int .u32 2166136261) ∧ w = w' := Sum_any none 0 [] w (RowsAt.nil_ _ _ _ _ _)
theorem sum_a (w : World) (t : TypeId) : Calls Try.prog 12 #[.slice (some ⟨w.heap.size, 0, none⟩) 1 1] (w.alloc (.cells #[.int .u8 97] t)) fun e w' => e = .returned (.int .u32 3826002220) ∧ (w.alloc (.cells #[.int .u8 97] t)) = w' :=
  Sum_any (some ⟨w.heap.size, 0, none⟩) 1 [97] _ ⟨sl_block (size := 1) (n := 1) (heap_alloc_new w (.cells #[.int .u8 97] t)) rfl, fun x hx => by obtain rfl := List.mem_singleton.1 hx; omega, by simp⟩
theorem tiny_any (hK : Hid (St w0 w F)) : Calls Try.prog 19 #[] w fun e w' => ∃ cs T, e = .returned (.agg cs) ∧ Hid (TabC cs T ∧ T.L = tinyL) ∧ Hid (St w0 w' (fun W => TabW T W ∧ F W)) :=
  (tiny_st hK).mono fun e w' ⟨b, h1, h2⟩ => ⟨_, _, h1, Lib.hid ⟨tiny_C b, tinyI_L b⟩, h2⟩
set_option maxRecDepth 100000 in
set_option maxHeartbeats 16000000 in
theorem awake18_st (hK : Hid (St w0 w F)) : Calls Try.prog 9 #[] w (RetV w0 (.bool true) F) := by
  obtain ⟨z, hz⟩ : ∃ z, z = zeroT := ⟨_, rfl⟩
  have HZ : Hid ((Try.prog.info? 27).map (fun i => i.zero) = some (some (.agg z))) := Lib.hid (by rw [hz]; exact info_tabZ)
  have HZS : Hid (z.size = 259) := Lib.hid (by rw [hz]; exact zeroT_size)
  clear hz
  go_enter Try.func9, Try.ntmps9
  go_wp2_with fail
  refine (tiny_st hK).mono ?_
  rintro e w1 ⟨tb, rfl, HK1⟩
  have HTC := Lib.hid (tiny_C tb)
  obtain ⟨cs, hcs⟩ : ∃ cs, tinyC tb = cs := ⟨_, rfl⟩
  rw [hcs] at HTC ⊢
  have HHC := Lib.hid hcs
  clear hcs
  go_wp2_with fail
  refine (Pack_st HK1 cs (tinyI tb) HTC.out (fun _ h => h.1) (by rw [tinyI_L]; exact tiny_few)).mono ?_
  rintro e w2 (⟨hno, _⟩ | ⟨_, A, c, hlc, rfl, HK2⟩)
  · exact absurd tiny_ok hno
  have hUC := tiny_un
  rw [← tinyI_L tb] at hUC
  have HUC := Lib.hid hUC
  clear hUC
  generalize hbs : packB (tinyI tb).L = bs at hlc HK2 HUC ⊢
  have hbl : bs.length ≤ 1073741824 := by rw [← hbs, tinyI_L]; exact tiny_bytes
  clear hbs
  go_wp2_with fail
  refine (Unpack_st HK2 A c bs (fun _ h => h.1) hlc hbl).mono ?_
  rintro e w3 ⟨ds, U, v, rfl, HDC, HK3, HSD⟩
  obtain ⟨rfl, hUL⟩ : v = 0 ∧ U.L = tinyL := by
    rcases HSD.out with ⟨h1, h2, h3⟩ | ⟨_, h2, _⟩
    · exact ⟨h1, h3.trans HUC.out.2⟩
    · exact absurd HUC.out.1 h2
  have HUL := Lib.hid hUL
  have HDS : Hid ((Try.prog.info? 27).map (·.size) = some ds.size) := Lib.hid (by rw [HDC.out.size]; exact info_tabS)
  have HD1 := Lib.hid (cells_one HDC.out)
  have HZD : Hid (z.size = ds.size) := Lib.hid (by rw [HZS.out, HDC.out.size])
  clear hUL HSD
  have HK4 := tab_box (cs := ds) HK3 z
  have HLD := Lib.hid (load_tab HDC.out.size)
  go_wp2_with (first
    | (refine wpList_allocZ rfl 27 rfl z HZ.out ?_)
    | (refine wpList_store_row rfl 27 _ _ rfl w3.heap.size ds rfl rfl 27 z (heap_alloc_new w3 _) HDS.out HZD.out HD1.out ?_))
  generalize (w3.alloc (.cells z 27)).setRow w3.heap.size ds = w4 at HK4 ⊢
  generalize w3.heap.size = db at HK4 ⊢
  have HKB : Hid (∀ W, Below w4.heap.size w4 W → Hid (St w0 W (fun V => TabBox db ds V ∧ TabW U V ∧ F V))) := Lib.hid fun W hW => Lib.hid ((HK4.out.step hW).weaken fun _ h => ⟨h.1, h.2.1, h.2.2.2.2⟩)
  clear HK1 HK2 HK3
  clear HZ HD1 HZD
  refine wp_region_held_drew (by kernel_rfl) (S := fun W => TabBox db ds W) (HKB.out _ (below_drewN (Below.refl _ _) 1)).out.now.1 (fun hHeld => ?_)
  refine wpAnyH_ready (rs := [0]) (by kernel_rfl) (by simp) (AllReadyH.cons rfl (fun K hK => ?_) AllReadyH.nil)
  go_simp
  refine (sum_nil _).mono ?_
  rintro e w5 ⟨rfl, rfl⟩
  refine hK.out _ _ ((HKB.out _ (below_drewN (Below.refl _ _) 1)).out.now.1) (fun hHeld => ?_)
  clear hK K
  (try simp only [Act.put, List.getElem_toArray, List.getElem_cons_succ, List.getElem_cons_zero, List.setIfInBounds_toArray, List.set_cons_zero, List.set_cons_succ])
  refine wpAnyH_take (i := 1) (v := ?_) rfl (by kernel_rfl) (by kernel_rfl) (by kernel_rfl) (fun _ _ _ h => h) (Or.inl ⟨by first | kernel_rfl | rfl, ?_⟩) (by assumption) ?_
  rotate_left
  · intro w hSw; (try dsimp only at hSw); go_simp; (try with_reducible rfl)
  (try simp only [Act.put, List.getElem_toArray, List.getElem_cons_succ, List.getElem_cons_zero, List.setIfInBounds_toArray, List.set_cons_zero, List.set_cons_succ])
  refine wpAnyH_take (i := 2) (v := ?_) rfl (by kernel_rfl) (by kernel_rfl) (by kernel_rfl) (fun _ _ _ h => h) (Or.inl ⟨by first | kernel_rfl | rfl, ?_⟩) (by assumption) ?_
  rotate_left
  · intro w hSw; (try dsimp only at hSw); go_simp; (try with_reducible rfl)
  (try simp only [Act.put, List.getElem_toArray, List.getElem_cons_succ, List.getElem_cons_zero, List.setIfInBounds_toArray, List.set_cons_zero, List.set_cons_succ])
  refine wpAnyH_ready (rs := [3]) (by kernel_rfl) (by simp) (AllReadyH.cons rfl (fun K hK => ?_) AllReadyH.nil)
  go_simp
  refine hK.out _ _ ((HKB.out _ ((below_drewN (Below.refl _ _) 1).alloc (Nat.le_refl _) _)).out.now.1) (fun hHeld => ?_)
  clear hK K
  (try simp only [Act.put, List.getElem_toArray, List.getElem_cons_succ, List.getElem_cons_zero, List.setIfInBounds_toArray, List.set_cons_zero, List.set_cons_succ])
  refine wpAnyH_ready (rs := [4]) (by kernel_rfl) (by simp) (AllReadyH.cons rfl (fun K hK => ?_) AllReadyH.nil)
  go_simp
  refine (sum_a (w4.drewN 1) _).mono ?_
  rintro e w5 ⟨rfl, rfl⟩
  refine hK.out _ _ ((HKB.out _ ((below_drewN (Below.refl _ _) 1).alloc (Nat.le_refl _) _)).out.now.1) (fun hHeld => ?_)
  clear hK K
  (try simp only [Act.put, List.getElem_toArray, List.getElem_cons_succ, List.getElem_cons_zero, List.setIfInBounds_toArray, List.set_cons_zero, List.set_cons_succ])
  refine wpAnyH_take (i := 5) (v := ?_) rfl (by kernel_rfl) (by kernel_rfl) (by kernel_rfl) (fun _ _ _ h => h) (Or.inl ⟨by first | kernel_rfl | rfl, ?_⟩) (by assumption) ?_
  rotate_left
  · intro w hSw; (try dsimp only at hSw); go_simp; (try with_reducible rfl)
  (try simp only [Act.put, List.getElem_toArray, List.getElem_cons_succ, List.getElem_cons_zero, List.setIfInBounds_toArray, List.set_cons_zero, List.set_cons_succ])
  refine wpAnyH_take (i := 6) (v := ?_) rfl (by kernel_rfl) (by kernel_rfl) (by kernel_rfl) (fun _ _ _ h => h) (Or.inl ⟨by first | kernel_rfl | rfl, ?_⟩) (by assumption) ?_
  rotate_left
  · intro w hSw; (try dsimp only at hSw); go_simp; (try with_reducible rfl)
  (try simp only [Act.put, List.getElem_toArray, List.getElem_cons_succ, List.getElem_cons_zero, List.setIfInBounds_toArray, List.set_cons_zero, List.set_cons_succ])
  refine wpAnyH_take (i := 7) (v := ?_) rfl (by kernel_rfl) (by kernel_rfl) (by kernel_rfl) (fun _ _ _ h => h) (Or.inl ⟨by first | kernel_rfl | rfl, ?_⟩) (by assumption) ?_
  rotate_left
  · intro w hSw; (try dsimp only at hSw); go_simp; (try with_reducible rfl)
  (try simp only [Act.put, List.getElem_toArray, List.getElem_cons_succ, List.getElem_cons_zero, List.setIfInBounds_toArray, List.set_cons_zero, List.set_cons_succ])
  refine wpAnyH_take (i := 8) (v := ?_) rfl (by kernel_rfl) (by kernel_rfl) (by kernel_rfl) (fun _ _ _ h => h) (Or.inl ⟨by first | kernel_rfl | rfl, ?_⟩) (by assumption) ?_
  rotate_left
  · intro w hSw; (try dsimp only at hSw); go_simp; (try with_reducible rfl)
  (try simp only [Act.put, List.getElem_toArray, List.getElem_cons_succ, List.getElem_cons_zero, List.setIfInBounds_toArray, List.set_cons_zero, List.set_cons_succ])
  refine wpAnyH_take (i := 9) (v := ?_) rfl (by kernel_rfl) (by kernel_rfl) (by kernel_rfl) (fun _ _ _ h => h) (Or.inl ⟨by first | kernel_rfl | rfl, ?_⟩) (by assumption) ?_
  rotate_left
  · intro w hSw; (try dsimp only at hSw); go_simp; (try with_reducible rfl)
  (try simp only [Act.put, List.getElem_toArray, List.getElem_cons_succ, List.getElem_cons_zero, List.setIfInBounds_toArray, List.set_cons_zero, List.set_cons_succ])
  refine wpAnyH_take (i := 10) (v := ?_) rfl (by kernel_rfl) (by kernel_rfl) (by kernel_rfl) (fun _ _ _ h => h) (Or.inl ⟨by first | kernel_rfl | rfl, ?_⟩) (by assumption) ?_
  rotate_left
  · intro w hSw; (try dsimp only at hSw); go_simp; (try with_reducible rfl)
  (try simp only [Act.put, List.getElem_toArray, List.getElem_cons_succ, List.getElem_cons_zero, List.setIfInBounds_toArray, List.set_cons_zero, List.set_cons_succ])
  refine wpAnyH_take (i := 11) (v := ?_) rfl (by kernel_rfl) (by kernel_rfl) (by kernel_rfl) (fun _ _ _ h => h) (Or.inl ⟨by first | kernel_rfl | rfl, ?_⟩) (by assumption) ?_
  rotate_left
  · intro w hSw; (try dsimp only at hSw); go_simp; (try with_reducible rfl)
  (try simp only [Act.put, List.getElem_toArray, List.getElem_cons_succ, List.getElem_cons_zero, List.setIfInBounds_toArray, List.set_cons_zero, List.set_cons_succ])
  refine wpAnyH_take (i := 12) (v := ?_) rfl (by kernel_rfl) (by kernel_rfl) (by kernel_rfl) (fun _ _ _ h => h) (Or.inl ⟨by first | kernel_rfl | rfl, ?_⟩) (by assumption) ?_
  rotate_left
  · intro w hSw; (try dsimp only at hSw); go_simp; (try with_reducible rfl)
  (try simp only [Act.put, List.getElem_toArray, List.getElem_cons_succ, List.getElem_cons_zero, List.setIfInBounds_toArray, List.set_cons_zero, List.set_cons_succ])
  refine wpAnyH_take (i := 13) (v := ?_) rfl (by kernel_rfl) (by kernel_rfl) (by kernel_rfl) (fun _ _ _ h => h) (Or.inl ⟨by first | kernel_rfl | rfl, ?_⟩) (by assumption) ?_
  rotate_left
  · intro w hSw; (try dsimp only at hSw); go_simp; (try with_reducible rfl)
  (try simp only [Act.put, List.getElem_toArray, List.getElem_cons_succ, List.getElem_cons_zero, List.setIfInBounds_toArray, List.set_cons_zero, List.set_cons_succ])
  refine wpAnyH_take (i := 14) (v := ?_) rfl (by kernel_rfl) (by kernel_rfl) (by kernel_rfl) (fun _ _ _ h => h) (Or.inl ⟨by first | kernel_rfl | rfl, ?_⟩) (by assumption) ?_
  rotate_left
  · intro w hSw; (try dsimp only at hSw); go_simp; (try with_reducible rfl)
  (try simp only [Act.put, List.getElem_toArray, List.getElem_cons_succ, List.getElem_cons_zero, List.setIfInBounds_toArray, List.set_cons_zero, List.set_cons_succ])
  refine wpAnyH_take (i := 15) (v := ?_) rfl (by kernel_rfl) (by kernel_rfl) (by kernel_rfl) (fun _ _ _ h => h) (Or.inl ⟨by first | kernel_rfl | rfl, ?_⟩) (by assumption) ?_
  rotate_left
  · intro w hSw; (try dsimp only at hSw); go_simp; (try with_reducible rfl)
  (try simp only [Act.put, List.getElem_toArray, List.getElem_cons_succ, List.getElem_cons_zero, List.setIfInBounds_toArray, List.set_cons_zero, List.set_cons_succ])
  refine wpAnyH_take (i := 16) (v := .agg ds) rfl (by kernel_rfl) (by kernel_rfl) (by kernel_rfl) (fun _ _ _ h => h) (.inl ⟨by kernel_rfl, ?_⟩) (by assumption) ?_
  · intro w hSw
    exact exec_load_row 27 (.tmp 3) rfl db rfl 27 ds (0, 0) _ hSw Try.underlying27 rfl HDS.out
  (try simp only [Act.put, List.getElem_toArray, List.getElem_cons_succ, List.getElem_cons_zero, List.setIfInBounds_toArray, List.set_cons_zero, List.set_cons_succ])
  refine wpAnyH_ready (rs := [17]) (by kernel_rfl) (by simp) (AllReadyH.cons rfl (fun K hK => ?_) AllReadyH.nil)
  go_simp
  refine (tiny_any (HKB.out _ ((below_drewN (Below.refl _ _) 1).alloc (Nat.le_refl _) _))).mono ?_
  rintro e w6 ⟨es, V, rfl, HEC, HK6⟩
  refine hK.out _ _ (HK6.out.now.2.1) (fun hHeld => ?_)
  clear hK K
  (try simp only [Act.put, List.getElem_toArray, List.getElem_cons_succ, List.getElem_cons_zero, List.setIfInBounds_toArray, List.set_cons_zero, List.set_cons_succ])
  refine wpAnyH_ready (rs := [18]) (by kernel_rfl) (by simp) (AllReadyH.cons rfl (fun K hK => ?_) AllReadyH.nil)
  go_simp
  refine (Same17_st HK6 ds es U V HDC.out HEC.out.1 (fun _ h => h.2.2.1) (fun _ h => h.1) (HUL.out.trans HEC.out.2.symm)).mono ?_
  rintro e w7 ⟨rfl, HK7⟩
  refine hK.out _ _ (HK7.out.now.2.1) (fun hHeld => ?_)
  clear hK K
  (try simp only [Act.put, List.getElem_toArray, List.getElem_cons_succ, List.getElem_cons_zero, List.setIfInBounds_toArray, List.set_cons_zero, List.set_cons_succ])
  refine wpAnyH_take (i := 19) (v := ?_) rfl (by kernel_rfl) (by kernel_rfl) (by kernel_rfl) (fun _ _ _ h => h) (Or.inl ⟨by first | kernel_rfl | rfl, ?_⟩) (by assumption) ?_
  rotate_left
  · intro w hSw; (try dsimp only at hSw); go_simp; (try with_reducible rfl)
  (try simp only [Act.put, List.getElem_toArray, List.getElem_cons_succ, List.getElem_cons_zero, List.setIfInBounds_toArray, List.set_cons_zero, List.set_cons_succ])
  refine wpAnyH_take (i := 20) (v := ?_) rfl (by kernel_rfl) (by kernel_rfl) (by kernel_rfl) (fun _ _ _ h => h) (Or.inl ⟨by first | kernel_rfl | rfl, ?_⟩) (by assumption) ?_
  rotate_left
  · intro w hSw; (try dsimp only at hSw); go_simp; (try with_reducible rfl)
  (try simp only [Act.put, List.getElem_toArray, List.getElem_cons_succ, List.getElem_cons_zero, List.setIfInBounds_toArray, List.set_cons_zero, List.set_cons_succ])
  refine wpAnyH_done (by kernel_rfl) ?_ _
  go_wp2_with fail
  go_ret
  exact ⟨rfl, Lib.hid (HK7.out.weaken fun _ h => h.2.2.2)⟩
end
end Go.Proofs.Yticfbbigljgjdaa
