/- Contract of umlautlaw18.tiny: a table of one node. Condition: none. -/
import Derived.Test.YticfbbigljgjdaaUnTab
namespace Go.Proofs.Yticfbbigljgjdaa
open Go.RowKit
set_option linter.unusedVariables false
set_option linter.unusedSimpArgs false
def tinyL : TabL := ⟨List.replicate 256 0, [⟨0, [-1], 0⟩], [], [[⟨0, 0, 21, 0, 120, []⟩]]⟩
def tinyI (b : Nat) : TabI := ⟨List.replicate 256 0, some ⟨b + 1, 0, none⟩, 1, [⟨0, some ⟨b, 0, none⟩, 1, [-1], 0⟩], none, 0, [], some ⟨b + 3, 0, none⟩, 1, [⟨some ⟨b + 2, 0, none⟩, 1, [⟨0, 0, 21, 0, 120, none, 0, []⟩]⟩]⟩
theorem tinyI_L (b : Nat) : (tinyI b).L = tinyL := rfl
def tinyC (b : Nat) : Array Value := tabA (List.replicate 256 0) (.slice (some ⟨b + 1, 0, none⟩) 1 1) (.slice none 0 0) (.slice (some ⟨b + 3, 0, none⟩) 1 1)
theorem tiny_C (b : Nat) : TabC (tinyC b) (tinyI b) := tabA_C List.length_replicate (fun x hx => by have := List.eq_of_mem_replicate hx; omega) _ _ [_] _ _ [] _ _ [_]
theorem built_tiny (b : Nat) : Try.prog.built 27 [(1, .slice (some ⟨b + 1, 0, none⟩) 1 1), (3, .slice (some ⟨b + 3, 0, none⟩) 1 1)] = some (tinyC b) := by kernel_rfl
theorem built_tinyL (b : Nat) (l : List (Nat × Value)) (hl : l = [(1, .slice (some ⟨b + 1, 0, none⟩) 1 1), (3, .slice (some ⟨b + 3, 0, none⟩) 1 1)]) : Try.prog.built 27 l = some (tinyC b) := by rw [hl]; exact built_tiny b
theorem info_tiny (b : Nat) : (Try.prog.info? 27).map (·.size) = some (tinyC b).size := by unfold tinyC; rw [tabA_size List.length_replicate]; exact info_tabS
theorem tiny_sz (b : Nat) : zeroT.size = (tinyC b).size := by rw [(tiny_C b).size]; exact zeroT_size
theorem alloc4 (w : World) (o a b c d : Obj) : (((((w.alloc o).alloc a).alloc b).alloc c).alloc d).heap[w.heap.size]? = some o := by
  rw [Below.heap_alloc _ _ _ (by simp; omega), Below.heap_alloc _ _ _ (by simp; omega), Below.heap_alloc _ _ _ (by simp; omega), Below.heap_alloc _ _ _ (by simp)]
  exact heap_alloc_new w o
/-- the result of a function that returns a struct's cells -/
theorem results_row1 {P : Program} {fn : Func} {p : Tmp} {ty : TypeId} (h : fn.results = #[.cell p ty]) (tmps : Array Value) (w : World) (g : Nat) (t : TypeId) (cs : Array Value) (fr : Nat × Nat) (d : TypeDesc)
    (hp : tmps.getD p undef = .pointer (some ⟨g, 0, none⟩)) (hg : w.heap[g]? = some (.cells cs t fr))
    (hu : P.underlying ty = some d) (hd : (match d with | .struct _ | .array _ _ => true | _ => false) = true) (hi : (P.info? ty).map (·.size) = some cs.size) :
    (results fn tmps).run P w = .ok (.agg cs) w := by
  have hp' : tmps[p]?.getD undef = .pointer (some ⟨g, 0, none⟩) := by simpa using hp
  simp [results, h, hp', asAddr, run_loadVar_row w g t ty cs fr d hg hu hd hi]
theorem wpList_buildC {P : Program} {w : World} {ops : Array Oper} {rest : List Oper} {o : Oper} {a : Act} {Q : Exit → Act → World → Prop} (hgd : o.guard = none) (t : TypeId) (parts : Array (Nat × Operand)) (ho : o.op = .build t parts) (cs : Array Value)
    (hz : P.built t (parts.map fun (i, x) => (i, a.eval x)).toList = some cs) (h : wpList P ops Q rest (a.put o.dst (.agg cs)) w) : wpList P ops Q (o :: rest) a w := by
  refine wpList_build hgd t parts ho (by rw [hz]; rfl) ?_
  rw [hz]
  exact h
section
variable {w0 w : World} {F : World → Prop}
theorem sl_block {W : World} {size b n : Nat} {cs : Array Value} {t : TypeId} {fr : Nat × Nat} (h : W.heap[b]? = some (.cells cs t fr)) (hn : cs.toList.length = n * size) : Sl W size (some ⟨b, 0, none⟩) n cs.toList := by
  refine ⟨hn, fun _ => ⟨_, _, rfl, fun j u hu => ?_⟩⟩
  simp only [World.cell?, h]
  simpa using hu
theorem tiny_end (hK : Hid (St w0 w F)) (z C : Array Value) (t0 t1 t2 t3 t4 : TypeId) : Hid (St w0 (((((((w.alloc (.cells z t0)).alloc (.cells #[.int .i64 (-1)] t1)).alloc (.cells #[.int .i64 0, .slice (some ⟨w.heap.size + 1, 0, none⟩) 1 1, .int .i64 0] t2)).alloc
    (.cells #[.int .i64 0, .int .i64 0, .int .i64 21, .int .i64 0, .int .i64 120, .slice none 0 0] t3)).alloc (.cells #[.slice (some ⟨w.heap.size + 1 + 1 + 1, 0, none⟩) 1 1] t4))).setRow w.heap.size C) (fun W => TabW (tinyI (w.heap.size + 1)) W ∧ F W)) := by
  obtain ⟨W, hW⟩ : ∃ W, W = (((((((w.alloc (.cells z t0)).alloc (.cells #[.int .i64 (-1)] t1)).alloc (.cells #[.int .i64 0, .slice (some ⟨w.heap.size + 1, 0, none⟩) 1 1, .int .i64 0] t2)).alloc
    (.cells #[.int .i64 0, .int .i64 0, .int .i64 21, .int .i64 0, .int .i64 120, .slice none 0 0] t3)).alloc (.cells #[.slice (some ⟨w.heap.size + 1 + 1 + 1, 0, none⟩) 1 1] t4))).setRow w.heap.size C) := ⟨_, rfl⟩
  rw [← hW]
  have hb : Below w.heap.size w W := by
    rw [hW]
    refine below_setRow (((((Below.refl _ _).alloc (Nat.le_refl _) _).alloc (by simp) _).alloc (by simp <;> omega) _).alloc (by simp <;> omega) _ |>.alloc (by simp <;> omega) _) (Nat.le_refl _) _
  have b1 : W.heap[w.heap.size + 1]? = some (.cells #[.int .i64 (-1)] t1) := by
    rw [hW, setRow_other _ _ _ _ (by omega), Below.heap_alloc _ _ _ (by simp <;> omega), Below.heap_alloc _ _ _ (by simp <;> omega), Below.heap_alloc _ _ _ (by simp)]
    have := heap_alloc_new (w.alloc (.cells z t0)) (.cells #[.int .i64 (-1)] t1)
    simpa using this
  have b2 : W.heap[w.heap.size + 1 + 1]? = some (.cells #[.int .i64 0, .slice (some ⟨w.heap.size + 1, 0, none⟩) 1 1, .int .i64 0] t2) := by
    rw [hW, setRow_other _ _ _ _ (by omega), Below.heap_alloc _ _ _ (by simp <;> omega), Below.heap_alloc _ _ _ (by simp)]
    have := heap_alloc_new ((w.alloc (.cells z t0)).alloc (.cells #[.int .i64 (-1)] t1)) (.cells #[.int .i64 0, .slice (some ⟨w.heap.size + 1, 0, none⟩) 1 1, .int .i64 0] t2)
    simpa using this
  have b3 : W.heap[w.heap.size + 1 + 1 + 1]? = some (.cells #[.int .i64 0, .int .i64 0, .int .i64 21, .int .i64 0, .int .i64 120, .slice none 0 0] t3) := by
    rw [hW, setRow_other _ _ _ _ (by omega), Below.heap_alloc _ _ _ (by simp)]
    have := heap_alloc_new (((w.alloc (.cells z t0)).alloc (.cells #[.int .i64 (-1)] t1)).alloc (.cells #[.int .i64 0, .slice (some ⟨w.heap.size + 1, 0, none⟩) 1 1, .int .i64 0] t2)) (.cells #[.int .i64 0, .int .i64 0, .int .i64 21, .int .i64 0, .int .i64 120, .slice none 0 0] t3)
    simpa using this
  have b4 : W.heap[w.heap.size + 1 + 1 + 1 + 1]? = some (.cells #[.slice (some ⟨w.heap.size + 1 + 1 + 1, 0, none⟩) 1 1] t4) := by
    rw [hW, setRow_other _ _ _ _ (by omega)]
    have := heap_alloc_new ((((w.alloc (.cells z t0)).alloc (.cells #[.int .i64 (-1)] t1)).alloc (.cells #[.int .i64 0, .slice (some ⟨w.heap.size + 1, 0, none⟩) 1 1, .int .i64 0] t2)).alloc (.cells #[.int .i64 0, .int .i64 0, .int .i64 21, .int .i64 0, .int .i64 120, .slice none 0 0] t3)) (.cells #[.slice (some ⟨w.heap.size + 1 + 1 + 1, 0, none⟩) 1 1] t4)
    simpa using this
  clear hW
  have s1 := sl_block (size := 1) (n := 1) b1 rfl
  have s2 := sl_block (size := 3) (n := 1) b2 rfl
  have s3 := sl_block (size := 6) (n := 1) b3 rfl
  have s4 := sl_block (size := 1) (n := 1) b4 rfl
  refine Lib.hid (hK.out.add hb fun V hV => TabW.below ⟨⟨s2, fun x hx => ?_, (by show 1 ≤ 9223372036854775807; omega)⟩, RowsAt.nil_ _ _ _ _ _, ⟨s4, fun x hx => ?_, (by show 1 ≤ 9223372036854775807; omega)⟩⟩ hV)
  · obtain rfl := List.mem_singleton.1 hx
    exact ⟨⟨by unfold I64; simp, by unfold I64; simp⟩, s1, fun y hy => by obtain rfl := List.mem_singleton.1 hy; unfold I64; simp, by simp⟩
  · obtain rfl := List.mem_singleton.1 hx
    refine ⟨s3, fun y hy => ?_, by simp⟩
    obtain rfl := List.mem_singleton.1 hy
    refine ⟨by unfold I64; simp, RowsAt.nil_ _ _ _ _ _⟩
set_option maxRecDepth 100000 in
set_option maxHeartbeats 16000000 in
theorem tiny_st (hK : Hid (St w0 w F)) : Calls Try.prog 19 #[] w fun e w' => ∃ b, e = .returned (.agg (tinyC b)) ∧ Hid (St w0 w' (fun W => TabW (tinyI b) W ∧ F W)) := by
  obtain ⟨z, hz⟩ : ∃ z, z = zeroT := ⟨_, rfl⟩
  obtain ⟨C, hC⟩ : ∃ C, C = tinyC := ⟨_, rfl⟩
  have HZ : Hid ((Try.prog.info? 27).map (fun i => i.zero) = some (some (.agg z))) := Lib.hid (by rw [hz]; exact info_tabZ)
  have HB : Hid (∀ (b : Nat) (l : List (Nat × Value)), l = [(1, .slice (some ⟨b + 1, 0, none⟩) 1 1), (3, .slice (some ⟨b + 3, 0, none⟩) 1 1)] → Try.prog.built 27 l = some (C b)) := Lib.hid (by rw [hC]; exact built_tinyL)
  have HI : Hid (∀ b, (Try.prog.info? 27).map (·.size) = some (C b).size) := Lib.hid (by rw [hC]; exact info_tiny)
  have HS : Hid (∀ b, z.size = (C b).size) := Lib.hid (by rw [hC, hz]; exact tiny_sz)
  have H1 : Hid (∀ b, (C b).all (·.oneCell') = true) := Lib.hid (by rw [hC]; exact fun b => cells_one (tiny_C b))
  have HC := Lib.hid hC
  clear hz hC
  go_enter Try.func19, Try.ntmps19
  go_wp2_with (first
    | (refine wpList_allocZ rfl 27 rfl z HZ.out ?_)
    | (refine wpList_buildC rfl 27 _ rfl (C (w.heap.size + 1)) (HB.out (w.heap.size + 1) _ (by simp [go_sem])) ?_)
    | (refine wpList_store_row rfl 27 _ _ rfl w.heap.size (C (w.heap.size + 1)) rfl rfl 27 z ?hg (HI.out _) (HS.out _) (H1.out _) ?_; (case hg => (rw [Below.heap_alloc _ _ _ (by simp; omega), Below.heap_alloc _ _ _ (by simp; omega), Below.heap_alloc _ _ _ (by simp; omega), Below.heap_alloc _ _ _ (by simp)]; exact heap_alloc_new w _))))
  refine bodyPost_ret (v := .agg (C (w.heap.size + 1))) (results_row1 rfl _ _ w.heap.size 27 _ (0, 0) _ rfl (setRow_heap _ _ z _ 27 (0, 0) ?hg) Try.underlying27 rfl (HI.out _)) rfl ⟨w.heap.size + 1, by rw [HC.out], tiny_end hK _ _ _ _ _ _ _⟩
  case hg =>
    rw [Below.heap_alloc _ _ _ (by simp; omega), Below.heap_alloc _ _ _ (by simp; omega), Below.heap_alloc _ _ _ (by simp; omega), Below.heap_alloc _ _ _ (by simp)]
    exact heap_alloc_new w _
end
end Go.Proofs.Yticfbbigljgjdaa
