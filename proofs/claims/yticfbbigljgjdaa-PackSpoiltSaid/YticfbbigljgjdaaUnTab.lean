/- Words for a table that is being read: the zero table, its allocation, the state of Unpack between two steps. No function of the program in sight. Condition: none. -/
import Derived.Test.YticfbbigljgjdaaReadTerms
import Derived.Great.Walk
import Derived.Laws.BytesArg
import Derived.Laws.CopyOwn
namespace Go.Proofs.Yticfbbigljgjdaa
open Go.RowKit
set_option linter.unusedVariables false
set_option linter.unusedSimpArgs false
/-- the cells of the zero table -/
def zeroT : Array Value := (List.replicate 256 (Value.int .u8 0) ++ [Value.slice none 0 0, Value.slice none 0 0, Value.slice none 0 0]).toArray
def zeroTab : TabI := ⟨List.replicate 256 0, none, 0, [], none, 0, [], none, 0, []⟩
theorem zrep_at (n : Nat) (tl : List Value) (i : Nat) (x : Int) (h : (List.replicate n (0 : Int))[i]? = some x) : (List.replicate n (Value.int .u8 0) ++ tl).toArray[i]? = some (Value.int .u8 x) := by
  obtain ⟨hi, hx⟩ := List.getElem?_eq_some_iff.1 h
  rw [List.getElem_replicate] at hx
  subst hx
  rw [List.length_replicate] at hi
  rw [List.getElem?_toArray, List.getElem?_append_left (by simpa using hi), List.getElem?_replicate, if_pos hi]
theorem zeroT_size : zeroT.size = 259 := by kernel_rfl
theorem zeroT_C : TabC zeroT zeroTab := by
  refine ⟨zeroT_size, List.length_replicate, fun x hx => ?_, fun i x hx => ?_, by kernel_rfl, by kernel_rfl, by kernel_rfl⟩
  · have := List.eq_of_mem_replicate hx; omega
  · exact zrep_at 256 _ i x hx
theorem info_tabZ : (Try.prog.info? 27).map (fun i => i.zero) = some (some (.agg zeroT)) := by kernel_rfl
theorem info_tabS : (Try.prog.info? 27).map (·.size) = some 259 := by kernel_rfl
theorem info_tabS' : (Try.prog.info? 27).map (·.size) = some zeroT.size := by rw [zeroT_size]; exact info_tabS
theorem built_tab : Try.prog.built 27 [] = some zeroT := by kernel_rfl
section
variable {P : Program} {w : World} {ops : Array Oper} {rest : List Oper} {o : Oper} {a : Act} {Q : Exit → Act → World → Prop}
theorem wpList_allocZ (hgd : o.guard = none) (t : TypeId) (ho : o.op = .alloc t) (cs : Array Value) (hz : (P.info? t).map (fun i => i.zero) = some (some (.agg cs)))
    (h : wpList P ops Q rest (a.put o.dst (.pointer (some ⟨w.heap.size, 0, none⟩))) (w.alloc (.cells cs t))) : wpList P ops Q (o :: rest) a w := by
  refine Great.wpList_runTo hgd o.dst rfl _ _ ?_ h
  cases hq : P.info? t with
  | none => simp [hq] at hz
  | some i =>
    have hzz : i.zero = some (.agg cs) := by simpa [hq] using hz
    unfold execOp
    simp [ho, Instr.alloc, zeroValue, typeInfo, hq, hzz, newVar, newRow, Value.cells]
end
theorem run_conv_str {P : Program} (w : World) (src e : TypeId) (hs : P.underlying src = some (.slice e)) (he : P.underlying e = some (.int .u8)) (A : Option Addr) (n c : Nat) (xs : List Int) (h : Ints .u8 w A n xs) (dst : TypeId) (hd : P.underlying dst = some .string) :
    (convert src dst (.slice A n c)).run P w = .ok (.string (strOfNums xs)) w := by
  rcases Nat.eq_zero_or_pos n with h0 | h0
  · subst h0
    have hx : xs = [] := List.eq_nil_of_length_eq_zero h.len
    subst hx
    cases A with
    | none =>
      rw [run_convert_bytes_nil w src e hs he 0 c dst hd]
      rfl
    | some a =>
      have hl : (loadCells a 0).run P w = .ok (([] : List Int).map (Value.int .u8)).toArray w := by
        have := run_loadCells_list (P := P) w a [] (fun j v hj => by simp at hj)
        simpa using this
      rw [run_convert_bytes_string w src dst e _ 0 c hs he hd, run_bytesToString w _ 0 c [] hl, foldl_push_bytes]
      rfl
  · obtain ⟨b, off, x0, rfl, _, _⟩ := h.at_ h0
    refine run_convert_bytes_arg w src e hs he b off n c xs h.len (fun i hi => ?_) dst hd
    obtain ⟨b', off', x, hA, hx, hc⟩ := h.at_ hi
    cases hA
    rw [hc, List.getD_eq_getElem?_getD, hx]; rfl
section
variable {P : Program} {w : World} {ops : Array Oper} {rest : List Oper} {o : Oper} {a : Act} {Q : Exit → Act → World → Prop}
theorem wpList_buildZ (hgd : o.guard = none) (t : TypeId) (ho : o.op = .build t #[]) (cs : Array Value) (hz : P.built t [] = some cs)
    (h : wpList P ops Q rest (a.put o.dst (.agg cs)) w) : wpList P ops Q (o :: rest) a w := by
  refine wpList_build hgd t #[] ho (by simp [hz]) ?_
  simpa [hz] using h
/-- the whole of a block, at a guarded operation -/
theorem wpList_load_rowG (hw : Region.wanted o (yielded ops a.tmps) = true) (ty : TypeId) (x : Operand) (ho : o.op = .load ty x) (g : Nat) (hx : a.eval x = .pointer (some ⟨g, 0, none⟩))
    (t : TypeId) (cs : Array Value) (fr : Nat × Nat) (d : TypeDesc) (hg : w.heap[g]? = some (.cells cs t fr))
    (hu : P.underlying ty = some d) (hd : (match d with | .struct _ | .array _ _ => true | _ => false) = true) (hi : (P.info? ty).map (·.size) = some cs.size)
    (h : wpList P ops Q rest (a.put o.dst (.agg cs)) w) : wpList P ops Q (o :: rest) a w :=
  wpList_step fun K hK => by rw [if_pos hw]; exact wp_load_row ty x ho g hx t cs fr d hg hu hd hi (hK _ _ h)
end
/-- the result of a function that returns a struct's cells and a number -/
theorem results_row2 {P : Program} {fn : Func} {p q : Tmp} {ty : TypeId} (h : fn.results = #[.cell p ty, .tmp q]) (tmps : Array Value) (w : World) (g : Nat) (t : TypeId) (cs : Array Value) (fr : Nat × Nat) (d : TypeDesc) (v : Value)
    (hp : tmps.getD p undef = .pointer (some ⟨g, 0, none⟩)) (hq : tmps.getD q undef = v) (hg : w.heap[g]? = some (.cells cs t fr))
    (hu : P.underlying ty = some d) (hd : (match d with | .struct _ | .array _ _ => true | _ => false) = true) (hi : (P.info? ty).map (·.size) = some cs.size) :
    (results fn tmps).run P w = .ok (.tuple #[.agg cs, v]) w := by
  have hp' : tmps[p]?.getD undef = .pointer (some ⟨g, 0, none⟩) := by simpa using hp
  have hq' : tmps[q]?.getD undef = v := by simpa using hq
  simp [results, h, hp', hq', asAddr, run_loadVar_row w g t ty cs fr d hg hu hd hi]
theorem mark_yes {l : List Int} (h : l.take 5 = markB) : ((strOfNums (List.take 5 l)).toList == [117, 109, 108, 116, 49]) = true := by
  rw [h, ByteArray.toList_eq]; rfl
theorem mark_no {l : List Int} (hu : U8s l) (h : ¬ l.take 5 = markB) : ((strOfNums (List.take 5 l)).toList == [117, 109, 108, 116, 49]) = false := by
  rw [beq_eq_false_iff_ne]
  intro e
  rw [ByteArray.toList_eq, strOfNums_data] at e
  apply h
  have e2 := congrArg (List.map fun u : UInt8 => (u.toNat : Int)) e
  rw [List.map_map] at e2
  have e3 : ∀ L : List Int, U8s L → L.map ((fun u : UInt8 => (u.toNat : Int)) ∘ fun n => UInt8.ofNat n.toNat) = L := fun L hL => by
    refine (List.map_congr_left fun x hx => ?_).trans (List.map_id L)
    have := hL x hx
    simp only [Function.comp, id, UInt8.toNat_ofNat']
    omega
  rw [e3 _ (fun x hx => hu x (List.mem_of_mem_take hx))] at e2
  exact e2
/-- the last four bytes are the check just if the number that is read of them is it -/
theorem tail_iff {t : List Int} (hu : U8s t) (ht : t.length = 4) (s : Nat) (hs : s < 4294967296) : ((rNum (t, false)).1 % 4294967296 = (s : Int)) ↔ t = numB s := by
  rcases t with _ | ⟨a, _ | ⟨b, _ | ⟨c, _ | ⟨d, _ | ⟨e, t⟩⟩⟩⟩⟩ <;> simp at ht
  have ha := hu a (by simp); have hb := hu b (by simp); have hc := hu c (by simp); have hd := hu d (by simp)
  show unB a b c d % 4294967296 = (s : Int) ↔ [a, b, c, d] = numB s
  have e1 : unB a b c d % 4294967296 = a * 16777216 + b * 65536 + c * 256 + d := by unfold unB; split <;> omega
  rw [e1]
  simp only [numB, List.cons.injEq, and_true]
  omega
theorem Sum_n (A : Option Addr) (c n : Nat) (l : List Int) (w : World) (h : BytesAt A l w) (hn : l.length = n) : Calls Try.prog 12 #[.slice A n c] w fun e w' => e = .returned (.int .u32 (fnvL l : Nat)) ∧ w = w' := by
  subst hn; exact Sum_any A c l w h
theorem bytes_take {W : World} {A : Option Addr} {k : Nat} {L : List Int} (h : BytesAt A L W) (hk : k ≤ L.length) : BytesAt A (L.take k) W := by
  refine ⟨?_, fun x hx => h.it x (List.mem_of_mem_take hx), by have := h.ln; rw [List.length_take]; omega⟩
  have h1 := h.sl
  rw [bytes_cells] at h1 ⊢
  have h2 := Ints.take (k := .u8) (xs := L) h1 hk
  rw [List.length_take, Nat.min_eq_left hk]
  exact h2
/-- a table's cells: its classes, its three lists -/
def tabA (cl : List Int) (v1 v2 v3 : Value) : Array Value := (cl.map (Value.int .u8) ++ [v1, v2, v3]).toArray
section
variable {cl : List Int} {v1 v2 v3 v : Value}
theorem tabA_size (h : cl.length = 256) : (tabA cl v1 v2 v3).size = 259 := by simp [tabA, h]
theorem tabA_at (h : cl.length = 256) {i : Nat} (hi : i < 3) : (tabA cl v1 v2 v3)[256 + i]? = [v1, v2, v3][i]? := by
  simp only [tabA, List.getElem?_toArray]
  rw [List.getElem?_append_right (by simp [h]), List.length_map, h, Nat.add_sub_cancel_left]
theorem tabA_set (h : cl.length = 256) (i : Nat) : (tabA cl v1 v2 v3).setIfInBounds (256 + i) v = (cl.map (Value.int .u8) ++ [v1, v2, v3].set i v).toArray := by
  simp only [tabA, List.setIfInBounds_toArray]
  rw [List.set_append_right _ _ (by simp [h]), List.length_map, h, Nat.add_sub_cancel_left]
theorem tabA_s1 (h : cl.length = 256) : (tabA cl v1 v2 v3).setIfInBounds 256 v = tabA cl v v2 v3 := tabA_set h 0
theorem tabA_s2 (h : cl.length = 256) : (tabA cl v1 v2 v3).setIfInBounds 257 v = tabA cl v1 v v3 := tabA_set h 1
theorem tabA_s3 (h : cl.length = 256) : (tabA cl v1 v2 v3).setIfInBounds 258 v = tabA cl v1 v2 v := tabA_set h 2
theorem tabA_a1 (h : cl.length = 256) : (tabA cl v1 v2 v3)[256]? = some v1 := tabA_at (i := 0) h (by omega)
theorem tabA_a2 (h : cl.length = 256) : (tabA cl v1 v2 v3)[257]? = some v2 := tabA_at (i := 1) h (by omega)
theorem tabA_a3 (h : cl.length = 256) : (tabA cl v1 v2 v3)[258]? = some v3 := tabA_at (i := 2) h (by omega)
theorem tabA_zero : zeroT = tabA zeroTab.cls (.slice none 0 0) (.slice none 0 0) (.slice none 0 0) := by
  unfold zeroT tabA zeroTab
  rw [List.map_replicate]
theorem tabA_C (h : cl.length = 256) (hu : U8s cl) (na : Option Addr) (nc : Nat) (ns : List NodeI) (aa : Option Addr) (ac : Nat) (acts : List ActI) (ea : Option Addr) (ec : Nat) (es : List OutI) :
    TabC (tabA cl (.slice na ns.length nc) (.slice aa acts.length ac) (.slice ea es.length ec)) ⟨cl, na, nc, ns, aa, ac, acts, ea, ec, es⟩ := by
  refine ⟨tabA_size h, h, hu, fun i x hx => ?_, tabA_at (i := 0) h (by omega), tabA_at (i := 1) h (by omega), tabA_at (i := 2) h (by omega)⟩
  simp only [tabA, List.getElem?_toArray]
  have hi := (List.getElem?_eq_some_iff.1 hx).1
  have hx' : cl[i]? = some x := hx
  rw [List.getElem?_append_left (by simpa using hi), List.getElem?_map, hx']
  rfl
theorem cells_one {cs : Array Value} {T : TabI} (h : TabC cs T) : cs.all (·.oneCell') = true := by
  refine Array.all_eq_true.2 fun i hi => ?_
  have hs := h.size
  have hg : cs[i]? = some cs[i] := Array.getElem?_eq_getElem hi
  by_cases h1 : i < 256
  · have hx : T.cls[i]? = some (T.cls[i]'(by rw [h.ln]; exact h1)) := List.getElem?_eq_getElem _
    rw [h.cl i _ hx] at hg
    injection hg with hg
    rw [← hg]; rfl
  · by_cases h2 : i = 256
    · subst h2; rw [h.c1] at hg; injection hg with hg; rw [← hg]; rfl
    · by_cases h3 : i = 257
      · subst h3; rw [h.c2] at hg; injection hg with hg; rw [← hg]; rfl
      · obtain rfl : i = 258 := by omega
        rw [h.c3] at hg; injection hg with hg; rw [← hg]; rfl
end
/-- the result's cells are as they were made; nothing of the caller has changed -/
structure RZ (w W : World) : Prop where
  res : W.heap[w.heap.size]? = some (.cells zeroT 27 (0, 0))
  bl : Below w.heap.size w W
section
variable {w W W' : World} {rb : Nat} {A : Option Addr} {c : Nat} {s : RdL}
theorem RZ.lt (h : RZ w W) : w.heap.size < W.heap.size := (Array.getElem?_eq_some_iff.1 h.res).1
theorem RZ.start (w : World) : RZ w (w.alloc (.cells zeroT 27)) := ⟨heap_alloc_new w _, (Below.refl _ _).alloc (Nat.le_refl _) _⟩
theorem RZ.alloc (h : RZ w W) (o : Obj) : RZ w (W.alloc o) := ⟨(Below.heap_alloc _ _ _ h.lt).trans h.res, h.bl.alloc h.bl.size o⟩
theorem RZ.drewN (h : RZ w W) (q : Nat) : RZ w (W.drewN q) := ⟨h.res, below_drewN h.bl q⟩
theorem RZ.only (h : RZ w W) (hr : w.heap.size < rb) (ho : Only rb none W W') : RZ w W' :=
  ⟨by rw [ho.block _ h.lt (by omega) (by simp)]; exact h.res, h.bl.trans (ho.below (by omega) (fun g hg => by cases hg) h.bl.size)⟩
theorem num_rz (hr : w.heap.size < rb) (h : Hid (Rd W w.heap.size rb A c s)) (hz : Hid (RZ w W)) :
    Calls Try.prog 26 #[.pointer (some ⟨rb, 0, none⟩)] W (fun e w' => e = .returned (.int .i64 (rNum s).1) ∧ ∃ A' c', Hid (Rd w' w.heap.size rb A' c' (rNum s).2) ∧ Hid (RZ w w')) :=
  (rd_num w.heap.size rb A c s W h).mono fun e w' ⟨h1, A', c', h2, h3⟩ => ⟨h1, A', c', h2, Lib.hid (hz.out.only hr h3.out)⟩
/-- the reader over the last four bytes, over what lies between mark and check -/
theorem Rd.fresh {gb go : Nat} {L : List Int} {n c' : Nat} (hB : BytesAt (some ⟨gb, go, none⟩) L W) (hgb : gb < w.heap.size) (hz : w.heap.size ≤ W.heap.size) (hn : L.length = n) (hc : n ≤ c') :
    Rd (W.alloc (.cells #[.slice (some ⟨gb, go, none⟩) n c', .bool false] 64)) w.heap.size W.heap.size (some ⟨gb, go, none⟩) c' (L, false) := by
  subst hn
  refine ⟨heap_alloc_new W _, bytes_keep hB (fun g hg => ?_), hc, hz, fun g hg => ?_⟩
  · injection hg with hg; subst hg; exact Below.heap_alloc _ _ _ (by show gb < _; omega)
  · injection hg with hg; subst hg; exact hgb
theorem rNum_four {s : RdL} (h : 4 ≤ s.1.length) : (rNum s).2.1.length + 4 = s.1.length ∧ (rNum s).2.2 = s.2 := by
  obtain ⟨l, b⟩ := s
  rcases l with _ | ⟨x0, _ | ⟨x1, _ | ⟨x2, _ | ⟨x3, l⟩⟩⟩⟩
  · simp at h
  · simp at h
  · simp at h
  · simp at h
  · exact ⟨rfl, rfl⟩
theorem h4_len {s : RdL} (h : 16 ≤ s.1.length) : (h4 s).1.length + 16 = s.1.length ∧ (h4 s).2 = s.2 := by
  obtain ⟨a1, b1⟩ := rNum_four (s := s) (by omega)
  obtain ⟨a2, b2⟩ := rNum_four (s := h1 s) (by unfold h1; omega)
  obtain ⟨a3, b3⟩ := rNum_four (s := h2 s) (by unfold h2; have : (h1 s).1.length = (rNum s).2.1.length := rfl; omega)
  obtain ⟨a4, b4⟩ := rNum_four (s := h3 s) (by unfold h3; have : (h2 s).1.length = (rNum (h1 s)).2.1.length := rfl; have : (h1 s).1.length = (rNum s).2.1.length := rfl; omega)
  have e1 : (h1 s).1.length = (rNum s).2.1.length := rfl
  have e2 : (h2 s).1.length = (rNum (h1 s)).2.1.length := rfl
  have e3 : (h3 s).1.length = (rNum (h2 s)).2.1.length := rfl
  have e4 : (h4 s).1.length = (rNum (h3 s)).2.1.length := rfl
  exact ⟨by omega, b4.trans (b3.trans (b2.trans b1))⟩
end
section
variable {P : Program} {ops : Array Oper} {o : Oper} {a : Act} {w : World} {K : Act → World → Prop} {Q : Exit → Act → World → Prop} {E : Prop}
/-- copy, as a step of a region that draws its order -/
theorem step_copyW (hgd : o.guard = none) (d s : Operand) (dT sT : TypeId) (ho : o.op = .call { callee := .builtin .copy, args := #[d, s], argTypes := #[dT, sT] }) (elem : TypeId) (hu : P.underlying dT = some (.slice elem))
    (hsz : (P.info? elem).map (·.size) = some 1) (g off dLen dCap sLen sCap n : Nat) (ad : Addr) (hd : a.eval d = .slice (some ⟨g, off, none⟩) dLen dCap) (hs : a.eval s = .slice (some ad) sLen sCap)
    (cur : Array Value) (t : TypeId) (hg : w.heap[g]? = some (.cells cur t (0, 0))) (cs : List Value) (hn : cs.length = n) (hm : n = Nat.min sLen dLen) (hsrc : ∀ j v, cs[j]? = some v → w.cell? (ad.add j) = some v)
    (hfit : off + n ≤ cur.size) (h1 : ∀ v ∈ cs, v.oneCell' = true) (new : Array Value) (hnew : (cur.toList.take off ++ cs ++ cur.toList.drop (off + n)).toArray = new)
    (h : ∀ w', Hid (w' = w.setRow g new) → K (a.put o.dst (.int .i64 n)) w') : if Region.wanted o (yielded ops a.tmps) = true then Oper.wp P o a w K Q else E := by
  have hw : Region.wanted o (yielded ops a.tmps) = true := by simp [Region.wanted, hgd]
  rw [if_pos hw]
  subst hn
  have hrun := run_copy_row (P := P) w dT sT o.type elem g off dLen dCap ad sLen sCap cur t cs hu hsz hg hm hsrc hfit h1
  unfold Oper.wp
  simp [execOp, ho, resolve, invoke, builtin, hd, hs, hrun, Result.andThen]
  subst hnew
  have h2 : K (a.put o.dst (.int .i64 cs.length)) (w.setRow g (List.take off cur.toList ++ (cs ++ List.drop (off + cs.length) cur.toList)).toArray) := by simpa using h _ (Lib.hid rfl)
  exact h2
end
/-- Unpack's memory between two steps: the reader, the result's cells, the table's cells -/
structure US (w W : World) (rb tb : Nat) (A : Option Addr) (c : Nat) (s : RdL) (cs : Array Value) : Prop where
  rd : Rd W w.heap.size rb A c s
  res : W.heap[w.heap.size]? = some (.cells zeroT 27 (0, 0))
  tab : W.heap[tb]? = some (.cells cs 27 (0, 0))
  bl : Below w.heap.size w W
  l1 : w.heap.size < rb
  l2 : rb < tb
theorem quo_yes {n : Nat} {K N : Int} (hK : 1 ≤ K) (hN : 1 ≤ N) (h : (n : Int) / (8 + 4 * K) < N) : n < N.toNat * (8 + 4 * K.toNat) := by
  have h1 := (Int.ediv_lt_iff_lt_mul (by omega)).1 h
  obtain ⟨k, rfl⟩ := Int.eq_ofNat_of_zero_le (show 0 ≤ K by omega)
  obtain ⟨m, rfl⟩ := Int.eq_ofNat_of_zero_le (show 0 ≤ N by omega)
  simp only [Int.toNat_natCast]
  have e : ((m : Int) * (8 + 4 * (k : Int))) = ((m * (8 + 4 * k) : Nat) : Int) := by push_cast; rfl
  rw [e] at h1
  omega
theorem quo_no {n : Nat} {K N : Int} (hK : 1 ≤ K) (hN : 1 ≤ N) (h : N ≤ (n : Int) / (8 + 4 * K)) : ¬ n < N.toNat * (8 + 4 * K.toNat) := by
  have h1 := (Int.le_ediv_iff_mul_le (by omega)).1 h
  obtain ⟨k, rfl⟩ := Int.eq_ofNat_of_zero_le (show 0 ≤ K by omega)
  obtain ⟨m, rfl⟩ := Int.eq_ofNat_of_zero_le (show 0 ≤ N by omega)
  simp only [Int.toNat_natCast]
  have e : ((m : Int) * (8 + 4 * (k : Int))) = ((m * (8 + 4 * k) : Nat) : Int) := by push_cast; rfl
  rw [e] at h1
  omega
theorem wrap_quo {n : Nat} {K : Int} (hK : 1 ≤ K) (hn : n ≤ 1073741824) : wrap64 ((n : Int) / (8 + 4 * K)) = (n : Int) / (8 + 4 * K) := by
  have h1 : 0 ≤ (n : Int) / (8 + 4 * K) := Int.ediv_nonneg (by omega) (by omega)
  have h2 : (n : Int) / (8 + 4 * K) ≤ n := Int.ediv_le_self _ (by omega)
  generalize (n : Int) / (8 + 4 * K) = z at h1 h2 ⊢
  unfold wrap64
  omega
theorem int_cells (l : List Int) : l.flatMap (fun x => [Value.int .i64 x]) = l.map (Value.int .i64) := by
  induction l with
  | nil => rfl
  | cons x l ih => rw [List.flatMap_cons, ih]; rfl
theorem rNums_w (n : Nat) {s : RdL} (h : U8s s.1) : ∀ x ∈ (rList rNum n s).1, I64 x := by
  induction n generalizing s with
  | zero => intro p hp; cases hp
  | succ n ih =>
    intro p hp
    rcases List.mem_cons.1 hp with rfl | hp
    · exact (rNum_i32 h).i64
    · exact ih (rNum_u8 h) p hp
/-- blocks that stay as they are -/
def Same (n1 n2 : Nat) (W W' : World) : Prop := ∀ k, n1 ≤ k → k < n2 → W'.heap[k]? = W.heap[k]?
section
variable {n1 n2 rb : Nat} {a b c : World}
theorem Same.refl (n1 n2 : Nat) (w : World) : Same n1 n2 w w := fun _ _ _ => rfl
theorem Same.only (h : Same n1 n2 a b) (hs : n2 ≤ b.heap.size) (hr : rb < n1) (ho : Only rb none b c) : Same n1 n2 a c := fun k h1 h2 => (ho.block k (by omega) (by omega) (by simp)).trans (h k h1 h2)
theorem Same.alloc (h : Same n1 n2 a b) (hs : n2 ≤ b.heap.size) (o : Obj) : Same n1 n2 a (b.alloc o) := fun k h1 h2 => (Below.heap_alloc _ _ _ (by omega)).trans (h k h1 h2)
theorem Same.drewN (h : Same n1 n2 a b) (q : Nat) : Same n1 n2 a (b.drewN q) := h
theorem Same.set (h : Same n1 n2 a b) (g i : Nat) (v : Value) (hg : g < n1 ∨ n2 ≤ g) : Same n1 n2 a (b.setCell ⟨g, i, none⟩ v) := fun k h1 h2 => (heap_setCell_other _ _ _ _ (fun e => by have e : k = g := e; omega)).trans (h k h1 h2)
theorem Same.grown {r : Option Nat} (h : Same n1 n2 a b) (hs : n2 ≤ b.heap.size) (hg : b.grownBy c r) (hr : ∀ g, r = some g → n2 ≤ g) : Same n1 n2 a c := fun k h1 h2 =>
  (hg.block k (by omega) (fun e => by have := hr k e.symm; omega)).trans (h k h1 h2)
theorem Dep.same {G : World → Prop} (h : Dep (fun k => n1 ≤ k ∧ k < n2) a G) (hs : Same n1 n2 a b) (hz : a.heap.size ≤ b.heap.size) : Dep (fun k => n1 ≤ k ∧ k < n2) b G :=
  h.step (fun k hp _ => hs k hp.1 hp.2) hz fun k hp _ => hp
end
theorem rTerms_le (s : RdL) : (rTerms s).2.1.length ≤ s.1.length := Nat.le_trans (rList_le rTerm_le _ _) (rCount_le _ _ _)
theorem rAct_le (s : RdL) : (rAct s).2.1.length ≤ s.1.length := Nat.le_trans (rTerms_le _) (Nat.le_trans (rNum_le _) (rNum_le _))
theorem rNode_le (k : Nat) (s : RdL) : (rNode k s).2.1.length ≤ s.1.length := Nat.le_trans (rList_le rNum_le _ _) (Nat.le_trans (rNum_le _) (rNum_le _))
/-- a loop that stops at a fault: so much is done -/
def Done {α β : Type} (f : RdL → α × RdL) (g : β → α) (n : Nat) (s0 : RdL) (k : Nat) (L : List β) (s : RdL) : Prop := L.length = k ∧ rLoop f n s0 = (L.map g ++ (rLoop f (n - k) s).1, (rLoop f (n - k) s).2)
section
variable {α β : Type} {f : RdL → α × RdL} {g : β → α} {n k : Nat} {s0 s : RdL} {L : List β}
theorem Done.start (f : RdL → α × RdL) (g : β → α) (n : Nat) (s0 : RdL) : Done f g n s0 0 [] s0 := ⟨rfl, by simp⟩
theorem Done.step (h : Done f g n s0 k L s) (hk : k < n) (hs : s.2 = false) {x : β} (hx : g x = (f s).1) : Done f g n s0 (k + 1) (L ++ [x]) (f s).2 := by
  refine ⟨by rw [List.length_append, h.1]; rfl, ?_⟩
  rw [h.2, show n - k = (n - (k + 1)) + 1 by omega]
  simp [rLoop, hs, hx]
theorem Done.full (h : Done f g n s0 n L s) : rLoop f n s0 = (L.map g, s) := by
  rw [h.2, Nat.sub_self]; simp [rLoop]
theorem Done.bad (h : Done f g n s0 k L s) (hs : s.2 = true) : rLoop f n s0 = (L.map g, s) := by
  rw [h.2]
  cases n - k with
  | zero => simp [rLoop]
  | succ m => simp [rLoop, hs]
end
theorem info_node : (Try.prog.info? 47).map (fun i => (i.zero, i.size, i.bytes)) = some (some (.agg #[.int .i64 0, .slice none 0 0, .int .i64 0]), 3, 40) := by kernel_rfl
theorem info_act : (Try.prog.info? 51).map (fun i => (i.zero, i.size, i.bytes)) = some (some (.agg #[.int .i64 0, .int .i64 0, .slice none 0 0]), 3, 40) := by kernel_rfl
theorem info_out : (Try.prog.info? 49).map (fun i => (i.zero, i.size, i.bytes)) = some (some (.slice none 0 0), 1, 24) := by kernel_rfl
theorem info_intU : (Try.prog.info? 3).map (fun i => (i.zero, i.size, i.bytes)) = some (some (.int .i64 0), 1, 8) := by kernel_rfl
theorem info_u8s : (Try.prog.info? 5).map (·.size) = some 1 := by kernel_rfl
theorem tabA_copy {cl : List Int} (h : cl.length = 256) : (zeroT.toList.take 0 ++ cl.map (Value.int .u8) ++ zeroT.toList.drop (0 + 256)).toArray = tabA cl (.slice none 0 0) (.slice none 0 0) (.slice none 0 0) := by
  have e : zeroT.toList.drop (0 + 256) = [.slice none 0 0, .slice none 0 0, .slice none 0 0] := by kernel_rfl
  rw [e]
  unfold tabA
  rw [List.take_zero, List.nil_append]
theorem Rd.behindRow {w W W3 : World} {rb tb : Nat} {A : Option Addr} {c : Nat} {s : RdL} {cs : Array Value} (h : Rd W w.heap.size rb A c s) (h3 : W3 = W.setRow tb cs) (hne : rb ≠ tb) :
    W3.cell? ⟨rb, 0, none⟩ = some (.slice A s.1.length c) ∧ W3.frozen? ⟨rb, 0, none⟩ = false := by
  subst h3
  have hb : (W.setRow tb cs).heap[rb]? = some (.cells #[.slice A s.1.length c, .bool s.2] 64 (0, 0)) := (setRow_other _ _ _ _ hne).trans h.box
  exact ⟨by simp [World.cell?, hb], frozen_of_row _ _ _ _ _ hb⟩
/-- the table's classes are in; the reader goes on behind them -/
theorem US.start {w w2 w3 : World} {rb tb : Nat} {A A' : Option Addr} {c c' : Nat} {l rest : List Int} {b : Bool} {cs : Array Value} (hr : Rd w2 w.heap.size rb A c (l, b)) (hz : RZ w w2) (ht : w2.heap[tb]? = some (.cells zeroT 27 (0, 0))) (h1 : w.heap.size < rb) (h2 : rb < tb)
    (h3 : w3 = w2.setRow tb cs) (hb : BytesAt A' rest w2) (hc : rest.length ≤ c') (hA : ∀ g, ownA A' = some g → g < w.heap.size) : US w (w3.setCell ⟨rb, 0, none⟩ (.slice A' rest.length c')) rb tb A' c' (rest, b) cs := by
  subst h3
  have ho : ∀ k, k ≠ tb → (w2.setRow tb cs).heap[k]? = w2.heap[k]? := fun k hk => setRow_other _ _ _ _ hk
  have hr2 : Rd (w2.setRow tb cs) w.heap.size rb A c (l, b) := hr.keep (ho _ (by omega)) fun g hg => ho _ (by omega)
  have hb2 : BytesAt A' rest (w2.setRow tb cs) := bytes_keep hb fun g hg => ho _ (by have := hA g hg; omega)
  refine ⟨hr2.setCut hb2 hc hA, ?_, ?_, (below_setRow hz.bl (by omega) _).setCell (by show w.heap.size ≤ rb; omega) _, h1, h2⟩
  · rw [heap_setCell_other _ _ _ _ (show w.heap.size ≠ rb by omega), ho _ (by omega)]; exact hz.res
  · rw [heap_setCell_other _ _ _ _ (show tb ≠ rb by omega)]; exact setRow_heap _ _ _ _ _ _ ht
section
variable {w W W' : World} {rb tb : Nat} {A : Option Addr} {c : Nat} {s : RdL} {cs : Array Value}
theorem US.tlt (h : US w W rb tb A c s cs) : tb < W.heap.size := (Array.getElem?_eq_some_iff.1 h.tab).1
theorem US.keep (h : US w W rb tb A c s cs) (hk : ∀ k, k ≤ tb → W'.heap[k]? = W.heap[k]?) (hb : Below w.heap.size w W') : US w W' rb tb A c s cs := by
  have h1 := h.l1; have h2 := h.l2
  exact ⟨h.rd.keep (hk _ (by omega)) (fun g hg => hk _ (by omega)), (hk _ (by omega)).trans h.res, (hk _ (Nat.le_refl _)).trans h.tab, hb, h1, h2⟩
theorem US.alloc (h : US w W rb tb A c s cs) (o : Obj) : US w (W.alloc o) rb tb A c s cs :=
  h.keep (fun k hk => Below.heap_alloc _ _ _ (by have := h.tlt; omega)) (h.bl.alloc h.bl.size o)
theorem US.drewN (h : US w W rb tb A c s cs) (q : Nat) : US w (W.drewN q) rb tb A c s cs := h.keep (fun k _ => rfl) (below_drewN h.bl q)
theorem US.only (h : US w W rb tb A c s cs) (ho : Only rb none W W') {A' : Option Addr} {c' : Nat} {s' : RdL} (hr : Rd W' w.heap.size rb A' c' s') : US w W' rb tb A' c' s' cs := by
  have h1 := h.l1; have h2 := h.l2; have h3 := h.tlt
  refine ⟨hr, ?_, ?_, h.bl.trans (ho.below (by omega) (fun g hg => by cases hg) h.bl.size), h1, h2⟩
  · rw [ho.block _ (by omega) (by omega) (by simp)]; exact h.res
  · rw [ho.block _ (by omega) (by omega) (by simp)]; exact h.tab
theorem US.only2 (h : US w W rb tb A c s cs) {bb : Nat} (ho : Only rb (some bb) W W') (hb : tb < bb) {A' : Option Addr} {c' : Nat} {s' : RdL} (hr : Rd W' w.heap.size rb A' c' s') : US w W' rb tb A' c' s' cs := by
  have h1 := h.l1; have h2 := h.l2; have h3 := h.tlt
  refine ⟨hr, ?_, ?_, h.bl.trans (ho.below (by omega) (fun g hg => by injection hg with hg; omega) h.bl.size), h1, h2⟩
  · rw [ho.block _ (by omega) (by omega) (fun e => by injection e with e; omega)]; exact h.res
  · rw [ho.block _ (by omega) (by omega) (fun e => by injection e with e; omega)]; exact h.tab
theorem US.cell (h : US w W rb tb A c s cs) {i : Nat} {v : Value} (hi : cs[i]? = some v) : W.cell? ⟨tb, i, none⟩ = some v := by
  have hb := h.tab
  simp [World.cell?, hb, hi]
theorem US.cellA (h : US w W rb tb A c s cs) {i : Nat} {v : Value} (hi : cs[i]? = some v) (o : Obj) : (W.alloc o).cell? ⟨tb, i, none⟩ = some v := (h.alloc o).cell hi
theorem US.fr (h : US w W rb tb A c s cs) (i : Nat) : W.frozen? ⟨tb, i, none⟩ = false := frozen_of_row _ _ _ _ _ h.tab
theorem US.grown {r : Option Nat} {o : Obj} (h : US w W rb tb A c s cs) (hg : (W.alloc o).grownBy W' r) (hr : ∀ g, r = some g → tb < g) : US w W' rb tb A c s cs := by
  have h3 := h.tlt
  refine h.keep (fun k hk => ?_) ((h.bl.alloc h.bl.size o).grown hg (by have := h.bl.size; simp; omega) (fun k hk => by have := hr k hk; have := h.l1; have := h.l2; omega))
  rw [hg.block k (by simp; omega) (fun e => by have := hr k e.symm; omega)]
  exact Below.heap_alloc _ _ _ (by omega)
theorem US.set (h : US w W rb tb A c s cs) (i : Nat) (v : Value) : US w (W.setCell ⟨tb, i, none⟩ v) rb tb A c s (cs.setIfInBounds i v) := by
  have h1 := h.l1; have h2 := h.l2
  have ho : ∀ k, k ≠ tb → (W.setCell ⟨tb, i, none⟩ v).heap[k]? = W.heap[k]? := fun k hk => heap_setCell_other _ _ _ _ hk
  refine ⟨h.rd.keep (ho _ (by omega)) (fun g hg => ho _ (by omega)), (ho _ (by omega)).trans h.res, ?_, h.bl.setCell (by show w.heap.size ≤ tb; omega) v, h1, h2⟩
  rw [heap_setCell_same W tb i _ _ _ h.tab]
theorem num_us (h : Hid (US w W rb tb A c s cs)) :
    Calls Try.prog 26 #[.pointer (some ⟨rb, 0, none⟩)] W (fun e w' => e = .returned (.int .i64 (rNum s).1) ∧ ∃ A' c', Hid (US w w' rb tb A' c' (rNum s).2 cs) ∧ Hid (Only rb none W w')) :=
  (rd_num w.heap.size rb A c s W (Lib.hid h.out.rd)).mono fun e w' ⟨h1, A', c', h2, h3⟩ => ⟨h1, A', c', Lib.hid (h.out.only h3.out h2.out), h3⟩
theorem terms_us (h : Hid (US w W rb tb A c s cs)) (hl : s.1.length ≤ 1073741824) :
    Calls Try.prog 27 #[.pointer (some ⟨rb, 0, none⟩)] W (fun e w' => ∃ B d L, e = .returned (.slice B L.length d) ∧ Hid (L.map TermI.L = (rTerms s).1) ∧ Hid (Dep (fun k => W.heap.size ≤ k) w' (TermsAt B L)) ∧
      ∃ A' c', Hid (US w w' rb tb A' c' (rTerms s).2 cs) ∧ Hid (Only rb none W w')) :=
  (rd_terms w.heap.size rb A c s W (Lib.hid h.out.rd) hl).mono fun e w' ⟨B, d, L, h1, h2, h3, h4, A', c', h5⟩ => ⟨B, d, L, h1, h2, h3, A', c', Lib.hid (h.out.only h4.out h5.out), h4⟩
end
theorem US.setB {w W : World} {rb tb : Nat} {A : Option Addr} {c : Nat} {s : RdL} {cs : Array Value} (h : US w W rb tb A c s cs) {bb : Nat} (i : Nat) (v : Value) (hb : tb < bb) : US w (W.setCell ⟨bb, i, none⟩ v) rb tb A c s cs := by
  have h1 := h.l1; have h2 := h.l2
  exact h.keep (fun k hk => heap_setCell_other _ _ _ _ (fun e => by have e : k = bb := e; omega)) (h.bl.setCell (by show w.heap.size ≤ bb; omega) v)
theorem box_cell {W : World} {bb : Nat} {cs : Array Value} {t : TypeId} (h : W.heap[bb]? = some (.cells cs t (0, 0))) {i : Nat} {v : Value} (hi : cs[i]? = some v) : W.cell? ⟨bb, i, none⟩ = some v := by
  simp [World.cell?, h, hi]
theorem Dep.and {P : Nat → Prop} {w : World} {G H : World → Prop} (h : Dep P w G) (k : Dep P w H) : Dep P w (fun W => G W ∧ H W) := fun W hW => ⟨h W hW, k W hW⟩
theorem GoRow.rowsD {α : Type} {n m : Nat} {t : TypeId} {size : Nat} {f : α → List Value} {R : α → World → Prop} {A : Option Addr} {c : Nat} {L : List α} {W : World} (h : GoRow n t size f R A c L W) (hl : L.length ≤ 9223372036854775807) (hm : W.heap.size ≤ m) : Dep (fun k => n ≤ k ∧ k < m) W (RowsAt size f R A L) :=
  (h.rows hl).mono fun k hp hk => ⟨hp, by omega⟩
theorem Done.len {α β : Type} {f : RdL → α × RdL} {g : β → α} {n k : Nat} {s0 s : RdL} {L : List β} (h : Done f g n s0 k L s) : L.length = k := h.1
end Go.Proofs.Yticfbbigljgjdaa
