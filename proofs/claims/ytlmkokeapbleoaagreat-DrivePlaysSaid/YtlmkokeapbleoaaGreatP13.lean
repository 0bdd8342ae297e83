/- Contracts and plain laws that the proof leans on. Condition: as each theorem says. -/
import Derived.Test.YtlmkokeapbleoaaGreatP12
import Derived.Test.YtlmkokeapbleoaaGreatP05
import Derived.Test.YtlmkokeapbleoaaGreatP09
import Derived.Test.YtlmkokeapbleoaaGreatP10
import Derived.Test.YtlmkokeapbleoaaGreatP06
import Derived.Test.YtlmkokeapbleoaaGreatP07
set_option maxRecDepth 100000
set_option maxHeartbeats 64000000
set_option linter.unusedVariables false
set_option linter.unusedSimpArgs false
namespace Go.Proofs.YtlmkokeapbleoaaGreat
open Go.RowKit
section
theorem run_append_slN {P : Program} (w : World) (base : Nat) (t ty e : TypeId) (i : TypeInfo) (z : Value) (size bytes : Nat) (ht : P.underlying t = some (.slice e)) (hi : P.info? e = some i) (hz : i.zero = some z)
  (hsize : i.size = size) (hby : i.bytes = bytes) (hzs : z.cells.size = size) (hsz : 0 < size)
  (v : Value) (n : Nat) (xs : List Value) (hown : w.ownsRow base e size v n xs)
  (A : Option Addr) (m c : Nat) (news : List Value) (hr : Sl w size A m news) (h1 : ∀ u ∈ news, u.oneCell' = true)
  (h63 : n + m ≤ maxLen) (hbytes : (n + m) * bytes ≤ 140737488355328) (hbase : base ≤ w.heap.size) :
  ∃ v' w', (Builtin.append_ #[t, t] ty #[v, .slice A m c]).run P w = .ok v' w' ∧ w'.ownsRow base e size v' (n + m) (xs ++ news) ∧ w.grownBy w' v.ownBlock ∧ (v'.ownBlock = v.ownBlock ∨ v'.ownBlock = some w.heap.size) := by
 rcases A with _ | ad
 ·have hm : m = 0 := by
   rcases Nat.eq_zero_or_pos m with h0 | h0
   ·exact h0
   ·obtain ⟨b, off, h, _⟩ := hr.2 h0
    cases h
  subst hm
  have hn : news = [] := List.eq_nil_of_length_eq_zero (by simpa using hr.1)
  subst hn
  exact ⟨v, w, run_append_of_nil w base t ty e i size ht hi v n xs hown c, by simpa using hown, World.grownBy.refl w _, .inl rfl⟩
 ·have hcells : ∀ j u, news[j]? = some u → w.cell? (ad.add j) = some u := by
   intro j u hu
   rcases Nat.eq_zero_or_pos m with h0 | h0
   ·subst h0
    have hn : news = [] := List.eq_nil_of_length_eq_zero (by simpa using hr.1)
    subst hn
    simp at hu
   ·obtain ⟨b, off, h, hc⟩ := hr.2 h0
    cases h
    rw [add_plain]
    exact hc j u hu
  obtain ⟨v', w', hrun, h2, h3, _, h5⟩ := run_append_own_at (P := P) w base t ty e i z size bytes ht hi hz hsize hby hzs hsz v n xs hown ad m c news hr.1 hcells h1 h63 hbytes hbase
  exact ⟨v', w', hrun, h2, h3, h5⟩
theorem wpList_append_slN {P : Program} (w : World) {ops : Array Oper} {rest : List Oper} {o : Oper} {a : Act} {Q : Exit → Act → World → Prop} (hgd : o.guard = none) (s x : Operand) (t : TypeId)
  (ho : o.op = .call { callee := .builtin .append, args := #[s, x], argTypes := #[t, t] })
  (base : Nat) (e : TypeId) (i : TypeInfo) (z : Value) (size bytes : Nat) (ht : P.underlying t = some (.slice e)) (hi : P.info? e = some i) (hz : i.zero = some z)
  (hsize : i.size = size) (hby : i.bytes = bytes) (hzs : z.cells.size = size) (hsz : 0 < size)
  {A0 : Option Addr} {n c0 : Nat} {xs : List Value} (hown : w.ownsRow base e size (.slice A0 n c0) n xs) (hs : a.eval s = .slice A0 n c0)
  {A : Option Addr} {m c : Nat} {news : List Value} (hr : Sl w size A m news) (hx : a.eval x = .slice A m c) (h1 : ∀ u ∈ news, u.oneCell' = true)
  (h63 : n + m ≤ maxLen) (hbytes : (n + m) * bytes ≤ 140737488355328) (hbase : base ≤ w.heap.size)
  (h : ∀ A' c' w', Hid (w'.ownsRow base e size (.slice A' (n + m) c') (n + m) (xs ++ news)) → Hid (w.grownBy w' (ownA A0)) → Hid (Newer (ownA A0) (ownA A') w.heap.size) → wpList P ops Q rest (a.put o.dst (.slice A' (n + m) c')) w') : wpList P ops Q (o :: rest) a w := by
 refine wpList_plain hgd fun _ hK => ?_
 obtain ⟨v', w', hrun, h2, h3, h4⟩ := run_append_slN (P := P) w base t o.type e i z size bytes ht hi hz hsize hby hzs hsz (.slice A0 n c0) n xs hown A m c news hr h1 h63 hbytes hbase
 obtain ⟨A', c', rfl⟩ := own_shape h2
 unfold Oper.wp execOp
 simp only [ho, resolve, invoke, builtin, Sem.run_bind, Sem.run_pure, Result.andThen_ok, List.map_toArray, List.map_cons, List.map_nil, hs, hx, hrun]
 refine hK _ _ (h A' c' w' (Lh h2) (Lh (by rw [← own_ownA]; exact h3)) (Lh ?_))
 rw [own_ownA, own_ownA] at h4
 rcases h4 with h4 | h4
 ·exact .inl h4
 ·exact .inr ⟨_, h4, Nat.le_refl _⟩
theorem wpList_copyW {P : Program} {w : World} {ops : Array Oper} {rest : List Oper} {o : Oper} {a : Act} {Q : Exit → Act → World → Prop} (hgd : o.guard = none) (d s : Operand) (dT sT : TypeId) (ho : o.op = .call { callee := .builtin .copy, args := #[d, s], argTypes := #[dT, sT] }) (elem : TypeId) (hu : P.underlying dT = some (.slice elem))
  (hsz : (P.info? elem).map (·.size) = some 1) (g off dLen dCap sLen sCap n : Nat) (ad : Addr) (hd : a.eval d = .slice (some ⟨g, off, none⟩) dLen dCap) (hs : a.eval s = .slice (some ad) sLen sCap)
  (cur : Array Value) (t : TypeId) (hg : w.heap[g]? = some (.cells cur t (0, 0))) (cs : List Value) (hn : cs.length = n) (hm : n = Nat.min sLen dLen) (hsrc : ∀ j v, cs[j]? = some v → w.cell? (ad.add j) = some v)
  (hfit : off + n ≤ cur.size) (h1 : ∀ v ∈ cs, v.oneCell' = true) (new : Array Value) (hnew : (cur.toList.take off ++ cs ++ cur.toList.drop (off + n)).toArray = new)
  (h : ∀ w', Hid (w' = w.setRow g new) → wpList P ops Q rest (a.put o.dst (.int .i64 n)) w') : wpList P ops Q (o :: rest) a w := by
 refine wpList_plain hgd fun _ hK => ?_
 subst hn
 have hrun := run_copy_row (P := P) w dT sT o.type elem g off dLen dCap ad sLen sCap cur t cs hu hsz hg hm hsrc hfit h1
 unfold Oper.wp
 simp [execOp, ho, resolve, invoke, builtin, hd, hs, hrun, Result.andThen]
 subst hnew
 refine hK _ _ ?_
 have h2 := h (w.setRow g (List.take off cur.toList ++ cs ++ List.drop (off + cs.length) cur.toList).toArray) (Lh rfl)
 simpa [goInt] using h2
structure RwI (bb base : Nat) (B : List (Item Int)) (V : World) : Prop where
 blk : V.heap[bb]? = some (.cells (icells B).toArray 62 (0, 0))
 own : ∀ (i : Nat) x, B[i]? = some x → V.ownsRow base 3 1 (.slice x.1 x.2.2.length x.2.1) x.2.2.length (x.2.2.map (Value.int .i64))
 dis : ∀ (i j : Nat) x y, i ≠ j → B[i]? = some x → B[j]? = some y → ∀ k, ownA x.1 = some k → ownA y.1 ≠ some k
 rng : ∀ x ∈ B, ∀ v ∈ x.2.2, I64 v
section
variable {bb base : Nat} {B : List (Item Int)} {V V2 : World}
theorem RwI.start (V : World) (n base : Nat) : RwI V.heap.size base (List.replicate n (none, 0, [])) (V.alloc (.cells (madeCells #[.slice none 0 0] n) 62)) := by
 refine ⟨?_, fun i x hx => ?_, fun i j x y _ hx _ k hk => ?_, fun x hx => ?_⟩
 ·rw [heap_alloc_new V _]
  congr 2
  apply Array.ext'
  rw [toList_madeCells_one]
  simp [icells, ival]
 ·obtain ⟨_, rfl⟩ := List.mem_replicate.1 (List.mem_of_getElem? hx)
  exact World.ownsRow_nil _ _ _ _
 ·obtain ⟨_, rfl⟩ := List.mem_replicate.1 (List.mem_of_getElem? hx)
  cases hk
 ·obtain ⟨_, rfl⟩ := List.mem_replicate.1 hx
  intro v hv; cases hv
theorem RwI.lt (h : RwI bb base B V) : bb < V.heap.size := (Array.getElem?_eq_some_iff.1 h.blk).1
theorem RwI.keep (h : RwI bb base B V) (hb : V2.heap[bb]? = V.heap[bb]?) (hk : ∀ k, base ≤ k → k < V.heap.size → (∃ cur, V.heap[k]? = some (.cells cur 3 (0, 0))) → V2.heap[k]? = V.heap[k]?) : RwI bb base B V2 :=
 ⟨hb.trans h.blk, fun i x hx => own_keep (h.own i x hx) fun k hA => let t := own_ty (h.own i x hx) hA; hk k t.1 t.2.1 t.2.2, h.dis, h.rng⟩
theorem RwI.re (h : RwI bb base B V) {b2 : Nat} (hn : ∀ x ∈ B, x.1 = none) : RwI bb b2 B V := by
 refine ⟨h.blk, fun i x hx => ?_, h.dis, h.rng⟩
 have e := hn x (List.mem_of_getElem? hx)
 have h2 := h.own i x hx
 rw [e] at h2 ⊢
 rcases h2.2 with e3 | ⟨g, cap, cur, e2, _⟩
 ·exact ⟨h2.1, .inl e3⟩
 ·cases e2
theorem RwI.below (h : RwI bb base B V) (hb : Below V.heap.size V V2) : RwI bb base B V2 := h.keep (hb.block _ h.lt) fun k _ hl _ => hb.block k hl
theorem RwI.cell (h : RwI bb base B V) {i : Nat} {a : Option Addr} {c : Nat} {l : List Int} (hx : B[i]? = some (a, c, l)) : V.cell? ⟨bb, i, none⟩ = some (.slice a l.length c) ∧ V.frozen? ⟨bb, i, none⟩ = false := by
 have hb := h.blk
 refine ⟨?_, by simp [World.frozen?, hb]⟩
 simp [World.cell?, hb, icells, hx, ival]
theorem RwI.push (h : RwI bb base B V) (hbb : bb < base) (hbs : base ≤ V.heap.size) {i : Nat} {a a' : Option Addr} {c c' : Nat} {l : List Int} {x : Int} {o : Obj} (hx : B[i]? = some (a, c, l)) (hx64 : I64 x)
  (ho : V2.ownsRow base 3 1 (.slice a' (l.length + 1) c') (l.length + 1) (l.map (Value.int .i64) ++ [.int .i64 x])) (hg : (V.alloc o).grownBy V2 (ownA a)) (hn : Newer (ownA a) (ownA a') (V.heap.size + 1)) :
  RwI bb base (B.set i (a', c', l ++ [x])) (V2.setCell ⟨bb, i, none⟩ (.slice a' (l.length + 1) c')) := by
 have hab : ownA a ≠ some bb := fun e => by have := (own_ty (h.own i _ hx) e).1; omega
 have hst : ∀ k, k ≠ bb → (V2.setCell ⟨bb, i, none⟩ (.slice a' (l.length + 1) c')).heap[k]? = V2.heap[k]? := fun k hk => heap_setCell_other _ _ _ _ hk
 have h2 : ∀ k, k < V.heap.size → ownA a ≠ some k → V2.heap[k]? = V.heap[k]? := fun k hk hne => (hg.block k (by simp; omega) (fun e => hne e.symm)).trans (Below.heap_alloc _ _ _ hk)
 have hil := (List.getElem?_eq_some_iff.1 hx).1
 have hlen : (l ++ [x]).length = l.length + 1 := by simp
 have hnew : ∀ k, ownA a' = some k → ownA a = some k ∨ V.heap.size + 1 ≤ k := fun k hk => by
  rcases hn with e | ⟨g, e, hg2⟩
  ·rw [e] at hk; exact .inl hk
  ·rw [e] at hk; injection hk with hk; exact .inr (by omega)
 have hoth : ∀ (j : Nat) y, j ≠ i → B[j]? = some y → ∀ k, ownA y.1 = some k → ownA a' ≠ some k := fun j y hj hy k hk hk2 => by
  rcases hnew k hk2 with e | e
  ·exact h.dis i j _ _ (fun e => hj e.symm) hx hy k e hk
  ·have := (own_ty (h.own j y hy) hk).2.1; omega
 refine ⟨?_, fun j y hy => ?_, fun j j' y y' hne hy hy' => ?_, fun y hy => ?_⟩
 ·rw [heap_setCell_same V2 bb i _ _ _ ((h2 bb h.lt hab).trans h.blk)]
  congr 2
  apply Array.ext'
  simp only [List.setIfInBounds_toArray]
  rw [← hlen]
  exact icells_set B i (a', c', l ++ [x])
 ·by_cases e : j = i
  ·subst e
   rw [List.getElem?_set_self hil] at hy
   injection hy with hy; subst hy
   have h3 := own_keep (w' := V2.setCell ⟨bb, j, none⟩ (.slice a' (l.length + 1) c')) ho (fun k hk => hst k (fun e => by have := (own_ty ho hk).1; omega))
   simpa using h3
  ·rw [List.getElem?_set_ne (fun h => e h.symm)] at hy
   refine own_keep (h.own j y hy) fun k hk => ?_
   have ht := own_ty (h.own j y hy) hk
   exact (hst k (by omega)).trans (h2 k ht.2.1 (h.dis j i _ _ e hy hx k hk))
 ·by_cases e : j = i
  ·subst e
   rw [List.getElem?_set_self hil] at hy
   injection hy with hy; subst hy
   rw [List.getElem?_set_ne hne] at hy'
   intro k hk hk2
   exact hoth j' y' (fun e => hne e.symm) hy' k hk2 hk
  ·rw [List.getElem?_set_ne (fun h => e h.symm)] at hy
   by_cases e' : j' = i
   ·subst e'
    rw [List.getElem?_set_self hil] at hy'
    injection hy' with hy'; subst hy'
    exact hoth j y e hy
   ·rw [List.getElem?_set_ne (fun h => e' h.symm)] at hy'
    exact h.dis j j' y y' hne hy hy'
 ·rcases List.mem_or_eq_of_mem_set hy with hy | rfl
  ·exact h.rng y hy
  ·intro v hv
   rcases List.mem_append.1 hv with hv | hv
   ·exact h.rng _ (List.mem_of_getElem? hx) v hv
   ·rw [List.mem_singleton] at hv; subst hv; exact hx64
theorem RwI.row (h : RwI bb base B V) (hl : B.length ≤ 1048576) (hm : ∀ x ∈ B, x.2.2.length ≤ 1048576) (P : Nat → Prop) (hP : P bb) (hPb : ∀ k, base ≤ k → k < V.heap.size → (∃ cur, V.heap[k]? = some (.cells cur 3 (0, 0))) → P k) : Dep P V (LLi (some ⟨bb, 0, none⟩) B) := fun U hU => by
 have hb := (hU bb hP h.lt).trans h.blk
 refine ⟨⟨⟨by rw [icells_length, Nat.mul_one], fun _ => ⟨bb, 0, rfl, fun j u hu => ?_⟩⟩, fun x hx => ?_⟩, by omega⟩
 ·rw [Nat.zero_add]
  simp [World.cell?, hb, hu]
 ·obtain ⟨i, hi⟩ := List.getElem?_of_mem hx
  have h1 := h.own i x hi
  have h2 := own_keep (w' := U) h1 fun k hA => let t := own_ty h1 hA; hU k (hPb k t.1 t.2.1 t.2.2) t.2.1
  have h3 := Sl.of_own h2
  refine ⟨?_, h.rng x hx, by have := hm x hx; omega⟩
  rw [← List.map_eq_flatMap]
  exact h3
end
theorem rowF_snoc (l : List Int) (x q : Int) : rowF (l ++ [x]) q = if x = q then rowF l q ++ [(l.length : Int)] else rowF l q := by
 unfold rowF
 rw [List.length_append, List.length_singleton, List.range_succ, List.filter_append, List.map_append]
 have h1 : ((List.range l.length).filter fun j => (l ++ [x])[j]? == some q) = (List.range l.length).filter fun j => l[j]? == some q := List.filter_congr fun j hj => by
  rw [List.getElem?_append_left (List.mem_range.1 hj)]
 rw [h1]
 by_cases e : x = q
 ·subst e; simp
 ·simp [e]
end
def RetTk (cs : Array Value) (T : TabI) (s : Drv.S) (cl : Bool) (x : Int) (W : World) (e : Ending) (W' : World) : Prop :=
 ∃ A c ha' hc', e = .returned (.tuple #[.agg (rdC cs (Drv.go (drvM T.L) s [x]).1.node ha' hc' (Drv.go (drvM T.L) s [x]).1.held cl (Drv.go (drvM T.L) s [x]).1.rej), .slice A (Drv.go (drvM T.L) s [x]).2.length c]) ∧ Hid (Below W.heap.size W W') ∧
  Hid (W'.ownsRow W.heap.size 5 1 (.slice A (Drv.go (drvM T.L) s [x]).2.length c) (Drv.go (drvM T.L) s [x]).2.length ((Drv.go (drvM T.L) s [x]).2.map (Value.int .u8))) ∧ Hid (Dep (fun k => W.heap.size ≤ k) W' (BytesAt ha' (Drv.go (drvM T.L) s [x]).1.held))
theorem tk_end {Q : Ending → World → Prop} {a : Act} {Wx : World} {rb : Nat} {v : Value} (hd : a.defers = []) (h2 : a.tmps.getD 4 undef = .pointer (some ⟨rb, 0, none⟩)) (h3 : a.tmps.getD 5 undef = v) {old : Array Value} (hg : Wx.heap[rb]? = some (.cells old 81 (0, 0)))
  {C : Array Value} (hC : C.size = 263) (hq : Q (.returned (.tuple #[.agg C, v])) (Wx.setRow rb C)) : bodyPost Tryz.prog Tryz.f104 Q .ret a (Wx.setRow rb C) :=
 bodyPost_ret (v := .tuple #[.agg C, v]) (results_row2 rfl _ _ _ _ _ _ _ _ h2 h3 (setRow_heap _ _ _ _ _ _ hg) Tryz.underlying81 rfl (by rw [hC]; exact info_refS)) hd hq
structure TkI (cs : Array Value) (T : TabI) (cl : Bool) (s0 : Drv.S) (yn : Int) (z : Array Value) (W : World) (nb : Nat) (A4 : Option Addr) (c4 : Nat) (wl : List Int) (en i : Nat) (sc : Drv.S) (ha : Option Addr) (hc : Nat) (A : Option Addr) (c : Nat) (o : List Int) (wr : World) : Prop where
 box : RdB W.heap.size (rdC cs sc.node ha hc sc.held cl sc.rej) wr
 res : RdB (W.heap.size + 1) z wr
 row : wr.ownsRow nb 5 1 (.slice A o.length c) o.length (o.map (Value.int .u8))
 win : wr.ownsRow nb 5 1 (.slice A4 wl.length c4) wl.length (wl.map (Value.int .u8))
 ne : ∀ k, ownA A4 = some k → ownA A ≠ some k
 bel : Below W.heap.size W wr
 sz : nb ≤ wr.heap.size
 hld : Dep (fun k => W.heap.size ≤ k ∧ k ≠ W.heap.size ∧ k ≠ W.heap.size + 1 ∧ ownA A ≠ some k) wr (BytesAt ha sc.held)
 ok : Drv.Ok (heldL T.L) T.L.nodes.length sc
 len : sc.held.length + en ≤ i
 go : Drv.go (drvM T.L) s0 [yn] = ((Drv.go (drvM T.L) sc (wl.drop i)).1, o ++ (Drv.go (drvM T.L) sc (wl.drop i)).2)
theorem setRow_below {n : Nat} {W W' : World} (h : Below n W W') {rb : Nat} (hr : n ≤ rb) (C : Array Value) : Below n W (W'.setRow rb C) := h.trans ⟨rfl, rfl, rfl, by simp [World.setRow], fun k hk => setRow_other _ _ _ _ (by omega)⟩
theorem setCell_below {n : Nat} {W W' : World} (h : Below n W W') {rb : Nat} (hr : n ≤ rb) (i : Nat) (v : Value) : Below n W (W'.setCell ⟨rb, i, none⟩ v) := h.setCell (p := ⟨rb, i, none⟩) hr v
theorem take_st (hN : Nat) : ∀ (W : World) (cs : Array Value) (T : TabI) (s : Drv.S) (cl : Bool) (ha : Option Addr) (hc : Nat) (x : Int), s.held.length = hN → Hid (TabC cs T ∧ TabOk T.L ∧ Drv.Ok (heldL T.L) T.L.nodes.length s) → Hid (∀ V, Below W.heap.size W V → TabW T V ∧ BytesAt ha s.held V) → Hid (0 ≤ x ∧ x < 256) →
  Calls Tryz.prog 104 #[.agg (rdC cs s.node ha hc s.held cl s.rej), .int .u8 x] W (RetTk cs T s cl x W) := by
 induction hN using Nat.strongRecOn with
 | ind hN ih =>
 intro W cs T s cl ha hc x hn HT HG HX
 have IH := Lh ih
 clear ih
 have hs : cs.size = 259 := HT.out.1.size
 have HN := Lh hn
 obtain ⟨z, hz⟩ : ∃ z, z = zeroR := ⟨_, rfl⟩
 have HZ : Hid ((Tryz.prog.info? 81).map (fun i => i.zero) = some (some (.agg z))) := Lh (by rw [hz]; exact info_refZ)
 have HZS : Hid (z.size = 263) := Lh (by rw [hz]; exact zeroR_size)
 clear hz hn
 obtain ⟨wa, hwa⟩ : ∃ y, W.alloc (.cells (rdC cs s.node ha hc s.held cl s.rej) 81) = y := ⟨_, rfl⟩
 obtain ⟨wb, hwb⟩ : ∃ y, wa.alloc (.cells z 81) = y := ⟨_, rfl⟩
 have hsa : wa.heap.size = W.heap.size + 1 := by rw [← hwa]; simp
 have hsb : wb.heap.size = W.heap.size + 2 := by rw [← hwb]; simp [hsa]
 have HBA : Hid (Below W.heap.size W wa) := Lh (by rw [← hwa]; exact (Below.refl _ _).alloc (Nat.le_refl _) _)
 have HBB : Hid (Below W.heap.size W wb) := Lh (by rw [← hwb]; exact HBA.out.alloc (by omega) _)
 have HRB : Hid (RdB (W.heap.size + 1) z wb) := Lh (by rw [← hsa, ← hwb]; exact heap_alloc_new wa _)
 have HTB : Hid (RdB W.heap.size (rdC cs s.node ha hc s.held cl s.rej) wb) := Lh (by
  have h1 : wa.heap[W.heap.size]? = some (.cells (rdC cs s.node ha hc s.held cl s.rej) 81 (0, 0)) := by rw [← hwa]; exact heap_alloc_new W _
  rw [← hwb]
  exact (Below.heap_alloc _ _ _ (by omega)).trans h1)
 obtain ⟨C0, hC0⟩ : ∃ y, rdC cs s.node ha hc s.held cl s.rej = y := ⟨_, rfl⟩
 have c262 := HTB.out.cRj hs
 rw [hC0] at hwa ⊢
 have HC0 := Lh hC0
 have HC0S : Hid (C0.size = 263 ∧ C0.all (·.oneCell') = true) := Lh (by rw [← hC0]; exact ⟨rdC_size hs, rdC_one HT.out.1⟩)
 have HI : Hid ((Tryz.prog.info? 81).map (·.size) = some C0.size) := Lh (by rw [HC0S.out.1]; exact info_refS)
 have HOL : Hid (z.size = C0.size) := Lh (by rw [HC0S.out.1, HZS.out])
 have HTB0 : Hid (RdB W.heap.size C0 wb) := Lh (by rw [← hC0]; exact HTB.out)
 have HSZ : Hid (wa.heap.size = W.heap.size + 1 ∧ wb.heap.size = W.heap.size + 2) := Lh ⟨hsa, hsb⟩
 clear hC0 hsb
 go_enter Tryz.func104, Tryz.ntmps104
 rcases hrj : s.rej with _ | _
 case true =>
  rw [hrj] at c262
  have HRJ := Lh hrj
  have HE : Hid (Drv.go (drvM T.L) s [x] = (s, [])) := Lh (Drv.go_rej _ _ hrj _)
  clear hrj
  have hsw : W.heap.size + 1 = wa.heap.size := hsa.symm
  clear hsa
  go_wp2_with (first
   | (refine wpList_allocZ rfl 81 rfl z HZ.out ?_)
   | (refine wpList_load_row rfl 81 _ rfl W.heap.size rfl _ C0 _ _ HTB0.out Tryz.underlying81 rfl HI.out ?_)
   | (refine wpList_store_row rfl 81 _ _ rfl wa.heap.size C0 rfl rfl 81 z (by rw [← hsw]; exact HRB.out) HI.out HOL.out HC0S.out.2 ?_))
  refine tk_end (v := .slice none 0 0) rfl rfl rfl (by rw [← hsw]; exact HRB.out) HC0S.out.1 ⟨none, 0, ha, hc, ?_, Lh (setRow_below HBB.out (by omega) _), Lh ?_, Lh fun V _ => ?_⟩
  ·rw [HE.out]
   show _ = Ending.returned (.tuple #[.agg (rdC cs s.node ha hc s.held cl s.rej), .slice none 0 0])
   rw [HC0.out]
  ·rw [HE.out]; exact World.ownsRow_nil _ _ _ _
  ·rw [HE.out]
   show BytesAt ha s.held V
   rw [show s.held = [] from by rw [HT.out.2.2.rej HRJ.out]; rfl]
   exact BytesAt.nil_ _ _
 rw [hrj] at c262
 have HRJ := Lh hrj
 clear hrj
 obtain ⟨yn, hyn⟩ := Int.eq_ofNat_of_zero_le HX.out.1
 subst hyn
 have hyl : yn < 256 := by have := HX.out.2; omega
 obtain ⟨cy, hcy2⟩ : ∃ c, T.cls[yn]? = some c := ⟨_, List.getElem?_eq_getElem (by rw [HT.out.1.ln]; exact hyl)⟩
 have hcb := HT.out.1.u8 cy (List.mem_of_getElem? hcy2)
 obtain ⟨cn, hcn⟩ := Int.eq_ofNat_of_zero_le hcb.1
 have hnl : s.node < T.ns.length := by have := HT.out.2.2.lt; rwa [nodesL_len] at this
 obtain ⟨nb, noff, n, hnA, hnx, hnw, -, m1, -⟩ := (HG.out wb HBB.out).1.nodes.at_ hnl
 have hLn : T.L.nodes[s.node]? = some n.L := nodesL_at hnx
 have hcls : clsL T.L yn = cn := by
  unfold clsL
  rw [Int.toNat_natCast]
  show (T.cls.getD yn 0).toNat = cn
  rw [List.getD_eq_getElem?_getD, hcy2, Option.getD_some, hcn, Int.toNat_natCast]
 obtain ⟨hnxt, hnok⟩ := nxtL_ok HT.out.2.1 hLn yn
 rw [hcls] at hnxt
 obtain ⟨nx2, hnxv⟩ : ∃ y, nxtL T.L s.node yn = y := ⟨_, rfl⟩
 rw [hnxv] at hnxt hnok
 have hnxt' : n.nx[cn]? = some nx2 := hnxt
 have hcnl := (List.getElem?_eq_some_iff.1 hnxt').1
 obtain ⟨ib, ioff, nx3, hiA, hix, -, hic⟩ := hnw.2.at_ hcnl
 obtain rfl : nx3 = nx2 := by rw [hnxt'] at hix; injection hix with h; exact h.symm
 have d256 := HTB.out.cell (rdC_lo HT.out.1.c1)
 have d259 := HTB.out.cNode hs
 have d260 := HTB.out.cHeld hs
 have dcl := HTB.out.cell (rdC_lo (HT.out.1.cl yn cy hcy2))
 rw [hnA] at d256
 rw [hiA] at m1
 subst hcn
 have HNX := Lh hnxv
 have HNO := Lh hnok
 have HLN := Lh hLn
 have hnode : (s.node : Int) < (T.ns.length : Int) := by omega
 have hcni : (cn : Int) < (n.nx.length : Int) := by omega
 have hyi : (yn : Int) < 256 := by omega
 have hh4 : s.held.length ≤ 4 := drv_len HT.out.2.1 HT.out.2.2
 have HSL : Hid (Sl wb 1 ha s.held.length (s.held.map (Value.int .u8))) := Lh (by
  have h := (HG.out wb HBB.out).2.sl
  rwa [← List.map_eq_flatMap] at h)
 have HU := Lh (HG.out wb HBB.out).2.u8
 obtain ⟨i0, hi, hz0, hz1, hz2⟩ := info_parts infoByteD
 have h63 : 0 + s.held.length ≤ maxLen := by unfold maxLen; omega
 have hby : (0 + s.held.length) * 1 ≤ 140737488355328 := by omega
 have hl40 : s.held.length < 1099511627776 := by omega
 clear hcy2 hcb hnA hnx hnw hLn hcls hnxt hnok hnxv hnxt' hiA hix
 go_wp2_with (refine wpList_allocZ rfl 81 rfl z HZ.out ?_)
 (try rw [hwb])
 go_quiet (fail)
 clear d256 d259 dcl m1 hic
 have d260' : ∀ q, (wb.drewN q).cell? ⟨W.heap.size, 260, none⟩ = some (.slice ha s.held.length hc) := fun q => d260
 go_upto_region 7 with (first
  | (at_builtin; refine wpList_append_slN _ rfl (.tmp 30) (.tmp 32) 79 rfl wb.heap.size 5 i0 _ 1 1 Tryz.underlying79 hi hz0 hz1 hz2 rfl (by decide) (World.ownsRow_nil _ _ _ _) rfl (Sl.drewN HSL.out _) rfl (bytes_one s.held) h63 hby (Nat.le_refl _) ?_; intro A2 c2 w2 HO2 HG2 HN2; (rw [Nat.zero_add] at HO2 ⊢); (have HB2 : Hid (Below wb.heap.size wb w2) := Lh ((below_drewN (Below.refl _ wb) _).grown HG2.out (Nat.le_refl _) (fun k hk => by cases hk))))
  | (at_builtin; go_must (refine wpList_pushG rfl (.tmp 34) (.tmp 36) 79 rfl wb.heap.size 5 i0 _ 1 1 Tryz.underlying79 hi hz0 hz1 hz2 rfl (by decide) HO2.out rfl [.int .u8 (yn : Int)] 5 rfl rfl (by simp [Value.oneCell']) hl40 (by decide) HB2.out.size ?_); intro A4 c4 w4 HO4x HG4 HN4))
 obtain ⟨wl, hwl⟩ : ∃ y, s.held ++ [(yn : Int)] = y := ⟨_, rfl⟩
 have hwn : wl.length = s.held.length + 1 := by rw [← hwl]; simp
 have hwn2 : s.held.length + 1 = wl.length := hwn.symm
 have HO4 : Hid (w4.ownsRow wb.heap.size 5 1 (.slice A4 wl.length c4) wl.length (wl.map (Value.int .u8))) := Lh (by
  have h := HO4x.out
  rw [List.nil_append, hwn2] at h
  rw [← hwl, List.map_append]
  rw [← hwl] at h
  exact h)
 rw [hwn2]
 have HB4 : Hid (Below wb.heap.size wb w4) := Lh ((HB2.out.alloc HB2.out.size _).grown HG4.out (by simp; have := HB2.out.size; omega) (fun j hj => (own_ty HO2.out hj).1))
 have HUW : Hid (U8s wl) := Lh fun x hx => by
  rw [← hwl] at hx
  rcases List.mem_append.1 hx with h | h
  ·exact HU.out x h
  ·rw [List.mem_singleton] at h; subst h; omega
 have HWL := Lh hwl
 have HWN := Lh hwn
 have hl5 : wl.length ≤ 5 := by omega
 have HB4W : Hid (Below W.heap.size W w4) := Lh (HBB.out.trans (HB4.out.mono HBB.out.size))
 have HT4 : Hid (RdB W.heap.size (rdC cs s.node ha hc s.held cl false) w4) := Lh (by
  have h := HTB.out.keep (HB4.out.block _ HTB.out.lt)
  rwa [HRJ.out] at h)
 have HR4 : Hid (RdB (W.heap.size + 1) z w4) := Lh (HRB.out.keep (HB4.out.block _ HRB.out.lt))
 have HLT : Hid (W.heap.size + 1 < wb.heap.size ∧ wb.heap.size ≤ w4.heap.size) := Lh ⟨HRB.out.lt, HB4.out.size⟩
 have HOK := Lh (Drv.Ok.step (drv_right HT.out.2.1) HT.out.2.2 (yn : Int))
 have HGo : Hid (Drv.go (drvM T.L) s [(yn : Int)] = ((Drv.go (drvM T.L) (Drv.step (drvM T.L) s yn).1 ((Drv.step (drvM T.L) s yn).2.2 ++ [])).1, (Drv.step (drvM T.L) s yn).2.1 ++ (Drv.go (drvM T.L) (Drv.step (drvM T.L) s yn).1 ((Drv.step (drvM T.L) s yn).2.2 ++ [])).2)) := Lh (Drv.go_cons _ _ HRJ.out _ _)
 clear hwl hwn hwn2 HO4x HO2 HB2 HG2 HG4 HN2 HN4 d260 d260' c262 hi hz0 hz1 hz2 HU
 by_cases h0 : 0 ≤ nx3
 ·obtain ⟨nx, rfl⟩ := Int.eq_ofNat_of_zero_le h0
  have HST : Drv.step (drvM T.L) s yn = (⟨nx, wl, false⟩, [], []) := by
   unfold Drv.step
   rw [show (drvM T.L).nxt s.node yn = (nx : Int) from HNX.out, if_pos h0, Int.toNat_natCast, HWL.out]
  rw [HST] at HGo HOK
  have HE : Hid (Drv.go (drvM T.L) s [(yn : Int)] = (⟨nx, wl, false⟩, [])) := Lh (by rw [HGo.out]; simp [Drv.go_nil])
  have f1 := HT4.out.fz 259
  have c1 := HT4.out.cNode hs
  have b2 := HT4.out.setNode hs (nx : Int)
  have c2' := b2.cHeld hs
  have f2 := b2.fz 260
  have HB3 := Lh (b2.setHeld hs A4 c4 wl)
  obtain ⟨C2, hC2⟩ : ∃ y, rdC cs nx A4 c4 wl cl false = y := ⟨_, rfl⟩
  rw [hC2] at HB3
  have HC2 := Lh hC2
  have HC2S : Hid (C2.size = 263 ∧ C2.all (·.oneCell') = true) := Lh (by rw [← hC2]; exact ⟨rdC_size hs, rdC_one HT.out.1⟩)
  have HI2 : Hid ((Tryz.prog.info? 81).map (·.size) = some C2.size) := Lh (by rw [HC2S.out.1]; exact info_refS)
  have HOL2 : Hid (z.size = C2.size) := Lh (by rw [HC2S.out.1, HZS.out])
  have HR5 : Hid (RdB (W.heap.size + 1) z ((w4.setCell ⟨W.heap.size, 259, none⟩ (.int .i64 (nx : Int))).setCell ⟨W.heap.size, 260, none⟩ (.slice A4 wl.length c4))) := Lh (HR4.out.keep (by rw [heap_setCell_other _ _ _ _ (by show W.heap.size + 1 ≠ W.heap.size; omega), heap_setCell_other _ _ _ _ (by show W.heap.size + 1 ≠ W.heap.size; omega)]))
  clear b2 hC2
  go_wp2_with (first
   | (refine wpList_load_row rfl 81 _ rfl W.heap.size rfl _ C2 _ _ HB3.out Tryz.underlying81 rfl HI2.out ?_)
   | (refine wpList_store_row rfl 81 _ _ rfl (W.heap.size + 1) C2 rfl rfl 81 z HR5.out HI2.out HOL2.out HC2S.out.2 ?_))
  refine tk_end (v := .slice none 0 0) rfl rfl rfl HR5.out HC2S.out.1 ⟨none, 0, A4, c4, ?_, Lh (setRow_below (setCell_below (setCell_below HB4W.out (Nat.le_refl _) _ _) (Nat.le_refl _) _ _) (by omega) _), Lh ?_, Lh ?_⟩
  ·rw [HE.out]
   show _ = Ending.returned (.tuple #[.agg (rdC cs nx A4 c4 wl cl false), .slice none 0 0])
   rw [HC2.out]
  ·rw [HE.out]; exact World.ownsRow_nil _ _ _ _
  ·rw [HE.out]
   intro V hV
   refine bytes_own HO4.out HUW.out (by omega) V fun k hk => ?_
   obtain ⟨q1, q2, -⟩ := own_ty HO4.out hk
   have q3 := HLT.out
   rw [hV k (by omega) (by simp [World.setRow]; omega), setRow_other _ _ _ _ (by omega), heap_setCell_other _ _ _ _ (by show k ≠ W.heap.size; omega), heap_setCell_other _ _ _ _ (by show k ≠ W.heap.size; omega)]
 by_cases h1 : nx3 = -1
 ·subst h1
  have HST : Drv.step (drvM T.L) s yn = (Drv.rejd, [], []) := by
   unfold Drv.step
   rw [show (drvM T.L).nxt s.node yn = (-1 : Int) from HNX.out, if_neg (by omega), if_pos rfl]
  rw [HST] at HGo HOK
  have HE : Hid (Drv.go (drvM T.L) s [(yn : Int)] = (Drv.rejd, [])) := Lh (by rw [HGo.out, Drv.go_rej _ _ rfl]; simp)
  have f1 := HT4.out.fz 262
  have c1 := HT4.out.cRj hs
  have b2 := HT4.out.setRj hs true
  have f2 := b2.fz 259
  have c2' := b2.cNode hs
  have b3 := b2.setNode hs 0
  have f3 := b3.fz 260
  have c3' := b3.cHeld hs
  have HB3 := Lh (b3.setHeld hs none 0 [])
  obtain ⟨C2, hC2⟩ : ∃ y, rdC cs 0 none 0 [] cl true = y := ⟨_, rfl⟩
  rw [hC2] at HB3
  have HC2 := Lh hC2
  have HC2S : Hid (C2.size = 263 ∧ C2.all (·.oneCell') = true) := Lh (by rw [← hC2]; exact ⟨rdC_size hs, rdC_one HT.out.1⟩)
  have HI2 : Hid ((Tryz.prog.info? 81).map (·.size) = some C2.size) := Lh (by rw [HC2S.out.1]; exact info_refS)
  have HOL2 : Hid (z.size = C2.size) := Lh (by rw [HC2S.out.1, HZS.out])
  have HR5 : Hid (RdB (W.heap.size + 1) z (((w4.setCell ⟨W.heap.size, 262, none⟩ (.bool true)).setCell ⟨W.heap.size, 259, none⟩ (.int .i64 0)).setCell ⟨W.heap.size, 260, none⟩ (.slice none 0 0))) := Lh (HR4.out.keep (by rw [heap_setCell_other _ _ _ _ (by show W.heap.size + 1 ≠ W.heap.size; omega), heap_setCell_other _ _ _ _ (by show W.heap.size + 1 ≠ W.heap.size; omega), heap_setCell_other _ _ _ _ (by show W.heap.size + 1 ≠ W.heap.size; omega)]))
  clear b2 b3 hC2
  go_wp2_with (first
   | (refine wpList_load_row rfl 81 _ rfl W.heap.size rfl _ C2 _ _ HB3.out Tryz.underlying81 rfl HI2.out ?_)
   | (refine wpList_store_row rfl 81 _ _ rfl (W.heap.size + 1) C2 rfl rfl 81 z HR5.out HI2.out HOL2.out HC2S.out.2 ?_))
  refine tk_end (v := .slice none 0 0) rfl rfl rfl HR5.out HC2S.out.1 ⟨none, 0, none, 0, ?_, Lh (setRow_below (setCell_below (setCell_below (setCell_below HB4W.out (Nat.le_refl _) _ _) (Nat.le_refl _) _ _) (Nat.le_refl _) _ _) (by omega) _), Lh ?_, Lh ?_⟩
  ·rw [HE.out]
   show _ = Ending.returned (.tuple #[.agg (rdC cs 0 none 0 [] cl true), .slice none 0 0])
   rw [HC2.out]
  ·rw [HE.out]; exact World.ownsRow_nil _ _ _ _
  ·rw [HE.out]
   exact fun V _ => BytesAt.nil_ _ _
 have hno := HNO.out
 obtain ⟨hx2, al, hal, hea, hto⟩ : nx3 ≤ -2 ∧ ∃ a, T.L.acts[(-2 - nx3).toNat]? = some a ∧ a.eat ≤ n.L.held + 1 ∧ TermsOk (n.L.held + 1) a.out := by
  rcases hno with h | ⟨_, ⟨h, _⟩ | ⟨h, a, q1, q2, q3⟩⟩
  ·exact absurd h h1
  ·exact absurd h h0
  ·exact ⟨h, a, q1, q2, q3⟩
 obtain ⟨an, han⟩ : ∃ an : Nat, -2 - nx3 = (an : Int) := Int.eq_ofNat_of_zero_le (by omega)
 rw [han, Int.toNat_natCast] at hal
 have hl : an < T.acts.length := by have h := (List.getElem?_eq_some_iff.1 hal).1; rwa [show T.L.acts = T.acts.map ActI.L from rfl, List.length_map] at h
 obtain ⟨ab, aoff, a, haA, hai, haw, g0, g1, g2⟩ := (HG.out w4 HB4W.out).1.acts.at_ hl
 have hae : al = a.L := by
  rw [show T.L.acts = T.acts.map ActI.L from rfl, List.getElem?_map, hai] at hal
  injection hal with h; exact h.symm
 subst hae
 have e257 := HT4.out.cell (rdC_lo HT.out.1.c2)
 rw [haA] at e257
 have hal4 : T.acts.length ≤ 4096 := by have h := HT.out.2.1.head.2.1; rwa [show T.L.acts = T.acts.map ActI.L from rfl, List.length_map] at h
 have hani : (an : Int) < (T.acts.length : Int) := by omega
 have HTA := Lh hto
 have HAI := Lh hai
 have HAL := Lh hal
 have HEA := Lh hea
 have hsb : IntKind.i64.wrap (-2 - nx3) = (an : Int) := by rw [han]; simp [IntKind.wrap, IntKind.signed, IntKind.bits]; omega
 have hak := HT.out.2.1.acts a.L (List.mem_map.2 ⟨a, List.mem_of_getElem? hai, rfl⟩)
 have hn64 : a.o.l.length ≤ 64 := by have h := hak.2.2.2.2; rwa [show a.L.out = a.o.l.map TermI.L from rfl, List.length_map] at h
 have HAK := Lh hak
 clear hno hal haA hai haw hea hto hak
 go_upto_region 17 with fail
 obtain ⟨w5, hw5⟩ : ∃ y, w4.alloc (.cells #[.int .i64 a.e, .int .i64 a.d, .slice a.o.a a.o.l.length a.o.c] 59) = y := ⟨_, rfl⟩
 rw [hw5]
 have hbe : Below w4.heap.size w4 w5 := by rw [← hw5]; exact (Below.refl _ _).alloc (Nat.le_refl _) _
 have hxx : w5.heap[w4.heap.size]? = some (.cells #[.int .i64 a.e, .int .i64 a.d, .slice a.o.a a.o.l.length a.o.c] 59 (0, 0)) := by rw [← hw5]; exact heap_alloc_new w4 _
 have HXX := Lh hxx
 have y2 : w5.cell? ⟨w4.heap.size, 2, none⟩ = some (.slice a.o.a a.o.l.length a.o.c) := by simp [World.cell?, hxx]
 have HBE := Lh hbe
 have HB5W : Hid (Below W.heap.size W w5) := Lh (HB4W.out.trans (hbe.mono HB4W.out.size))
 have HG5 : Hid (∀ V, Below w5.heap.size w5 V → TermsAt a.o.a a.o.l V ∧ BytesAt A4 wl V) := Lh fun V hV =>
  ⟨((HG.out V (HB5W.out.trans (hV.mono HB5W.out.size))).1.acts.it a (List.mem_of_getElem? HAI.out)).2, bytes_own HO4.out HUW.out (by omega) V fun k hk => by
   obtain ⟨q1, q2, -⟩ := own_ty HO4.out hk
   exact (hV.block k (Nat.lt_of_lt_of_le q2 HBE.out.size)).trans (HBE.out.block k q2)⟩
 have HNT : Hid (∀ t ∈ a.o.l, NumsOk t.L) := Lh fun t ht => (HTA.out t.L (List.mem_map.2 ⟨t, ht, rfl⟩)).1
 obtain ⟨o6, ho6⟩ : ∃ y, wrB a.o.L wl = y := ⟨_, rfl⟩
 have HO6E := Lh ho6
 have hrw := rwrite_st w5 a.o c4 HG5 HNT (by omega) (by omega)
 rw [ho6] at hrw
 have HO6N : Hid (o6.length ≤ 64) := Lh (by
  rw [← ho6]
  have h1 := wrB_len a.o.L wl
  have h2 : a.o.L.length = a.o.l.length := List.length_map _
  omega)
 have hl5' : w4.heap.size < w5.heap.size := (Array.getElem?_eq_some_iff.1 hxx).1
 have HS5 : Hid (w4.heap.size < w5.heap.size) := Lh hl5'
 clear hbe hxx hw5 ho6 hl5' g0 g1 g2 e257
 go_wp2_with fail
 refine hrw.mono ?_
 clear hrw
 rintro e w6 ⟨A6, c6, rfl, HO6, HB6⟩
 obtain ⟨en, hen⟩ : ∃ en : Nat, a.e = (en : Int) := Int.eq_ofNat_of_zero_le (by have h := HAK.out.1; have : a.L.eat = a.e := rfl; omega)
 have hen1 : 1 ≤ en := by have h := HAK.out.1; have : a.L.eat = a.e := rfl; omega
 have HHL : n.L.held = (s.held.length : Int) := by
  have q1 := HT.out.2.2.held
  have q2 := (HT.out.2.1.nodes n.L (List.mem_of_getElem? HLN.out)).1.1
  unfold heldL at q1
  rw [HLN.out] at q1
  simp only at q1
  omega
 have hen2 : en ≤ wl.length := by
  have h := HEA.out
  have : a.L.eat = a.e := rfl
  have := HWN.out
  omega
 obtain ⟨dn, hdn⟩ : ∃ dn : Nat, a.d = (dn : Int) := Int.eq_ofNat_of_zero_le HAK.out.2.2.1
 have HST : Drv.step (drvM T.L) s yn = (⟨dn, [], false⟩, o6, wl.drop en) := by
  have e1 : (-2 - nx3).toNat = an := by omega
  have e2 : actL T.L an = a.L := actL_at HAL.out
  have e3 : (drvM T.L).dst an = dn := by show (actL T.L an).dest.toNat = dn; rw [e2]; show a.d.toNat = dn; omega
  have e4 : (drvM T.L).eat an = en := by show (actL T.L an).eat.toNat = en; rw [e2]; show a.e.toNat = en; omega
  have e5 : ∀ w, (drvM T.L).wr an w = wrB a.o.L w := fun w => by show wrB (actL T.L an).out w = _; rw [e2]; rfl
  unfold Drv.step
  rw [show (drvM T.L).nxt s.node yn = nx3 from HNX.out, if_neg (by omega), if_neg h1, e1, e3, e4, e5, HWL.out, HO6E.out, Nat.max_eq_right hen1]
 rw [HST] at HGo HOK
 have h6 : w6.heap[w4.heap.size]? = some (.cells #[.int .i64 a.e, .int .i64 a.d, .slice a.o.a a.o.l.length a.o.c] 59 (0, 0)) := (HB6.out.block _ HS5.out).trans HXX.out
 rw [hen, hdn] at h6
 have HX6 := Lh h6
 have HLT4 : W.heap.size + 1 < w4.heap.size := by have := HLT.out; omega
 have z1 : w6.cell? ⟨w4.heap.size, 1, none⟩ = some (.int .i64 dn) := by simp [World.cell?, h6]
 have HB46 : Hid (Below w4.heap.size w4 w6) := Lh (HBE.out.trans (HB6.out.mono HBE.out.size))
 have HT6 : Hid (RdB W.heap.size (rdC cs s.node ha hc s.held cl false) w6) := Lh (HT4.out.keep (HB46.out.block _ HT4.out.lt))
 have f1 := HT6.out.fz 259
 have p1 := HT6.out.cNode hs
 have b2 := HT6.out.setNode hs (dn : Int)
 have p2 := b2.cHeld hs
 have f2 := b2.fz 260
 obtain ⟨w7, hw7⟩ : ∃ y, (w6.setCell ⟨W.heap.size, 259, none⟩ (.int .i64 (dn : Int))).setCell ⟨W.heap.size, 260, none⟩ (.slice none 0 0) = y := ⟨_, rfl⟩
 have hst : ∀ k, k ≠ W.heap.size → w7.heap[k]? = w6.heap[k]? := fun k hk => by
  rw [← hw7, heap_setCell_other _ _ _ _ hk, heap_setCell_other _ _ _ _ hk]
 have hs7 : w7.heap.size = w6.heap.size := by rw [← hw7]; simp
 have HT7 : Hid (RdB W.heap.size (rdC cs dn none 0 [] cl false) w7) := Lh (by rw [← hw7]; exact b2.setHeld hs none 0 [])
 have z0 : w7.cell? ⟨w4.heap.size, 0, none⟩ = some (.int .i64 en) := by
  have h := (hst w4.heap.size (by omega)).trans h6
  simp [World.cell?, h]
 have HI0 : Hid (TkI cs T cl s yn z W wb.heap.size A4 c4 wl en en ⟨dn, [], false⟩ none 0 A6 c6 o6 w7) := Lh (by
  have q := HLT.out
  have q5 := HS5.out
  have q6 := HB6.out.size
  refine ⟨HT7.out, ?_, ?_, ?_, fun k hk e => ?_, ?_, by omega, fun V _ => BytesAt.nil_ _ _, HOK.out, by simp, by rw [HGo.out]; simp⟩
  ·exact (HR4.out.keep (HB46.out.block _ HR4.out.lt)).keep (hst _ (by omega))
  ·exact own_keep (own_mono HO6.out (by omega)) fun k hk => hst k (by have := (own_ty HO6.out hk).1; omega)
  ·exact own_keep (own_keep HO4.out fun k hk => HB46.out.block k (own_ty HO4.out hk).2.1) fun k hk => hst k (by have := (own_ty HO4.out hk).1; omega)
  ·have := (own_ty HO4.out hk).2.1; have := (own_ty HO6.out e).1; omega
  ·rw [← hw7]; exact setCell_below (setCell_below (HB5W.out.trans (HB6.out.mono HB5W.out.size)) (Nat.le_refl _) _ _) (Nat.le_refl _) _ _)
 clear b2 h6 hst hs7 HGo HOK HST HXX HX6 HTA HAI HAL HEA HAK HG5 HNT HO6E hen hdn HHL hsb hani hal4 hn64 HLT4
 go_wp2_with fail
 (try rw [hw7])
 go_loopw [9, 10] (fun ov iv wr => ∃ (i : Nat) (sc : Drv.S) (hak : Option Addr) (hck : Nat) (A : Option Addr) (c : Nat) (o : List Int), i ≤ wl.length ∧ en ≤ i ∧ iv = .int .i64 i ∧ ov = .slice A o.length c ∧ o.length ≤ 64 + 320 * i ∧ Hid (TkI cs T cl s yn z W wb.heap.size A4 c4 wl en i sc hak hck A c o wr)) (fun _ iv _ => wl.length - (intOf iv).toNat)
 case atStart => exact ⟨en, ⟨dn, [], false⟩, none, 0, A6, c6, o6, hen2, Nat.le_refl _, rfl, rfl, by have := HO6N.out; omega, HI0⟩
 case round =>
 clear HI0 z0 z1 y2 f1 f2 p1 p2 HT7 HT6 HB6 HO6 HB46 hw7
 obtain ⟨i, sc, hak, hck, A, c, o, hi1, hi2, rfl, rfl, hol, HIr⟩ := hrel
 obtain ⟨C2, hC2⟩ : ∃ y, rdC cs sc.node hak hck sc.held cl sc.rej = y := ⟨_, rfl⟩
 have HC2 := Lh hC2
 have HC2S : Hid (C2.size = 263 ∧ C2.all (·.oneCell') = true) := Lh (by rw [← hC2]; exact ⟨rdC_size hs, rdC_one HT.out.1⟩)
 have HI2 : Hid ((Tryz.prog.info? 81).map (·.size) = some C2.size) := Lh (by rw [HC2S.out.1]; exact info_refS)
 have HBX : Hid (RdB W.heap.size C2 wr) := Lh (by rw [← hC2]; exact HIr.out.box)
 clear hC2
 by_cases hlt : i < wl.length
 case neg =>
  have hd1 : decide ((i : Int) < (wl.length : Int)) = false := by simp; omega
  have hd2 : ¬ (i : Int) < (wl.length : Int) := by omega
  have HE : Hid (Drv.go (drvM T.L) s [(yn : Int)] = (sc, o)) := Lh (by
   rw [HIr.out.go, List.drop_eq_nil_of_le (by omega), Drv.go_nil]; simp)
  have HOL2 : Hid (z.size = C2.size) := Lh (by rw [HC2S.out.1, HZS.out])
  have HRS : Hid (RdB (W.heap.size + 1) z wr) := Lh HIr.out.res
  go_wp2_with (first
   | (refine wpList_load_row rfl 81 _ rfl W.heap.size rfl _ C2 _ _ HBX.out Tryz.underlying81 rfl HI2.out ?_)
   | (refine wpList_store_row rfl 81 _ _ rfl (W.heap.size + 1) C2 rfl rfl 81 z HRS.out HI2.out HOL2.out HC2S.out.2 ?_))
  refine tk_end (v := .slice A o.length c) rfl rfl rfl HRS.out HC2S.out.1 ⟨A, c, hak, hck, ?_, Lh (setRow_below HIr.out.bel (by omega) _), Lh ?_, Lh ?_⟩
  ·rw [HE.out]
   show _ = Ending.returned (.tuple #[.agg (rdC cs sc.node hak hck sc.held cl sc.rej), .slice A o.length c])
   rw [HC2.out]
  ·rw [HE.out]
   have q := HLT.out
   exact own_keep (own_mono HIr.out.row (by omega)) fun k hk => setRow_other _ _ _ _ (by have := (own_ty HIr.out.row hk).1; omega)
  ·rw [HE.out]
   intro V hV
   exact HIr.out.hld V fun k hk hl => (hV k hk.1 (by simpa [World.setRow] using hl)).trans (setRow_other _ _ _ _ hk.2.2.1)
 have hlti : (i : Int) < (wl.length : Int) := by omega
 have HWB : Hid (BytesAt A4 wl wr) := Lh (bytes_own HIr.out.win HUW.out (by omega) wr fun _ _ => rfl)
 obtain ⟨b4, f4, x, rfl, hx, hx0, hx1, hcx⟩ := HWB.out.at_ hlt
 obtain ⟨⟨sn, on⟩, hgx⟩ : ∃ y, Drv.go (drvM T.L) sc [x] = y := ⟨_, rfl⟩
 have HGX := Lh hgx
 have HDR : Hid (wl.drop i = x :: wl.drop (i + 1)) := Lh (by
  have h := (List.getElem?_eq_some_iff.1 hx)
  rw [← h.2]; exact List.drop_eq_getElem_cons h.1)
 have HGN : Hid (Drv.go (drvM T.L) s [(yn : Int)] = ((Drv.go (drvM T.L) sn (wl.drop (i + 1))).1, (o ++ on) ++ (Drv.go (drvM T.L) sn (wl.drop (i + 1))).2)) := Lh (by
  rw [HIr.out.go, HDR.out, Drv.go_one, hgx]; simp [List.append_assoc])
 have HOKN : Hid (Drv.Ok (heldL T.L) T.L.nodes.length sn) := Lh (by
  have h := Drv.Ok.go (drv_right HT.out.2.1) sc [x] HIr.out.ok
  rwa [hgx] at h)
 have HLN2 : Hid (sn.held.length + en ≤ i + 1) := Lh (by
  have h := go_held (drvM T.L) sc [x]
  rw [hgx] at h
  have h2 := HIr.out.len
  simp only [List.length_singleton] at h
  omega)
 have HONL : Hid (on.length ≤ 320) := Lh (by
  have h := go_len HT.out.2.1 HIr.out.ok [x]
  rw [hgx] at h
  have h2 : sc.held.length ≤ 4 := drv_len HT.out.2.1 HIr.out.ok
  simp only [List.length_singleton] at h
  omega)
 have HCALL : Hid (Calls Tryz.prog 104 #[.agg C2, .int .u8 x] wr.drew (RetTk cs T sc cl x wr.drew)) := Lh (by
  rw [← HC2.out]
  refine IH.out sc.held.length (by have := HIr.out.len; have := HN.out; have := HWN.out; omega) wr.drew cs T sc cl hak hck x rfl (Lh ⟨HT.out.1, HT.out.2.1, HIr.out.ok⟩) (Lh fun V hV => ?_) (Lh ⟨hx0, hx1⟩)
  have hV2 : Below wr.heap.size wr V := (Below.refl wr.heap.size wr).drew.trans hV
  exact ⟨(HG.out V (HIr.out.bel.trans (hV2.mono HIr.out.bel.size))).1, HIr.out.hld V fun k _ hl => hV2.block k hl⟩)
 have HTBL : Hid (W.heap.size < wr.heap.size) := Lh HIr.out.box.lt
 clear hx hgx HC2
 go_upto_region 24 with fail
 refine wp_region_Y 9 (by kernel_rfl) (fun V => Hid (RdB W.heap.size C2 V) ∧ V.cell? ⟨b4, f4 + i, none⟩ = some (.int .u8 x)) (fun _ => True) ⟨Lh HBX.out, hcx⟩ (fun hHeld => ?_)
 refine wpAnyY_take (i := 0) (v := .agg C2) [9, 10] rfl (by kernel_rfl) (by kernel_rfl) (by kernel_rfl) (by kernel_rfl) (by kernel_rfl) (fun _ _ _ h => h) (Or.inl ⟨by first | kernel_rfl | rfl, ?_⟩) (fun _ _ => trivial) (by assumption) ?_
 ·intro w hSw
  exact exec_load_part 81 (.tmp 2) rfl W.heap.size 0 rfl C2 _ (fun j v h => by rw [Nat.zero_add]; exact hSw.1.out.cell h) Tryz.underlying81 rfl HI2.out
 (try simp only [Act.put, zq1, zq2, zq3, zq4, zq5, zq6])
 refine yt (v := ?_) 1 rfl ?_ (fun _ _ => trivial) ?_
 rotate_left
 ·intro w hSw; (try dsimp only at hSw); go_simp; (try with_reducible rfl)
 (try simp only [Act.put, zq1, zq2, zq3, zq4, zq5, zq6])
 refine yt (v := ?_) 2 rfl ?_ (fun _ _ => trivial) ?_
 rotate_left
 ·intro w hSw; (try dsimp only at hSw); go_simp; (try with_reducible rfl)
 (try simp only [Act.put, zq1, zq2, zq3, zq4, zq5, zq6])
 refine yt (v := ?_) 3 rfl ?_ (fun _ _ => trivial) ?_
 rotate_left
 ·intro w hSw; (try dsimp only at hSw); go_simp; (try with_reducible rfl)
 (try simp only [Act.put, zq1, zq2, zq3, zq4, zq5, zq6])
 refine yk (v := ?_) 4 [9, 10] rfl ?_ (fun _ _ => trivial) ?_
 rotate_left
 ·intro w hSw; (try dsimp only at hSw); go_simp; (try with_reducible rfl)
 (try simp only [Act.put, zq1, zq2, zq3, zq4, zq5, zq6])
 refine wpAnyY_ready (i := 5) (by kernel_rfl) rfl (fun _ _ => trivial) (fun K hK => ?_)
 go_simp
 refine HCALL.out.mono ?_
 rintro e w6 ⟨An, cx, hxa, hxc, rfl, HB6, HO6, HD6⟩
 rw [HGX.out] at HO6 HD6
 rw [HGX.out]
 simp only at HO6 HD6 ⊢
 obtain ⟨C3, hC3⟩ : ∃ y, rdC cs sn.node hxa hxc sn.held cl sn.rej = y := ⟨_, rfl⟩
 rw [hC3]
 have HC3 := Lh hC3
 have HC3S : Hid (C3.size = 263 ∧ C3.all (·.oneCell') = true) := Lh (by rw [← hC3]; exact ⟨rdC_size hs, rdC_one HT.out.1⟩)
 have HI3 : Hid ((Tryz.prog.info? 81).map (·.size) = some C3.size) := Lh (by rw [HC3S.out.1]; exact info_refS)
 have HOL3 : Hid (C2.size = C3.size) := Lh (by rw [HC2S.out.1, HC3S.out.1])
 have HBR : Hid (Below wr.heap.size wr w6) := Lh ((Below.refl wr.heap.size wr).drew.trans HB6.out)
 have HBX6 : Hid (RdB W.heap.size C2 w6) := Lh (HBX.out.keep (HBR.out.block _ HTBL.out))
 have hc6 : w6.cell? ⟨b4, f4 + i, none⟩ = some (.int .u8 x) := (HBR.out.cell (lt_of_cell hcx)).trans hcx
 clear hC3 HCALL
 refine hK.out _ _ (⟨Lh HBX6.out, hc6⟩) (fun hHeld => ?_)
 clear hK K
 (try simp only [Act.put, zq1, zq2, zq3, zq4, zq5, zq6])
 refine yt (v := ?_) 6 rfl ?_ (fun _ _ => trivial) ?_
 rotate_left
 ·intro w hSw; (try dsimp only at hSw); go_simp; (try with_reducible rfl)
 (try simp only [Act.put, zq1, zq2, zq3, zq4, zq5, zq6])
 refine yt (v := ?_) 7 rfl ?_ (fun _ _ => trivial) ?_
 rotate_left
 ·intro w hSw; (try dsimp only at hSw); go_simp; (try with_reducible rfl)
 (try simp only [Act.put, zq1, zq2, zq3, zq4, zq5, zq6])
 refine yt (v := ?_) 8 rfl ?_ (fun _ _ => trivial) ?_
 rotate_left
 ·intro w hSw; (try dsimp only at hSw); go_simp; (try with_reducible rfl)
 (try simp only [Act.put, zq1, zq2, zq3, zq4, zq5, zq6])
 refine wpAnyY_late (i := 9) (by kernel_rfl) (by kernel_rfl) rfl (fun K hK => ?_)
 (try rw [if_pos (by kernel_rfl)])
 refine wp_store_row 81 _ _ rfl W.heap.size C3 rfl rfl 81 C2 HBX6.out HI3.out HOL3.out HC3S.out.2 ?_
 obtain ⟨w7, hw7⟩ : ∃ y, w6.setRow W.heap.size C3 = y := ⟨_, rfl⟩
 rw [hw7]
 refine hK.out _ _ (trivial) ?_
 clear hK K
 (try simp only [Act.put, zq1, zq2, zq3, zq4, zq5, zq6])
 refine wpAnyY_last (i := 10) (by kernel_rfl) (by kernel_rfl) (by kernel_rfl) rfl (fun K hK => ?_)
 go_simp
 refine hK.out _ _ trivial ?_
 clear hK K hHeld
 have hst : ∀ k, k ≠ W.heap.size → w7.heap[k]? = w6.heap[k]? := fun k hk => by rw [← hw7]; exact setRow_other _ _ _ _ hk
 have hs7 : w7.heap.size = w6.heap.size := by rw [← hw7]; simp [World.setRow]
 have HST := Lh hst
 have HS7 := Lh hs7
 have HBX7 : Hid (RdB W.heap.size C3 w7) := Lh (by rw [← hw7]; exact HBX6.out.row C3)
 have HBW7 : Hid (Below W.heap.size W w7) := Lh (by rw [← hw7]; exact setRow_below (HIr.out.bel.trans (HBR.out.mono HIr.out.bel.size)) (Nat.le_refl _) _)
 have HSZ2 : Hid (wb.heap.size ≤ wr.heap.size ∧ wr.heap.size ≤ w6.heap.size ∧ W.heap.size + 1 < wb.heap.size) := Lh ⟨HIr.out.sz, HBR.out.size, HLT.out.1⟩
 have HOA : Hid (w7.ownsRow wb.heap.size 5 1 (.slice A o.length c) o.length (o.map (Value.int .u8))) := Lh (own_keep (own_keep HIr.out.row fun k hk => HBR.out.block k (own_ty HIr.out.row hk).2.1) fun k hk => hst k (by have := (own_ty HIr.out.row hk).1; have := HLT.out; omega))
 have HSLN : Hid (Sl w7 1 An on.length (on.map (Value.int .u8))) := Lh (Sl.of_own (own_keep HO6.out fun k hk => hst k (by have h := (own_ty HO6.out hk).1; have := HTBL.out; have h2 : wr.heap.size ≤ k := h; omega)))
 have honl := HONL.out
 have h63 : o.length + on.length ≤ maxLen := by unfold maxLen; omega
 have hby : (o.length + on.length) * 1 ≤ 140737488355328 := by omega
 have hbw : wb.heap.size ≤ w7.heap.size := by have := HSZ2.out; omega
 obtain ⟨i0, hi, hz0, hz1, hz2⟩ := info_parts infoByteD
 clear hst hs7 hw7 honl hc6 hcx
 go_wp2_with (at_builtin; go_must (refine wpList_append_slN _ rfl _ _ 79 rfl wb.heap.size 5 i0 _ 1 1 Tryz.underlying79 hi hz0 hz1 hz2 rfl (by decide) HOA.out rfl HSLN.out rfl (bytes_one on) h63 hby hbw ?_); intro A8 c8 w8 HO8 HG8 HN8)
 go_roundw
 case rel =>
  have q2 := HSZ2.out
  have q7 := HS7.out
  have q8 := HG8.out.size
  have hA : ∀ k, ownA A = some k → wb.heap.size ≤ k ∧ k < wr.heap.size := fun k hk => ⟨(own_ty HIr.out.row hk).1, (own_ty HIr.out.row hk).2.1⟩
  have h78 : ∀ k, k < w7.heap.size → ownA A ≠ some k → w8.heap[k]? = w7.heap[k]? := fun k hk hn => HG8.out.block k hk fun e => hn e.symm
  refine ⟨i + 1, sn, hxa, hxc, A8, c8, o ++ on, by omega, by omega, by go_num, by rw [List.length_append], by rw [List.length_append]; have := HONL.out; omega, Lh ⟨?_, ?_, ?_, ?_, fun k hk e => ?_, ?_, by omega, fun V hV => ?_, HOKN.out, HLN2.out, HGN.out⟩⟩
  ·rw [HC3.out]
   exact HBX7.out.keep (h78 _ HBX7.out.lt fun e => by have := hA _ e; omega)
  ·have r1 := (HIr.out.res.keep (HBR.out.block _ HIr.out.res.lt)).keep (HST.out _ (by omega))
   exact r1.keep (h78 _ r1.lt fun e => by have := hA _ e; omega)
  ·rw [List.length_append, List.map_append]; exact HO8.out
  ·have r1 := own_keep (own_keep HIr.out.win fun k hk => HBR.out.block k (own_ty HIr.out.win hk).2.1) fun k hk => HST.out k (by have := (own_ty HIr.out.win hk).1; omega)
   exact own_keep r1 fun k hk => h78 k (own_ty r1 hk).2.1 (HIr.out.ne k hk)
  ·rcases HN8.out with h | ⟨g, h, hg⟩
   ·rw [h] at e; exact HIr.out.ne k hk e
   ·rw [h] at e; injection e with e; have := (own_ty HIr.out.win hk).2.1; omega
  ·exact HBW7.out.grown HG8.out HBW7.out.size fun k hk => by have := hA k hk; omega
  ·refine HD6.out V fun k hk hl => ?_
   have hk' : wr.heap.size ≤ k := hk
   have n1 : ownA A ≠ some k := fun e => by have := hA k e; omega
   rw [hV k ⟨by omega, by omega, by omega, fun e => ?_⟩ (by omega), h78 k (by omega) n1, HST.out k (by omega)]
   rcases HN8.out with h | ⟨g, h, hg⟩
   ·rw [h] at e; exact n1 e
   ·rw [h] at e; injection e with e; omega
 case measure => simp [intOf]; omega
def rdV (cs : Array Value) (s : DrvS) (ha : Option Addr) (hc : Nat) : Array Value := rdC cs s.1.node ha hc s.1.held s.2 s.1.rej
def RetRW (D : Nat → Prop) (cs : Array Value) (r : DrvS × List Int × Int) (W : World) (e : Ending) (W' : World) : Prop :=
 ∃ A c ha' hc', e = .returned (.tuple #[.agg (rdV cs r.1 ha' hc'), .slice A r.2.1.length c, .int .i64 r.2.2]) ∧ Hid (Below W.heap.size W W') ∧
  Hid (W'.ownsRow W.heap.size 5 1 (.slice A r.2.1.length c) r.2.1.length (r.2.1.map (Value.int .u8))) ∧ Hid (Dep (fun k => ¬ D k) W' (BytesAt ha' r.1.1.held))
theorem rw_end {Q : Ending → World → Prop} {a : Act} {Wx : World} {rb : Nat} {v u : Value} (hd : a.defers = []) (h2 : a.tmps.getD 4 undef = .pointer (some ⟨rb, 0, none⟩)) (h3 : a.tmps.getD 5 undef = v) (h4 : a.tmps.getD 6 undef = u) {old : Array Value} (hg : Wx.heap[rb]? = some (.cells old 81 (0, 0)))
  {C : Array Value} (hC : C.size = 263) (hq : Q (.returned (.tuple #[.agg C, v, u])) (Wx.setRow rb C)) : bodyPost Tryz.prog Tryz.f43 Q .ret a (Wx.setRow rb C) :=
 bodyPost_ret (v := .tuple #[.agg C, v, u]) (results_row3 rfl _ _ _ _ _ _ _ _ _ h2 h3 h4 (setRow_heap _ _ _ _ _ _ hg) Tryz.underlying81 rfl (by rw [hC]; exact info_refS)) hd hq
structure RwJ (D : Nat → Prop) (cs : Array Value) (T : TabI) (s0 : Drv.S) (bl : List Int) (z : Array Value) (W : World) (nb i : Nat) (sc : Drv.S) (ha : Option Addr) (hc : Nat) (A : Option Addr) (c : Nat) (o : List Int) (wr : World) : Prop where
 box : RdB W.heap.size (rdC cs sc.node ha hc sc.held false sc.rej) wr
 res : RdB (W.heap.size + 1) z wr
 row : wr.ownsRow nb 5 1 (.slice A o.length c) o.length (o.map (Value.int .u8))
 bel : Below W.heap.size W wr
 sz : nb ≤ wr.heap.size
 hld : Dep (fun k => ¬ D k ∧ k ≠ W.heap.size ∧ k ≠ W.heap.size + 1 ∧ ownA A ≠ some k) wr (BytesAt ha sc.held)
 ok : Drv.Ok (heldL T.L) T.L.nodes.length sc
 go : Drv.go (drvM T.L) s0 bl = ((Drv.go (drvM T.L) sc (bl.drop i)).1, o ++ (Drv.go (drvM T.L) sc (bl.drop i)).2)
theorem rWrite_st (D : Nat → Prop) (W : World) (cs : Array Value) (T : TabI) (s : DrvS) (ha : Option Addr) (hc : Nat) {B : Option Addr} {bl : List Int} (bc : Nat) (HT : Hid (TabC cs T ∧ TabOk T.L ∧ Drv.Ok (heldL T.L) T.L.nodes.length s.1)) (HG0 : Hid (∀ V, Below W.heap.size W V → TabW T V ∧ BytesAt B bl V)) (HH : Hid (Dep (fun k => ¬ D k) W (BytesAt ha s.1.held))) (HD : Hid (∀ k, D k → k < W.heap.size)) (hbl : bl.length ≤ 4096) :
  Calls Tryz.prog 43 #[.agg (rdV cs s ha hc), .slice B bl.length bc] W (RetRW D cs (wrS T.L s bl) W) := by
 have HG : Hid (∀ V, Below W.heap.size W V → TabW T V ∧ BytesAt ha s.1.held V ∧ BytesAt B bl V) := Lh fun V hV => ⟨(HG0.out V hV).1, HH.out.st V hV, (HG0.out V hV).2⟩
 have hs : cs.size = 259 := HT.out.1.size
 obtain ⟨z, hz⟩ : ∃ z, z = zeroR := ⟨_, rfl⟩
 have HZ : Hid ((Tryz.prog.info? 81).map (fun i => i.zero) = some (some (.agg z))) := Lh (by rw [hz]; exact info_refZ)
 have HZS : Hid (z.size = 263) := Lh (by rw [hz]; exact zeroR_size)
 clear hz
 obtain ⟨⟨s0, sc0⟩, hse⟩ : ∃ y, s = y := ⟨_, rfl⟩
 subst hse
 simp only at HT HG HH
 unfold rdV
 simp only
 obtain ⟨wa, hwa⟩ : ∃ y, W.alloc (.cells (rdC cs s0.node ha hc s0.held sc0 s0.rej) 81) = y := ⟨_, rfl⟩
 obtain ⟨wb, hwb⟩ : ∃ y, wa.alloc (.cells z 81) = y := ⟨_, rfl⟩
 have hsa : wa.heap.size = W.heap.size + 1 := by rw [← hwa]; simp
 have hsb : wb.heap.size = W.heap.size + 2 := by rw [← hwb]; simp [hsa]
 have HBA : Hid (Below W.heap.size W wa) := Lh (by rw [← hwa]; exact (Below.refl _ _).alloc (Nat.le_refl _) _)
 have HBB : Hid (Below W.heap.size W wb) := Lh (by rw [← hwb]; exact HBA.out.alloc (by omega) _)
 have HRB : Hid (RdB (W.heap.size + 1) z wb) := Lh (by rw [← hsa, ← hwb]; exact heap_alloc_new wa _)
 have HTB : Hid (RdB W.heap.size (rdC cs s0.node ha hc s0.held sc0 s0.rej) wb) := Lh (by
  have h1 : wa.heap[W.heap.size]? = some (.cells (rdC cs s0.node ha hc s0.held sc0 s0.rej) 81 (0, 0)) := by rw [← hwa]; exact heap_alloc_new W _
  rw [← hwb]
  exact (Below.heap_alloc _ _ _ (by omega)).trans h1)
 obtain ⟨C0, hC0⟩ : ∃ y, rdC cs s0.node ha hc s0.held sc0 s0.rej = y := ⟨_, rfl⟩
 have c262 := HTB.out.cRj hs
 have c261 := HTB.out.cCl hs
 rw [hC0] at hwa ⊢
 have HC0 := Lh hC0
 have HC0S : Hid (C0.size = 263 ∧ C0.all (·.oneCell') = true) := Lh (by rw [← hC0]; exact ⟨rdC_size hs, rdC_one HT.out.1⟩)
 have HI : Hid ((Tryz.prog.info? 81).map (·.size) = some C0.size) := Lh (by rw [HC0S.out.1]; exact info_refS)
 have HOL : Hid (z.size = C0.size) := Lh (by rw [HC0S.out.1, HZS.out])
 have HTB0 : Hid (RdB W.heap.size C0 wb) := Lh (by rw [← hC0]; exact HTB.out)
 have HSZ : Hid (wa.heap.size = W.heap.size + 1 ∧ wb.heap.size = W.heap.size + 2) := Lh ⟨hsa, hsb⟩
 clear hC0 hsb
 go_enter Tryz.func43, Tryz.ntmps43
 rcases hrj : s0.rej with _ | _
 case true =>
  rw [hrj] at c262
  have HE : Hid (wrS T.L (s0, sc0) bl = ((s0, sc0), [], 7)) := Lh (by
   have h : errI (s0, sc0) = 7 := by unfold errI; simp [hrj]
   unfold wrS; rw [if_pos (by rw [h]; decide), h])
  clear hrj
  go_wp2_with (first
   | (refine wpList_allocZ rfl 81 rfl z HZ.out ?_)
   | (refine wpList_load_row rfl 81 _ rfl W.heap.size rfl _ C0 _ _ HTB0.out Tryz.underlying81 rfl HI.out ?_)
   | (refine wpList_store_row rfl 81 _ _ rfl (W.heap.size + 1) C0 rfl rfl 81 z HRB.out HI.out HOL.out HC0S.out.2 ?_))
  refine rw_end (v := .slice none 0 0) (u := .int .i64 7) rfl rfl rfl rfl HRB.out HC0S.out.1 ⟨none, 0, ha, hc, ?_, Lh (setRow_below HBB.out (by omega) _), Lh ?_, Lh fun V hV => ?_⟩
  ·rw [HE.out]
   show _ = Ending.returned (.tuple #[.agg (rdC cs s0.node ha hc s0.held sc0 s0.rej), .slice none 0 0, .int .i64 7])
   rw [HC0.out]
  ·rw [HE.out]; exact World.ownsRow_nil _ _ _ _
  ·rw [HE.out]
   exact HH.out V fun k hk hl => by
    have q := HSZ.out
    rw [hV k hk (by simp [World.setRow]; omega), setRow_other _ _ _ _ (by omega)]
    exact HBB.out.block k hl
 rw [hrj] at c262
 have HRJ := Lh hrj
 clear hrj
 rcases hcl : sc0 with _ | _
 case true =>
  rw [hcl] at c261
  have HCL := Lh hcl
  have HE : Hid (wrS T.L (s0, true) bl = ((s0, true), [], 8)) := Lh (by
   have h : errI (s0, true) = 8 := by unfold errI; simp [HRJ.out]
   unfold wrS; rw [if_pos (by rw [h]; decide), h])
  clear hcl
  go_wp2_with (first
   | (refine wpList_allocZ rfl 81 rfl z HZ.out ?_)
   | (refine wpList_load_row rfl 81 _ rfl W.heap.size rfl _ C0 _ _ HTB0.out Tryz.underlying81 rfl HI.out ?_)
   | (refine wpList_store_row rfl 81 _ _ rfl (W.heap.size + 1) C0 rfl rfl 81 z HRB.out HI.out HOL.out HC0S.out.2 ?_))
  refine rw_end (v := .slice none 0 0) (u := .int .i64 8) rfl rfl rfl rfl HRB.out HC0S.out.1 ⟨none, 0, ha, hc, ?_, Lh (setRow_below HBB.out (by omega) _), Lh ?_, Lh fun V hV => ?_⟩
  ·rw [HE.out]
   show _ = Ending.returned (.tuple #[.agg (rdC cs s0.node ha hc s0.held true s0.rej), .slice none 0 0, .int .i64 8])
   have h := HC0.out
   rw [HCL.out] at h
   rw [h]
  ·rw [HE.out]; exact World.ownsRow_nil _ _ _ _
  ·rw [HE.out]
   exact HH.out V fun k hk hl => by
    have q := HSZ.out
    rw [hV k hk (by simp [World.setRow]; omega), setRow_other _ _ _ _ (by omega)]
    exact HBB.out.block k hl
 rw [hcl] at c261
 have HCL := Lh hcl
 have HE : Hid (wrS T.L (s0, false) bl = (((Drv.go (drvM T.L) s0 bl).1, false), (Drv.go (drvM T.L) s0 bl).2, if (Drv.go (drvM T.L) s0 bl).1.rej then 7 else 0)) := Lh (by
  have h : errI (s0, false) = 0 := by unfold errI; simp [HRJ.out]
  unfold wrS; rw [if_neg (by rw [h]; decide)])
 have HI0 : Hid (RwJ D cs T s0 bl z W wb.heap.size 0 s0 ha hc none 0 [] wb) := Lh (by
  have h := HTB.out
  rw [hcl] at h
  refine ⟨h, HRB.out, World.ownsRow_nil _ _ _ _, HBB.out, Nat.le_refl _, fun V hV => ?_, HT.out.2.2, by simp⟩
  have q := HSZ.out
  exact HH.out V fun k hk hl => (hV k ⟨hk, by omega, by omega, fun e => (by cases e)⟩ (by omega)).trans (HBB.out.block k hl))
 clear hcl
 go_wp2_with (refine wpList_allocZ rfl 81 rfl z HZ.out ?_)
 (try rw [hwb])
 go_loopw [7, 8] (fun ov iv wr => ∃ (i : Nat) (sc : Drv.S) (hak : Option Addr) (hck : Nat) (A : Option Addr) (c : Nat) (o : List Int), i ≤ bl.length ∧ iv = .int .i64 i ∧ ov = .slice A o.length c ∧ o.length ≤ 320 * i ∧ Hid (sc.rej = false) ∧ Hid (RwJ D cs T s0 bl z W wb.heap.size i sc hak hck A c o wr)) (fun _ iv _ => bl.length - (intOf iv).toNat)
 case atStart => exact ⟨0, s0, ha, hc, none, 0, [], Nat.zero_le _, rfl, rfl, Nat.zero_le _, HRJ, HI0⟩
 case round =>
 clear HI0 c262 c261
 obtain ⟨i, sc, hak, hck, A, c, o, hi1, rfl, rfl, hol, HSR, HIr⟩ := hrel
 obtain ⟨C2, hC2⟩ : ∃ y, rdC cs sc.node hak hck sc.held false sc.rej = y := ⟨_, rfl⟩
 have HC2 := Lh hC2
 have HC2S : Hid (C2.size = 263 ∧ C2.all (·.oneCell') = true) := Lh (by rw [← hC2]; exact ⟨rdC_size hs, rdC_one HT.out.1⟩)
 have HI2 : Hid ((Tryz.prog.info? 81).map (·.size) = some C2.size) := Lh (by rw [HC2S.out.1]; exact info_refS)
 have HBX : Hid (RdB W.heap.size C2 wr) := Lh (by rw [← hC2]; exact HIr.out.box)
 have HLT : Hid (W.heap.size + 1 < wb.heap.size) := Lh (by have := HSZ.out; omega)
 clear hC2
 by_cases hlt : i < bl.length
 case neg =>
  have hd1 : decide ((i : Int) < (bl.length : Int)) = false := by simp; omega
  have hd2 : ¬ (i : Int) < (bl.length : Int) := by omega
  have HGE : Hid (Drv.go (drvM T.L) s0 bl = (sc, o)) := Lh (by
   rw [HIr.out.go, List.drop_eq_nil_of_le (by omega), Drv.go_nil]; simp)
  have HEE : Hid (wrS T.L (s0, false) bl = ((sc, false), o, 0)) := Lh (by rw [HE.out, HGE.out]; simp [HSR.out])
  have HOL2 : Hid (z.size = C2.size) := Lh (by rw [HC2S.out.1, HZS.out])
  have HRS : Hid (RdB (W.heap.size + 1) z wr) := Lh HIr.out.res
  go_wp2_with (first
   | (refine wpList_load_row rfl 81 _ rfl W.heap.size rfl _ C2 _ _ HBX.out Tryz.underlying81 rfl HI2.out ?_)
   | (refine wpList_store_row rfl 81 _ _ rfl (W.heap.size + 1) C2 rfl rfl 81 z HRS.out HI2.out HOL2.out HC2S.out.2 ?_))
  refine rw_end (v := .slice A o.length c) (u := .int .i64 0) rfl rfl rfl rfl HRS.out HC2S.out.1 ⟨A, c, hak, hck, ?_, Lh (setRow_below HIr.out.bel (by omega) _), Lh ?_, Lh fun V hV => ?_⟩
  ·rw [HEE.out]
   show _ = Ending.returned (.tuple #[.agg (rdC cs sc.node hak hck sc.held false sc.rej), .slice A o.length c, .int .i64 0])
   rw [HC2.out]
  ·rw [HEE.out]
   have q := HLT.out
   exact own_keep (own_mono HIr.out.row (by omega)) fun k hk => setRow_other _ _ _ _ (by have := (own_ty HIr.out.row hk).1; omega)
  ·rw [HEE.out]
   exact HIr.out.hld V fun k hk hl => (hV k hk.1 (by simpa [World.setRow] using hl)).trans (setRow_other _ _ _ _ hk.2.2.1)
 have hlti : (i : Int) < (bl.length : Int) := by omega
 obtain ⟨b4, f4, x, rfl, hx, hx0, hx1, hcx⟩ := (HG.out wr HIr.out.bel).2.2.at_ hlt
 obtain ⟨⟨sn, on⟩, hgx⟩ : ∃ y, Drv.go (drvM T.L) sc [x] = y := ⟨_, rfl⟩
 have HGX := Lh hgx
 have HDR : Hid (bl.drop i = x :: bl.drop (i + 1)) := Lh (by
  have h := (List.getElem?_eq_some_iff.1 hx)
  rw [← h.2]; exact List.drop_eq_getElem_cons h.1)
 have HGN : Hid (Drv.go (drvM T.L) s0 bl = ((Drv.go (drvM T.L) sn (bl.drop (i + 1))).1, (o ++ on) ++ (Drv.go (drvM T.L) sn (bl.drop (i + 1))).2)) := Lh (by
  rw [HIr.out.go, HDR.out, Drv.go_one, hgx]; simp [List.append_assoc])
 have HOKN : Hid (Drv.Ok (heldL T.L) T.L.nodes.length sn) := Lh (by
  have h := Drv.Ok.go (drv_right HT.out.2.1) sc [x] HIr.out.ok
  rwa [hgx] at h)
 have HONL : Hid (on.length ≤ 320) := Lh (by
  have h := go_len HT.out.2.1 HIr.out.ok [x]
  rw [hgx] at h
  have h2 : sc.held.length ≤ 4 := drv_len HT.out.2.1 HIr.out.ok
  simp only [List.length_singleton] at h
  omega)
 have HCALL : Hid (Calls Tryz.prog 104 #[.agg C2, .int .u8 x] wr.drew (RetTk cs T sc false x wr.drew)) := Lh (by
  rw [← HC2.out]
  refine take_st sc.held.length wr.drew cs T sc false hak hck x rfl (Lh ⟨HT.out.1, HT.out.2.1, HIr.out.ok⟩) (Lh fun V hV => ?_) (Lh ⟨hx0, hx1⟩)
  have hV2 : Below wr.heap.size wr V := (Below.refl wr.heap.size wr).drew.trans hV
  exact ⟨(HG.out V (HIr.out.bel.trans (hV2.mono HIr.out.bel.size))).1, HIr.out.hld V fun k _ hl => hV2.block k hl⟩)
 have HTBL : Hid (W.heap.size < wr.heap.size) := Lh HIr.out.box.lt
 clear hx hgx HC2
 go_upto_region 10 with fail
 refine wp_region_Y 9 (by kernel_rfl) (fun V => Hid (RdB W.heap.size C2 V) ∧ V.cell? ⟨b4, f4 + i, none⟩ = some (.int .u8 x)) (fun _ => True) ⟨Lh HBX.out, hcx⟩ (fun hHeld => ?_)
 refine wpAnyY_take (i := 0) (v := .agg C2) [9, 10] rfl (by kernel_rfl) (by kernel_rfl) (by kernel_rfl) (by kernel_rfl) (by kernel_rfl) (fun _ _ _ h => h) (Or.inl ⟨by first | kernel_rfl | rfl, ?_⟩) (fun _ _ => trivial) (by assumption) ?_
 ·intro w hSw
  exact exec_load_part 81 (.tmp 2) rfl W.heap.size 0 rfl C2 _ (fun j v h => by rw [Nat.zero_add]; exact hSw.1.out.cell h) Tryz.underlying81 rfl HI2.out
 (try simp only [Act.put, zq1, zq2, zq3, zq4, zq5, zq6])
 refine yt (v := ?_) 1 rfl ?_ (fun _ _ => trivial) ?_
 rotate_left
 ·intro w hSw; (try dsimp only at hSw); go_simp; (try with_reducible rfl)
 (try simp only [Act.put, zq1, zq2, zq3, zq4, zq5, zq6])
 refine yt (v := ?_) 2 rfl ?_ (fun _ _ => trivial) ?_
 rotate_left
 ·intro w hSw; (try dsimp only at hSw); go_simp; (try with_reducible rfl)
 (try simp only [Act.put, zq1, zq2, zq3, zq4, zq5, zq6])
 refine yt (v := ?_) 3 rfl ?_ (fun _ _ => trivial) ?_
 rotate_left
 ·intro w hSw; (try dsimp only at hSw); go_simp; (try with_reducible rfl)
 (try simp only [Act.put, zq1, zq2, zq3, zq4, zq5, zq6])
 refine yk (v := ?_) 4 [9, 10] rfl ?_ (fun _ _ => trivial) ?_
 rotate_left
 ·intro w hSw; (try dsimp only at hSw); go_simp; (try with_reducible rfl)
 (try simp only [Act.put, zq1, zq2, zq3, zq4, zq5, zq6])
 refine wpAnyY_ready (i := 5) (by kernel_rfl) rfl (fun _ _ => trivial) (fun K hK => ?_)
 go_simp
 refine HCALL.out.mono ?_
 rintro e w6 ⟨An, cx, hxa, hxc, rfl, HB6, HO6, HD6⟩
 rw [HGX.out] at HO6 HD6
 rw [HGX.out]
 simp only at HO6 HD6 ⊢
 obtain ⟨C3, hC3⟩ : ∃ y, rdC cs sn.node hxa hxc sn.held false sn.rej = y := ⟨_, rfl⟩
 rw [hC3]
 have HC3 := Lh hC3
 have HC3S : Hid (C3.size = 263 ∧ C3.all (·.oneCell') = true) := Lh (by rw [← hC3]; exact ⟨rdC_size hs, rdC_one HT.out.1⟩)
 have HI3 : Hid ((Tryz.prog.info? 81).map (·.size) = some C3.size) := Lh (by rw [HC3S.out.1]; exact info_refS)
 have HOL3 : Hid (C2.size = C3.size) := Lh (by rw [HC2S.out.1, HC3S.out.1])
 have HBR : Hid (Below wr.heap.size wr w6) := Lh ((Below.refl wr.heap.size wr).drew.trans HB6.out)
 have HBX6 : Hid (RdB W.heap.size C2 w6) := Lh (HBX.out.keep (HBR.out.block _ HTBL.out))
 have hc6 : w6.cell? ⟨b4, f4 + i, none⟩ = some (.int .u8 x) := (HBR.out.cell (lt_of_cell hcx)).trans hcx
 clear hC3 HCALL
 refine hK.out _ _ (⟨Lh HBX6.out, hc6⟩) (fun hHeld => ?_)
 clear hK K
 (try simp only [Act.put, zq1, zq2, zq3, zq4, zq5, zq6])
 refine yt (v := ?_) 6 rfl ?_ (fun _ _ => trivial) ?_
 rotate_left
 ·intro w hSw; (try dsimp only at hSw); go_simp; (try with_reducible rfl)
 (try simp only [Act.put, zq1, zq2, zq3, zq4, zq5, zq6])
 refine yt (v := ?_) 7 rfl ?_ (fun _ _ => trivial) ?_
 rotate_left
 ·intro w hSw; (try dsimp only at hSw); go_simp; (try with_reducible rfl)
 (try simp only [Act.put, zq1, zq2, zq3, zq4, zq5, zq6])
 refine yt (v := ?_) 8 rfl ?_ (fun _ _ => trivial) ?_
 rotate_left
 ·intro w hSw; (try dsimp only at hSw); go_simp; (try with_reducible rfl)
 (try simp only [Act.put, zq1, zq2, zq3, zq4, zq5, zq6])
 refine wpAnyY_late (i := 9) (by kernel_rfl) (by kernel_rfl) rfl (fun K hK => ?_)
 (try rw [if_pos (by kernel_rfl)])
 refine wp_store_row 81 _ _ rfl W.heap.size C3 rfl rfl 81 C2 HBX6.out HI3.out HOL3.out HC3S.out.2 ?_
 obtain ⟨w7, hw7⟩ : ∃ y, w6.setRow W.heap.size C3 = y := ⟨_, rfl⟩
 rw [hw7]
 refine hK.out _ _ (trivial) ?_
 clear hK K
 (try simp only [Act.put, zq1, zq2, zq3, zq4, zq5, zq6])
 refine wpAnyY_last (i := 10) (by kernel_rfl) (by kernel_rfl) (by kernel_rfl) rfl (fun K hK => ?_)
 go_simp
 refine hK.out _ _ trivial ?_
 clear hK K hHeld
 have hst : ∀ k, k ≠ W.heap.size → w7.heap[k]? = w6.heap[k]? := fun k hk => by rw [← hw7]; exact setRow_other _ _ _ _ hk
 have hs7 : w7.heap.size = w6.heap.size := by rw [← hw7]; simp [World.setRow]
 have HST := Lh hst
 have HS7 := Lh hs7
 have HBX7 : Hid (RdB W.heap.size C3 w7) := Lh (by rw [← hw7]; exact HBX6.out.row C3)
 have HBW7 : Hid (Below W.heap.size W w7) := Lh (by rw [← hw7]; exact setRow_below (HIr.out.bel.trans (HBR.out.mono HIr.out.bel.size)) (Nat.le_refl _) _)
 have HSZ2 : Hid (wb.heap.size ≤ wr.heap.size ∧ wr.heap.size ≤ w6.heap.size ∧ W.heap.size + 1 < wb.heap.size) := Lh ⟨HIr.out.sz, HBR.out.size, HLT.out⟩
 have HOA : Hid (w7.ownsRow wb.heap.size 5 1 (.slice A o.length c) o.length (o.map (Value.int .u8))) := Lh (own_keep (own_keep HIr.out.row fun k hk => HBR.out.block k (own_ty HIr.out.row hk).2.1) fun k hk => hst k (by have := (own_ty HIr.out.row hk).1; have := HLT.out; omega))
 have HSLN : Hid (Sl w7 1 An on.length (on.map (Value.int .u8))) := Lh (Sl.of_own (own_keep HO6.out fun k hk => hst k (by have h := (own_ty HO6.out hk).1; have := HTBL.out; have h2 : wr.heap.size ≤ k := h; omega)))
 have honl := HONL.out
 have h63 : o.length + on.length ≤ maxLen := by unfold maxLen; omega
 have hby : (o.length + on.length) * 1 ≤ 140737488355328 := by omega
 have hbw : wb.heap.size ≤ w7.heap.size := by have := HSZ2.out; omega
 obtain ⟨i0, hi, hz0, hz1, hz2⟩ := info_parts infoByteD
 clear hst hs7 hw7 honl hc6 hcx
 go_upto_region 12 with (at_builtin; go_must (refine wpList_append_slN _ rfl _ _ 79 rfl wb.heap.size 5 i0 _ 1 1 Tryz.underlying79 hi hz0 hz1 hz2 rfl (by decide) HOA.out rfl HSLN.out rfl (bytes_one on) h63 hby hbw ?_); intro A8 c8 w8 HO8 HG8 HN8)
 have HRES7 : Hid (RdB (W.heap.size + 1) z w7) := Lh ((HIr.out.res.keep (HBR.out.block _ HIr.out.res.lt)).keep (HST.out _ (by omega)))
 have HA : Hid (∀ k, ownA A = some k → wb.heap.size ≤ k ∧ k < wr.heap.size) := Lh fun k hk => ⟨(own_ty HIr.out.row hk).1, (own_ty HIr.out.row hk).2.1⟩
 have H78 : Hid (∀ k, k < w7.heap.size → ownA A ≠ some k → w8.heap[k]? = w7.heap[k]?) := Lh fun k hk hn => HG8.out.block k hk fun e => hn e.symm
 have HBX8 : Hid (RdB W.heap.size C3 w8) := Lh (HBX7.out.keep (H78.out _ HBX7.out.lt fun e => by have := HA.out _ e; have := HSZ2.out; omega))
 have HRES8 : Hid (RdB (W.heap.size + 1) z w8) := Lh (HRES7.out.keep (H78.out _ HRES7.out.lt fun e => by have := HA.out _ e; have := HSZ2.out; omega))
 have HBW8 : Hid (Below W.heap.size W w8) := Lh (HBW7.out.grown HG8.out HBW7.out.size fun k hk => by have := HA.out k hk; have := HSZ2.out; omega)
 have HD8 : Hid (Dep (fun k => ¬ D k ∧ k ≠ W.heap.size ∧ k ≠ W.heap.size + 1 ∧ ownA A8 ≠ some k) w8 (BytesAt hxa sn.held)) := Lh fun V hV => by
  have q2 := HSZ2.out
  have q7 := HS7.out
  have q8 := HG8.out.size
  refine HD6.out V fun k hk hl => ?_
  have hk' : wr.heap.size ≤ k := hk
  have n1 : ownA A ≠ some k := fun e => by have := HA.out k e; omega
  rw [hV k ⟨fun e => by have := HD.out k e; omega, by omega, by omega, fun e => ?_⟩ (by omega), H78.out k (by omega) n1, HST.out k (by omega)]
  rcases HN8.out with h | ⟨g, h, hg⟩
  ·rw [h] at e; exact n1 e
  ·rw [h] at e; injection e with e; omega
 have HO9 : Hid (w8.ownsRow wb.heap.size 5 1 (.slice A8 (o ++ on).length c8) (o ++ on).length ((o ++ on).map (Value.int .u8))) := Lh (by rw [List.length_append, List.map_append]; exact HO8.out)
 have c262 : w8.cell? ⟨W.heap.size, 262, none⟩ = some (.bool sn.rej) := by
  have h := HBX8.out
  rw [← HC3.out] at h
  exact h.cRj hs
 clear h63 hby
 rcases hrn : sn.rej with _ | _
 case true =>
  rw [hrn] at c262
  have HRN := Lh hrn
  have HGE : Hid (Drv.go (drvM T.L) s0 bl = (sn, o ++ on)) := Lh (by rw [HGN.out, Drv.go_rej _ _ hrn]; simp)
  have HEE : Hid (wrS T.L (s0, false) bl = ((sn, false), o ++ on, 7)) := Lh (by rw [HE.out, HGE.out]; simp [hrn])
  have HOL4 : Hid (z.size = C3.size) := Lh (by rw [HC3S.out.1, HZS.out])
  clear hrn
  go_wp2_with (first
   | (refine wpList_load_row rfl 81 _ rfl W.heap.size rfl _ C3 _ _ HBX8.out Tryz.underlying81 rfl HI3.out ?_)
   | (refine wpList_store_row rfl 81 _ _ rfl (W.heap.size + 1) C3 rfl rfl 81 z HRES8.out HI3.out HOL4.out HC3S.out.2 ?_))
  refine rw_end (v := .slice A8 (o.length + on.length) c8) (u := .int .i64 7) rfl rfl rfl rfl HRES8.out HC3S.out.1 ⟨A8, c8, hxa, hxc, ?_, Lh (setRow_below HBW8.out (by omega) _), Lh ?_, Lh fun V hV => ?_⟩
  ·rw [HEE.out]
   show _ = Ending.returned (.tuple #[.agg (rdC cs sn.node hxa hxc sn.held false sn.rej), .slice A8 (o ++ on).length c8, .int .i64 7])
   rw [HC3.out, List.length_append]
  ·rw [HEE.out]
   have q := HLT.out
   exact own_keep (own_mono HO9.out (by omega)) fun k hk => setRow_other _ _ _ _ (by have := (own_ty HO9.out hk).1; omega)
  ·rw [HEE.out]
   exact HD8.out V fun k hk hl => (hV k hk.1 (by simpa [World.setRow] using hl)).trans (setRow_other _ _ _ _ hk.2.2.1)
 rw [hrn] at c262
 have HRN := Lh hrn
 clear hrn
 go_wp2_with fail
 go_roundw
 case rel =>
  refine ⟨i + 1, sn, hxa, hxc, A8, c8, o ++ on, by omega, by go_num, by rw [List.length_append], by rw [List.length_append]; have := HONL.out; omega, HRN, Lh ⟨by rw [HC3.out]; exact HBX8.out, HRES8.out, HO9.out, HBW8.out, by have := HSZ2.out; have := HS7.out; have := HG8.out.size; omega, HD8.out, HOKN.out, HGN.out⟩⟩
 case measure => simp [intOf]; omega
def refT : List Value := [.int .i64 0, .slice none 0 0, .bool false, .bool false]
def refPl : Array (Nat × Nat) := #[(0, 259), (259, 1), (260, 1), (261, 1), (262, 1)]
theorem ref_built1 (v : Value) : Tryz.prog.built 81 [(0, v)] = Instr.fill (refPl[·]?) zeroR [(0, v)] := by kernel_rfl
theorem ref_built2 (v x : Value) : Tryz.prog.built 81 [(0, v), (4, x)] = Instr.fill (refPl[·]?) zeroR [(0, v), (4, x)] := by kernel_rfl
theorem fill_ref (cs : Array Value) (hs : cs.size = 259) (rest : List (Nat × Value)) : Instr.fill (refPl[·]?) zeroR ((0, .agg cs) :: rest) = Instr.fill (refPl[·]?) (cs.toList ++ refT).toArray rest := by
 have e1 : (Value.agg cs).cells = cs := rfl
 have e2 : (cs.zipIdx.foldl (fun (a : Array Value) (x : Value × Nat) => a.setIfInBounds (0 + x.2) x.1) zeroR) = (cs.toList ++ refT).toArray := by
  apply Array.ext_getElem?
  intro i
  have e3 : cs.zipIdx.foldl (fun (a : Array Value) (x : Value × Nat) => a.setIfInBounds (0 + x.2) x.1) zeroR = (cs.toList.zipIdx 0).foldl (fun (a : Array Value) (x : Value × Nat) => a.setIfInBounds (0 + x.2) x.1) zeroR := by
   rw [← Array.foldl_toList, Array.toList_zipIdx]
  have hl : cs.toList.length = 259 := by simp [hs]
  have er : (cs.toList ++ refT).toArray[i]? = (cs.toList ++ refT)[i]? := List.getElem?_toArray ..
  rw [e3, foldl_fill, zeroR_size, hl, er]
  by_cases h : i < 259
  ·rw [if_pos (by omega), List.getElem?_append_left (by omega), Nat.sub_zero]
  ·rw [if_neg (by omega), List.getElem?_append_right (by omega), hl]
   obtain ⟨j, rfl⟩ : ∃ j, i = 259 + j := ⟨i - 259, by omega⟩
   rw [Nat.add_sub_cancel_left]
   have h3 : zeroR[259 + j]? = refT[j]? := by
    have e4 : zeroR = (List.replicate 256 (Value.int .u8 0) ++ ([Value.slice none 0 0, .slice none 0 0, .slice none 0 0] ++ refT)).toArray := rfl
    rw [e4, List.getElem?_toArray, List.getElem?_append_right (by rw [List.length_replicate]; omega), List.length_replicate, show 259 + j - 256 = 3 + j by omega, List.getElem?_append_right (by simp)]
    simp
   exact h3
 show (if (Value.agg cs).cells.size ≠ 259 || 0 + (Value.agg cs).cells.size > zeroR.size then none else Instr.fill (refPl[·]?) ((Value.agg cs).cells.zipIdx.foldl (fun a (c, j) => a.setIfInBounds (0 + j) c) zeroR) rest) = _
 rw [e1, hs, zeroR_size, if_neg (by decide), e2]
theorem built_ref (cs : Array Value) (hs : cs.size = 259) : Tryz.prog.built 81 [(0, .agg cs)] = some (rdC cs 0 none 0 [] false false) := by
 rw [ref_built1, fill_ref cs hs]; rfl
theorem built_refR (cs : Array Value) (hs : cs.size = 259) : Tryz.prog.built 81 [(0, .agg cs), (4, .bool true)] = some (rdC cs 0 none 0 [] false true) := by
 rw [ref_built2, fill_ref cs hs]
 have hl : cs.toList.length = 259 := by simp [hs]
 have e : (#[Value.bool true].zipIdx.foldl (fun (a : Array Value) (x : Value × Nat) => a.setIfInBounds (262 + x.2) x.1) (cs.toList ++ refT).toArray) = (cs.toList ++ refT.set 3 (.bool true)).toArray := by
  show (cs.toList ++ refT).toArray.setIfInBounds (259 + 3) (.bool true) = _
  rw [List.setIfInBounds_toArray, List.set_append_right _ _ (by omega), hl, Nat.add_sub_cancel_left]
 have e2 : Instr.fill (refPl[·]?) (cs.toList ++ refT).toArray [(4, .bool true)] = (match refPl[4]? with
  | none => none
  | some (off, size) => if (Value.bool true).cells.size ≠ size || off + (Value.bool true).cells.size > (cs.toList ++ refT).toArray.size then none else Instr.fill (refPl[·]?) ((Value.bool true).cells.zipIdx.foldl (fun a (c, j) => a.setIfInBounds (off + j) c) (cs.toList ++ refT).toArray) []) := rfl
 rw [e2, show refPl[4]? = some (262, 1) from rfl, show (Value.bool true).cells = #[Value.bool true] from rfl]
 simp only
 rw [if_neg (by simp [hl, refT]), e]
 rfl
end Go.Proofs.YtlmkokeapbleoaaGreat
