/- Contract of pack.Pack. Condition: the table is known; fewer than 2^24 bytes. -/
import Derived.Test.YticfbbigljgjdaaWriterT
import Derived.Test.YticfbbigljgjdaaTabCheck2
import Derived.Lib.SlBytesConst
import Derived.Deep.RegionHeld3
import Derived.Deep.RegionLaw
namespace Go.Proofs.Yticfbbigljgjdaa
open Go.RowKit
set_option linter.unusedVariables false
set_option linter.unusedSimpArgs false
def bigN (n : NodeL) : Bool := bigs [n.held, n.fin] || bigs n.next
def bigA (a : ActL) : Bool := bigs [a.eat, a.dest] || bigT a.out
def bigTab (T : TabL) : Bool := (((bigs [(widthL T : Int), (T.nodes.length : Int), (T.acts.length : Int), (T.ends.length : Int)] || T.nodes.any bigN) || T.acts.any bigA) || T.ends.any bigT)
theorem own_cap {W : World} {base : Nat} {e : TypeId} {size n m c : Nat} {A : Option Addr} {xs : List Value} (h : W.ownsRow base e size (.slice A n c) m xs) : n ≤ c := by
  rcases h.2 with ⟨h1, _⟩ | ⟨g, cap, cur, h1, _, _, h2, _⟩
  · injection h1 with _ h3 h4; omega
  · injection h1 with _ h3 h4; omega
def PackOk (T : TabL) : Prop := TabOk T ∧ bigTab T = false
def RetPack (w0 : World) (T : TabL) (F : World → Prop) (e : Ending) (w' : World) : Prop :=
  (¬ PackOk T ∧ e = .returned (.tuple #[.slice none 0 0, .int .i64 2]) ∧ Hid (St w0 w' F)) ∨
  (PackOk T ∧ ∃ A c, (packB T).length ≤ c ∧ e = .returned (.tuple #[.slice A (packB T).length c, .int .i64 0]) ∧ Hid (St w0 w' (fun W => BytesAt A (packB T) W ∧ F W)))
/-- bytes behind the writer's row, as a step of a region that draws -/
theorem step_rowW {ops : Array Oper} {w : World} {o : Oper} {a : Act} {K : Act → World → Prop} {Q : Exit → Act → World → Prop} {E : Prop} (hgd : o.guard = none) (s x : Operand)
    (ho : o.op = .call { callee := .builtin .append, args := #[s, x], argTypes := #[30, 30] }) {base : Nat} {A : Option Addr} {c : Nat} {bs news : List Int}
    (hown : RowW w base (.slice A bs.length c) bs.length (bs.map (Value.int .u8))) (hs : a.eval s = .slice A bs.length c) (B : Addr) (m d : Nat) (hx : a.eval x = .slice (some B) m d) (hl : news.length = m) (hm : 0 < m)
    (hnews : ∀ j u, (news.map (Value.int .u8))[j]? = some u → w.cell? (B.add j) = some u) (hn : bs.length + m ≤ 1099511627776) (hbase : base ≤ w.heap.size)
    (h : ∀ A' c' w', Hid (w'.ownsRow base 5 1 (.slice A' (bs ++ news).length c') (bs ++ news).length ((bs ++ news).map (Value.int .u8))) → Hid (w.grownBy w' (Value.ownBlock (.slice A bs.length c))) →
      Hid (Value.ownBlock (.slice A' (bs ++ news).length c') = Value.ownBlock (.slice A bs.length c) ∨ Value.ownBlock (.slice A' (bs ++ news).length c') = some w.heap.size) → K (a.put o.dst (.slice A' (bs ++ news).length c')) w') :
    if Region.wanted o (yielded ops a.tmps) = true then Oper.wp Try.prog o a w K Q else E := by
  have hw : Region.wanted o (yielded ops a.tmps) = true := by simp [Region.wanted, hgd]
  rw [if_pos hw]
  obtain ⟨i0, hi, hz0, hz1, hz2⟩ := info_parts info_u8
  have hlm : (bs ++ news).length = bs.length + m := by rw [List.length_append, hl]
  rw [hlm, List.map_append] at h
  obtain ⟨v', w', hr, hown', hg, hat⟩ := run_append_rowW base o.type i0 hi hz0 hz1 hz2 _ bs.length _ hown B m d (news.map (Value.int .u8)) (by rw [List.length_map, hl]) hm hnews (by intro v hv; obtain ⟨q, _, rfl⟩ := List.mem_map.1 hv; rfl) (by omega) (by omega) hbase
  obtain ⟨A', c', rfl⟩ := own_shape hown'
  unfold Oper.wp execOp
  simp only [ho, resolve, invoke, builtin, Sem.run_bind, Sem.run_pure, Result.andThen_ok, List.map_toArray, List.map_cons, List.map_nil, hs, hx, hr]
  exact h A' c' w' hown' hg hat
theorem WrS.boxG0 {W : World} {base pb : Nat} {A : Option Addr} {c : Nat} {bs : List Int} {lg : Bool} (h : WrS W base pb A c bs lg) {Wm : World} (hg : W.grownBy Wm (Value.ownBlock (.slice A bs.length c))) :
    Wm.heap[pb]? = some (.cells #[.slice A bs.length c, .bool lg] 55 (0, 0)) := by
  rw [hg.block pb h.lt (Ne.symm h.ne)]; exact h.box
/-- the row behind an append, and the store of its new header -/
theorem WrS.grow0 {W : World} {base pb : Nat} {A : Option Addr} {c : Nat} {bs : List Int} {lg : Bool} (h : WrS W base pb A c bs lg) {A' : Option Addr} {c' : Nat} {news : List Int} {Wm : World} (ho : Wm.ownsRow base 5 1 (.slice A' (bs ++ news).length c') (bs ++ news).length ((bs ++ news).map (Value.int .u8)))
    (hg : W.grownBy Wm (Value.ownBlock (.slice A bs.length c))) (hat : Value.ownBlock (.slice A' (bs ++ news).length c') = Value.ownBlock (.slice A bs.length c) ∨ Value.ownBlock (.slice A' (bs ++ news).length c') = some W.heap.size) :
    WrS (Wm.setCell ⟨pb, 0, none⟩ (.slice A' (bs ++ news).length c')) base pb A' c' (bs ++ news) lg := by
  have hbx := h.boxG0 hg
  have hne : Value.ownBlock (.slice A' (bs ++ news).length c') ≠ some pb := by
    rcases hat with e | e
    · rw [e]; exact h.ne
    · rw [e]; intro e2; injection e2 with e2; have := h.lt; omega
  refine ⟨?_, ?_, h.bp, hne⟩
  · rw [heap_setCell_same Wm pb 0 _ _ _ hbx]; rfl
  · refine .inl ⟨ho.1, ?_⟩
    rcases ho.2 with hn | ⟨g, cap, cur, h1, h2, h3, h4⟩
    · exact .inl hn
    · refine .inr ⟨g, cap, cur, h1, h2, ?_, h4⟩
      have hg : g ≠ pb := fun e => hne (by rw [h1, e]; rfl)
      rw [heap_setCell_other _ _ _ _ hg]; exact h3
theorem WK.grow0 {wB w0 W : World} {pb : Nat} {r0 : Option Nat} {A : Option Addr} {c : Nat} {bs : List Int} {lg : Bool} (h : WK wB pb w0 r0 W A c bs lg) {A' : Option Addr} {c' : Nat} {news : List Int} {Wm : World} (ho : Wm.ownsRow wB.heap.size 5 1 (.slice A' (bs ++ news).length c') (bs ++ news).length ((bs ++ news).map (Value.int .u8)))
    (hg : W.grownBy Wm (Value.ownBlock (.slice A bs.length c))) (hat : Value.ownBlock (.slice A' (bs ++ news).length c') = Value.ownBlock (.slice A bs.length c) ∨ Value.ownBlock (.slice A' (bs ++ news).length c') = some W.heap.size) :
    WK wB pb w0 r0 (Wm.setCell ⟨pb, 0, none⟩ (.slice A' (bs ++ news).length c')) A' c' (bs ++ news) lg := by
  have hon : Only pb (ownA A) W (Wm.setCell ⟨pb, 0, none⟩ (.slice A' (bs ++ news).length c')) := ((Only.refl pb (ownA A) W).grown hg (by rw [own_ownA]; exact Newer.refl _ _)).setCell 0 _
  have hnw : Newer (ownA A) (ownA A') W.heap.size := by
    rw [own_ownA, own_ownA] at hat
    rcases hat with e | e
    · exact .inl e
    · exact .inr ⟨_, e, Nat.le_refl _⟩
  exact ⟨h.wr.grow0 ho hg hat, h.on.trans hon h.nw, h.nw.trans hnw h.on.size, below_wk (Lib.hid h) (Lib.hid hon)⟩
theorem WK.start (w : World) : WK w (w.heap.size + 1) ((w.alloc (.cells #[.int .u8 117, .int .u8 109, .int .u8 108, .int .u8 116, .int .u8 49] 5 (5, 6))).alloc (.cells #[.slice (some ⟨w.heap.size, 0, none⟩) 5 5, .bool false] 55)) (some w.heap.size) ((w.alloc (.cells #[.int .u8 117, .int .u8 109, .int .u8 108, .int .u8 116, .int .u8 49] 5 (5, 6))).alloc (.cells #[.slice (some ⟨w.heap.size, 0, none⟩) 5 5, .bool false] 55)) (some ⟨w.heap.size, 0, none⟩) 5 markB false := by
  have hs : (w.alloc (.cells #[.int .u8 117, .int .u8 109, .int .u8 108, .int .u8 116, .int .u8 49] 5 (5, 6))).heap.size = w.heap.size + 1 := by simp
  refine ⟨⟨?_, ?_, by omega, ?_⟩, Only.refl _ _ _, Newer.refl _ _, ((Below.refl _ _).alloc (Nat.le_refl _) _).alloc (by simp) _⟩
  · have := heap_alloc_new (w.alloc (.cells #[.int .u8 117, .int .u8 109, .int .u8 108, .int .u8 116, .int .u8 49] 5 (5, 6))) (.cells #[.slice (some ⟨w.heap.size, 0, none⟩) 5 5, .bool false] 55)
    rw [hs] at this; exact this
  · refine .inr ⟨w.heap.size, #[.int .u8 117, .int .u8 109, .int .u8 108, .int .u8 116, .int .u8 49], (5, 6), rfl, Nat.le_refl _, ?_, rfl, rfl, by decide⟩
    rw [Below.heap_alloc _ _ _ (by simp)]
    exact heap_alloc_new w _
  · intro e
    have : w.heap.size = w.heap.size + 1 := by injection e
    omega
theorem RowW.bytes {w : World} {base : Nat} {A : Option Addr} {c : Nat} {l : List Int} (h : RowW w base (.slice A l.length c) l.length (l.map (Value.int .u8))) (hu : U8s l) (hl : l.length ≤ 9223372036854775807) : BytesAt A l w := by
  rcases h with h | ⟨g, cur, fz, h1, h2, h3, h4, h5, h6⟩
  · exact BytesAt.of_own h hu hl
  · injection h1 with h1 h7 h8
    subst h1
    have hs : Sl w 1 (some ⟨g, 0, none⟩) l.length (l.map (Value.int .u8)) := ⟨by simp, fun _ => ⟨g, 0, rfl, fun j u hj => by
      rw [Nat.zero_add]
      rw [← h4] at hj
      simp only [World.cell?, h3]
      simpa using hj⟩⟩
    exact ⟨by rw [bytes_cells]; exact hs, hu, hl⟩
theorem numsB_len (l : List Int) : (l.flatMap numB).length = 4 * l.length := by
  induction l with
  | nil => rfl
  | cons x l ih => rw [List.flatMap_cons, List.length_append, ih, numB_len, List.length_cons]; omega
theorem nodeB_len2 (n : NodeL) : (nodeB n).length = 8 + 4 * n.next.length := by unfold nodeB; simp only [List.length_append, numB_len, numsB_len]; omega
theorem below_pushedW {wB w0 W W' : World} {pb : Nat} {r0 : Option Nat} {A : Option Addr} {c : Nat} {bs : List Int} {lg : Bool} {o : Obj} (h : WK wB pb w0 r0 W A c bs lg) (hg : (W.alloc o).grownBy W' (Value.ownBlock (.slice A bs.length c))) : Below wB.heap.size wB W' :=
  (h.bl.alloc h.bl.size o).grown hg (by have := h.bl.size; simp; omega) (fun k hk => (h.rlt k (by rw [own_ownA] at hk; exact hk)).1)
theorem flatMap_take_add {α : Type} (f : α → List Int) {l : List α} {k : Nat} {x : α} (h : l[k]? = some x) : ((l.take k).flatMap f).length + (f x).length ≤ (l.flatMap f).length := by
  have h1 := flatMap_take_le f l (k + 1)
  rw [flatMap_take_succ f h, List.length_append] at h1
  exact h1
theorem flatMap_u8 {α : Type} (f : α → List Int) (l : List α) (h : ∀ x, U8s (f x)) : U8s (l.flatMap f) := fun y hy => by
  obtain ⟨x, _, hx⟩ := List.mem_flatMap.1 hy
  exact h x y hx
theorem U8s.append {a b : List Int} (h : U8s a) (k : U8s b) : U8s (a ++ b) := fun x hx => (List.mem_append.1 hx).elim (h x) (k x)
theorem partB_u8 (p : PartL) : U8s (partB p) := (numB_u8 _).append ((numB_u8 _).append ((numB_u8 _).append (numB_u8 _)))
theorem termB_u8 (t : TermL) : U8s (termB t) := (numB_u8 _).append ((numB_u8 _).append ((numB_u8 _).append ((numB_u8 _).append ((numB_u8 _).append ((numB_u8 _).append (flatMap_u8 _ _ partB_u8))))))
theorem termsB_u8 (l : List TermL) : U8s (termsB l) := (numB_u8 _).append (flatMap_u8 _ _ termB_u8)
theorem nodeB_u8 (n : NodeL) : U8s (nodeB n) := (numB_u8 _).append ((numB_u8 _).append (flatMap_u8 _ _ numB_u8))
theorem actB_u8 (a : ActL) : U8s (actB a) := (numB_u8 _).append ((numB_u8 _).append (termsB_u8 _))
theorem bodyB_u8 {T : TabL} (h : U8s T.cls) : U8s (bodyB T) :=
  U8s.append (by intro x hx; simp [markB] at hx; omega) (((numB_u8 _).append ((numB_u8 _).append ((numB_u8 _).append ((numB_u8 _).append h)))).append ((flatMap_u8 _ _ nodeB_u8).append ((flatMap_u8 _ _ actB_u8).append (flatMap_u8 _ _ termsB_u8))))
section
variable {w0 w : World} {F : World → Prop}
set_option maxRecDepth 100000 in
set_option maxHeartbeats 64000000 in
theorem Pack_st (hK : Hid (St w0 w F)) (cs : Array Value) (T : TabI) (hC : TabC cs T) (ht : ∀ W, F W → TabW T W) (hlen : (bodyB T.L).length ≤ 16777216) :
    Calls Try.prog 10 #[.agg cs] w (RetPack w0 T.L F) := by
  have HT := Lib.hid ht
  have h258 := hC.c3
  have h257 := hC.c2
  have h256 := hC.c1
  have HK := St.tbox hK cs
  have hh := HK.out.now.1
  have hin : (Try.prog.info? 27).map (·.size) = some cs.size := by rw [hC.size]; kernel_rfl
  have HH := Lib.hid hh
  have HI := Lib.hid hin
  have HLEN := Lib.hid hlen
  clear ht hh hin hlen
  have kc := fun (w : World) (C : Array Value) (n c : Nat) => Lib.run_convert_bytes_const (P := Try.prog) w 30 5 C n c Try.underlying30 Try.underlying5
  go_enter Try.func10, Try.ntmps10
  go_wp2_with (refine wpList_load_row rfl 27 _ rfl w.heap.size rfl _ cs _ _ HH.out Try.underlying27 rfl HI.out ?_)
  by_cases hok : ¬ TabOk T.L
  · have HV := Lib.hid (pB_false hok)
    have HNP : Hid (¬ PackOk T.L) := Lib.hid fun h => hok h.1
    clear hok
    refine (Check_st HK cs T hC (fun _ h => HT.out _ h.2) false HV).mono ?_
    rintro e w1 ⟨rfl, HK1⟩
    go_wp2_with fail
    go_ret2
    exact .inl ⟨HNP.out, rfl, Lib.hid (HK1.out.weaken fun _ h => h.2)⟩
  have hok := Classical.not_not.1 hok
  have HV := Lib.hid (pB_true hok)
  have HOK := Lib.hid hok
  clear hok
  refine (Check_st HK cs T hC (fun _ h => HT.out _ h.2) true HV).mono ?_
  rintro e wB ⟨rfl, HKB⟩
  obtain ⟨tb, htb⟩ : ∃ tb, w.heap.size = tb := ⟨_, rfl⟩
  rw [htb] at HKB ⊢
  clear HK HH
  have HKS := Lib.hid (WK.start wB)
  obtain ⟨n0L, hn0L, _, hk1, hk2⟩ := HOK.out.head.2.2.2
  have hl0 : 0 < T.ns.length := by have := (List.getElem?_eq_some_iff.1 hn0L).1; rwa [nodesL_len] at this
  have HFB : Hid (∀ W, Below wB.heap.size wB W → TabBox tb cs W ∧ F W) := Lib.hid HKB.out.1
  obtain ⟨nb, no, n0, hA, hn0, hn0w, _, r1, _⟩ := (HT.out _ HKB.out.now.2).nodes.at_ hl0
  have e0 := nodesL_at hn0
  rw [hn0L] at e0
  injection e0 with e0
  subst e0
  have HW : Hid (widthL T.L = n0.nx.length) := Lib.hid (widthL_at (nodesL_at hn0))
  obtain ⟨K, hKn⟩ : ∃ K, n0.nx.length = K := ⟨_, rfl⟩
  have hk1' : 1 ≤ K := by rw [← hKn]; exact hk1
  have hk2' : K ≤ 256 := by rw [← hKn]; exact hk2
  rw [hKn] at HW
  have hl1 : T.ns.length ≤ 4096 := by have := HOK.out.head.1; rwa [nodesL_len] at this
  have hl2 : T.acts.length ≤ 4096 := by have := HOK.out.head.2.1; rwa [actsL_len] at this
  have hl3 : T.es.length ≤ 4096 := by have := HOK.out.head.2.2.1; rwa [endsL_len] at this
  have g256 := h256
  rw [hA] at g256
  have HS : Hid (∀ W, Below wB.heap.size wB W → W.cell? ⟨tb, 256, none⟩ = some (.slice (some ⟨nb, no, none⟩) T.ns.length T.nc) ∧ W.cell? ⟨tb, 257, none⟩ = some (.slice T.aa T.acts.length T.ac) ∧ W.cell? ⟨tb, 258, none⟩ = some (.slice T.ea T.es.length T.ec) ∧ W.cell? ⟨nb, no + 1, none⟩ = some (.slice n0.na K n0.nc)) := Lib.hid fun W hW => by
    obtain ⟨h1, h2⟩ := HFB.out W hW
    refine ⟨h1.cell1 g256, h1.cell1 h257, h1.cell1 h258, ?_⟩
    obtain ⟨nb', no', n0', hA', hn0', _, _, r1', _⟩ := (HT.out _ h2).nodes.at_ hl0
    rw [hA] at hA'; injection hA' with hA'; injection hA' with e1 e2; subst e1; subst e2
    rw [hn0] at hn0'; injection hn0' with hn0'; subst hn0'
    rw [Nat.zero_mul, Nat.add_zero, hKn] at r1'; exact r1'
  have HI4 : Hid (I64 (K : Int) ∧ I64 (T.ns.length : Int) ∧ I64 (T.acts.length : Int) ∧ I64 (T.es.length : Int)) := Lib.hid ⟨⟨by omega, by omega⟩, ⟨by omega, by omega⟩, ⟨by omega, by omega⟩, ⟨by omega, by omega⟩⟩
  clear hn0L hk1 hk2 hn0 hn0w r1 hKn
  go_wp2_with fail
  generalize hW2 : (wB.alloc (.cells #[.int .u8 117, .int .u8 109, .int .u8 108, .int .u8 116, .int .u8 49] 5 (5, 6))).alloc (.cells #[.slice (some ⟨wB.heap.size, 0, none⟩) 5 5, .bool false] 55) = W2 at HKS ⊢
  clear hW2
  go_region_held3 (fun W => W.cell? ⟨tb, 256, none⟩ = some (.slice (some ⟨nb, no, none⟩) T.ns.length T.nc) ∧ W.cell? ⟨tb, 257, none⟩ = some (.slice T.aa T.acts.length T.ac) ∧ W.cell? ⟨tb, 258, none⟩ = some (.slice T.ea T.es.length T.ec) ∧ W.cell? ⟨nb, no + 1, none⟩ = some (.slice n0.na K n0.nc))
    (first | exact HS.out _ HK.out.bl | exact HS.out _ (HKS.out.drewN 1).bl | exact HS.out _ ((HKS.out.drewN 1).alloc _).bl)
    ((go_at_call 20; refine (num_lit4 (Lib.hid (HKS.out.drewN 1)) (K : Int) (T.ns.length : Int) (T.acts.length : Int) (T.es.length : Int) HI4 (by simp [markB])).mono ?_; rintro e w1 ⟨rfl, A1, c1, HK, _, _⟩))
  obtain ⟨bs1, hbs1⟩ : ∃ z, markB ++ [(K : Int), (T.ns.length : Int), (T.acts.length : Int), (T.es.length : Int)].flatMap numB = z := ⟨_, rfl⟩
  obtain ⟨lg1, hlg1⟩ : ∃ z, (false || bigs [(K : Int), (T.ns.length : Int), (T.acts.length : Int), (T.es.length : Int)]) = z := ⟨_, rfl⟩
  rw [hbs1, hlg1] at HK
  have HK2 := Lib.hid (HK.out.drewN 1)
  have hb1l : bs1.length ≤ 21 := by rw [← hbs1]; exact Nat.le_refl _
  obtain ⟨c0, _⟩ := HK.out.wr.c0
  have HBS1 := Lib.hid hbs1
  have HLG1 := Lib.hid hlg1
  clear hbs1 hlg1 HK HKS
  have hcells : ∀ j u, (T.cls.map (Value.int .u8))[j]? = some u → (w1.drewN 1).cell? ((⟨tb, 0, none⟩ : Addr).add j) = some u := fun j u hu => by
    have e : (⟨tb, 0, none⟩ : Addr).add j = ⟨tb, j, none⟩ := by unfold Addr.add; split <;> simp_all
    rw [e]
    rw [List.getElem?_map] at hu
    cases hc : T.cls[j]? with
    | none => rw [hc] at hu; cases hu
    | some x => rw [hc] at hu; injection hu with hu; subst hu; exact (HFB.out _ HK2.out.bl).1.cell1 (hC.cl j x hc)
  have HCELLS := Lib.hid hcells
  have hln := hC.ln
  have HCLN := Lib.hid hln
  clear hcells hln
  go_wp2_with fail
  go_region_law ((refine step_rowW (by rfl) _ _ (by rfl) HK2.out.wr.row (by rfl) ⟨tb, 0, none⟩ 256 256 (by rfl) HCLN.out (by decide) HCELLS.out (by omega) HK2.out.bl.size ?_; intro A3 c3 w3 HO3 HG3 HAT3; (have HK3 := Lib.hid (HK2.out.grow0 HO3.out HG3.out HAT3.out)); (have hb3 := HK2.out.wr.boxG0 HG3.out); (have s0 : w3.cell? ⟨wB.heap.size + 1, 0, none⟩ = some (.slice A1 bs1.length c1) := by simp [World.cell?, hb3]); (have s1 : w3.frozen? ⟨wB.heap.size + 1, 0, none⟩ = false := frozen_of_row _ _ _ _ _ hb3); clear hb3))
  have hl3' : (bs1 ++ T.cls).length = bs1.length + T.cls.length := List.length_append
  have HK3' : Hid (WK wB (wB.heap.size + 1) W2 (some wB.heap.size) (w3.setCell ⟨wB.heap.size + 1, 0, none⟩ (.slice A3 (bs1.length + T.cls.length) c3)) A3 c3 (bs1 ++ T.cls) lg1) := by rw [← hl3']; exact HK3
  clear HK3 hl3' s0 s1 HO3 HG3 HAT3 c0 HK2
  generalize w3.setCell ⟨wB.heap.size + 1, 0, none⟩ (.slice A3 (bs1.length + T.cls.length) c3) = w4 at HK3' ⊢
  obtain ⟨pb, hpb⟩ : ∃ pb, wB.heap.size + 1 = pb := ⟨_, rfl⟩
  have HPB := Lib.hid hpb
  rw [hpb] at HK3' ⊢
  clear hpb
  obtain ⟨q6, _, _, _⟩ := HS.out _ HK3'.out.bl
  have HB0 : Hid (bodyB T.L = (bs1 ++ T.cls) ++ (T.L.nodes.flatMap nodeB ++ (T.L.acts.flatMap actB ++ T.L.ends.flatMap termsB))) := Lib.hid (by
    rw [← HBS1.out]
    unfold bodyB innerB headB
    rw [HW.out, nodesL_len, actsL_len, endsL_len]
    simp [List.append_assoc, List.flatMap_cons]
    rfl)
  have HG0 : Hid (bigTab T.L = (((lg1 || T.L.nodes.any bigN) || T.L.acts.any bigA) || T.L.ends.any bigT)) := Lib.hid (by
    rw [← HLG1.out]
    unfold bigTab
    rw [HW.out, nodesL_len, actsL_len, endsL_len]
    rfl)
  obtain ⟨bs3, hbs3⟩ : ∃ z, bs1 ++ T.cls = z := ⟨_, rfl⟩
  rw [hbs3] at HK3' HB0
  have HLB : Hid (bs3.length + (T.L.nodes.flatMap nodeB).length + (T.L.acts.flatMap actB).length + (T.L.ends.flatMap termsB).length ≤ 16777216) := Lib.hid (by
    have := HLEN.out
    rw [HB0.out, List.length_append, List.length_append, List.length_append] at this
    omega)
  clear hbs3 hb1l
  go_wp2_with fail
  go_loopw [50] (fun i wq => ∃ (m : Nat) (A4 : Option Addr) (c4 : Nat), m ≤ T.ns.length ∧ i = .int .i64 m ∧ Hid (WK wB pb W2 (some wB.heap.size) wq A4 c4 (bs3 ++ (T.L.nodes.take m).flatMap nodeB) (lg1 || (T.L.nodes.take m).any bigN))) (fun i _ => T.ns.length - (intOf i).toNat)
  case atStart => exact ⟨0, A3, c3, Nat.zero_le _, rfl, by simpa using HK3'⟩
  case round =>
  clear HK3' q6
  obtain ⟨m, A4, c4, hm, rfl, HK⟩ := hrel
  by_cases hlt : m < T.ns.length
  · obtain ⟨nb', no', q, hA', hx, hw, r0, r1, r2⟩ := (HT.out _ (HFB.out _ HK.out.bl).2).nodes.at_ hlt
    rw [hA] at hA'
    injection hA' with hA'
    injection hA' with e1 e2
    subst e1; subst e2
    have hxl := nodesL_at hx
    obtain ⟨bs4, hbs4⟩ : ∃ z, bs3 ++ (T.L.nodes.take m).flatMap nodeB = z := ⟨_, rfl⟩
    obtain ⟨lg4, hlg4⟩ : ∃ z, (lg1 || (T.L.nodes.take m).any bigN) = z := ⟨_, rfl⟩
    rw [hbs4, hlg4] at HK
    have hb4 : bs4.length + (8 + 4 * q.nx.length) ≤ 16777216 := by
      have h1 := flatMap_take_add nodeB hxl
      have h2 := HLB.out
      have h3 : (nodeB q.L).length = 8 + 4 * q.nx.length := nodeB_len2 q.L
      rw [← hbs4, List.length_append]; omega
    have HBS4 : Hid (bs3 ++ (T.L.nodes.take (m + 1)).flatMap nodeB = (bs4 ++ [q.h, q.e].flatMap numB) ++ q.nx.flatMap numB) := Lib.hid (by
      rw [flatMap_take_succ nodeB hxl, ← List.append_assoc, hbs4]
      simp [nodeB, NodeI.L, List.append_assoc])
    have HLG4 : Hid ((lg1 || (T.L.nodes.take (m + 1)).any bigN) = ((lg4 || bigs [q.h, q.e]) || bigs q.nx)) := Lib.hid (by rw [any_take_succ bigN hxl, ← Bool.or_assoc, hlg4, Bool.or_assoc]; rfl)
    have HI2 : Hid (I64 q.h ∧ I64 q.e) := Lib.hid hw.1
    have HNX : Hid (∀ W, Below wB.heap.size wB W → IntsAt q.na q.nx W) := Lib.hid fun W hW => ((HT.out _ (HFB.out _ hW).2).nodes.it q (List.mem_of_getElem? hx)).2
    have HAP : Hid (∀ r : Option Nat, (∀ g, r = some g → wB.heap.size ≤ g) → Apart q.na q.nx.length pb r) := Lib.hid fun r hr => by
      by_cases h0 : q.nx.length = 0
      · exact .inl h0
      · obtain ⟨b, off, x, h1, _, _, h2⟩ := (HNX.out wB (Below.refl _ _)).at_ (j := 0) (by omega)
        have h3 := lt_of_cell h2
        exact .inr ⟨b, off, h1, by have := HPB.out; omega, fun e => by have := hr b e.symm; omega⟩
    have HKb := Lib.hid (HK.out.alloc (.cells #[.int .i64 q.h, .slice q.na q.nx.length q.nc, .int .i64 q.e] 47))
    have hbx : wr.heap.size ≠ pb := fun e => by have := HK.out.wr.lt; omega
    have hbr : some wr.heap.size ≠ ownA A4 := fun e => by have := (HK.out.rlt _ e.symm).2; omega
    have HBX := Lib.hid hbx
    have HBR := Lib.hid hbr
    have hsz : (wr.alloc (.cells #[.int .i64 q.h, .slice q.na q.nx.length q.nc, .int .i64 q.e] 47)).heap.size = wr.heap.size + 1 := by simp
    clear hx hxl hw hbs4 hlg4 hbx hbr
    go_wp2_with fail
    have hnl := num_lit2 HKb q.h q.e HI2 (by omega)
    rw [hsz] at hnl
    refine hnl.mono ?_
    clear hnl
    rintro e w5 ⟨rfl, A5, c5, HK5, HO5, HN5⟩
    have hc1 : w5.cell? ⟨wr.heap.size, 1, none⟩ = some (.slice q.na q.nx.length q.nc) := by
      rw [HO5.out.box (by simp; omega) HBX.out HBR.out 1, World.cell?_alloc_lt _ _ _ (by simp)]
      simp [World.cell?_alloc_new]
    have hl5 : (bs4 ++ [q.h, q.e].flatMap numB).length = bs4.length + 8 := by simp [numB]
    go_wp2_with fail
    refine (num_wk HK5 q.na q.nx q.nc (Lib.hid (HNX.out _ HK5.out.bl)) (Lib.hid (HAP.out _ (fun g hg => (HK5.out.rlt g hg).1))) (by rw [hl5]; omega)).mono ?_
    rintro e w6 ⟨rfl, A6, c6, HK6, _, _⟩
    rw [← HBS4.out, ← HLG4.out] at HK6
    clear hc1 hl5 HK5 HO5 HN5 HKb HK
    go_wp2_with fail
    exact ⟨⟨m + 1, A6, c6, by omega, by go_num, HK6⟩, by simp [intOf]; omega⟩
  obtain rfl : m = T.ns.length := by omega
  have hd : decide (T.ns.length < T.ns.length) = false := by simp
  have HKN : Hid (WK wB pb W2 (some wB.heap.size) wr A4 c4 (bs3 ++ T.L.nodes.flatMap nodeB) (lg1 || T.L.nodes.any bigN)) := by
    have := HK
    rwa [← nodesL_len, List.take_length] at this
  obtain ⟨_, q7, _, _⟩ := HS.out _ HKN.out.bl
  clear HK hm
  obtain ⟨bs5, hbs5⟩ : ∃ z, bs3 ++ T.L.nodes.flatMap nodeB = z := ⟨_, rfl⟩
  obtain ⟨lg5, hlg5⟩ : ∃ z, (lg1 || T.L.nodes.any bigN) = z := ⟨_, rfl⟩
  rw [hbs5, hlg5] at HKN
  rw [← List.append_assoc, hbs5] at HB0
  rw [hlg5] at HG0
  have HLB2 : Hid (bs5.length + (T.L.acts.flatMap actB).length + (T.L.ends.flatMap termsB).length ≤ 16777216) := Lib.hid (by
    have := HLB.out
    rw [← hbs5, List.length_append]; omega)
  clear hbs5 hlg5 HLB
  go_wp2_with fail
  clear hd
  go_loopw [69] (fun i wq => ∃ (m : Nat) (A4 : Option Addr) (c4 : Nat), m ≤ T.acts.length ∧ i = .int .i64 m ∧ Hid (WK wB pb W2 (some wB.heap.size) wq A4 c4 (bs5 ++ (T.L.acts.take m).flatMap actB) (lg5 || (T.L.acts.take m).any bigA))) (fun i _ => T.acts.length - (intOf i).toNat)
  case atStart => exact ⟨0, A4, c4, Nat.zero_le _, rfl, by simpa using HKN⟩
  case round =>
  clear HKN q7 A4 c4
  obtain ⟨m, A4, c4, hm, rfl, HK⟩ := hrel
  by_cases hlt : m < T.acts.length
  · obtain ⟨ab, ao, q, hA', hx, hw, r0, r1, r2⟩ := (HT.out _ (HFB.out _ HK.out.bl).2).acts.at_ hlt
    have hxl := actsL_at hx
    obtain ⟨bs4, hbs4⟩ : ∃ z, bs5 ++ (T.L.acts.take m).flatMap actB = z := ⟨_, rfl⟩
    obtain ⟨lg4, hlg4⟩ : ∃ z, (lg5 || (T.L.acts.take m).any bigA) = z := ⟨_, rfl⟩
    rw [hbs4, hlg4] at HK
    have hb4 : bs4.length + (8 + (termsB q.o.L).length) ≤ 16777216 := by
      have h1 := flatMap_take_add actB hxl
      have h2 := HLB2.out
      have h3 : (actB q.L).length = 8 + (termsB q.o.L).length := by simp [actB, numB_len, ActI.L]; omega
      rw [← hbs4, List.length_append]; omega
    have HBS4 : Hid (bs5 ++ (T.L.acts.take (m + 1)).flatMap actB = (bs4 ++ [q.e, q.d].flatMap numB) ++ termsB q.o.L) := Lib.hid (by
      rw [flatMap_take_succ actB hxl, ← List.append_assoc, hbs4]
      simp [actB, ActI.L, List.append_assoc])
    have HLG4 : Hid ((lg5 || (T.L.acts.take (m + 1)).any bigA) = ((lg4 || bigs [q.e, q.d]) || bigT q.o.L)) := Lib.hid (by rw [any_take_succ bigA hxl, ← Bool.or_assoc, hlg4, Bool.or_assoc]; rfl)
    have HI2 : Hid (I64 q.e ∧ I64 q.d) := Lib.hid hw.1
    have HNX : Hid (∀ W, Below wB.heap.size wB W → OutW q.o W) := Lib.hid fun W hW => ((HT.out _ (HFB.out _ hW).2).acts.it q (List.mem_of_getElem? hx)).2
    have HKb := Lib.hid (HK.out.alloc (.cells #[.int .i64 q.e, .int .i64 q.d, .slice q.o.a q.o.l.length q.o.c] 51))
    have hbx : wr.heap.size ≠ pb := fun e => by have := HK.out.wr.lt; omega
    have hbr : some wr.heap.size ≠ ownA A4 := fun e => by have := (HK.out.rlt _ e.symm).2; omega
    have HBX := Lib.hid hbx
    have HBR := Lib.hid hbr
    have hsz : (wr.alloc (.cells #[.int .i64 q.e, .int .i64 q.d, .slice q.o.a q.o.l.length q.o.c] 51)).heap.size = wr.heap.size + 1 := by simp
    rw [hA']
    clear hx hxl hw hbs4 hlg4 hbx hbr hA'
    go_wp2_with fail
    have hnl := num_lit2 HKb q.e q.d HI2 (by omega)
    rw [hsz] at hnl
    refine hnl.mono ?_
    clear hnl
    rintro e w5 ⟨rfl, A5, c5, HK5, HO5, HN5⟩
    have hc1 : w5.cell? ⟨wr.heap.size, 2, none⟩ = some (.slice q.o.a q.o.l.length q.o.c) := by
      rw [HO5.out.box (by simp; omega) HBX.out HBR.out 2, World.cell?_alloc_lt _ _ _ (by simp)]
      simp [World.cell?_alloc_new]
    have hl5 : (bs4 ++ [q.e, q.d].flatMap numB).length = bs4.length + 8 := by simp [numB]
    go_wp2_with fail
    refine (wterms_wk HK5 q.o HNX (by rw [hl5]; omega)).mono ?_
    rintro e w6 ⟨rfl, A6, c6, HK6, _, _⟩
    rw [← HBS4.out, ← HLG4.out] at HK6
    clear hc1 hl5 HK5 HO5 HN5 HKb HK
    go_wp2_with fail
    exact ⟨⟨m + 1, A6, c6, by omega, by go_num, HK6⟩, by simp [intOf]; omega⟩
  obtain rfl : m = T.acts.length := by omega
  have hd : decide (T.acts.length < T.acts.length) = false := by simp
  have HKN : Hid (WK wB pb W2 (some wB.heap.size) wr A4 c4 (bs5 ++ T.L.acts.flatMap actB) (lg5 || T.L.acts.any bigA)) := by
    have := HK
    rwa [← actsL_len, List.take_length] at this
  obtain ⟨_, _, q8, _⟩ := HS.out _ HKN.out.bl
  clear HK hm
  obtain ⟨bs6, hbs6⟩ : ∃ z, bs5 ++ T.L.acts.flatMap actB = z := ⟨_, rfl⟩
  obtain ⟨lg6, hlg6⟩ : ∃ z, (lg5 || T.L.acts.any bigA) = z := ⟨_, rfl⟩
  rw [hbs6, hlg6] at HKN
  rw [← List.append_assoc, hbs6] at HB0
  rw [hlg6] at HG0
  have HLB3 : Hid (bs6.length + (T.L.ends.flatMap termsB).length ≤ 16777216) := Lib.hid (by
    have := HLB2.out
    rw [← hbs6, List.length_append]; omega)
  clear hbs6 hlg6 HLB2
  go_wp2_with fail
  clear hd
  go_loopw [88] (fun i wq => ∃ (m : Nat) (A4 : Option Addr) (c4 : Nat), m ≤ T.es.length ∧ i = .int .i64 m ∧ Hid (WK wB pb W2 (some wB.heap.size) wq A4 c4 (bs6 ++ (T.L.ends.take m).flatMap termsB) (lg6 || (T.L.ends.take m).any bigT))) (fun i _ => T.es.length - (intOf i).toNat)
  case atStart => exact ⟨0, A4, c4, Nat.zero_le _, rfl, by simpa using HKN⟩
  case round =>
  clear HKN q8 A4 c4
  obtain ⟨m, A4, c4, hm, rfl, HK⟩ := hrel
  by_cases hlt : m < T.es.length
  · obtain ⟨ab, ao, q, hA', hx, hw, r0⟩ := (HT.out _ (HFB.out _ HK.out.bl).2).ends.at_ hlt
    have hxl := endsL_at hx
    obtain ⟨bs4, hbs4⟩ : ∃ z, bs6 ++ (T.L.ends.take m).flatMap termsB = z := ⟨_, rfl⟩
    obtain ⟨lg4, hlg4⟩ : ∃ z, (lg6 || (T.L.ends.take m).any bigT) = z := ⟨_, rfl⟩
    rw [hbs4, hlg4] at HK
    have hb4 : bs4.length + (termsB q.L).length ≤ 16777216 := by
      have h1 := flatMap_take_add termsB hxl
      have h2 := HLB3.out
      rw [← hbs4, List.length_append]; omega
    have HBS4 : Hid (bs6 ++ (T.L.ends.take (m + 1)).flatMap termsB = bs4 ++ termsB q.L) := Lib.hid (by
      rw [flatMap_take_succ termsB hxl, ← List.append_assoc, hbs4])
    have HLG4 : Hid ((lg6 || (T.L.ends.take (m + 1)).any bigT) = (lg4 || bigT q.L)) := Lib.hid (by rw [any_take_succ bigT hxl, ← Bool.or_assoc, hlg4])
    have HNX : Hid (∀ W, Below wB.heap.size wB W → OutW q W) := Lib.hid fun W hW => (HT.out _ (HFB.out _ hW).2).ends.it q (List.mem_of_getElem? hx)
    rw [hA']
    clear hx hxl hw hbs4 hlg4 hA'
    go_wp2_with fail
    refine (wterms_wk HK q HNX (by omega)).mono ?_
    rintro e w6 ⟨rfl, A6, c6, HK6, _, _⟩
    rw [← HBS4.out, ← HLG4.out] at HK6
    clear HK
    go_wp2_with fail
    exact ⟨⟨m + 1, A6, c6, by omega, by go_num, HK6⟩, by simp [intOf]; omega⟩
  obtain rfl : m = T.es.length := by omega
  have hd : decide (T.es.length < T.es.length) = false := by simp
  have HKN : Hid (WK wB pb W2 (some wB.heap.size) wr A4 c4 (bodyB T.L) (bigTab T.L)) := by
    have := HK
    rw [← endsL_len, List.take_length] at this
    rw [HB0.out, HG0.out]; exact this
  have HLE := HLEN.out
  obtain ⟨s0, s1⟩ := HKN.out.wr.c0
  have HKR : Hid (St w0 wr F) := Lib.hid ((HKB.out.step HKN.out.bl).weaken fun _ h => h.2)
  clear HK hm
  rcases hlg : bigTab T.L with _ | _
  case neg.true =>
    have HNP : Hid (¬ PackOk T.L) := Lib.hid fun h => by have h2 := h.2; rw [hlg] at h2; cases h2
    rw [hlg] at s1
    clear hlg
    go_wp2_with fail
    go_ret2
    exact .inl ⟨HNP.out, rfl, HKR⟩
  have HPK : Hid (PackOk T.L) := Lib.hid ⟨HOK.out, hlg⟩
  rw [hlg] at s1
  have hu := bodyB_u8 (T := T.L) hC.u8
  have HBY := Lib.hid (HKN.out.wr.row.bytes hu (by omega))
  have HU := Lib.hid hu
  have hsz := HKN.out.bl.size
  obtain ⟨s, hs⟩ : ∃ s, fnvL (bodyB T.L) = s := ⟨_, rfl⟩
  have hs1 := fnvL_lt (bodyB T.L)
  rw [hs] at hs1
  have HSM := Lib.hid hs
  clear hlg hu hs
  go_wp2_with fail
  refine (Sum_any A4 c4 (bodyB T.L) wr HBY.out).mono ?_
  rintro e w9 ⟨rfl, rfl⟩
  rw [HSM.out]
  have hPB : Hid (packB T.L = bodyB T.L ++ numB (s : Int)) := Lib.hid (by unfold packB; rw [HSM.out])
  go_wp2_with (at_builtin; go_must (refine wpList_push4 rfl _ _ rfl HKN.out.wr.row rfl _ _ _ _ (by first | rfl | (simp; rfl) | simp) (by omega) hsz ?_); intro A5 c5 w5 HO5 HG5 HAT5)
  have HB5 : Hid (Below wB.heap.size wB w5) := Lib.hid (below_pushedW HKN.out HG5.out)
  go_ret2
  have hpe : packB T.L = bodyB T.L ++ [(s : Int) / 16777216, (s : Int) / 65536 % 256, (s : Int) / 256 % 256, (s : Int) % 256] := by
    rw [hPB.out]; unfold numB; rw [show (s : Int) / 16777216 % 256 = (s : Int) / 16777216 by omega]
  have hp8 : U8s (packB T.L) := by rw [hPB.out]; exact HU.out.append (numB_u8 _)
  have HBP : Hid (BytesAt A5 (packB T.L) w5) := Lib.hid (by
    have h := HO5.out
    rw [← hpe] at h
    exact BytesAt.of_own h hp8 (by rw [pack_len]; omega))
  have HKE : Hid (St w0 w5 (fun W => BytesAt A5 (packB T.L) W ∧ F W)) := Lib.hid ((HKB.out.step HB5.out).add (Below.refl _ _) (fun W hW => HBP.out.below hW) |>.weaken fun _ h => ⟨h.1, h.2.2⟩)
  have hcap : (packB T.L).length ≤ c5 := by
    have h := own_cap HO5.out
    rw [pack_len]; rwa [List.length_append] at h
  exact .inr ⟨HPK.out, A5, c5, hcap, by rw [pack_len]; rfl, HKE⟩
end
end Go.Proofs.Yticfbbigljgjdaa
