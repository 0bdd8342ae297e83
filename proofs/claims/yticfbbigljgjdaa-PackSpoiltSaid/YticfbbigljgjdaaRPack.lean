/- Contract of umlautref18.Pack. Condition: the table is known; fewer than 2^24 bytes. -/
import Derived.Test.YticfbbigljgjdaaRPackTerms
import Derived.Test.YticfbbigljgjdaaRTabCheck
namespace Go.Proofs.Yticfbbigljgjdaa
open Go.RowKit
set_option linter.unusedVariables false
set_option linter.unusedSimpArgs false
def RPackOk (T : TabL) : Prop := TabOk T ∧ (∀ a ∈ T.acts, FitsL a.out) ∧ ∀ l ∈ T.ends, FitsL l
def RetRPack (w0 : World) (T : TabL) (F : World → Prop) (e : Ending) (w' : World) : Prop :=
  (¬ RPackOk T ∧ e = .returned (.tuple #[.slice none 0 0, .bool false]) ∧ Hid (St w0 w' F)) ∨
  (RPackOk T ∧ ∃ A c, e = .returned (.tuple #[.slice A (packB T).length c, .bool true]) ∧ Hid (St w0 w' (fun W => BytesAt A (packB T) W ∧ F W)))
def RowB (W : World) (base : Nat) (A : Option Addr) (c : Nat) (bs : List Int) : Prop := RowW W base (.slice A bs.length c) bs.length (bs.map (Value.int .u8))
theorem RowB.below {W W' : World} {base : Nat} {A : Option Addr} {c : Nat} {bs : List Int} (h : RowB W base A c bs) (hb : Below W.heap.size W W') : RowB W' base A c bs := h.keep fun k hk => hb.block k (h.lt k hk).2
theorem OwnB.row {W : World} {base : Nat} {A : Option Addr} {c : Nat} {bs : List Int} (h : OwnB W base A c bs) : RowB W base A c bs := .inl h
theorem RowB.grown {wB W W' : World} {A : Option Addr} {c : Nat} {bs : List Int} (h : RowB W wB.heap.size A c bs) (hb : Below wB.heap.size wB W) (hg : W.grownBy W' (Value.ownBlock (.slice A bs.length c))) : Below wB.heap.size wB W' :=
  hb.grown hg hb.size (fun k hk => (h.lt k hk).1)
theorem RowB.grownA {wB W W' : World} {A : Option Addr} {c : Nat} {bs : List Int} {o : Obj} (h : RowB W wB.heap.size A c bs) (hb : Below wB.heap.size wB W) (hg : (W.alloc o).grownBy W' (Value.ownBlock (.slice A bs.length c))) : Below wB.heap.size wB W' :=
  (hb.alloc hb.size o).grown hg (by have := hb.size; simp; omega) (fun k hk => (h.lt k hk).1)
section
variable {w : World} {ops : Array Oper} {rest : List Oper} {o : Oper} {a : Act} {Q : Exit → Act → World → Prop} {base b2 : Nat} {A X : Option Addr} {c d : Nat} {bs news : List Int}
/-- a row of bytes behind a row of bytes -/
theorem wpList_pushB (hgd : o.guard = none) (s x : Operand) (ho : o.op = .call { callee := .builtin .append, args := #[s, x], argTypes := #[30, 30] })
    (hown : RowB w base A c bs) (hs : a.eval s = .slice A bs.length c) (hx : a.eval x = .slice X news.length d) (hX : OwnB w b2 X d news) (hpos : 0 < news.length) (hn : bs.length + news.length ≤ 1099511627776) (hbase : base ≤ w.heap.size)
    (h : ∀ A' c' w', Hid (OwnB w' base A' c' (bs ++ news)) → Hid (w.grownBy w' (Value.ownBlock (.slice A bs.length c))) → wpList Try.prog ops Q rest (a.put o.dst (.slice A' (bs ++ news).length c')) w') :
    wpList Try.prog ops Q (o :: rest) a w := by
  obtain ⟨i0, hi, hz0, hz1, hz2⟩ := info_parts info_u8
  obtain ⟨g, cap, hXv, _, _⟩ := World.ownsRow.form hX hpos
  have hX2 : X = some ⟨g, 0, none⟩ := by injection hXv
  subst hX2
  have hlm : (bs ++ news).length = bs.length + news.length := List.length_append
  unfold OwnB at h
  rw [hlm, List.map_append] at h
  refine wpList_plain hgd fun K hK => ?_
  obtain ⟨v', w', hr, hown', hg, hat⟩ := run_append_rowW base o.type i0 hi hz0 hz1 hz2 _ bs.length _ hown ⟨g, 0, none⟩ news.length d (news.map (Value.int .u8)) (by simp) hpos (World.ownsRow.cells hX (g := g) rfl) (by intro v hv; obtain ⟨q, _, rfl⟩ := List.mem_map.1 hv; rfl) (by omega) (by omega) hbase
  obtain ⟨A', c', rfl⟩ := own_shape hown'
  unfold Oper.wp execOp
  simp only [ho, resolve, invoke, builtin, Sem.run_bind, Sem.run_pure, Result.andThen_ok, List.map_toArray, List.map_cons, List.map_nil, hs, hx, hr]
  exact hK _ _ (h A' c' w' hown' hg)
/-- one byte behind a row -/
theorem wpList_push1 (hgd : o.guard = none) (s x : Operand) (ho : o.op = .call { callee := .builtin .append, args := #[s, x], argTypes := #[30, 30] })
    (hown : RowB w base A c bs) (hs : a.eval s = .slice A bs.length c) (x0 : Int) (hx : a.eval x = .slice (some ⟨w.heap.size, 0, none⟩) 1 1) (hn : bs.length < 1099511627776) (hbase : base ≤ w.heap.size)
    (h : ∀ A' c' w', Hid (OwnB w' base A' c' (bs ++ [x0])) → Hid ((w.alloc (.cells #[.int .u8 x0] 5)).grownBy w' (Value.ownBlock (.slice A bs.length c))) → wpList Try.prog ops Q rest (a.put o.dst (.slice A' (bs ++ [x0]).length c')) w') :
    wpList Try.prog ops Q (o :: rest) a (w.alloc (.cells #[.int .u8 x0] 5)) :=
  wpList_pushB hgd s x ho (hown.below ((Below.refl _ _).alloc (Nat.le_refl _) _)) hs (X := some ⟨w.heap.size, 0, none⟩) (d := 1) (news := [x0]) (b2 := w.heap.size) hx (World.ownsRow_lit w #[.int .u8 x0] 1 (Nat.le_refl _) (by decide) rfl) (by simp) (by simp; omega) (by simp; omega) h
end
theorem RowB.start (w : World) : RowB (w.alloc (.cells #[.int .u8 117, .int .u8 109, .int .u8 108, .int .u8 116, .int .u8 49] 5 (5, 6))) w.heap.size (some ⟨w.heap.size, 0, none⟩) 5 markB :=
  .inr ⟨w.heap.size, #[.int .u8 117, .int .u8 109, .int .u8 108, .int .u8 116, .int .u8 49], (5, 6), rfl, Nat.le_refl _, heap_alloc_new w _, rfl, rfl, by decide⟩
section
variable {w0 w : World} {F : World → Prop}
set_option maxRecDepth 100000 in
set_option maxHeartbeats 64000000 in
theorem rPack_st (hK : Hid (St w0 w F)) (cs : Array Value) (T : TabI) (hC : TabC cs T) (ht : ∀ W, F W → TabW T W) (hlen : (bodyB T.L).length ≤ 16777216) :
    Calls Try.prog 11 #[.agg cs] w (RetRPack w0 T.L F) := by
  have HT := Lib.hid ht
  have h258 := hC.c3
  have h257 := hC.c2
  have h256 := hC.c1
  have HK := St.tbox hK cs
  have hh := HK.out.now.1
  have hin : (Try.prog.info? 27).map (·.size) = some cs.size := by rw [hC.size]; kernel_rfl
  have HH := Lib.hid hh
  have HI := Lib.hid hin
  have HLEN := Lib.hid hlen
  clear ht hh hin hlen
  have kc := fun (w : World) (C : Array Value) (n c : Nat) => Lib.run_convert_bytes_const (P := Try.prog) w 30 5 C n c Try.underlying30 Try.underlying5
  go_enter Try.func11, Try.ntmps11
  go_wp2_with (refine wpList_load_row rfl 27 _ rfl w.heap.size rfl _ cs _ _ HH.out Try.underlying27 rfl HI.out ?_)
  by_cases hok : ¬ TabOk T.L
  · have HV := Lib.hid (pB_false hok)
    have HNP : Hid (¬ RPackOk T.L) := Lib.hid fun h => hok h.1
    clear hok
    refine (rCheck_st HK cs T hC (fun _ h => HT.out _ h.2) false HV).mono ?_
    rintro e w1 ⟨rfl, HK1⟩
    go_wp2_with fail
    go_ret2
    exact .inl ⟨HNP.out, rfl, Lib.hid (HK1.out.weaken fun _ h => h.2)⟩
  have hok := Classical.not_not.1 hok
  have HV := Lib.hid (pB_true hok)
  have HOK := Lib.hid hok
  clear hok
  refine (rCheck_st HK cs T hC (fun _ h => HT.out _ h.2) true HV).mono ?_
  rintro e wB ⟨rfl, HKB⟩
  obtain ⟨tb, htb⟩ : ∃ tb, w.heap.size = tb := ⟨_, rfl⟩
  rw [htb] at HKB ⊢
  clear HK HH
  obtain ⟨n0L, hn0L, _, hk1, hk2⟩ := HOK.out.head.2.2.2
  have hl0 : 0 < T.ns.length := by have := (List.getElem?_eq_some_iff.1 hn0L).1; rwa [nodesL_len] at this
  have HFB : Hid (∀ W, Below wB.heap.size wB W → TabBox tb cs W ∧ F W) := Lib.hid HKB.out.1
  obtain ⟨nb, no, n0, hA, hn0, hn0w, _, r1, _⟩ := (HT.out _ HKB.out.now.2).nodes.at_ hl0
  have e0 := nodesL_at hn0
  rw [hn0L] at e0
  injection e0 with e0
  subst e0
  have HW : Hid (widthL T.L = n0.nx.length) := Lib.hid (widthL_at (nodesL_at hn0))
  obtain ⟨K, hKn⟩ : ∃ K, n0.nx.length = K := ⟨_, rfl⟩
  have hk1' : 1 ≤ K := by rw [← hKn]; exact hk1
  have hk2' : K ≤ 256 := by rw [← hKn]; exact hk2
  rw [hKn] at HW
  have hl1 : T.ns.length ≤ 4096 := by have := HOK.out.head.1; rwa [nodesL_len] at this
  have hl2 : T.acts.length ≤ 4096 := by have := HOK.out.head.2.1; rwa [actsL_len] at this
  have hl3 : T.es.length ≤ 4096 := by have := HOK.out.head.2.2.1; rwa [endsL_len] at this
  have g256 := h256
  rw [hA] at g256
  have HS : Hid (∀ W, Below wB.heap.size wB W → W.cell? ⟨tb, 256, none⟩ = some (.slice (some ⟨nb, no, none⟩) T.ns.length T.nc) ∧ W.cell? ⟨tb, 257, none⟩ = some (.slice T.aa T.acts.length T.ac) ∧ W.cell? ⟨tb, 258, none⟩ = some (.slice T.ea T.es.length T.ec) ∧ W.cell? ⟨nb, no + 1, none⟩ = some (.slice n0.na K n0.nc)) := Lib.hid fun W hW => by
    obtain ⟨h1, h2⟩ := HFB.out W hW
    refine ⟨h1.cell1 g256, h1.cell1 h257, h1.cell1 h258, ?_⟩
    obtain ⟨nb', no', n0', hA', hn0', _, _, r1', _⟩ := (HT.out _ h2).nodes.at_ hl0
    rw [hA] at hA'; injection hA' with hA'; injection hA' with e1 e2; subst e1; subst e2
    rw [hn0] at hn0'; injection hn0' with hn0'; subst hn0'
    rw [Nat.zero_mul, Nat.add_zero, hKn] at r1'; exact r1'
  clear hn0L hk1 hk2 hn0 hn0w r1 hKn
  have HRW := Lib.hid (RowB.start wB)
  have HBW := Lib.hid ((Below.refl wB.heap.size wB).alloc (Nat.le_refl _) (.cells #[.int .u8 117, .int .u8 109, .int .u8 108, .int .u8 116, .int .u8 49] 5 (5, 6)))
  obtain ⟨q6, q7, q8, q9⟩ := HS.out _ HBW.out
  have hbw := HBW.out.size
  go_wp2_with (first
    | (go_at_call 23; refine (rnum_any _ _ ⟨by omega, by omega⟩).mono ?_; rintro e w' ⟨rfl, rfl⟩)
    | (at_builtin; go_must (refine wpList_push4 rfl _ _ rfl HRW.out rfl _ _ _ _ (by first | rfl | (simp; rfl) | simp) (by first | omega | (simp [markB]; done) | (simp [markB]; omega)) hbw ?_); intro A5 c5 w5 HO5 HG5 HAT5; (have HBW2 := Lib.hid (HRW.out.grownA HBW.out HG5.out)); clear q6 q7 q8 q9 hbw HBW HRW; (have HBW := HBW2); clear HBW2; (have HRW := Lib.hid (OwnB.row HO5.out)); (obtain ⟨q6, q7, q8, q9⟩ := HS.out _ HBW.out); (have hbw := HBW.out.size); clear HO5 HG5 HAT5))
  clear q6 q7 q8 q9
  obtain ⟨bsH, hbsH⟩ : ∃ z, markB ++ numB (K : Int) ++ numB (T.ns.length : Int) ++ numB (T.acts.length : Int) ++ numB (T.es.length : Int) = z := ⟨_, rfl⟩
  have HRH : Hid (RowB w5 wB.heap.size A5 c5 bsH) := by rw [← hbsH]; exact HRW
  have hHL : bsH.length = markB.length + 16 := by rw [← hbsH]; rfl
  have HHL := Lib.hid hHL
  have HBH : Hid (bodyB T.L = (bsH ++ T.cls) ++ (T.L.nodes.flatMap nodeB ++ (T.L.acts.flatMap actB ++ T.L.ends.flatMap termsB))) := Lib.hid (by
    rw [← hbsH]
    unfold bodyB innerB headB
    rw [HW.out, nodesL_len, actsL_len, endsL_len]
    simp [List.append_assoc]
    rfl)
  clear HRW hbsH hHL hbw
  go_loopw [4, 5] (fun bv i wq => ∃ (k : Nat) (A : Option Addr) (c : Nat) (bs : List Int), k ≤ 256 ∧ i = .int .i64 k ∧ bv = .slice A bs.length c ∧ bs.length ≤ 21 + k ∧ Hid (bs = bsH ++ T.cls.take k) ∧ Hid (RowB wq wB.heap.size A c bs) ∧ Hid (Below wB.heap.size wB wq)) (fun _ i _ => 256 - (intOf i).toNat)
  case atStart => exact ⟨0, A5, c5, bsH, by omega, rfl, by rw [HHL.out], by rw [HHL.out]; simp [markB], Lib.hid (by simp), HRH, HBW⟩
  case round =>
  clear HRH HBW
  obtain ⟨k, A, c, bs, hk, rfl, rfl, hbl, HBS, HRW, HBW⟩ := hrel
  have hbw := HBW.out.size
  by_cases hlt : k < 256
  · obtain ⟨x, hx⟩ : ∃ x, T.cls[k]? = some x := ⟨_, List.getElem?_eq_getElem (by rw [hC.ln]; exact hlt)⟩
    have hcc := (HFB.out _ HBW.out).1.cell1 (hC.cl k x hx)
    have HBN : Hid (bs ++ [x] = bsH ++ T.cls.take (k + 1)) := Lib.hid (by rw [take_snoc? hx, ← List.append_assoc, HBS.out])
    have hk0 : (0 : Int) ≤ (k : Int) := by omega
    have hk' : (k : Int) < 256 := by omega
    clear hx
    go_wp2_with (at_builtin; go_must (refine wpList_push1 rfl _ _ rfl HRW.out rfl _ (by first | rfl | (simp; rfl) | simp) (by omega) hbw ?_); intro A6 c6 w6 HO6 HG6)
    have HB6 := Lib.hid (HRW.out.grownA HBW.out HG6.out)
    exact ⟨⟨k + 1, A6, c6, bs ++ [x], by omega, by go_num, by simp, by simp; omega, HBN, Lib.hid HO6.out.row, HB6⟩, by simp [intOf]; omega⟩
  obtain rfl : k = 256 := by omega
  have HBC : Hid (bs = bsH ++ T.cls) := Lib.hid (by rw [HBS.out, show (256 : Nat) = T.cls.length from hC.ln.symm, List.take_length])
  rw [← HBC.out] at HBH
  have HLB : Hid (bs.length + (T.L.nodes.flatMap nodeB).length + (T.L.acts.flatMap actB).length + (T.L.ends.flatMap termsB).length ≤ 16777216) := Lib.hid (by
    have := HLEN.out
    rw [HBH.out, List.length_append, List.length_append, List.length_append] at this
    omega)
  clear HBS hbl HBC HHL
  go_wp2_with fail
  rw [show ((256 : Nat) : Int) = 256 from rfl]
  obtain ⟨bs3, hbs3⟩ : ∃ z, bs = z := ⟨_, rfl⟩
  rw [hbs3] at HRW HBH HLB ⊢
  clear hbs3 hbw
  go_loopw [4, 6] (fun bv i wq => ∃ (m : Nat) (A : Option Addr) (c : Nat) (bs : List Int), m ≤ T.ns.length ∧ i = .int .i64 m ∧ bv = .slice A bs.length c ∧ Hid (bs = bs3 ++ (T.L.nodes.take m).flatMap nodeB) ∧ Hid (RowB wq wB.heap.size A c bs) ∧ Hid (Below wB.heap.size wB wq)) (fun _ i _ => T.ns.length - (intOf i).toNat)
  case atStart => exact ⟨0, A, c, bs3, Nat.zero_le _, rfl, rfl, Lib.hid (by simp), HRW, HBW⟩
  case round =>
  clear HRW HBW
  obtain ⟨m, A, c, bs, hm, rfl, rfl, HBS, HRW, HBW⟩ := hrel
  have hbw := HBW.out.size
  by_cases hlt : m < T.ns.length
  · obtain ⟨nb', no', q, hA', hx, hw, _, _, _⟩ := (HT.out _ (HFB.out _ HBW.out).2).nodes.at_ hlt
    rw [hA] at hA'
    injection hA' with hA'
    injection hA' with e1 e2
    subst e1; subst e2
    have hxl := nodesL_at hx
    have HSN : Hid (∀ W, Below wB.heap.size wB W → W.cell? ⟨tb, 256, none⟩ = some (.slice (some ⟨nb, no, none⟩) T.ns.length T.nc) ∧ W.cell? ⟨nb, no + m * 3, none⟩ = some (.int .i64 q.h) ∧ W.cell? ⟨nb, no + m * 3 + 1, none⟩ = some (.slice q.na q.nx.length q.nc) ∧ W.cell? ⟨nb, no + m * 3 + 2, none⟩ = some (.int .i64 q.e)) := Lib.hid fun W hW => by
      obtain ⟨h1, h2⟩ := HFB.out W hW
      obtain ⟨nb', no', q', hA', hx', _, k0, k1, k2⟩ := (HT.out _ h2).nodes.at_ hlt
      rw [hA] at hA'; injection hA' with hA'; injection hA' with e1 e2; subst e1; subst e2
      rw [hx] at hx'; injection hx' with hx'; subst hx'
      exact ⟨h1.cell1 g256, k0, k1, k2⟩
    have hb4 : bs.length + (8 + 4 * q.nx.length) ≤ 16777216 := by
      have h1 := flatMap_take_add nodeB hxl
      have h2 := HLB.out
      have h3 : (nodeB q.L).length = 8 + 4 * q.nx.length := nodeB_len2 q.L
      rw [HBS.out, List.length_append]; omega
    have HBN : Hid ((bs ++ numB q.h ++ numB q.e) ++ q.nx.flatMap numB = bs3 ++ (T.L.nodes.take (m + 1)).flatMap nodeB) := Lib.hid (by
      rw [flatMap_take_succ nodeB hxl, ← List.append_assoc, HBS.out]
      simp [nodeB, NodeI.L, List.append_assoc])
    obtain ⟨⟨i0, i1⟩, ⟨i2, i3⟩⟩ := hw.1
    have HNX : Hid (∀ W, Below wB.heap.size wB W → IntsAt q.na q.nx W) := Lib.hid fun W hW => ((HT.out _ (HFB.out _ hW).2).nodes.it q (List.mem_of_getElem? hx)).2
    obtain ⟨q6, q7, q8, q9⟩ := HSN.out _ HBW.out
    clear hx hxl hw
    go_wp2_with (first
      | (go_at_call 23; refine (rnum_any _ _ ⟨by omega, by omega⟩).mono ?_; rintro e w' ⟨rfl, rfl⟩)
      | (at_builtin; go_must (refine wpList_push4 rfl _ _ rfl HRW.out (by first | rfl | (simp; rfl) | simp) _ _ _ _ (by first | rfl | (simp; rfl) | simp) (by first | omega | (simp; omega)) hbw ?_); intro A5 c5 w5 HO5 HG5 HAT5; (have HBW2 := Lib.hid (HRW.out.grownA HBW.out HG5.out)); clear q6 q7 q8 q9 hbw HBW HRW; (have HBW := HBW2); clear HBW2; (have HRW := Lib.hid (OwnB.row HO5.out)); (obtain ⟨q6, q7, q8, q9⟩ := HSN.out _ HBW.out); (have hbw := HBW.out.size); clear HO5 HG5 HAT5))
    obtain ⟨bs4, hbs4⟩ : ∃ z, bs ++ numB q.h ++ numB q.e = z := ⟨_, rfl⟩
    have HR4 : Hid (RowB w5 wB.heap.size A5 c5 bs4) := by rw [← hbs4]; exact HRW
    have hl4 : bs4.length = bs.length + 8 := by rw [← hbs4]; simp [numB]
    have HL4 := Lib.hid hl4
    rw [hbs4] at HBN
    clear HRW hbs4 hl4 q6 q7 q8 q9 hbw i0 i1 i2 i3
    go_loopw [4, 7] (fun bv i2 wq => ∃ (j : Nat) (A : Option Addr) (c : Nat) (bs2 : List Int), j ≤ q.nx.length ∧ i2 = .int .i64 j ∧ bv = .slice A bs2.length c ∧ bs2.length ≤ bs.length + 8 + 4 * j ∧ Hid (bs2 = bs4 ++ (q.nx.take j).flatMap numB) ∧ Hid (RowB wq wB.heap.size A c bs2) ∧ Hid (Below wB.heap.size wB wq)) (fun _ i2 _ => q.nx.length - (intOf i2).toNat)
    case atStart => exact ⟨0, A5, c5, bs4, Nat.zero_le _, rfl, by rw [HL4.out], by rw [HL4.out]; omega, Lib.hid (by simp), HR4, HBW⟩
    case round =>
    clear HR4 HBW
    obtain ⟨j, A2, c2, bs2, hj, rfl, rfl, hb2, HBS2, HRW, HBW⟩ := hrel
    obtain ⟨q6, q7, q8, q9⟩ := HSN.out _ HBW.out
    have hbw := HBW.out.size
    by_cases hlt2 : j < q.nx.length
    · obtain ⟨xb, xo, x, hXA, hxk, ⟨x0, x1⟩, hxc⟩ := (HNX.out _ HBW.out).at_ hlt2
      have HBN3 : Hid (bs2 ++ numB x = bs4 ++ (q.nx.take (j + 1)).flatMap numB) := Lib.hid (by rw [flatMap_take_succ numB hxk, ← List.append_assoc, HBS2.out])
      rw [hXA] at q8
      clear hxk hXA
      go_wp2_with (first
        | (go_at_call 23; refine (rnum_any _ _ ⟨by omega, by omega⟩).mono ?_; rintro e w' ⟨rfl, rfl⟩)
        | (at_builtin; go_must (refine wpList_push4 rfl _ _ rfl HRW.out rfl _ _ _ _ (by first | rfl | (simp; rfl) | simp) (by omega) hbw ?_); intro A6 c6 w6 HO6 HG6 HAT6))
      have HB6 := Lib.hid (HRW.out.grownA HBW.out HG6.out)
      exact ⟨⟨j + 1, A6, c6, bs2 ++ numB x, by omega, by go_num, by simp [numB], by simp [numB]; omega, HBN3, Lib.hid (OwnB.row HO6.out), HB6⟩, by simp [intOf]; omega⟩
    · obtain rfl : j = q.nx.length := by omega
      have hd : decide (q.nx.length < q.nx.length) = false := by simp
      have HBF : Hid (bs2 = bs3 ++ (T.L.nodes.take (m + 1)).flatMap nodeB) := Lib.hid (by rw [← HBN.out, HBS2.out, List.take_length])
      go_wp2_with fail
      exact ⟨⟨m + 1, A2, c2, bs2, by omega, by go_num, rfl, HBF, HRW, HBW⟩, by simp [intOf]; omega⟩
  obtain rfl : m = T.ns.length := by omega
  have hd : decide (T.ns.length < T.ns.length) = false := by simp
  obtain ⟨q6, q7, q8, q9⟩ := HS.out _ HBW.out
  have HBE : Hid (bs = bs3 ++ T.L.nodes.flatMap nodeB) := Lib.hid (by
    have := HBS.out
    rwa [← nodesL_len, List.take_length] at this)
  rw [← List.append_assoc, ← HBE.out] at HBH
  have HLB2 : Hid (bs.length + (T.L.acts.flatMap actB).length + (T.L.ends.flatMap termsB).length ≤ 16777216) := Lib.hid (by
    have := HLB.out
    rw [HBE.out, List.length_append]; omega)
  clear HBS HBE HLB hm
  go_wp2_with fail
  clear hd q6 q7 q8 q9
  obtain ⟨bs6, hbs6⟩ : ∃ z, bs = z := ⟨_, rfl⟩
  rw [hbs6] at HRW HBH HLB2 ⊢
  clear hbs6 hbw
  go_loopw [4, 8] (fun bv i wq => ∃ (m : Nat) (A : Option Addr) (c : Nat) (bs : List Int), m ≤ T.acts.length ∧ i = .int .i64 m ∧ bv = .slice A bs.length c ∧ Hid (bs = bs6 ++ (T.L.acts.take m).flatMap actB) ∧ Hid (∀ a ∈ T.L.acts.take m, FitsL a.out) ∧ Hid (RowB wq wB.heap.size A c bs) ∧ Hid (Below wB.heap.size wB wq)) (fun _ i _ => T.acts.length - (intOf i).toNat)
  case atStart => exact ⟨0, A, c, bs6, Nat.zero_le _, rfl, rfl, Lib.hid (by simp), Lib.hid (fun a ha => by simp at ha), HRW, HBW⟩
  case round =>
  clear HRW HBW
  obtain ⟨m, A, c, bs, hm, rfl, rfl, HBS, HFT, HRW, HBW⟩ := hrel
  have hbw := HBW.out.size
  by_cases hlt : m < T.acts.length
  · obtain ⟨ab, ao, q, hA', hx, hw, _, _, _⟩ := (HT.out _ (HFB.out _ HBW.out).2).acts.at_ hlt
    have hxl := actsL_at hx
    have HSN : Hid (∀ W, Below wB.heap.size wB W → W.cell? ⟨tb, 257, none⟩ = some (.slice (some ⟨ab, ao, none⟩) T.acts.length T.ac) ∧ W.cell? ⟨ab, ao + m * 3, none⟩ = some (.int .i64 q.e) ∧ W.cell? ⟨ab, ao + m * 3 + 1, none⟩ = some (.int .i64 q.d) ∧ W.cell? ⟨ab, ao + m * 3 + 2, none⟩ = some (.slice q.o.a q.o.l.length q.o.c)) := Lib.hid fun W hW => by
      obtain ⟨h1, h2⟩ := HFB.out W hW
      obtain ⟨ab', ao', q', hA2, hx', _, k0, k1, k2⟩ := (HT.out _ h2).acts.at_ hlt
      rw [hA'] at hA2; injection hA2 with hA2; injection hA2 with e1 e2; subst e1; subst e2
      rw [hx] at hx'; injection hx' with hx'; subst hx'
      exact ⟨by rw [← hA']; exact h1.cell1 h257, k0, k1, k2⟩
    have hb4 : bs.length + (8 + (termsB q.o.L).length) ≤ 16777216 := by
      have h1 := flatMap_take_add actB hxl
      have h2 := HLB2.out
      have h3 : (actB q.L).length = 8 + (termsB q.o.L).length := by simp [actB, numB_len, ActI.L]; omega
      rw [HBS.out, List.length_append]; omega
    have HBN : Hid ((bs ++ numB q.e ++ numB q.d) ++ termsB q.o.L = bs6 ++ (T.L.acts.take (m + 1)).flatMap actB) := Lib.hid (by
      rw [flatMap_take_succ actB hxl, ← List.append_assoc, HBS.out]
      simp [actB, ActI.L, List.append_assoc])
    obtain ⟨⟨i0, i1⟩, ⟨i2, i3⟩⟩ := hw.1
    have HX := Lib.hid hxl
    have HNX : Hid (∀ W, Below wB.heap.size wB W → OutW q.o W) := Lib.hid fun W hW => ((HT.out _ (HFB.out _ hW).2).acts.it q (List.mem_of_getElem? hx)).2
    have HKq := Lib.hid ((HKB.out.step HBW.out).add (Below.refl _ _) (G := fun W => RowB W wB.heap.size A c bs ∧ Below wB.heap.size wB W ∧ OutW q.o W) (fun W hW => ⟨HRW.out.below hW, below_to HBW.out hW, HNX.out _ (below_to HBW.out hW)⟩))
    obtain ⟨q6, q7, q8, q9⟩ := HSN.out _ HBW.out
    have htp : 0 < (termsB q.o.L).length := by unfold termsB; rw [List.length_append, numB_len]; omega
    clear hx hxl hw hA'
    by_cases hf : ¬ FitsL q.o.L
    · have HVF := Lib.hid (pB_false hf)
      have HNP : Hid (¬ RPackOk T.L) := Lib.hid fun h => hf (h.2.1 _ (List.mem_of_getElem? HX.out))
      clear hf
      go_wp2_with fail
      refine (rfits_st HKq q.o (fun _ h => h.1.2.2) false HVF).mono ?_
      rintro e w6 ⟨rfl, HK6⟩
      go_wp2_with fail
      go_ret2
      exact .inl ⟨HNP.out, rfl, Lib.hid (HK6.out.weaken fun _ h => h.2.2)⟩
    have hf := Classical.not_not.1 hf
    have HVF := Lib.hid (pB_true hf)
    have HFT2 : Hid (∀ a ∈ T.L.acts.take (m + 1), FitsL a.out) := Lib.hid fun a ha => by
      rw [take_snoc? HX.out] at ha
      rcases List.mem_append.1 ha with ha | ha
      · exact HFT.out a ha
      · simp at ha; subst ha; exact hf
    clear hf
    go_wp2_with fail
    refine (rfits_st HKq q.o (fun _ h => h.1.2.2) true HVF).mono ?_
    rintro e w6 ⟨rfl, HK6⟩
    obtain ⟨⟨hrw6, hbw6, _⟩, _⟩ := HK6.out.now
    clear HRW HBW hbw q6 q7 q8 q9 HKq
    have HRW := Lib.hid hrw6
    have HBW := Lib.hid hbw6
    have hbw := HBW.out.size
    obtain ⟨q6, q7, q8, q9⟩ := HSN.out _ HBW.out
    clear hrw6 hbw6 HK6
    go_wp2_with (first
      | (go_at_call 23; refine (rnum_any _ _ ⟨by omega, by omega⟩).mono ?_; rintro e w' ⟨rfl, rfl⟩)
      | (at_builtin; go_must (refine wpList_push4 rfl _ _ rfl HRW.out (by first | rfl | (simp; rfl) | simp) _ _ _ _ (by first | rfl | (simp; rfl) | simp) (by first | omega | (simp; omega)) hbw ?_); intro A5 c5 w5 HO5 HG5 HAT5; (have HBW2 := Lib.hid (HRW.out.grownA HBW.out HG5.out)); clear q6 q7 q8 q9 hbw HBW HRW; (have HBW := HBW2); clear HBW2; (have HRW := Lib.hid (OwnB.row HO5.out)); (obtain ⟨q6, q7, q8, q9⟩ := HSN.out _ HBW.out); (have hbw := HBW.out.size); clear HO5 HG5 HAT5))
    have HKt := Lib.hid ((HKB.out.step HBW.out).add (Below.refl _ _) (G := OutW q.o) (fun W hW => HNX.out _ (below_to HBW.out hW)))
    have HTL : Hid ((termsB q.o.L).length ≤ 16777216) := Lib.hid (by omega)
    refine (rterms18_st HKt q.o (fun _ h => h.1) HTL.out).mono ?_
    rintro e w7 ⟨A7, c7, rfl, HO7, HB7, HK7⟩
    have HRW7 := Lib.hid (RowB.below HRW.out HB7.out)
    have HBW7 : Hid (Below wB.heap.size wB w7) := Lib.hid (below_to HBW.out HB7.out)
    have hbw7 := HBW7.out.size
    obtain ⟨bs4, hbs4⟩ : ∃ z, bs ++ numB q.e ++ numB q.d = z := ⟨_, rfl⟩
    have HR4 : Hid (RowB w7 wB.heap.size A5 c5 bs4) := by rw [← hbs4]; exact HRW7
    have hl4 : bs.length + 8 = bs4.length := by rw [← hbs4]; simp [numB]
    rw [hbs4] at HBN
    rw [hl4]
    have hl5 : bs4.length + (termsB q.o.L).length ≤ 16777216 := by omega
    clear HRW HRW7 hbs4 hl4 q6 q7 q8 q9 hbw i0 i1 i2 i3 HKt HK7
    go_wp2_with (at_builtin; go_must (refine wpList_pushB rfl _ _ rfl HR4.out (by rfl) (by rfl) HO7.out htp (by omega) hbw7 ?_); intro A8 c8 w8 HO8 HG8)
    have HB8 := Lib.hid (HR4.out.grown HBW7.out HG8.out)
    exact ⟨⟨m + 1, A8, c8, bs4 ++ termsB q.o.L, by omega, by go_num, by simp, HBN, HFT2, Lib.hid HO8.out.row, HB8⟩, by simp [intOf]; omega⟩
  obtain rfl : m = T.acts.length := by omega
  have hd : decide (T.acts.length < T.acts.length) = false := by simp
  obtain ⟨q6, q7, q8, q9⟩ := HS.out _ HBW.out
  have HBE : Hid (bs = bs6 ++ T.L.acts.flatMap actB) := Lib.hid (by
    have := HBS.out
    rwa [← actsL_len, List.take_length] at this)
  have HFA : Hid (∀ a ∈ T.L.acts, FitsL a.out) := Lib.hid (by
    have := HFT.out
    rwa [← actsL_len, List.take_length] at this)
  rw [← List.append_assoc, ← HBE.out] at HBH
  have HLB3 : Hid (bs.length + (T.L.ends.flatMap termsB).length ≤ 16777216) := Lib.hid (by
    have := HLB2.out
    rw [HBE.out, List.length_append]; omega)
  clear HBS HBE HLB2 hm HFT
  go_wp2_with fail
  clear hd q6 q7 q8 q9
  obtain ⟨bs7, hbs7⟩ : ∃ z, bs = z := ⟨_, rfl⟩
  rw [hbs7] at HRW HBH HLB3 ⊢
  clear hbs7 hbw
  go_loopw [4, 9] (fun bv i wq => ∃ (m : Nat) (A : Option Addr) (c : Nat) (bs : List Int), m ≤ T.es.length ∧ i = .int .i64 m ∧ bv = .slice A bs.length c ∧ Hid (bs = bs7 ++ (T.L.ends.take m).flatMap termsB) ∧ Hid (∀ a ∈ T.L.ends.take m, FitsL a) ∧ Hid (RowB wq wB.heap.size A c bs) ∧ Hid (Below wB.heap.size wB wq)) (fun _ i _ => T.es.length - (intOf i).toNat)
  case atStart => exact ⟨0, A, c, bs7, Nat.zero_le _, rfl, rfl, Lib.hid (by simp), Lib.hid (fun a ha => by simp at ha), HRW, HBW⟩
  case round =>
  clear HRW HBW
  obtain ⟨m, A, c, bs, hm, rfl, rfl, HBS, HFT, HRW, HBW⟩ := hrel
  have hbw := HBW.out.size
  by_cases hlt : m < T.es.length
  · obtain ⟨ab, ao, q, hA', hx, hw, _⟩ := (HT.out _ (HFB.out _ HBW.out).2).ends.at_ hlt
    have hxl := endsL_at hx
    have HSN : Hid (∀ W, Below wB.heap.size wB W → W.cell? ⟨tb, 258, none⟩ = some (.slice (some ⟨ab, ao, none⟩) T.es.length T.ec) ∧ W.cell? ⟨ab, ao + m, none⟩ = some (.slice q.a q.l.length q.c)) := Lib.hid fun W hW => by
      obtain ⟨h1, h2⟩ := HFB.out W hW
      obtain ⟨ab', ao', q', hA2, hx', _, k0⟩ := (HT.out _ h2).ends.at_ hlt
      rw [hA'] at hA2; injection hA2 with hA2; injection hA2 with e1 e2; subst e1; subst e2
      rw [hx] at hx'; injection hx' with hx'; subst hx'
      exact ⟨by rw [← hA']; exact h1.cell1 h258, k0⟩
    have hb4 : bs.length + (termsB q.L).length ≤ 16777216 := by
      have h1 := flatMap_take_add termsB hxl
      have h2 := HLB3.out
      rw [HBS.out, List.length_append]; omega
    have HBN : Hid (bs ++ termsB q.L = bs7 ++ (T.L.ends.take (m + 1)).flatMap termsB) := Lib.hid (by
      rw [flatMap_take_succ termsB hxl, ← List.append_assoc, HBS.out])
    have HX := Lib.hid hxl
    have HNX : Hid (∀ W, Below wB.heap.size wB W → OutW q W) := Lib.hid fun W hW => (HT.out _ (HFB.out _ hW).2).ends.it q (List.mem_of_getElem? hx)
    have HKq := Lib.hid ((HKB.out.step HBW.out).add (Below.refl _ _) (G := fun W => RowB W wB.heap.size A c bs ∧ Below wB.heap.size wB W ∧ OutW q W) (fun W hW => ⟨HRW.out.below hW, below_to HBW.out hW, HNX.out _ (below_to HBW.out hW)⟩))
    obtain ⟨q6, q7⟩ := HSN.out _ HBW.out
    have htp : 0 < (termsB q.L).length := by unfold termsB; rw [List.length_append, numB_len]; omega
    clear hx hxl hw hA'
    by_cases hf : ¬ FitsL q.L
    · have HVF := Lib.hid (pB_false hf)
      have HNP : Hid (¬ RPackOk T.L) := Lib.hid fun h => hf (h.2.2 _ (List.mem_of_getElem? HX.out))
      clear hf
      go_wp2_with fail
      refine (rfits_st HKq q (fun _ h => h.1.2.2) false HVF).mono ?_
      rintro e w6 ⟨rfl, HK6⟩
      go_wp2_with fail
      go_ret2
      exact .inl ⟨HNP.out, rfl, Lib.hid (HK6.out.weaken fun _ h => h.2.2)⟩
    have hf := Classical.not_not.1 hf
    have HVF := Lib.hid (pB_true hf)
    have HFT2 : Hid (∀ a ∈ T.L.ends.take (m + 1), FitsL a) := Lib.hid fun a ha => by
      rw [take_snoc? HX.out] at ha
      rcases List.mem_append.1 ha with ha | ha
      · exact HFT.out a ha
      · simp at ha; subst ha; exact hf
    clear hf
    go_wp2_with fail
    refine (rfits_st HKq q (fun _ h => h.1.2.2) true HVF).mono ?_
    rintro e w6 ⟨rfl, HK6⟩
    obtain ⟨⟨hrw6, hbw6, _⟩, _⟩ := HK6.out.now
    clear HRW HBW hbw q6 q7 HKq
    have HRW := Lib.hid hrw6
    have HBW := Lib.hid hbw6
    have hbw := HBW.out.size
    obtain ⟨q6, q7⟩ := HSN.out _ HBW.out
    clear hrw6 hbw6 HK6
    go_wp2_with fail
    have HKt := Lib.hid ((HKB.out.step HBW.out).add (Below.refl _ _) (G := OutW q) (fun W hW => HNX.out _ (below_to HBW.out hW)))
    have HTL : Hid ((termsB q.L).length ≤ 16777216) := Lib.hid (by omega)
    refine (rterms18_st HKt q (fun _ h => h.1) HTL.out).mono ?_
    rintro e w7 ⟨A7, c7, rfl, HO7, HB7, HK7⟩
    have HRW7 := Lib.hid (RowB.below HRW.out HB7.out)
    have HBW7 : Hid (Below wB.heap.size wB w7) := Lib.hid (below_to HBW.out HB7.out)
    have hbw7 := HBW7.out.size
    clear HRW q6 q7 hbw HKt HK7
    go_wp2_with (at_builtin; go_must (refine wpList_pushB rfl _ _ rfl HRW7.out (by rfl) (by rfl) HO7.out htp (by omega) hbw7 ?_); intro A8 c8 w8 HO8 HG8)
    have HB8 := Lib.hid (HRW7.out.grown HBW7.out HG8.out)
    exact ⟨⟨m + 1, A8, c8, bs ++ termsB q.L, by omega, by go_num, by simp, HBN, HFT2, Lib.hid HO8.out.row, HB8⟩, by simp [intOf]; omega⟩
  obtain rfl : m = T.es.length := by omega
  have hd : decide (T.es.length < T.es.length) = false := by simp
  obtain ⟨q6, q7, q8, q9⟩ := HS.out _ HBW.out
  have HBE : Hid (bs = bodyB T.L) := Lib.hid (by
    have := HBS.out
    rw [← endsL_len, List.take_length] at this
    rw [this, HBH.out])
  have HFE : Hid (∀ a ∈ T.L.ends, FitsL a) := Lib.hid (by
    have := HFT.out
    rwa [← endsL_len, List.take_length] at this)
  have HPK : Hid (RPackOk T.L) := Lib.hid ⟨HOK.out, HFA.out, HFE.out⟩
  rw [HBE.out] at HRW ⊢
  have hle := HLEN.out
  have hu := bodyB_u8 (T := T.L) hC.u8
  have HBY := Lib.hid (RowW.bytes HRW.out hu (by omega))
  have HU := Lib.hid hu
  obtain ⟨s, hs⟩ : ∃ s, fnvL (bodyB T.L) = s := ⟨_, rfl⟩
  have hs1 := fnvL_lt (bodyB T.L)
  rw [hs] at hs1
  have HSM := Lib.hid hs
  clear hu hs HBS HFT hm
  go_wp2_with fail
  refine (rSum_any A c (bodyB T.L) wr HBY.out).mono ?_
  rintro e w9 ⟨rfl, rfl⟩
  rw [HSM.out]
  go_wp2_with (first
    | (go_at_call 23; refine (rnum_any _ _ ⟨by omega, by omega⟩).mono ?_; rintro e w' ⟨rfl, rfl⟩)
    | (at_builtin; go_must (refine wpList_push4 rfl _ _ rfl HRW.out rfl _ _ _ _ (by first | rfl | (simp; rfl) | simp) (by omega) hbw ?_); intro A5 c5 w5 HO5 HG5 HAT5))
  have HB5 := Lib.hid (HRW.out.grownA HBW.out HG5.out)
  go_ret2
  have hpe : packB T.L = bodyB T.L ++ [(s : Int) / 16777216 % 256, (s : Int) / 65536 % 256, (s : Int) / 256 % 256, (s : Int) % 256] := by
    unfold packB; rw [HSM.out]; rfl
  have hp8 : U8s (packB T.L) := by unfold packB; exact HU.out.append (numB_u8 _)
  have HBP : Hid (BytesAt A5 (packB T.L) w5) := Lib.hid (by
    have h := HO5.out
    rw [← hpe] at h
    exact BytesAt.of_own h hp8 (by rw [pack_len]; omega))
  have HKE : Hid (St w0 w5 (fun W => BytesAt A5 (packB T.L) W ∧ F W)) := Lib.hid ((HKB.out.step HB5.out).add (Below.refl _ _) (fun W hW => HBP.out.below hW) |>.weaken fun _ h => ⟨h.1, h.2.2⟩)
  exact .inr ⟨HPK.out, A5, c5, by rw [pack_len]; rfl, HKE⟩
end
end Go.Proofs.Yticfbbigljgjdaa
