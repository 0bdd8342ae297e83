/- Contract of umlautref05.Split. Condition: at most 30 sets of at most 30 spans each. -/
import Derived.Test.YtdaagdohhnhbdaaTwoRows
import Derived.Test.YtdaagdohhnhbdaaAppend
import Derived.Deep.RegionHeld3
import Derived.Laws.Strings
namespace Go.Proofs.Ytdaagdohhnhbdaa
open Go.RowKit
set_option linter.unusedVariables false
set_option linter.unusedSimpArgs false

section
variable {w0 w : World} {F : World → Prop} {A B : Option Addr} {a b r : List Sp}
theorem rNorm_stB (hK : Hid (St w0 w F)) (ha : ∀ W, F W → Lst A a W) (hn : a.length < 1048576) (c : Nat) (hr : Hid (Rep r (Mem a))) : Calls Try.prog 73 #[.slice A a.length c] w (RetLB w0 w.heap.size r F) := by
  have h1 := ha w hK.out.now
  refine (rNorm_any A _ c a w h1.sp h1.wd hn).mono ?_
  intro e w1 h
  exact retLB_new hK h hr
theorem rBoth_stB (hK : Hid (St w0 w F)) (ha : ∀ W, F W → Lst A a W) (hb : ∀ W, F W → Lst B b W) (hn : a.length < 1048576) (hm : b.length < 1048576) (c d : Nat) (hr : Hid (Rep r (fun x => Mem a x ∨ Mem b x))) : Calls Try.prog 64 #[.slice A a.length c, .slice B b.length d, .int .i64 0] w (RetLB w0 w.heap.size r F) := by
  have h1 := ha w hK.out.now
  have h2 := hb w hK.out.now
  refine (Make0_any A B _ c _ d a b w h1.sp h2.sp h1.wd h2.wd hn hm).mono ?_
  intro e w1 h
  exact retLB_new hK h (Lib.hid (hr.out.congr fun x => (madeB_0 a b x).symm))
end

/-- two more behind a row, as a step of a region that draws -/
theorem step_push2 {P : Program} {w : World} {ops : Array Oper} {o : Oper} {a : Act} {K : Act → World → Prop} {Q : Exit → Act → World → Prop} {E : Prop} (hgd : o.guard = none) (s x : Operand) (t : TypeId)
    (ho : o.op = .call { callee := .builtin .append, args := #[s, x], argTypes := #[t, t] })
    (base : Nat) (e : TypeId) (i : TypeInfo) (z : Value) (size bytes : Nat) (ht : P.underlying t = some (.slice e)) (hi : P.info? e = some i) (hz : i.zero = some z)
    (hsize : i.size = size) (hby : i.bytes = bytes) (hzs : z.cells.size = size) (hsz : 0 < size)
    {v : Value} {n : Nat} {xs : List Value} (hown : w.ownsRow base e size v n xs) (hs : a.eval s = v)
    (B : Nat) (news : List Value) (e' : TypeId) (hx : a.eval x = .slice (some ⟨B, 0, none⟩) 2 2) (hl : news.length = 2 * size) (h1 : ∀ u ∈ news, u.oneCell' = true)
    (hB : w.heap[B]? = some (.cells news.toArray e' (0, 0)))
    (hn : n < 1099511627776) (hb : bytes ≤ 64) (hbase : base ≤ w.heap.size)
    (h : ∀ g cap w', w'.ownsRow base e size (.slice (some ⟨g, 0, none⟩) (n + 2) cap) (n + 2) (xs ++ news) → w.grownBy w' v.ownBlock → (v.ownBlock = some g ∨ g = w.heap.size) → K (a.put o.dst (.slice (some ⟨g, 0, none⟩) (n + 2) cap)) w') :
    if Region.wanted o (yielded ops a.tmps) = true then Oper.wp P o a w K Q else E := by
  refine step_append_lies w hgd s x t ho base e i z size bytes ht hi hz hsize hby hzs hsz v n xs hs hown ⟨B, 0, none⟩ 2 2 news hx hl (World.news_of_block (cs := news.toArray) (t := e') (fr := (0, 0)) hB) h1 (by omega) (by unfold maxLen; omega) ?_ hbase _ rfl
    (fun g cap w' h1 h2 h3 _ => h g cap w' h1 h2 h3)
  have : (n + 2) * bytes ≤ (n + 2) * 64 := Nat.mul_le_mul_left _ hb
  omega
theorem InS_one2 (p : Sp) (x : Int) : InS [p] x ↔ (p.1 ≤ x ∧ x ≤ p.2) := by simp [InS]
theorem or_step {A : Prop} {a f t x : Int} (h1 : a ≤ f) (h2 : f ≤ t + 1) : (A ∨ (a ≤ x ∧ x < t + 1)) ↔ ((A ∨ (a ≤ x ∧ x < f)) ∨ (f ≤ x ∧ x ≤ t)) := by
  constructor
  · rintro (h | h)
    · exact .inl (.inl h)
    · by_cases c : x < f
      · exact .inl (.inr ⟨h.1, c⟩)
      · exact .inr (by omega)
  · rintro ((h | h) | h)
    · exact .inl h
    · exact .inr (by omega)
    · exact .inr (by omega)
theorem one4 {a b c d : Value} (ha : a.oneCell' = true) (hb : b.oneCell' = true) (hc : c.oneCell' = true) (hd : d.oneCell' = true) : ∀ u ∈ [a, b, c, d], u.oneCell' = true := by
  intro u hu; simp at hu; rcases hu with rfl | rfl | rfl | rfl <;> assumption

theorem cut1_take {s : List Sp} {k : Nat} {p : Sp} (h : s[k]? = some p) : cut1 (s.take (k + 1)) = cut1 (s.take k) ++ [(p.1, p.1), (p.2 + 1, p.2 + 1)] := by
  rw [take_snoc? h]; unfold cut1; simp
theorem cutsL_take {fam : List (List Sp)} {k : Nat} {s : List Sp} (h : fam[k]? = some s) : cutsL (fam.take (k + 1)) = cutsL (fam.take k) ++ cut1 (normL s) := by
  rw [take_snoc? h, cutsL_append, cutsL_one]
theorem cutsL_wd (fam : List (List Sp)) : SpW (cutsL fam) := by
  intro p hp
  unfold cutsL cut1 at hp
  simp only [List.mem_flatMap] at hp
  obtain ⟨s, _, q, hq, hp⟩ := hp
  obtain ⟨h1, h2, h3⟩ := PlainF.spw (normL_rep s).out.1 (Int.le_refl _) q hq
  simp at hp
  rcases hp with rfl | rfl <;> simp <;> omega
theorem cut_next {fam : List (List Sp)} {bt : List Sp} (h : Rep bt (Mem (cutsL fam))) {f t : Int} (hft : f ≤ t) (ht : InS bt (t + 1)) : cutN (cutsL fam) f + 1 ≤ cutN (cutsL fam) (t + 1) := by
  obtain ⟨_, _, h1⟩ := (h.2 _).1 ht
  rw [InS_iff] at h1
  obtain ⟨p, hp, h2, h3⟩ := h1
  have := cutsL_one_pt hp
  exact cutN_lt (by omega) hp (by omega)
theorem not_in_of {G : List (List Bool)} {g : List Bool} (h : ∀ j, j < G.length → G[j]? ≠ some g) : g ∉ G := by
  intro hg
  obtain ⟨j, hj, e⟩ := List.getElem_of_mem hg
  exact h j hj (by rw [List.getElem?_eq_getElem hj, e])
/-- the list of borders on its way, and the list that it is made of -/
structure CutS (W : World) (base : Nat) (Ac : Option Addr) (cc : Nat) (ys : List Sp) (An : Option Addr) (ns : List Sp) : Prop where
  row : W.ownsRow base 34 2 (.slice Ac ys.length cc) ys.length (spanCells ys)
  ls : Lst An ns W
  ap : ns = [] ∨ ∃ b off, An = some ⟨b, off, none⟩ ∧ some b ≠ Value.ownBlock (.slice Ac ys.length cc)

section
variable {w0 w : World} {F : World → Prop} {A B : Option Addr} {L : List (Item Sp)} {a r : List Sp}
set_option maxRecDepth 100000 in
set_option maxHeartbeats 32000000 in
theorem rSplit_st (hK : Hid (St w0 w F)) (ha : ∀ W, F W → Lst A a W) (hb : ∀ W, F W → LL B L W) (hal : a.length ≤ 30) (hn : L.length ≤ 30) (hbl : ∀ s ∈ bodies L, s.length ≤ 30) (c d : Nat) (hr : Hid (Rep r (Mem a))) :
    Calls Try.prog 41 #[.slice A a.length c, .slice B L.length d] w (fun e w' => ∃ A' c' O, e = .returned (.slice A' O.length c') ∧ O.length ≤ 4000 ∧ Hid (Blocks r (bodies L) (bodies O) ∧ Ord (bodies O)) ∧ Hid (St w0 w' (fun W => LL A' O W ∧ F W))) := by
  have HBL := Lib.hid hbl
  have HCL : Hid (∀ k, (cutsL ((bodies L).take k)).length ≤ 1800) := Lib.hid fun k => by
    have h1 := cutsL_len ((bodies L).take k) 30 (fun s hs => HBL.out s (List.mem_of_mem_take hs))
    have h2 : ((bodies L).take k).length ≤ L.length := by rw [List.length_take, bodies_length]; omega
    omega
  obtain ⟨i0, hi, hz0, hz1, hz2⟩ := info_parts info59
  clear hbl
  go_enter Try.func41, Try.ntmps41
  go_wp2_with fail
  refine (rNorm_st hK (fun _ h => ha _ h) (by omega) _ hr).mono ?_
  rintro e w1 ⟨A1, c1, rfl, HK1⟩
  go_wp2_with fail
  go_loopw [6, 7] (fun cv iv wr => ∃ (i : Nat) (ys : List Sp) (Ac : Option Addr) (cc : Nat), i ≤ L.length ∧ iv = .int .i64 i ∧ cv = .slice Ac ys.length cc ∧ Hid (ys = cutsL ((bodies L).take i)) ∧ Hid (wr.ownsRow w1.heap.size 34 2 (.slice Ac ys.length cc) ys.length (spanCells ys)) ∧ Hid (Below w1.heap.size w1 wr)) (fun _ iv _ => L.length - (intOf iv).toNat)
  case atStart => exact ⟨0, [], none, 0, Nat.zero_le _, rfl, rfl, Lib.hid rfl, Lib.hid (World.ownsRow_nil _ _ _ _), Lib.hid (Below.refl _ _)⟩
  case round =>
  obtain ⟨i, ys, Ac, cc, hil, rfl, rfl, HY, HR, HB⟩ := hrel
  have HS := Lib.hid (HK1.out.step HB.out)
  by_cases hlt : i < L.length
  · obtain ⟨gs, offs, sa, sc, s, hS, hx, hcs, hwd⟩ := (hb _ HS.out.now.2).at_ hlt
    have hbk : (bodies L)[i]? = some s := by unfold bodies; rw [List.getElem?_map, hx]; rfl
    have hsl : s.length ≤ 30 := HBL.out s (List.mem_of_getElem? hbk)
    have HN := Lib.hid (cutsL_take hbk)
    obtain ⟨ns, hns⟩ : ∃ n, normL s = n := ⟨_, rfl⟩
    have RN : Hid (Rep ns (Mem s)) := by rw [← hns]; exact normL_rep s
    rw [hns, ← HY.out] at HN
    have HK2 := Lib.hid (HS.out.add (Below.refl _ _) (G := fun W => Lst sa s W ∧ W.ownsRow w1.heap.size 34 2 (.slice Ac ys.length cc) ys.length (spanCells ys) ∧ Below w1.heap.size w1 W) (fun W hW => ⟨hwd.below hW, own_below HR.out hW, below_to HB.out hW⟩))
    have HGS : Hid (∀ g, Value.ownBlock (.slice Ac ys.length cc) = some g → g < wr.heap.size) := Lib.hid fun g e => (HR.out.lt g e).2
    have hys : ys.length ≤ 1800 := by rw [HY.out]; exact HCL.out i
    have hnl : ns.length ≤ 30 := Nat.le_trans RN.out.len_le hsl
    subst hS
    clear hx hwd hbk hns HR HB HY
    go_wp2_with fail
    refine (rNorm_stB HK2 (fun _ h => h.1.1) (by omega) _ RN).mono ?_
    rintro e w2 ⟨An, c2, rfl, hX, HK3⟩
    obtain ⟨hl3, ⟨_, hrow3, hb3⟩, _⟩ := HK3.out.now
    have HCS : Hid (CutS w2 w1.heap.size Ac cc ys An ns) := Lib.hid ⟨hrow3, hl3, hX.imp id fun ⟨g, h1, h2⟩ => ⟨g, 0, h1, fun e => by have := HGS.out g e.symm; omega⟩⟩
    have HB3 := Lib.hid hb3
    have hnp := PlainF.spw RN.out.1 (Int.le_refl _)
    have HNP := Lib.hid hnp
    clear hl3 hrow3 hb3 hX hcs HK2 HK3 HGS hnp
    go_wp2_with fail
    go_loopw [6, 9] (fun cv kv wq => ∃ (k : Nat) (zs : List Sp) (Az : Option Addr) (cz : Nat), k ≤ ns.length ∧ kv = .int .i64 k ∧ cv = .slice Az zs.length cz ∧ zs.length ≤ 1800 + 2 * k ∧ Hid (zs = ys ++ cut1 (ns.take k)) ∧ Hid (CutS wq w1.heap.size Az cz zs An ns) ∧ Hid (Below w1.heap.size w1 wq)) (fun _ kv _ => ns.length - (intOf kv).toNat)
    case atStart => exact ⟨0, ys, Ac, cc, Nat.zero_le _, rfl, rfl, by omega, Lib.hid (by simp [cut1]), HCS, HB3⟩
    case round =>
    obtain ⟨k, zs, Az, cz, hk, rfl, rfl, hzl, HZ, HC, HBQ⟩ := hrel
    by_cases hkl : k < ns.length
    · obtain ⟨nb, off, p, rfl, hp, hc1, hc2⟩ := HC.out.ls.sp.at_ hkl
      obtain ⟨hp0, hp1, hp2⟩ := HNP.out p (List.mem_of_getElem? hp)
      have hne : Value.ownBlock (.slice Az zs.length cz) ≠ some nb := by
        rcases HC.out.ap with h | ⟨b, off', h1, h2⟩
        · rw [h] at hkl; simp at hkl
        · injection h1 with h1
          injection h1 with h1 _ _
          subst h1
          exact fun e => h2 e.symm
      have hlw := lt_of_cell hc1
      have HX := Lib.hid (cut1_take hp)
      obtain ⟨x1, x2⟩ := p
      simp only at hp0 hp1 hp2 hc1 hc2 HX
      have hw2 : IntKind.i64.wrap (x2 + 1) = x2 + 1 := IntWalk.i64_in _ (by omega)
      have hk0 : (0 : Int) ≤ (k : Int) := Int.natCast_nonneg _
      have hk1 : (k : Int) < (ns.length : Int) := by omega
      have HROW := Lib.hid HC.out.row
      have hbs := HBQ.out.size
      clear hp
      go_wp2_with fail
      go_region_held3 (fun w' => w'.cell? ⟨nb, off + k * 2, none⟩ = some (.int .i64 x1) ∧ w'.cell? ⟨nb, off + k * 2 + 1, none⟩ = some (.int .i64 x2))
        (first
          | go_keep
          | (go_split_ands
             refine ⟨?_, ?_⟩
             · (rw [hg2.cell_far _ (by simp; omega) (Ne.symm hne)]; assumption)
             · (rw [hg2.cell_far _ (by simp; omega) (Ne.symm hne)]; assumption)))
        ((refine step_push2 (by rfl) _ _ _ (by rfl) w1.heap.size 34 i0 _ 2 16 Try.underlying24 hi hz0 hz1 hz2 rfl (by decide) ((HROW.out.alloc _).drew) (by rfl) wr.heap.size [.int .i64 x1, .int .i64 x1, .int .i64 (x2 + 1), .int .i64 (x2 + 1)] 34 (by rfl) (by rfl) (one4 rfl rfl rfl rfl) (heap_alloc_new wr _) (by omega) (by omega) (by simp; omega) ?_; intro g5 cap5 w5 hown2 hg2 hat5))
      have HLS := Lib.hid HC.out.ls
      have HC5 : Hid (CutS w5 w1.heap.size (some ⟨g5, 0, none⟩) cap5 (zs ++ [(x1, x1), (x2 + 1, x2 + 1)]) (some ⟨nb, off, none⟩) ns) := by
        have hl2 : (zs ++ [(x1, x1), (x2 + 1, x2 + 1)]).length = zs.length + 2 := by simp
        refine Lib.hid ⟨by rw [hl2, spanCells_append]; exact hown2, (HLS.out.below ((below_drewN (Below.refl _ _) 1).alloc (Nat.le_refl _) _)).grown hg2 rfl (Ne.symm hne), .inr ⟨nb, off, rfl, ?_⟩⟩
        rw [hl2]
        intro e
        have e2 : nb = g5 := by injection e
        rcases hat5 with h | h
        · exact hne (by rw [h, e2])
        · rw [h] at e2; simp at e2; omega
      have HB5 := Lib.hid (((below_drewN HBQ.out 1).alloc HBQ.out.size _).grown hg2 (by simp; omega) (fun j hj => (HROW.out.lt j hj).1))
      clear hown2 hg2 hat5 hw2
      go_wp2_with fail
      have hl2 : (zs ++ [(x1, x1), (x2 + 1, x2 + 1)]).length = zs.length + 2 := by simp
      exact ⟨⟨k + 1, zs ++ [(x1, x1), (x2 + 1, x2 + 1)], _, cap5, by omega, by go_num, by rw [hl2], by rw [hl2]; omega, by unfold Hid; rw [HX.out, HZ.out, List.append_assoc], HC5, HB5⟩, by simp [intOf]; omega⟩
    · obtain rfl : k = ns.length := by omega
      have hd : decide (ns.length < ns.length) = false := by simp
      have HZE : Hid (zs = cutsL ((bodies L).take (i + 1))) := by
        unfold Hid
        rw [HZ.out, List.take_length, HN.out]
      have HRE := Lib.hid HC.out.row
      go_wp2_with fail
      exact ⟨⟨i + 1, zs, Az, cz, by omega, by go_num, rfl, HZE, HRE, HBQ⟩, by simp [intOf]; omega⟩
  · obtain rfl : i = L.length := by omega
    have hd : decide (L.length < L.length) = false := by simp
    have HYE : Hid (ys = cutsL (bodies L)) := by unfold Hid; rw [HY.out, ← bodies_length (L := L), List.take_length]
    have hys : ys.length ≤ 1800 := by rw [HY.out]; exact HCL.out _
    have hcu : (cutsL (bodies L)).length ≤ 1800 := by rw [← HYE.out]; exact hys
    have hyw : SpW ys := by rw [HYE.out]; exact cutsL_wd _
    have HKc := Lib.hid (HS.out.add (Below.refl _ _) (G := Lst Ac ys) (fun W hW => ⟨Sl.of_own (own_below HR.out hW), hyw, by omega⟩))
    obtain ⟨bt, hbt⟩ : ∃ n, normL ys = n := ⟨_, rfl⟩
    have RB : Hid (Rep bt (Mem ys)) := by rw [← hbt]; exact normL_rep ys
    clear hyw HR HB HY hbt
    go_wp2_with fail
    refine (rNorm_st HKc (fun _ h => h.1) (by omega) _ RB).mono ?_
    rintro e w3 ⟨A3, c3, rfl, HKb⟩
    have hbp : Hid (Plain bt) := Lib.hid RB.out.1
    have HRB : Hid (Rep bt (Mem (cutsL (bodies L)))) := by rw [← HYE.out]; exact RB
    have hrl : r.length ≤ 30 := Nat.le_trans hr.out.len_le hal
    have HRS := Lib.hid (PlainF.spw hr.out.1 (Int.le_refl _))
    clear hd HKc HS HK1
    go_wp2_with fail
    go_loopw [11, 12, 13] (fun ov sv iv wr => ∃ (i T : Nat) (O : List (Item Sp)) (Ao : Option Addr) (co : Nat) (G : List (List Bool)) (As : Option Addr) (cs : Nat), i ≤ r.length ∧ iv = .int .i64 i ∧ ov = .slice Ao O.length co ∧ sv = .slice As G.length cs ∧ O.length ≤ T ∧ T ≤ i + 1800 ∧ Hid (Two wr w3.heap.size Ao co O As cs G) ∧ Hid (SInv (bodies L) (InS (r.take i)) (bodies O) G) ∧ Hid (∀ b ∈ bodies O, b.length ≤ T) ∧ Hid (∀ p, r[i]? = some p → T ≤ i + cutN (cutsL (bodies L)) p.1) ∧ Hid (Below w3.heap.size w3 wr)) (fun _ _ iv _ => r.length - (intOf iv).toNat)
    case atStart => exact ⟨0, 0, [], none, 0, [], none, 0, Nat.zero_le _, rfl, rfl, rfl, Nat.le_refl _, by omega, Lib.hid (Two.start _ _), Lib.hid (SInv.start _ _ (fun x h => h)), Lib.hid (fun b hb => (by cases hb)), Lib.hid (fun p hp => Nat.zero_le _), Lib.hid (Below.refl _ _)⟩
    case round =>
    obtain ⟨i, T, O, Ao, co, G, As, cs, hir, rfl, rfl, rfl, hOT, hT, HTW, HSI, HLE, HCN, HB⟩ := hrel
    by_cases hlt : i < r.length
    · obtain ⟨rb, off, p, hA1, hp, hc1, hc2⟩ := HKb.out.now.2.2.1.sp.at_ hlt
      have HC : Hid (∀ W, Below w3.heap.size w3 W → W.cell? ⟨rb, off + i * 2, none⟩ = some (.int .i64 p.1) ∧ W.cell? ⟨rb, off + i * 2 + 1, none⟩ = some (.int .i64 p.2)) := Lib.hid fun W hW => ⟨(hW.cell (lt_of_cell hc1)).trans hc1, (hW.cell (lt_of_cell hc2)).trans hc2⟩
      obtain ⟨hp0, hp1, hp2⟩ := HRS.out p (List.mem_of_getElem? hp)
      have HP := Lib.hid hp
      have HTC := Lib.hid (HCN.out p hp)
      obtain ⟨hd1, hd2⟩ := HC.out wr HB.out
      have HI0 : Hid (SInv (bodies L) (fun x => InS (r.take i) x ∨ (p.1 ≤ x ∧ x < p.1)) (bodies O) G) := Lib.hid (HSI.out.congr fun x => ⟨fun h => h.elim id (fun h => by omega), .inl⟩)
      subst hA1
      clear hc1 hc2 hp HSI HCN
      go_wp2_with fail
      go_loopw [11, 12, 14] (fun ov sv fv wq => ∃ (T : Nat) (O : List (Item Sp)) (Ao : Option Addr) (co : Nat) (G : List (List Bool)) (As : Option Addr) (cs : Nat) (f : Int), ov = .slice Ao O.length co ∧ sv = .slice As G.length cs ∧ fv = .int .i64 f ∧ p.1 ≤ f ∧ f ≤ p.2 + 1 ∧ O.length ≤ T ∧ T ≤ i + 1801 ∧ Hid (Two wq w3.heap.size Ao co O As cs G) ∧ Hid (SInv (bodies L) (fun x => InS (r.take i) x ∨ (p.1 ≤ x ∧ x < f)) (bodies O) G) ∧ Hid (∀ b ∈ bodies O, b.length ≤ T) ∧ Hid (f ≤ p.2 → T ≤ i + cutN (cutsL (bodies L)) f) ∧ Hid (T ≤ i + 1 + cutN (cutsL (bodies L)) f) ∧ Hid (Below w3.heap.size w3 wq)) (fun _ _ fv _ => (p.2 + 1 - intOf fv).toNat)
      case atStart => exact ⟨T, O, Ao, co, G, As, cs, p.1, rfl, rfl, rfl, Int.le_refl _, by omega, hOT, by omega, HTW, HI0, HLE, Lib.hid (fun _ => HTC.out), Lib.hid (by have := HTC.out; omega), HB⟩
      case round =>
      clear HTW HI0 HLE HTC HB hOT hT hd1 hd2
      obtain ⟨T, O, Ao, co, G, As, cs, f, rfl, rfl, rfl, hf0, hf1, hOT, hT, HTW, HSI, HLE, HCN, HCN2, HB⟩ := hrel
      obtain ⟨hd1, hd2⟩ := HC.out wr HB.out
      by_cases hfp : f ≤ p.2
      · obtain ⟨t, ht⟩ : ∃ t, nextL bt f p.2 = t := ⟨_, rfl⟩
        obtain ⟨ht0, ht1, ht2, ht3⟩ := nextL_spec hbp.out hfp
        rw [ht] at ht0 ht1 ht2 ht3
        obtain ⟨g, hg⟩ : ∃ g, signB (bodies L) f = g := ⟨_, rfl⟩
        have HSG : Hid (∀ x, f ≤ x → x ≤ t → signB (bodies L) x = g) := Lib.hid (by rw [← hg]; exact sign_run HRB.out (by omega) (by omega) ht2)
        have HLOW : Hid (∀ x, (InS (r.take i) x ∨ (p.1 ≤ x ∧ x < f)) → x < f) := Lib.hid fun x hx => by
          rcases hx with hx | hx
          · have := take_below hr.out.1 HP.out hx; omega
          · exact hx.2
        have HN1 : Hid (t + 1 ≤ p.2 → T + 1 ≤ i + cutN (cutsL (bodies L)) (t + 1)) := Lib.hid fun h => by
          have h1 := cut_next HRB.out ht0 (ht3.resolve_left (by omega))
          have h2 := HCN.out hfp
          omega
        have HN2 : Hid (T + 1 ≤ i + 1 + cutN (cutsL (bodies L)) (t + 1)) := Lib.hid (by
          have h2 := HCN.out hfp
          have h3 := cutN_mono (cutsL (bodies L)) (f := f) (g := t + 1) (by omega)
          omega)
        have hT1 : T + 1 ≤ i + 1801 := by
          have h1 := HN2.out
          have h2 := cutN_len (cutsL (bodies L)) (t + 1)
          omega
        have HG := Lib.hid hg
        have HKN := Lib.hid ((HKb.out.step HB.out).add (Below.refl _ _) (G := fun W => Two W w3.heap.size Ao co O As cs G ∧ Below w3.heap.size w3 W) (fun W hW => ⟨HTW.out.below hW, below_to HB.out hW⟩))
        clear ht2 ht3 hg HTW HB HCN HCN2
        go_wp2_with fail
        refine (next_st HKN (fun _ h => h.2.1) _ f p.2 ⟨by omega, by omega⟩ ⟨by omega, by omega⟩ hbp ht).mono ?_
        rintro e w4 ⟨rfl, HK4⟩
        clear hd1 hd2 ht
        go_wp2_with fail
        refine (sign_st HK4 (fun _ h => hb _ h.2.2.2.2) (by omega) _ f).mono ?_
        rintro e w5 ⟨rfl, HK5⟩
        rw [HG.out]
        obtain ⟨⟨htw5, hb5⟩, _⟩ := HK5.out.now
        have HTW5 := Lib.hid htw5
        have HB5 := Lib.hid hb5
        clear htw5 hb5 HKN HK4
        have hgo : Hid (G.length = O.length) := Lib.hid (by have := HSI.out.len; rw [bodies_length] at this; exact this.symm)
        have hgo1 : G.length ≤ 1831 := by have := hgo.out; omega
        go_wp2_with fail
        go_loop [17] (fun kv => ∃ k : Nat, k ≤ G.length ∧ kv = .int .i64 k ∧ Hid (∀ j, j < k → G[j]? ≠ some g)) (fun kv => G.length - (intOf kv).toNat)
        case atStart => exact ⟨0, Nat.zero_le _, rfl, Lib.hid (fun j hj => by omega)⟩
        case round =>
        obtain ⟨k, hk, rfl, HJ⟩ := hrel
        by_cases hkg : k < G.length
        · obtain ⟨gs, cap, hAs, _, hgs⟩ := HTW5.out.sg.form (by omega)
          obtain ⟨rfl, rfl⟩ : As = some ⟨gs, 0, none⟩ ∧ cs = cap := by injection hAs with h1 h2 h3; exact ⟨h1, h3⟩
          obtain ⟨q, hq⟩ : ∃ q, G[k]? = some q := ⟨_, List.getElem?_eq_getElem hkg⟩
          have hcq : w5.cell? ⟨gs, k, none⟩ = some (.string (strG q)) := by rw [HTW5.out.sg.cellAt k (by omega), List.getElem?_map, hq]; rfl
          have HQ := Lib.hid hq
          clear hAs hq
          by_cases hqg : q = g
          · subst hqg
            have hne : ((strG q).toList == (strG q).toList) = true := by simp
            have hkn : ((k : Int) == (G.length : Int)) = false := by rw [beq_eq_false_iff_ne]; omega
            have hkO : k < O.length := by rw [← hgo.out]; exact hkg
            obtain ⟨go, cap2, hAo, hgo3, hgs2⟩ := HTW5.out.row.form (by omega)
            obtain ⟨rfl, rfl⟩ : Ao = some ⟨go, 0, none⟩ ∧ co = cap2 := by injection hAo with h1 h2 h3; exact ⟨h1, h3⟩
            obtain ⟨it, hit⟩ : ∃ it, O[k]? = some it := ⟨_, List.getElem?_eq_getElem hkO⟩
            obtain ⟨ba, bc, b⟩ := it
            have hco : w5.cell? ⟨go, k, none⟩ = some (.slice ba b.length bc) := by rw [HTW5.out.row.cellAt k (by omega)]; unfold icells; rw [List.getElem?_map, hit]; rfl
            have HBK : Hid ((bodies O)[k]? = some b) := Lib.hid (by unfold bodies; rw [List.getElem?_map, hit]; rfl)
            have hlb := (HTW5.out.it _ (List.mem_of_getElem? hit)).1
            have hbT := HLE.out b (List.mem_of_getElem? HBK.out)
            obtain ⟨b', RB'⟩ := rep_union b [(f, t)]
            have HKB := Lib.hid (HK5.out.add (Below.refl _ _) (G := Lst ba b) (fun W hW => hlb.below hW))
            have HKL := St.lit HKB (f, t) (by intro p hp; simp at hp; subst hp; simp; omega)
            have HSN := Lib.hid (HSI.out.old HBK.out HQ.out ht0 (by omega) (by omega) HLOW.out HSG.out RB'.out)
            have HITM : Hid ((O[k]?).map ival = some (.slice ba b.length bc)) := Lib.hid (by rw [hit]; rfl)
            have HGO : Hid (w3.heap.size ≤ go) := Lib.hid hgo3
            clear hAo hit hlb HKB hgo3
            go_wp2_with fail
            refine (rBoth_stB HKL (fun _ h => h.2.1) (fun _ h => h.1) (by omega) (by simp) _ _ RB').mono ?_
            rintro e w6 ⟨X6, c6, rfl, hX6, HK6⟩
            have HBN : Hid (b' ≠ []) := Lib.hid (by
              rintro rfl
              exact (RB'.out.2 f).2 (.inr ((Mem_one (by omega) (by omega)).2 ⟨Int.le_refl _, ht0⟩)))
            have HBL6 : Hid (b'.length ≤ b.length + 1) := Lib.hid (by
              have h1 : Rep b' (Mem (b ++ [(f, t)])) := RB'.out.congr fun x => by
                simp only [Mem, InS_append]
                constructor
                · rintro (⟨h1, h2, h3⟩ | ⟨h1, h2, h3⟩)
                  · exact ⟨h1, h2, .inl h3⟩
                  · exact ⟨h1, h2, .inr h3⟩
                · rintro ⟨h1, h2, h3 | h3⟩
                  · exact .inl ⟨h1, h2, h3⟩
                  · exact .inr ⟨h1, h2, h3⟩
              have := h1.len_le
              simpa using this)
            obtain ⟨g6, hg6, hge⟩ := hX6.resolve_left HBN.out
            subst hg6
            obtain ⟨hl6, _, _, ⟨htw6, hb6⟩, _⟩ := HK6.out.now
            have hz5 : (w5.alloc (.cells #[.int .i64 (f, t).1, .int .i64 (f, t).2] 34)).heap.size = w5.heap.size + 1 := by simp
            rw [hz5] at hge
            have hfr := htw6.row.frozenAt k
            have hc6 : w6.cell? ⟨go, k, none⟩ = some (.slice ba b.length bc) := by rw [htw6.row.cellAt k (by omega)]; unfold icells; rw [List.getElem?_map]; exact HITM.out
            have hgo5 := (HTW5.out.row.lt go rfl).2
            have hsgl : ∀ x, Value.ownBlock (.slice (some ⟨gs, 0, none⟩) G.length cs) = some x → x < w5.heap.size := fun x hx => (HTW5.out.sg.lt x hx).2
            have HTW9 := Lib.hid (htw6.store hkO (some ⟨g6, 0, none⟩, c6, b') hl6 rfl (by omega) (fun e => by have := hsgl _ e.symm; omega))
            have HB9 := Lib.hid (hb6.setCell (p := ⟨go, k, none⟩) HGO.out (.slice (some ⟨g6, 0, none⟩) b'.length c6))
            have hol : (O.set k (some ⟨g6, 0, none⟩, c6, b')).length = O.length := by simp
            have hob : bodies (O.set k (some ⟨g6, 0, none⟩, c6, b')) = (bodies O).set k b' := by unfold bodies; rw [List.map_set]
            have HSE := Lib.hid (HSN.out.congr (E := fun x => InS (r.take i) x ∨ (p.1 ≤ x ∧ x < t + 1)) fun x => or_step hf0 (by omega))
            have HLE9 : Hid (∀ c ∈ (bodies O).set k b', c.length ≤ T + 1) := Lib.hid fun c hc => by
              rcases List.mem_or_eq_of_mem_set hc with hc | rfl
              · have := HLE.out c hc; omega
              · have := HBL6.out; omega
            clear hl6 htw6 hb6 hX6 hsgl HK6 HKL
            go_wp2_with fail
            exact ⟨⟨T + 1, O.set k (some ⟨g6, 0, none⟩, c6, b'), _, co, G, _, cs, t + 1, by rw [hol], rfl, rfl, by omega, by omega, by rw [hol]; omega, hT1, HTW9, by rw [hob]; exact HSE, by rw [hob]; exact HLE9, HN1, HN2, HB9⟩, by simp [intOf]; omega⟩
          · have hne : ((strG q).toList == (strG g).toList) = false := by
              rw [beq_eq_false_iff_ne]
              intro e
              rw [ByteArray.toList_eq, ByteArray.toList_eq] at e
              exact hqg (strG_inj (ByteArray.ext (by simpa using e)))
            have HQG := Lib.hid hqg
            clear hqg
            go_wp2_with fail
            refine ⟨⟨k + 1, by omega, by go_num, Lib.hid (fun j hj => ?_)⟩, by simp [intOf]; omega⟩
            by_cases e : j = k
            · rw [e, HQ.out]; intro e2; injection e2 with e2; exact HQG.out e2
            · exact HJ.out j (by omega)
        · obtain rfl : k = G.length := by omega
          have hd : decide (G.length < G.length) = false := by simp
          have hkn : ((G.length : Int) == (G.length : Int)) = true := by simp
          have HNG : Hid (g ∉ G) := Lib.hid (not_in_of HJ.out)
          obtain ⟨b', RB'⟩ := rep_union [] [(f, t)]
          have HSN := Lib.hid (HSI.out.new HNG.out ht0 (by omega) (by omega) HLOW.out HSG.out RB'.out)
          have hsz5 : w3.heap.size ≤ w5.heap.size := HB5.out.size
          clear HJ
          have hGO : G.length ≤ O.length := by have := hgo.out; omega
          go_wp2_with (first
            | (at_builtin; (refine wpList_pushS rfl _ _ rfl HTW5.out.sg rfl (strV g) rfl (by first | rfl | (simp; rfl) | simp) (by omega) hsz5 ?_); intro A7 c7 w7 HO7 HG7 HAT7; (have HTW7 := Lib.hid (HTW5.out.pushS g HO7.out HG7.out HAT7.out)); (have HB7 := Lib.hid (below_pushed HB5.out HTW5.out.sg (Nat.le_refl _) HB5.out.size HG7.out)); (have hsz7 : w3.heap.size ≤ w7.heap.size := HB7.out.size); clear HO7 HG7 HAT7)
            | (at_builtin; go_must (refine wpList_pushL rfl _ _ rfl HTW7.out.row rfl (.slice none 0 0) rfl (by first | rfl | (simp; rfl) | simp) (by omega) hsz7 ?_); intro A8 c8 w8 HO8 HG8 HAT8; (obtain ⟨go, rfl, hgo3, hco, htw8⟩ := HTW7.out.pushN' HO8.out HG8.out HAT8.out); (have HTW8 := Lib.hid htw8); (have HB8 := Lib.hid (below_pushed HB7.out HTW7.out.row (Nat.le_refl _) HB7.out.size HG8.out)); (have HGO := Lib.hid hgo3); (rw [← hgo.out] at hco); clear hgo3 htw8 HO8 HG8 HAT8))
          have hgolt : go < w8.heap.size := lt_of_cell hco
          have HKB := Lib.hid ((HKb.out.step HB8.out).add (Below.refl _ _) (G := fun W => Two W w3.heap.size (some ⟨go, 0, none⟩) c8 (O ++ [(none, 0, [])]) A7 c7 (G ++ [g]) ∧ Below w3.heap.size w3 W) (fun W hW => ⟨HTW8.out.below hW, below_to HB8.out hW⟩))
          have HKL := St.lit HKB (f, t) (by intro p hp; simp at hp; subst hp; simp; omega)
          clear HKB
          refine (rBoth_stB HKL (fun W _ => Lst.nil_ none W) (fun _ h => h.1) (by simp) (by simp) _ _ RB').mono ?_
          rintro e w9 ⟨X9, c9, rfl, hX9, HK9⟩
          have HBN : Hid (b' ≠ []) := Lib.hid (by
            rintro rfl
            exact (RB'.out.2 f).2 (.inr ((Mem_one (by omega) (by omega)).2 ⟨Int.le_refl _, ht0⟩)))
          have HBL9 : Hid (b'.length ≤ 1) := Lib.hid (by
            have h1 : Rep b' (Mem [(f, t)]) := RB'.out.congr fun x => ⟨fun h => h.resolve_left (fun h => (by have := h.2.2; exact this)), fun h => .inr h⟩
            have := h1.len_le
            simpa using this)
          obtain ⟨g9, hg9, hge⟩ := hX9.resolve_left HBN.out
          subst hg9
          obtain ⟨hl9, _, ⟨htw9, hb9⟩, _⟩ := HK9.out.now
          have hz8 : (w8.alloc (.cells #[.int .i64 (f, t).1, .int .i64 (f, t).2] 34)).heap.size = w8.heap.size + 1 := by simp
          rw [hz8] at hge
          have hkl : G.length < (O ++ [((none, 0, []) : Item Sp)]).length := by simp; omega
          have hfr := htw9.row.frozenAt G.length
          have hc9 : w9.cell? ⟨go, G.length, none⟩ = some (.slice none 0 0) := by
            rw [htw9.row.cellAt G.length (by omega), hgo.out]
            unfold icells
            rw [List.getElem?_map, List.getElem?_append_right (Nat.le_refl _)]
            simp [ival]
          have hsgl : ∀ x, Value.ownBlock (.slice A7 (G ++ [g]).length c7) = some x → x < w8.heap.size := fun x hx => (HTW8.out.sg.lt x hx).2
          have HTW10 := Lib.hid (htw9.store hkl (some ⟨g9, 0, none⟩, c9, b') hl9 rfl (by omega) (fun e => by have := hsgl _ e.symm; omega))
          have HB10 := Lib.hid (hb9.setCell (p := ⟨go, G.length, none⟩) HGO.out (.slice (some ⟨g9, 0, none⟩) b'.length c9))
          have hset : (O ++ [((none, 0, []) : Item Sp)]).set G.length (some ⟨g9, 0, none⟩, c9, b') = O ++ [(some ⟨g9, 0, none⟩, c9, b')] := by rw [hgo.out]; simp
          rw [hset] at HTW10
          unfold ival at HTW10
          have hol : (O ++ [((some ⟨g9, 0, none⟩, c9, b') : Item Sp)]).length = O.length + 1 := by simp
          have hgl : (G ++ [g]).length = G.length + 1 := by simp
          have hob : bodies (O ++ [((some ⟨g9, 0, none⟩, c9, b') : Item Sp)]) = bodies O ++ [b'] := by unfold bodies; simp
          have HSE := Lib.hid (HSN.out.congr (E := fun x => InS (r.take i) x ∨ (p.1 ≤ x ∧ x < t + 1)) fun x => or_step hf0 (by omega))
          have HLE9 : Hid (∀ c ∈ bodies O ++ [b'], c.length ≤ T + 1) := Lib.hid fun c hc => by
            rcases List.mem_append.1 hc with hc | hc
            · have := HLE.out c hc; omega
            · simp at hc; subst hc; have := HBL9.out; omega
          clear hl9 htw9 hb9 hX9 hsgl HK9 HKL hset
          go_wp2_with fail
          exact ⟨⟨T + 1, O ++ [(some ⟨g9, 0, none⟩, c9, b')], _, c8, G ++ [g], _, c7, t + 1, by rw [hol], by rw [hgl], rfl, by omega, by omega, by rw [hol]; omega, hT1, HTW10, by rw [hob]; exact HSE, by rw [hob]; exact HLE9, HN1, HN2, HB10⟩, by simp [intOf]; omega⟩
      · have hpf : f = p.2 + 1 := by omega
        have HSI2 : Hid (SInv (bodies L) (InS (r.take (i + 1))) (bodies O) G) := Lib.hid (HSI.out.congr fun x => by
          rw [take_snoc? HP.out, InS_append, InS_one2]; exact or_congr Iff.rfl (by omega))
        have HCN3 : Hid (∀ q, r[i + 1]? = some q → T ≤ (i + 1) + cutN (cutsL (bodies L)) q.1) := Lib.hid fun q hq => by
          have h1 := take_below hr.out.1 hq (x := p.2) (by rw [take_snoc? HP.out, InS_append, InS_one2]; exact .inr ⟨hp1, Int.le_refl _⟩)
          have h2 := cutN_mono (cutsL (bodies L)) (f := f) (g := q.1) (by omega)
          have h3 := HCN2.out
          omega
        clear HSI HCN HCN2
        go_wp2_with fail
        exact ⟨⟨i + 1, T, O, Ao, co, G, As, cs, by omega, by go_num, rfl, rfl, hOT, by omega, HTW, HSI2, HLE, HCN3, HB⟩, by simp [intOf]; omega⟩
    · obtain rfl : i = r.length := by omega
      have hd : decide (r.length < r.length) = false := by simp
      have HDN : Hid (Blocks r (bodies L) (bodies O) ∧ Ord (bodies O)) := Lib.hid (HSI.out.done fun x => by rw [List.take_length, hasB_iff, hr.out.1.mem])
      have HSE := Lib.hid (HKb.out.step HB.out)
      clear HSI HCN
      go_wp2_with fail
      go_ret
      exact ⟨Ao, co, O, rfl, by omega, HDN, Lib.hid ((HSE.out.add (Below.refl _ _) (fun W hW => HTW.out.ll.below hW)).weaken fun W h => ⟨h.1, h.2.2.2.2⟩)⟩
end
end Go.Proofs.Ytdaagdohhnhbdaa
