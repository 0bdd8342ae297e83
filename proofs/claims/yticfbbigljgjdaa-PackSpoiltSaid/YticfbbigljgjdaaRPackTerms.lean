/- Contract of umlautref18.terms. Condition: the terms at hand are known; fewer than 2^24 bytes. -/
import Derived.Test.YticfbbigljgjdaaRPackNum
import Derived.Deep.RegionHeld3
namespace Go.Proofs.Yticfbbigljgjdaa
open Go.RowKit
set_option linter.unusedVariables false
set_option linter.unusedSimpArgs false
/-- a row of bytes of the call's own -/
def OwnB (W : World) (base : Nat) (A : Option Addr) (c : Nat) (bs : List Int) : Prop := W.ownsRow base 5 1 (.slice A bs.length c) bs.length (bs.map (Value.int .u8))
theorem ownsRow_keep {w w' : World} {base : Nat} {e : TypeId} {size : Nat} {v : Value} {n : Nat} {xs : List Value} (h : w.ownsRow base e size v n xs) (hb : Below w.heap.size w w') : w'.ownsRow base e size v n xs := by
  refine ⟨h.1, ?_⟩
  rcases h.2 with hn | ⟨g, cap, cur, h1, h2, h3, h4⟩
  · exact .inl hn
  · exact .inr ⟨g, cap, cur, h1, h2, (hb.block g (Array.getElem?_eq_some_iff.1 h3).1).trans h3, h4⟩
/-- a row of ints of the call's own -/
def OwnI (W : World) (base : Nat) (A : Option Addr) (c : Nat) (l : List Int) : Prop := W.ownsRow base 3 1 (.slice A l.length c) l.length (l.map (Value.int .i64))
theorem info_int : (Try.prog.info? 3).map (fun i => (i.zero, i.size, i.bytes)) = some (some (.int .i64 0), 1, 8) := by kernel_rfl
def pl4 (p : PartL) : List Int := [p.1, p.2.1, p.2.2.1, p.2.2.2]
/-- four ints behind a row, as a step of a region that draws -/
theorem step_int4 {ops : Array Oper} {w : World} {o : Oper} {a : Act} {K : Act → World → Prop} {Q : Exit → Act → World → Prop} {E : Prop} (hgd : o.guard = none) (s x : Operand)
    (ho : o.op = .call { callee := .builtin .append, args := #[s, x], argTypes := #[45, 45] }) {base : Nat} {A : Option Addr} {c : Nat} {l : List Int}
    (hown : OwnI w base A c l) (hs : a.eval s = .slice A l.length c) (x0 x1 x2 x3 : Int) (hx : a.eval x = .slice (some ⟨w.heap.size, 0, none⟩) 4 4) (hn : l.length ≤ 1099511627776) (hbase : base ≤ w.heap.size)
    (h : ∀ A' c' w', Hid (OwnI w' base A' c' (l ++ [x0, x1, x2, x3])) → Hid ((w.alloc (.cells #[.int .i64 x0, .int .i64 x1, .int .i64 x2, .int .i64 x3] 3)).grownBy w' (Value.ownBlock (.slice A l.length c))) → K (a.put o.dst (.slice A' (l.length + 4) c')) w') :
    if Region.wanted o (yielded ops a.tmps) = true then Oper.wp Try.prog o a (w.alloc (.cells #[.int .i64 x0, .int .i64 x1, .int .i64 x2, .int .i64 x3] 3)) K Q else E := by
  have hw : Region.wanted o (yielded ops a.tmps) = true := by simp [Region.wanted, hgd]
  rw [if_pos hw]
  obtain ⟨i0, hi, hz0, hz1, hz2⟩ := info_parts info_int
  have hown2 : (w.alloc (.cells #[.int .i64 x0, .int .i64 x1, .int .i64 x2, .int .i64 x3] 3)).ownsRow base 3 1 (.slice A l.length c) l.length (l.map (Value.int .i64)) := World.ownsRow.alloc hown _
  obtain ⟨v', w', hr, hown', hg, _, _⟩ := run_append_own_at (P := Try.prog) (w.alloc (.cells #[.int .i64 x0, .int .i64 x1, .int .i64 x2, .int .i64 x3] 3)) base 45 o.type 3 i0 (.int .i64 0) 1 8 Try.underlying45 hi hz0 hz1 hz2 rfl (by decide) _ l.length _ hown2 ⟨w.heap.size, 0, none⟩ 4 4 [.int .i64 x0, .int .i64 x1, .int .i64 x2, .int .i64 x3] rfl
    (World.news_of_block (cs := #[.int .i64 x0, .int .i64 x1, .int .i64 x2, .int .i64 x3]) (t := 3) (fr := (0, 0)) (heap_alloc_new w _)) (by intro v hv; simp at hv; rcases hv with rfl | rfl | rfl | rfl <;> rfl) (by unfold maxLen; omega) (by omega) (by simp; omega)
  obtain ⟨A', c', rfl⟩ := own_shape hown'
  unfold Oper.wp execOp
  simp only [ho, resolve, invoke, builtin, Sem.run_bind, Sem.run_pure, Result.andThen_ok, List.map_toArray, List.map_cons, List.map_nil, hs, hx, hr]
  refine h A' c' w' ?_ hg
  unfold Hid OwnI
  have hl4 : (l ++ [x0, x1, x2, x3]).length = l.length + 4 := by simp
  have hm4 : (l ++ [x0, x1, x2, x3]).map (Value.int .i64) = l.map (Value.int .i64) ++ [.int .i64 x0, .int .i64 x1, .int .i64 x2, .int .i64 x3] := by simp
  rw [hl4, hm4]
  exact hown'
theorem OwnI.ints {W : World} {base : Nat} {A : Option Addr} {c : Nat} {l : List Int} (h : OwnI W base A c l) (hi : ∀ x ∈ l, I64 x) (hl : l.length ≤ 1099511627776) : IntsAt A l W := by
  have e : l.flatMap (fun x => [Value.int .i64 x]) = l.map (Value.int .i64) := by
    clear h hi hl
    induction l with
    | nil => rfl
    | cons x l ih => rw [List.flatMap_cons, ih]; rfl
  exact ⟨by rw [e]; exact Sl.of_own h, hi, by omega⟩
/-- a call that returns a new row of bytes -/
def RetB (w0 w : World) (bs : List Int) (F : World → Prop) (e : Ending) (w' : World) : Prop :=
  ∃ A c, e = .returned (.slice A bs.length c) ∧ Hid (OwnB w' w.heap.size A c bs) ∧ Hid (Below w.heap.size w w') ∧ Hid (St w0 w' F)
theorem termB_ints (t : TermL) : termB t = ([t.base, t.drop, t.take, t.up, t.sum, (t.parts.length : Int)] ++ t.parts.flatMap pl4).flatMap numB := by
  have h : ∀ l : List PartL, (l.flatMap pl4).flatMap numB = l.flatMap partB := fun l => by
    induction l with
    | nil => rfl
    | cons p l ih => rw [List.flatMap_cons, List.flatMap_append, ih, List.flatMap_cons]; rw [show (pl4 p).flatMap numB = partB p from partB_eq p]
  rw [List.flatMap_append, h]
  simp [termB, List.append_assoc]
section
variable {w0 w : World} {F : World → Prop}
set_option maxRecDepth 100000 in
set_option maxHeartbeats 32000000 in
theorem rterms18_st (hK : Hid (St w0 w F)) (o : OutI) (hp : ∀ W, F W → OutW o W) (hlen : (termsB o.L).length ≤ 16777216) :
    Calls Try.prog 25 #[.slice o.a o.l.length o.c] w (RetB w0 w (termsB o.L) F) := by
  have HP := Lib.hid hp
  have hln := (hp _ hK.out.now).ln
  clear hp
  obtain ⟨oa, oc, ol⟩ := o
  simp only at *
  have HLL : Hid ((OutI.L ⟨oa, oc, ol⟩).length = ol.length) := Lib.hid (List.length_map _)
  have HB : Hid (termsB (OutI.L ⟨oa, oc, ol⟩) = numB (ol.length : Int) ++ (ol.map TermI.L).flatMap termB) := Lib.hid (by unfold termsB; rw [HLL.out]; rfl)
  have HLB : Hid (4 + ((ol.map TermI.L).flatMap termB).length ≤ 16777216) := Lib.hid (by rw [HB.out, List.length_append, numB_len] at hlen; exact hlen)
  clear hlen
  go_enter Try.func25, Try.ntmps25
  go_wp2_with (go_at_call 23; refine (rnum_any (ol.length : Int) _ ⟨by omega, by omega⟩).mono ?_; rintro e w1 ⟨rfl, rfl⟩)
  have HO0 : Hid (OwnB (w.alloc (.cells #[.int .u8 ((ol.length : Int) / 16777216 % 256), .int .u8 ((ol.length : Int) / 65536 % 256), .int .u8 ((ol.length : Int) / 256 % 256), .int .u8 ((ol.length : Int) % 256)] 5)) w.heap.size (some ⟨w.heap.size, 0, none⟩) 4 (numB ol.length)) :=
    Lib.hid (World.ownsRow_lit w #[.int .u8 ((ol.length : Int) / 16777216 % 256), .int .u8 ((ol.length : Int) / 65536 % 256), .int .u8 ((ol.length : Int) / 256 % 256), .int .u8 ((ol.length : Int) % 256)] 4 (Nat.le_refl _) (by decide) rfl)
  have HB0 : Hid (Below w.heap.size w (w.alloc (.cells #[.int .u8 ((ol.length : Int) / 16777216 % 256), .int .u8 ((ol.length : Int) / 65536 % 256), .int .u8 ((ol.length : Int) / 256 % 256), .int .u8 ((ol.length : Int) % 256)] 5))) := Lib.hid ((Below.refl _ _).alloc (Nat.le_refl _) _)
  go_loopw [3, 4] (fun bv i wq => ∃ (k : Nat) (A : Option Addr) (c : Nat) (bs : List Int), k ≤ ol.length ∧ i = .int .i64 k ∧ bv = .slice A bs.length c ∧ Hid (bs = numB ol.length ++ ((ol.map TermI.L).take k).flatMap termB) ∧ Hid (OwnB wq w.heap.size A c bs) ∧ Hid (Below w.heap.size w wq)) (fun _ i _ => ol.length - (intOf i).toNat)
  case atStart => exact ⟨0, some ⟨w.heap.size, 0, none⟩, 4, numB ol.length, Nat.zero_le _, rfl, rfl, Lib.hid (by simp), HO0, HB0⟩
  case round =>
  clear HO0 HB0
  obtain ⟨k, A, c, bs, hk, rfl, rfl, HBS, HO, HBL⟩ := hrel
  have HS := Lib.hid (hK.out.step HBL.out)
  by_cases hlt : k < ol.length
  · obtain ⟨tb, toff, i, hA, hx, hw, d0, d1, d2, d3, d4, d5⟩ := TermsAt.at_ (HP.out _ HS.out.now) hlt
    subst hA
    have hxl : (ol.map TermI.L)[k]? = some i.L := by rw [List.getElem?_map, hx]; rfl
    have HPF : Hid (∀ W, F W → PartsAt i.pa i.ps W) := Lib.hid fun W hW => ((HP.out W hW).it i (List.mem_of_getElem? hx)).2
    obtain ⟨⟨i0, i1, i2, i3, i4⟩, _⟩ := hw
    have hpl := (HPF.out _ HS.out.now).ln
    have HBN : Hid (bs ++ termB i.L = numB ol.length ++ ((ol.map TermI.L).take (k + 1)).flatMap termB) := Lib.hid (by rw [flatMap_take_succ termB hxl, ← List.append_assoc, HBS.out])
    have hbl : bs.length + (24 + 16 * i.ps.length) ≤ 16777216 := by
      have h1 := flatMap_take_add termB hxl
      have h2 := HLB.out
      have h3 := termB_len2 i.L
      have h4 : i.L.parts.length = i.ps.length := rfl
      rw [HBS.out, List.length_append, numB_len]; omega
    have HI6 : Hid (∀ x ∈ [i.b, i.d, i.t, i.u, i.s, (i.ps.length : Int)], I64 x) := Lib.hid fun x hx => by
      simp at hx
      rcases hx with rfl | rfl | rfl | rfl | rfl | rfl <;> first | assumption | exact ⟨by omega, by omega⟩
    have HKb := St.box HS [.int .i64 i.b, .int .i64 i.d, .int .i64 i.t, .int .i64 i.u, .int .i64 i.s, .slice i.pa i.ps.length i.pc] 74
    have hsz : (wr.alloc (.cells #[.int .i64 i.b, .int .i64 i.d, .int .i64 i.t, .int .i64 i.u, .int .i64 i.s, .slice i.pa i.ps.length i.pc] 74)).heap.size = wr.heap.size + 1 := by simp
    clear hx hxl i0 i1 i2 i3 i4
    go_wp2_with fail
    have HOI : Hid (OwnB (wr.alloc (.cells #[.int .i64 i.b, .int .i64 i.d, .int .i64 i.t, .int .i64 i.u, .int .i64 i.s, .slice i.pa i.ps.length i.pc] 74)) w.heap.size A c bs) := Lib.hid (World.ownsRow.alloc HO.out _)
    have HBI : Hid (Below w.heap.size w (wr.alloc (.cells #[.int .i64 i.b, .int .i64 i.d, .int .i64 i.t, .int .i64 i.u, .int .i64 i.s, .slice i.pa i.ps.length i.pc] 74))) := Lib.hid (HBL.out.alloc HBL.out.size _)
    generalize hwI : wr.alloc (.cells #[.int .i64 i.b, .int .i64 i.d, .int .i64 i.t, .int .i64 i.u, .int .i64 i.s, .slice i.pa i.ps.length i.pc] 74) = wI at HKb hsz HOI HBI ⊢
    obtain ⟨bb, hbb⟩ : ∃ bb, wr.heap.size = bb := ⟨_, rfl⟩
    rw [hbb] at HKb hsz ⊢
    obtain ⟨six, hsix⟩ : ∃ z, z = [i.b, i.d, i.t, i.u, i.s, (i.ps.length : Int)] := ⟨_, rfl⟩
    have HSIX := Lib.hid hsix
    have HN0 : Hid (OwnI (wI.alloc (.cells #[.int .i64 i.b, .int .i64 i.d, .int .i64 i.t, .int .i64 i.u, .int .i64 i.s, .int .i64 (i.ps.length : Int)] 3)) wI.heap.size (some ⟨bb + 1, 0, none⟩) 6 six) := Lib.hid (by
      rw [← hsz, hsix]
      exact World.ownsRow_lit wI #[.int .i64 i.b, .int .i64 i.d, .int .i64 i.t, .int .i64 i.u, .int .i64 i.s, .int .i64 (i.ps.length : Int)] 6 (Nat.le_refl _) (by decide) rfl)
    have HBI0 := Lib.hid ((Below.refl wI.heap.size wI).alloc (Nat.le_refl _) (.cells #[.int .i64 i.b, .int .i64 i.d, .int .i64 i.t, .int .i64 i.u, .int .i64 i.s, .int .i64 (i.ps.length : Int)] 3))
    have h6 : six.length = 6 := by rw [hsix]; rfl
    have HL6 := Lib.hid h6
    clear hwI hbb hsix h6 d0 d1 d2 d3 d4 d5 HO HBL HS
    have hbl2 : bb < wI.heap.size := by omega
    go_loopw [6, 7] (fun nv i2 wq => ∃ (m : Nat) (An : Option Addr) (cn : Nat) (l : List Int), m ≤ i.ps.length ∧ i2 = .int .i64 m ∧ nv = .slice An l.length cn ∧ l.length ≤ 6 + 4 * i.ps.length ∧ Hid (l = six ++ (i.ps.take m).flatMap pl4) ∧ Hid (OwnI wq wI.heap.size An cn l) ∧ Hid (Below wI.heap.size wI wq)) (fun _ i2 _ => i.ps.length - (intOf i2).toNat)
    case atStart => exact ⟨0, some ⟨bb + 1, 0, none⟩, 6, six, Nat.zero_le _, rfl, by rw [HL6.out], by rw [HL6.out]; omega, Lib.hid (by simp), HN0, HBI0⟩
    case round =>
    clear HN0 HBI0
    obtain ⟨m, An, cn, l, hm, rfl, rfl, hll, HL, HN, HBQ⟩ := hrel
    have HKq := Lib.hid (HKb.out.step HBQ.out)
    have hc5 := HKq.out.now.1 5 _ rfl
    by_cases hlt2 : m < i.ps.length
    · obtain ⟨qb, qo, p, hA2, hx2, hw2, e0, e1, e2, e3⟩ := (HPF.out _ HKq.out.now.2).at_ hlt2
      obtain ⟨x1, x2, x3, x4⟩ := p
      simp only at e0 e1 e2 e3
      have HX2 := Lib.hid hx2
      have HSX : Hid (∀ W, Below wI.heap.size wI W → W.cell? ⟨bb, 5, none⟩ = some (.slice (some ⟨qb, qo, none⟩) i.ps.length i.pc) ∧ W.cell? ⟨qb, qo + m * 4, none⟩ = some (.int .i64 x1) ∧ W.cell? ⟨qb, qo + m * 4 + 1, none⟩ = some (.int .i64 x2) ∧ W.cell? ⟨qb, qo + m * 4 + 2, none⟩ = some (.int .i64 x3) ∧ W.cell? ⟨qb, qo + m * 4 + 3, none⟩ = some (.int .i64 x4)) := Lib.hid fun W hW => by
        obtain ⟨h1, h2⟩ := HKb.out.1 W hW
        obtain ⟨qb', qo', p', hA3, hx3, _, k0, k1, k2, k3⟩ := (HPF.out _ h2).at_ hlt2
        rw [hA2] at hA3; injection hA3 with hA3; injection hA3 with e1 e2; subst e1; subst e2
        rw [hx2] at hx3; injection hx3 with hx3; subst hx3
        exact ⟨by rw [← hA2]; exact h1 5 _ rfl, k0, k1, k2, k3⟩
      have HLN : Hid (l ++ [x1, x2, x3, x4] = six ++ (i.ps.take (m + 1)).flatMap pl4) := Lib.hid (by rw [flatMap_take_succ pl4 hx2, ← List.append_assoc, HL.out]; rfl)
      have hll2 : l.length ≤ 6 + 4 * m := by
        have h1 := congrArg List.length HL.out
        have h2 : ∀ z : List PartL, (z.flatMap pl4).length = 4 * z.length := fun z => by
          induction z with
          | nil => rfl
          | cons x z ih => rw [List.flatMap_cons, List.length_append, ih, List.length_cons]; show 4 + _ = _; omega
        rw [List.length_append, HL6.out, h2, List.length_take] at h1
        omega
      have hmi0 : (0 : Int) ≤ (m : Int) := by omega
      have hmi : (m : Int) < (i.ps.length : Int) := by omega
      have HBD := Lib.hid (below_drewN HBQ.out 1)
      have hbs := HBQ.out.size
      have HND : Hid (OwnI (wr.drewN 1) wI.heap.size An cn l) := HN
      rw [hA2] at hc5
      clear hx2 hw2 hA2
      go_wp2_with fail
      go_region_held3 (fun W => W.cell? ⟨bb, 5, none⟩ = some (.slice (some ⟨qb, qo, none⟩) i.ps.length i.pc) ∧ W.cell? ⟨qb, qo + m * 4, none⟩ = some (.int .i64 x1) ∧ W.cell? ⟨qb, qo + m * 4 + 1, none⟩ = some (.int .i64 x2) ∧ W.cell? ⟨qb, qo + m * 4 + 2, none⟩ = some (.int .i64 x3) ∧ W.cell? ⟨qb, qo + m * 4 + 3, none⟩ = some (.int .i64 x4))
        (first | exact HSX.out _ HB5.out | exact HSX.out _ HBD.out | exact HSX.out _ (HBD.out.alloc HBD.out.size _))
        ((refine step_int4 (by rfl) _ _ (by rfl) HND.out (by rfl) x1 x2 x3 x4 (by rfl) (by omega) hbs ?_; intro A5 c5 w5 HO5 HG5; (have HB5 := Lib.hid ((HBD.out.alloc HBD.out.size _).grown HG5.out (by simp; omega) (fun g hg => (World.ownsRow.lt HND.out g hg).1)))))
      go_wp2_with fail
      exact ⟨⟨m + 1, A5, c5, l ++ [x1, x2, x3, x4], by omega, by go_num, by simp, by simp; omega, HLN, HO5, HB5⟩, by simp [intOf]; omega⟩
    · obtain rfl : m = i.ps.length := by omega
      have hd : decide (i.ps.length < i.ps.length) = false := by simp
      have HLE : Hid (l.flatMap numB = termB i.L) := Lib.hid (by rw [HL.out, List.take_length, HSIX.out]; exact (termB_ints i.L).symm)
      have HO3 : Hid (OwnB wr w.heap.size A c bs) := Lib.hid (ownsRow_keep HOI.out HBQ.out)
      have HB3 : Hid (Below w.heap.size w wr) := Lib.hid (HBI.out.trans (HBQ.out.mono HBI.out.size))
      have HI64 : Hid (∀ x ∈ l, I64 x) := Lib.hid fun x hx => by
        rw [HL.out, List.take_length] at hx
        rcases List.mem_append.1 hx with hx | hx
        · rw [HSIX.out] at hx; exact HI6.out x hx
        · obtain ⟨p, hp, hx⟩ := List.mem_flatMap.1 hx
          have hpw : PartW p := (HPF.out _ HKb.out.now.2).it p hp
          obtain ⟨z1, z2, z3, z4⟩ := hpw
          simp [pl4] at hx
          rcases hx with rfl | rfl | rfl | rfl <;> assumption
      have HIN := Lib.hid (HN.out.ints HI64.out (by omega))
      have HAB : Hid (∀ g, ownA A = some g → g < wI.heap.size) := Lib.hid fun g hg => (World.ownsRow.lt HOI.out g (by rw [own_ownA]; exact hg)).2
      have HNB : Hid (∀ g, ownA An = some g → wI.heap.size ≤ g) := Lib.hid fun g hg => (World.ownsRow.lt HN.out g (by rw [own_ownA]; exact hg)).1
      have hrl : ∀ g, ownA A = some g → w.heap.size ≤ g := fun g hg => (World.ownsRow.lt HOI.out g (by rw [own_ownA]; exact hg)).1
      have HRL := Lib.hid hrl
      have hl24 : bs.length + 4 * l.length ≤ 16777216 := by
        have h1 := congrArg List.length HLE.out
        rw [numsB_len, termB_len2] at h1
        have h2 : i.L.parts.length = i.ps.length := rfl
        omega
      clear HKq hrl
      obtain ⟨w3, rfl⟩ : ∃ w3 : World, w3 = wr := ⟨_, rfl⟩
      go_wp2_with fail
      clear hc5
      go_loopw [3, 8] (fun bv i3 wq => ∃ (j : Nat) (A2 : Option Addr) (c2 : Nat) (bs2 : List Int), j ≤ l.length ∧ i3 = .int .i64 j ∧ bv = .slice A2 bs2.length c2 ∧ bs2.length ≤ bs.length + 4 * j ∧ Hid (bs2 = bs ++ (l.take j).flatMap numB) ∧ Hid (OwnB wq w.heap.size A2 c2 bs2) ∧ Hid (Only w3.heap.size (ownA A) w3 wq) ∧ Hid (Newer (ownA A) (ownA A2) w3.heap.size)) (fun _ i3 _ => l.length - (intOf i3).toNat)
      case atStart => exact ⟨0, A, c, bs, Nat.zero_le _, rfl, rfl, by omega, Lib.hid (by simp), HO3, Lib.hid (Only.refl _ _ _), Lib.hid (Newer.refl _ _)⟩
      case round =>
      obtain ⟨j, A2, c2, bs2, hj, rfl, rfl, hb2, HBS2, HOB, HON, HNW⟩ := hrel
      by_cases hlt3 : j < l.length
      · obtain ⟨nb, no, x, hA3, hx3, hx64, hc3⟩ := HIN.out.at_ hlt3
        have hnb : wI.heap.size ≤ nb := HNB.out nb (by rw [hA3]; rfl)
        have hcq : wr.cell? ⟨nb, no + j, none⟩ = some (.int .i64 x) := (HON.out.box (lt_of_cell hc3) (by have := lt_of_cell hc3; omega) (fun e => by have := HAB.out nb e.symm; omega) _).trans hc3
        have HX3 := Lib.hid hx3
        have HBN3 : Hid (bs2 ++ numB x = bs ++ (l.take (j + 1)).flatMap numB) := Lib.hid (by rw [flatMap_take_succ numB hx3, ← List.append_assoc, HBS2.out])
        have hji0 : (0 : Int) ≤ (j : Int) := by omega
        have hji : (j : Int) < (l.length : Int) := by omega
        have hbw : w.heap.size ≤ wr.heap.size := Nat.le_trans HB3.out.size HON.out.size
        subst hA3
        clear hx3 hc3
        go_wp2_with (first
          | (go_at_call 23; refine (rnum_any x _ hx64).mono ?_; rintro e w' ⟨rfl, rfl⟩)
          | (at_builtin; go_must (refine wpList_push4 rfl _ _ rfl (.inl HOB.out) rfl _ _ _ _ (by first | rfl | (simp; rfl) | simp) (by omega) hbw ?_); intro A5 c5 w5 HO5 HG5 HAT5))
        have HON5 := Lib.hid ((HON.out.alloc _).grown HG5.out (by rw [own_ownA]; exact HNW.out))
        have HNW5 : Hid (Newer (ownA A) (ownA A5) w3.heap.size) := Lib.hid (by
          have h := HAT5.out
          rw [own_ownA, own_ownA] at h
          rcases h with h | h
          · rw [h]; exact HNW.out
          · exact .inr ⟨_, h, Nat.le_trans HON.out.size (Nat.le_succ _)⟩)
        exact ⟨⟨j + 1, A5, c5, bs2 ++ numB x, by omega, by go_num, by simp [numB], by simp [numB]; omega, HBN3, HO5, HON5, HNW5⟩, by simp [intOf]; omega⟩
      · obtain rfl : j = l.length := by omega
        have hd : decide (l.length < l.length) = false := by simp
        have HBF : Hid (bs2 = numB ol.length ++ ((ol.map TermI.L).take (k + 1)).flatMap termB) := Lib.hid (by rw [← HBN.out, HBS2.out, List.take_length, HLE.out])
        have HBB : Hid (Below w.heap.size w wr) := Lib.hid (HB3.out.trans (HON.out.below HB3.out.size (fun g hg => HRL.out g hg) HB3.out.size))
        go_wp2_with fail
        exact ⟨⟨k + 1, A2, c2, bs2, by omega, by go_num, rfl, HBF, HOB, HBB⟩, by simp [intOf]; omega⟩
  · obtain rfl : k = ol.length := by omega
    have hd : decide (ol.length < ol.length) = false := by simp
    have hl2 : (ol.map TermI.L).length = ol.length := List.length_map _
    have HE : Hid (bs = termsB (OutI.L ⟨oa, oc, ol⟩)) := Lib.hid (by
      rw [HB.out, HBS.out, show ol.length = (ol.map TermI.L).length from hl2.symm, List.take_length])
    go_wp2_with fail
    go_ret
    exact ⟨A, c, by rw [HE.out]; rfl, by rw [← HE.out]; exact HO, HBL, HS⟩
end
end Go.Proofs.Yticfbbigljgjdaa
