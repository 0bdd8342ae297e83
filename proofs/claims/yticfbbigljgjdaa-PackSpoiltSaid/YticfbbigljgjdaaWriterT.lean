/- Contract of (*pack.writer).terms. Condition: the terms lie below the writer; fewer than 2^30 bytes. -/
import Derived.Test.YticfbbigljgjdaaWriterK
import Derived.Test.YticfbbigljgjdaaTermOk
namespace Go.Proofs.Yticfbbigljgjdaa
open Go.RowKit
set_option linter.unusedVariables false
set_option linter.unusedSimpArgs false
section
variable {wB w0 w : World} {pb : Nat} {r0 : Option Nat} {A : Option Addr} {c : Nat} {bs : List Int} {lg : Bool}
set_option maxRecDepth 100000 in
set_option maxHeartbeats 32000000 in
theorem wterms_wk (h : Hid (WK wB pb w0 r0 w A c bs lg)) (o : OutI) (hF : Hid (∀ W, Below wB.heap.size wB W → OutW o W)) (hlen : bs.length + (termsB o.L).length ≤ 1073741824) :
    Calls Try.prog 21 #[.pointer (some ⟨pb, 0, none⟩), .slice o.a o.l.length o.c] w (RetK wB pb w0 r0 (ownA A) w (bs ++ termsB o.L) (lg || bigT o.L)) := by
  have hln := (hF.out _ h.out.bl).ln
  obtain ⟨oa, oc, ol⟩ := o
  simp only at *
  have HLL : Hid ((OutI.L ⟨oa, oc, ol⟩).length = ol.length) := Lib.hid (List.length_map _)
  have HB : Hid (termsB (OutI.L ⟨oa, oc, ol⟩) = numB (ol.length : Int) ++ (ol.map TermI.L).flatMap termB) := Lib.hid (by unfold termsB; rw [HLL.out]; rfl)
  have HBL : Hid (∀ k, (((ol.map TermI.L).take k).flatMap termB).length + 4 ≤ (termsB (OutI.L ⟨oa, oc, ol⟩)).length) := Lib.hid fun k => by
    rw [HB.out, List.length_append, numB_len]; have := flatMap_take_le termB (ol.map TermI.L) k; omega
  have HG : Hid (bigT (OutI.L ⟨oa, oc, ol⟩) = (bigs [(ol.length : Int)] || (ol.map TermI.L).any bigM)) := Lib.hid (by unfold bigT; rw [HLL.out]; rfl)
  obtain ⟨tl, htl⟩ : ∃ z, (termsB (OutI.L ⟨oa, oc, ol⟩)).length = z := ⟨_, rfl⟩
  rw [htl] at hlen HBL
  have h8 : 4 ≤ tl := by have := HBL.out 0; omega
  go_enter Try.func21, Try.ntmps21
  go_wp2_with fail
  refine (num_lit1 h (ol.length : Int) (Lib.hid ⟨by omega, by omega⟩) (by omega)).mono ?_
  rintro e w1 ⟨rfl, A1, c1, HK, HO, HN⟩
  have HO1 : Hid (Only pb (ownA A) w w1) := Lib.hid (Only.via ((Below.refl _ _).alloc (Nat.le_refl _) _) HO.out)
  have HN1 : Hid (Newer (ownA A) (ownA A1) w.heap.size) := Lib.hid (HN.out.mono (by simp))
  rw [show [(ol.length : Int)].flatMap numB = numB ol.length from List.append_nil _] at HK
  clear HO HN
  go_wp2_with fail
  go_loopw [15] (fun i wq => ∃ (k : Nat) (A2 : Option Addr) (c2 : Nat), k ≤ ol.length ∧ i = .int .i64 k ∧ Hid (WK wB pb w0 r0 wq A2 c2 (bs ++ numB ol.length ++ ((ol.map TermI.L).take k).flatMap termB) ((lg || bigs [(ol.length : Int)]) || ((ol.map TermI.L).take k).any bigM)) ∧ Hid (Only pb (ownA A) w wq) ∧ Hid (Newer (ownA A) (ownA A2) w.heap.size)) (fun i _ => ol.length - (intOf i).toNat)
  case atStart => exact ⟨0, A1, c1, Nat.zero_le _, rfl, by simpa using HK, HO1, HN1⟩
  case round =>
  clear HK HO1 HN1
  obtain ⟨k, A2, c2, hk, rfl, HK, HO, HN⟩ := hrel
  by_cases hlt : k < ol.length
  · obtain ⟨tb, toff, i, hA, hx, hw, d0, d1, d2, d3, d4, d5⟩ := TermsAt.at_ (hF.out _ HK.out.bl) hlt
    have hxl : (ol.map TermI.L)[k]? = some i.L := by rw [List.getElem?_map, hx]; rfl
    have HPF : Hid (∀ W, Below wB.heap.size wB W → PartsAt i.pa i.ps W) := Lib.hid fun W hW => by
      have h := (hF.out W hW).it i (List.mem_of_getElem? hx)
      exact h.2
    obtain ⟨⟨i0, i1, i2, i3, i4⟩, _⟩ := hw
    have hpl := (HPF.out _ HK.out.bl).ln
    obtain ⟨bs2, hbs2⟩ : ∃ z, bs ++ numB ol.length ++ ((ol.map TermI.L).take k).flatMap termB = z := ⟨_, rfl⟩
    obtain ⟨lg2, hlg2⟩ : ∃ z, ((lg || bigs [(ol.length : Int)]) || ((ol.map TermI.L).take k).any bigM) = z := ⟨_, rfl⟩
    rw [hbs2, hlg2] at HK
    have HBS2 : Hid (bs ++ numB ol.length ++ ((ol.map TermI.L).take (k + 1)).flatMap termB = bs2 ++ termB i.L) := Lib.hid (by rw [flatMap_take_succ termB hxl, ← List.append_assoc, hbs2])
    have HLG2 : Hid (((lg || bigs [(ol.length : Int)]) || ((ol.map TermI.L).take (k + 1)).any bigM) = (lg2 || bigM i.L)) := Lib.hid (by rw [any_take_succ bigM hxl, ← Bool.or_assoc, hlg2])
    have hlen2 : bs2.length + (24 + 16 * i.ps.length) ≤ 1073741824 := by
      have h1 := HBL.out (k + 1)
      have h2 := congrArg List.length HBS2.out
      simp only [List.length_append, numB_len] at h2
      have h3 := termB_len2 i.L
      have h4 : i.L.parts.length = i.ps.length := rfl
      omega
    have HI := Lib.hid (⟨i0, i1, i2, i3, i4, ⟨by omega, by omega⟩⟩ : I64 i.b ∧ I64 i.d ∧ I64 i.t ∧ I64 i.u ∧ I64 i.s ∧ I64 (i.ps.length : Int))
    have HKb := Lib.hid (HK.out.alloc (.cells #[.int .i64 i.b, .int .i64 i.d, .int .i64 i.t, .int .i64 i.u, .int .i64 i.s, .slice i.pa i.ps.length i.pc] 74))
    have hbx : wr.heap.size ≠ pb := fun e => by have := HK.out.wr.lt; omega
    have hbr : some wr.heap.size ≠ ownA A2 := fun e => by have := (HK.out.rlt _ e.symm).2; omega
    have HBX := Lib.hid hbx
    have HBR := Lib.hid hbr
    have hsz : (wr.alloc (.cells #[.int .i64 i.b, .int .i64 i.d, .int .i64 i.t, .int .i64 i.u, .int .i64 i.s, .slice i.pa i.ps.length i.pc] 74)).heap.size = wr.heap.size + 1 := by simp
    subst hA
    clear hx hxl i0 i1 i2 i3 i4 hbs2 hlg2 hbx hbr
    go_wp2_with fail
    have hnl := num_lit6 HKb i.b i.d i.t i.u i.s (i.ps.length : Int) HI (by omega)
    rw [hsz] at hnl
    refine hnl.mono ?_
    clear hnl
    rintro e w3 ⟨rfl, A3, c3, HK3, HO3, HN3⟩
    have hc5 : w3.cell? ⟨wr.heap.size, 5, none⟩ = some (.slice i.pa i.ps.length i.pc) := by
      rw [HO3.out.box (by simp; omega) HBX.out HBR.out 5, World.cell?_alloc_lt _ _ _ (by simp)]
      simp [World.cell?_alloc_new]
    have HO4 : Hid (Only pb (ownA A) w w3) := Lib.hid (HO.out.trans (Only.via (((Below.refl _ _).alloc (Nat.le_refl _) _).alloc (by simp) _) HO3.out) HN.out)
    have HN4 : Hid (Newer (ownA A) (ownA A3) w.heap.size) := Lib.hid (HN.out.trans (HN3.out.mono (by simp; omega)) HO.out.size)
    obtain ⟨bs3, hbs3⟩ : ∃ z, bs2 ++ [i.b, i.d, i.t, i.u, i.s, (i.ps.length : Int)].flatMap numB = z := ⟨_, rfl⟩
    obtain ⟨lg3, hlg3⟩ : ∃ z, (lg2 || bigs [i.b, i.d, i.t, i.u, i.s, (i.ps.length : Int)]) = z := ⟨_, rfl⟩
    rw [hbs3, hlg3] at HK3
    have hl3 : bs3.length = bs2.length + 24 := by rw [← hbs3]; simp [numB]
    have HBT : Hid (bs3 ++ i.ps.flatMap partB = bs2 ++ termB i.L) := Lib.hid (by rw [← hbs3]; simp [termB, TermI.L, List.append_assoc])
    have HLT : Hid ((lg3 || i.ps.any bigP) = (lg2 || bigM i.L)) := Lib.hid (by rw [← hlg3, Bool.or_assoc]; rfl)
    clear HKb HK HO HN HO3 HN3 hbs3 hlg3
    go_wp2_with fail
    clear hc5
    go_loopw [38] (fun j wq => ∃ (m : Nat) (A4 : Option Addr) (c4 : Nat), m ≤ i.ps.length ∧ j = .int .i64 m ∧ Hid (WK wB pb w0 r0 wq A4 c4 (bs3 ++ (i.ps.take m).flatMap partB) (lg3 || (i.ps.take m).any bigP)) ∧ Hid (Only pb (ownA A) w wq) ∧ Hid (Newer (ownA A) (ownA A4) w.heap.size)) (fun j _ => i.ps.length - (intOf j).toNat)
    case atStart => exact ⟨0, A3, c3, Nat.zero_le _, rfl, by simpa using HK3, HO4, HN4⟩
    case round =>
    clear HK3 HO4 HN4
    obtain ⟨m, A4, c4, hm, rfl, HK, HO, HN⟩ := hrel
    by_cases hlt2 : m < i.ps.length
    · obtain ⟨qb, qo, p, hA, hx, hw, e0, e1, e2, e3⟩ := (HPF.out _ HK.out.bl).at_ hlt2
      obtain ⟨x1, x2, x3, x4⟩ := p
      simp only at e0 e1 e2 e3
      obtain ⟨bs4, hbs4⟩ : ∃ z, bs3 ++ (i.ps.take m).flatMap partB = z := ⟨_, rfl⟩
      obtain ⟨lg4, hlg4⟩ : ∃ z, (lg3 || (i.ps.take m).any bigP) = z := ⟨_, rfl⟩
      rw [hbs4, hlg4] at HK
      have HBS4 : Hid (bs3 ++ (i.ps.take (m + 1)).flatMap partB = bs4 ++ [x1, x2, x3, x4].flatMap numB) := Lib.hid (by rw [flatMap_take_succ partB hx, ← List.append_assoc, hbs4]; rw [← partB_eq])
      have HLG4 : Hid ((lg3 || (i.ps.take (m + 1)).any bigP) = (lg4 || bigs [x1, x2, x3, x4])) := Lib.hid (by rw [any_take_succ bigP hx, ← Bool.or_assoc, hlg4]; rfl)
      have hlen4 : bs4.length + 16 ≤ 1073741824 := by
        rw [← hbs4, List.length_append, partsB_len, List.length_take]; omega
      have HI4 := Lib.hid (hw : I64 x1 ∧ I64 x2 ∧ I64 x3 ∧ I64 x4)
      have HKb := Lib.hid (HK.out.alloc (.cells #[.int .i64 x1, .int .i64 x2, .int .i64 x3, .int .i64 x4] 76))
      have hsz4 : (wr.alloc (.cells #[.int .i64 x1, .int .i64 x2, .int .i64 x3, .int .i64 x4] 76)).heap.size = wr.heap.size + 1 := by simp
      rw [hA]
      clear hx hw hbs4 hlg4 hA
      go_wp2_with fail
      have hnl := num_lit4 HKb x1 x2 x3 x4 HI4 (by omega)
      rw [hsz4] at hnl
      refine hnl.mono ?_
      clear hnl
      rintro e w5 ⟨rfl, A5, c5, HK5, HO5, HN5⟩
      have HO6 : Hid (Only pb (ownA A) w w5) := Lib.hid (HO.out.trans (Only.via (((Below.refl _ _).alloc (Nat.le_refl _) _).alloc (by simp) _) HO5.out) HN.out)
      have HN6 : Hid (Newer (ownA A) (ownA A5) w.heap.size) := Lib.hid (HN.out.trans (HN5.out.mono (by simp; omega)) HO.out.size)
      rw [← HBS4.out, ← HLG4.out] at HK5
      clear HO5 HN5 HKb HK HO HN
      go_wp2_with fail
      exact ⟨⟨m + 1, A5, c5, by omega, by go_num, HK5, HO6, HN6⟩, by simp [intOf]; omega⟩
    · obtain rfl : m = i.ps.length := by omega
      have hd : decide (i.ps.length < i.ps.length) = false := by simp
      rw [List.take_length, HBT.out, HLT.out, ← HBS2.out, ← HLG2.out] at HK
      go_wp2_with fail
      exact ⟨⟨k + 1, A4, c4, by omega, by go_num, HK, HO, HN⟩, by simp [intOf]; omega⟩
  · obtain rfl : k = ol.length := by omega
    have hd : decide (ol.length < ol.length) = false := by simp
    have hl2 : (ol.map TermI.L).length = ol.length := List.length_map _
    have HKE : Hid (WK wB pb w0 r0 wr A2 c2 (bs ++ termsB (OutI.L ⟨oa, oc, ol⟩)) (lg || bigT (OutI.L ⟨oa, oc, ol⟩))) := by
      rw [HB.out, HG.out, ← Bool.or_assoc, ← List.append_assoc]
      have := HK
      rw [show ol.length = (ol.map TermI.L).length from hl2.symm, List.take_length, hl2] at this
      exact this
    go_wp2_with fail
    go_end0
    exact ⟨rfl, A2, c2, HKE, HO, HN⟩
end
end Go.Proofs.Yticfbbigljgjdaa
