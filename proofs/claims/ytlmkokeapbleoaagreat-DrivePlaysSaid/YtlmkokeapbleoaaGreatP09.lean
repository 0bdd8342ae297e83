/- Contracts and plain laws that the proof leans on. Condition: as each theorem says. -/
import Derived.Test.YtlmkokeapbleoaaGreatP05
import Derived.Test.YtlmkokeapbleoaaGreatP04
import Derived.Test.YtlmkokeapbleoaaGreatP06
import Derived.Laws.OwnMore
import Derived.Test.YtlmkokeapbleoaaGreatShelfB
import Derived.Test.YtlmkokeapbleoaaGreatP07
import Derived.Deep.DeepCutAuto
import Derived.Test.YtlmkokeapbleoaaGreatP01
set_option maxRecDepth 100000
set_option maxHeartbeats 64000000
set_option linter.unusedVariables false
set_option linter.unusedSimpArgs false
namespace Go.Proofs.YtlmkokeapbleoaaGreat
open Go.RowKit
section
section
variable {db : Nat} {cs : Array Value} {node st : Int} {ha : Option Addr} {hc : Nat} {h : List Int} {W : World}
theorem fault_st {s : DrvS} (b : DrvB db cs node ha hc h (stI s) W) (hs : cs.size = 259) :
  Calls Tryz.prog 98 #[.pointer (some ⟨db, 0, none⟩)] W fun e w' => e = .returned (.int .i64 (errI s)) ∧ W = w' := by
 have p := b.cState hs
 clear b
 obtain ⟨⟨k, l, r⟩, c⟩ := s
 rcases r with _ | _
 ·rcases c with _ | _
  ·have e1 : stI (⟨⟨k, l, false⟩, false⟩ : DrvS) = 0 := rfl
   have e2 : errI (⟨⟨k, l, false⟩, false⟩ : DrvS) = 0 := rfl
   rw [e1] at p
   rw [e2]
   go_enter Tryz.func98, Tryz.ntmps98
   go_wp2_with fail
   go_ret
   exact ⟨rfl, rfl⟩
  ·have e1 : stI (⟨⟨k, l, false⟩, true⟩ : DrvS) = 1 := rfl
   have e2 : errI (⟨⟨k, l, false⟩, true⟩ : DrvS) = 8 := rfl
   rw [e1] at p
   rw [e2]
   go_enter Tryz.func98, Tryz.ntmps98
   go_wp2_with fail
   go_ret
   exact ⟨rfl, rfl⟩
 ·have e1 : stI (⟨⟨k, l, true⟩, c⟩ : DrvS) = 2 := by unfold stI; rfl
  have e2 : errI (⟨⟨k, l, true⟩, c⟩ : DrvS) = 7 := by unfold errI; rfl
  rw [e1] at p
  rw [e2]
  go_enter Tryz.func98, Tryz.ntmps98
  go_wp2_with fail
  go_ret
  exact ⟨rfl, rfl⟩
theorem reject_st (b : DrvB db cs node ha hc h st W) (hs : cs.size = 259) :
  Calls Tryz.prog 99 #[.pointer (some ⟨db, 0, none⟩)] W fun e w' => e = .returned (.tuple #[]) ∧ Hid (DrvB db cs 0 none 0 [] 2 w') ∧ Hid (BelD (fun k => k = db) W w') := by
 have b1 := b.setState hs 2
 have b2 := b1.setNode hs 0
 have b3 := b2.setHeld hs none 0 []
 have HB3 := Lh b3
 have c1 := b.cState hs
 have f1 := b.fz 261
 have c2 := b1.cNode hs
 have f2 := b1.fz 259
 have c3 := b2.cHeld hs
 have f3 := b2.fz 260
 clear b b1 b2 b3
 go_enter Tryz.func99, Tryz.ntmps99
 go_wp2_with fail
 go_end0
 exact ⟨rfl, HB3, Lh ((((BelD.refl (fun k => k = db) W).setCell rfl _ _).setCell rfl _ _).setCell rfl _ _)⟩
theorem Node_st (b : DrvB db cs node ha hc h st W) (hs : cs.size = 259) :
  Calls Tryz.prog 44 #[.pointer (some ⟨db, 0, none⟩)] W fun e w' => e = .returned (.int .i64 node) ∧ W = w' := by
 have p := b.cNode hs
 clear b
 go_enter Tryz.func44, Tryz.ntmps44
 go_wp2_with fail
 go_ret
 exact ⟨rfl, rfl⟩
theorem Held_st (b : DrvB db cs node ha hc h st W) (hs : cs.size = 259) (hb : Sl W 1 ha h.length (h.map (Value.int .u8))) (hl : h.length ≤ 1048576) :
  Calls Tryz.prog 45 #[.pointer (some ⟨db, 0, none⟩)] W (RetOwn W 5 1 h.length (h.map (Value.int .u8))) := by
 have p := b.cHeld hs
 have HB := Lh hb
 clear b hb
 go_enter Tryz.func45, Tryz.ntmps45
 go_wp2_with fail
 refine (CloneByte W HB.out (fun u hu => by obtain ⟨x, _, rfl⟩ := List.mem_map.1 hu; rfl) hl hc).mono ?_
 rintro e w1 ⟨A, c, rfl, HO, HBl⟩
 go_wp2_with fail
 go_ret
 exact ⟨A, c, rfl, HO, HBl⟩
end
end
section
section
variable {w0 w : World} {F : World → Prop} {A : Option Addr} {l : List PartL}
theorem tVal_st (hK : Hid (St w0 w F)) (hp : ∀ W, F W → PartsAt A l W) (b d t u s : Int) (c : Nat) {B : Option Addr} {xs : List Int} (hb : ∀ W, F W → RunesAt B xs W) (cB : Nat) (hn : Hid (NumsOk ⟨b, d, t, u, s, l⟩)) (ok : Bool) (hv : Hid (pB (ValOk ⟨b, d, t, u, s, l⟩ xs) = ok)) (z : Int) (hz : Hid ((if ok = true then valN ⟨b, d, t, u, s, l⟩ xs else 0) = z)) :
  Calls Tryz.prog 146 #[.agg #[.int .i64 b, .int .i64 d, .int .i64 t, .int .i64 u, .int .i64 s, .slice A l.length c], .slice B xs.length cB] w
   (RetV w0 (.tuple #[.int .i64 z, .bool ok]) F) := by
 have HP := Lh hp
 have HB := Lh hb
 have hlx := (hb _ hK.out.now).ln
 have hl4 : l.length ≤ 4 := hn.out.2.2.2.2
 have HK := St.box hK [.int .i64 b, .int .i64 d, .int .i64 t, .int .i64 u, .int .i64 s, .slice A l.length c] 68
 clear hp hb
 go_enter Tryz.func146, Tryz.ntmps146
 go_wp2_with fail
 go_loopw [17] (fun i wr => ∃ k : Nat, k ≤ xs.length ∧ i = .int .i64 k ∧ Hid (∀ x ∈ xs.take k, 0 ≤ x ∧ x ≤ 1114111) ∧ Hid (St w0 wr (fun W => BoxC w.heap.size [.int .i64 b, .int .i64 d, .int .i64 t, .int .i64 u, .int .i64 s, .slice A l.length c] W ∧ F W))) (fun i _ => xs.length - (intOf i).toNat)
 case atStart => exact ⟨0, Nat.zero_le _, rfl, Lh (fun p hp => by simp at hp), HK⟩
 case round =>
 clear HK
 obtain ⟨k, hk, rfl, HR, HK⟩ := hrel
 by_cases hlt : k < xs.length
 ·obtain ⟨xb, xo, x, rfl, hx, hrw, hxc⟩ := (HB.out _ HK.out.now.2).at_ hlt
  have HX := Lh hx
  clear hx
  by_cases h1 : x < 0
  ·obtain rfl := pB_f hv (fun h => by have := (h.1 x (List.mem_of_getElem? HX.out)).1; omega)
   obtain rfl : (0 : Int) = z := hz.out
   go_wp2_with fail
   go_ret2
   exact ⟨rfl, Lh (HK.out.weaken fun _ h => h.2)⟩
  by_cases h2 : 1114111 < x
  ·obtain rfl := pB_f hv (fun h => by have := (h.1 x (List.mem_of_getElem? HX.out)).2; omega)
   obtain rfl : (0 : Int) = z := hz.out
   go_wp2_with fail
   go_ret2
   exact ⟨rfl, Lh (HK.out.weaken fun _ h => h.2)⟩
  have HN : Hid (∀ p ∈ xs.take (k + 1), 0 ≤ p ∧ p ≤ 1114111) := Lh fun q hq => by
   rw [take_snoc? HX.out] at hq
   rcases List.mem_append.1 hq with hq | hq
   ·exact HR.out q hq
   ·simp at hq; subst hq; omega
  go_wp2_with fail
  go_roundw
  case rel => exact ⟨k + 1, by omega, by go_num, HN, HK⟩
  case measure => simp [intOf]; omega
 ·obtain rfl : k = xs.length := by omega
  have hd : decide (xs.length < xs.length) = false := by simp
  have HW : Hid (WinOk xs) := Lh (by have := HR.out; rwa [List.take_length] at this)
  obtain ⟨q0, q1, q2, q3, q4, q5⟩ := HK.out.now.1.c6
  have HSN : Hid (SmallN s ∧ SmallN b ∧ BitsOk d t u) := Lh ⟨hn.out.2.1, hn.out.1, hn.out.2.2.1⟩
  go_wp2_with fail
  clear q0 q1 q2 q3 q4 q5 hd
  go_loopw [8, 33] (fun v i wr => ∃ k : Nat, k ≤ l.length ∧ i = .int .i64 k ∧ v = .int .i64 (innerTo ⟨b, d, t, u, s, l⟩ xs k) ∧ Hid (∀ p ∈ l.take k, PartOk xs.length p) ∧ Hid (St w0 wr (fun W => BoxC w.heap.size [.int .i64 b, .int .i64 d, .int .i64 t, .int .i64 u, .int .i64 s, .slice A l.length c] W ∧ F W))) (fun _ i _ => l.length - (intOf i).toNat)
  case atStart => exact ⟨0, Nat.zero_le _, rfl, by simp [innerTo], Lh (fun p hp => by simp at hp), HK⟩
  case round =>
  clear HK
  obtain ⟨k, hk, rfl, rfl, HR2, HK⟩ := hrel
  have hc5 := HK.out.now.1 5 _ rfl
  by_cases hlt : k < l.length
  ·obtain ⟨pb, off, p, hA, hx, hw, hd0, hd1, hd2, hd3⟩ := (HP.out _ HK.out.now.2).at_ hlt
   obtain ⟨x1, x2, x3, x4⟩ := p
   simp only at hd0 hd1 hd2 hd3
   subst hA
   have HX := Lh hx
   clear hx hw hc5
   have HKp := St.box HK [.int .i64 x1, .int .i64 x2, .int .i64 x3, .int .i64 x4] 70
   by_cases a2 : PartOk xs.length (x1, x2, x3, x4)
   ·have H2 := Lh (pB_true a2)
    have HN : Hid (∀ p ∈ l.take (k + 1), PartOk xs.length p) := Lh fun q hq => by
     rw [take_snoc? HX.out] at hq
     rcases List.mem_append.1 hq with hq | hq
     ·exact HR2.out q hq
     ·simp at hq; subst hq; exact a2
    obtain ⟨h10, h11, _⟩ := a2
    obtain ⟨a, rfl⟩ := Int.eq_ofNat_of_zero_le h10
    have hal : a < xs.length := by omega
    obtain ⟨xb, xo, x, hB, hx, hrw, hxc⟩ := (HB.out _ HK.out.now.2).at_ hal
    obtain ⟨hx0, hx1⟩ := HW.out x (List.mem_of_getElem? hx)
    have hwx : wrap64 x = x := by unfold wrap64; omega
    have HWX : Hid (IntKind.i64.wrap x = x) := Lh (IntWalk.i64_in x (by omega))
    obtain ⟨vv, hvv⟩ : ∃ vv, vNum x2 x3 x4 x = vv := ⟨_, rfl⟩
    obtain ⟨vo, hvo⟩ : ∃ vo, vOk x2 x3 x4 x = vo := ⟨_, rfl⟩
    have hk4 : k + 1 ≤ 4 := by omega
    have hbd := innerTo_bd (t := ⟨b, d, t, u, s, l⟩) HSN.out.1 xs (k + 1) hk4
    have hnext := innerTo_next (t := ⟨b, d, t, u, s, l⟩) (w := xs) HX.out
    have hvP : vP (((a : Int), x2, x3, x4) : PartL) (xs.getD ((a : Int)).toNat 0) = vv := by
     rw [Int.toNat_natCast, List.getD_eq_getElem?_getD, hx]; exact hvv
    have hnext : innerTo ⟨b, d, t, u, s, l⟩ xs (k + 1) = innerTo ⟨b, d, t, u, s, l⟩ xs k + vv := by rw [hnext]; congr 1
    obtain ⟨i0, hi0⟩ : ∃ i0, innerTo ⟨b, d, t, u, s, l⟩ xs k = i0 := ⟨_, rfl⟩
    obtain ⟨i1, hi1⟩ : ∃ i1, innerTo ⟨b, d, t, u, s, l⟩ xs (k + 1) = i1 := ⟨_, rfl⟩
    rw [hi1] at hbd
    rw [hi0, hi1] at hnext
    have hwi : wrap64 (i0 + vv) = i1 := by rw [← hnext]; unfold wrap64; omega
    have HI1 := Lh hi1
    have HKx := Lh (HKp.out.add (Below.refl _ _) (G := fun W => W.cell? ⟨xb, xo + a, none⟩ = some (.int .i32 x)) (fun W hW => by
     have h1 : (wr.alloc (.cells [Value.int .i64 (a : Int), .int .i64 x2, .int .i64 x3, .int .i64 x4].toArray 70)).cell? ⟨xb, xo + a, none⟩ = some (.int .i32 x) := (((Below.refl wr.heap.size wr).alloc (Nat.le_refl _) _).cell (p := ⟨xb, xo + a, none⟩) (lt_of_cell hxc)).trans hxc
     exact (hW.cell (p := ⟨xb, xo + a, none⟩) (lt_of_cell h1)).trans h1))
    rw [hi0]
    subst hB
    clear hx hrw hxc hbd hnext hvP h10 h11 hi0 hi1
    go_wp2_with (go_at_call 183; refine (PRight_st HKx a x2 x3 x4 xs.length true H2).mono ?_; rintro e w5 ⟨rfl, HK5⟩)
    have HK6 := St.hdrewN HK5 1
    have hai : (a : Int) < xs.length := by omega
    have ha0 : (0 : Int) ≤ a := by omega
    have HVV := Lh hvv
    have HVO := Lh hvo
    have HWI := Lh hwi
    have HLT := Lh hlt
    clear hvv hvo hwi hal hk4 hlt hx1
    go_region_held3 (fun W => W.cell? ⟨wr.heap.size, 0, none⟩ = some (.int .i64 (a : Int)) ∧ W.cell? ⟨wr.heap.size, 1, none⟩ = some (.int .i64 x2) ∧ W.cell? ⟨wr.heap.size, 2, none⟩ = some (.int .i64 x3) ∧ W.cell? ⟨wr.heap.size, 3, none⟩ = some (.int .i64 x4) ∧ W.cell? ⟨xb, xo + a, none⟩ = some (.int .i32 x))
     (first | exact flat4 HK6.out.now.2.1.c4 HK6.out.now.1 | exact flat4 HK7.out.now.2.1.c4 HK7.out.now.1 | go_keep)
     ((go_at_call 184; (try rw [HWX.out]); refine (Value_st HK6 (a : Int) x2 x3 x4 x HVV.out HVO.out).mono ?_; rintro e7 w7 ⟨rfl, HK7⟩))
    go_wp2_with fail
    have HE : Hid (wrap64 (i0 + vv) = innerTo ⟨b, d, t, u, s, l⟩ xs (k + 1)) := Lh (HWI.out.trans HI1.out.symm)
    go_roundw
    case rel => exact ⟨k + 1, by have := HLT.out; omega, by go_num, by rw [HE.out], HN, Lh (HK7.out.weaken fun _ h => h.2.2)⟩
    case measure => have := HLT.out; simp [intOf]; omega
   ·have H2 := Lh (pB_false a2)
    obtain rfl := pB_f hv (fun h => a2 (h.2.1 _ (List.mem_of_getElem? HX.out)))
    obtain rfl : (0 : Int) = z := hz.out
    clear a2
    go_wp2_with (go_at_call 183; refine (PRight_st HKp x1 x2 x3 x4 xs.length false H2).mono ?_; rintro e w5 ⟨rfl, HK5⟩)
    go_ret2
    exact ⟨rfl, Lh (HK5.out.weaken fun _ h => h.2.2)⟩
  ·obtain rfl : k = l.length := by omega
   have hd : decide (l.length < l.length) = false := by simp
   have HPO : Hid (∀ p ∈ l, PartOk xs.length p) := Lh (by have := HR2.out; rwa [List.take_length] at this)
   obtain ⟨iv, hiv⟩ : ∃ iv, innerTo ⟨b, d, t, u, s, l⟩ xs l.length = iv := ⟨_, rfl⟩
   have HIV : Hid (innerT ⟨b, d, t, u, s, l⟩ xs = iv) := Lh hiv
   rw [hiv]
   clear hiv hc5
   have q5 := HK.out.now.1 5 _ rfl
   by_cases h2 : 1114111 < iv
   ·obtain rfl := pB_f hv (fun h => by have := h.2.2.2.1; rw [HIV.out] at this; omega)
    obtain rfl : (0 : Int) = z := hz.out
    go_wp2_with fail
    go_ret2
    exact ⟨rfl, Lh (HK.out.weaken fun _ h => h.2)⟩
   obtain ⟨vv, hvv⟩ : ∃ vv, vNum d t u iv = vv := ⟨_, rfl⟩
   obtain ⟨vo, hvo⟩ : ∃ vo, vOk d t u iv = vo := ⟨_, rfl⟩
   have HVV := Lh hvv
   have HVO := Lh hvo
   have hvb := vNum_bd d t u iv
   rw [hvv] at hvb
   have hwb : wrap64 (b + vv) = b + vv := by
    have g1 := HSN.out.2.1.1
    have g2 := HSN.out.2.1.2
    unfold wrap64
    omega
   obtain ⟨p0, p1, p2, p3, p4, _⟩ := HK.out.now.1.c6
   clear hvv hvo hvb
   go_wp2_with fail
   refine (retV_gives HK (outer_any b d t u s A l.length c _)).mono ?_
   rintro e w5 ⟨rfl, HK5⟩
   go_wp2_with fail
   refine (Value_st HK5 0 d t u iv HVV.out HVO.out).mono ?_
   rintro e w6 ⟨rfl, HK6⟩
   have p0 := HK6.out.now.1 0 _ rfl
   rcases vo with _ | _
   ·obtain rfl := pB_f hv (fun h => by have := h.2.2.2.2; rw [HIV.out, HVO.out] at this; cases this)
    obtain rfl : (0 : Int) = z := hz.out
    go_wp2_with fail
    go_ret2
    exact ⟨rfl, Lh (HK6.out.weaken fun _ h => h.2)⟩
   ·obtain rfl := pB_t hv ⟨HW.out, HPO.out, by rw [HIV.out]; exact ((vOk_iff _ _ _ _).1 HVO.out).2.1, by rw [HIV.out]; omega, by rw [HIV.out]; exact HVO.out⟩
    have hzz : z = wrap64 (b + vv) := by
     have := hz.out
     rw [hwb]
     rw [if_pos rfl] at this
     rw [← this]; unfold valN; rw [HIV.out]; show b + vNum d t u iv = _; rw [HVV.out]
    subst hzz
    clear hwb
    go_wp2_with fail
    go_ret2
    exact ⟨rfl, Lh (HK6.out.weaken fun _ h => h.2)⟩
end
end
def BytesAt (A : Option Addr) (l : List Int) (W : World) : Prop := RowsAt 1 (fun x => [Value.int .u8 x]) (fun x _ => 0 ≤ x ∧ x < 256) A l W
theorem BytesAt.below {A : Option Addr} {l : List Int} {w w' : World} (h : BytesAt A l w) (hb : Below w.heap.size w w') : BytesAt A l w' := RowsAt.below h (fun _ _ _ h _ => h) hb
theorem BytesAt.u8 {A : Option Addr} {l : List Int} {w : World} (h : BytesAt A l w) : U8s l := h.it
theorem BytesAt.at_ {A : Option Addr} {l : List Int} {W : World} (h : BytesAt A l W) {j : Nat} (hj : j < l.length) : ∃ b off x, A = some ⟨b, off, none⟩ ∧ l[j]? = some x ∧ 0 ≤ x ∧ x < 256 ∧ W.cell? ⟨b, off + j, none⟩ = some (.int .u8 x) := by
 obtain ⟨b, off, p, hA, hp, hc, hw⟩ := RowsAt.at_ h (fun _ => rfl) hj
 have := hc 0 _ rfl
 rw [Nat.mul_one, Nat.add_zero] at this
 exact ⟨b, off, p, hA, hp, hw.1, hw.2, this⟩
theorem bytes_cells (l : List Int) : l.flatMap (fun x => [Value.int .u8 x]) = l.map (Value.int .u8) := by
 induction l with
 | nil => rfl
 | cons x l ih => rw [List.flatMap_cons, ih]; rfl
theorem BytesAt.of_own {w : World} {base : Nat} {e : TypeId} {A : Option Addr} {c : Nat} {l : List Int} (h : w.ownsRow base e 1 (.slice A l.length c) l.length (l.map (Value.int .u8))) (hu : U8s l) (hl : l.length ≤ 9223372036854775807) : BytesAt A l w :=
 ⟨by rw [bytes_cells]; exact Sl.of_own h, hu, hl⟩
theorem infoRune : (Tryz.prog.info? 21).map (fun i => (i.zero, i.size, i.bytes)) = some (some (.int .i32 0), 1, 4) := by kernel_rfl
theorem infoByteD : (Tryz.prog.info? 5).map (fun i => (i.zero, i.size, i.bytes)) = some (some (.int .u8 0), 1, 1) := by kernel_rfl
def OwnR (A : Option Addr) (k : Nat) : Prop := ownA A = some k
def RetBy (base : Nat) (A : Option Addr) (l : List Int) (W : World) (e : Ending) (W' : World) : Prop :=
 ∃ A' c', e = .returned (.slice A' l.length c') ∧ Hid (W'.ownsRow base 5 1 (.slice A' l.length c') l.length (l.map (Value.int .u8))) ∧ Hid (BelD (OwnR A) W W') ∧ Hid (Newer (ownA A) (ownA A') W.heap.size)
theorem six6 {W : World} {b : Nat} {x0 x1 x2 x3 x4 x5 : Value} {t : TypeId} {fr : Nat × Nat} (h : W.heap[b]? = some (.cells #[x0, x1, x2, x3, x4, x5] t fr)) :
  W.cell? ⟨b, 0, none⟩ = some x0 ∧ W.cell? ⟨b, 1, none⟩ = some x1 ∧ W.cell? ⟨b, 2, none⟩ = some x2 ∧ W.cell? ⟨b, 3, none⟩ = some x3 ∧ W.cell? ⟨b, 4, none⟩ = some x4 ∧ W.cell? ⟨b, 5, none⟩ = some x5 := by
 refine ⟨?_, ?_, ?_, ?_, ?_, ?_⟩ <;> simp [World.cell?, h]
theorem take_setI' (xs : List Value) (k : Nat) (u : Value) (h : k < xs.length) : (xs.set k u).take (k + 1) = xs.take k ++ [u] := by
 rw [take_snoc? (x := u) (by rw [List.getElem?_set_self h]), List.take_set_of_le (Nat.le_refl k)]
section
theorem dwrite_st (W : World) (base : Nat) {A : Option Addr} {l : List Int} {c : Nat} (hO : Hid (W.ownsRow base 5 1 (.slice A l.length c) l.length (l.map (Value.int .u8)))) (hb : base ≤ W.heap.size) (o : OutI) {B : Option Addr} {wl : List Int} (cw : Nat)
  (hG : Hid (∀ W', BelD (OwnR A) W W' → TermsAt o.a o.l W' ∧ BytesAt B wl W')) (hn : Hid (∀ t ∈ o.l, NumsOk t.L)) (hl : l.length + o.l.length ≤ 1048576) (hw : wl.length ≤ 1048576) :
  Calls Tryz.prog 100 #[.slice A l.length c, .slice o.a o.l.length o.c, .slice B wl.length cw] W (RetBy base A (l ++ wrB o.L wl) W) := by
 obtain ⟨i0, hi, hz0, hz1, hz2⟩ := info_parts infoRune
 obtain ⟨oa, oc, ol⟩ := o
 simp only at hG hn hl ⊢
 have hu8 := (hG.out W (BelD.refl _ _)).2.u8
 have HU := Lh hu8
 clear hu8
 go_enter Tryz.func100, Tryz.ntmps100
 go_wp2_with (at_make; go_must (refine wpList_make_full _ rfl _ _ 36 rfl W.heap.size 21 i0 (.int .i32 0) 1 Tryz.underlying36 hi hz0 hz1 _ _ _ _ wl.length rfl rfl rfl rfl (by rw [hz2]; omega) (by unfold maxLen; omega) (Nat.le_refl _) ?c3))
 case c3 =>
 intro w1 hown hg
 have HB1 : Hid (Below W.heap.size W w1) := Lh ((Below.refl W.heap.size W).grown hg (Nat.le_refl _) (by intro k hk; cases hk))
 have HO1 := Lh hown
 clear hown hg hi hz0 hz1 hz2
 go_wp2_with fail
 go_loopw [19] (fun iv wr => ∃ (k : Nat) (xs : List Value), k ≤ wl.length ∧ iv = .int .i64 k ∧ Hid (wr.ownsRow W.heap.size 21 1 (.slice (some ⟨W.heap.size, 0, none⟩) wl.length wl.length) wl.length xs) ∧ Hid (xs.take k = (wl.take k).map (Value.int .i32)) ∧ Hid (Below W.heap.size W wr)) (fun iv _ => wl.length - (intOf iv).toNat)
 case atStart => exact ⟨0, _, Nat.zero_le _, rfl, HO1, Lh (by simp), HB1⟩
 case round =>
 clear HO1 HB1
 obtain ⟨k, xs, hk, rfl, HO1, HX, HB1⟩ := hrel
 by_cases hlt : k < wl.length
 ·obtain ⟨bb, off, x, rfl, hx, hx0, hx1, hcx⟩ := ((hG.out wr (BelD.of_below HB1.out)).2.at_ hlt)
  have hvm : IntKind.i32.wrap x = x := by simp [IntKind.wrap, IntKind.signed, IntKind.bits]; omega
  have hll : k < xs.length := by have := HO1.out.1; omega
  have hd : wr.cell? ⟨W.heap.size, k, none⟩ = some (xs[k]) := by rw [HO1.out.cellAt k (by omega), List.getElem?_eq_getElem hll]
  have hf := HO1.out.frozenAt k
  obtain ⟨hown2, hg2⟩ := HO1.out.stored k (.int .i32 x)
  have HO2 := Lh hown2
  have HB2 := Lh (HB1.out.setCell (p := ⟨W.heap.size, k, none⟩) (Nat.le_refl _) (.int .i32 x))
  have HX2 : Hid ((xs.set k (.int .i32 x)).take (k + 1) = (wl.take (k + 1)).map (Value.int .i32)) := by
   unfold Hid
   rw [take_setI' _ _ _ hll, HX.out, take_snoc? hx, List.map_append]; rfl
  have hli : (k : Int) < (wl.length : Int) := by omega
  generalize xs[k] = u0 at hd
  clear hown2 hg2 hll hx
  go_wp2_with fail
  exact ⟨⟨k + 1, _, by omega, by go_num, HO2, HX2, HB2⟩, by simp [intOf]; omega⟩
 obtain rfl : k = wl.length := by omega
 have hd : decide (wl.length < wl.length) = false := by simp
 have HRU : Hid (RunesAt (some ⟨W.heap.size, 0, none⟩) wl wr) := Lh (by
  have e : xs = wl.map (Value.int .i32) := by
   have h1 := HX.out
   rw [List.take_length, List.take_of_length_le (by have := HO1.out.1; omega)] at h1
   exact h1
  have h := Sl.of_own HO1.out
  rw [e] at h
  refine ⟨?_, fun x hx => ?_, by omega⟩
  ·rw [← List.map_eq_flatMap]; exact h
  ·have := HU.out x hx
   unfold RuneW; omega)
 clear HX HO1
 obtain ⟨ws, hws⟩ : ∃ z, z = wr := ⟨_, rfl⟩
 subst hws
 go_wp2_with fail
 clear hd
 have hb1 := HB1.out.size
 go_loopw [0, 32] (fun sv iv wr => ∃ (k : Nat) (A2 : Option Addr) (c2 : Nat) (l2 : List Int), k ≤ ol.length ∧ iv = .int .i64 k ∧ sv = .slice A2 l2.length c2 ∧ Hid (l2 = l ++ wrB ((ol.take k).map TermI.L) wl) ∧ Hid (wr.ownsRow base 5 1 (.slice A2 l2.length c2) l2.length (l2.map (Value.int .u8))) ∧ Hid (BelD (OwnR A) ws wr) ∧ Hid (Newer (ownA A) (ownA A2) ws.heap.size)) (fun _ iv _ => ol.length - (intOf iv).toNat)
 case atStart => exact ⟨0, A, c, l, Nat.zero_le _, rfl, rfl, Lh (by simp [wrB]), Lh (own_keep hO.out fun k hk => HB1.out.block k (own_ty hO.out hk).2.1), Lh (BelD.refl _ _), Lh (Newer.refl _ _)⟩
 case round =>
 obtain ⟨k, A2, c2, l2, hk, rfl, rfl, HL2, HO2, HB2, HN2⟩ := hrel
 have hAW : ∀ j, ownA A2 = some j → ws.heap.size ≤ j ∨ OwnR A j := fun j hj => by
  rcases HN2.out with e | ⟨g, e, hg⟩
  ·right; rw [e] at hj; exact hj
  ·left; rw [e] at hj; injection hj with hj; omega
 have HAW := Lh hAW
 have hl2 : l2.length ≤ l.length + k := by
  rw [HL2.out, List.length_append]
  have := wrB_len ((ol.take k).map TermI.L) wl
  rw [List.length_map, List.length_take] at this; omega
 have HBB : Hid (BelD (OwnR A) W wr) := Lh ((BelD.of_below HB1.out).trans HB2.out)
 by_cases hlt : k < ol.length
 ·obtain ⟨tb, toff, t, rfl, ht, htw, d0, d1, d2, d3, d4, d5⟩ := (hG.out wr HBB.out).1.at_ hlt
  obtain ⟨ok, hok⟩ : ∃ v, pB (ValOk t.L wl) = v := ⟨_, rfl⟩
  obtain ⟨z, hz⟩ : ∃ z, (if ok = true then valN t.L wl else 0) = z := ⟨_, rfl⟩
  have HOK := Lh hok
  have HZ := Lh hz
  have HTK := Lh ht
  have hli : (k : Int) < (ol.length : Int) := by omega
  have hwN : W.heap.size ≤ ws.heap.size := hb1
  have HRW : Hid (∀ V, BelD (OwnR A2) wr V → RunesAt (some ⟨W.heap.size, 0, none⟩) wl V ∧ PartsAt t.pa t.ps V) := Lh fun V hV => by
   have hV2 : BelD (OwnR A) ws V := ⟨hV.os.trans HB2.out.os, hV.tape.trans HB2.out.tape, hV.output.trans HB2.out.output, Nat.le_trans HB2.out.size hV.size, fun j hj hn => (hV.block j (Nat.lt_of_lt_of_le hj HB2.out.size) (fun e => by
    rcases HAW.out j e with h | h
    ·omega
    ·exact hn h)).trans (HB2.out.block j hj hn)⟩
   have hV3 : BelD (OwnR A) W V := (BelD.of_below HB1.out).trans hV2
   refine ⟨?_, (((hG.out V hV3).1.it t (List.mem_of_getElem? HTK.out)).2)⟩
   have hne : ∀ j, OwnR A j → j < W.heap.size := fun j hj => (own_ty hO.out hj).2.1
   refine ⟨?_, HRU.out.it, HRU.out.ln⟩
   have h := HRU.out.sl
   refine ⟨h.1, fun hn => ?_⟩
   obtain ⟨b, o, e, hc⟩ := h.2 hn
   refine ⟨b, o, e, fun j u hu => ?_⟩
   have h2 := hc j u hu
   injection e with e; injection e with e1 e2; subst e1
   exact (World.cell?_of_block (w := ws) (a := ⟨W.heap.size, o + j, none⟩) (hV2.block W.heap.size (lt_of_cell h2) (fun e => by have := hne _ e; omega))).trans h2
  clear hok hz ht htw hAW
  obtain ⟨w1', hw1'⟩ : ∃ z, wr.alloc (.cells #[.int .i64 t.b, .int .i64 t.d, .int .i64 t.t, .int .i64 t.u, .int .i64 t.s, .slice t.pa t.ps.length t.pc] 68) = z := ⟨_, rfl⟩
  have hbx : Below wr.heap.size wr w1' := by rw [← hw1']; exact (Below.refl _ _).alloc (Nat.le_refl _) _
  have HBX := Lh hbx
  have hxx : w1'.heap[wr.heap.size]? = some (.cells #[.int .i64 t.b, .int .i64 t.d, .int .i64 t.t, .int .i64 t.u, .int .i64 t.s, .slice t.pa t.ps.length t.pc] 68 (0, 0)) := by rw [← hw1']; exact heap_alloc_new wr _
  obtain ⟨y0, y1, y2, y3, y4, y5⟩ := six6 hxx
  have HKV : Hid (St w1' w1' (fun V => RunesAt (some ⟨W.heap.size, 0, none⟩) wl V ∧ PartsAt t.pa t.ps V)) := Lh ⟨fun V hV => HRW.out V ((BelD.of_below hbx).trans (BelD.of_below hV)), Below.refl _ _⟩
  have HNT : Hid (NumsOk ⟨t.b, t.d, t.t, t.u, t.s, t.ps⟩) := Lh (hn.out t (List.mem_of_getElem? HTK.out))
  clear hbx hxx
  go_wp2_with fail
  (try rw [hw1'])
  refine (tVal_st HKV (fun _ h => h.2) t.b t.d t.t t.u t.s t.pc (fun _ h => h.1) wl.length HNT ok HOK z HZ).mono ?_
  rintro e w2 ⟨rfl, HK2⟩
  have HBY : Hid (BelD (OwnR A2) wr w2) := Lh ((BelD.of_below HBX.out).trans (BelD.of_below HK2.out.2))
  have HO3 : Hid (w2.ownsRow base 5 1 (.slice A2 l2.length c2) l2.length (l2.map (Value.int .u8))) := Lh (own_keep HO2.out fun j hj => (HK2.out.2.block j (Nat.lt_of_lt_of_le (own_ty HO2.out hj).2.1 HBX.out.size)).trans (HBX.out.block j (own_ty HO2.out hj).2.1))
  have hs2 : wr.heap.size ≤ w2.heap.size := HBY.out.size
  have HS2 := Lh hs2
  clear hw1' hs2 d0 d1 d2 d3 d4 d5 y0 y1 y2 y3 y4 y5
  rcases ok with _ | _
  ·have HNX : Hid (l2 = l ++ wrB ((ol.take (k + 1)).map TermI.L) wl) := Lh (by
    rw [HL2.out, take_snoc? HTK.out, List.map_append, List.map_singleton, wrB_snoc, if_neg (by rw [HOK.out]; exact Bool.false_ne_true), List.append_nil])
   have HB3 : Hid (BelD (OwnR A) ws w2) := Lh (HB2.out.trans ⟨HBY.out.os, HBY.out.tape, HBY.out.output, HBY.out.size, fun j hj _ => (HK2.out.2.block j (Nat.lt_of_lt_of_le hj HBX.out.size)).trans (HBX.out.block j hj)⟩)
   go_wp2_with fail
   exact ⟨⟨k + 1, A2, c2, l2, by omega, by go_num, rfl, HNX, HO3, HB3, HN2⟩, by simp [intOf]; omega⟩
  ·obtain ⟨i0, hi, hz0, hz1, hz2⟩ := info_parts infoByteD
   have hvz : IntKind.u8.wrap z = z % 256 := rfl
   have hzv : valN t.L wl = z := by have := HZ.out; simpa using this
   have hl40 : l2.length < 1099511627776 := by omega
   have hb2 : base ≤ w2.heap.size := by have := HB2.out.size; have := HS2.out; omega
   have HZV := Lh hzv
   clear hzv
   go_wp2_with (at_builtin; go_must (refine wpList_pushG rfl _ _ 79 rfl base 5 i0 _ 1 1 Tryz.underlying79 hi hz0 hz1 hz2 rfl (by decide) HO3.out rfl [.int .u8 (z % 256)] 5 rfl rfl (by simp [Value.oneCell']) hl40 (by decide) hb2 ?_); intro A4 c4 w4 HO4 HG4 HN4)
   have hlen : (l2 ++ [z % 256]).length = l2.length + 1 := by simp
   have HNX : Hid (l2 ++ [z % 256] = l ++ wrB ((ol.take (k + 1)).map TermI.L) wl) := Lh (by
    rw [HL2.out, take_snoc? HTK.out, List.map_append, List.map_singleton, wrB_snoc, if_pos HOK.out, HZV.out, List.append_assoc])
   have HO5 : Hid (w4.ownsRow base 5 1 (.slice A4 (l2 ++ [z % 256]).length c4) (l2 ++ [z % 256]).length ((l2 ++ [z % 256]).map (Value.int .u8))) := Lh (by
    rw [hlen, List.map_append]; exact HO4.out)
   have hsw := HB2.out.size
   have hs3 := HS2.out
   have HB5 : Hid (BelD (OwnR A) ws w4) := Lh ((HB2.out.trans ⟨HBY.out.os, HBY.out.tape, HBY.out.output, HBY.out.size, fun j hj _ => (HK2.out.2.block j (Nat.lt_of_lt_of_le hj HBX.out.size)).trans (HBX.out.block j hj)⟩ |>.trans (BelD.of_below ((Below.refl w2.heap.size w2).alloc (Nat.le_refl _) _))).grown HG4.out (fun j hj => HAW.out j hj))
   have HN5 : Hid (Newer (ownA A) (ownA A4) ws.heap.size) := Lh (HN2.out.trans HN4.out (by omega))
   clear hlen
   exact ⟨⟨k + 1, A4, c4, l2 ++ [z % 256], by omega, by go_num, by simp, HNX, HO5, HB5, HN5⟩, by simp [intOf]; omega⟩
 ·obtain rfl : k = ol.length := by omega
  have hd : decide (ol.length < ol.length) = false := by simp
  have HE : Hid (l2 = l ++ wrB (OutI.L ⟨oa, oc, ol⟩) wl) := Lh (by
   have h1 := HL2.out
   rw [List.take_length] at h1
   exact h1)
  have HNF : Hid (Newer (ownA A) (ownA A2) W.heap.size) := Lh (by
   rcases HN2.out with e | ⟨g, e, hg⟩
   ·exact .inl e
   ·exact .inr ⟨g, e, by omega⟩)
  go_wp2_with fail
  go_ret
  exact ⟨A2, c2, (by rw [← HE.out]; rfl), by rw [← HE.out]; exact HO2, HBB, HNF⟩
end
theorem GrowNilB_any (n : Nat) (hn : n < 1099511627776) (w : World) :
  Calls Tryz.prog 148 #[.slice none 0 0, .int .i64 n] w fun e w' => ∃ v, e = .returned v ∧ w'.ownsRow w.heap.size 5 1 v 0 [] ∧ Below w.heap.size w w' := by
 obtain ⟨i0, hi, hz0, hz1, hz2⟩ := info_parts infoByteD
 by_cases h0 : n = 0
 ·subst h0
  refine Calls.mono (Any8.slices_Grow_room Tryz.growByte none 0 0 0 w (by omega) (by omega) (by omega) (by omega)) ?_
  rintro e w' ⟨rfl, rfl⟩
  exact ⟨_, rfl, World.ownsRow_nil _ _ _ _, Below.refl _ _⟩
 ·refine Calls.mono (Any8.slices_Grow_grow Tryz.growByte i0 _ hi hz0 (by rw [hz1]; decide) none 0 0 n [] w (by omega) (by omega) (by rw [hz2]; omega) (by omega) (by simp) (fun _ => rfl) (fun a h => by cases h)) ?_
  rintro e w' ⟨rfl, rfl⟩
  have hcap := grownCap_le_maxLen w (0 + n) 0 5 (by unfold maxLen; omega)
  have hcg := grownCap_ge w (0 + n) 0 5
  refine ⟨_, rfl, ⟨by simp, .inr ⟨w.heap.size, _, _, rfl, Nat.le_refl _, heap_alloc_new _ _, by omega, hcap, ?_, by simp⟩⟩, ?_⟩
  ·have e2 : (Value.int IntKind.u8 0).cells.size = 1 := rfl
   have hcg2 : 0 + n ≤ grownCap w (0 + n) 0 (Tryz.growByte_ren.t 25) := hcg
   simp only [Array.size_append, size_zeroCells, e2]
   simp only [List.size_toArray, List.length_nil]
   omega
  ·exact (below_drewN (Below.refl _ _) 1).alloc (Nat.le_refl _) _
theorem bytes_one (l : List Int) : ∀ u ∈ l.map (Value.int .u8), u.oneCell' = true := fun u hu => by obtain ⟨x, _, rfl⟩ := List.mem_map.1 hu; rfl
theorem ConcatB_any (b : Nat) (A B : Option Addr) (n c m d : Nat) (x y : List Int) (w : World) (h : Sl w 1 A n (x.map (Value.int .u8))) (h' : Sl w 1 B m (y.map (Value.int .u8))) (hn : n < 274877906944) (hm : m < 274877906944)
  (hc0 : w.cell? ⟨b, 0, none⟩ = some (.slice A n c)) (hc1 : w.cell? ⟨b, 1, none⟩ = some (.slice B m d)) :
  Calls Tryz.prog 103 #[.slice (some ⟨b, 0, none⟩) 2 2] w fun e w' => ∃ v, e = .returned v ∧ w'.ownsRow w.heap.size 5 1 v (n + m) ((x ++ y).map (Value.int .u8)) ∧ Below w.heap.size w w' := by
 obtain ⟨i0, hi, hz0, hz1, hz2⟩ := info_parts infoByteD
 have HX := Lh h
 have HY := Lh h'
 clear h h'
 go_enter Tryz.func103, Tryz.ntmps103
 go_wp2_with fail
 go_loop [3, 11] (fun s j => (j = .int .i64 ((0 : Nat) : Int) ∧ s = .int .i64 ((0 : Nat) : Int)) ∨ (j = .int .i64 ((1 : Nat) : Int) ∧ s = .int .i64 (n : Int)) ∨ (j = .int .i64 ((2 : Nat) : Int) ∧ s = .int .i64 ((n + m : Nat) : Int))) (fun _ j => 2 - (intOf j).toNat)
 case atStart => exact .inl ⟨rfl, rfl⟩
 case round =>
 rcases hrel with ⟨rfl, rfl⟩ | ⟨rfl, rfl⟩ | ⟨rfl, rfl⟩
 ·go_wp2_with fail
  go_round
  case rel => exact .inr (.inl ⟨rfl, by go_num⟩)
  case measure => simp [intOf]
 ·go_wp2_with fail
  go_round
  case rel => exact .inr (.inr ⟨rfl, by go_num⟩)
  case measure => simp [intOf]
 ·have HG := Lh (GrowNilB_any (n + m) (by omega) w)
  go_wp2_with fail
  refine HG.out.mono ?_
  rintro e w1 ⟨v, rfl, hown, hbel⟩
  have HO := Lh hown
  have HB := Lh hbel
  clear hown hbel
  go_wp2_with fail
  have hlen := Lh (show ((x ++ y).map (Value.int .u8)).length = (n + m) * 1 by rw [List.map_append, List.length_append, HX.out.1, HY.out.1]; omega)
  go_loopw [6, 27] (fun v j wr => (j = .int .i64 ((0 : Nat) : Int) ∧ wr.ownsRow w.heap.size 5 1 v 0 [] ∧ Below w.heap.size w wr) ∨ (j = .int .i64 ((1 : Nat) : Int) ∧ wr.ownsRow w.heap.size 5 1 v n (x.map (Value.int .u8)) ∧ Below w.heap.size w wr) ∨ (j = .int .i64 ((2 : Nat) : Int) ∧ wr.ownsRow w.heap.size 5 1 v (n + m) ((x ++ y).map (Value.int .u8)) ∧ Below w.heap.size w wr)) (fun _ j _ => 2 - (intOf j).toNat)
  case atStart => exact .inl ⟨rfl, HO.out, HB.out⟩
  case round =>
  rcases hrel with ⟨rfl, ho, hb⟩ | ⟨rfl, ho, hb⟩ | ⟨rfl, ho, hb⟩
  ·have hd0 := (hb.cell (lt_of_cell hc0)).trans hc0
   have HO2 := Lh ho
   have HB2 := Lh hb
   have HSX := Lh (Sl.below (B := w.heap.size) HX.out hb)
   obtain ⟨av, cv, hv⟩ := own_shape HO2.out
   subst hv
   clear ho hb
   go_wp2_with (at_builtin; go_must (refine wpList_append_sl _ rfl _ _ 79 rfl w.heap.size 5 i0 _ 1 1 Tryz.underlying79 hi hz0 hz1 hz2 rfl (by decide) HO2.out rfl HSX.out rfl (bytes_one x) (by unfold maxLen; omega) (by omega) HB2.out.size ?_); intro v' w2 hown2 hg2)
   go_roundw
   case rel => exact .inr (.inl ⟨rfl, by simpa using hown2, HB2.out.grown hg2 HB2.out.size (fun k hk => (HO2.out.lt k hk).1)⟩)
   case measure => simp [intOf]
  ·have hd1 := (hb.cell (lt_of_cell hc1)).trans hc1
   have HO2 := Lh ho
   have HB2 := Lh hb
   have HSY := Lh (Sl.below (B := w.heap.size) HY.out hb)
   obtain ⟨av, cv, hv⟩ := own_shape HO2.out
   subst hv
   clear ho hb
   go_wp2_with (at_builtin; go_must (refine wpList_append_sl _ rfl _ _ 79 rfl w.heap.size 5 i0 _ 1 1 Tryz.underlying79 hi hz0 hz1 hz2 rfl (by decide) HO2.out rfl HSY.out rfl (bytes_one y) (by unfold maxLen; omega) (by omega) HB2.out.size ?_); intro v' w2 hown2 hg2)
   go_roundw
   case rel => exact .inr (.inr ⟨rfl, by rw [List.map_append]; exact hown2, HB2.out.grown hg2 HB2.out.size (fun k hk => (HO2.out.lt k hk).1)⟩)
   case measure => simp [intOf]
  ·have HO2 := Lh ho
   have HB2 := Lh hb
   obtain ⟨av, cv, hv⟩ := own_shape HO2.out
   subst hv
   clear ho hb
   go_wp2_with fail
   go_ret
   exact ⟨_, rfl, HO2.out, HB2.out⟩
section
open Go.Shelf
structure DrvK (D : Nat → Prop) (db : Nat) (cs : Array Value) (T : TabI) (s : DrvS) (ha : Option Addr) (hc : Nat) (W : World) : Prop where
 box : DrvB db cs s.1.node ha hc s.1.held (stI s) W
 tc : TabC cs T
 ok : TabOk T.L
 sok : Drv.Ok (heldL T.L) T.L.nodes.length s.1
 dep : ∀ V, BelD D W V → TabW T V ∧ BytesAt ha s.1.held V
 mem : D db
 lt : ∀ k, D k → k < W.heap.size
theorem drv_len {T : TabL} (h : TabOk T) {s : Drv.S} (hs : Drv.Ok (heldL T) T.nodes.length s) : s.held.length ≤ 4 := drv_held h hs
def slLen : Value → Nat
 | .slice _ n _ => n
 | _ => 0
def leftM (db : Nat) (tv : Value) (W : World) : Nat := (slLen ((W.cell? ⟨db, 260, none⟩).getD undef) + slLen tv) * 16 + slLen tv
theorem BytesAt.tail {b off : Nat} {l : List Int} {W : World} (h : BytesAt (some ⟨b, off, none⟩) l W) (k : Nat) : BytesAt (some ⟨b, off + k, none⟩) (l.drop k) W := by
 refine ⟨⟨by rw [← List.map_eq_flatMap, List.length_map, Nat.mul_one], fun hn => ⟨b, off + k, rfl, fun j u hu => ?_⟩⟩, fun x hx => h.it x (List.mem_of_mem_drop hx), by rw [List.length_drop]; have := h.ln; omega⟩
 have hl : k < l.length := by rw [List.length_drop] at hn; omega
 obtain ⟨b', off', e, hc⟩ := h.sl.2 (by omega)
 injection e with e; injection e with e1 e2; subst e1 e2
 have h1 := hc (k + j) u (by
  rw [← List.map_eq_flatMap] at hu ⊢
  rw [List.getElem?_map, List.getElem?_drop] at hu
  rw [List.getElem?_map]; exact hu)
 rw [Nat.add_assoc]; exact h1
theorem BytesAt.nil_ (A : Option Addr) (W : World) : BytesAt A [] W := ⟨⟨rfl, fun h => absurd h (by simp)⟩, fun x hx => (by cases hx), by simp⟩
theorem bytes_own {W : World} {m c : Nat} {A : Option Addr} {l : List Int} (h : W.ownsRow m 5 1 (.slice A l.length c) l.length (l.map (Value.int .u8))) (hu : U8s l) (hl : l.length ≤ 9223372036854775807) : ∀ V : World, (∀ k, ownA A = some k → V.heap[k]? = W.heap[k]?) → BytesAt A l V := fun V hV => by
 have h2 := own_keep h hV
 refine ⟨?_, hu, hl⟩
 rw [← List.map_eq_flatMap]
 exact Sl.of_own h2
def RetWr (D : Nat → Prop) (db : Nat) (cs : Array Value) (T : TabI) (s : DrvS) (bl : List Int) (W : World) (e : Ending) (W' : World) : Prop :=
 ∃ A c ha' hc', e = .returned (.tuple #[.slice A (wrS T.L s bl).2.1.length c, .int .i64 (wrS T.L s bl).2.2]) ∧ Hid (DrvK D db cs T (wrS T.L s bl).1 ha' hc' W') ∧ Hid (BelD (fun k => k = db) W W') ∧ Hid (∀ V, BelD D W' V → BytesAt A (wrS T.L s bl).2.1 V) ∧ Hid (W'.ownsRow W.heap.size 5 1 (.slice A (wrS T.L s bl).2.1.length c) (wrS T.L s bl).2.1.length ((wrS T.L s bl).2.1.map (Value.int .u8))) ∧ Hid ((wrS T.L s bl).2.1.length ≤ 262400)
def Dx (D : Nat → Prop) (A : Option Addr) (k : Nat) : Prop := D k ∨ ownA A = some k
theorem BelD.out {D : Nat → Prop} {A A' : Option Addr} {w w' V : World} (hb : BelD (OwnR A) w w') (hn : Newer (ownA A) (ownA A') w.heap.size) (hV : BelD (Dx D A') w' V) : BelD (Dx D A) w V :=
 ⟨hV.os.trans hb.os, hV.tape.trans hb.tape, hV.output.trans hb.output, Nat.le_trans hb.size hV.size, fun k hk hx => (hV.block k (Nat.lt_of_lt_of_le hk hb.size) (fun e => by
  rcases e with e | e
  ·exact hx (.inl e)
  ·rcases hn with e2 | ⟨g, e2, hg⟩
   ·rw [e2] at e; exact hx (.inr e)
   ·rw [e2] at e; injection e with e; omega)).trans (hb.block k hk fun e => hx (.inr e))⟩
structure WrI (D : Nat → Prop) (db : Nat) (cs : Array Value) (T : TabI) (W : World) (sc : Drv.S) (ha : Option Addr) (hc : Nat) (A : Option Addr) (c : Nat) (o : List Int) (B : Option Addr) (r : List Int) (wr : World) : Prop where
 drv : DrvK (Dx D A) db cs T (sc, false) ha hc wr
 row : wr.ownsRow W.heap.size 5 1 (.slice A o.length c) o.length (o.map (Value.int .u8))
 todo : ∀ V, BelD (Dx D A) wr V → BytesAt B r V
 bel : BelD (fun k => k = db) W wr
 rej : sc.rej = false
 u8 : U8s o
theorem DrvK.step {D : Nat → Prop} {db : Nat} {cs : Array Value} {T : TabI} {s : DrvS} {ha : Option Addr} {hc : Nat} {W W' : World} (h : DrvK D db cs T s ha hc W) (hb : BelD D W W') (hx : W'.heap[db]? = W.heap[db]?) : DrvK D db cs T s ha hc W' :=
 ⟨h.box.keep hx, h.tc, h.ok, h.sok, fun V hV => h.dep V (hb.trans hV), h.mem, fun k hk => Nat.lt_of_lt_of_le (h.lt k hk) hb.size⟩
theorem BelD.drewN {D : Nat → Prop} (W : World) (q : Nat) : BelD D W (W.drewN q) := ⟨rfl, rfl, rfl, Nat.le_refl _, fun _ _ _ => rfl⟩
theorem leftM_eq {db : Nat} {cs : Array Value} {node st : Int} {ha : Option Addr} {hc : Nat} {h : List Int} {W : World} (b : DrvB db cs node ha hc h st W) (hs : cs.size = 259) (B : Option Addr) (n c : Nat) : leftM db (.slice B n c) W = (h.length + n) * 16 + n := by
 unfold leftM
 rw [b.cHeld hs]; rfl
section
variable {D : Nat → Prop} {db : Nat} {cs : Array Value} {T : TabI} {W : World} {sc : Drv.S} {ha : Option Addr} {hc : Nat} {A : Option Addr} {c : Nat} {o : List Int} {B : Option Addr} {r : List Int} {wr wr' : World}
theorem WrI.below (h : WrI D db cs T W sc ha hc A c o B r wr) (hb : Below wr.heap.size wr wr') : WrI D db cs T W sc ha hc A c o B r wr' :=
 ⟨h.drv.step (BelD.of_below hb) (hb.block _ h.drv.box.lt), own_keep h.row fun j hj => hb.block j (own_ty h.row hj).2.1, fun V hV => h.todo V ((BelD.of_below hb).trans hV), h.bel.trans (BelD.of_below hb), h.rej, h.u8⟩
theorem WrI.old (h : WrI D db cs T W sc ha hc A c o B r wr) {k : Nat} (hk : wr.heap.size ≤ k) : ¬ Dx D A k := fun e => by
 have := h.drv.lt k e; omega
section
variable {w4 w5 : World} {A' : Option Addr} {c' : Nat} {o' : List Int} {sc' : Drv.S} {ha' : Option Addr} {hc' : Nat} {B' : Option Addr} {r' : List Int}
theorem WrI.back (h : WrI D db cs T W sc ha hc A c o B r wr) (hD : D db) (hb : BelD (OwnR A) wr w4) (hn : Newer (ownA A) (ownA A') wr.heap.size) (hb5 : BelD (fun k => k = db) w4 w5) {V : World} (hV : BelD (Dx D A') w5 V) : BelD (Dx D A) wr V :=
 hb.out hn ((hb5.mono fun k (e : k = db) => .inl (e ▸ hD)).trans hV)
theorem WrI.next (h : WrI D db cs T W sc ha hc A c o B r wr) (hD : D db) (hlt : ∀ k, D k → k < W.heap.size) (hb : BelD (OwnR A) wr w4)
  (hrow : w4.ownsRow W.heap.size 5 1 (.slice A' o'.length c') o'.length (o'.map (Value.int .u8))) (hn : Newer (ownA A) (ownA A') wr.heap.size)
  (hb5 : BelD (fun k => k = db) w4 w5) (hbox : DrvB db cs sc'.node ha' hc' sc'.held 0 w5)
  (hby : ∀ V, BelD (Dx D A') w5 V → BytesAt ha' sc'.held V) (htodo : ∀ V, BelD (Dx D A') w5 V → BytesAt B' r' V) (hok : Drv.Ok (heldL T.L) T.L.nodes.length sc') (hr : sc'.rej = false) (hu : U8s o') :
  WrI D db cs T W sc' ha' hc' A' c' o' B' r' w5 := by
 have s1 := h.bel.size
 have s2 := hb.size
 have s3 := hb5.size
 refine ⟨⟨?_, h.drv.tc, h.drv.ok, hok, fun V hV => ⟨(h.drv.dep V (h.back hD hb hn hb5 hV)).1, hby V hV⟩, .inl hD, fun k hk => ?_⟩, own_keep hrow fun j hj => hb5.block j (own_ty hrow hj).2.1 (fun e => ?_), htodo, ?_, hr, hu⟩
 ·have e : stI (sc', false) = 0 := by unfold stI; rw [hr]; rfl
  rw [e]; exact hbox
 ·rcases hk with hk | hk
  ·have := hlt k hk; omega
  ·have := (own_ty hrow hk).2.1; omega
 ·have h1 := (own_ty hrow hj).1
  have h2 := hlt db hD
  have h3 : j = db := e
  omega
 ·refine ⟨hb5.os.trans (hb.os.trans h.bel.os), hb5.tape.trans (hb.tape.trans h.bel.tape), hb5.output.trans (hb.output.trans h.bel.output), by omega, fun k hk hx => (hb5.block k (by omega) hx).trans ((hb.block k (by omega) fun e => ?_).trans (h.bel.block k hk hx))⟩
  have := (own_ty h.row e).1
  omega
end
end
section
variable {D : Nat → Prop} {db : Nat} {cs : Array Value} {T : TabI} {s : DrvS} {ha : Option Addr} {hc : Nat} {W : World}
theorem Write_st (hK : Hid (DrvK D db cs T s ha hc W)) {B : Option Addr} {bl : List Int} (bc : Nat) (hB : Hid (∀ V, BelD D W V → BytesAt B bl V)) (hbl : bl.length ≤ 4096) :
  Calls Tryz.prog 42 #[.pointer (some ⟨db, 0, none⟩), .slice B bl.length bc] W (RetWr D db cs T s bl W) := by
 have hs := hK.out.tc.size
 by_cases he : errI s ≠ 0
 ·have HW : Hid (wrS T.L s bl = (s, [], errI s)) := Lh (by unfold wrS; rw [if_pos he])
  have hne : (errI s != 0) = true := by rw [bne_iff_ne]; exact he
  go_enter Tryz.func42, Tryz.ntmps42
  go_wp2_with fail
  refine (fault_st hK.out.box hs).mono ?_
  rintro e w1 ⟨rfl, rfl⟩
  clear he
  go_wp2_with fail
  go_ret2
  refine ⟨none, 0, ha, hc, by rw [HW.out]; rfl, by rw [HW.out]; exact hK, Lh (BelD.refl _ _), Lh fun V _ => ?_, Lh ?_, Lh (by rw [HW.out]; exact Nat.zero_le _)⟩
  ·rw [HW.out]
   exact BytesAt.nil_ _ _
  ·rw [HW.out]
   exact World.ownsRow_nil _ _ _ _
 have he0 : errI s = 0 := Classical.not_not.1 he
 obtain ⟨hrj, hcl⟩ : s.1.rej = false ∧ s.2 = false := by
  unfold errI at he0
  rcases h1 : s.1.rej with _ | _
  ·rcases h2 : s.2 with _ | _
   ·exact ⟨rfl, rfl⟩
   ·rw [h1, h2] at he0; simp at he0
  ·rw [h1] at he0; simp at he0
 obtain ⟨s0, sc0⟩ := s
 simp only at hrj hcl
 subst hcl
 have HW : Hid (wrS T.L (s0, false) bl = (((Drv.go (drvM T.L) s0 bl).1, false), (Drv.go (drvM T.L) s0 bl).2, if (Drv.go (drvM T.L) s0 bl).1.rej then 7 else 0)) := Lh (by unfold wrS; rw [if_neg (by simpa using he)])
 have HS := Lh hs
 have hne : (errI (s0, false) != 0) = false := by rw [he0]; rfl
 have HI0 : Hid (WrI D db cs T W s0 ha hc none 0 [] none [] W) := Lh ⟨⟨hK.out.box, hK.out.tc, hK.out.ok, hK.out.sok, fun V hV => hK.out.dep V (hV.mono fun k hk => hk.elim id fun e => (by cases e)), .inl hK.out.mem, fun k hk => hk.elim (hK.out.lt k) fun e => (by cases e)⟩, World.ownsRow_nil _ _ _ _, fun V _ => BytesAt.nil_ _ _, BelD.refl _ _, hrj, fun x hx => (by cases hx)⟩
 clear he hrj
 go_enter Tryz.func42, Tryz.ntmps42
 go_wp2_with fail
 refine (fault_st hK.out.box hs).mono ?_
 rintro e w1 ⟨rfl, rfl⟩
 rw [he0]
 clear hne he0 hs
 go_wp2_with fail
 go_loopw [7, 21] (fun ov iv wr => ∃ (k : Nat) (sc : Drv.S) (ha : Option Addr) (hc : Nat) (A : Option Addr) (c : Nat) (o : List Int), k ≤ bl.length ∧ iv = .int .i64 k ∧ ov = .slice A o.length c ∧ o.length + 64 * (sc.held.length + (bl.length - k)) ≤ 262400 ∧ Hid (Drv.go (drvM T.L) s0 bl = ((Drv.go (drvM T.L) sc (bl.drop k)).1, o ++ (Drv.go (drvM T.L) sc (bl.drop k)).2)) ∧ Hid (WrI D db cs T W sc ha hc A c o none [] wr)) (fun _ iv _ => bl.length - (intOf iv).toNat)
 case atStart => exact ⟨0, s0, ha, hc, none, 0, [], Nat.zero_le _, rfl, rfl, by have h5 : s0.held.length ≤ 4 := drv_len HI0.out.drv.ok HI0.out.drv.sok; simp only [List.length_nil]; omega, Lh rfl, HI0⟩
 case round =>
 clear HI0
 obtain ⟨k, sc, ha1, hc1, A1, c1, o1, hk, rfl, rfl, hlm, HG, HI⟩ := hrel
 by_cases hlt : k < bl.length
 case neg =>
  obtain rfl : k = bl.length := by omega
  have hd : decide (bl.length < bl.length) = false := by simp
  have HE : Hid (Drv.go (drvM T.L) s0 bl = (sc, o1)) := Lh (by rw [HG.out, List.drop_length, Drv.go_nil]; simp)
  have hrj := HI.out.rej
  go_wp2_with fail
  go_ret2
  refine ⟨A1, c1, ha1, hc1, ?_, Lh ?_, Lh HI.out.bel, Lh ?_, Lh (by rw [HW.out, HE.out]; exact HI.out.row), Lh (by rw [HW.out, HE.out]; show o1.length ≤ _; omega)⟩
  ·rw [HW.out, HE.out]; simp only [hrj]; rfl
  ·rw [HW.out, HE.out]
   have h := HI.out.drv
   exact ⟨h.box, h.tc, h.ok, h.sok, fun V hV => h.dep V (hV.mono fun k hk => .inl hk), hK.out.mem, fun k hk => Nat.lt_of_lt_of_le (hK.out.lt k hk) HI.out.bel.size⟩
  ·rw [HW.out, HE.out]
   intro V hV
   exact bytes_own HI.out.row (HI.out.u8) (by omega) V fun j hj => hV.block j (own_ty HI.out.row hj).2.1 (fun e => by have := hK.out.lt j e; have := (own_ty HI.out.row hj).1; omega)
 obtain ⟨bb, boff, x, hBa, hx, hx0, hx1, hcx⟩ := (hB.out wr (HI.out.bel.mono (fun k hk => by rw [hk]; exact hK.out.mem))).at_ hlt
 subst hBa
 have HX := Lh hx
 have hli : (k : Int) < (bl.length : Int) := by omega
 have hk0 : (0 : Int) ≤ (k : Int) := by omega
 have HDR : Hid (bl.drop k = x :: bl.drop (k + 1)) := Lh (by
  have h := (List.getElem?_eq_some_iff.1 hx)
  rw [← h.2]; exact List.drop_eq_getElem_cons h.1)
 obtain ⟨rest, hrest⟩ : ∃ z, bl.drop (k + 1) = z := ⟨_, rfl⟩
 rw [HDR.out, hrest] at HG
 have HREST := Lh hrest
 have HXB : Hid (0 ≤ x ∧ x < 256) := Lh ⟨hx0, hx1⟩
 obtain ⟨w1, hw1⟩ : ∃ z, wr.alloc (.cells #[.int .u8 x] 5) = z := ⟨_, rfl⟩
 have HI1 : Hid (WrI D db cs T W sc ha1 hc1 A1 c1 o1 (some ⟨wr.heap.size, 0, none⟩) [x] w1) := Lh (by
  rw [← hw1]
  have hb : Below wr.heap.size wr (wr.alloc (.cells #[.int .u8 x] 5)) := (Below.refl _ _).alloc (Nat.le_refl _) _
  refine ⟨HI.out.drv.step (BelD.of_below hb) (hb.block _ HI.out.drv.box.lt), own_keep HI.out.row fun j hj => hb.block j (own_ty HI.out.row hj).2.1, fun V hV => ?_, HI.out.bel.trans ((BelD.of_below hb)), HI.out.rej, HI.out.u8⟩
  have h1 : (wr.alloc (.cells #[.int .u8 x] 5)).heap[wr.heap.size]? = some (.cells #[.int .u8 x] 5 (0, 0)) := heap_alloc_new wr _
  have h2 : V.heap[wr.heap.size]? = some (.cells #[.int .u8 x] 5 (0, 0)) := (hV.block _ (by simp) (fun e => by
   rcases e with e | e
   ·have := HI.out.drv.lt _ (.inl e); omega
   ·have := (own_ty HI.out.row e).2.1; omega)).trans h1
  refine ⟨⟨rfl, fun _ => ⟨_, _, rfl, fun j u hu => ?_⟩⟩, fun y hy => by rw [List.mem_singleton] at hy; subst hy; exact HXB.out, by simp⟩
  simp only [World.cell?, h2]
  simpa using hu)
 clear hx hrest hx0 hx1
 go_wp2_with fail
 (try rw [hw1])
 clear hcx hw1
 go_loopw [7, 10] (fun ov tv wr => ∃ (sc : Drv.S) (ha : Option Addr) (hc : Nat) (A : Option Addr) (c : Nat) (o : List Int) (B : Option Addr) (tc : Nat) (r : List Int), ov = .slice A o.length c ∧ tv = .slice B r.length tc ∧ (r ≠ [] → r.length ≤ tc) ∧ o.length + 64 * (sc.held.length + (r.length + rest.length)) ≤ 262400 ∧ Hid (Drv.go (drvM T.L) s0 bl = ((Drv.go (drvM T.L) sc (r ++ rest)).1, o ++ (Drv.go (drvM T.L) sc (r ++ rest)).2)) ∧ Hid (sc.held.length + r.length ≤ 5) ∧ Hid (WrI D db cs T W sc ha hc A c o B r wr)) (fun _ tv wr => leftM db tv wr)
 case atStart => exact ⟨sc, ha1, hc1, A1, c1, o1, some ⟨wr.heap.size, 0, none⟩, 1, [x], rfl, rfl, fun _ => Nat.le_refl _, by rw [← HREST.out, List.length_drop, List.length_singleton]; omega, HG, Lh (by have h5 : sc.held.length ≤ 4 := drv_len HI.out.drv.ok HI.out.drv.sok; simp only [List.length_singleton]; omega), HI1⟩
 case round =>
 clear HI HI1 HG
 obtain ⟨wo, hwo⟩ : ∃ z, z = wr := ⟨_, rfl⟩
 subst hwo
 obtain ⟨sc, ha2, hc2, A2, c2, o2, TB, tc, r, rfl, rfl, hrt0, hlm2, HG, HH5, HI⟩ := hrel
 rcases r with _ | ⟨y, r⟩
 ·have HI2 : Hid (WrI D db cs T W sc ha2 hc2 A2 c2 o2 none [] wo) := Lh ⟨HI.out.drv, HI.out.row, fun V _ => BytesAt.nil_ _ _, HI.out.bel, HI.out.rej, HI.out.u8⟩
  have hz : ((([] : List Int).length : Nat) : Int) = 0 := rfl
  go_wp2_with fail
  go_roundw
  case rel => exact ⟨k + 1, sc, ha2, hc2, A2, c2, o2, by omega, by go_num, rfl, by rw [← HREST.out, List.length_drop, List.length_nil] at hlm2; omega, Lh (by rw [HREST.out]; exact HG.out), HI2⟩
  case measure => simp [intOf]; omega
 have hrl : (0 : Int) < (((y :: r).length : Nat) : Int) := by simp
 obtain ⟨tb, toff, rfl, hcy⟩ : ∃ tb toff, TB = some ⟨tb, toff, none⟩ ∧ wo.cell? ⟨tb, toff, none⟩ = some (.int .u8 y) := by
  obtain ⟨b', off', z, e, hx, _, _, hc⟩ := (HI.out.todo wo (BelD.refl _ _)).at_ (j := 0) (by simp)
  injection hx with hx; subst hx
  exact ⟨b', off', e, by rwa [Nat.add_zero] at hc⟩
 have hrt := hrt0 (by simp)
 clear hrt0
 have HLM : Hid (leftM db (.slice (some ⟨tb, toff, none⟩) (y :: r).length tc) wo = (sc.held.length + (r.length + 1)) * 16 + (r.length + 1)) := Lh (leftM_eq HI.out.drv.box HI.out.drv.tc.size _ _ _)
 have hs : cs.size = 259 := HI.out.drv.tc.size
 have hyb := (HI.out.todo wo (BelD.refl _ _)).it y List.mem_cons_self
 obtain ⟨yn, hyn⟩ := Int.eq_ofNat_of_zero_le hyb.1
 have hyl : yn < 256 := by omega
 obtain ⟨cy, hcy2⟩ : ∃ c, T.cls[yn]? = some c := ⟨_, List.getElem?_eq_getElem (by rw [HI.out.drv.tc.ln]; exact hyl)⟩
 have hcb := HI.out.drv.tc.u8 cy (List.mem_of_getElem? hcy2)
 obtain ⟨cn, hcn⟩ := Int.eq_ofNat_of_zero_le hcb.1
 have hnl : sc.node < T.ns.length := by have := HI.out.drv.sok.lt; rwa [nodesL_len] at this
 obtain ⟨nb, noff, n, hnA, hnx, hnw, -, m1, -⟩ := (HI.out.drv.dep wo (BelD.refl _ _)).1.nodes.at_ hnl
 have hLn : T.L.nodes[sc.node]? = some n.L := nodesL_at hnx
 have hcls : clsL T.L y = cn := by
  unfold clsL
  rw [hyn, Int.toNat_natCast]
  show (T.cls.getD yn 0).toNat = cn
  rw [List.getD_eq_getElem?_getD, hcy2, Option.getD_some, hcn, Int.toNat_natCast]
 obtain ⟨hnxt, hnok⟩ := nxtL_ok HI.out.drv.ok hLn y
 rw [hcls] at hnxt
 obtain ⟨nxv, hnxv⟩ : ∃ z, nxtL T.L sc.node y = z := ⟨_, rfl⟩
 rw [hnxv] at hnxt hnok
 have hnxt' : n.nx[cn]? = some nxv := hnxt
 have hcnl := (List.getElem?_eq_some_iff.1 hnxt').1
 obtain ⟨ib, ioff, nx2, hiA, hix, -, hic⟩ := hnw.2.at_ hcnl
 obtain rfl : nx2 = nxv := by rw [hnxt'] at hix; injection hix with h; exact h.symm
 have d256 := HI.out.drv.box.cell (drvC_lo HI.out.drv.tc.c1)
 have d259 := HI.out.drv.box.cNode hs
 have dcl := HI.out.drv.box.cell (drvC_lo (HI.out.drv.tc.cl yn cy hcy2))
 simp only at d259
 rw [hnA] at d256
 rw [hiA] at m1
 subst hcn
 subst hyn
 have HNX := Lh hnxv
 have HNO := Lh hnok
 have HLN := Lh hLn
 have hnode : (sc.node : Int) < (T.ns.length : Int) := by omega
 have hcni : (cn : Int) < (n.nx.length : Int) := by omega
 have hyi : (yn : Int) < 256 := by omega
 have hrt2 : r.length + 1 ≤ tc := hrt
 have hri : ((r.length : Int) + 1) ≤ (tc : Int) := by omega
 clear hyb hcy2 hcb hnA hnx hnw hLn hcls hnxt hnok hnxv hnxt' hiA hix
 go_wp2_with fail
 have HTL : Hid (∀ V, BelD (Dx D A2) wo V → BytesAt (some ⟨tb, toff + 1, none⟩) r V) := Lh fun V hV => by
  have h := (HI.out.todo V hV).tail 1
  exact h
 go_cut [9, 10] (fun v9 v10 wq => v9 = .int .u8 (yn : Int) ∧ ∃ (tb2 toff2 tc2 : Nat), v10 = .slice (some ⟨tb2, toff2, none⟩) r.length tc2 ∧ r.length ≤ tc2 ∧ Hid (∀ V, BelD (Dx D A2) wo V → BytesAt (some ⟨tb2, toff2, none⟩) r V) ∧ Hid (∃ nq, wq = wo.drewN nq))
 case first =>
  go_quiet (fail)
  all_goals (try go_wp2_with fail)
  all_goals (try go_meet)
  all_goals first
   | exact ⟨rfl, tb, toff + 1, tc - 1, rfl, by omega, HTL, Lh ⟨_, rfl⟩⟩
   | exact ⟨rfl, tb, toff, 0, rfl, by omega, Lh fun V hV => (by
      have e : r = [] := List.eq_nil_of_length_eq_zero (by omega)
      rw [e]; exact BytesAt.nil_ _ _), Lh ⟨_, rfl⟩⟩
 case rest =>
 obtain ⟨rfl, tb2, toff2, tc2, rfl, hrt3, HTL2, HWQ⟩ := hcut
 obtain ⟨nq, hwq⟩ := HWQ.out
 have HBQ : Hid (BelD (Dx D A2) wo wc ∧ wc.heap = wo.heap) := Lh (by rw [hwq]; exact ⟨BelD.drewN _ _, rfl⟩)
 have HIc : Hid (WrI D db cs T W sc ha2 hc2 A2 c2 o2 (some ⟨tb2, toff2, none⟩) r wc) := Lh (by
  have hb := HBQ.out.1
  exact ⟨HI.out.drv.step hb (by rw [HBQ.out.2]), own_keep HI.out.row fun k _ => by rw [HBQ.out.2], fun V hV => HTL2.out V (hb.trans hV), HI.out.bel.trans (by rw [hwq]; exact BelD.drewN _ _), HI.out.rej, HI.out.u8⟩)
 have e256 : wc.cell? ⟨db, 256, none⟩ = some (.slice (some ⟨nb, noff, none⟩) T.ns.length T.nc) := by rw [hwq]; exact d256
 have e259 : wc.cell? ⟨db, 259, none⟩ = some (.int .i64 sc.node) := by rw [hwq]; exact d259
 have ecl : wc.cell? ⟨db, yn, none⟩ = some (.int .u8 cn) := by rw [hwq]; exact dcl
 have em1 : wc.cell? ⟨nb, noff + sc.node * 3 + 1, none⟩ = some (.slice (some ⟨ib, ioff, none⟩) n.nx.length n.nc) := by rw [hwq]; exact m1
 have eic : wc.cell? ⟨ib, ioff + cn, none⟩ = some (.int .i64 nx2) := by rw [hwq]; exact hic
 clear d256 d259 dcl m1 hic hcy HWQ hwq HI HTL HTL2 HBQ
 obtain ⟨wx, hwx⟩ : ∃ z, z = wc := ⟨_, rfl⟩
 subst hwx
 have hh4 : sc.held.length ≤ 4 := drv_len HIc.out.drv.ok HIc.out.drv.sok
 have e260 : wx.cell? ⟨db, 260, none⟩ = some (.slice ha2 sc.held.length hc2) := HIc.out.drv.box.cHeld hs
 have HSL : Hid (Sl wx 1 ha2 sc.held.length (sc.held.map (Value.int .u8))) := Lh (by
  have h := (HIc.out.drv.dep wx (BelD.refl _ _)).2.sl
  rwa [← List.map_eq_flatMap] at h)
 have HU := Lh ((HIc.out.drv.dep wx (BelD.refl _ _)).2.u8)
 clear nq
 go_wp2_with fail
 go_quiet (fail)
 clear e256 e259 ecl em1 eic
 go_upto_region 12 with fail
 obtain ⟨wl, hwl⟩ : ∃ z, sc.held ++ [(yn : Int)] = z := ⟨_, rfl⟩
 have hwn : wl.length = sc.held.length + 1 := by rw [← hwl]; simp
 have HUW : Hid (U8s wl) := Lh fun x hx => by
  rw [← hwl] at hx
  rcases List.mem_append.1 hx with h | h
  ·exact HU.out x h
  ·rw [List.mem_singleton] at h; subst h; omega
 have HWL := Lh hwl
 have HWN := Lh hwn
 clear hwl hwn
 go_cut [12] (fun v wq => ∃ (A4 : Option Addr) (c4 : Nat), v = .slice A4 wl.length c4 ∧ Hid (wq.ownsRow wx.heap.size 5 1 (.slice A4 wl.length c4) wl.length (wl.map (Value.int .u8))) ∧ Hid (Below wx.heap.size wx wq))
 case first =>
  go_wp2_with fail
  refine (CloneByte _ (Sl.drewN HSL.out _) (fun u hu => by obtain ⟨x, _, rfl⟩ := List.mem_map.1 hu; rfl) (by omega) hc2).mono ?_
  rintro e w2 ⟨A3, c3, rfl, HO3, HB3⟩
  obtain ⟨i0, hi, hz0, hz1, hz2⟩ := info_parts infoByteD
  have hsz : wx.heap.size ≤ w2.heap.size := HB3.out.size
  go_wp2_with (at_builtin; go_must (refine wpList_pushG rfl _ _ 79 rfl wx.heap.size 5 i0 _ 1 1 Tryz.underlying79 hi hz0 hz1 hz2 rfl (by decide) HO3.out rfl [.int .u8 (yn : Int)] 5 rfl rfl (by simp [Value.oneCell']) (by omega) (by decide) hsz ?_); intro A4 c4 w4 HO4 HG4 HN4)
  go_meet
  refine ⟨A4, c4, by rw [HWN.out], Lh (by rw [HWN.out, ← HWL.out, List.map_append]; exact HO4.out), Lh ?_⟩
  have hb1 : Below wx.heap.size wx w2 := ⟨HB3.out.os, HB3.out.tape, HB3.out.output, HB3.out.size, HB3.out.block⟩
  exact (hb1.alloc hsz _).grown HG4.out (by simp; omega) fun j hj => (own_ty HO3.out hj).1
 case rest =>
 obtain ⟨A4, c4, rfl, HO4, HB4⟩ := hcut
 obtain ⟨w4, hw4⟩ : ∃ z, z = wc := ⟨_, rfl⟩
 subst hw4
 clear HSL e260
 have HI4 := Lh (HIc.out.below HB4.out)
 have hst : stI (sc, false) = 0 := by unfold stI; rw [HIc.out.rej]; rfl
 have hbox := HIc.out.drv.box.keep (HB4.out.block _ HIc.out.drv.box.lt)
 rw [hst] at hbox
 have HBOX : Hid (DrvB db cs sc.node ha2 hc2 sc.held 0 w4) := Lh hbox
 have HGo : Hid (Drv.go (drvM T.L) s0 bl = ((Drv.go (drvM T.L) (Drv.step (drvM T.L) sc yn).1 ((Drv.step (drvM T.L) sc yn).2.2 ++ (r ++ rest))).1, o2 ++ ((Drv.step (drvM T.L) sc yn).2.1 ++ (Drv.go (drvM T.L) (Drv.step (drvM T.L) sc yn).1 ((Drv.step (drvM T.L) sc yn).2.2 ++ (r ++ rest))).2))) := Lh (by
  rw [HG.out, List.cons_append, Drv.go_cons _ _ HIc.out.rej])
 have HOK := Lh (Drv.Ok.step (drv_right HIc.out.drv.ok) HIc.out.drv.sok (yn : Int))
 have HR4 := Lh (own_keep HIc.out.row fun k hk => HB4.out.block k (own_ty HIc.out.row hk).2.1)
 clear hst hbox HG
 by_cases h0 : 0 ≤ nx2
 ·obtain ⟨nx, rfl⟩ := Int.eq_ofNat_of_zero_le h0
  have HST : Drv.step (drvM T.L) sc yn = (⟨nx, wl, false⟩, [], []) := by
   unfold Drv.step
   rw [show (drvM T.L).nxt sc.node yn = (nx : Int) from HNX.out, if_pos h0, Int.toNat_natCast, HWL.out]
  rw [HST] at HGo HOK
  have f1 := HBOX.out.fz 259
  have c1 := HBOX.out.cNode hs
  have b2 := HBOX.out.setNode hs (nx : Int)
  have c2' := b2.cHeld hs
  have f2 := b2.fz 260
  have HB3 := Lh (b2.setHeld hs A4 c4 wl)
  clear b2
  go_wp2_with fail
  go_roundw
  case rel =>
   have hb5 : BelD (fun k => k = db) w4 (((w4.setCell ⟨db, 259, none⟩ (.int .i64 (nx : Int)))).setCell ⟨db, 260, none⟩ (.slice A4 wl.length c4)) := ((BelD.refl (fun k => k = db) w4).setCell rfl _ _).setCell rfl _ _
   have hx4 : BelD (OwnR A2) wx w4 := BelD.of_below HB4.out
   have hdlt : ∀ k, D k → k < W.heap.size := hK.out.lt
   refine ⟨⟨nx, wl, false⟩, A4, c4, A2, c2, o2, some ⟨tb2, toff2, none⟩, tc2, r, rfl, rfl, fun _ => hrt3, ?_, Lh ?_, Lh ?_, Lh (HIc.out.next hK.out.mem hdlt hx4 HR4.out (Newer.refl _ _) hb5 HB3.out ?_ ?_ HOK.out rfl HIc.out.u8)⟩
   ·show o2.length + 64 * (wl.length + (r.length + rest.length)) ≤ 262400
    rw [List.length_cons] at hlm2; have := HWN.out; omega
   ·rw [HGo.out]; simp
   ·show wl.length + r.length ≤ 5
    have := HH5.out
    rw [List.length_cons] at this; have := HWN.out; omega
   ·intro V hV
    have hs4 : wx.heap.size ≤ w4.heap.size := HB4.out.size
    refine bytes_own HO4.out HUW.out (by have := HWN.out; omega) V fun k hk => ?_
    obtain ⟨q1, q2, -⟩ := own_ty HO4.out hk
    have hne : k ≠ db := fun e => by have := HIc.out.drv.box.lt; omega
    exact (hV.block k (Nat.lt_of_lt_of_le q2 hb5.size) (HIc.out.old q1)).trans (hb5.block k q2 hne)
   ·intro V hV
    exact HIc.out.todo V (HIc.out.back hK.out.mem hx4 (Newer.refl _ _) hb5 hV)
  case measure =>
   rw [HLM.out, leftM_eq HB3.out hs]
   have := HWN.out
   omega
 by_cases h1 : nx2 = -1
 ·subst h1
  have HST : Drv.step (drvM T.L) sc yn = (Drv.rejd, [], []) := by
   unfold Drv.step
   rw [show (drvM T.L).nxt sc.node yn = (-1 : Int) from HNX.out, if_neg (by omega), if_pos rfl]
  rw [HST] at HGo HOK
  have HE : Hid (Drv.go (drvM T.L) s0 bl = (Drv.rejd, o2)) := Lh (by rw [HGo.out, Drv.go_rej _ _ rfl]; simp)
  go_wp2_with fail
  refine (reject_st HBOX.out hs).mono ?_
  rintro e w5 ⟨rfl, HB5, HE5⟩
  go_wp2_with fail
  go_ret2
  have s4 : wx.heap.size ≤ w4.heap.size := HB4.out.size
  have s5 := HE5.out.size
  refine ⟨A2, c2, none, 0, ?_, Lh ?_, Lh ?_, Lh ?_, Lh (by rw [HW.out, HE.out]; exact own_keep HR4.out fun k hk => HE5.out.block k (own_ty HR4.out hk).2.1 (fun e => by have := hK.out.lt db hK.out.mem; have := (own_ty HR4.out hk).1; have e : k = db := e; omega)), Lh (by rw [HW.out, HE.out]; show o2.length ≤ _; omega)⟩
  ·rw [HW.out, HE.out]; rfl
  ·rw [HW.out, HE.out]
   exact ⟨HB5.out, HIc.out.drv.tc, HIc.out.drv.ok, HOK.out, fun V hV => ⟨(HIc.out.drv.dep V (((BelD.of_below HB4.out).trans (HE5.out.mono fun k (e : k = db) => (.inl (e ▸ hK.out.mem) : Dx D A2 k))).trans (hV.mono fun k hk => .inl hk))).1, BytesAt.nil_ _ _⟩, hK.out.mem, fun k hk => by have := hK.out.lt k hk; have := HIc.out.bel.size; omega⟩
  ·exact (HIc.out.bel.trans (BelD.of_below HB4.out)).trans HE5.out
  ·rw [HW.out, HE.out]
   intro V hV
   refine bytes_own HR4.out HIc.out.u8 (by omega) V fun k hk => ?_
   obtain ⟨q1, q2, -⟩ := own_ty HR4.out hk
   have hdb := hK.out.lt db hK.out.mem
   exact (hV.block k (by omega) (fun e => by have := hK.out.lt k e; omega)).trans (HE5.out.block k q2 (by omega))
 have hno := HNO.out
 obtain ⟨hx2, al, hal, hea, hto⟩ : nx2 ≤ -2 ∧ ∃ a, T.L.acts[(-2 - nx2).toNat]? = some a ∧ a.eat ≤ n.L.held + 1 ∧ TermsOk (n.L.held + 1) a.out := by
  rcases hno with h | ⟨_, ⟨h, _⟩ | ⟨h, a, q1, q2, q3⟩⟩
  ·exact absurd h h1
  ·exact absurd h h0
  ·exact ⟨h, a, q1, q2, q3⟩
 obtain ⟨an, han⟩ : ∃ an : Nat, -2 - nx2 = (an : Int) := Int.eq_ofNat_of_zero_le (by omega)
 rw [han, Int.toNat_natCast] at hal
 have hl : an < T.acts.length := by have h := (List.getElem?_eq_some_iff.1 hal).1; rwa [show T.L.acts = T.acts.map ActI.L from rfl, List.length_map] at h
 have htw := (HI4.out.drv.dep w4 (BelD.refl _ _)).1
 obtain ⟨ab, aoff, a, haA, hai, haw, g0, g1, g2⟩ := htw.acts.at_ hl
 have hae : al = a.L := by
  rw [show T.L.acts = T.acts.map ActI.L from rfl, List.getElem?_map, hai] at hal
  injection hal with h; exact h.symm
 subst hae
 have e257 := HBOX.out.cell (drvC_lo HIc.out.drv.tc.c2)
 rw [haA] at e257
 have hal4 : T.acts.length ≤ 4096 := by have h := HIc.out.drv.ok.head.2.1; rwa [show T.L.acts = T.acts.map ActI.L from rfl, List.length_map] at h
 have hani : (an : Int) < (T.acts.length : Int) := by omega
 have HTA := Lh hto
 have HAI := Lh hai
 have HAL := Lh hal
 have HEA := Lh hea
 have hsb : IntKind.i64.wrap (-2 - nx2) = (an : Int) := by rw [han]; simp [IntKind.wrap, IntKind.signed, IntKind.bits]; omega
 clear hno hal htw haA hai haw hea hto
 have hak := HI4.out.drv.ok.acts a.L (List.mem_map.2 ⟨a, List.mem_of_getElem? HAI.out, rfl⟩)
 have hn64 : a.o.l.length ≤ 64 := by have h := hak.2.2.2.2; rwa [show a.L.out = a.o.l.map TermI.L from rfl, List.length_map] at h
 have HAK := Lh hak
 obtain ⟨w5, hw5⟩ : ∃ z, w4.alloc (.cells #[.int .i64 a.e, .int .i64 a.d, .slice a.o.a a.o.l.length a.o.c] 59) = z := ⟨_, rfl⟩
 have hbe : Below w4.heap.size w4 w5 := by rw [← hw5]; exact (Below.refl _ _).alloc (Nat.le_refl _) _
 have hxx : w5.heap[w4.heap.size]? = some (.cells #[.int .i64 a.e, .int .i64 a.d, .slice a.o.a a.o.l.length a.o.c] 59 (0, 0)) := by rw [← hw5]; exact heap_alloc_new w4 _
 have HXX := Lh hxx
 have y2 : w5.cell? ⟨w4.heap.size, 2, none⟩ = some (.slice a.o.a a.o.l.length a.o.c) := by simp [World.cell?, hxx]
 have HBE := Lh hbe
 have hs4 : wx.heap.size ≤ w4.heap.size := HB4.out.size
 have HBX5 : Hid (Below wx.heap.size wx w5) := Lh (HB4.out.trans (hbe.mono hs4))
 have hl5 : w4.heap.size < w5.heap.size := (Array.getElem?_eq_some_iff.1 hxx).1
 have HS5 : Hid (W.heap.size ≤ wx.heap.size ∧ wx.heap.size ≤ w4.heap.size ∧ w4.heap.size < w5.heap.size) := Lh ⟨HIc.out.bel.size, hs4, hl5⟩
 have HO5 : Hid (w5.ownsRow W.heap.size 5 1 (.slice A2 o2.length c2) o2.length (o2.map (Value.int .u8))) := Lh (own_keep HR4.out fun k hk => hbe.block k (own_ty HR4.out hk).2.1)
 have HG5 : Hid (∀ V, BelD (OwnR A2) w5 V → TermsAt a.o.a a.o.l V ∧ BytesAt A4 wl V) := Lh fun V hV => by
  have h1 : BelD (Dx D A2) wx V := (BelD.of_below HBX5.out).trans (hV.mono fun k hk => .inr hk)
  refine ⟨((HIc.out.drv.dep V h1).1.acts.it a (List.mem_of_getElem? HAI.out)).2, bytes_own HO4.out HUW.out (by have := HWN.out; omega) V fun k hk => ?_⟩
  obtain ⟨q1, q2, -⟩ := own_ty HO4.out hk
  exact (hV.block k (by have := HS5.out; omega) (fun e => by have := (own_ty HIc.out.row e).2.1; omega)).trans (HBE.out.block k q2)
 have HHL : Hid (n.L.held = (sc.held.length : Int)) := Lh (by
  have h1 := HIc.out.drv.sok.held
  have h2 := (HIc.out.drv.ok.nodes n.L (List.mem_of_getElem? HLN.out)).1.1
  unfold heldL at h1
  rw [HLN.out] at h1
  simp only at h1
  omega)
 have HNT : Hid (∀ t ∈ a.o.l, NumsOk t.L) := Lh fun t ht => (HTA.out t.L (List.mem_map.2 ⟨t, ht, rfl⟩)).1
 have hwl5 : wl.length ≤ 5 := by have := HWN.out; omega
 obtain ⟨o6, ho6⟩ : ∃ z, o2 ++ wrB a.o.L wl = z := ⟨_, rfl⟩
 have HO6L : Hid (o2 ++ wrB a.o.L wl = o6 ∧ o6.length ≤ o2.length + 64) := Lh ⟨ho6, by
  rw [← ho6, List.length_append]
  have h1 := wrB_len a.o.L wl
  have h2 : a.o.L.length = a.o.l.length := List.length_map _
  omega⟩
 have hcap : wl.length ≤ c4 := by
  rcases HO4.out.2 with ⟨e, e2⟩ | ⟨g, cap, cur, e, _, _, h, _⟩
  ·have := e2; omega
  ·injection e with _ _ e; omega
 clear hak hxx hbe hs4 hl5
 go_wp2_with fail
 (try rw [hw5])
 have hdw := dwrite_st w5 W.heap.size HO5 (by have := HS5.out; omega) a.o c4 HG5 HNT (by omega) (by omega)
 rw [ho6] at hdw
 refine hdw.mono ?_
 clear hdw
 rintro e w6 ⟨A5, c5, rfl, HO6, HB6, HN6⟩
 clear hw5 g0 g1 g2 e257 y2
 have h6 : w6.heap[w4.heap.size]? = some (.cells #[.int .i64 a.e, .int .i64 a.d, .slice a.o.a a.o.l.length a.o.c] 59 (0, 0)) := (HB6.out.block _ HS5.out.2.2 (fun e => by have := (own_ty HIc.out.row e).2.1; have := HS5.out; omega)).trans HXX.out
 have HX6 := Lh h6
 have z0 : w6.cell? ⟨w4.heap.size, 0, none⟩ = some (.int .i64 a.e) := by simp [World.cell?, h6]
 have z1 : w6.cell? ⟨w4.heap.size, 1, none⟩ = some (.int .i64 a.d) := by simp [World.cell?, h6]
 obtain ⟨en, hen⟩ : ∃ en : Nat, a.e = (en : Int) := Int.eq_ofNat_of_zero_le (by have h := HAK.out.1; have : a.L.eat = a.e := rfl; omega)
 have hen1 : 1 ≤ en := by have h := HAK.out.1; have : a.L.eat = a.e := rfl; omega
 have hen2 : en ≤ wl.length := by
  have h := HEA.out
  have : a.L.eat = a.e := rfl
  have := HWN.out
  have := HHL.out
  omega
 clear h6
 clear ho6
 rw [hen] at z0
 obtain ⟨b4, f4, rfl⟩ : ∃ b4 f4, A4 = some ⟨b4, f4, none⟩ := by
  obtain ⟨b, off, _, e, _⟩ := (HG5.out w5 (BelD.refl _ _)).2.at_ (j := 0) (by omega)
  exact ⟨b, off, e⟩
 have heni : (en : Int) ≤ (wl.length : Int) := by omega
 obtain ⟨r7, hr7⟩ : ∃ z, wl.drop en ++ r = z := ⟨_, rfl⟩
 have HR7 : Hid (wl.drop en ++ r = r7 ∧ r7.length = wl.length - en + r.length) := Lh ⟨hr7, by rw [← hr7, List.length_append, List.length_drop]⟩
 have HBW : Hid (∀ V, Below w6.heap.size w6 V → BytesAt (some ⟨b4, f4, none⟩) wl V ∧ BytesAt (some ⟨tb2, toff2, none⟩) r V) := Lh fun V hV =>
  ⟨(HG5.out V (HB6.out.trans (BelD.of_below hV))).2, HIc.out.todo V (((BelD.of_below HBX5.out).trans (HB6.out.mono fun k hk => .inr hk)).trans (BelD.of_below hV))⟩
 have HCC : Hid (∀ (A' : Option Addr) (cc : Nat), (∀ V, Below w6.heap.size w6 V → BytesAt A' (wl.drop en) V) → Calls Tryz.prog 103 #[.slice (some ⟨w6.heap.size, 0, none⟩) 2 2] (w6.alloc (.cells #[.slice A' (wl.length - en) cc, .slice (some ⟨tb2, toff2, none⟩) r.length tc2] 79)) (fun e w' => ∃ A7 c7, e = .returned (.slice A7 r7.length c7) ∧ Hid (w'.ownsRow w6.heap.size 5 1 (.slice A7 r7.length c7) r7.length (r7.map (Value.int .u8))) ∧ Hid (Below w6.heap.size w6 w'))) := Lh fun A' cc hA => by
  obtain ⟨w7, hw7⟩ : ∃ z, w6.alloc (.cells #[.slice A' (wl.length - en) cc, .slice (some ⟨tb2, toff2, none⟩) r.length tc2] 79) = z := ⟨_, rfl⟩
  have hb7 : Below w6.heap.size w6 w7 := by rw [← hw7]; exact (Below.refl _ _).alloc (Nat.le_refl _) _
  have hx7 : w7.heap[w6.heap.size]? = some (.cells #[.slice A' (wl.length - en) cc, .slice (some ⟨tb2, toff2, none⟩) r.length tc2] 79 (0, 0)) := by rw [← hw7]; exact heap_alloc_new w6 _
  have hs7 : w6.heap.size ≤ w7.heap.size := hb7.size
  have s1 := (hA w7 hb7).sl
  have s2 := (HBW.out w7 hb7).2.sl
  rw [← List.map_eq_flatMap, List.length_drop] at s1
  rw [← List.map_eq_flatMap] at s2
  have hrl5 : r.length ≤ 5 := by have h := HH5.out; rw [List.length_cons] at h; omega
  rw [hw7]
  refine (ConcatB_any w6.heap.size A' (some ⟨tb2, toff2, none⟩) (wl.length - en) cc r.length tc2 (wl.drop en) r w7 s1 s2 (by omega) (by omega) (by simp [World.cell?, hx7]) (by simp [World.cell?, hx7])).mono ?_
  rintro e w' ⟨v, rfl, ho, hb⟩
  obtain ⟨A7, c7, rfl⟩ := own_shape ho
  rw [HR7.out.1, ← HR7.out.2] at ho
  exact ⟨A7, c7, by rw [HR7.out.2], Lh (own_mono ho hs7), Lh (hb7.trans (hb.mono hs7))⟩
 have HZ1 := Lh z1
 clear hr7
 go_upto_region 15 with fail
 go_cut [10, 12] (fun v _ wq => ∃ (A7 : Option Addr) (c7 : Nat), v = .slice A7 r7.length c7 ∧ Hid (wq.ownsRow w6.heap.size 5 1 (.slice A7 r7.length c7) r7.length (r7.map (Value.int .u8))) ∧ Hid (Below w6.heap.size w6 wq))
 case first =>
  go_wp2_with fail
  ·refine (HCC.out _ _ fun V hV => ?_).mono ?_
   ·have e : wl.drop en = [] := List.drop_eq_nil_of_le (by omega)
    rw [e]; exact BytesAt.nil_ _ _
   rintro e w8 ⟨A7, c7, rfl, HO8, HB8⟩
   go_wp2_with fail
   go_meet
   exact ⟨A7, c7, rfl, HO8, HB8⟩
  ·refine (HCC.out _ _ fun V hV => (HBW.out V hV).1.tail en).mono ?_
   rintro e w8 ⟨A7, c7, rfl, HO8, HB8⟩
   go_wp2_with fail
   go_meet
   exact ⟨A7, c7, rfl, HO8, HB8⟩
 case rest =>
 obtain ⟨A7, c7, rfl, HO8, HB8⟩ := hcut
 obtain ⟨w8, hw8⟩ : ∃ z, z = wc := ⟨_, rfl⟩
 subst hw8
 obtain ⟨dn, hdn⟩ : ∃ dn : Nat, a.d = (dn : Int) := Int.eq_ofNat_of_zero_le HAK.out.2.2.1
 have hdlt : ∀ k, D k → k < W.heap.size := hK.out.lt
 have hdb := hdlt db hK.out.mem
 have hs5 := HS5.out
 have hs6 : w5.heap.size ≤ w6.heap.size := HB6.out.size
 have hs8 : w6.heap.size ≤ w8.heap.size := HB8.out.size
 have z8 : w8.cell? ⟨w4.heap.size, 1, none⟩ = some (.int .i64 dn) := by
  rw [HB8.out.cell (show w4.heap.size < w6.heap.size by omega), HZ1.out, hdn]
 have HB8X : Hid (DrvB db cs sc.node ha2 hc2 sc.held 0 w8) := Lh (HBOX.out.keep ((HB8.out.block db (by omega)).trans ((HB6.out.block db (by omega) (fun e => by have := (own_ty HIc.out.row e).1; omega)).trans (HBE.out.block db (by omega)))))
 have HST : Drv.step (drvM T.L) sc yn = (⟨dn, [], false⟩, wrB a.o.L wl, wl.drop en) := by
  have e1 : (-2 - nx2).toNat = an := by omega
  have e2 : actL T.L an = a.L := actL_at HAL.out
  have e3 : (drvM T.L).dst an = dn := by show (actL T.L an).dest.toNat = dn; rw [e2]; show a.d.toNat = dn; omega
  have e4 : (drvM T.L).eat an = en := by show (actL T.L an).eat.toNat = en; rw [e2]; show a.e.toNat = en; omega
  have e5 : ∀ w, (drvM T.L).wr an w = wrB a.o.L w := fun w => by show wrB (actL T.L an).out w = _; rw [e2]; rfl
  unfold Drv.step
  rw [show (drvM T.L).nxt sc.node yn = nx2 from HNX.out, if_neg (by omega), if_neg h1, e1, e3, e4, e5, HWL.out, Nat.max_eq_right hen1]
 rw [HST] at HGo HOK
 have f1 := HB8X.out.fz 259
 have p1 := HB8X.out.cNode hs
 have b2 := HB8X.out.setNode hs (dn : Int)
 have p2 := b2.cHeld hs
 have f2 := b2.fz 260
 have HB9 := Lh (b2.setHeld hs none 0 [])
 have HSZ : Hid (w5.heap.size ≤ w6.heap.size ∧ w6.heap.size ≤ w8.heap.size ∧ db < W.heap.size) := Lh ⟨hs6, hs8, hdb⟩
 have HDN := Lh hdn
 clear b2 hs5 hs6 hs8 hdb hdn
 go_wp2_with fail
 go_roundw
 case rel =>
  have hb5 : BelD (fun k => k = db) w8 (((w8.setCell ⟨db, 259, none⟩ (.int .i64 (dn : Int)))).setCell ⟨db, 260, none⟩ (.slice none 0 0)) := ((BelD.refl (fun k => k = db) w8).setCell rfl _ _).setCell rfl _ _
  have hx8 : BelD (OwnR A2) wx w8 := ((BelD.of_below HBX5.out).trans HB6.out).trans (BelD.of_below HB8.out)
  have hn8 : Newer (ownA A2) (ownA A5) wx.heap.size := by
   rcases HN6.out with e | ⟨g, e, hg⟩
   ·exact .inl e
   ·exact .inr ⟨g, e, by have := HS5.out; omega⟩
  refine ⟨⟨dn, [], false⟩, none, 0, A5, c5, o6, A7, c7, r7, rfl, rfl, fun _ => ?_, ?_, Lh ?_, Lh ?_, Lh (HIc.out.next hK.out.mem hdlt hx8 (own_keep HO6.out fun k hk => HB8.out.block k (own_ty HO6.out hk).2.1) hn8 hb5 HB9.out (fun V _ => BytesAt.nil_ _ _) ?_ HOK.out rfl ?_)⟩
  ·rcases HO8.out.2 with ⟨e, e2⟩ | ⟨g, cap, cur, e, _, _, h, _⟩
   ·have := e2; omega
   ·injection e with _ _ e; omega
  ·show o6.length + 64 * (0 + (r7.length + rest.length)) ≤ 262400
   rw [List.length_cons] at hlm2; have := HWN.out; have := HR7.out.2; have := HO6L.out.2; omega
  ·rw [HGo.out, ← HR7.out.1, ← HO6L.out.1]; simp
  ·show 0 + r7.length ≤ 5
   have := HH5.out
   rw [List.length_cons] at this; have := HWN.out; have := HR7.out.2; omega
  ·intro V hV
   have hs := HSZ.out
   have hs' := HS5.out
   refine bytes_own HO8.out (fun x hx => ?_) (by have := HR7.out.2; have := HH5.out; rw [List.length_cons] at this; omega) V fun k hk => ?_
   ·rw [← HR7.out.1] at hx
    rcases List.mem_append.1 hx with h | h
    ·exact HUW.out x (List.mem_of_mem_drop h)
    ·exact (HBW.out w6 (Below.refl _ _)).2.u8 x h
   ·obtain ⟨q1, q2, -⟩ := own_ty HO8.out hk
    have hne : k ≠ db := fun e => by omega
    refine (hV.block k (Nat.lt_of_lt_of_le q2 hb5.size) (fun e => ?_)).trans (hb5.block k q2 hne)
    rcases e with e | e
    ·have := hdlt k e; omega
    ·have := (own_ty HO6.out e).2.1; omega
  ·intro x hx
   rw [← HO6L.out.1] at hx
   rcases List.mem_append.1 hx with h | h
   ·exact HIc.out.u8 x h
   ·exact wrB_u8 _ _ x h
 case measure =>
  rw [HLM.out]
  refine Nat.lt_of_le_of_lt (Nat.le_of_eq (leftM_eq HB9.out hs A7 r7.length c7)) ?_
  have := HWN.out
  have := HR7.out.2
  simp only [List.length_nil]
  omega
end
end
theorem run_loadVar_part {P : Program} (w : World) (g off : Nat) (ty : TypeId) (cs : Array Value) (d : TypeDesc) (hg : ∀ j v, cs[j]? = some v → w.cell? ⟨g, off + j, none⟩ = some v)
  (hu : P.underlying ty = some d) (hd : (match d with | .struct _ | .array _ _ => true | _ => false) = true) (hi : (P.info? ty).map (·.size) = some cs.size) :
  (loadVar ty ⟨g, off, none⟩).run P w = .ok (.agg cs) w := by
 have hl : (loadCells ⟨g, off, none⟩ cs.toList.length).run P w = .ok cs.toList.toArray w :=
  run_loadCells_list (P := P) w ⟨g, off, none⟩ cs.toList (fun j v hv => by
   have hadd : (⟨g, off, none⟩ : Addr).add j = ⟨g, off + j, none⟩ := by unfold Addr.add; split <;> simp_all
   rw [hadd]
   exact hg j v (by simpa using hv))
 cases hq : P.info? ty with
 | none => simp [hq] at hi
 | some i =>
  have hs : i.size = cs.size := by simpa [hq] using hi
  have hagg : (isAgg ty).run P w = .ok true w := by
   unfold isAgg
   rw [Sem.run_bind, run_underlying hu w]
   cases d <;> simp_all
  simp only [Array.length_toList, Array.toArray_toList] at hl
  simp [loadVar, Sem.run_bind, hagg, sizeOf, typeInfo, hq, hs, hl]
theorem exec_load_part {P : Program} {op : Oper} {a : Act} {w : World} (ty : TypeId) (x : Operand) (ho : op.op = .load ty x)
  (g off : Nat) (hx : a.eval x = .pointer (some ⟨g, off, none⟩)) (cs : Array Value) (d : TypeDesc) (hS : ∀ j v, cs[j]? = some v → w.cell? ⟨g, off + j, none⟩ = some v)
  (hu : P.underlying ty = some d) (hd : (match d with | .struct _ | .array _ _ => true | _ => false) = true) (hi : (P.info? ty).map (·.size) = some cs.size) : (execOp a.eval op).run P w = .ok (.value (.agg cs)) w := by
 unfold execOp
 simp only [ho, hx, Instr.loadAt, Instr.sureAddr, Sem.run_bind, Sem.run_pure, Result.andThen_ok, run_loadVar_part w g off ty cs d hS hu hd hi]
theorem wp_load_part {P : Program} {o : Oper} {a : Act} {w : World} {K : Act → World → Prop} {Q : Exit → Act → World → Prop} (ty : TypeId) (x : Operand) (ho : o.op = .load ty x)
  (g off : Nat) (hx : a.eval x = .pointer (some ⟨g, off, none⟩)) (cs : Array Value) (d : TypeDesc) (hS : ∀ j v, cs[j]? = some v → w.cell? ⟨g, off + j, none⟩ = some v)
  (hu : P.underlying ty = some d) (hd : (match d with | .struct _ | .array _ _ => true | _ => false) = true) (hi : (P.info? ty).map (·.size) = some cs.size)
  (h : K (a.put o.dst (.agg cs)) w) : o.wp P a w K Q := by
 unfold Oper.wp execOp
 simp only [ho, hx, Instr.loadAt, Instr.sureAddr, Sem.run_bind, Sem.run_pure, Result.andThen_ok, run_loadVar_part w g off ty cs d hS hu hd hi]
 exact h
theorem wpList_load_part {P : Program} {ops : Array Oper} {rest : List Oper} {o : Oper} {a : Act} {w : World} {Q : Exit → Act → World → Prop} (hgd : o.guard = none) (ty : TypeId) (x : Operand) (ho : o.op = .load ty x)
  (g off : Nat) (hx : a.eval x = .pointer (some ⟨g, off, none⟩)) (cs : Array Value) (d : TypeDesc) (hS : ∀ j v, cs[j]? = some v → w.cell? ⟨g, off + j, none⟩ = some v)
  (hu : P.underlying ty = some d) (hd : (match d with | .struct _ | .array _ _ => true | _ => false) = true) (hi : (P.info? ty).map (·.size) = some cs.size)
  (h : wpList P ops Q rest (a.put o.dst (.agg cs)) w) : wpList P ops Q (o :: rest) a w :=
 wpList_plain hgd fun _ hK => wp_load_part ty x ho g off hx cs d hS hu hd hi (hK _ _ h)
section
def rdC (cs : Array Value) (nd : Int) (ha : Option Addr) (hc : Nat) (h : List Int) (cl rj : Bool) : Array Value := (cs.toList ++ [Value.int .i64 nd, .slice ha h.length hc, .bool cl, .bool rj]).toArray
def RdB (tb : Nat) (A : Array Value) (W : World) : Prop := W.heap[tb]? = some (.cells A 81 (0, 0))
def zeroR : Array Value := (List.replicate 256 (Value.int .u8 0) ++ [Value.slice none 0 0, .slice none 0 0, .slice none 0 0, .int .i64 0, .slice none 0 0, .bool false, .bool false]).toArray
theorem zeroR_size : zeroR.size = 263 := by kernel_rfl
theorem info_refZ : (Tryz.prog.info? 81).map (fun i => i.zero) = some (some (.agg zeroR)) := by kernel_rfl
theorem info_refS : (Tryz.prog.info? 81).map (·.size) = some 263 := by kernel_rfl
section
variable {tb : Nat} {cs : Array Value} {T : TabI} {nd : Int} {ha : Option Addr} {hc : Nat} {h : List Int} {cl rj : Bool} {A : Array Value} {W W' : World}
theorem rdC_size (hs : cs.size = 259) : (rdC cs nd ha hc h cl rj).size = 263 := by simp [rdC, hs]
theorem rdC_hi (hs : cs.size = 259) (j : Nat) : (rdC cs nd ha hc h cl rj)[259 + j]? = [Value.int .i64 nd, .slice ha h.length hc, .bool cl, .bool rj][j]? := by
 have e : cs.toList.length = 259 := by simp [hs]
 unfold rdC
 rw [List.getElem?_toArray, List.getElem?_append_right (by omega), e, Nat.add_sub_cancel_left]
theorem rdC_lo {i : Nat} {v : Value} (hv : cs[i]? = some v) : (rdC cs nd ha hc h cl rj)[i]? = some v := by
 have hi := (Array.getElem?_eq_some_iff.1 hv).1
 unfold rdC
 rw [List.getElem?_toArray, List.getElem?_append_left (by rw [Array.length_toList]; exact hi), Array.getElem?_toList]
 exact hv
theorem rdC_one (hC : TabC cs T) : (rdC cs nd ha hc h cl rj).all (·.oneCell') = true := by
 have h1 := cells_one hC
 rw [Array.all_eq_true'] at h1 ⊢
 intro x hx
 unfold rdC at hx
 rw [List.mem_toArray, List.mem_append] at hx
 rcases hx with hx | hx
 ·exact h1 x (by simpa using hx)
 ·simp at hx
  rcases hx with rfl | rfl | rfl | rfl <;> rfl
theorem RdB.cell (b : RdB tb A W) {i : Nat} {v : Value} (hv : A[i]? = some v) : W.cell? ⟨tb, i, none⟩ = some v := by
 have b' : W.heap[tb]? = _ := b
 simp [World.cell?, b', hv]
theorem RdB.fz (b : RdB tb A W) (i : Nat) : W.frozen? ⟨tb, i, none⟩ = false := by
 have b' : W.heap[tb]? = _ := b
 simp [World.frozen?, b']
theorem RdB.lt (b : RdB tb A W) : tb < W.heap.size := (Array.getElem?_eq_some_iff.1 b).1
theorem RdB.keep (b : RdB tb A W) (hk : W'.heap[tb]? = W.heap[tb]?) : RdB tb A W' := hk.trans b
theorem RdB.cNode (b : RdB tb (rdC cs nd ha hc h cl rj) W) (hs : cs.size = 259) : W.cell? ⟨tb, 259, none⟩ = some (.int .i64 nd) := b.cell (rdC_hi hs 0)
theorem RdB.cHeld (b : RdB tb (rdC cs nd ha hc h cl rj) W) (hs : cs.size = 259) : W.cell? ⟨tb, 260, none⟩ = some (.slice ha h.length hc) := b.cell (rdC_hi hs 1)
theorem RdB.cCl (b : RdB tb (rdC cs nd ha hc h cl rj) W) (hs : cs.size = 259) : W.cell? ⟨tb, 261, none⟩ = some (.bool cl) := b.cell (rdC_hi hs 2)
theorem RdB.cRj (b : RdB tb (rdC cs nd ha hc h cl rj) W) (hs : cs.size = 259) : W.cell? ⟨tb, 262, none⟩ = some (.bool rj) := b.cell (rdC_hi hs 3)
theorem rdC_set (hs : cs.size = 259) (j : Nat) (v : Value) : (rdC cs nd ha hc h cl rj).setIfInBounds (259 + j) v = (cs.toList ++ [Value.int .i64 nd, .slice ha h.length hc, .bool cl, .bool rj].set j v).toArray := by
 have e : cs.toList.length = 259 := by simp [hs]
 unfold rdC
 rw [List.setIfInBounds_toArray, List.set_append_right _ _ (by omega), e, Nat.add_sub_cancel_left]
theorem RdB.setNode (b : RdB tb (rdC cs nd ha hc h cl rj) W) (hs : cs.size = 259) (x : Int) : RdB tb (rdC cs x ha hc h cl rj) (W.setCell ⟨tb, 259, none⟩ (.int .i64 x)) := by
 have h1 := heap_setCell_same W tb 259 _ _ (.int .i64 x) b
 unfold RdB
 rw [h1, show 259 = 259 + 0 from rfl, rdC_set hs]; rfl
theorem RdB.setHeld (b : RdB tb (rdC cs nd ha hc h cl rj) W) (hs : cs.size = 259) (A : Option Addr) (c : Nat) (l : List Int) : RdB tb (rdC cs nd A c l cl rj) (W.setCell ⟨tb, 260, none⟩ (.slice A l.length c)) := by
 have h1 := heap_setCell_same W tb 260 _ _ (.slice A l.length c) b
 unfold RdB
 rw [h1, show 260 = 259 + 1 from rfl, rdC_set hs]; rfl
theorem RdB.setCl (b : RdB tb (rdC cs nd ha hc h cl rj) W) (hs : cs.size = 259) (x : Bool) : RdB tb (rdC cs nd ha hc h x rj) (W.setCell ⟨tb, 261, none⟩ (.bool x)) := by
 have h1 := heap_setCell_same W tb 261 _ _ (.bool x) b
 unfold RdB
 rw [h1, show 261 = 259 + 2 from rfl, rdC_set hs]; rfl
theorem RdB.setRj (b : RdB tb (rdC cs nd ha hc h cl rj) W) (hs : cs.size = 259) (x : Bool) : RdB tb (rdC cs nd ha hc h cl x) (W.setCell ⟨tb, 262, none⟩ (.bool x)) := by
 have h1 := heap_setCell_same W tb 262 _ _ (.bool x) b
 unfold RdB
 rw [h1, show 262 = 259 + 3 from rfl, rdC_set hs]; rfl
theorem RdB.row (b : RdB tb A W) (B : Array Value) : RdB tb B (W.setRow tb B) := setRow_heap _ _ _ _ _ _ b
end
theorem go_held (m : Drv.M) : ∀ (s : Drv.S) (xs : List Int), (Drv.go m s xs).1.held.length ≤ s.held.length + xs.length := by
 intro s xs
 induction s, xs using Drv.go.induct (m := m) with
 | case1 s => rw [Drv.go_nil]; simp
 | case2 s x r hq => rw [Drv.go_rej m s hq]; simp
 | case3 s x r hq ih =>
  rw [Drv.go_cons m s (by simpa using hq)]
  have h := Drv.step_dec m s x r
  simp only [List.length_cons]
  rcases h with h | h <;> omega
theorem most64' {T : TabL} (h : TabOk T) : mostL T ≤ 64 := by
 have hl : ∀ (l : List Nat) (n : Nat), n ≤ 64 → (∀ x ∈ l, x ≤ 64) → l.foldl max n ≤ 64 := by
  intro l
  induction l with
  | nil => intro n hn _; exact hn
  | cons a l ih => intro n hn h; exact ih _ (Nat.max_le.2 ⟨hn, h a List.mem_cons_self⟩) fun x hx => h x (List.mem_cons_of_mem _ hx)
 refine hl _ _ (hl _ _ (Nat.zero_le _) fun x hx => ?_) fun x hx => ?_
 ·obtain ⟨a, ha, rfl⟩ := List.mem_map.1 hx
  exact (h.acts a ha).2.2.2.2
 ·obtain ⟨a, ha, rfl⟩ := List.mem_map.1 hx
  exact h.ends a ha
theorem go_len {T : TabL} (h : TabOk T) {s : Drv.S} (hs : Drv.Ok (heldL T) T.nodes.length s) (b : List Int) : (Drv.go (drvM T) s b).2.length ≤ 64 * (s.held.length + b.length) :=
 Nat.le_trans (Nat.le_of_add_right_le (Drv.bound (drv_right h) s b hs)) (Nat.mul_le_mul_right _ (most64' h))
theorem results_row3 {P : Program} {fn : Func} {p q r : Tmp} {ty : TypeId} (h : fn.results = #[.cell p ty, .tmp q, .tmp r]) (tmps : Array Value) (w : World) (g : Nat) (t : TypeId) (cs : Array Value) (fr : Nat × Nat) (d : TypeDesc) (v u : Value)
  (hp : tmps.getD p undef = .pointer (some ⟨g, 0, none⟩)) (hq : tmps.getD q undef = v) (hr : tmps.getD r undef = u) (hg : w.heap[g]? = some (.cells cs t fr))
  (hu : P.underlying ty = some d) (hd : (match d with | .struct _ | .array _ _ => true | _ => false) = true) (hi : (P.info? ty).map (·.size) = some cs.size) :
  (results fn tmps).run P w = .ok (.tuple #[.agg cs, v, u]) w := by
 have hp' : tmps[p]?.getD undef = .pointer (some ⟨g, 0, none⟩) := by simpa using hp
 have hq' : tmps[q]?.getD undef = v := by simpa using hq
 have hr' : tmps[r]?.getD undef = u := by simpa using hr
 simp [results, h, hp', hq', hr', asAddr, run_loadVar_row w g t ty cs fr d hg hu hd hi]
end
end Go.Proofs.YtlmkokeapbleoaaGreat
