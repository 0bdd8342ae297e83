/- Contract of umlautref04.Value: a term's value of a window, or that it has none. Condition: the term's numbers are right; the parts and the window are known. What box.Boxes' boxes tell of a window, of any term, guards and set; their shape; when they are told. No program in sight. Condition: none. Contract of umlautlaw12.awake: the document's example of chapter 12 comes out as it says. Condition: none. An argument that is a slice of spans, opened to its cells: the list it holds, whose numbers are ints. Condition: none. An argument that is a slice of slices of spans, opened to its cells. Condition: none. Contracts of umlautref04.Symbols and umlautlaw12.great. Condition: the guards are known as they came in. Contract of umlautlaw12.calm. Condition: the guards are known, few and short. Of a calm term's guards the boxes are told; of one part at most there is one box at most. No program in sight. Condition: none. -/
import Derived.Test.YtpmhdjiacgckjaaM18
import Derived.Test.YtpmhdjiacgckjaaM09
import Derived.Test.YtpmhdjiacgckjaaM14
import Derived.Test.YtpmhdjiacgckjaaM21
import Derived.Test.YtpmhdjiacgckjaaM22
import Derived.Test.YtpmhdjiacgckjaaM02
import Derived.Deep.SlicePairs
import Derived.ChangeArms
import Derived.ChangeSame
import Derived.Test.YtpmhdjiacgckjaaM07
import Derived.Deep.Slices
section
namespace Go.Proofs.Ytpmhdjiacgckjaa
open Go.RowKit
set_option linter.unusedVariables false
set_option linter.unusedSimpArgs false
def vP (p : PartL) (x : Int) : Int := vNum p.2.1 p.2.2.1 p.2.2.2 x
def innerTo (t : TermL) (w : List Int) (k : Nat) : Int := t.sum + ((t.parts.take k).map fun p => vP p (w.getD p.1.toNat 0)).sum
def innerT (t : TermL) (w : List Int) : Int := innerTo t w t.parts.length
def WinOk (w : List Int) : Prop := ∀ x ∈ w, 0 ≤ x ∧ x ≤ 1114111
def ValOk (t : TermL) (w : List Int) : Prop := WinOk w ∧ (∀ p ∈ t.parts, PartOk w.length p) ∧ 0 ≤ innerT t w ∧ innerT t w ≤ 1114111 ∧ vOk t.drop t.take t.up (innerT t w) = true
def valN (t : TermL) (w : List Int) : Int := t.base + vNum t.drop t.take t.up (innerT t w)
theorem vNum_bd (d t u x : Int) : 0 ≤ vNum d t u x ∧ vNum d t u x ≤ 67108864 := by
  unfold vNum
  split
  · rename_i h
    unfold vOk at h
    simp only [Bool.and_eq_true] at h
    exact pval_bd h.1.1 x
  · omega
theorem innerTo_next {t : TermL} {w : List Int} {k : Nat} {p : PartL} (h : t.parts[k]? = some p) : innerTo t w (k + 1) = innerTo t w k + vP p (w.getD p.1.toNat 0) := by
  unfold innerTo
  rw [take_snoc? h, List.map_append, List.sum_append]
  simp
  omega
theorem innerTo_bd {t : TermL} (h : SmallN t.sum) (w : List Int) (k : Nat) (hk : k ≤ 4) : -1114111 ≤ innerTo t w k ∧ innerTo t w k ≤ 269549567 := by
  have h2 : ∀ (L : List PartL), 0 ≤ (L.map fun p => vP p (w.getD p.1.toNat 0)).sum ∧ (L.map fun p => vP p (w.getD p.1.toNat 0)).sum ≤ L.length * 67108864 := by
    intro L
    induction L with
    | nil => simp
    | cons p L ih =>
      have := vNum_bd p.2.1 p.2.2.1 p.2.2.2 (w.getD p.1.toNat 0)
      simp only [List.map_cons, List.sum_cons, List.length_cons]
      unfold vP at ih ⊢
      omega
  have h3 := h2 (t.parts.take k)
  have h4 : (t.parts.take k).length ≤ 4 := by rw [List.length_take]; omega
  have h5 := h.1
  have h6 := h.2
  unfold innerTo
  omega
theorem flat4 {a1 a2 a3 a4 b : Prop} (h : a1 ∧ a2 ∧ a3 ∧ a4) (g : b) : a1 ∧ a2 ∧ a3 ∧ a4 ∧ b := ⟨h.1, h.2.1, h.2.2.1, h.2.2.2, g⟩
section
variable {w0 w : World} {F : World → Prop} {A : Option Addr} {l : List PartL}
set_option maxRecDepth 100000 in
set_option maxHeartbeats 16000000 in
theorem rTVal_st (hK : Hid (St w0 w F)) (hp : ∀ W, F W → PartsAt A l W) (b d t u s : Int) (c : Nat) {B : Option Addr} {xs : List Int} (hb : ∀ W, F W → RunesAt B xs W) (cB : Nat) (hn : Hid (NumsOk ⟨b, d, t, u, s, l⟩)) (ok : Bool) (hv : Hid (pB (ValOk ⟨b, d, t, u, s, l⟩ xs) = ok)) (z : Int) (hz : Hid ((if ok = true then valN ⟨b, d, t, u, s, l⟩ xs else 0) = z)) :
    Calls Try.prog 14 #[.agg #[.int .i64 b, .int .i64 d, .int .i64 t, .int .i64 u, .int .i64 s, .slice A l.length c], .slice B xs.length cB] w
      (RetV w0 (.tuple #[.int .i64 z, .bool ok]) F) := by
  have HP := Lib.hid hp
  have HB := Lib.hid hb
  have hlx := (hb _ hK.out.now).ln
  have hl4 : l.length ≤ 4 := hn.out.2.2.2.2
  have HK := St.box hK [.int .i64 b, .int .i64 d, .int .i64 t, .int .i64 u, .int .i64 s, .slice A l.length c] 24
  clear hp hb
  go_enter Try.func14, Try.ntmps14
  go_wp2_with fail
  go_loopw [6] (fun i wr => ∃ k : Nat, k ≤ xs.length ∧ i = .int .i64 k ∧ Hid (∀ x ∈ xs.take k, 0 ≤ x ∧ x ≤ 1114111) ∧ Hid (St w0 wr (fun W => BoxC w.heap.size [.int .i64 b, .int .i64 d, .int .i64 t, .int .i64 u, .int .i64 s, .slice A l.length c] W ∧ F W))) (fun i _ => xs.length - (intOf i).toNat)
  case atStart => exact ⟨0, Nat.zero_le _, rfl, Lib.hid (fun p hp => by simp at hp), HK⟩
  case round =>
  clear HK
  obtain ⟨k, hk, rfl, HR, HK⟩ := hrel
  by_cases hlt : k < xs.length
  · obtain ⟨xb, xo, x, rfl, hx, hrw, hxc⟩ := (HB.out _ HK.out.now.2).at_ hlt
    have HX := Lib.hid hx
    clear hx
    by_cases h1 : x < 0
    · obtain rfl := pB_f hv (fun h => by have := (h.1 x (List.mem_of_getElem? HX.out)).1; omega)
      obtain rfl : (0 : Int) = z := hz.out
      go_wp2_with fail
      go_ret2
      exact ⟨rfl, Lib.hid (HK.out.weaken fun _ h => h.2)⟩
    by_cases h2 : 1114111 < x
    · obtain rfl := pB_f hv (fun h => by have := (h.1 x (List.mem_of_getElem? HX.out)).2; omega)
      obtain rfl : (0 : Int) = z := hz.out
      go_wp2_with fail
      go_ret2
      exact ⟨rfl, Lib.hid (HK.out.weaken fun _ h => h.2)⟩
    have HN : Hid (∀ p ∈ xs.take (k + 1), 0 ≤ p ∧ p ≤ 1114111) := Lib.hid fun q hq => by
      rw [take_snoc? HX.out] at hq
      rcases List.mem_append.1 hq with hq | hq
      · exact HR.out q hq
      · simp at hq; subst hq; omega
    go_wp2_with fail
    exact ⟨⟨k + 1, by omega, by go_num, HN, HK⟩, by simp [intOf]; omega⟩
  · obtain rfl : k = xs.length := by omega
    have hd : decide (xs.length < xs.length) = false := by simp
    have HW : Hid (WinOk xs) := Lib.hid (by have := HR.out; rwa [List.take_length] at this)
    obtain ⟨q0, q1, q2, q3, q4, q5⟩ := HK.out.now.1.c6
    have HSN : Hid (SmallN s ∧ SmallN b ∧ BitsOk d t u) := Lib.hid ⟨hn.out.2.1, hn.out.1, hn.out.2.2.1⟩
    go_wp2_with fail
    clear q0 q1 q2 q3 q4 q5 hd
    go_loopw [7, 8] (fun v i wr => ∃ k : Nat, k ≤ l.length ∧ i = .int .i64 k ∧ v = .int .i64 (innerTo ⟨b, d, t, u, s, l⟩ xs k) ∧ Hid (∀ p ∈ l.take k, PartOk xs.length p) ∧ Hid (St w0 wr (fun W => BoxC w.heap.size [.int .i64 b, .int .i64 d, .int .i64 t, .int .i64 u, .int .i64 s, .slice A l.length c] W ∧ F W))) (fun _ i _ => l.length - (intOf i).toNat)
    case atStart => exact ⟨0, Nat.zero_le _, rfl, by simp [innerTo], Lib.hid (fun p hp => by simp at hp), HK⟩
    case round =>
    clear HK
    obtain ⟨k, hk, rfl, rfl, HR2, HK⟩ := hrel
    have hc5 := HK.out.now.1 5 _ rfl
    by_cases hlt : k < l.length
    · obtain ⟨pb, off, p, hA, hx, hw, hd0, hd1, hd2, hd3⟩ := (HP.out _ HK.out.now.2).at_ hlt
      obtain ⟨x1, x2, x3, x4⟩ := p
      simp only at hd0 hd1 hd2 hd3
      rw [hA] at hc5
      have HX := Lib.hid hx
      clear hx hw hA
      have HKp := St.box HK [.int .i64 x1, .int .i64 x2, .int .i64 x3, .int .i64 x4] 56
      by_cases a2 : PartOk xs.length (x1, x2, x3, x4)
      · have H2 := Lib.hid (pB_true a2)
        have HN : Hid (∀ p ∈ l.take (k + 1), PartOk xs.length p) := Lib.hid fun q hq => by
          rw [take_snoc? HX.out] at hq
          rcases List.mem_append.1 hq with hq | hq
          · exact HR2.out q hq
          · simp at hq; subst hq; exact a2
        obtain ⟨h10, h11, _⟩ := a2
        obtain ⟨a, rfl⟩ := Int.eq_ofNat_of_zero_le h10
        have hal : a < xs.length := by omega
        obtain ⟨xb, xo, x, hB, hx, hrw, hxc⟩ := (HB.out _ HK.out.now.2).at_ hal
        obtain ⟨hx0, hx1⟩ := HW.out x (List.mem_of_getElem? hx)
        have hwx : wrap64 x = x := by unfold wrap64; omega
        have HWX : Hid (IntKind.i64.wrap x = x) := Lib.hid (IntWalk.i64_in x (by omega))
        obtain ⟨vv, hvv⟩ : ∃ vv, vNum x2 x3 x4 x = vv := ⟨_, rfl⟩
        obtain ⟨vo, hvo⟩ : ∃ vo, vOk x2 x3 x4 x = vo := ⟨_, rfl⟩
        have hk4 : k + 1 ≤ 4 := by omega
        have hbd := innerTo_bd (t := ⟨b, d, t, u, s, l⟩) HSN.out.1 xs (k + 1) hk4
        have hnext := innerTo_next (t := ⟨b, d, t, u, s, l⟩) (w := xs) HX.out
        have hvP : vP (((a : Int), x2, x3, x4) : PartL) (xs.getD ((a : Int)).toNat 0) = vv := by
          rw [Int.toNat_natCast, List.getD_eq_getElem?_getD, hx]; exact hvv
        have hnext : innerTo ⟨b, d, t, u, s, l⟩ xs (k + 1) = innerTo ⟨b, d, t, u, s, l⟩ xs k + vv := by rw [hnext]; congr 1
        obtain ⟨i0, hi0⟩ : ∃ i0, innerTo ⟨b, d, t, u, s, l⟩ xs k = i0 := ⟨_, rfl⟩
        obtain ⟨i1, hi1⟩ : ∃ i1, innerTo ⟨b, d, t, u, s, l⟩ xs (k + 1) = i1 := ⟨_, rfl⟩
        rw [hi1] at hbd
        rw [hi0, hi1] at hnext
        have hwi : wrap64 (i0 + vv) = i1 := by rw [← hnext]; unfold wrap64; omega
        have HI1 := Lib.hid hi1
        have HKx := Lib.hid (HKp.out.add (Below.refl _ _) (G := fun W => W.cell? ⟨xb, xo + a, none⟩ = some (.int .i32 x)) (fun W hW => by
          have h1 : (wr.alloc (.cells [Value.int .i64 (a : Int), .int .i64 x2, .int .i64 x3, .int .i64 x4].toArray 56)).cell? ⟨xb, xo + a, none⟩ = some (.int .i32 x) := (((Below.refl wr.heap.size wr).alloc (Nat.le_refl _) _).cell (p := ⟨xb, xo + a, none⟩) (lt_of_cell hxc)).trans hxc
          exact (hW.cell (p := ⟨xb, xo + a, none⟩) (lt_of_cell h1)).trans h1))
        rw [hi0]
        subst hB
        clear hx hrw hxc hbd hnext hvP h10 h11 hi0 hi1
        go_wp2_with (go_at_call 40; refine (PrRight_st HKx a x2 x3 x4 xs.length true H2).mono ?_; rintro e w5 ⟨rfl, HK5⟩)
        have HK6 := St.hdrewN HK5 1
        have hai : (a : Int) < xs.length := by omega
        have ha0 : (0 : Int) ≤ a := by omega
        have HVV := Lib.hid hvv
        have HVO := Lib.hid hvo
        have HWI := Lib.hid hwi
        have HLT := Lib.hid hlt
        clear hvv hvo hwi hal hk4 hlt hx1
        go_region_held3 (fun W => W.cell? ⟨wr.heap.size, 0, none⟩ = some (.int .i64 (a : Int)) ∧ W.cell? ⟨wr.heap.size, 1, none⟩ = some (.int .i64 x2) ∧ W.cell? ⟨wr.heap.size, 2, none⟩ = some (.int .i64 x3) ∧ W.cell? ⟨wr.heap.size, 3, none⟩ = some (.int .i64 x4) ∧ W.cell? ⟨xb, xo + a, none⟩ = some (.int .i32 x))
          (first | exact flat4 HK6.out.now.2.1.c4 HK6.out.now.1 | exact flat4 HK7.out.now.2.1.c4 HK7.out.now.1 | go_keep)
          ((go_at_call 41; (try rw [HWX.out]); refine (rValue_st HK6 (a : Int) x2 x3 x4 x HVV.out HVO.out).mono ?_; rintro e7 w7 ⟨rfl, HK7⟩))
        go_wp2_with fail
        have HE : Hid (wrap64 (i0 + vv) = innerTo ⟨b, d, t, u, s, l⟩ xs (k + 1)) := Lib.hid (HWI.out.trans HI1.out.symm)
        go_roundw
        case rel => exact ⟨k + 1, by have := HLT.out; omega, by go_num, by rw [HE.out], HN, Lib.hid (HK7.out.weaken fun _ h => h.2.2)⟩
        case measure => have := HLT.out; simp [intOf]; omega
      · have H2 := Lib.hid (pB_false a2)
        obtain rfl := pB_f hv (fun h => a2 (h.2.1 _ (List.mem_of_getElem? HX.out)))
        obtain rfl : (0 : Int) = z := hz.out
        clear a2
        go_wp2_with (go_at_call 40; refine (PrRight_st HKp x1 x2 x3 x4 xs.length false H2).mono ?_; rintro e w5 ⟨rfl, HK5⟩)
        go_ret2
        exact ⟨rfl, Lib.hid (HK5.out.weaken fun _ h => h.2.2)⟩
    · obtain rfl : k = l.length := by omega
      have hd : decide (l.length < l.length) = false := by simp
      have HPO : Hid (∀ p ∈ l, PartOk xs.length p) := Lib.hid (by have := HR2.out; rwa [List.take_length] at this)
      obtain ⟨iv, hiv⟩ : ∃ iv, innerTo ⟨b, d, t, u, s, l⟩ xs l.length = iv := ⟨_, rfl⟩
      have HIV : Hid (innerT ⟨b, d, t, u, s, l⟩ xs = iv) := Lib.hid hiv
      rw [hiv]
      clear hiv hc5
      have q5 := HK.out.now.1 5 _ rfl
      by_cases h1 : iv < 0
      · obtain rfl := pB_f hv (fun h => by have := h.2.2.1; rw [HIV.out] at this; omega)
        obtain rfl : (0 : Int) = z := hz.out
        go_wp2_with fail
        go_ret2
        exact ⟨rfl, Lib.hid (HK.out.weaken fun _ h => h.2)⟩
      by_cases h2 : 1114111 < iv
      · obtain rfl := pB_f hv (fun h => by have := h.2.2.2.1; rw [HIV.out] at this; omega)
        obtain rfl : (0 : Int) = z := hz.out
        go_wp2_with fail
        go_ret2
        exact ⟨rfl, Lib.hid (HK.out.weaken fun _ h => h.2)⟩
      obtain ⟨vv, hvv⟩ : ∃ vv, vNum d t u iv = vv := ⟨_, rfl⟩
      obtain ⟨vo, hvo⟩ : ∃ vo, vOk d t u iv = vo := ⟨_, rfl⟩
      have HVV := Lib.hid hvv
      have HVO := Lib.hid hvo
      have hvb := vNum_bd d t u iv
      rw [hvv] at hvb
      have hwb : wrap64 (b + vv) = b + vv := by
        have g1 := HSN.out.2.1.1
        have g2 := HSN.out.2.1.2
        unfold wrap64
        omega
      obtain ⟨p0, p1, p2, p3, p4, _⟩ := HK.out.now.1.c6
      clear hvv hvo hvb
      go_wp2_with fail
      refine (retV_gives HK (router_any b d t u s A l.length c _)).mono ?_
      rintro e w5 ⟨rfl, HK5⟩
      go_wp2_with fail
      refine (rValue_st HK5 0 d t u iv HVV.out HVO.out).mono ?_
      rintro e w6 ⟨rfl, HK6⟩
      have p0 := HK6.out.now.1 0 _ rfl
      rcases vo with _ | _
      · obtain rfl := pB_f hv (fun h => by have := h.2.2.2.2; rw [HIV.out, HVO.out] at this; cases this)
        obtain rfl : (0 : Int) = z := hz.out
        go_wp2_with fail
        go_ret2
        exact ⟨rfl, Lib.hid (HK6.out.weaken fun _ h => h.2)⟩
      · obtain rfl := pB_t hv ⟨HW.out, HPO.out, by rw [HIV.out]; omega, by rw [HIV.out]; omega, by rw [HIV.out]; exact HVO.out⟩
        have hzz : z = wrap64 (b + vv) := by
          have := hz.out
          rw [hwb]
          rw [if_pos rfl] at this
          rw [← this]; unfold valN; rw [HIV.out]; show b + vNum d t u iv = _; rw [HVV.out]
        subst hzz
        clear hwb
        go_wp2_with fail
        go_ret2
        exact ⟨rfl, Lib.hid (HK6.out.weaken fun _ h => h.2)⟩
end
end Go.Proofs.Ytpmhdjiacgckjaa
end
section
namespace Go.Proofs.Ytpmhdjiacgckjaa
set_option linter.unusedVariables false
set_option linter.unusedSimpArgs false
theorem mem_sym (x : Int) : Mem [(0, 1114111)] x ↔ (0 ≤ x ∧ x ≤ 1114111) := by
  unfold Mem
  rw [ins_one]; omega
theorem symG_mem (g : List Sp) (x : Int) : Mem (symG g) x ↔ (Mem g x ∧ 0 ≤ x ∧ x ≤ 1114111) := by
  rw [(symG_rep g).mem, mem_sym]
theorem hit_sym (Gs : List (List Sp)) (w : List Int) : hitM (Gs.map symG) w ↔ (hitM Gs w ∧ WinOk w) := by
  rw [hitM_iff, hitM_iff, List.length_map]
  constructor
  · rintro ⟨hl, h⟩
    have key : ∀ (k : Nat) s x, Gs[k]? = some s → w[k]? = some x → Mem s x ∧ 0 ≤ x ∧ x ≤ 1114111 := fun k s x hs hx => (symG_mem s x).1 (h k (symG s) x (by rw [List.getElem?_map, hs]; rfl) hx)
    refine ⟨⟨hl, fun k s x hs hx => (key k s x hs hx).1⟩, fun x hx => ?_⟩
    obtain ⟨k, hk⟩ := List.getElem?_of_mem hx
    have hkl := (List.getElem?_eq_some_iff.1 hk).1
    exact (key k _ x (List.getElem?_eq_getElem (by omega)) hk).2
  · rintro ⟨⟨hl, h⟩, hw⟩
    refine ⟨hl, fun k s x hs hx => ?_⟩
    rw [List.getElem?_map] at hs
    rcases hg : Gs[k]? with _ | g
    · rw [hg] at hs; cases hs
    · rw [hg] at hs; injection hs with hs; subst hs
      exact (symG_mem g x).2 ⟨h k g x hg hx, hw x (List.mem_of_getElem? hx)⟩
theorem box_pts {T : TermL} {Gs : List (List Sp)} (hOk : BoxOk (Gs.length : Int) T) (hne : ¬ ∃ g ∈ Gs, symG g = []) : PtsOk T.parts (Gs.map symG) := by
  refine ⟨hOk.2.1.2.2.2.2, fun p hp => ?_, fun s hs => ?_⟩
  · obtain ⟨h1, h2, h3⟩ := hOk.2.2 p hp
    exact ⟨h1, by rw [List.length_map]; omega, (bitsB_iff _ _ _).2 h3⟩
  · obtain ⟨g, hg, rfl⟩ := List.mem_map.1 hs
    exact ⟨(symG_rep g).1, fun e => hne ⟨g, hg, e⟩, fun x hx => by have h1 := ((symG_rep g).2 x).1 hx; have h2 := (mem_sym x).1 h1.2; exact h2⟩
theorem PtsOk.lvs {ps : List PartL} {G : List (List Sp)} (h : PtsOk ps G) : lvsOk ((plcs ps).map (lvOf G)) := fun l hl => by
  obtain ⟨q, hq, rfl⟩ := List.mem_map.1 hl
  have hm := getD_mem (d := []) (h.q hq).2.1
  obtain ⟨h1, h2, h3⟩ := h.gs _ hm.1
  exact lvOf_ok (h.q hq).2.2 h1 h2 fun x hx => by have := h3 x hx; omega
theorem wantB_mem {b d t u s : Int} {gl : List Sp} (x : Int) : InS (wantB b d t u s gl) x ↔ (-1073741824 ≤ x ∧ x ≤ 1073741824 ∧ -1073741824 ≤ x + s ∧ x + s ≤ 1073741824 ∧ bitsB d t u = true ∧ 0 ≤ x + s ∧ x + s ≤ 1114111 ∧ -1073741824 ≤ pval d t u (x + s) ∧ pval d t u (x + s) ≤ 1073741824 ∧ Mem gl (pval d t u (x + s) + b)) := by
  have h1 : Rep (plL fun y => -1073741824 ≤ y ∧ y ≤ 1073741824 ∧ Mem gl (y - -b)) (fun y => -1073741824 ≤ y ∧ y ≤ 1073741824 ∧ Mem gl (y - -b)) := plL_rep (rep_all _ fun x hx => ⟨hx.1, hx.2.1⟩)
  have h2 : Rep (plL (PreS d t u [(0, 1114111)] (plL fun y => -1073741824 ≤ y ∧ y ≤ 1073741824 ∧ Mem gl (y - -b)))) (PreS d t u [(0, 1114111)] (plL fun y => -1073741824 ≤ y ∧ y ≤ 1073741824 ∧ Mem gl (y - -b))) := plL_rep (rep_all _ fun x hx => by have := hx.2.2; omega)
  have h3 : Rep (wantB b d t u s gl) (fun x => -1073741824 ≤ x ∧ x ≤ 1073741824 ∧ Mem (plL (PreS d t u [(0, 1114111)] (plL fun y => -1073741824 ≤ y ∧ y ≤ 1073741824 ∧ Mem gl (y - -b)))) (x - -s)) := plL_rep (rep_all _ fun x hx => ⟨hx.1, hx.2.1⟩)
  rw [h3.2]
  have e : x - -s = x + s := by omega
  show (-1073741824 ≤ x ∧ x ≤ 1073741824 ∧ Mem (plL (PreS d t u [(0, 1114111)] (plL fun y => -1073741824 ≤ y ∧ y ≤ 1073741824 ∧ Mem gl (y - -b)))) (x - -s)) ↔ _
  rw [e, h2.mem]
  show (_ ∧ _ ∧ (bitsB d t u = true ∧ Mem [(0, 1114111)] (x + s) ∧ 0 ≤ x + s ∧ x + s ≤ 2097151 ∧ Mem (plL fun y => -1073741824 ≤ y ∧ y ≤ 1073741824 ∧ Mem gl (y - -b)) (pval d t u (x + s)))) ↔ _
  rw [h1.mem, mem_sym]
  show (_ ∧ _ ∧ (_ ∧ _ ∧ _ ∧ _ ∧ (-1073741824 ≤ pval d t u (x + s) ∧ pval d t u (x + s) ≤ 1073741824 ∧ Mem gl (pval d t u (x + s) - -b)))) ↔ _
  have e2 : pval d t u (x + s) - -b = pval d t u (x + s) + b := by omega
  rw [e2]
  constructor
  · rintro ⟨a1, a2, a3, ⟨a4, a5⟩, a6, a7, a8, a9, a10⟩
    exact ⟨a1, a2, by omega, by omega, a3, a4, a5, a8, a9, a10⟩
  · rintro ⟨a1, a2, a3, a4, a5, a6, a7, a8, a9, a10⟩
    exact ⟨a1, a2, a5, ⟨a6, a7⟩, by omega, by omega, a8, a9, a10⟩
/-- the sum of the parts' values of a window -/
theorem inner_tot {T : TermL} {w : List Int} (hp : ∀ p ∈ T.parts, bitsB p.2.1 p.2.2.1 p.2.2.2 = true) (hin : ∀ p ∈ T.parts, p.1.toNat < w.length) (hw : WinOk w) : innerT T w = T.sum + totP (plcs T.parts) (fun a => w.getD a.toNat 0) := by
  rw [plcs_tot]
  unfold innerT innerTo
  rw [List.take_length]
  congr 2
  refine List.map_congr_left fun p hpm => ?_
  unfold vP vNum pvalP
  have hm := getD_mem (d := (0 : Int)) (hin p hpm)
  have hb := hw _ hm.1
  rw [if_pos ((vOk_iff _ _ _ _).2 ⟨hp p hpm, by omega, by omega⟩)]
theorem tot_bd {ps : List PartL} (hp : ∀ p ∈ ps, bitsB p.2.1 p.2.2.1 p.2.2.2 = true) (h4 : ps.length ≤ 4) (x : Int → Int) : 0 ≤ totP (plcs ps) x ∧ totP (plcs ps) x ≤ 268435456 := by
  rw [plcs_tot]
  have : 0 ≤ (ps.map fun p => pvalP p (x p.1)).sum ∧ (ps.map fun p => pvalP p (x p.1)).sum ≤ 67108864 * ps.length := by
    clear h4
    induction ps with
    | nil => simp
    | cons p ps ih =>
      have h1 := pval_bd (hp p (List.mem_cons_self ..)) (x p.1)
      have h2 := ih fun q hq => hp q (List.mem_cons_of_mem _ hq)
      simp only [List.map_cons, List.sum_cons, List.length_cons]
      unfold pvalP at h2 ⊢
      omega
  omega
/-- what the boxes tell -/
structure BoxSaid (T : TermL) (Gs : List (List Sp)) (gl : List Sp) (B : List (List (List Sp))) : Prop where
  cnt : ∀ w, (hitM Gs w ∧ ValOk T w ∧ Mem gl (valN T w) → cntB B w = 1) ∧ (¬ (hitM Gs w ∧ ValOk T w ∧ Mem gl (valN T w)) → cntB B w = 0)
  few : B.length ≤ 4096
theorem cntB_nil (w : List Int) : cntB [] w = 0 := by unfold cntB; simp
theorem wval_iff {T : TermL} {Gs : List (List Sp)} {gl : List Sp} (hOk : BoxOk (Gs.length : Int) T) (w : List Int) :
    (hitM (Gs.map symG) w ∧ InS (wantB T.base T.drop T.take T.up T.sum gl) (totP (plcs T.parts) fun a => w.getD a.toNat 0)) ↔ (hitM Gs w ∧ ValOk T w ∧ Mem gl (valN T w)) := by
  have hpb : ∀ p ∈ T.parts, bitsB p.2.1 p.2.2.1 p.2.2.2 = true := fun p hp => (bitsB_iff _ _ _).2 (hOk.2.2 p hp).2.2
  have htb := tot_bd hpb hOk.2.1.2.2.2.2 (fun a => w.getD a.toNat 0)
  have hob : bitsB T.drop T.take T.up = true := (bitsB_iff _ _ _).2 hOk.2.1.2.2.1
  have hs := hOk.2.1.2.1
  unfold SmallN at hs
  rw [hit_sym, wantB_mem]
  constructor
  · rintro ⟨⟨h1, h2⟩, a1, a2, a3, a4, a5, a6, a7, a8, a9, a10⟩
    have hl := hitM_len h1
    have hin := inner_tot hpb (fun p hp => by obtain ⟨g1, g2, _⟩ := hOk.2.2 p hp; omega) h2
    have hit : totP (plcs T.parts) (fun a => w.getD a.toNat 0) + T.sum = innerT T w := by omega
    rw [hit] at a6 a7 a10
    refine ⟨h1, ⟨h2, fun p hp => ?_, a6, a7, (vOk_iff _ _ _ _).2 ⟨hob, a6, by omega⟩⟩, ?_⟩
    · obtain ⟨g1, g2, g3⟩ := hOk.2.2 p hp
      exact ⟨g1, by omega, g3⟩
    · unfold valN vNum
      rw [if_pos ((vOk_iff _ _ _ _).2 ⟨hob, a6, by omega⟩), Int.add_comm]
      exact a10
  · rintro ⟨h1, ⟨h2, h3, h4, h5, h6⟩, h7⟩
    have hl := hitM_len h1
    have hin := inner_tot hpb (fun p hp => by obtain ⟨g1, g2, _⟩ := hOk.2.2 p hp; omega) h2
    have hit : totP (plcs T.parts) (fun a => w.getD a.toNat 0) + T.sum = innerT T w := by omega
    have hpv := pval_bd hob (innerT T w)
    rw [hit]
    unfold valN vNum at h7
    rw [if_pos h6, Int.add_comm] at h7
    exact ⟨⟨h1, h2⟩, by omega, by omega, by omega, by omega, hob, h4, h5, by omega, by omega, h7⟩
/-- of a right term: the boxes, or too much -/
theorem boxes_said {T : TermL} {Gs : List (List Sp)} {gl : List Sp} (hOk : BoxOk (Gs.length : Int) T) {B : List (List (List Sp))} (h : boxesR T Gs gl = (0, B)) : BoxSaid T Gs gl B := by
  classical
  unfold boxesR at h
  rw [if_neg (fun g => g hOk)] at h
  by_cases hne : ∃ g ∈ Gs, symG g = []
  · rw [if_pos hne] at h
    injection h with _ h; subst h
    refine ⟨fun w => ⟨fun ⟨h1, h2, _⟩ => ?_, fun _ => cntB_nil w⟩, by simp⟩
    exfalso
    obtain ⟨g, hg, he⟩ := hne
    have h3 := (hit_sym Gs w).2 ⟨h1, h2.1⟩
    obtain ⟨k, hk⟩ := List.getElem?_of_mem hg
    have hl := hitM_len h1
    have hkl := (List.getElem?_eq_some_iff.1 hk).1
    have := ((hitM_iff _ _).1 h3).2 k (symG g) _ (by rw [List.getElem?_map, hk]; rfl) (List.getElem?_eq_getElem (by omega))
    rw [he] at this
    exact this.2.2
  · rw [if_neg hne] at h
    have hP := box_pts hOk hne
    rcases hr : (fromL (wantB T.base T.drop T.take T.up T.sum gl) ((plcs T.parts).map (lvOf (Gs.map symG))) 0 0).1 with _ | rows
    · rw [hr] at h; simp at h
    · rw [hr] at h
      simp only at h
      by_cases hb : 4096 < rows.length
      · rw [if_pos hb] at h; simp at h
      · rw [if_neg hb] at h
        injection h with _ h; subst h
        have hfr : fromL (wantB T.base T.drop T.take T.up T.sum gl) ((plcs T.parts).map (lvOf (Gs.map symG))) 0 0 = (some rows, (fromL (wantB T.base T.drop T.take T.up T.sum gl) ((plcs T.parts).map (lvOf (Gs.map symG))) 0 0).2) := by rw [← hr]
        have htop := hP.top 0
        rw [List.drop_zero] at htop
        have hT := fromL_tells _ _ _ _ _ _ hfr hP.lvs (fun l hl => by have := topS_mem hP.lvs hl; omega)
        refine ⟨fun w => ?_, by rw [List.length_map]; omega⟩
        have hbt := boxes_tell (plcs_ok T.parts).keys (fun q hq => ⟨(hP.q hq).1, (hP.q hq).2.1⟩) (fun s hs => (hP.gs s hs).1) hT w
        have hiff := wval_iff (gl := gl) hOk w
        rw [hbt]
        exact ⟨fun h => if_pos (hiff.2 h), fun h => if_neg (fun g => h (hiff.1 g))⟩
theorem boxes_arg {T : TermL} {Gs : List (List Sp)} {gl : List Sp} : (boxesR T Gs gl).1 = 1 ↔ ¬ BoxOk (Gs.length : Int) T := by
  unfold boxesR
  by_cases h : BoxOk (Gs.length : Int) T
  · rw [if_neg (fun g => g h)]
    split
    · simp [h]
    · split
      · simp [h]
      · split <;> simp [h]
  · rw [if_pos h]; simp [h]
theorem boxes_cases {T : TermL} {Gs : List (List Sp)} {gl : List Sp} : boxesR T Gs gl = (1, []) ∨ boxesR T Gs gl = (4, []) ∨ ∃ B, boxesR T Gs gl = (0, B) := by
  unfold boxesR
  split
  · exact .inl rfl
  · split
    · exact .inr (.inr ⟨_, rfl⟩)
    · split
      · exact .inr (.inl rfl)
      · split
        · exact .inr (.inl rfl)
        · exact .inr (.inr ⟨_, rfl⟩)
end Go.Proofs.Ytpmhdjiacgckjaa
end
section
namespace Go.Proofs.Ytpmhdjiacgckjaa
open Go.RowKit
set_option linter.unusedVariables false
set_option linter.unusedSimpArgs false
def exO (n : Nat) : List (Item Sp) := [(some ⟨n + 1 + 1, 0, none⟩, 1, [(194, 223)]), (some ⟨n + 1 + 1 + 1, 0, none⟩, 1, [(128, 191)])]
theorem sl_blk {W : World} {size b n : Nat} {cs : Array Value} {t : TypeId} {fr : Nat × Nat} (h : W.heap[b]? = some (.cells cs t fr)) (hn : cs.toList.length = n * size) : Sl W size (some ⟨b, 0, none⟩) n cs.toList := by
  refine ⟨hn, fun _ => ⟨_, _, rfl, fun j u hu => ?_⟩⟩
  simp only [World.cell?, h]
  simpa using hu
theorem one_lst {W : World} {b : Nat} {t : TypeId} {x y : Int} (h : W.heap[b]? = some (.cells #[.int .i64 x, .int .i64 y] t (0, 0))) (h0 : (-9223372036854775808 ≤ x ∧ x ≤ 9223372036854775807) ∧ -9223372036854775808 ≤ y ∧ y ≤ 9223372036854775807) : Lst (some ⟨b, 0, none⟩) [(x, y)] W := by
  refine ⟨⟨rfl, fun _ => ⟨_, _, rfl, fun j u hu => ?_⟩⟩, fun p hp => ?_, by simp⟩
  · simp only [World.cell?, h]
    have hu2 : ([Value.int .i64 x, Value.int .i64 y] : List Value)[j]? = some u := hu
    simpa using hu2
  · obtain rfl := List.mem_singleton.1 hp
    exact h0
theorem runes_lit (W : World) (t : TypeId) (x y : Int) (hx : RuneW x ∧ RuneW y) : ∀ V, Below (W.alloc (.cells #[.int .i32 x, .int .i32 y] t)).heap.size (W.alloc (.cells #[.int .i32 x, .int .i32 y] t)) V → RunesAt (some ⟨W.heap.size, 0, none⟩) [x, y] V := fun V hV => by
  have h := (hV.block W.heap.size (by simp)).trans (heap_alloc_new W _)
  refine ⟨⟨rfl, fun _ => ⟨_, _, rfl, fun j u hu => ?_⟩⟩, fun z hz => ?_, by simp⟩
  · simp only [World.cell?, h]
    have hu2 : ([Value.int .i32 x, Value.int .i32 y] : List Value)[j]? = some u := hu
    simpa using hu2
  · simp at hz
    rcases hz with rfl | rfl
    · exact hx.1
    · exact hx.2
theorem cntB_one {x : List (List Sp)} {w : List Int} (h : cntB [x] w = 1) : hitM x w := by
  unfold cntB at h
  apply Classical.byContradiction
  intro hn
  simp [hn] at h
theorem cntB_two {x y : List (List Sp)} {w : List Int} (h : cntB [x, y] w = 1) (hn : ¬ hitM x w) : hitM y w := by
  unfold cntB at h
  apply Classical.byContradiction
  intro hm
  simp [hn, hm] at h
theorem cntB_none {x : List (List Sp)} {B : List (List (List Sp))} {w : List Int} (h : cntB (x :: B) w = 0) : ¬ hitM x w := fun hm => by
  unfold cntB at h
  simp [hm] at h
section
variable {w0 w : World} {F : World → Prop}
set_option maxRecDepth 100000 in
set_option maxHeartbeats 16000000 in
theorem awake12_st (hK : Hid (St w0 w F)) : Calls Try.prog 9 #[] w (RetV w0 (.bool true) F) := by
  go_enter Try.func9, Try.ntmps9
  go_wp2_with fail
  obtain ⟨n, hn⟩ : ∃ n, w.heap.size = n := ⟨_, rfl⟩
  obtain ⟨wN, hwN⟩ : ∃ V, ((((((w.alloc (.cells #[.int .i64 1, .int .i64 0, .int .i64 6, .int .i64 0, .int .i64 0, .int .i64 0, .int .i64 5, .int .i64 6] 56)).alloc (.cells #[.int .i64 0, .int .i64 0, .int .i64 21, .int .i64 0, .int .i64 0, .slice (some ⟨n, 0, none⟩) 2 2] 24)).alloc (.cells #[.int .i64 194, .int .i64 223] 52)).alloc (.cells #[.int .i64 128, .int .i64 191] 52)).alloc (.cells #[.slice (some ⟨n + 1 + 1, 0, none⟩) 1 1, .slice (some ⟨n + 1 + 1 + 1, 0, none⟩) 1 1] 26)).alloc (.cells #[.int .i64 128, .int .i64 255] 52)) = V := ⟨_, rfl⟩
  have hbN : Below w.heap.size w wN := by
    rw [← hwN]
    exact ((((((Below.refl _ _).alloc (Nat.le_refl _) _).alloc (by simp) _).alloc (by simp; omega) _).alloc (by simp; omega) _).alloc (by simp; omega) _).alloc (by simp; omega) _
  have q0 : wN.heap[n]? = some (.cells #[.int .i64 1, .int .i64 0, .int .i64 6, .int .i64 0, .int .i64 0, .int .i64 0, .int .i64 5, .int .i64 6] 56 (0, 0)) := by
    rw [← hwN]
    simp only [World.alloc, Array.getElem?_push, Array.size_push, hn]
    simp
    repeat rw [if_neg (by omega)]
  have q2 : wN.heap[n + 1 + 1]? = some (.cells #[.int .i64 194, .int .i64 223] 52 (0, 0)) := by
    rw [← hwN]
    simp only [World.alloc, Array.getElem?_push, Array.size_push, hn]
    simp
  have q3 : wN.heap[n + 1 + 1 + 1]? = some (.cells #[.int .i64 128, .int .i64 191] 52 (0, 0)) := by
    rw [← hwN]
    simp only [World.alloc, Array.getElem?_push, Array.size_push, hn]
    simp
  have q4 : wN.heap[n + 1 + 1 + 1 + 1]? = some (.cells #[.slice (some ⟨n + 1 + 1, 0, none⟩) 1 1, .slice (some ⟨n + 1 + 1 + 1, 0, none⟩) 1 1] 26 (0, 0)) := by
    rw [← hwN]
    simp only [World.alloc, Array.getElem?_push, Array.size_push, hn]
    simp
  have q5 : wN.heap[n + 1 + 1 + 1 + 1 + 1]? = some (.cells #[.int .i64 128, .int .i64 255] 52 (0, 0)) := by
    rw [← hwN]
    simp only [World.alloc, Array.getElem?_push, Array.size_push, hn]
    simp
  have HKN : Hid (St w0 wN (fun V => (PartsAt (some ⟨n, 0, none⟩) exPs V ∧ LLx (some ⟨n + 1 + 1 + 1 + 1, 0, none⟩) (exO n) V ∧ Lst (some ⟨n + 1 + 1 + 1 + 1 + 1, 0, none⟩) [(128, 255)] V) ∧ F V)) := Lib.hid (hK.out.add hbN fun V hV => by
    have k : ∀ {j : Nat} {o : Obj}, wN.heap[j]? = some o → V.heap[j]? = some o := fun h => (hV.block _ (Array.getElem?_eq_some_iff.1 h).1).trans h
    have l2 := one_lst (k q2) (by omega)
    have l3 := one_lst (k q3) (by omega)
    refine ⟨⟨sl_blk (k q0) rfl, fun p hp => ?_, by decide⟩, ⟨⟨sl_blk (size := 1) (n := 2) (k q4) rfl, fun i hi => ?_⟩, by show 2 ≤ _; omega⟩, one_lst (k q5) (by omega)⟩
    · simp only [exPs, List.mem_cons, List.not_mem_nil, or_false] at hp
      rcases hp with rfl | rfl <;> (unfold PartW I64; decide)
    · simp only [exO, List.mem_cons, List.not_mem_nil, or_false] at hi
      rcases hi with rfl | rfl
      · exact l2
      · exact l3)
  obtain ⟨B, hB, hl1, hl2, hc1, hc0⟩ := ex_boxes
  have hbx := Boxes_st HKN (PA := some ⟨n, 0, none⟩) (A := some ⟨n + 1 + 1 + 1 + 1, 0, none⟩) (GA := some ⟨n + 1 + 1 + 1 + 1 + 1, 0, none⟩) (ps := exPs) (O := exO n) (gl := [(128, 255)]) (fun _ h => h.1.1) (fun _ h => h.1.2.1) (fun _ h => h.1.2.2) 0 0 21 0 0 (by unfold I64; decide) (by unfold I64; decide) 2 2 1 (by show 2 ≤ 1048576; omega)
  rw [show boxesR ⟨0, 0, 21, 0, 0, exPs⟩ (bodies (exO n)) [(128, 255)] = (0, B) from hB] at hbx
  have HBX := Lib.hid hbx
  have HC := Lib.hid (And.intro hc1 hc0)
  rw [hn, hwN]
  clear q0 q2 q3 q4 q5 hbN hwN hB hc1 hc0 hbx hn
  refine HBX.out.mono ?_
  rintro e w2 ⟨A, R, c, rfl, hb2, HK2⟩
  simp only at hb2
  have hlr : R.length = B.length := by rw [← hb2, bodies2_length]
  have HB2 := Lib.hid hb2
  clear hb2
  rcases R with _ | ⟨x, _ | ⟨y, _ | ⟨z, R⟩⟩⟩
  · simp at hlr; omega
  · have hx := HC.out
    rw [← HB2.out] at hx
    have H1 : Hid (hitM (bodies x.2.2) [195, 191]) := Lib.hid (cntB_one hx.1)
    have H2 : Hid (¬ hitM (bodies x.2.2) [196, 128]) := Lib.hid (cntB_none hx.2)
    obtain ⟨rb, ro, ba, bc, b, hA, hx0, _, hcx, hlx⟩ := HK2.out.now.1.at_ (k := 0) (by simp)
    simp at hx0
    subst hx0
    subst hA
    rw [Nat.add_zero] at hcx
    have HP1 := Lib.hid (pB_true H1.out)
    have HP2 := Lib.hid (pB_false H2.out)
    clear hx hlx hlr
    go_wp2_with fail
    have HKr := Lib.hid (HK2.out.add ((Below.refl _ w2).alloc (Nat.le_refl _) _) (runes_lit w2 21 195 191 (by unfold RuneW; decide)))
    refine (In_st HKr (fun _ h => (Items.cell (k := 0) h.2.1.1 rfl).2) (fun _ h => h.1) bc 2 true HP1).mono ?_
    rintro e w3 ⟨rfl, HK3⟩
    have hcx3 := (Items.cell (k := 0) HK3.out.now.2.1.1 rfl).1
    rw [Nat.add_zero] at hcx3
    go_wp2_with fail
    have HKs := Lib.hid (HK3.out.add ((Below.refl _ w3).alloc (Nat.le_refl _) _) (runes_lit w3 21 196 128 (by unfold RuneW; decide)))
    refine (In_st HKs (fun _ h => (Items.cell (k := 0) h.2.2.1.1 rfl).2) (fun _ h => h.1) bc 2 false HP2).mono ?_
    rintro e w4 ⟨rfl, HK4⟩
    go_wp2_with fail
    go_ret
    exact ⟨rfl, Lib.hid (HK4.out.weaken fun _ h => h.2.2.2.2)⟩
  · have hx := HC.out
    rw [← HB2.out] at hx
    have H2 : Hid (¬ hitM (bodies x.2.2) [196, 128]) := Lib.hid (cntB_none hx.2)
    have H1 : Hid (¬ hitM (bodies x.2.2) [195, 191] → hitM (bodies y.2.2) [195, 191]) := Lib.hid (cntB_two hx.1)
    obtain ⟨rb, ro, ba, bc, b, hA, hx0, _, hcx, _⟩ := HK2.out.now.1.at_ (k := 0) (by simp)
    obtain ⟨rb', ro', ya, yc, yl, hA', hy0, _, hcy, _⟩ := HK2.out.now.1.at_ (k := 1) (by simp)
    simp at hx0 hy0
    subst hx0
    subst hy0
    subst hA
    injection hA' with hA'
    injection hA' with e1 e2
    subst e1; subst e2
    rw [Nat.add_zero] at hcx
    have HP2 := Lib.hid (pB_false H2.out)
    clear hx hlr
    by_cases hh : hitM (bodies b) [195, 191]
    · have HP1 := Lib.hid (pB_true hh)
      clear hh
      go_wp2_with fail
      have HKr := Lib.hid (HK2.out.add ((Below.refl _ w2).alloc (Nat.le_refl _) _) (runes_lit w2 21 195 191 (by unfold RuneW; decide)))
      refine (In_st HKr (fun _ h => (Items.cell (k := 0) h.2.1.1 rfl).2) (fun _ h => h.1) bc 2 true HP1).mono ?_
      rintro e w3 ⟨rfl, HK3⟩
      have hcx3 := (Items.cell (k := 0) HK3.out.now.2.1.1 rfl).1
      rw [Nat.add_zero] at hcx3
      go_wp2_with fail
      have HKs := Lib.hid (HK3.out.add ((Below.refl _ w3).alloc (Nat.le_refl _) _) (runes_lit w3 21 196 128 (by unfold RuneW; decide)))
      refine (In_st HKs (fun _ h => (Items.cell (k := 0) h.2.2.1.1 rfl).2) (fun _ h => h.1) bc 2 false HP2).mono ?_
      rintro e w4 ⟨rfl, HK4⟩
      go_wp2_with fail
      go_ret
      exact ⟨rfl, Lib.hid (HK4.out.weaken fun _ h => h.2.2.2.2)⟩
    · have HP1 := Lib.hid (pB_false hh)
      have HP3 := Lib.hid (pB_true (H1.out hh))
      clear hh
      go_wp2_with fail
      have HKr := Lib.hid (HK2.out.add ((Below.refl _ w2).alloc (Nat.le_refl _) _) (runes_lit w2 21 195 191 (by unfold RuneW; decide)))
      refine (In_st HKr (fun _ h => (Items.cell (k := 0) h.2.1.1 rfl).2) (fun _ h => h.1) bc 2 false HP1).mono ?_
      rintro e w3 ⟨rfl, HK3⟩
      have hcy3 := (Items.cell (k := 1) HK3.out.now.2.1.1 rfl).1
      go_wp2_with fail
      have HKt := Lib.hid (HK3.out.add ((Below.refl _ w3).alloc (Nat.le_refl _) _) (runes_lit w3 21 195 191 (by unfold RuneW; decide)))
      refine (In_st HKt (fun _ h => (Items.cell (k := 1) h.2.2.1.1 rfl).2) (fun _ h => h.1) yc 2 true HP3).mono ?_
      rintro e w4 ⟨rfl, HK4⟩
      have hcx4 := (Items.cell (k := 0) HK4.out.now.2.2.1.1 rfl).1
      rw [Nat.add_zero] at hcx4
      go_wp2_with fail
      have HKs := Lib.hid (HK4.out.add ((Below.refl _ w4).alloc (Nat.le_refl _) _) (runes_lit w4 21 196 128 (by unfold RuneW; decide)))
      refine (In_st HKs (fun _ h => (Items.cell (k := 0) h.2.2.2.1.1 rfl).2) (fun _ h => h.1) bc 2 false HP2).mono ?_
      rintro e w5 ⟨rfl, HK5⟩
      go_wp2_with fail
      go_ret
      exact ⟨rfl, Lib.hid (HK5.out.weaken fun _ h => h.2.2.2.2.2)⟩
  · simp at hlr; omega
end
end Go.Proofs.Ytpmhdjiacgckjaa
end
section
namespace Go.Proofs.Ytpmhdjiacgckjaa
open Go.RowKit Go.ChangeShapes Go.WideShapes Go.Deep
set_option linter.unusedVariables false

theorem wf64 {z : Int} (h : (Lit.int .i64 z).wf = true) : -9223372036854775808 ≤ z ∧ z ≤ 9223372036854775807 := by
  simpa [Lit.wf, IntKind.min, IntKind.signed, IntKind.bits] using h
theorem open_spans {H : Type} {enc : TypeId × Value → H} {W : World} {base : Nat} {spare : Nat → Bool} {held : Bool} {fuel : Nat} {a : Option Addr} {len cap : Nat} {x : DataW H × List MemPlace}
    (h : DataW.trod enc Try.prog W base spare held fuel 26 [.slice a len cap] = some x) : ∃ l : List Sp, Spans W a len l ∧ SpW l ∧ len ≤ 9223372036854775807 := by
  rcases open_slice_pairs Try.underlying26 Try.underlying52 (by kernel_rfl) rfl rfl (by kernel_rfl) (by kernel_rfl) h with ⟨hcs, _⟩ | ⟨b, l, c, m, n, V0, V1, D0, D1, P0, P1, hcs, _, hl, hm, hmm, _, hc⟩
  · simp at hcs
    obtain ⟨rfl, rfl, rfl⟩ := hcs
    exact ⟨[], Sl.nil_ _ _ _, by simp [SpW], by omega⟩
  · simp at hcs
    obtain ⟨rfl, rfl, rfl⟩ := hcs
    have hlm : len ≤ m := by rw [hmm]; split <;> omega
    have each : ∀ i, ∃ p : Sp, i < len → (W.cell? (b.add (i * 2)) = some (.int .i64 p.1) ∧ W.cell? (b.add (i * 2 + 1)) = some (.int .i64 p.2) ∧ (Lit.int .i64 p.1).wf = true ∧ (Lit.int .i64 p.2).wf = true) := by
      intro i
      by_cases hi : i < len
      · obtain ⟨h1, h2, h3, h4⟩ := hc i (by omega)
        obtain ⟨z0, e0, _, w0⟩ := DataW.trod_int Try.underlying3 h3
        obtain ⟨z1, e1, _, w1⟩ := DataW.trod_int Try.underlying3 h4
        simp at e0 e1
        exact ⟨(z0, z1), fun _ => ⟨by rw [h1, e0], by rw [h2, e1], w0, w1⟩⟩
      · exact ⟨(0, 0), fun g => absurd g hi⟩
    obtain ⟨q, hq⟩ := Classical.skolem.1 each
    refine ⟨(List.range len).map q, ⟨by rw [spanCells_length]; simp, fun hn => ?_⟩, fun p hp => ?_, by have := hm; unfold maxLen at *; omega⟩
    · obtain ⟨bb, off, spot⟩ := b
      have h0 := (hq 0 hn).1
      have hs : spot = none := by simpa [Addr.add] using World.cell?_spot h0
      subst hs
      refine ⟨bb, off, rfl, fun j u hu => ?_⟩
      have ea : ∀ k, (⟨bb, off, none⟩ : Addr).add k = ⟨bb, off + k, none⟩ := fun k => by unfold Addr.add; split <;> simp_all
      have hj : j < len * 2 := by
        have := (List.getElem?_eq_some_iff.1 hu).1
        rw [spanCells_length] at this; simpa using this
      have hg : ((List.range len).map q)[j / 2]? = some (q (j / 2)) := by
        rw [List.getElem?_map, List.getElem?_range (by omega)]; rfl
      obtain ⟨s1, s2⟩ := spanCells_at _ _ _ hg
      obtain ⟨c1, c2, _, _⟩ := hq (j / 2) (by omega)
      rw [ea] at c1 c2
      rcases Nat.mod_two_eq_zero_or_one j with e | e
      · have ej : j / 2 * 2 = j := by omega
        rw [ej] at s1 c1
        rw [s1] at hu; cases hu; exact c1
      · have ej : j / 2 * 2 + 1 = j := by omega
        rw [ej] at s2 c2
        rw [s2] at hu; cases hu; exact c2
    · obtain ⟨i, hi, rfl⟩ := List.mem_map.1 hp
      have := hq i (List.mem_range.1 hi)
      exact ⟨wf64 this.2.2.1, wf64 this.2.2.2⟩
end Go.Proofs.Ytpmhdjiacgckjaa
end
section
namespace Go.Proofs.Ytpmhdjiacgckjaa
open Go.RowKit Go.ChangeShapes Go.WideShapes Go.Deep
set_option linter.unusedVariables false

abbrev Lst3 := Item Sp
/-- a list that came in -/
def SpI (A : Option Addr) (l : List Sp) (W : World) : Prop := Spans W A l.length l ∧ SpW l ∧ l.length ≤ 9223372036854775807
theorem SpI.lasts : Lasts SpI := fun A l w w' h hb => ⟨h.1.below hb, h.2⟩
def SssIn (W : World) (A : Option Addr) (n : Nat) (L : List Lst3) : Prop := Items SpI A n L W ∧ n ≤ 9223372036854775807

theorem spans_shape {H : Type} {enc : TypeId × Value → H} {W : World} {base : Nat} {spare : Nat → Bool} {held : Bool} {fuel : Nat} {cs : List Value} {x : DataW H × List MemPlace}
    (h : DataW.trod enc Try.prog W base spare held fuel 26 cs = some x) : ∃ a len cap, cs = [.slice a len cap] := by
  rcases open_slice Try.underlying26 h with ⟨hcs, _⟩ | ⟨a, len, cap, m, n, D, Pl, hcs, _⟩
  · exact ⟨_, _, _, hcs⟩
  · exact ⟨_, _, _, hcs⟩
theorem open_sss {H : Type} {enc : TypeId × Value → H} {W : World} {base : Nat} {spare : Nat → Bool} {held : Bool} {fuel : Nat} {a : Option Addr} {len cap : Nat} {x : DataW H × List MemPlace}
    (h : DataW.trod enc Try.prog W base spare held fuel 25 [.slice a len cap] = some x) : ∃ l : List Lst3, SssIn W a len l := by
  have hC : Try.prog.cellsOf 26 = 1 := by kernel_rfl
  rcases open_slice Try.underlying25 h with ⟨hcs, _⟩ | ⟨b, l, c, m, n, D, Pl, hcs, _, hl, hm, hmm, _, hc⟩
  · simp at hcs
    obtain ⟨rfl, rfl, rfl⟩ := hcs
    exact ⟨[], Items.nil_ _ _ _, by omega⟩
  · simp at hcs
    obtain ⟨rfl, rfl, rfl⟩ := hcs
    have hlm : len ≤ m := by rw [hmm]; split <;> omega
    have each : ∀ i, ∃ it : Lst3, i < len → (W.cell? (b.add i) = some (.slice it.1 it.2.2.length it.2.1) ∧ SpI it.1 it.2.2 W) := by
      intro i
      by_cases hi : i < len
      · obtain ⟨cs', h1, h2⟩ := hc i (by omega)
        rw [hC] at h1
        obtain ⟨_, hlen, hat⟩ := World.cells?_some h1
        obtain ⟨a', len', cap', rfl⟩ := spans_shape h2
        obtain ⟨l', s1, s2, s3⟩ := open_spans h2
        have e := s1.len
        subst e
        have h0 := hat 0 (by omega)
        rw [Nat.mul_one] at h0
        refine ⟨(a', cap', l'), fun _ => ⟨?_, s1, s2, s3⟩⟩
        have e2 : (b.add i).add 0 = b.add i := by rw [Go.Deep.add_add]; rfl
        rw [e2] at h0
        simpa using h0
      · exact ⟨(none, 0, []), fun g => absurd g hi⟩
    obtain ⟨q, hq⟩ := Classical.skolem.1 each
    unfold maxLen at hm
    refine ⟨(List.range len).map q, ⟨⟨by rw [icells_length]; simp, fun hn => ?_⟩, fun it hit => ?_⟩, by omega⟩
    · obtain ⟨bb, off, spot⟩ := b
      have h0 := (hq 0 hn).1
      have hs : spot = none := by simpa [Addr.add] using World.cell?_spot h0
      subst hs
      refine ⟨bb, off, rfl, fun j u hu => ?_⟩
      unfold icells at hu
      rw [List.getElem?_map, List.getElem?_map] at hu
      by_cases hj : j < len
      · rw [List.getElem?_range hj] at hu
        have hc := (hq j hj).1
        have ea : (⟨bb, off, none⟩ : Addr).add j = ⟨bb, off + j, none⟩ := by unfold Addr.add; split <;> simp_all
        rw [ea] at hc
        simp only [Option.map_some, ival] at hu
        rw [hc]; exact hu
      · rw [List.getElem?_eq_none (by simpa using hj)] at hu; cases hu
    · obtain ⟨r, hr1, rfl⟩ := List.mem_map.1 hit
      exact (hq r (List.mem_range.1 hr1)).2
end Go.Proofs.Ytpmhdjiacgckjaa
end
section
namespace Go.Proofs.Ytpmhdjiacgckjaa
open Go.RowKit
set_option linter.unusedVariables false
set_option linter.unusedSimpArgs false
theorem SpI.lst {A : Option Addr} {l : List Sp} {W : World} (h : SpI A l W) (hl : l.length ≤ 20) : Lst A l W := ⟨h.1, h.2.1, by omega⟩
theorem sym_lst (b : Nat) (W : World) (t : TypeId) (h : W.heap[b]? = some (.cells #[.int .i64 0, .int .i64 1114111] t (0, 0))) : Lst (some ⟨b, 0, none⟩) [((0 : Int), (1114111 : Int))] W := by
  refine ⟨⟨rfl, fun _ => ⟨_, _, rfl, fun j u hu => ?_⟩⟩, fun p hp => ?_, by simp⟩
  · simp only [World.cell?, h]
    have hu2 : ([Value.int .i64 0, Value.int .i64 1114111] : List Value)[j]? = some u := hu
    simpa using hu2
  · obtain rfl := List.mem_singleton.1 hp
    decide
theorem clip_in (x : List Sp) (y : Int) : InS (x.map fun p => (max p.1 0, min p.2 1114111)) y ↔ InS x y ∧ 0 ≤ y ∧ y ≤ 1114111 := by
  rw [InS_iff, InS_iff]
  constructor
  · rintro ⟨p, hp, h1, h2⟩
    obtain ⟨q, hq, rfl⟩ := List.mem_map.1 hp
    simp only at h1 h2
    exact ⟨⟨q, hq, by omega, by omega⟩, by omega, by omega⟩
  · rintro ⟨⟨q, hq, h1, h2⟩, h3, h4⟩
    exact ⟨_, List.mem_map.2 ⟨q, hq, rfl⟩, by show max q.1 0 ≤ y; omega, by show y ≤ min q.2 1114111; omega⟩
theorem meet_len {x r : List Sp} (h : Rep r (fun y => Mem x y ∧ Mem [((0 : Int), (1114111 : Int))] y)) : r.length ≤ x.length := by
  have h2 : Rep r (Mem (x.map fun p => (max p.1 0, min p.2 1114111))) := h.congr fun y => by
    unfold Mem
    rw [clip_in]
    simp only [InS, or_false]
    constructor
    · rintro ⟨⟨a, b, c⟩, _, _, d, e⟩; exact ⟨a, b, c, d, e⟩
    · rintro ⟨a, b, c, d, e⟩; exact ⟨⟨a, b, c⟩, a, b, d, e⟩
  have := Rep.len_le h2
  simpa using this
section
variable {w0 w : World} {F : World → Prop}
set_option maxRecDepth 100000 in
set_option maxHeartbeats 16000000 in
theorem Symbols_st (hK : Hid (St w0 w F)) {A : Option Addr} {a r : List Sp} (ha : ∀ W, F W → Lst A a W) (hl : a.length < 1048576) (c : Nat) (hr : Hid (Rep r (fun x => Mem a x ∧ Mem [((0 : Int), (1114111 : Int))] x))) :
    Calls Try.prog 28 #[.slice A a.length c] w (RetL w0 r F) := by
  have HK1 : Hid (St w0 (w.alloc (.cells #[.int .i64 0, .int .i64 1114111] 52)) (fun W => Lst (some ⟨w.heap.size, 0, none⟩) [((0 : Int), (1114111 : Int))] W ∧ F W)) :=
    Lib.hid (hK.out.add ((Below.refl _ _).alloc (Nat.le_refl _) _) fun W hW => (sym_lst _ _ _ (heap_alloc_new w _)).below hW)
  go_enter Try.func28, Try.ntmps28
  go_wp2_with (go_at_call 20; refine (rMeet_st HK1 (fun _ h => ha _ h.2) (fun _ h => h.1) hl (by decide) c 1 hr).mono ?_; rintro e w2 ⟨A2, c2, rfl, HK2⟩)
  go_ret
  exact ⟨A2, c2, rfl, Lib.hid (HK2.out.weaken fun _ h => ⟨h.1, h.2.2⟩)⟩
def RetGreat (w0 : World) (np ng : Nat) (O : List (Item Sp)) (F : World → Prop) (e : Ending) (w' : World) : Prop :=
  ∃ v, e = .returned (.bool v) ∧ Hid (v = false → np ≤ 20 ∧ ng ≤ 20 ∧ O.length ≤ 20 ∧ ∀ i ∈ O, i.2.2.length ≤ 20) ∧ Hid (St w0 w' F)
set_option maxRecDepth 100000 in
set_option maxHeartbeats 16000000 in
theorem great12_st (hK : Hid (St w0 w F)) {A : Option Addr} {O : List (Item Sp)} (ha : ∀ W, F W → SssIn W A O.length O) (b d t u s : Int) (P : Option Addr) (np pc : Nat) (hnp : np ≤ 9223372036854775807) (c : Nat) (G : Option Addr) (ng cg : Nat) :
    Calls Try.prog 8 #[.agg #[.int .i64 b, .int .i64 d, .int .i64 t, .int .i64 u, .int .i64 s, .slice P np pc], .slice A O.length c, .slice G ng cg] w (RetGreat w0 np ng O F) := by
  have HA := Lib.hid ha
  have hln := (ha _ hK.out.now).2
  have HK := St.box hK [.int .i64 b, .int .i64 d, .int .i64 t, .int .i64 u, .int .i64 s, .slice P np pc] 24
  have c5 := HK.out.now.1 5 _ rfl
  have HT : Hid (∀ W, St w0 W (fun W => BoxC w.heap.size [.int .i64 b, .int .i64 d, .int .i64 t, .int .i64 u, .int .i64 s, .slice P np pc] W ∧ F W) → RetGreat w0 np ng O F (.returned (.bool true)) W) := Lib.hid fun W h => ⟨true, rfl, Lib.hid (fun h => by cases h), Lib.hid (h.weaken fun _ h => h.2)⟩
  clear ha
  go_enter Try.func8, Try.ntmps8
  by_cases h1 : 20 < np
  · have h1' : (20 : Int) < np := by omega
    go_wp2_with fail
    go_ret
    exact HT.out _ HK.out
  have h1' : decide ((20 : Int) < np) = false := by rw [decide_eq_false_iff_not]; omega
  by_cases h2 : 20 < O.length
  · have h2' : (20 : Int) < O.length := by omega
    go_wp2_with fail
    go_ret
    exact HT.out _ HK.out
  have h2' : decide ((20 : Int) < O.length) = false := by rw [decide_eq_false_iff_not]; omega
  by_cases h3 : 20 < ng
  · have h3' : (20 : Int) < ng := by omega
    go_wp2_with fail
    go_ret
    exact HT.out _ HK.out
  have h3' : decide ((20 : Int) < ng) = false := by rw [decide_eq_false_iff_not]; omega
  go_wp2_with fail
  clear c5 h1' h2' h3'
  have HB3 := Lib.hid (And.intro h1 (And.intro h2 h3))
  clear h1 h3
  go_loopw [7] (fun i wr => ∃ k : Nat, k ≤ O.length ∧ i = .int .i64 k ∧ Hid (∀ i ∈ O.take k, i.2.2.length ≤ 20) ∧ Hid (St w0 wr (fun W => BoxC w.heap.size [.int .i64 b, .int .i64 d, .int .i64 t, .int .i64 u, .int .i64 s, .slice P np pc] W ∧ F W))) (fun i _ => O.length - (intOf i).toNat)
  case atStart => exact ⟨0, Nat.zero_le _, rfl, Lib.hid (fun p hp => by simp at hp), HK⟩
  case round =>
  clear HK
  obtain ⟨k, hk, rfl, HR, HK⟩ := hrel
  by_cases hlt : k < O.length
  · obtain ⟨gb, off, ba, bc, x, rfl, hx, hc, hl⟩ := (HA.out _ HK.out.now.2).1.at_ hlt
    have HX := Lib.hid hx
    have HL := Lib.hid hl
    have hsl := hl.2.2
    clear hx hl
    by_cases h20 : 20 < x.length
    · have h20' : (20 : Int) < x.length := by omega
      go_wp2_with fail
      go_ret
      exact HT.out _ HK.out
    have h20' : decide ((20 : Int) < x.length) = false := by rw [decide_eq_false_iff_not]; omega
    have HN : Hid (∀ p ∈ O.take (k + 1), p.2.2.length ≤ 20) := Lib.hid fun q hq => by
      rw [take_snoc? HX.out] at hq
      rcases List.mem_append.1 hq with hq | hq
      · exact HR.out q hq
      · simp at hq; subst hq; show x.length ≤ 20; omega
    by_cases h4 : O.length ≤ 4
    · have h4' : (O.length : Int) ≤ 4 := by omega
      have HLS : Hid (St w0 wr (fun W => Lst ba x W ∧ BoxC w.heap.size [.int .i64 b, .int .i64 d, .int .i64 t, .int .i64 u, .int .i64 s, .slice P np pc] W ∧ F W)) := Lib.hid (HK.out.add (Below.refl _ _) fun W hW => (SpI.lst HL.out (by omega)).below hW)
      obtain ⟨r, hr⟩ := rep_all (fun y => Mem x y ∧ Mem [((0 : Int), (1114111 : Int))] y) fun y hy => ⟨hy.1.1, hy.1.2.1⟩
      have HRP := Lib.hid hr
      have HML := Lib.hid (meet_len hr)
      have h20 : x.length ≤ 20 := by omega
      clear hr
      by_cases hbig : 70000 < cnt r
      · go_wp2_with (first
          | (go_at_call 28; refine (Symbols_st HLS (fun _ h => h.1) (by omega) bc HRP).mono ?_; rintro e w3 ⟨A3, c3, rfl, HK3⟩)
          | (go_at_call 27; refine (rCount_st HK3 (fun _ h => h.1) (by have := HML.out; omega) c3 (Lib.hid (Rep.self HRP.out.1))).mono ?_; rintro e w4 ⟨rfl, HK4⟩))
        go_ret
        exact HT.out _ (HK4.out.weaken fun _ h => h.2.2)
      · have hbig' : decide (70000 < cnt r) = false := by rw [decide_eq_false_iff_not]; exact hbig
        go_wp2_with (first
          | (go_at_call 28; refine (Symbols_st HLS (fun _ h => h.1) (by omega) bc HRP).mono ?_; rintro e w3 ⟨A3, c3, rfl, HK3⟩)
          | (go_at_call 27; refine (rCount_st HK3 (fun _ h => h.1) (by have := HML.out; omega) c3 (Lib.hid (Rep.self HRP.out.1))).mono ?_; rintro e w4 ⟨rfl, HK4⟩))
        exact ⟨⟨k + 1, by omega, by go_num, HN, Lib.hid (HK4.out.weaken fun _ h => h.2.2)⟩, by simp [intOf]; omega⟩
    · have h4' : decide ((O.length : Int) ≤ 4) = false := by rw [decide_eq_false_iff_not]; omega
      go_wp2_with fail
      exact ⟨⟨k + 1, by omega, by go_num, HN, HK⟩, by simp [intOf]; omega⟩
  · obtain rfl : k = O.length := by omega
    have hd : decide (O.length < O.length) = false := by simp
    have HE : Hid (∀ i ∈ O, i.2.2.length ≤ 20) := Lib.hid (by have := HR.out; rwa [List.take_length] at this)
    go_wp2_with fail
    go_ret
    exact ⟨false, rfl, Lib.hid (fun _ => by obtain ⟨g1, g2, g3⟩ := HB3.out; exact ⟨by omega, by omega, by omega, HE.out⟩), Lib.hid (HK.out.weaken fun _ h => h.2)⟩
end
end Go.Proofs.Ytpmhdjiacgckjaa
end
section
namespace Go.Proofs.Ytpmhdjiacgckjaa
open Go.RowKit
set_option linter.unusedVariables false
set_option linter.unusedSimpArgs false
def FewOk (l : List Sp) : Prop := ∃ r, Rep r (Mem l) ∧ cnt r ≤ 16
def CalmOk (np : Nat) (O : List (Item Sp)) : Prop := (np ≤ 2 ∧ ∀ i ∈ O, FewOk i.2.2) ∨ np ≤ 1
def RetCalm (w0 : World) (np : Nat) (O : List (Item Sp)) (F : World → Prop) (e : Ending) (w' : World) : Prop := ∃ v, e = .returned (.bool v) ∧ Hid (v = true → CalmOk np O) ∧ Hid (St w0 w' F)
section
variable {w0 w : World} {F : World → Prop}
set_option maxRecDepth 100000 in
set_option maxHeartbeats 16000000 in
theorem calm_st (hK : Hid (St w0 w F)) {A : Option Addr} {O : List (Item Sp)} (ha : ∀ W, F W → LLx A O W) (hs : ∀ i ∈ O, i.2.2.length ≤ 20) (b d t u s : Int) (P : Option Addr) (np pc : Nat) (c : Nat) :
    Calls Try.prog 12 #[.agg #[.int .i64 b, .int .i64 d, .int .i64 t, .int .i64 u, .int .i64 s, .slice P np pc], .slice A O.length c] w (RetCalm w0 np O F) := by
  have HA := Lib.hid ha
  have HS := Lib.hid hs
  have hln := (ha _ hK.out.now).2
  have HK := St.box hK [.int .i64 b, .int .i64 d, .int .i64 t, .int .i64 u, .int .i64 s, .slice P np pc] 24
  have c5 := HK.out.now.1 5 _ rfl
  clear ha hs
  go_enter Try.func12, Try.ntmps12
  obtain ⟨v0, hv0⟩ : ∃ v0, decide ((np : Int) ≤ 2) = v0 := ⟨_, rfl⟩
  have HV0 : Hid (v0 = true → np ≤ 2) := Lib.hid fun h => by subst h; have := of_decide_eq_true hv0; omega
  go_wp2_with fail
  clear c5 hv0
  go_loopw [5, 6] (fun v i wr => ∃ (k : Nat) (b0 : Bool), k ≤ O.length ∧ i = .int .i64 k ∧ v = .bool b0 ∧ Hid (b0 = true → v0 = true ∧ ∀ i ∈ O.take k, FewOk i.2.2) ∧ Hid (St w0 wr (fun W => BoxC w.heap.size [.int .i64 b, .int .i64 d, .int .i64 t, .int .i64 u, .int .i64 s, .slice P np pc] W ∧ F W))) (fun _ i _ => O.length - (intOf i).toNat)
  case atStart => exact ⟨0, v0, Nat.zero_le _, rfl, rfl, Lib.hid (fun h => ⟨h, fun p hp => by simp at hp⟩), HK⟩
  case round =>
  clear HK
  obtain ⟨k, b0, hk, rfl, rfl, HR, HK⟩ := hrel
  by_cases hlt : k < O.length
  · rcases b0 with _ | _
    · have HN : Hid (false = true → v0 = true ∧ ∀ i ∈ O.take (k + 1), FewOk i.2.2) := Lib.hid fun h => by cases h
      go_wp2_with fail
      exact ⟨⟨k + 1, false, by omega, by go_num, rfl, HN, HK⟩, by simp [intOf]; omega⟩
    · obtain ⟨gb, off, ba, bc, x, rfl, hx, _, hc, hl⟩ := (HA.out _ HK.out.now.2).at_ hlt
      have hx20 := HS.out _ (List.mem_of_getElem? hx)
      simp only at hx20
      have HX := Lib.hid hx
      have HLS := Lib.hid (HK.out.add (Below.refl _ _) (G := Lst ba x) fun W hW => hl.below hW)
      obtain ⟨r, hr⟩ := rep_all (Mem x) fun y hy => ⟨hy.1, hy.2.1⟩
      have HRP := Lib.hid hr
      clear hx hl hr
      obtain ⟨q, hq⟩ : ∃ q, decide (cnt r ≤ 16) = q := ⟨_, rfl⟩
      have HN : Hid (q = true → v0 = true ∧ ∀ i ∈ O.take (k + 1), FewOk i.2.2) := Lib.hid fun h => ⟨(HR.out rfl).1, fun i hi => by
        rw [take_snoc? HX.out] at hi
        rcases List.mem_append.1 hi with hi | hi
        · exact (HR.out rfl).2 i hi
        · simp at hi; subst hi; exact ⟨r, HRP.out, of_decide_eq_true (hq.trans h)⟩⟩
      go_wp2_with (go_at_call 27; refine (rCount_st HLS (fun _ h => h.1) (by omega) bc HRP).mono ?_; rintro e w4 ⟨rfl, HK4⟩)
      exact ⟨⟨k + 1, q, by omega, by go_num, rfl, HN, Lib.hid (HK4.out.weaken fun _ h => h.2)⟩, by simp [intOf]; omega⟩
  · obtain rfl : k = O.length := by omega
    have hd : decide (O.length < O.length) = false := by simp
    have HE : Hid (b0 = true → v0 = true ∧ ∀ i ∈ O, FewOk i.2.2) := Lib.hid (by have := HR.out; rwa [List.take_length] at this)
    have c5 := HK.out.now.1 5 _ rfl
    rcases b0 with _ | _
    · obtain ⟨q, hq⟩ : ∃ q, decide ((np : Int) ≤ 1) = q := ⟨_, rfl⟩
      have HQ : Hid (q = true → CalmOk np O) := Lib.hid fun h => .inr (by subst h; have := of_decide_eq_true hq; omega)
      go_wp2_with fail
      go_ret
      exact ⟨q, rfl, HQ, Lib.hid (HK.out.weaken fun _ h => h.2)⟩
    · have HQ : Hid (true = true → CalmOk np O) := Lib.hid fun _ => .inl ⟨HV0.out (HE.out rfl).1, (HE.out rfl).2⟩
      go_wp2_with fail
      go_ret
      exact ⟨true, rfl, Lib.hid (fun _ => HQ.out trivial), Lib.hid (HK.out.weaken fun _ h => h.2)⟩
end
end Go.Proofs.Ytpmhdjiacgckjaa
end
section
namespace Go.Proofs.Ytpmhdjiacgckjaa
set_option linter.unusedVariables false
set_option linter.unusedSimpArgs false
theorem vals_few {l : Lv} (hl : LvOk l) (ht : l.top ≤ 1073741824) {r : List Sp} (hr : Plain r) (hsub : ∀ x, InS l.g x → InS r x) (hc : cnt r ≤ 16) : (numsL (valsOf l)).length ≤ 4096 := by
  have hv := vals_rep hl ht
  have h := nodup_le ((numsL_rising hv.1).imp (fun h e => by omega)) (m := (numsL r).map l.val) (fun v hm => by
    obtain ⟨x, hx, he⟩ := (hv.2 v).1 ((mem_numsL _ v).1 hm)
    exact List.mem_map.2 ⟨x, (mem_numsL _ x).2 (hsub x hx), he⟩)
  rw [List.length_map] at h
  have h2 : ((numsL r).length : Int) = cnt r := nums_length hr
  omega
theorem plcs_two (p q : PartL) : plcs [p, q] = if q.1 = p.1 then [(q.1, [q, p])] else [(q.1, [q]), (p.1, [p])] := by
  show addP (addP [] q) p = _
  show addP [(q.1, [q])] p = _
  unfold addP
  by_cases h : q.1 = p.1
  · rw [if_pos h, if_pos h]; rfl
  · rw [if_neg h, if_neg h]; rfl
theorem boxes_calm {T : TermL} {Gs : List (List Sp)} {gl : List Sp} (hOk : BoxOk (Gs.length : Int) T) (hc : (T.parts.length ≤ 2 ∧ ∀ g ∈ Gs, FewOk g) ∨ T.parts.length ≤ 1) :
    ∃ B, boxesR T Gs gl = (0, B) ∧ (T.parts.length ≤ 1 → B.length ≤ 1) := by
  classical
  unfold boxesR
  rw [if_neg (fun g => g hOk)]
  by_cases hne : ∃ g ∈ Gs, symG g = []
  · rw [if_pos hne]; exact ⟨[], rfl, fun _ => by simp⟩
  rw [if_neg hne]
  have hP := box_pts hOk hne
  obtain ⟨want, hw⟩ : ∃ w, wantB T.base T.drop T.take T.up T.sum gl = w := ⟨_, rfl⟩
  rw [hw]
  have htop := hP.top 0
  rw [List.drop_zero] at htop
  have hlv := hP.lvs
  have few : ∀ q ∈ plcs T.parts, (∀ g ∈ Gs, FewOk g) → (numsL (valsOf (lvOf (Gs.map symG) q))).length ≤ 4096 := fun q hq hf => by
    have hl := hlv _ (List.mem_map.2 ⟨q, hq, rfl⟩)
    have ht := topS_mem hlv (List.mem_map.2 ⟨q, hq, rfl⟩)
    have hm := getD_mem (d := []) (hP.q hq).2.1
    obtain ⟨g, hg, he⟩ := List.mem_map.1 hm.1
    obtain ⟨r, hr, hcr⟩ := hf g hg
    refine vals_few hl (by omega) hr.1 (fun x hx => ?_) hcr
    have hx2 : InS ((Gs.map symG).getD q.1.toNat []) x := hx
    rw [← he] at hx2
    exact (hr.2 x).2 (((symG_rep g).2 x).1 hx2).1
  have key : ∃ rows st, fromL want ((plcs T.parts).map (lvOf (Gs.map symG))) 0 0 = (some rows, st) ∧ rows.length ≤ 4096 ∧ (T.parts.length ≤ 1 → rows.length ≤ 1) := by
    rcases hps : T.parts with _ | ⟨p, _ | ⟨q, _ | ⟨r, l⟩⟩⟩
    · obtain ⟨rows, h1, h2⟩ := fromL_last want [] 0 0 (.inl rfl) (by omega)
      have h3 : rows.length ≤ 1 := by split at h2 <;> omega
      exact ⟨rows, _, h1, by omega, fun _ => h3⟩
    · obtain ⟨rows, h1, h2⟩ := fromL_last want [lvOf (Gs.map symG) (p.1, [p])] 0 0 (.inr ⟨_, rfl, rfl⟩) (by omega)
      have h3 : rows.length ≤ 1 := by split at h2 <;> omega
      exact ⟨rows, _, h1, by omega, fun _ => h3⟩
    · have hf : ∀ g ∈ Gs, FewOk g := by
        rcases hc with hc | hc
        · exact hc.2
        · rw [hps] at hc; simp at hc
      rw [hps] at few
      rw [plcs_two] at few ⊢
      by_cases hqp : q.1 = p.1
      · rw [if_pos hqp] at few ⊢
        obtain ⟨rows, st, h1, _, h3⟩ := fromL_ahead want (lvOf (Gs.map symG) (q.1, [q, p])) [] 0 0 (.inl rfl) (few _ (List.mem_cons_self ..) hf) (by omega)
        exact ⟨rows, st, h1, h3, fun h => by simp at h⟩
      · rw [if_neg hqp] at few ⊢
        obtain ⟨rows, st, h1, _, h3⟩ := fromL_ahead want (lvOf (Gs.map symG) (q.1, [q])) [lvOf (Gs.map symG) (p.1, [p])] 0 0 (.inr ⟨_, rfl, rfl⟩) (few _ (List.mem_cons_self ..) hf) (by omega)
        exact ⟨rows, st, h1, h3, fun h => by simp at h⟩
    · exfalso
      rcases hc with hc | hc <;> rw [hps] at hc <;> simp at hc
  obtain ⟨rows, st, hr, hl, h1⟩ := key
  refine ⟨rows.map (boxOf (Gs.map symG) (plcs T.parts)), ?_, fun h => by rw [List.length_map]; exact h1 h⟩
  rw [hr]
  simp only
  rw [if_neg (by omega)]
end Go.Proofs.Ytpmhdjiacgckjaa
end
