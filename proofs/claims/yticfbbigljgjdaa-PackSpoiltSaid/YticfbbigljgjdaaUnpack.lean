/- Contract of pack.Unpack: a table's bytes are read, or that they are none. Condition: the bytes are known; at most 2^30 of them. -/
import Derived.Test.YticfbbigljgjdaaUnTab
import Derived.Test.YticfbbigljgjdaaTabCheck2
import Derived.Deep.RegionLaw
import Derived.Deep.CutBlock
namespace Go.Proofs.Yticfbbigljgjdaa
open Go.RowKit
set_option linter.unusedVariables false
set_option linter.unusedSimpArgs false
def UnpackOk (l : List Int) : Prop := GoodB l ∧ TabOk (tabOf l)
/-- what Unpack says of bytes -/
def UnpackSaid (l : List Int) (T : TabI) (v : Int) : Prop := (v = 0 ∧ UnpackOk l ∧ T.L = tabOf l) ∨ (v = 9 ∧ ¬ UnpackOk l ∧ T = zeroTab)
def RetUnpack (w0 : World) (l : List Int) (F : World → Prop) (e : Ending) (w' : World) : Prop :=
  ∃ cs T v, e = .returned (.tuple #[.agg cs, .int .i64 v]) ∧ Hid (TabC cs T) ∧ Hid (St w0 w' (fun W => TabW T W ∧ F W)) ∧ Hid (UnpackSaid l T v)
theorem zeroTab_W (W : World) : TabW zeroTab W := ⟨RowsAt.nil_ _ _ _ _ _, RowsAt.nil_ _ _ _ _ _, RowsAt.nil_ _ _ _ _ _⟩
section
variable {w0 w : World} {F : World → Prop}
theorem bad_end (hK : Hid (St w0 w F)) {a : Act} {W : World} {l : List Int} (hd : a.defers = []) (h2 : a.tmps.getD 2 undef = .pointer (some ⟨w.heap.size, 0, none⟩)) (h3 : a.tmps.getD 3 undef = .int .i64 9)
    (hg : W.heap[w.heap.size]? = some (.cells zeroT 27 (0, 0))) (hbl : Below w.heap.size w W) (hno : ¬ UnpackOk l) :
    bodyPost Try.prog Try.f14 (RetUnpack w0 l F) .ret a (W.setRow w.heap.size zeroT) := by
  have hb : Below w.heap.size w (W.setRow w.heap.size zeroT) := below_setRow hbl (Nat.le_refl _) _
  exact bodyPost_ret (v := .tuple #[.agg zeroT, .int .i64 9]) (results_row2 rfl _ _ _ _ _ _ _ _ h2 h3 (setRow_heap _ _ _ _ _ _ hg) Try.underlying27 rfl info_tabS') hd
    ⟨zeroT, zeroTab, 9, rfl, Lib.hid zeroT_C, Lib.hid ((hK.out.step hb).weaken fun W h => ⟨zeroTab_W W, h⟩), Lib.hid (.inr ⟨rfl, hno, rfl⟩)⟩
theorem good_end (hK : Hid (St w0 w F)) {a : Act} {W : World} {l : List Int} {cs : Array Value} {T : TabI} (hC : TabC cs T) (hd : a.defers = []) (h2 : a.tmps.getD 2 undef = .pointer (some ⟨w.heap.size, 0, none⟩)) (h3 : a.tmps.getD 3 undef = .int .i64 0)
    (hg : W.heap[w.heap.size]? = some (.cells zeroT 27 (0, 0))) (hbl : Below w.heap.size w W) (hyes : UnpackOk l) (hT : T.L = tabOf l) (hW : Dep (fun k => w.heap.size < k) W (TabW T)) :
    bodyPost Try.prog Try.f14 (RetUnpack w0 l F) .ret a (W.setRow w.heap.size cs) := by
  have hb : Below w.heap.size w (W.setRow w.heap.size cs) := below_setRow hbl (Nat.le_refl _) _
  have hi : (Try.prog.info? 27).map (·.size) = some cs.size := by rw [hC.size]; exact info_tabS
  have hD : Dep (fun k => w.heap.size < k) (W.setRow w.heap.size cs) (TabW T) := hW.step (fun k hk _ => setRow_other _ _ _ _ (by omega)) (by simp) fun k hk _ => hk
  exact bodyPost_ret (v := .tuple #[.agg cs, .int .i64 0]) (results_row2 rfl _ _ _ _ _ _ _ _ h2 h3 (setRow_heap _ _ _ _ _ _ hg) Try.underlying27 rfl hi) hd
    ⟨cs, T, 0, rfl, Lib.hid hC, Lib.hid ((hK.out.step hb).add (Below.refl _ _) hD.st), Lib.hid (.inl ⟨rfl, hyes, hT⟩)⟩
set_option maxRecDepth 100000 in
set_option maxHeartbeats 16000000 in
theorem Unpack_st (hK : Hid (St w0 w F)) (A : Option Addr) (c : Nat) (l : List Int) (hB : ∀ W, F W → BytesAt A l W) (hc : l.length ≤ c) (hlen : l.length ≤ 1073741824) :
    Calls Try.prog 14 #[.slice A l.length c] w (RetUnpack w0 l F) := by
  have HB0 := Lib.hid (hB _ hK.out.now)
  have HBA := Lib.hid hB
  clear hB
  go_enter Try.func14, Try.ntmps14
  by_cases h281 : l.length < 281
  · have h281' : (l.length : Int) < 281 := by omega
    go_wp2_with (first | (refine wpList_allocZ rfl 27 rfl zeroT info_tabZ ?_) | (refine wpList_buildZ rfl 27 rfl zeroT built_tab ?_) | (refine wpList_store_row rfl 27 _ _ rfl w.heap.size zeroT rfl rfl 27 zeroT (heap_alloc_new w _) info_tabS' rfl (cells_one zeroT_C) ?_))
    exact bad_end hK rfl rfl rfl (heap_alloc_new w _) ((Below.refl _ _).alloc (Nat.le_refl _) _) (fun h => by have := h.1.1; omega)
  have h281' : decide ((l.length : Int) < 281) = false := by rw [decide_eq_false_iff_not]; omega
  have h281i : (281 : Int) ≤ l.length := by omega
  have g5 : (5 : Int) ≤ c := by omega
  have HCV := fun W (h : Ints .u8 W A 5 (l.take 5)) => run_conv_str (P := Try.prog) W 30 5 Try.underlying30 Try.underlying5 A 5 c (l.take 5) h 9 Try.underlying9
  have hI5 : Ints .u8 (w.alloc (.cells zeroT 27)) A 5 (l.take 5) := by
    have h := (HB0.out.below ((Below.refl _ _).alloc (Nat.le_refl _) (.cells zeroT 27))).sl
    rw [bytes_cells] at h
    exact Ints.take (k := .u8) (xs := l) h (by omega)
  have hcv := HCV _ hI5
  clear HCV hI5
  by_cases hm : ¬ l.take 5 = markB
  · have hm' := mark_no HB0.out.u8 hm
    have HM := Lib.hid hm
    clear hm
    go_wp2_with (first | (refine wpList_allocZ rfl 27 rfl zeroT info_tabZ ?_) | (refine wpList_buildZ rfl 27 rfl zeroT built_tab ?_) | (refine wpList_store_row rfl 27 _ _ rfl w.heap.size zeroT rfl rfl 27 zeroT (heap_alloc_new w _) info_tabS' rfl (cells_one zeroT_C) ?_))
    exact bad_end hK rfl rfl rfl (heap_alloc_new w _) ((Below.refl _ _).alloc (Nat.le_refl _) _) (fun h => HM.out h.1.2.1)
  have hm := Classical.not_not.1 hm
  have hm' := mark_yes hm
  have HM := Lib.hid hm
  clear hm
  go_wp2_with (first | (refine wpList_allocZ rfl 27 rfl zeroT info_tabZ ?_))
  have HZ0 := Lib.hid (RZ.start w)
  obtain ⟨gb, go, x0, rfl, _, _, _, hgc⟩ := HB0.out.at_ (j := 0) (by omega)
  have hgw : gb < w.heap.size := lt_of_cell hgc
  clear hcv hm' h281' hgc
  have g4 : (4 : Int) ≤ l.length := by omega
  have gc : (l.length : Int) ≤ c := by omega
  go_quiet (fail)
  go_wp2_with fail
  have HBY : Hid (∀ W, Below w.heap.size w W → BytesAt (some ⟨gb, go, none⟩) l W) := Lib.hid fun W hW => HB0.out.below hW
  have HZ1 := Lib.hid (HZ0.out.drewN nq)
  have HTL : Hid ((l.take (l.length - 4)).length = l.length - 4) := Lib.hid (by rw [List.length_take]; omega)
  have HK4 : Hid ((l.drop (l.length - 4)).length = 4) := Lib.hid (by rw [List.length_drop]; omega)
  have e4 : l.length - (l.length - 4) = 4 := by omega
  rw [e4]
  have HRE := Lib.hid (Rd.fresh (w := w) (n := 4) (c' := c - (l.length - 4)) (bytes_drop (k := l.length - 4) (HBY.out _ HZ1.out.bl) (by omega)) hgw HZ1.out.bl.size HK4.out (by omega))
  have hzl := HZ1.out.lt
  have HZ1 := Lib.hid (HZ1.out.alloc (.cells #[.slice (some ⟨gb, go + (l.length - 4), none⟩) 4 (c - (l.length - 4)), .bool false] 64))
  have hsz : ((w.alloc (.cells zeroT 27)).drewN nq).heap.size = w.heap.size + 1 := by simp
  rw [hsz] at HRE hzl
  clear e4 hsz
  refine (num_rz hzl HRE HZ1).mono ?_
  rintro e w1 ⟨rfl, A1, c1, HR1, HZ⟩
  have HTI := Lib.hid (tail_iff (t := l.drop (l.length - 4)) (fun x hx => HB0.out.u8 x (List.mem_of_mem_drop hx)) HK4.out (fnvL (l.take (l.length - 4))) (fnvL_lt _))
  generalize (rNum (List.drop (l.length - 4) l, false)).1 = z at HTI ⊢
  clear HRE HZ1 HR1 HZ0 hzl
  by_cases hs : ¬ z % 4294967296 = (fnvL (l.take (l.length - 4)) : Int)
  · have hs' : (z % 4294967296 != (fnvL (l.take (l.length - 4)) : Int)) = true := by rw [bne_iff_ne]; exact hs
    have HNO : Hid (¬ UnpackOk l) := Lib.hid fun h => hs (HTI.out.2 h.1.2.2.1)
    clear hs
    go_wp2_with (first
      | (go_at_call 12; refine (Sum_n (some ⟨gb, go, none⟩) c (l.length - 4) (l.take (l.length - 4)) _ (bytes_take (HBY.out _ HZ.out.bl) (by omega)) HTL.out).mono ?_; rintro e w2 ⟨rfl, rfl⟩)
      | (refine wpList_buildZ rfl 27 rfl zeroT built_tab ?_)
      | (refine wpList_store_row rfl 27 _ _ rfl w.heap.size zeroT rfl rfl 27 zeroT HZ.out.res info_tabS' rfl (cells_one zeroT_C) ?_))
    exact bad_end hK rfl rfl rfl HZ.out.res HZ.out.bl HNO.out
  have hs := Classical.not_not.1 hs
  have hs' : (z % 4294967296 != (fnvL (l.take (l.length - 4)) : Int)) = false := by rw [bne_eq_false_iff_eq]; exact hs
  have HSUM := Lib.hid (HTI.out.1 hs)
  clear hs
  go_wp2_with (go_at_call 12; refine (Sum_n (some ⟨gb, go, none⟩) c (l.length - 4) (l.take (l.length - 4)) _ (bytes_take (HBY.out _ HZ.out.bl) (by omega)) HTL.out).mono ?_; rintro e w2 ⟨rfl, rfl⟩)
  clear hs' HTI
  have HL5 : Hid (((l.take (l.length - 4)).drop 5).length = l.length - 4 - 5) := Lib.hid (by rw [List.length_drop, HTL.out])
  have HRr := Lib.hid (Rd.fresh (w := w) (n := l.length - 4 - 5) (c' := c - 5) (bytes_drop (k := 5) (bytes_take (k := l.length - 4) (HBY.out _ HZ.out.bl) (by omega)) (by rw [HTL.out]; omega)) hgw HZ.out.bl.size HL5.out (by omega))
  have hzl := HZ.out.lt
  have HZr := Lib.hid (HZ.out.alloc (.cells #[.slice (some ⟨gb, go + 5, none⟩) (l.length - 4 - 5) (c - 5), .bool false] 64))
  obtain ⟨rb, hrb⟩ : ∃ rb, w1.heap.size = rb := ⟨_, rfl⟩
  rw [hrb] at HRr hzl ⊢
  clear hrb HZ
  obtain ⟨s0, hs0⟩ : ∃ s0 : RdL, ((l.take (l.length - 4)).drop 5, false) = s0 := ⟨_, rfl⟩
  have HS0 := Lib.hid hs0
  rw [hs0] at HRr
  clear hs0
  go_wp2_with (first | (go_at_call 26; refine (num_rz hzl HRr HZr).mono ?_; rintro e w1 ⟨rfl, A1, c1, HRr, HZr⟩) | (refine wpList_allocZ rfl 27 rfl zeroT info_tabZ ?_))
  have HR4 : Hid (Rd w1 w.heap.size rb A1 c1 (h4 s0)) := Lib.hid HRr.out
  have e1 : (rNum (rNum (rNum (rNum s0).2).2).2).1 = (rNum (h3 s0)).1 := rfl
  have e2 : (rNum (rNum (rNum s0).2).2).1 = (rNum (h2 s0)).1 := rfl
  have e3 : (rNum (rNum s0).2).1 = (rNum (h1 s0)).1 := rfl
  rw [e1, e2, e3]
  clear HRr e1 e2 e3
  have HS0L : Hid (s0.1.length = l.length - 4 - 5 ∧ s0.2 = false ∧ U8s s0.1) := Lib.hid (by
    rw [← HS0.out]
    exact ⟨HL5.out, rfl, fun x hx => HB0.out.u8 x (List.mem_of_mem_take (List.mem_of_mem_drop hx))⟩)
  obtain ⟨⟨l4, b4⟩, hs4⟩ : ∃ z : RdL, h4 s0 = z := ⟨_, rfl⟩
  have HS4 := Lib.hid hs4
  obtain ⟨hl4, hb4⟩ : l4.length + 16 = l.length - 4 - 5 ∧ b4 = false := by
    obtain ⟨q1, q2, q3⟩ := HS0L.out
    obtain ⟨z1, z2⟩ := h4_len (s := s0) (by omega)
    rw [hs4] at z1 z2
    exact ⟨z1.trans q1, z2.trans q2⟩
  subst hb4
  rw [hs4] at HR4
  have HS4U : Hid (U8s l4) := Lib.hid HR4.out.by_.it
  clear hs4
  obtain ⟨gb2, go2, x2, rfl, _, _, _, _⟩ := HR4.out.by_.at_ (j := 0) (by show 0 < l4.length; omega)
  have HTAB := Lib.hid (heap_alloc_new w1 (.cells zeroT 27))
  have hrt := HR4.out.rlt
  have HR4 := Lib.hid (HR4.out.alloc (.cells zeroT 27))
  have HZ4 := Lib.hid (HZr.out.alloc (.cells zeroT 27))
  obtain ⟨tb, htb⟩ : ∃ tb, w1.heap.size = tb := ⟨_, rfl⟩
  rw [htb] at HTAB hrt ⊢
  clear htb HZr HBY HTL HK4 HL5
  generalize w1.alloc (.cells zeroT 27) = w2 at HR4 HTAB HZ4 ⊢
  have q0 := HR4.out.c0.1
  have q1 := HR4.out.fr 0
  have hcc := HR4.out.cap
  simp only at q0 hcc
  have i0 : (0 : Int) ≤ l4.length := by omega
  have i1 : (256 : Int) ≤ l4.length := by omega
  have i2 : (l4.length : Int) ≤ c1 := by omega
  have HCL : Hid ((l4.take 256).length = 256) := Lib.hid (by rw [List.length_take]; omega)
  have HSRC : Hid (∀ (j : Nat) (v : Value), ((l4.take 256).map (Value.int .u8))[j]? = some v → w2.cell? ((⟨gb2, go2, none⟩ : Addr).add j) = some v) := Lib.hid fun j v hv => by
    obtain ⟨b', o', hA, hcell⟩ := HR4.out.by_.sl.2 (by show 0 < l4.length; omega)
    injection hA with hA
    injection hA with z1 z2
    subst z1; subst z2
    have e : (⟨gb2, go2, none⟩ : Addr).add j = ⟨gb2, go2 + j, none⟩ := by unfold Addr.add; split <;> simp_all
    rw [e]
    refine hcell j v ?_
    rw [bytes_cells]
    rw [List.getElem?_map, List.getElem?_take] at hv
    split at hv
    · rw [List.getElem?_map]; exact hv
    · cases hv
  have HMIN : Hid (256 = Nat.min l4.length 256) := Lib.hid ((Nat.min_eq_right (by omega)).symm)
  have hll : rb ≠ tb := by omega
  simp only [Act.put, List.setIfInBounds_toArray, List.set_cons_zero, List.set_cons_succ]
  go_cut [] (fun wq => ∃ A2 c2, Hid (US w wq rb tb A2 c2 (l4.drop 256, false) (tabA (l4.take 256) (.slice none 0 0) (.slice none 0 0) (.slice none 0 0))))
  case first =>
    by_cases hc256 : c1 = 256
    · subst hc256
      go_region_law ((refine step_copyW (by rfl) _ _ 30 30 (by rfl) 5 Try.underlying30 info_u8s tb 0 256 256 l4.length 256 256 ⟨gb2, go2, none⟩ (by rfl) (by rfl) zeroT _ HTAB.out ((l4.take 256).map (Value.int .u8)) (by rw [List.length_map]; exact HCL.out) HMIN.out HSRC.out (by rw [zeroT_size]; decide) (fun v hv => by obtain ⟨x, _, rfl⟩ := List.mem_map.1 hv; rfl) _ (tabA_copy HCL.out) ?_; intro w3 HW3; (obtain ⟨s0, s1⟩ := (HR4.out.drewN 1).behindRow HW3.out hll)))
      all_goals
        have hl0 : l4.length = 256 := by omega
        have hd0 : l4.drop 256 = [] := List.drop_eq_nil_of_le (by omega)
        have HUS := Lib.hid (US.start (w3 := w3) (A' := some ⟨gb2, go2, none⟩) (c' := 0) (rest := []) (HR4.out.drewN 1) (HZ4.out.drewN 1) HTAB.out hzl hrt HW3.out ⟨Sl.nil_ _ _ _, fun x hx => (by cases hx), by simp⟩ (by simp) HR4.out.lt)
        go_wp2_with fail
        go_meet
        exact ⟨_, _, by rw [hd0]; exact HUS⟩
    go_region_law ((refine step_copyW (by rfl) _ _ 30 30 (by rfl) 5 Try.underlying30 info_u8s tb 0 256 256 l4.length c1 256 ⟨gb2, go2, none⟩ (by rfl) (by rfl) zeroT _ HTAB.out ((l4.take 256).map (Value.int .u8)) (by rw [List.length_map]; exact HCL.out) HMIN.out HSRC.out (by rw [zeroT_size]; decide) (fun v hv => by obtain ⟨x, _, rfl⟩ := List.mem_map.1 hv; rfl) _ (tabA_copy HCL.out) ?_; intro w3 HW3; (obtain ⟨s0, s1⟩ := (HR4.out.drewN 1).behindRow HW3.out hll)))
    all_goals
      have HBR := Lib.hid (bytes_drop (k := 256) (HR4.out.drewN 1).by_ (by show 256 ≤ l4.length; omega))
      have HUS := Lib.hid (US.start (w3 := w3) (A' := some ⟨gb2, go2 + 256, none⟩) (c' := c1 - 256) (rest := l4.drop 256) (HR4.out.drewN 1) (HZ4.out.drewN 1) HTAB.out hzl hrt HW3.out HBR.out (by rw [List.length_drop]; omega) HR4.out.lt)
      rw [List.length_drop] at HUS
      go_wp2_with fail
      go_meet
      exact ⟨_, _, HUS⟩
  case rest =>
  obtain ⟨A2, c2, HU⟩ := hcut
  clear HR4 HTAB HZ4 q0 q1 hcc i0 i1 i2 HSRC HMIN HCL hgw g4 gc HBA
  have HGI : Hid (UnpackOk l → GoodInner s0.1 ∧ (rEnds s0).2.1 = []) := Lib.hid fun h => by rw [← HS0.out]; exact ⟨h.1.2.2.2.1, h.1.2.2.2.2⟩
  have HSB : Hid (s0 = (s0.1, false)) := Lib.hid (by rw [← HS0.out])
  obtain ⟨lr, hlr⟩ : ∃ lr, l4.drop 256 = lr := ⟨_, rfl⟩
  rw [hlr] at HU
  have HH5 : Hid (h5 s0 = (lr, false)) := Lib.hid (by unfold h5; rw [HS4.out, hlr])
  have hlrl : lr.length ≤ 1073741824 := by rw [← hlr, List.length_drop]; omega
  clear hlr
  obtain ⟨K, hKK⟩ : ∃ K, (rNum s0).1 = K := ⟨_, rfl⟩
  obtain ⟨Nn, hNN⟩ : ∃ N, (rNum (h1 s0)).1 = N := ⟨_, rfl⟩
  obtain ⟨Ac, hAc⟩ : ∃ N, (rNum (h2 s0)).1 = N := ⟨_, rfl⟩
  obtain ⟨En, hEn⟩ : ∃ N, (rNum (h3 s0)).1 = N := ⟨_, rfl⟩
  have HBAD : Hid (K < 1 ∨ 256 < K ∨ Nn < 1 ∨ 4096 < Nn ∨ Ac < 0 ∨ 4096 < Ac ∨ En < 0 ∨ 4096 < En ∨ lr.length < Nn.toNat * (8 + 4 * K.toNat) → ¬ UnpackOk l) := Lib.hid fun h hu => by
    have h2 := (HGI.out hu).1.2.1
    rw [← HSB.out] at h2
    unfold badHead at h2
    rw [hKK, hNN, hAc, hEn, HH5.out] at h2
    exact h2 h
  have HNUM := Lib.hid (And.intro hKK (And.intro hNN (And.intro hAc hEn)))
  rw [hKK, hNN, hAc, hEn]
  clear hKK hNN hAc hEn
  have q0 := HU.out.rd.c0.1
  simp only at q0
  by_cases t1 : K < 1
  · have HNO := Lib.hid (HBAD.out (.inl t1))
    go_wp2_with (first
      | (refine wpList_buildZ rfl 27 rfl zeroT built_tab ?_)
      | (refine wpList_store_row rfl 27 _ _ rfl w.heap.size zeroT rfl rfl 27 zeroT HU.out.res info_tabS' rfl (cells_one zeroT_C) ?_))
    exact bad_end hK rfl rfl rfl HU.out.res HU.out.bl HNO.out
  have t1 : 1 ≤ K := by omega
  by_cases t2 : 256 < K
  · have HNO := Lib.hid (HBAD.out (.inr (.inl t2)))
    go_wp2_with (first
      | (refine wpList_buildZ rfl 27 rfl zeroT built_tab ?_)
      | (refine wpList_store_row rfl 27 _ _ rfl w.heap.size zeroT rfl rfl 27 zeroT HU.out.res info_tabS' rfl (cells_one zeroT_C) ?_))
    exact bad_end hK rfl rfl rfl HU.out.res HU.out.bl HNO.out
  have t2 : K ≤ 256 := by omega
  by_cases t3 : Nn < 1
  · have HNO := Lib.hid (HBAD.out (.inr (.inr (.inl t3))))
    go_wp2_with (first
      | (refine wpList_buildZ rfl 27 rfl zeroT built_tab ?_)
      | (refine wpList_store_row rfl 27 _ _ rfl w.heap.size zeroT rfl rfl 27 zeroT HU.out.res info_tabS' rfl (cells_one zeroT_C) ?_))
    exact bad_end hK rfl rfl rfl HU.out.res HU.out.bl HNO.out
  have t3 : 1 ≤ Nn := by omega
  by_cases t4 : 4096 < Nn
  · have HNO := Lib.hid (HBAD.out (.inr (.inr (.inr (.inl t4)))))
    go_wp2_with (first
      | (refine wpList_buildZ rfl 27 rfl zeroT built_tab ?_)
      | (refine wpList_store_row rfl 27 _ _ rfl w.heap.size zeroT rfl rfl 27 zeroT HU.out.res info_tabS' rfl (cells_one zeroT_C) ?_))
    exact bad_end hK rfl rfl rfl HU.out.res HU.out.bl HNO.out
  have t4 : Nn ≤ 4096 := by omega
  by_cases t5 : Ac < 0
  · have HNO := Lib.hid (HBAD.out (.inr (.inr (.inr (.inr (.inl t5))))))
    go_wp2_with (first
      | (refine wpList_buildZ rfl 27 rfl zeroT built_tab ?_)
      | (refine wpList_store_row rfl 27 _ _ rfl w.heap.size zeroT rfl rfl 27 zeroT HU.out.res info_tabS' rfl (cells_one zeroT_C) ?_))
    exact bad_end hK rfl rfl rfl HU.out.res HU.out.bl HNO.out
  have t5 : 0 ≤ Ac := by omega
  by_cases t6 : 4096 < Ac
  · have HNO := Lib.hid (HBAD.out (.inr (.inr (.inr (.inr (.inr (.inl t6)))))))
    go_wp2_with (first
      | (refine wpList_buildZ rfl 27 rfl zeroT built_tab ?_)
      | (refine wpList_store_row rfl 27 _ _ rfl w.heap.size zeroT rfl rfl 27 zeroT HU.out.res info_tabS' rfl (cells_one zeroT_C) ?_))
    exact bad_end hK rfl rfl rfl HU.out.res HU.out.bl HNO.out
  have t6 : Ac ≤ 4096 := by omega
  by_cases t7 : En < 0
  · have HNO := Lib.hid (HBAD.out (.inr (.inr (.inr (.inr (.inr (.inr (.inl t7))))))))
    go_wp2_with (first
      | (refine wpList_buildZ rfl 27 rfl zeroT built_tab ?_)
      | (refine wpList_store_row rfl 27 _ _ rfl w.heap.size zeroT rfl rfl 27 zeroT HU.out.res info_tabS' rfl (cells_one zeroT_C) ?_))
    exact bad_end hK rfl rfl rfl HU.out.res HU.out.bl HNO.out
  have t7 : 0 ≤ En := by omega
  by_cases t8 : 4096 < En
  · have HNO := Lib.hid (HBAD.out (.inr (.inr (.inr (.inr (.inr (.inr (.inr (.inl t8)))))))))
    go_wp2_with (first
      | (refine wpList_buildZ rfl 27 rfl zeroT built_tab ?_)
      | (refine wpList_store_row rfl 27 _ _ rfl w.heap.size zeroT rfl rfl 27 zeroT HU.out.res info_tabS' rfl (cells_one zeroT_C) ?_))
    exact bad_end hK rfl rfl rfl HU.out.res HU.out.bl HNO.out
  have t8 : En ≤ 4096 := by omega
  have i3 : (0 : Int) ≤ lr.length := by omega
  have i4 : (lr.length : Int) ≤ 1073741824 := by omega
  have HQ := Lib.hid (wrap_quo (n := lr.length) (K := K) t1 (by omega))
  by_cases t9 : wrap64 ((lr.length : Int) / (8 + 4 * K)) < Nn
  · have HNO := Lib.hid (HBAD.out (.inr (.inr (.inr (.inr (.inr (.inr (.inr (.inr (quo_yes (by omega) (by omega) (by rw [HQ.out] at t9; exact t9)))))))))))
    go_wp2_with (first
      | (refine wpList_buildZ rfl 27 rfl zeroT built_tab ?_)
      | (refine wpList_store_row rfl 27 _ _ rfl w.heap.size zeroT rfl rfl 27 zeroT HU.out.res info_tabS' rfl (cells_one zeroT_C) ?_))
    exact bad_end hK rfl rfl rfl HU.out.res HU.out.bl HNO.out
  have t9 : Nn ≤ wrap64 ((lr.length : Int) / (8 + 4 * K)) := Int.not_lt.1 t9
  have HGH : Hid (¬ badHead s0) := Lib.hid (by
    obtain ⟨z1, z2, z3, z4⟩ := HNUM.out
    unfold badHead
    rw [z1, z2, z3, z4, HH5.out]
    have := quo_no (n := lr.length) (K := K) (N := Nn) (by omega) (by omega) (by rw [HQ.out] at t9; exact t9)
    show ¬ (K < 1 ∨ 256 < K ∨ Nn < 1 ∨ 4096 < Nn ∨ Ac < 0 ∨ 4096 < Ac ∨ En < 0 ∨ 4096 < En ∨ lr.length < Nn.toNat * (8 + 4 * K.toNat))
    omega)
  go_wp2_with fail
  clear q0 t9 i3 i4
  obtain ⟨kk, rfl⟩ := Int.eq_ofNat_of_zero_le (show 0 ≤ K by omega)
  obtain ⟨nn, rfl⟩ := Int.eq_ofNat_of_zero_le (show 0 ≤ Nn by omega)
  obtain ⟨ac, rfl⟩ := Int.eq_ofNat_of_zero_le t5
  obtain ⟨en, rfl⟩ := Int.eq_ofNat_of_zero_le t7
  have HCL : Hid ((l4.take 256).length = 256 ∧ U8s (l4.take 256)) := Lib.hid ⟨by rw [List.length_take]; omega, fun x hx => HS4U.out x (List.mem_of_mem_take hx)⟩
  have HCT : Hid ((h4 s0).1.take 256 = l4.take 256) := Lib.hid (by rw [HS4.out])
  generalize l4.take 256 = cls at HU HCL HCT
  have HND : Hid (rNodes s0 = rList (rNode kk) nn (lr, false)) := Lib.hid (by
    unfold rNodes; rw [HH5.out, HNUM.out.1, HNUM.out.2.1, Int.toNat_natCast, Int.toNat_natCast])
  have HAD : Hid (rActs s0 = rLoop rAct ac (rNodes s0).2) := Lib.hid (by unfold rActs; rw [HNUM.out.2.2.1, Int.toNat_natCast])
  have HED : Hid (rEnds s0 = rLoop rTerms en (rActs s0).2) := Lib.hid (by unfold rEnds; rw [HNUM.out.2.2.2, Int.toNat_natCast])
  clear HNUM HBAD HQ t3 t5 t7
  have htl := HU.out.tlt
  have hrt := HU.out.l2
  obtain ⟨n1, hn1⟩ : ∃ n1, wc.heap.size = n1 := ⟨_, rfl⟩
  rw [hn1] at htl
  have HG0 : Hid (GoRow n1 47 3 nodeC NodeW none 0 [] wc) := Lib.hid (GoRow.nil_ _ _ _ _ _ _)
  have HN1 : Hid (n1 ≤ wc.heap.size) := Lib.hid (Nat.le_of_eq hn1.symm)
  clear hn1
  go_loopw [122] (fun iv wq => ∃ (k : Nat) (An : Option Addr) (cn : Nat) (L : List NodeI) (A3 : Option Addr) (c3 : Nat), k ≤ nn ∧ iv = .int .i64 k ∧ Hid (L.length = k ∧ L.map NodeI.L = (rList (rNode kk) k (lr, false)).1) ∧ Hid (US w wq rb tb A3 c3 (rList (rNode kk) k (lr, false)).2 (tabA cls (.slice An L.length cn) (.slice none 0 0) (.slice none 0 0))) ∧ Hid (GoRow n1 47 3 nodeC NodeW An cn L wq) ∧ Hid (n1 ≤ wq.heap.size)) (fun iv _ => nn - (intOf iv).toNat)
  case atStart => exact ⟨0, none, 0, [], _, _, Nat.zero_le _, rfl, Lib.hid ⟨rfl, rfl⟩, HU, HG0, HN1⟩
  case round =>
  clear HU HG0 HN1
  obtain ⟨k, An, cn, L, A3, c3, hk, rfl, HL, HU, HG, HN1⟩ := hrel
  by_cases hlt : k < nn
  · obtain ⟨s2, hs2⟩ : ∃ z, (rList (rNode kk) k (lr, false)).2 = z := ⟨_, rfl⟩
    rw [hs2] at HU
    have HS2 := Lib.hid hs2
    clear hs2
    have HU2 : Hid (U8s s2.1) := Lib.hid HU.out.rd.u8
    have HOq := Lib.hid (Only.refl rb none wr)
    go_wp2_with (go_at_call 26; refine (num_us HU).mono ?_; rintro e w5 ⟨rfl, A3, c3, HU, HO5⟩; (have HOq := Lib.hid (HOq.out.trans HO5.out (Newer.refl _ _))); clear HO5)
    obtain ⟨y0, hy0⟩ : ∃ y, (rNum s2).1 = y := ⟨_, rfl⟩
    obtain ⟨y1, hy1⟩ : ∃ y, (rNum (rNum s2).2).1 = y := ⟨_, rfl⟩
    obtain ⟨s3, hs3⟩ : ∃ z, (rNum (rNum s2).2).2 = z := ⟨_, rfl⟩
    have HRN : Hid (rNode kk s2 = (⟨y0, (rList rNum kk s3).1, y1⟩, (rList rNum kk s3).2)) := Lib.hid (by unfold rNode; rw [hy0, hy1, hs3])
    rw [hs3] at HU
    have HY : Hid (I64 y0 ∧ I64 y1 ∧ U8s s3.1) := Lib.hid ⟨hy0 ▸ (rNum_i32 HU2.out).i64, hy1 ▸ (rNum_i32 (rNum_u8 HU2.out)).i64, HU.out.rd.u8⟩
    rw [hy0, hy1]
    clear hy0 hy1 hs3
    have HUb := Lib.hid (HU.out.alloc (.cells #[.int .i64 y0, .slice none 0 0, .int .i64 y1] 47))
    have hub := HU.out.tlt
    have HP0 : Hid (PSt (w5.alloc (.cells #[.int .i64 y0, .slice none 0 0, .int .i64 y1] 47)) w.heap.size rb A3 c3 s3 w5.heap.size #[.int .i64 y0, .slice none 0 0, .int .i64 y1] 47 (w5.heap.size + 1) 3 1 none 0 0 []) :=
      Lib.hid ⟨HUb.out.rd, heap_alloc_new w5 _, ⟨rfl, .inl ⟨rfl, rfl⟩⟩, by omega, by omega, by simp⟩
    have hn5 : n1 ≤ w5.heap.size := Nat.le_trans HN1.out HOq.out.size
    have HG5 := Lib.hid (HG.out.only (show rb < n1 by omega) HOq.out)
    have HOb := Lib.hid (Only.refl rb (some w5.heap.size) (w5.alloc (.cells #[.int .i64 y0, .slice none 0 0, .int .i64 y1] 47)))
    clear HU HU2 HG HOq
    obtain ⟨bb, hbb⟩ : ∃ z, w5.heap.size = z := ⟨_, rfl⟩
    rw [hbb] at HP0 HOb hn5 hub ⊢
    go_loopw [130] (fun i2 wq => ∃ (m : Nat) (Ax : Option Addr) (cx : Nat) (lx : List Int) (A5 : Option Addr) (c5 : Nat), m ≤ kk ∧ i2 = .int .i64 m ∧ Hid (lx.length = m) ∧ Hid (lx = (rList rNum m s3).1) ∧ Hid (PSt wq w.heap.size rb A5 c5 (rList rNum m s3).2 bb #[.int .i64 y0, .slice Ax m cx, .int .i64 y1] 47 (bb + 1) 3 1 Ax cx m (lx.map (Value.int .i64))) ∧ Hid (Only rb (some bb) (w5.alloc (.cells #[.int .i64 y0, .slice none 0 0, .int .i64 y1] 47)) wq)) (fun i2 _ => kk - (intOf i2).toNat)
    case atStart => exact ⟨0, none, 0, [], A3, c3, Nat.zero_le _, rfl, Lib.hid rfl, Lib.hid rfl, HP0, HOb⟩
    case round =>
    obtain ⟨m, Ax, cx, lx, A5, c5, hm, rfl, hlm, HL2, HP, HO7⟩ := hrel
    by_cases hlt2 : m < kk
    · obtain ⟨s4, hs4⟩ : ∃ z, (rList rNum m s3).2 = z := ⟨_, rfl⟩
      rw [hs4] at HP
      have HS4' := Lib.hid hs4
      clear hs4
      have HPD := Lib.hid (HP.out.drewN 1)
      obtain ⟨i0, hi, hz0, hz1, hz2⟩ := info_parts info_intU
      have HOD := Lib.hid (HO7.out.drewN 1)
      have s5 := HP.out.cell (i := 1) rfl
      have s6 := HP.out.cellA (i := 1) rfl
      go_wp2_with fail
      go_region_law ((first
          | (go_simp; go_at_call 26; refine (num_pst HPD).mono ?_; rintro e w7 ⟨rfl, A5, c5, HPD, HO8⟩; (have HOD := Lib.hid (HOD.out.trans HO8.out.any (Newer.refl _ _))); clear HO8; clear s5 s6; (have s5 := HPD.out.cell (i := 1) rfl); (have s6 := HPD.out.cellA (i := 1) rfl))
          | (refine step_pushG (by rfl) _ _ 45 (by rfl) (bb + 1) 3 i0 _ 1 8 Try.underlying45 hi hz0 hz1 hz2 rfl (by decide) HPD.out.own (by rfl) [.int .i64 (rNum s4).1] 3 (by rfl) (by rfl) (by simp [Value.oneCell']) (by omega) (by decide) HPD.out.l3 ?_; intro A9 c9 w9 HO9 HG9 HN9; (have s9 := HPD.out.boxG HG9.out (i := 1) rfl); (have f9 := HPD.out.frG HG9.out 1))))
      all_goals
        have HPN := Lib.hid (HPD.out.push HO9.out HG9.out 1)
        have HON := Lib.hid (((HOD.out.alloc _).grownN HG9.out (fun g hg => by have := (HPD.out.own.lt g (by rw [own_ownA]; exact hg)).1; simp; omega)).setR 1 (.slice A9 (m + 1) c9))
        go_wp2_with fail
        go_roundw
        case rel => exact ⟨m + 1, A9, c9, lx ++ [(rNum s4).1], _, _, by omega, by go_num, Lib.hid (by rw [List.length_append, hlm.out]; rfl), Lib.hid (by rw [rList_snoc, HS4'.out, HL2.out]), Lib.hid (by rw [rList_snoc, HS4'.out, List.map_append]; exact HPN.out), HON⟩
        case measure => simp [intOf]; omega
    · obtain rfl : m = kk := by omega
      have hd : decide (m < m) = false := by simp
      have t0 := HP.out.cell (i := 0) rfl
      have t1' := HP.out.cell (i := 1) rfl
      have t2' := HP.out.cell (i := 2) rfl
      obtain rfl := hlm.out
      obtain ⟨j0, kj, kz0, kz1, kz2⟩ := info_parts info_node
      have HUr := Lib.hid (HUb.out.only2 HO7.out (by omega) HP.out.rd)
      have h26 := HO7.out.size
      have h27 : bb + 1 ≤ wr.heap.size := by simp at h26; omega
      have hLk : L.length = k := HL.out.1
      have HGr : Hid (GoRow n1 47 3 nodeC NodeW An cn L wr) := Lib.hid (HG5.out.keep (by omega) fun k hk hl => by
        rw [HO7.out.block k (by simp; omega) (by omega) (fun e => by injection e with e; omega), Below.heap_alloc _ _ _ hl])
      have HX : Hid (Dep (fun k => n1 ≤ k ∧ some k ≠ ownA An) wr (NodeW ⟨y0, Ax, cx, lx, y1⟩)) := Lib.hid fun V hV => ⟨⟨HY.out.1, HY.out.2.1⟩, by
        rw [int_cells]
        exact Sl.of_own (own_keep HP.out.own fun g hg => by
          have h1 := HP.out.own.lt g (by rw [own_ownA]; exact hg)
          exact hV g ⟨by omega, fun e => by have := (HG5.out.rlt g e.symm).2; omega⟩ h1.2), fun p hp => by rw [HL2.out] at hp; exact rNums_w _ HY.out.2.2 p hp, by show lx.length ≤ 9223372036854775807; omega⟩
      have hbase : n1 ≤ wr.heap.size := by omega
      have u0 := HUr.out.cell (i := 256) (tabA_a1 HCL.out.1)
      have HLK := Lib.hid hLk
      have hL40 : L.length < 1099511627776 := by omega
      clear h26 hLk
      go_wp2_with (at_builtin; go_must (refine wpList_pushG rfl _ _ 23 rfl n1 47 j0 _ 3 40 Try.underlying23 kj kz0 kz1 kz2 rfl (by decide) HGr.out.own rfl [.int .i64 y0, .slice Ax lx.length cx, .int .i64 y1] _ rfl rfl (by simp [Value.oneCell']) hL40 (by decide) hbase ?_); intro A9 c9 w9 HO9 HG9 HN9; (have HU9 := Lib.hid (HUr.out.grown HG9.out (fun g hg => by have := (HGr.out.rlt g hg).1; omega))); (have s9 := HU9.out.cell (i := 256) (tabA_a1 HCL.out.1)); (have f9 := HU9.out.fr 256))
      have HGN := Lib.hid ((HGr.out.push (x := ⟨y0, Ax, cx, lx, y1⟩) HO9.out HG9.out HN9.out HX.out).set tb 256 (.slice A9 (L.length + 1) c9) (by omega))
      have HUN := Lib.hid (HU9.out.set 256 (.slice A9 (L.length + 1) c9))
      have hz9 : n1 ≤ w9.heap.size := by have := HG9.out.size; simp at this; omega
      rw [tabA_s1 HCL.out.1] at HUN
      have hl1' : (L ++ [(⟨y0, Ax, cx, lx, y1⟩ : NodeI)]).length = L.length + 1 := by simp
      exact ⟨⟨k + 1, A9, c9, L ++ [⟨y0, Ax, cx, lx, y1⟩], _, _, by omega, by go_num, Lib.hid ⟨by rw [hl1', HLK.out], by rw [rList_snoc, HS2.out, HRN.out, List.map_append, HL.out.2, ← HL2.out]; rfl⟩, by rw [rList_snoc, HS2.out, HRN.out, hl1']; exact HUN, HGN, Lib.hid (by simpa [World.setCell] using hz9)⟩, by simp [intOf]; omega⟩
  · obtain rfl : k = nn := by omega
    have hd : decide (k < k) = false := by simp
    have HNL : Hid (L.map NodeI.L = (rNodes s0).1) := Lib.hid (by rw [HND.out]; exact HL.out.2)
    rw [← HND.out] at HU
    have hs6 : (rNodes s0).2.1.length ≤ 1073741824 := by rw [HND.out]; exact Nat.le_trans (rList_le (rNode_le _) _ _) hlrl
    generalize (rNodes s0).2 = s6 at HU HAD hs6
    go_upto_block 4 with fail
    obtain ⟨wl, rfl⟩ : ∃ wl, wl = wr := ⟨_, rfl⟩
    obtain ⟨n2, hn2⟩ : ∃ n2, wl.heap.size = n2 := ⟨_, rfl⟩
    have hn12 : n1 ≤ n2 := by rw [← hn2]; exact HN1.out
    have HN2 : Hid (wl.heap.size = n2) := Lib.hid hn2
    have HSM : Hid (n2 ≤ wl.heap.size ∧ Same n1 n2 wl wl) := Lib.hid ⟨Nat.le_of_eq hn2.symm, Same.refl _ _ _⟩
    have HDN : Hid (Dep (fun k => n1 ≤ k ∧ k < n2) wl (NodesAt An L)) := Lib.hid (HG.out.rowsD (by have := HL.out.1; omega) (Nat.le_of_eq hn2))
    have HGA : Hid (GoRow n2 51 3 actC ActW none 0 [] wl) := Lib.hid (GoRow.nil_ _ _ _ _ _ _)
    clear hn2 HG HN1 HL
    have HDA := Lib.hid (Done.start rAct ActI.L ac s6)
    have h1t : tb < n1 := htl
    have hrn1 : rb < n1 := by omega
    have hac : ac ≤ 4096 := by omega
    have hen : en ≤ 4096 := by omega
    go_cut [] (fun wq => ∃ (Aa : Option Addr) (ca : Nat) (La : List ActI) (A3 : Option Addr) (c3 : Nat), La.length ≤ 4096 ∧ Hid (La.map ActI.L = (rActs s0).1) ∧ (rActs s0).2.1.length ≤ 1073741824 ∧ Hid (US w wq rb tb A3 c3 (rActs s0).2 (tabA cls (.slice An L.length cn) (.slice Aa La.length ca) (.slice none 0 0))) ∧ Hid (GoRow n2 51 3 actC ActW Aa ca La wq) ∧ Hid (n2 ≤ wq.heap.size ∧ Same n1 n2 wl wq))
    case first =>
      go_wp2_with fail
      go_loopw [15] (fun iv wq => ∃ (k : Nat) (Aa : Option Addr) (ca : Nat) (La : List ActI) (A3 : Option Addr) (c3 : Nat) (sk : RdL), k ≤ ac ∧ iv = .int .i64 k ∧ sk.1.length ≤ 1073741824 ∧ Hid (Done rAct ActI.L ac s6 k La sk) ∧ Hid (US w wq rb tb A3 c3 sk (tabA cls (.slice An L.length cn) (.slice Aa La.length ca) (.slice none 0 0))) ∧ Hid (GoRow n2 51 3 actC ActW Aa ca La wq) ∧ Hid (n2 ≤ wq.heap.size ∧ Same n1 n2 wl wq)) (fun iv _ => ac - (intOf iv).toNat)
      case atStart => exact ⟨0, none, 0, [], _, _, s6, Nat.zero_le _, rfl, hs6, HDA, HU, HGA, HSM⟩
      case round =>
      clear HU HGA HSM HDA
      obtain ⟨k, Aa, ca, La, A3, c3, ⟨lk, bk⟩, hk, rfl, hsk, HD, HU, HGA, HSM⟩ := hrel
      have hLa := Lib.hid HD.out.len
      have q1 := HU.out.rd.c0.2
      simp only at q1 hsk
      by_cases hlt : k < ac
      · rcases bk with _ | _
        · have hl2 : (rNum (rNum (lk, false)).2).2.1.length ≤ 1073741824 := Nat.le_trans (rNum_le _) (Nat.le_trans (rNum_le _) hsk)
          have hl3 : (rAct (lk, false)).2.1.length ≤ 1073741824 := Nat.le_trans (rAct_le _) hsk
          have HYU : Hid (U8s lk) := Lib.hid HU.out.rd.u8
          obtain ⟨j0, kj, kz0, kz1, kz2⟩ := info_parts info_act
          go_upto_region 28 with (first
            | (go_at_call 26; refine (num_us HU).mono ?_; rintro e w5 ⟨rfl, A3, c3, HU, HO5⟩; (have HSM := Lib.hid (And.intro (Nat.le_trans HSM.out.1 HO5.out.size) (HSM.out.2.only HSM.out.1 hrn1 HO5.out))); (have HGA := Lib.hid (HGA.out.only (show rb < n2 by omega) HO5.out)); clear HO5)
            | (go_at_call 27; (have hb5 := HU.out.tlt); refine (terms_us (Lib.hid (HU.out.alloc _)) hl2).mono ?_; rintro e w7 ⟨B, d, L2, rfl, HL2, HT2, A4, c4, HU7, HO7⟩; (have hb7 := (HO7.out.block _ (by simp) (by omega) (by simp)).trans (heap_alloc_new w5 _)); (have s2 := box_cell hb7 (i := 2) rfl); (have f2 : w7.frozen? ⟨w5.heap.size, 2, none⟩ = false := frozen_of_row _ _ _ _ _ hb7)))
          have hb8 : (w7.setCell ⟨w5.heap.size, 2, none⟩ (.slice B L2.length d)).heap[w5.heap.size]? = some (.cells #[.int .i64 (rNum (lk, false)).1, .int .i64 (rNum (rNum (lk, false)).2).1, .slice B L2.length d] 51 (0, 0)) := by rw [heap_setCell_same w7 _ 2 _ _ _ hb7]; rfl
          have HU8 := Lib.hid (HU7.out.setB 2 (.slice B L2.length d) hb5)
          have h25 : n2 ≤ w5.heap.size := HSM.out.1
          have h57 : w5.heap.size + 1 ≤ w7.heap.size := by have := HO7.out.size; simpa using this
          have HG8 := Lib.hid (HGA.out.keep (W' := w7.setCell ⟨w5.heap.size, 2, none⟩ (.slice B L2.length d)) (by simp [World.setCell]; omega) fun k h1 h2 => by
            rw [heap_setCell_other _ _ _ _ (show k ≠ w5.heap.size by omega), HO7.out.block k (by simp; omega) (by omega) (by simp), Below.heap_alloc _ _ _ h2])
          have HS8 := Lib.hid ((((HSM.out.2.alloc HSM.out.1 (.cells #[.int .i64 (rNum (lk, false)).1, .int .i64 (rNum (rNum (lk, false)).2).1, .slice none 0 0] 51)).only (by simp; omega) hrn1 HO7.out).set w5.heap.size 2 (.slice B L2.length d) (.inr h25)))
          have HX : Hid (Dep (fun k => n2 ≤ k ∧ some k ≠ ownA Aa) (w7.setCell ⟨w5.heap.size, 2, none⟩ (.slice B L2.length d)) (ActW ⟨(rNum (lk, false)).1, (rNum (rNum (lk, false)).2).1, ⟨B, d, L2⟩⟩)) := Lib.hid fun V hV => ⟨⟨(rNum_i32 HYU.out).i64, (rNum_i32 (rNum_u8 HYU.out)).i64⟩, (HT2.out.step (P' := fun k => n2 ≤ k ∧ some k ≠ ownA Aa) (w' := w7.setCell ⟨w5.heap.size, 2, none⟩ (.slice B L2.length d)) (fun k hp hl => heap_setCell_other _ _ _ _ (by simp at hp; show k ≠ w5.heap.size; omega)) (by simp [World.setCell]) (fun k hp hl => ⟨by simp at hp; omega, fun e => by have := HGA.out.rlt k e.symm; simp at hp; omega⟩)) V hV⟩
          have t0 := box_cell hb8 (i := 0) rfl
          have t1' := box_cell hb8 (i := 1) rfl
          have t2' := box_cell hb8 (i := 2) rfl
          have u0 := HU8.out.cell (i := 257) (tabA_a2 HCL.out.1)
          have h28 : n2 ≤ (w7.setCell ⟨w5.heap.size, 2, none⟩ (.slice B L2.length d)).heap.size := by simp [World.setCell]; omega
          have hL40 : La.length < 1099511627776 := by have := hLa.out; omega
          have HB5 := Lib.hid hb5
          clear hb8 hb7 hb5 s2 f2 q1
          generalize w7.setCell ⟨w5.heap.size, 2, none⟩ (.slice B L2.length d) = w8 at HU8 HG8 HS8 HX t0 t1' t2' u0 h28 ⊢
          go_wp2_with (at_builtin; go_must (refine wpList_pushG rfl _ _ 24 rfl n2 51 j0 _ 3 40 Try.underlying24 kj kz0 kz1 kz2 rfl (by decide) HG8.out.own rfl [.int .i64 (rNum (lk, false)).1, .int .i64 (rNum (rNum (lk, false)).2).1, .slice B L2.length d] _ rfl rfl (by simp [Value.oneCell']) hL40 (by decide) h28 ?_); intro A9 c9 w9 HO9 HG9 HN9; (have HU9 := Lib.hid (HU8.out.grown HG9.out (fun g hg => by have := (HG8.out.rlt g hg).1; omega))); (have s9 := HU9.out.cell (i := 257) (tabA_a2 HCL.out.1)); (have f9 := HU9.out.fr 257))
          have HGN := Lib.hid ((HG8.out.push (x := ⟨(rNum (lk, false)).1, (rNum (rNum (lk, false)).2).1, ⟨B, d, L2⟩⟩) HO9.out HG9.out HN9.out HX.out).set tb 257 (.slice A9 (La.length + 1) c9) (by omega))
          have HUN := Lib.hid (HU9.out.set 257 (.slice A9 (La.length + 1) c9))
          have HSN := Lib.hid (((HS8.out.alloc h28 _).grown (by simp; omega) HG9.out (fun g hg => (HG8.out.rlt g hg).1)).set tb 257 (.slice A9 (La.length + 1) c9) (.inl h1t))
          have hz9 : n2 ≤ w9.heap.size := by have := HG9.out.size; simp at this; omega
          rw [tabA_s2 HCL.out.1] at HUN
          have hl1' : (La ++ [(⟨(rNum (lk, false)).1, (rNum (rNum (lk, false)).2).1, ⟨B, d, L2⟩⟩ : ActI)]).length = La.length + 1 := by simp
          exact ⟨⟨k + 1, A9, c9, La ++ [⟨(rNum (lk, false)).1, (rNum (rNum (lk, false)).2).1, ⟨B, d, L2⟩⟩], A4, c4, (rAct (lk, false)).2, by omega, by go_num, hl3, Lib.hid (HD.out.step hlt rfl (by show (⟨_, _, L2.map TermI.L⟩ : ActL) = _; rw [HL2.out]; rfl)), by rw [hl1']; exact HUN, HGN, Lib.hid ⟨by simpa [World.setCell] using hz9, HSN.out⟩⟩, by simp [intOf]; omega⟩
        · go_wp2_with fail
          go_meet
          exact ⟨Aa, ca, La, A3, c3, by have := hLa.out; omega, Lib.hid (by rw [HAD.out, HD.out.bad rfl]), by rw [HAD.out, HD.out.bad rfl]; exact hsk, by rw [HAD.out, HD.out.bad rfl]; exact HU, HGA, HSM⟩
      · obtain rfl : k = ac := by omega
        have hd : decide (k < k) = false := by simp
        go_wp2_with fail
        go_meet
        exact ⟨Aa, ca, La, A3, c3, by have := hLa.out; omega, Lib.hid (by rw [HAD.out, HD.out.full]), by rw [HAD.out, HD.out.full]; exact hsk, by rw [HAD.out, HD.out.full]; exact HU, HGA, HSM⟩
    case rest =>
    obtain ⟨Aa, ca, La, A3, c3, hLa, HLA, hs7, HU, HGA, HSM⟩ := hcut
    obtain ⟨wm, rfl⟩ : ∃ wm, wm = wc := ⟨_, rfl⟩
    obtain ⟨n3, hn3⟩ : ∃ n3, wm.heap.size = n3 := ⟨_, rfl⟩
    have hn23 : n2 ≤ n3 := by rw [← hn3]; exact HSM.out.1
    have HDM : Hid (Dep (fun k => n1 ≤ k ∧ k < n3) wm (fun W => NodesAt An L W ∧ ActsAt Aa La W)) := Lib.hid
      (((HDN.out.same HSM.out.2 (by have := HSM.out.1; have := HN2.out; omega)).mono fun k hp _ => ⟨hp.1, by omega⟩).and ((HGA.out.rowsD (by omega) (Nat.le_of_eq hn3)).mono fun k hp _ => ⟨by omega, hp.2⟩))
    have HSM : Hid (n3 ≤ wm.heap.size ∧ Same n1 n3 wm wm) := Lib.hid ⟨Nat.le_of_eq hn3.symm, Same.refl _ _ _⟩
    have HGE : Hid (GoRow n3 49 1 (fun o => [OutI.v o]) OutW none 0 [] wm) := Lib.hid (GoRow.nil_ _ _ _ _ _ _)
    have HN3 : Hid (wm.heap.size = n3) := Lib.hid hn3
    clear hn3 HDN HGA HN2
    generalize (rActs s0).2 = s7 at HU HED hs7
    have HDE := Lib.hid (Done.start rTerms OutI.L en s7)
    go_upto_block 6 with fail
    go_cut [] (fun wq => ∃ (Ae : Option Addr) (ce : Nat) (Le : List OutI) (A3 : Option Addr) (c3 : Nat), Le.length ≤ 4096 ∧ Hid (Le.map OutI.L = (rEnds s0).1) ∧ Hid (US w wq rb tb A3 c3 (rEnds s0).2 (tabA cls (.slice An L.length cn) (.slice Aa La.length ca) (.slice Ae Le.length ce))) ∧ Hid (GoRow n3 49 1 (fun o => [OutI.v o]) OutW Ae ce Le wq) ∧ Hid (n3 ≤ wq.heap.size ∧ Same n1 n3 wm wq))
    case first =>
      go_wp2_with fail
      go_loopw [17] (fun iv wq => ∃ (k : Nat) (Ae : Option Addr) (ce : Nat) (Le : List OutI) (A3 : Option Addr) (c3 : Nat) (sk : RdL), k ≤ en ∧ iv = .int .i64 k ∧ sk.1.length ≤ 1073741824 ∧ Hid (Done rTerms OutI.L en s7 k Le sk) ∧ Hid (US w wq rb tb A3 c3 sk (tabA cls (.slice An L.length cn) (.slice Aa La.length ca) (.slice Ae Le.length ce))) ∧ Hid (GoRow n3 49 1 (fun o => [OutI.v o]) OutW Ae ce Le wq) ∧ Hid (n3 ≤ wq.heap.size ∧ Same n1 n3 wm wq)) (fun iv _ => en - (intOf iv).toNat)
      case atStart => exact ⟨0, none, 0, [], _, _, s7, Nat.zero_le _, rfl, hs7, HDE, HU, HGE, HSM⟩
      case round =>
      clear HU HGE HSM HDE
      obtain ⟨k, Ae, ce, Le, A3, c3, ⟨lk, bk⟩, hk, rfl, hsk, HD, HU, HGE, HSM⟩ := hrel
      have hLe := Lib.hid HD.out.len
      have q1 := HU.out.rd.c0.2
      simp only at q1 hsk
      by_cases hlt : k < en
      · rcases bk with _ | _
        · have hl3 : (rTerms (lk, false)).2.1.length ≤ 1073741824 := Nat.le_trans (rTerms_le _) hsk
          obtain ⟨j0, kj, kz0, kz1, kz2⟩ := info_parts info_out
          go_wp2_with fail
          have HUD := Lib.hid (HU.out.drewN 1)
          have s5 := HU.out.cell (i := 258) (tabA_a3 HCL.out.1)
          have s6 := HU.out.cellA (i := 258) (tabA_a3 HCL.out.1)
          have h25 : n3 ≤ wr.heap.size := HSM.out.1
          have hL40 : Le.length < 1099511627776 := by have := hLe.out; omega
          clear q1
          go_region_law ((first
            | (go_simp; go_at_call 27; refine (terms_us HUD hsk).mono ?_; rintro e w7 ⟨B, d, L2, rfl, HL2, HT2, A4, c4, HUD, HO7⟩; clear s5 s6; (have s5 := HUD.out.cell (i := 258) (tabA_a3 HCL.out.1)); (have s6 := HUD.out.cellA (i := 258) (tabA_a3 HCL.out.1)); (have HG7 := Lib.hid ((HGE.out.drewN 1).only (show rb < n3 by omega) HO7.out)); (have h27 : n3 ≤ w7.heap.size := Nat.le_trans h25 HO7.out.size))
            | (refine step_pushG (by rfl) _ _ 25 (by rfl) n3 49 j0 _ 1 24 Try.underlying25 kj kz0 kz1 kz2 rfl (by decide) HG7.out.own (by rfl) [.slice B L2.length d] 49 (by rfl) (by rfl) (by simp [Value.oneCell']) hL40 (by decide) h27 ?_; intro A9 c9 w9 HO9 HG9 HN9; (have HU9 := Lib.hid (HUD.out.grown HG9.out (fun g hg => by have := (HG7.out.rlt g hg).1; omega))); (have s9 := HU9.out.cell (i := 258) (tabA_a3 HCL.out.1)); (have f9 := HU9.out.fr 258))))
          all_goals
            have HX : Hid (Dep (fun k => n3 ≤ k ∧ some k ≠ ownA Ae) w7 (OutW ⟨B, d, L2⟩)) := Lib.hid (HT2.out.mono fun k hp hl => ⟨Nat.le_trans h25 hp, fun e => by have := (HGE.out.rlt k e.symm).2; have hp : wr.heap.size ≤ k := hp; omega⟩)
            have HGN := Lib.hid ((HG7.out.push (x := ⟨B, d, L2⟩) HO9.out HG9.out HN9.out HX.out).set tb 258 (.slice A9 (Le.length + 1) c9) (by omega))
            have HUN := Lib.hid (HU9.out.set 258 (.slice A9 (Le.length + 1) c9))
            have HSN := Lib.hid (((((HSM.out.2.drewN 1).only h25 hrn1 HO7.out).alloc h27 _).grown (by simp; omega) HG9.out (fun g hg => (HG7.out.rlt g hg).1)).set tb 258 (.slice A9 (Le.length + 1) c9) (.inl h1t))
            have hz9 : n3 ≤ w9.heap.size := by have := HG9.out.size; simp at this; omega
            rw [tabA_s3 HCL.out.1] at HUN
            have hl1' : (Le ++ [(⟨B, d, L2⟩ : OutI)]).length = Le.length + 1 := by simp
            go_wp2_with fail
            exact ⟨⟨k + 1, A9, c9, Le ++ [⟨B, d, L2⟩], A4, c4, (rTerms (lk, false)).2, by omega, by go_num, hl3, Lib.hid (HD.out.step hlt rfl (by show L2.map TermI.L = _; rw [HL2.out])), by rw [hl1']; exact HUN, HGN, Lib.hid ⟨by simpa [World.setCell] using hz9, HSN.out⟩⟩, by simp [intOf]; omega⟩
        · go_wp2_with fail
          go_meet
          exact ⟨Ae, ce, Le, A3, c3, by have := hLe.out; omega, Lib.hid (by rw [HED.out, HD.out.bad rfl]), by rw [HED.out, HD.out.bad rfl]; exact HU, HGE, HSM⟩
      · obtain rfl : k = en := by omega
        have hd : decide (k < k) = false := by simp
        go_wp2_with fail
        go_meet
        exact ⟨Ae, ce, Le, A3, c3, by have := hLe.out; omega, Lib.hid (by rw [HED.out, HD.out.full]), by rw [HED.out, HD.out.full]; exact HU, HGE, HSM⟩
    case rest =>
    obtain ⟨Ae, ce, Le, A3, c3, hLe, HLE, HU, HGE, HSM⟩ := hcut
    obtain ⟨⟨lE, bE⟩, hsE⟩ : ∃ z : RdL, (rEnds s0).2 = z := ⟨_, rfl⟩
    rw [hsE] at HU
    have HSE := Lib.hid hsE
    clear hsE
    have q0 := HU.out.rd.c0.1
    have q1 := HU.out.rd.c0.2
    simp only at q0 q1
    rcases bE with _ | _
    · by_cases hE : 0 < lE.length
      · have hE' : (0 : Int) < lE.length := by omega
        have HNO : Hid (¬ UnpackOk l) := Lib.hid fun h => by
          have h2 := (HGI.out h).2
          rw [HSE.out] at h2
          have h2 : lE = [] := h2
          rw [h2] at hE
          exact Nat.lt_irrefl _ hE
        go_wp2_with (first
          | (refine wpList_buildZ rfl 27 rfl zeroT built_tab ?_)
          | (refine wpList_store_row rfl 27 _ _ rfl w.heap.size zeroT rfl rfl 27 zeroT HU.out.res info_tabS' rfl (cells_one zeroT_C) ?_))
        exact bad_end hK rfl rfl rfl HU.out.res HU.out.bl HNO.out
      · have hE' : decide ((0 : Int) < lE.length) = false := by rw [decide_eq_false_iff_not]; omega
        have HE0 : Hid (lE = []) := Lib.hid (List.eq_nil_of_length_eq_zero (by omega))
        obtain ⟨T, hT⟩ : ∃ T : TabI, T = ⟨cls, An, cn, L, Aa, ca, La, Ae, ce, Le⟩ := ⟨_, rfl⟩
        have HTL : Hid (T.L = tabOf l) := Lib.hid (by
          have e : tabOf l = rTab s0 := by rw [← HS0.out]; rfl
          rw [e, hT]
          unfold rTab TabI.L
          simp only
          rw [HCT.out, HNL.out, HLA.out, HLE.out])
        have HC : Hid (TabC (tabA cls (.slice An L.length cn) (.slice Aa La.length ca) (.slice Ae Le.length ce)) T) := Lib.hid (by rw [hT]; exact tabA_C HCL.out.1 HCL.out.2 An cn L Aa ca La Ae ce Le)
        have HWD : Hid (Dep (fun k => n1 ≤ k) wc (TabW T)) := Lib.hid fun V hV => by
          have h1 := (HDM.out.same HSM.out.2 (by have := HSM.out.1; have := HN3.out; omega)) V (fun k hp hk => hV k hp.1 hk)
          have h2 := (HGE.out.rows (by omega)) V (fun k hp hk => hV k (by omega) hk)
          rw [hT]
          exact ⟨h1.1, h1.2, h2⟩
        have HKC : Hid (St wc wc (TabW T)) := Lib.hid (St.start fun W hW => HWD.out.st W hW)
        have HG0 : Hid (UnpackOk l ↔ TabOk T.L) := Lib.hid (by
          have e : (l.take (l.length - 4)).drop 5 = s0.1 := by rw [← HS0.out]
          have e2 : ((l.take (l.length - 4)).drop 5, false) = s0 := HS0.out
          unfold UnpackOk GoodB GoodInner
          rw [e, HTL.out, ← HSB.out, HSE.out]
          obtain ⟨q1, q2, q3⟩ := HS0L.out
          exact ⟨fun h => h.2, fun h => ⟨⟨by omega, HM.out, HSUM.out, ⟨by omega, HGH.out, rfl⟩, HE0.out⟩, h⟩⟩)
        have hA3 : (tabA cls (.slice An L.length cn) (.slice Aa La.length ca) (.slice Ae Le.length ce)).size = 259 := tabA_size HCL.out.1
        have HAS : Hid ((Try.prog.info? 27).map (·.size) = some (tabA cls (.slice An L.length cn) (.slice Aa La.length ca) (.slice Ae Le.length ce)).size) := Lib.hid (by rw [hA3]; exact info_tabS)
        clear hT hA3 HDM HGE HSM HNL HLA HLE HCT
        generalize tabA cls (.slice An L.length cn) (.slice Aa La.length ca) (.slice Ae Le.length ce) = cs at HU HC HAS
        rcases hv : pB (TabOk T.L) with _ | _
        · have HNO : Hid (¬ UnpackOk l) := Lib.hid fun h => by
            have := pB_true (HG0.out.1 h)
            rw [hv] at this
            cases this
          have HV := Lib.hid hv
          clear hv
          go_wp2_with fail
          refine wp_load_row 27 _ rfl tb rfl _ cs _ _ HU.out.tab Try.underlying27 rfl HAS.out ?_
          go_wp2_with (first
            | (go_at_call 16; refine (Check_st HKC cs T HC.out (fun W h => h) false HV).mono ?_; rintro e w9 ⟨rfl, HK9⟩; (have hres := (HK9.out.2.block _ (Nat.lt_trans HU.out.l1 (Nat.lt_trans HU.out.l2 HU.out.tlt))).trans HU.out.res); (have hbl := below_to HU.out.bl HK9.out.2))
            | (refine wpList_buildZ rfl 27 rfl zeroT built_tab ?_)
            | (refine wpList_store_row rfl 27 _ _ rfl w.heap.size zeroT rfl rfl 27 zeroT hres info_tabS' rfl (cells_one zeroT_C) ?_))
          exact bad_end hK rfl rfl rfl hres hbl HNO.out
        · have HYE : Hid (UnpackOk l) := Lib.hid (HG0.out.2 (pB_iff.1 hv))
          have HV := Lib.hid hv
          clear hv
          have hwn : w.heap.size < n1 := by have := HU.out.l1; omega
          go_wp2_with fail
          refine wp_load_row 27 _ rfl tb rfl _ cs _ _ HU.out.tab Try.underlying27 rfl HAS.out ?_
          go_wp2_with (first
            | (go_at_call 16; refine (Check_st HKC cs T HC.out (fun W h => h) true HV).mono ?_; rintro e w9 ⟨rfl, HK9⟩; (have hres := (HK9.out.2.block _ (Nat.lt_trans HU.out.l1 (Nat.lt_trans HU.out.l2 HU.out.tlt))).trans HU.out.res); (have hbl := below_to HU.out.bl HK9.out.2); (have htab := (HK9.out.2.block _ HU.out.tlt).trans HU.out.tab))
            | (refine wpList_load_row rfl 27 _ rfl tb rfl _ cs _ _ htab Try.underlying27 rfl HAS.out ?_)
            | (refine wpList_store_row rfl 27 _ _ rfl w.heap.size cs rfl rfl 27 zeroT hres HAS.out (by rw [zeroT_size, HC.out.size]) (cells_one HC.out) ?_))
          exact good_end hK HC.out rfl rfl rfl hres hbl HYE.out HTL.out (HWD.out.step (fun k hp hl => HK9.out.2.block k hl) HK9.out.2.size (fun k hp hl => Nat.lt_of_lt_of_le hwn hp))
    · have HNO : Hid (¬ UnpackOk l) := Lib.hid fun h => by
        have h2 := (HGI.out h).1.2.2
        rw [← HSB.out, HSE.out] at h2
        cases h2
      go_wp2_with (first
        | (refine wpList_buildZ rfl 27 rfl zeroT built_tab ?_)
        | (refine wpList_store_row rfl 27 _ _ rfl w.heap.size zeroT rfl rfl 27 zeroT HU.out.res info_tabS' rfl (cells_one zeroT_C) ?_))
      exact bad_end hK rfl rfl rfl HU.out.res HU.out.bl HNO.out
end
end Go.Proofs.Yticfbbigljgjdaa
