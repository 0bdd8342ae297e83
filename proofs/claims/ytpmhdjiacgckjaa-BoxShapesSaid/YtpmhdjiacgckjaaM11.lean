/- Contract of part.Image: the plain list of the values of a set's numbers. Condition: the list at hand is known. Contract of part.taken: the numbers of some bits that are in a set when they are moved up. Condition: the bits are right, the list at hand is known. Plain facts on the numbers of a set whose values are in another one: how part.Pre gathers them, span by span, block by block. No program in sight. Condition: none. -/
import Derived.Test.YtpmhdjiacgckjaaM10
import Derived.Deep.Cut
import Derived.Deep.CutBlock
section
namespace Go.Proofs.Ytpmhdjiacgckjaa
open Go.RowKit Go.Shelf
set_option linter.unusedVariables false
set_option linter.unusedSimpArgs false
attribute [local go_sem] Oper.semAt_some

/-- a part that lies in a box -/
def PBox (S : Nat) (a d t u : Int) (W : World) : Prop := W.cell? ⟨S, 0, none⟩ = some (.int .i64 a) ∧ W.cell? ⟨S, 1, none⟩ = some (.int .i64 d) ∧ W.cell? ⟨S, 2, none⟩ = some (.int .i64 t) ∧ W.cell? ⟨S, 3, none⟩ = some (.int .i64 u)
theorem St.pbox {w0 w : World} {F : World → Prop} (hK : Hid (St w0 w F)) (a d t u : Int) : Hid (St w0 (w.alloc (.cells #[.int .i64 a, .int .i64 d, .int .i64 t, .int .i64 u] 56)) (fun W => PBox w.heap.size a d t u W ∧ F W)) := by
  refine Lib.hid (hK.out.add ((Below.refl _ _).alloc (Nat.le_refl _) _) (fun W hW => ?_))
  have hb := heap_alloc_new w (.cells #[.int .i64 a, .int .i64 d, .int .i64 t, .int .i64 u] 56)
  have key : ∀ j v, (#[.int .i64 a, .int .i64 d, .int .i64 t, .int .i64 u] : Array Value)[j]? = some v → W.cell? ⟨w.heap.size, j, none⟩ = some v := by
    intro j v hj
    rw [hW.cell (p := ⟨w.heap.size, j, none⟩) (by simp)]
    simp only [World.cell?, hb]
    exact hj
  exact ⟨key 0 _ rfl, key 1 _ rfl, key 2 _ rfl, key 3 _ rfl⟩
theorem bits_st {w0 w : World} {F : World → Prop} (hK : Hid (St w0 w F)) (a d t u : Int) {v : Bool} (hv : bitsB d t u = v) : Calls Try.prog 50 #[.agg #[.int .i64 a, .int .i64 d, .int .i64 t, .int .i64 u]] w (RetV w0 (.bool v) F) := by
  subst hv; exact retV_gives hK (bits_any a d t u w)
def shlV (u v : Int) : Int := IntKind.i64.wrap (v * 2 ^ u.toNat)
theorem rep_none {r : List Sp} {S : Int → Prop} (h : Rep r S) (hS : ∀ x, ¬ S x) : r = [] :=
  Rep.unique h (S := S) (T := fun _ => False) ⟨trivial, fun x => Iff.rfl⟩ (fun x => by simp [hS x])
theorem retL_nil {w0 w : World} {F : World → Prop} (hK : Hid (St w0 w F)) : RetL w0 [] F (.returned (.slice none 0 0)) w :=
  ⟨none, 0, rfl, Lib.hid (hK.out.weaken fun W h => ⟨⟨Sl.nil_ _ _ _, fun p hp => (by cases hp), by simp⟩, h⟩)⟩
theorem band_T {t lo T : Int} (hT : Hid (pw t = T)) (h0 : 0 ≤ lo) (h1 : lo ≤ 2097151) (t0 : 0 ≤ t) (t1 : t ≤ 21) : bits .and .i64 lo (T - 1) = lo % T := by
  rw [← hT.out]; exact band_mask h0 (by omega) t0 t1

section
variable {w0 w : World} {F : World → Prop} {A : Option Addr} {a0 r : List Sp}
set_option maxRecDepth 100000 in
set_option maxHeartbeats 16000000 in
theorem Image_st (hK : Hid (St w0 w F)) (ha : ∀ W, F W → Lst A a0 W) (c : Nat) (a d t u : Int) (hr : Hid (Rep r (ImgS d t u a0))) :
    Calls Try.prog 36 #[.agg #[.int .i64 a, .int .i64 d, .int .i64 t, .int .i64 u], .slice A a0.length c] w (RetL w0 r F) := by
  have HK := St.pbox hK a d t u
  rcases hb : bitsB d t u with _ | _
  · obtain rfl := rep_none hr.out (fun x h => by have := h.1; rw [hb] at this; cases this)
    have HBB := Lib.hid hb
    clear hb
    go_enter Try.func36, Try.ntmps36
    go_wp2_with fail
    refine (bits_st HK a d t u HBB.out).mono ?_
    rintro e w1 ⟨rfl, HK⟩
    go_wp2_with fail
    go_ret
    exact retL_nil (Lib.hid (HK.out.weaken fun W h => h.2))
  have HBB := Lib.hid hb
  obtain ⟨b1, b2, b3, b4, b5, b6, b7⟩ := (bitsB_iff _ _ _).1 hb
  obtain ⟨m, Rm⟩ := rep_meet a0 [(0, 2097151)]
  have RM : Hid (Rep m (topM a0)) := Rm
  have hml := topM_len RM.out
  obtain ⟨T, hT⟩ : ∃ T, (2 : Int) ^ t.toNat = T := ⟨_, rfl⟩
  have HT : Hid (pw t = T) := Lib.hid hT
  obtain ⟨D, hD⟩ : ∃ D, (2 : Int) ^ d.toNat = D := ⟨_, rfl⟩
  have HD : Hid (pw d = D) := Lib.hid hD
  have hT1 : 1 ≤ T ∧ T ≤ 2097152 := by have h1 := pw_pos t; have h2 := pw_le21 (n := t) (by omega) b4; rw [HT.out] at h1 h2; exact ⟨h1, h2⟩
  have hD1 : 1 ≤ D := by have h1 := pw_pos d; rw [HD.out] at h1; exact h1
  obtain ⟨hT1, hT2⟩ := hT1
  clear hb b7
  refine (callsIn_wide (n := 8)).1 ?_
  refine callsIn_of_wp_marks Try.func36 rfl trivial ?_ rfl
  refine wpIn_wide.2 ?_
  simp only [Try.ntmps36, List.size_toArray, List.length_cons, List.length_nil, Nat.reduceAdd, Nat.reduceSub, Array.replicate_succ, Array.replicate_zero, List.push_toArray, List.append_toArray, List.nil_append, List.cons_append]
  go_wp2_with fail
  refine (bits_st HK a d t u HBB.out).mono ?_
  rintro e w1 ⟨rfl, HK⟩
  obtain ⟨hp0, hp1, hp2, hp3⟩ := HK.out.now.1
  go_wp2_with fail
  have HK := St.lit HK (0, 2097151) (by intro p hp; simp at hp; subst hp; simp)
  refine (Meet_st HK (fun _ h => ha _ h.2.2) (fun _ h => h.1) _ _ Rm).mono ?_
  rintro e w3 ⟨A1, c1, rfl, HK⟩
  clear hp0 hp1 hp2 hp3
  go_upto_block 0 with fail
  go_cut [6] from 13 (fun v wr => ∃ (o : List Sp) (Ao : Option Addr) (co : Nat), v = .slice Ao o.length co ∧ o.length ≤ 2097153 ∧ Hid (SRow wr w3.heap.size Ao co o) ∧ Hid (ImInv D T m o) ∧ Hid (Below w3.heap.size w3 wr))
  case first =>
    go_wp2_with fail
    go_loopw [6, 25] (fun v i wr => ∃ (k : Nat) (o : List Sp) (Ao : Option Addr) (co : Nat), k ≤ m.length ∧ i = .int .i64 k ∧ v = .slice Ao o.length co ∧ o.length ≤ 2 * k ∧ Hid (SRow wr w3.heap.size Ao co o) ∧ Hid (ImInv D T (m.take k) o) ∧ Hid (Below w3.heap.size w3 wr)) (fun _ i _ => m.length - (intOf i).toNat)
    case atStart => exact ⟨0, [], none, 0, Nat.zero_le _, rfl, rfl, by simp, Lib.hid (SRow.start _ _), Lib.hid (ImInv.start _ _), Lib.hid (Below.refl _ _)⟩
    case round =>
    obtain ⟨k, o, Ao, co, hk, rfl, rfl, hol, HO, HI, HB⟩ := hrel
    have HS := Lib.hid (HK.out.step HB.out)
    by_cases hlt : k < m.length
    · obtain ⟨g, off, p, hA, hp, hc1, hc2⟩ := HS.out.now.1.sp.at_ hlt
      obtain ⟨x1, x2⟩ := p
      obtain ⟨hx0, hx12, hx2⟩ := topM_mem RM.out hp
      obtain ⟨hp0, hp1, hp2, hp3⟩ := HS.out.now.2.2.1
      have HP := Lib.hid hp
      simp only at hc1 hc2
      obtain ⟨lo, hlo⟩ : ∃ z, x1 / D = z := ⟨_, rfl⟩
      obtain ⟨hi, hhi⟩ : ∃ z, x2 / D = z := ⟨_, rfl⟩
      have HLO := Lib.hid hlo
      have HHI := Lib.hid hhi
      have hlo0 : 0 ≤ lo := by rw [← hlo]; exact Int.ediv_nonneg hx0 (by omega)
      have hlh : lo ≤ hi := by rw [← hlo, ← hhi]; exact Int.ediv_le_ediv (by omega) hx12
      have hhi2 : hi ≤ 2097151 := by rw [← hhi]; exact Int.le_trans (Int.ediv_le_self _ (by omega)) hx2
      obtain ⟨la, hla⟩ : ∃ z, bits BinOp.and IntKind.i64 lo (T - 1) = z := ⟨_, rfl⟩
      obtain ⟨lb, hlb⟩ : ∃ z, bits BinOp.and IntKind.i64 hi (T - 1) = z := ⟨_, rfl⟩
      have HLA : Hid (lo % T = la) := by unfold Hid; rw [← hla]; exact (band_T HT hlo0 (by omega) (by omega) b4).symm
      have HLB : Hid (hi % T = lb) := by unfold Hid; rw [← hlb]; exact (band_T HT (by omega) hhi2 (by omega) b4).symm
      have hgw := lt_of_cell hc1
      have hbw := lt_of_cell hp1
      subst hA
      clear hp
      by_cases hfull : T - 1 ≤ hi - lo
      · go_wp2_with (go_quiet (fail))
        go_meet
        case rel =>
          exact ⟨[(0, T - 1)], _, _, rfl, by simp, Lib.hid (SRow.lit' (by simp) (by have := HB.out.size; simp; omega)), Lib.hid (ImInv.full hD1 hT1 HP.out hx12 (by rw [HLO.out, HHI.out]; exact hfull)),
            Lib.hid ((below_drewN (HB.out.alloc HB.out.size _) _).alloc (by have := HB.out.size; simp; omega) _)⟩
      · have hnf : ¬ (T - 1 ≤ hi - lo) := hfull
        by_cases hle : la ≤ lb
        · go_wp2_with (first | go_quiet (fail) | (at_builtin; go_must (refine wpList_pushS rfl _ _ rfl (((HO.out.alloc _).drewN _)) rfl (by first | rfl | (simp; rfl) | simp) (by omega) (by have := HB.out.size; simp; omega) ?_); intro l2 A2 c2 w5 HL2 HO2 HG2 _))
          have HI2 := Lib.hid (HI.out.one hD1 hT1 HP.out hx12 (by rw [HLO.out, HHI.out]; omega) (by rw [HLO.out, HHI.out, HLA.out, HLB.out]; exact hle))
          rw [HLO.out, HHI.out, HLA.out, HLB.out, ← HL2.out] at HI2
          have hl2 : l2.length = o.length + 1 := by rw [HL2.out]; simp
          refine ⟨⟨k + 1, l2, A2, c2, by omega, by go_num, rfl, by omega, HO2, HI2, Lib.hid (SRow.pushed (below_drewN (HB.out.alloc HB.out.size _) _) ((HO.out.alloc _).drewN _) (Nat.le_refl _) (by have := HB.out.size; simp; omega) HG2.out)⟩, by simp [intOf]; omega⟩
        · go_wp2_with (first | go_quiet (fail) | (at_builtin; go_must (refine wpList_pushS2 rfl _ _ rfl (((HO.out.alloc _).drewN _)) rfl (by first | rfl | (simp; rfl) | simp) (by omega) (by have := HB.out.size; simp; omega) ?_); intro l2 A2 c2 w5 HL2 HO2 HG2 _))
          have HI2 := Lib.hid (HI.out.two hD1 hT1 HP.out hx12 (by rw [HLO.out, HHI.out]; omega) (by rw [HLO.out, HHI.out, HLA.out, HLB.out]; exact hle))
          rw [HLO.out, HHI.out, HLA.out, HLB.out, ← HL2.out] at HI2
          have hl2 : l2.length = o.length + 2 := by rw [HL2.out]; simp
          refine ⟨⟨k + 1, l2, A2, c2, by omega, by go_num, rfl, by omega, HO2, HI2, Lib.hid (SRow.pushed (below_drewN (HB.out.alloc HB.out.size _) _) ((HO.out.alloc _).drewN _) (Nat.le_refl _) (by have := HB.out.size; simp; omega) HG2.out)⟩, by simp [intOf]; omega⟩
    · obtain rfl : k = m.length := by omega
      have hd : decide (m.length < m.length) = false := by simp
      have HIm := Lib.hid HI.out
      rw [List.take_length] at HIm
      go_wp2_with fail
      go_meet
      case rel => exact ⟨o, Ao, co, rfl, by omega, HO, HIm, HB⟩
  case rest =>
    obtain ⟨o, Ao, co, rfl, hol, HO, HI, HB⟩ := hcut
    have hwd : SpW o := fun p hp => by have := HI.out.2 p hp; omega
    have HK4 := Lib.hid (HK.out.add (G := fun W => True) HB.out (fun W hW => trivial))
    have HK := Lib.hid (HK4.out.add (Below.refl _ _) (G := Lst Ao o) (fun W hW => ⟨HO.out.spans.below hW, hwd, by omega⟩))
    obtain ⟨ro, Ro⟩ := rep_norm o
    go_wp2_with fail
    refine (Norm_st HK (fun _ h => h.1) _ Ro).mono ?_
    rintro e w5 ⟨A5, c5, rfl, HK⟩
    obtain ⟨hp0, hp1, hp2, hp3⟩ := HK.out.now.2.2.2.2.2.1
    have hps := lt_of_cell hp3
    by_cases hu : u = 0
    · subst hu
      have HIp : Hid (ImInv (pw d) (pw t) m o) := by unfold Hid; rw [HD.out, HT.out]; exact HI.out
      obtain rfl := Rep.unique (HIp.out.rep0 HBB.out RM.out Ro.out) hr.out (fun _ => Iff.rfl)
      go_wp2_with fail
      refine leaveM_nil (.slice A5 ro.length c5) (by simp [results, Try.f36, go_sem]) ?_
      exact ⟨_, _, rfl, Lib.hid (HK.out.weaken fun W h => ⟨h.1, h.2.2.2.2.2.2⟩)⟩
    · have hu0 : (u == 0) = false := by simpa using hu
      have hnl : (nums ro).length ≤ 2147483650 := by have h1 := nums_length Ro.out.1; have h2 := Ro.out.1.cnt_bd; omega
      have hSr : Hid (Rep ro (Mem ro)) := Lib.hid (Rep.self Ro.out.1)
      have HW5 := Lib.hid ((Below.refl w5.heap.size w5).alloc (Nat.le_refl _) (.cells #[.slice none 0 0] 26))
      have HBN := Lib.hid (BoxRow.new w5 (w5.heap.size + 1))
      have HKA := Lib.hid (HK.out.add HW5.out (G := fun W => True) (fun _ _ => trivial))
      have HE := Lib.hid (Each_any A5 ro.length c5 ro ro (w5.alloc (.cells #[.slice none 0 0] 26)) HKA.out.now.2.1.sp HKA.out.now.2.1.wd HKA.out.now.2.1.len hSr.out)
      go_wp2_with fail
      refine HE.out.mono ?_
      rintro e w6 ⟨B, g, c6, rfl, hbd, hcB, hsp, hb6⟩
      have HB6 := Lib.hid (show Below w5.heap.size w5 w6 from HW5.out.trans (hb6.mono (by simp)))
      have hsz : (w5.alloc (.cells #[.slice none 0 0] 26)).heap.size = w5.heap.size + 1 := by simp
      rw [hsz] at hbd
      obtain ⟨Ab, cb, hbx, hbf, hbr⟩ := HBN.out
      have hbx6 := (hb6.cell (lt_of_cell hbx)).trans hbx
      have hbf6 := (hb6.frozen (lt_of_cell hbx)).trans hbf
      have HB0 : Hid (BoxRow w5.heap.size (w5.heap.size + 1) [] w6) := by
        refine ⟨none, 0, ?_, hbf6, SRow.start _ _⟩
        rw [hb6.cell (p := ⟨w5.heap.size, 0, none⟩) (by simp)]
        have hb := heap_alloc_new w5 (.cells #[.slice none 0 0] 26)
        simp only [World.cell?, hb]; rfl
      have hno : ∀ k, OwnB w5.heap.size (w5.heap.size + 1) w5.heap.size w6 k ↔ k = w5.heap.size := by
        intro k
        obtain ⟨A0, c0, q1, _, q3⟩ := HB0.out
        have : w6.cell? ⟨w5.heap.size, 0, none⟩ = some (.slice none 0 0) := by
          rw [hb6.cell (p := ⟨w5.heap.size, 0, none⟩) (by simp)]
          have hb := heap_alloc_new w5 (.cells #[.slice none 0 0] 26)
          simp only [World.cell?, hb]; rfl
        unfold OwnB
        rw [this]
        simp; omega
      have HSQ := Lib.hid (each_stops Fence.wide 7 trivial rfl (by omega) w5.heap.size (w5.heap.size + 1) w5.heap.size B g c6 ro hSr.out.1 w6 (by omega) (fun k hk => by have := (hno k).1 hk; omega) (fun hk => by have := (hno g).1 hk; omega) hcB (by omega) hsp)
      clear hno hcB hsp hb6 HE hbx hbf hbx6 hbf6 hbr
      go_wp2_with fail
      refine wp_rangeFunc (gf := 66) (lb := #[.pointer (some ⟨B, 0, none⟩)]) rfl (enters_of Try.func66 (by kernel_rfl) rfl) HSQ.out kpB_t (kpB_b (by omega)) (fun _ => rfl)
        (fun pre W => BoxRow w5.heap.size (w5.heap.size + 1) (pre.map fun v => (shlV u v, shlV u v)) W ∧ (pre.length ≤ (nums ro).length ∧ Below w5.heap.size w5 W))
        (fun _ _ _ => False)
        (OwnFrom.and (BoxRow.own _ _ _ _) (OwnFrom.and (ownFrom_pure _ _) (ownFrom_below (Nat.le_refl _) (by omega))))
        (fun _ _ _ _ _ h _ _ => h)
        ⟨HB0.out, Nat.zero_le _, HB6.out⟩
        ?act ?assign ?body ?done ?stop
      case assign =>
        intro l x W K hK
        gi_wp2
        exact hK
      case body =>
        rintro l pre x W ⟨hbr, hlen1, hbW⟩ hlen
        obtain ⟨Ab, cb, hv, hf, hrow⟩ := hbr
        obtain ⟨hp0, hp1, hp2, hp3⟩ := (HK.out.step hbW).now.2.2.2.2.2.1
        gi_wp2
        obtain ⟨y, hy⟩ : ∃ y, IntKind.i64.wrap (x * 2 ^ u.toNat) = y := ⟨_, rfl⟩
        obtain ⟨o, ho⟩ : ∃ o, o = pre.map fun v => (shlV u v, shlV u v) := ⟨_, rfl⟩
        rw [← ho] at hv hrow
        have hol : o.length < 1099511627776 := by rw [ho, List.length_map]; omega
        have HOE := Lib.hid ho
        have HROW := Lib.hid hrow
        have HBW := Lib.hid hbW
        clear ho hrow hbW
        refine region_round_held (by kernel_rfl) (fun _ _ h => h) (by kernel_rfl) (fun w' => w'.cell? ⟨w.heap.size, 3, none⟩ = some (.int .i64 u)) hp3 (fun hHeld => ?_)
        refine wpAnyH_take (i := 1) (v := ?_) rfl (by kernel_rfl) (by kernel_rfl) (by kernel_rfl) (fun _ _ _ h => h) (Or.inl ⟨by first | kernel_rfl | rfl, ?_⟩) (by assumption) ?_
        rotate_left
        · intro w hSw; (try dsimp only at hSw); go_simp; (try with_reducible rfl)
        (try simp only [Act.put, List.getElem_toArray, List.getElem_cons_succ, List.getElem_cons_zero, List.setIfInBounds_toArray, List.set_cons_zero, List.set_cons_succ])
        refine wpAnyH_take (i := 2) (v := ?_) rfl (by kernel_rfl) (by kernel_rfl) (by kernel_rfl) (fun _ _ _ h => h) (Or.inl ⟨by first | kernel_rfl | rfl, ?_⟩) (by assumption) ?_
        rotate_left
        · intro w hSw; (try dsimp only at hSw); go_simp; (try with_reducible rfl)
        (try simp only [Act.put, List.getElem_toArray, List.getElem_cons_succ, List.getElem_cons_zero, List.setIfInBounds_toArray, List.set_cons_zero, List.set_cons_succ])
        refine wpAnyH_take (i := 3) (v := ?_) rfl (by kernel_rfl) (by kernel_rfl) (by kernel_rfl) (fun _ _ _ h => h) (Or.inl ⟨by first | kernel_rfl | rfl, ?_⟩) (by assumption) ?_
        rotate_left
        · intro w hSw; (try dsimp only at hSw); go_simp; (try with_reducible rfl)
        (try simp only [Act.put, List.getElem_toArray, List.getElem_cons_succ, List.getElem_cons_zero, List.setIfInBounds_toArray, List.set_cons_zero, List.set_cons_succ])
        refine wpAnyH_take (i := 4) (v := ?_) rfl (by kernel_rfl) (by kernel_rfl) (by kernel_rfl) (fun _ _ _ h => h) (Or.inl ⟨by first | kernel_rfl | rfl, ?_⟩) (by assumption) ?_
        rotate_left
        · intro w hSw; (try dsimp only at hSw); go_simp; (try with_reducible rfl)
        (try simp only [Act.put, List.getElem_toArray, List.getElem_cons_succ, List.getElem_cons_zero, List.setIfInBounds_toArray, List.set_cons_zero, List.set_cons_succ])
        refine wpAnyH_take (i := 5) (v := ?_) rfl (by kernel_rfl) (by kernel_rfl) (by kernel_rfl) (fun _ _ _ h => h) (Or.inl ⟨by first | kernel_rfl | rfl, ?_⟩) (by assumption) ?_
        rotate_left
        · intro w hSw; (try dsimp only at hSw); go_simp; (try with_reducible rfl)
        (try simp only [Act.put, List.getElem_toArray, List.getElem_cons_succ, List.getElem_cons_zero, List.setIfInBounds_toArray, List.set_cons_zero, List.set_cons_succ])
        refine wpAnyH_take (i := 6) (v := ?_) rfl (by kernel_rfl) (by kernel_rfl) (by kernel_rfl) (fun _ _ _ h => h) (Or.inl ⟨by first | kernel_rfl | rfl, ?_⟩) (by assumption) ?_
        rotate_left
        · intro w hSw; (try dsimp only at hSw); go_simp; (try with_reducible rfl)
        (try simp only [Act.put, List.getElem_toArray, List.getElem_cons_succ, List.getElem_cons_zero, List.setIfInBounds_toArray, List.set_cons_zero, List.set_cons_succ])
        refine wpAnyH_take (i := 7) (v := ?_) rfl (by kernel_rfl) (by kernel_rfl) (by kernel_rfl) (fun _ _ _ h => h) (Or.inl ⟨by first | kernel_rfl | rfl, ?_⟩) (by assumption) ?_
        rotate_left
        · intro w hSw; (try dsimp only at hSw); go_simp; (try with_reducible rfl)
        (try simp only [Act.put, List.getElem_toArray, List.getElem_cons_succ, List.getElem_cons_zero, List.setIfInBounds_toArray, List.set_cons_zero, List.set_cons_succ])
        refine wpAnyH_take (i := 8) (v := ?_) rfl (by kernel_rfl) (by kernel_rfl) (by kernel_rfl) (fun _ _ _ h => h) (Or.inl ⟨by first | kernel_rfl | rfl, ?_⟩) (by assumption) ?_
        rotate_left
        · intro w hSw; (try dsimp only at hSw); go_simp; (try with_reducible rfl)
        (try simp only [Act.put, List.getElem_toArray, List.getElem_cons_succ, List.getElem_cons_zero, List.setIfInBounds_toArray, List.set_cons_zero, List.set_cons_succ])
        refine wpAnyH_take (i := 9) (v := ?_) rfl (by kernel_rfl) (by kernel_rfl) (by kernel_rfl) (fun _ _ _ h => h) (Or.inl ⟨by first | kernel_rfl | rfl, ?_⟩) (by assumption) ?_
        rotate_left
        · intro w hSw; (try dsimp only at hSw); go_simp; (try with_reducible rfl)
        (try simp only [Act.put, List.getElem_toArray, List.getElem_cons_succ, List.getElem_cons_zero, List.setIfInBounds_toArray, List.set_cons_zero, List.set_cons_succ])
        refine wpAnyH_ready (rs := [0, 10]) (by kernel_rfl) (by simp) (AllReadyH.cons rfl (fun K hK => ?_) (AllReadyH.cons rfl (fun K hK => ?_) AllReadyH.nil))
        go_simp
        refine hK.out _ _ (hp3) (fun hHeld => ?_)
        clear hK K
        (try simp only [Act.put, List.getElem_toArray, List.getElem_cons_succ, List.getElem_cons_zero, List.setIfInBounds_toArray, List.set_cons_zero, List.set_cons_succ])
        refine wpAnyH_ready (rs := [10]) (by kernel_rfl) (by simp) (AllReadyH.cons rfl (fun K hK => ?_) AllReadyH.nil)
        go_simp
        refine hK.out _ _ (cellAlloc _ hp3) (fun hHeld => ?_)
        clear hK K
        (try simp only [Act.put, List.getElem_toArray, List.getElem_cons_succ, List.getElem_cons_zero, List.setIfInBounds_toArray, List.set_cons_zero, List.set_cons_succ])
        rotate_left
        go_simp
        refine hK.out _ _ (cellAlloc _ hp3) (fun hHeld => ?_)
        clear hK K
        (try simp only [Act.put, List.getElem_toArray, List.getElem_cons_succ, List.getElem_cons_zero, List.setIfInBounds_toArray, List.set_cons_zero, List.set_cons_succ])
        have hva : (W.alloc (.cells #[.int .i64 y, .int .i64 y] 52)).cell? ⟨w5.heap.size, 0, none⟩ = some (.slice Ab o.length cb) := cellAlloc _ hv
        refine wpAnyH_ready (rs := [0]) (by kernel_rfl) (by simp) (AllReadyH.cons rfl (fun K hK => ?_) AllReadyH.nil)
        go_simp
        refine hK.out _ _ (cellAlloc _ hp3) (fun hHeld => ?_)
        clear hK K
        (try simp only [Act.put, List.getElem_toArray, List.getElem_cons_succ, List.getElem_cons_zero, List.setIfInBounds_toArray, List.set_cons_zero, List.set_cons_succ])
        clear hva
        all_goals
          refine wpAnyH_ready (rs := [11]) (by kernel_rfl) (by simp) (AllReadyH.cons rfl (fun K hK => ?_) AllReadyH.nil)
          rw [if_pos (by rfl)]
          refine wp_pushS (w0 := W.drew) rfl _ _ rfl HROW.out.drew rfl rfl hol (by have := lt_of_cell hv; simp; omega) ?_
          intro l2 A2 c2 w7 HL2 HO2 HG2 HAT2
          have HPU := Lib.hid (BoxRow.push (lo := w5.heap.size) (hi := w5.heap.size + 1) (Nat.le_refl _) (by omega) (Nat.le_refl _) hv hf HROW.out (w0 := W.drew) (ob := .cells #[.int .i64 y, .int .i64 y] 52) (below_drewN (Below.refl _ _) 1) rfl HO2.out HG2.out HAT2.out)
          have hbx7 : w7.cell? ⟨w5.heap.size, 0, none⟩ = some (.slice Ab o.length cb) := by
            refine HG2.out.cell (cellAlloc _ hv) (fun e => ?_)
            have := HROW.out.lt _ e.symm
            simp at this; omega
          have hbf7 : w7.frozen? ⟨w5.heap.size, 0, none⟩ = false := by
            have := HPU.out.2.2.1
            obtain ⟨A8, c8, q1, q2, q3⟩ := this
            rwa [World.frozen?_setCell] at q2
          have hpx7 : w7.cell? ⟨w.heap.size, 3, none⟩ = some (.int .i64 u) := by
            refine HG2.out.cell (cellAlloc _ hp3) (fun e => ?_)
            have := HROW.out.lt _ e.symm
            simp at *; omega
          have hpx8 : (w7.setCell ⟨w5.heap.size, 0, none⟩ (.slice A2 l2.length c2)).cell? ⟨w.heap.size, 3, none⟩ = some (.int .i64 u) := by
            rw [World.cell?_setCell_far _ _ _ _ (by show w5.heap.size ≠ w.heap.size; omega)]; exact hpx7
          refine hK.out _ _ (hpx7) (fun hHeld => ?_)
          clear hK K
          (try simp only [Act.put, List.getElem_toArray, List.getElem_cons_succ, List.getElem_cons_zero, List.setIfInBounds_toArray, List.set_cons_zero, List.set_cons_succ])
          refine wpAnyH_ready (rs := [12]) (by kernel_rfl) (by simp) (AllReadyH.cons rfl (fun K hK => ?_) AllReadyH.nil)
          go_simp
          refine hK.out _ _ (hpx8) (fun hHeld => ?_)
          clear hK K
          (try simp only [Act.put, List.getElem_toArray, List.getElem_cons_succ, List.getElem_cons_zero, List.setIfInBounds_toArray, List.set_cons_zero, List.set_cons_succ])
          refine wpAnyH_done (by kernel_rfl) ?_ _
          gi_wp2
          obtain ⟨q1, q2, q3, q4⟩ := HPU.out
          have e : l2 = (pre ++ [x]).map fun v => (shlV u v, shlV u v) := by rw [HL2.out, HOE.out, List.map_append, ← hy]; rfl
          refine ⟨q1, q2, ?_, by simp; omega, HBW.out.trans q4⟩
          show BoxRow _ _ ((pre ++ [x]).map fun v => (shlV u v, shlV u v)) _
          rw [← e]; exact q3
      case done =>
        rintro D' xs W hD' rfl ⟨hbr, hlen1, hbW⟩ hKD
        obtain ⟨Ab, cb, hv, hf, hrow⟩ := hbr
        have hnr : ∀ y ∈ nums ro, 0 ≤ y ∧ y ≤ 63 := by
          intro y hy
          have h1 := (nums_mem ro y).1 hy
          have h2 := (Ro.out.2 y).1 h1
          obtain ⟨p, hp, g1, g2⟩ := (InS_iff _ _).1 h2.2.2
          have h3 := HI.out.2 p hp
          have ht6 : t ≤ 6 := by have := (bitsB_iff _ _ _).1 HBB.out; omega
          have h4 := pw_le6 (n := t) (by omega) ht6
          rw [HT.out] at h4
          omega
        have e : ((nums ro).map fun v => (shlV u v, shlV u v)) = (nums ro).map fun v => (v * pw u, v * pw u) := by
          refine List.map_congr_left fun y hy => ?_
          have h1 := hnr y hy
          have h2 := pw_le21 (n := u) (by omega) (by omega)
          have h3 := pw_pos u
          have h4 : y * pw u ≤ 63 * 2097152 := Int.mul_le_mul h1.2 h2 (by omega) (by omega)
          have h5 : 0 ≤ y * pw u := Int.mul_nonneg h1.1 (by omega)
          have : shlV u y = y * pw u := IntWalk.i64_in _ (by show _ ∧ _; unfold pw at h4 h5; omega)
          rw [this]
        rw [e] at hv hrow
        obtain ⟨lu, hlu⟩ : ∃ l, ((nums ro).map fun v => (v * pw u, v * pw u)) = l := ⟨_, rfl⟩
        rw [hlu] at hv hrow
        have hwu : SpW lu := by
          intro p hp
          rw [← hlu] at hp
          obtain ⟨y, hy, rfl⟩ := List.mem_map.1 hp
          have h1 := hnr y hy
          have h2 := pw_le21 (n := u) (by omega) (by omega)
          have h3 := pw_pos u
          have h4 : y * pw u ≤ 63 * 2097152 := Int.mul_le_mul h1.2 h2 (by omega) (by omega)
          have h5 : 0 ≤ y * pw u := Int.mul_nonneg h1.1 (by omega)
          simp only
          omega
        have hll : lu.length < 137438953472 := by rw [← hlu, List.length_map]; omega
        have hDW : D' < W.heap.size := (Array.getElem?_eq_some_iff.1 hKD).1
        obtain ⟨s, Rs⟩ := rep_norm lu
        have HK7 := Lib.hid ((HK.out.step hbW).add (Below.refl _ _) (G := fun W' => Lst Ab lu W' ∧ Below w5.heap.size w5 W' ∧ W'.heap[D']? = some (.deferred (some []))) (fun W' hW' => ⟨⟨hrow.spans.below hW', hwu, hll⟩, hbW.trans (hW'.mono hbW.size), (hW'.block D' hDW).trans hKD⟩))
        have HS := Lib.hid hlu
        have hlt := lt_of_cell hv
        clear e hlu hKD hbW hrow hDW
        go_wp2_with fail
        refine (Norm_st HK7 (fun _ h => h.1.1) _ Rs).mono ?_
        rintro e w8 ⟨A8, c8, rfl, HK8⟩
        go_wp2_with fail
        have hn8 := HK8.out.now
        refine leaveM_mark (.slice A8 s.length c8) hn8.2.1.2.2 (fun w' => by simp [results, Try.f36, go_sem]) ?_
        have HIp : Hid (ImInv (pw d) (pw t) m o) := by unfold Hid; rw [HD.out, HT.out]; exact HI.out
        obtain rfl := Rep.unique (HIp.out.repU HBB.out RM.out Ro.out (by rw [HS.out]; exact Rs.out)) hr.out (fun _ => Iff.rfl)
        exact ⟨_, _, rfl, Lib.hid ((HK.out.mark hn8.2.1.2.1 hn8.1 (by omega) hn8.2.1.2.2).weaken fun W h => ⟨h.1, h.2.2.2.2.2.2.2⟩)⟩
      case stop =>
        rintro D cd pre W hD hpre hF
        exact hF.elim
end
end Go.Proofs.Ytpmhdjiacgckjaa
end
section
namespace Go.Proofs.Ytpmhdjiacgckjaa
open Go.RowKit Go.Shelf
set_option linter.unusedVariables false
set_option linter.unusedSimpArgs false
attribute [local go_sem] Oper.semAt_some

theorem mem_span {a b x : Int} (ha : -1073741824 ≤ a) (hb : b ≤ 1073741824) : Mem [(a, b)] x ↔ (a ≤ x ∧ x ≤ b) := by
  simp only [Mem, InS, or_false]; omega
theorem plain_one {a b : Int} (h : a ≤ b) (ha : -1073741824 ≤ a) (hb : b ≤ 1073741824) : Plain [(a, b)] := ⟨by simp only; omega, h, hb, trivial⟩
theorem shlV_eq {u y : Int} (h0 : 0 ≤ y) (h1 : y ≤ 4398046511104) (u0 : 0 ≤ u) (u1 : u ≤ 20) : shlV u y = y * pw u := by
  have h2 : pw u ≤ 1048576 := pw_mono (n := 20) u0 u1
  have h3 := pw_pos u
  have h4 : y * pw u ≤ 4398046511104 * 1048576 := Int.mul_le_mul h1 h2 (by omega) (by omega)
  have h5 : 0 ≤ y * pw u := Int.mul_nonneg h0 (by omega)
  exact IntWalk.i64_in _ (by show _ ∧ _; unfold pw at h4 h5; omega)

section
variable {w0 w : World} {F : World → Prop} {G : Option Addr} {g0 r : List Sp}
set_option maxRecDepth 100000 in
set_option maxHeartbeats 16000000 in
theorem taken_st (hK : Hid (St w0 w F)) (hg : ∀ W, F W → Lst G g0 W) (c : Nat) (a d t u : Int) (hb : Hid (bitsB d t u = true)) (hr : Hid (Rep r (TkS t u g0))) :
    Calls Try.prog 51 #[.agg #[.int .i64 a, .int .i64 d, .int .i64 t, .int .i64 u], .slice G g0.length c] w (RetL w0 r F) := by
  have HK0 := St.pbox hK a d t u
  have HKb : Hid (St w0 ((w.alloc (.cells #[.int .i64 a, .int .i64 d, .int .i64 t, .int .i64 u] 56)).alloc (.cells #[.slice G g0.length c] 26)) (fun W => W.cell? ⟨w.heap.size + 1, 0, none⟩ = some (.slice G g0.length c) ∧ PBox w.heap.size a d t u W ∧ F W)) := by
    refine Lib.hid (HK0.out.add ((Below.refl _ _).alloc (Nat.le_refl _) _) (fun W hW => ?_))
    have hb := heap_alloc_new (w.alloc (.cells #[.int .i64 a, .int .i64 d, .int .i64 t, .int .i64 u] 56)) (.cells #[.slice G g0.length c] 26)
    rw [show (w.alloc (.cells #[.int .i64 a, .int .i64 d, .int .i64 t, .int .i64 u] 56)).heap.size = w.heap.size + 1 by simp] at hb
    rw [hW.cell (p := ⟨w.heap.size + 1, 0, none⟩) (by simp)]
    simp only [World.cell?, hb]; rfl
  obtain ⟨b1, b2, b3, b4, b5, b6, b7⟩ := (bitsB_iff _ _ _).1 hb.out
  have HB7 := Lib.hid b7
  obtain ⟨T, hT⟩ : ∃ T, (2 : Int) ^ t.toNat = T := ⟨_, rfl⟩
  have HT : Hid (pw t = T) := Lib.hid hT
  have hT1 : 1 ≤ T ∧ T ≤ 2097152 := by have h1 := pw_pos t; have h2 := pw_le21 (n := t) (by omega) b4; rw [HT.out] at h1 h2; exact ⟨h1, h2⟩
  obtain ⟨hT1, hT2⟩ := hT1
  clear b7
  refine (callsIn_wide (n := 8)).1 ?_
  refine callsIn_of_wp_marks Try.func51 rfl trivial ?_ rfl
  refine wpIn_wide.2 ?_
  simp only [Try.ntmps51, List.size_toArray, List.length_cons, List.length_nil, Nat.reduceAdd, Nat.reduceSub, Array.replicate_succ, Array.replicate_zero, List.push_toArray, List.append_toArray, List.nil_append, List.cons_append]
  have HK := St.lit HKb (0, T - 1) (by intro p hp; simp at hp; subst hp; simp; omega)
  obtain ⟨w5, hw5⟩ : ∃ w5, (((w.alloc (.cells #[.int .i64 a, .int .i64 d, .int .i64 t, .int .i64 u] 56)).alloc (.cells #[.slice G g0.length c] 26)).alloc (.cells #[.int .i64 0, .int .i64 (T - 1)] 52)) = w5 := ⟨_, rfl⟩
  have hs5 : w5.heap.size = w.heap.size + 1 + 1 + 1 := by rw [← hw5]; simp
  rw [hw5] at HK
  have HW := Lib.hid hw5
  clear hw5
  go_upto_region 2 with fail
  rw [HW.out]
  obtain ⟨hll, hgb, ⟨hp0, hp1, hp2, hp3⟩, _⟩ := HK.out.now
  have HL := Lib.hid hll
  have hall : (some ⟨(((w.alloc (.cells #[.int .i64 a, .int .i64 d, .int .i64 t, .int .i64 u] 56)).alloc (.cells #[.slice G g0.length c] 26))).heap.size, 0, none⟩ : Option Addr) = some ⟨w.heap.size + 1 + 1, 0, none⟩ := by simp
  rw [hall] at HK HL
  clear hall hll
  by_cases hu : u = 0
  · subst hu
    have Rm : Hid (Rep r (fun x => Mem g0 x ∧ Mem [(0, T - 1)] x)) := Lib.hid (hr.out.congr fun x => by
      rw [mem_span (by omega) (by omega)]
      unfold TkS
      rw [HT.out, show pw 0 = 1 from rfl, Int.mul_one]
      constructor
      · rintro ⟨h1, h2, h3⟩; exact ⟨h3, h1, h2⟩
      · rintro ⟨h3, h1, h2⟩; exact ⟨h1, h2, h3⟩)
    go_wp2_with fail
    refine (Meet_st HK (fun _ h => hg _ h.2.2.2) (fun _ h => h.1) _ _ Rm).mono ?_
    rintro e w3 ⟨A1, c1, rfl, HK⟩
    go_wp2_with fail
    refine leaveM_nil (.slice A1 r.length c1) (by simp [results, Try.f51, go_sem]) ?_
    exact ⟨_, _, rfl, Lib.hid (HK.out.weaken fun W h => ⟨h.1, h.2.2.2.2⟩)⟩
  · have hu0 : (u == 0) = false := by simpa using hu
    have HPL : Hid (Plain [(0, T - 1)]) := Lib.hid (plain_one (by omega) (by omega) (by omega))
    have HSF : Hid (Rep [(0, T - 1)] (Mem [(0, T - 1)])) := Lib.hid (Rep.self HPL.out)
    have HW5 := Lib.hid ((Below.refl w5.heap.size w5).alloc (Nat.le_refl _) (.cells #[.slice none 0 0] 26))
    have HKA := Lib.hid (HK.out.add HW5.out (G := fun W => True) (fun _ _ => trivial))
    have HE := Lib.hid (Each_any (some ⟨w.heap.size + 1 + 1, 0, none⟩) 1 1 [(0, T - 1)] [(0, T - 1)] (w5.alloc (.cells #[.slice none 0 0] 26)) (by have := HKA.out.now.2.1.sp; simpa using this) HKA.out.now.2.1.wd (by omega) HSF.out)
    have hnl : (nums [(0, T - 1)]).length ≤ 2097152 := by
      have h1 := nums_length HPL.out
      simp only [cnt, List.map_cons, List.map_nil, List.sum_cons, List.sum_nil] at h1
      omega
    have HS5 := Lib.hid hs5
    have hlt5 : w.heap.size + 1 + 1 < w5.heap.size := by omega
    go_wp2_with fail
    refine HE.out.mono ?_
    rintro e w6 ⟨B, g, c6, rfl, hbd, hcB, hsp, hb6⟩
    obtain ⟨hb56, hbr0, hsz6, hsq⟩ := each_box HPL.out hbd hcB hsp hb6
    have HB6 := Lib.hid hb56
    have HB0 := Lib.hid hbr0
    have HSQ := Lib.hid hsq
    rw [hs5] at HB0 HSQ
    clear hbd hcB hsp hb6 HE hb56 hbr0 hsq hp0 hp1 hp2 hp3 hgb
    go_wp2_with fail
    refine wp_rangeFunc (gf := 66) (lb := #[.pointer (some ⟨B, 0, none⟩)]) rfl (enters_of Try.func66 (by kernel_rfl) rfl) HSQ.out kpB_t (kpB_b (by omega)) (fun _ => rfl)
      (fun pre W => BoxRow (w.heap.size + 1 + 1 + 1) (w.heap.size + 1 + 1 + 1 + 1) ((pre.filter fun y => hasB g0 (shlV u y)).map fun v => (v, v)) W ∧ (pre.length ≤ (nums [(0, T - 1)]).length ∧ Below w5.heap.size w5 W))
      (fun _ _ _ => False)
      (OwnFrom.and (BoxRow.own _ _ _ _) (OwnFrom.and (ownFrom_pure _ _) (ownFrom_below (Nat.le_refl _) (by omega))))
      (fun _ _ _ _ _ h _ _ => h)
      ⟨HB0.out, Nat.zero_le _, HB6.out⟩
      ?act ?assign ?body ?done ?stop
    case assign =>
      intro l x W K hK
      gi_wp2
      exact hK
    case body =>
      rintro l pre x W ⟨hbr, hlen1, hbW⟩ hlen
      obtain ⟨Ab, cb, hv, hf, hrow⟩ := hbr
      have HKW := Lib.hid (HK.out.step hbW)
      obtain ⟨_, hgbW, ⟨hp0, hp1, hp2, hp3⟩, hF⟩ := HKW.out.now
      have HLG := Lib.hid (hg W hF)
      gi_wp2
      obtain ⟨y, hy⟩ : ∃ y, IntKind.i64.wrap (x * 2 ^ u.toNat) = y := ⟨_, rfl⟩
      obtain ⟨o, ho⟩ : ∃ o, o = (pre.filter fun y => hasB g0 (shlV u y)).map fun v => (v, v) := ⟨_, rfl⟩
      rw [← ho] at hv hrow
      have hol : o.length < 1099511627776 := by
        rw [ho, List.length_map]
        have := List.length_filter_le (fun y => hasB g0 (shlV u y)) pre
        omega
      have HOE := Lib.hid ho
      have HROW := Lib.hid hrow
      have HBW := Lib.hid hbW
      have HHAS := Lib.hid (Has_any G g0.length c g0 y W.drew (HLG.out.sp.drewN 1) (by have := HLG.out.len; omega))
      have HGB := Lib.hid hgbW
      have hBox := lt_of_cell hv
      clear ho hrow hbW hF
      rcases hbv : hasB g0 y with _ | _
      · rw [hbv] at HHAS
        have HBV := Lib.hid hbv
        clear hbv
        refine region_round_held (by kernel_rfl) (fun _ _ h => h) (by kernel_rfl) (fun w' => w'.cell? ⟨w.heap.size + 1, 0, none⟩ = some (.slice G g0.length c) ∧ w'.cell? ⟨w.heap.size, 3, none⟩ = some (.int .i64 u)) ⟨hgbW, hp3⟩ (fun hHeld => ?_)
        refine wpAnyH_take (i := 0) (v := ?_) rfl (by kernel_rfl) (by kernel_rfl) (by kernel_rfl) (fun _ _ _ h => h) (Or.inl ⟨by first | kernel_rfl | rfl, ?_⟩) (by assumption) ?_
        rotate_left
        · intro w hSw; (try dsimp only at hSw); go_simp; (try with_reducible rfl)
        (try simp only [Act.put, List.getElem_toArray, List.getElem_cons_succ, List.getElem_cons_zero, List.setIfInBounds_toArray, List.set_cons_zero, List.set_cons_succ])
        refine wpAnyH_take (i := 1) (v := ?_) rfl (by kernel_rfl) (by kernel_rfl) (by kernel_rfl) (fun _ _ _ h => h) (Or.inl ⟨by first | kernel_rfl | rfl, ?_⟩) (by assumption) ?_
        rotate_left
        · intro w hSw; (try dsimp only at hSw); go_simp; (try with_reducible rfl)
        (try simp only [Act.put, List.getElem_toArray, List.getElem_cons_succ, List.getElem_cons_zero, List.setIfInBounds_toArray, List.set_cons_zero, List.set_cons_succ])
        refine wpAnyH_take (i := 2) (v := ?_) rfl (by kernel_rfl) (by kernel_rfl) (by kernel_rfl) (fun _ _ _ h => h) (Or.inl ⟨by first | kernel_rfl | rfl, ?_⟩) (by assumption) ?_
        rotate_left
        · intro w hSw; (try dsimp only at hSw); go_simp; (try with_reducible rfl)
        (try simp only [Act.put, List.getElem_toArray, List.getElem_cons_succ, List.getElem_cons_zero, List.setIfInBounds_toArray, List.set_cons_zero, List.set_cons_succ])
        refine wpAnyH_take (i := 3) (v := ?_) rfl (by kernel_rfl) (by kernel_rfl) (by kernel_rfl) (fun _ _ _ h => h) (Or.inl ⟨by first | kernel_rfl | rfl, ?_⟩) (by assumption) ?_
        rotate_left
        · intro w hSw; (try dsimp only at hSw); go_simp; (try with_reducible rfl)
        (try simp only [Act.put, List.getElem_toArray, List.getElem_cons_succ, List.getElem_cons_zero, List.setIfInBounds_toArray, List.set_cons_zero, List.set_cons_succ])
        refine wpAnyH_take (i := 4) (v := ?_) rfl (by kernel_rfl) (by kernel_rfl) (by kernel_rfl) (fun _ _ _ h => h) (Or.inl ⟨by first | kernel_rfl | rfl, ?_⟩) (by assumption) ?_
        rotate_left
        · intro w hSw; (try dsimp only at hSw); go_simp; (try with_reducible rfl)
        (try simp only [Act.put, List.getElem_toArray, List.getElem_cons_succ, List.getElem_cons_zero, List.setIfInBounds_toArray, List.set_cons_zero, List.set_cons_succ])
        refine wpAnyH_ready (rs := [5]) (by kernel_rfl) (by simp) (AllReadyH.cons rfl (fun K hK => ?_) AllReadyH.nil)
        go_simp
        refine HHAS.out.out.mono ?_
        rintro e w7 ⟨rfl, hb7⟩
        have hb7W : Below W.heap.size W w7 := below_to (below_drewN (Below.refl _ _) 1) hb7
        have HB7 := Lib.hid hb7W
        refine hK.out _ _ (⟨(hb7W.cell (lt_of_cell hgbW)).trans hgbW, (hb7W.cell (lt_of_cell hp3)).trans hp3⟩) (fun hHeld => ?_)
        clear hK K
        (try simp only [Act.put, List.getElem_toArray, List.getElem_cons_succ, List.getElem_cons_zero, List.setIfInBounds_toArray, List.set_cons_zero, List.set_cons_succ])
        refine wpAnyH_done (by kernel_rfl) ?_ _
        gi_wp2
        have e : ((pre ++ [x]).filter fun y => hasB g0 (shlV u y)).map (fun v => ((v, v) : Sp)) = o := by
          have hx : hasB g0 (shlV u x) = false := by rw [← HBV.out, ← hy]; rfl
          rw [List.filter_append, List.filter_cons_of_neg (by simp [hx]), List.filter_nil, List.append_nil]; exact HOE.out.symm
        refine ⟨keeps_below HB7.out, KpB.below HB7.out (Nat.le_refl _) hBox, ?_, by simp; omega, below_to HBW.out HB7.out⟩
        show BoxRow _ _ (((pre ++ [x]).filter fun y => hasB g0 (shlV u y)).map (fun v => ((v, v) : Sp))) _
        rw [e]
        exact ⟨Ab, cb, (HB7.out.cell hBox).trans hv, (HB7.out.frozen hBox).trans hf, HROW.out.below HB7.out⟩
      · rw [hbv] at HHAS
        have HBV := Lib.hid hbv
        clear hbv
        refine region_round_held (by kernel_rfl) (fun _ _ h => h) (by kernel_rfl) (fun w' => w'.cell? ⟨w.heap.size + 1, 0, none⟩ = some (.slice G g0.length c) ∧ w'.cell? ⟨w.heap.size, 3, none⟩ = some (.int .i64 u)) ⟨hgbW, hp3⟩ (fun hHeld => ?_)
        refine wpAnyH_take (i := 0) (v := ?_) rfl (by kernel_rfl) (by kernel_rfl) (by kernel_rfl) (fun _ _ _ h => h) (Or.inl ⟨by first | kernel_rfl | rfl, ?_⟩) (by assumption) ?_
        rotate_left
        · intro w hSw; (try dsimp only at hSw); go_simp; (try with_reducible rfl)
        (try simp only [Act.put, List.getElem_toArray, List.getElem_cons_succ, List.getElem_cons_zero, List.setIfInBounds_toArray, List.set_cons_zero, List.set_cons_succ])
        refine wpAnyH_take (i := 1) (v := ?_) rfl (by kernel_rfl) (by kernel_rfl) (by kernel_rfl) (fun _ _ _ h => h) (Or.inl ⟨by first | kernel_rfl | rfl, ?_⟩) (by assumption) ?_
        rotate_left
        · intro w hSw; (try dsimp only at hSw); go_simp; (try with_reducible rfl)
        (try simp only [Act.put, List.getElem_toArray, List.getElem_cons_succ, List.getElem_cons_zero, List.setIfInBounds_toArray, List.set_cons_zero, List.set_cons_succ])
        refine wpAnyH_take (i := 2) (v := ?_) rfl (by kernel_rfl) (by kernel_rfl) (by kernel_rfl) (fun _ _ _ h => h) (Or.inl ⟨by first | kernel_rfl | rfl, ?_⟩) (by assumption) ?_
        rotate_left
        · intro w hSw; (try dsimp only at hSw); go_simp; (try with_reducible rfl)
        (try simp only [Act.put, List.getElem_toArray, List.getElem_cons_succ, List.getElem_cons_zero, List.setIfInBounds_toArray, List.set_cons_zero, List.set_cons_succ])
        refine wpAnyH_take (i := 3) (v := ?_) rfl (by kernel_rfl) (by kernel_rfl) (by kernel_rfl) (fun _ _ _ h => h) (Or.inl ⟨by first | kernel_rfl | rfl, ?_⟩) (by assumption) ?_
        rotate_left
        · intro w hSw; (try dsimp only at hSw); go_simp; (try with_reducible rfl)
        (try simp only [Act.put, List.getElem_toArray, List.getElem_cons_succ, List.getElem_cons_zero, List.setIfInBounds_toArray, List.set_cons_zero, List.set_cons_succ])
        refine wpAnyH_take (i := 4) (v := ?_) rfl (by kernel_rfl) (by kernel_rfl) (by kernel_rfl) (fun _ _ _ h => h) (Or.inl ⟨by first | kernel_rfl | rfl, ?_⟩) (by assumption) ?_
        rotate_left
        · intro w hSw; (try dsimp only at hSw); go_simp; (try with_reducible rfl)
        (try simp only [Act.put, List.getElem_toArray, List.getElem_cons_succ, List.getElem_cons_zero, List.setIfInBounds_toArray, List.set_cons_zero, List.set_cons_succ])
        refine wpAnyH_ready (rs := [5]) (by kernel_rfl) (by simp) (AllReadyH.cons rfl (fun K hK => ?_) AllReadyH.nil)
        go_simp
        refine HHAS.out.out.mono ?_
        rintro e w7 ⟨rfl, hb7⟩
        have hb7W : Below W.heap.size W w7 := below_to (below_drewN (Below.refl _ _) 1) hb7
        have HB7 := Lib.hid hb7W
        refine hK.out _ _ (⟨(hb7W.cell (lt_of_cell hgbW)).trans hgbW, (hb7W.cell (lt_of_cell hp3)).trans hp3⟩) (fun hHeld => ?_)
        clear hK K
        (try simp only [Act.put, List.getElem_toArray, List.getElem_cons_succ, List.getElem_cons_zero, List.setIfInBounds_toArray, List.set_cons_zero, List.set_cons_succ])
        refine wpAnyH_done (by kernel_rfl) ?_ _
        have hv7 : w7.cell? ⟨w.heap.size + 1 + 1 + 1, 0, none⟩ = some (.slice Ab o.length cb) := (hb7W.cell hBox).trans hv
        have HROW7 := Lib.hid (HROW.out.below hb7W)
        have hs7 := hb7W.size
        clear hb7 hb7W hHeld
        gi_wp2_with (
          gi_at_builtin
          refine wpListIn_pushS rfl _ _ rfl HROW7.out rfl rfl hol (by omega) ?_
          intro l2 A2 c2 w8 HL2 HO2 HG2 HAT2
          have HPU := Lib.hid (BoxRow.push (lo := w.heap.size + 1 + 1 + 1) (hi := w.heap.size + 1 + 1 + 1 + 1) (Nat.le_refl _) (by omega) (Nat.le_refl _) hv hf HROW.out (w0 := w7) (ob := .cells #[.int .i64 x, .int .i64 x] 52) HB7.out rfl HO2.out HG2.out HAT2.out)
          have hbx8 : w8.cell? ⟨w.heap.size + 1 + 1 + 1, 0, none⟩ = some (.slice Ab o.length cb) := by
            refine HG2.out.cell (cellAlloc _ hv7) (fun e => ?_)
            have := HROW7.out.lt _ e.symm
            simp at this; omega
          have hbf8 : w8.frozen? ⟨w.heap.size + 1 + 1 + 1, 0, none⟩ = false := by
            have := HPU.out.2.2.1
            obtain ⟨A8, c8, q1, q2, q3⟩ := this
            rwa [World.frozen?_setCell] at q2)
        obtain ⟨q1, q2, q3, q4⟩ := HPU.out
        have e : l2 = ((pre ++ [x]).filter fun y => hasB g0 (shlV u y)).map (fun v => ((v, v) : Sp)) := by
          have hx : hasB g0 (shlV u x) = true := by rw [← HBV.out, ← hy]; rfl
          rw [HL2.out, HOE.out, List.filter_append, List.filter_cons_of_pos (by simp [hx]), List.filter_nil, List.map_append]; rfl
        refine ⟨q1, q2, ?_, by simp; omega, HBW.out.trans (q4.mono (by omega))⟩
        show BoxRow _ _ (((pre ++ [x]).filter fun y => hasB g0 (shlV u y)).map (fun v => ((v, v) : Sp))) _
        rw [← e]; exact q3
    case done =>
      rintro D' xs W hD' rfl ⟨hbr, hlen1, hbW⟩ hKD
      obtain ⟨Ab, cb, hv, hf, hrow⟩ := hbr
      have ht6 : t ≤ 6 := by rcases HB7.out with h | h; exact absurd h hu; exact h
      have hnr : ∀ y, y ∈ nums [(0, T - 1)] ↔ 0 ≤ y ∧ y ≤ T - 1 := fun y => by rw [nums_mem, InS_one]
      have hT64 : T ≤ 64 := by have := pw_le6 (n := t) (by omega) ht6; rw [HT.out] at this; exact this
      obtain ⟨lu, hlu⟩ : ∃ l, (((nums [(0, T - 1)]).filter fun y => hasB g0 (shlV u y)).map (fun v => ((v, v) : Sp))) = l := ⟨_, rfl⟩
      have hmem : ∀ p ∈ lu, p.1 = p.2 ∧ 0 ≤ p.1 ∧ p.1 ≤ T - 1 := by
        intro p hp
        rw [← hlu] at hp
        obtain ⟨y, hy, rfl⟩ := List.mem_map.1 hp
        have h1 := (hnr y).1 ((List.mem_filter.1 hy).1)
        exact ⟨rfl, h1⟩
      have HIN : Hid (∀ y, InS lu y ↔ TkS t u g0 y) := by
        intro y
        unfold TkS
        rw [InS_iff, HT.out]
        constructor
        · rintro ⟨p, hp, g1, g2⟩
          rw [← hlu] at hp
          obtain ⟨z, hz, rfl⟩ := List.mem_map.1 hp
          obtain rfl : y = z := by simp only at g1 g2; omega
          have h1 := (hnr y).1 ((List.mem_filter.1 hz).1)
          have h2 := (List.mem_filter.1 hz).2
          rw [hasB_iff, shlV_eq (by omega) (by omega) (by omega) (by omega)] at h2
          exact ⟨h1.1, h1.2, h2⟩
        · rintro ⟨h0, h1, h2⟩
          refine ⟨(y, y), ?_, Int.le_refl _, Int.le_refl _⟩
          rw [← hlu]
          refine List.mem_map.2 ⟨y, List.mem_filter.2 ⟨(hnr y).2 ⟨h0, h1⟩, ?_⟩, rfl⟩
          rw [hasB_iff, shlV_eq (by omega) (by omega) (by omega) (by omega)]
          exact h2
      have hll : lu.length < 137438953472 := by
        rw [← hlu, List.length_map]
        have := List.length_filter_le (fun y => hasB g0 (shlV u y)) (nums [(0, T - 1)])
        omega
      have hwu : SpW lu := fun p hp => by have := hmem p hp; omega
      rw [hlu] at hv hrow
      have hDW : D' < W.heap.size := (Array.getElem?_eq_some_iff.1 hKD).1
      obtain ⟨s, Rs⟩ := rep_norm lu
      have HK7 := Lib.hid ((HK.out.step hbW).add (Below.refl _ _) (G := fun W' => Lst Ab lu W' ∧ Below w5.heap.size w5 W' ∧ W'.heap[D']? = some (.deferred (some []))) (fun W' hW' => ⟨⟨hrow.spans.below hW', hwu, hll⟩, hbW.trans (hW'.mono hbW.size), (hW'.block D' hDW).trans hKD⟩))
      have hlt := lt_of_cell hv
      clear hlu hKD hbW hrow hDW hmem hnr
      go_wp2_with fail
      refine (Norm_st HK7 (fun _ h => h.1.1) _ Rs).mono ?_
      rintro e w8 ⟨A8, c8, rfl, HK8⟩
      go_wp2_with fail
      have hn8 := HK8.out.now
      refine leaveM_mark (.slice A8 s.length c8) hn8.2.1.2.2 (fun w' => by simp [results, Try.f51, go_sem]) ?_
      have hm : Rep s (TkS t u g0) := Rs.out.congr fun y => by
        rw [← HIN.out]
        refine ⟨fun h => h.2.2, fun h => ?_⟩
        have := (HIN.out y).1 h
        unfold TkS at this
        rw [HT.out] at this
        exact ⟨by omega, by omega, h⟩
      obtain rfl := Rep.unique hm hr.out (fun _ => Iff.rfl)
      exact ⟨_, _, rfl, Lib.hid ((HK.out.mark hn8.2.1.2.1 hn8.1 (by omega) hn8.2.1.2.2).weaken fun W h => ⟨h.1, h.2.2.2.2⟩)⟩
    case stop =>
      rintro D cd pre W hD hpre hF
      exact hF.elim
end
end Go.Proofs.Ytpmhdjiacgckjaa
end
section
namespace Go.Proofs.Ytpmhdjiacgckjaa
open Go.RowKit
set_option linter.unusedVariables false

/-- gathered: of the spans ahead of the k-th all; they end ahead of L -/
def Pre1 (D T : Int) (m W : List Sp) (k : Nat) (o : List Sp) : Prop :=
  (∀ x, InS o x ↔ InS (m.take k) x ∧ InS W (x / D % T)) ∧ ∃ L : Int, 0 ≤ L ∧ (o.length : Int) ≤ L ∧ (∀ p ∈ m.drop k, L ≤ p.1) ∧ L ≤ 2097152
/-- .. and of the span (x1, x2) the blocks ahead of the j-th -/
def Pre2 (D T : Int) (m W : List Sp) (k : Nat) (x1 x2 j : Int) (o : List Sp) : Prop :=
  (∀ x, InS o x ↔ (InS (m.take k) x ∧ InS W (x / D % T)) ∨ (x1 ≤ x ∧ x ≤ x2 ∧ x / D / T < j ∧ InS W (x / D % T))) ∧
  ∃ L : Int, 0 ≤ L ∧ (o.length : Int) ≤ L ∧ (L ≤ x1 ∨ L ≤ j * T * D) ∧ L ≤ x2 + 1
/-- .. and of the j-th block the first i spans that are wanted -/
def Pre3 (D T : Int) (m W : List Sp) (k : Nat) (x1 x2 j : Int) (i : Nat) (o : List Sp) : Prop :=
  (∀ x, InS o x ↔ (InS (m.take k) x ∧ InS W (x / D % T)) ∨ (x1 ≤ x ∧ x ≤ x2 ∧ ((x / D / T < j ∧ InS W (x / D % T)) ∨ (x / D / T = j ∧ InS (W.take i) (x / D % T))))) ∧
  ∃ L : Int, 0 ≤ L ∧ (o.length : Int) ≤ L ∧ (∀ y ∈ W.drop i, L ≤ x1 ∨ L ≤ (j * T + y.1) * D) ∧ (L ≤ x1 ∨ L ≤ (j + 1) * T * D) ∧ L ≤ x2 + 1

theorem PlainF.drop_low {a : Int} {l : List Sp} (h : PlainF a l) {k : Nat} {p q : Sp} (hp : l[k]? = some p) (hq : q ∈ l.drop (k + 1)) : p.2 + 2 ≤ q.1 ∧ q.1 ≤ q.2 := by
  induction l generalizing a k with
  | nil => simp at hp
  | cons r l ih =>
    obtain ⟨h1, h2, h3, h4⟩ := h
    cases k with
    | zero =>
      simp at hp; subst hp
      have hm : q ∈ l := by simpa using hq
      have := PlainF.mem h4 hm
      have := h4.low (InS_of_mem hm (Int.le_refl _) (by omega))
      omega
    | succ k => exact ih h4 (by simpa using hp) (by simpa using hq)
theorem Pre1.start {D T : Int} {m W a : List Sp} (hm : Rep m (topM a)) : Pre1 D T m W 0 [] := by
  refine ⟨fun x => by simp [InS], 0, by omega, by simp, fun p hp => ?_, by omega⟩
  obtain ⟨k, hk⟩ := List.getElem?_of_mem (by simpa using hp : p ∈ m)
  exact (topM_mem hm (x1 := p.1) (x2 := p.2) hk).1
theorem Pre1.go {D T : Int} {m W a o : List Sp} {k : Nat} {x1 x2 : Int} (hD : 1 ≤ D) (hT : 1 ≤ T) (hm : Rep m (topM a)) (h : Pre1 D T m W k o) (hx : m[k]? = some (x1, x2)) :
    Pre2 D T m W k x1 x2 (x1 / D / T) o := by
  obtain ⟨h0, h12, h2⟩ := topM_mem hm hx
  refine ⟨fun x => ?_, ?_⟩
  · rw [h.1]
    constructor
    · exact .inl
    · rintro (g | ⟨g1, g2, g3, g4⟩)
      · exact g
      · have q1 : x1 / D ≤ x / D := Int.ediv_le_ediv (by omega) g1
        have q2 : x1 / D / T ≤ x / D / T := Int.ediv_le_ediv (by omega) q1
        omega
  · obtain ⟨L, l0, l1, l2, l3⟩ := h.2
    have := l2 (x1, x2) (by rw [drop_cons? hx]; simp)
    exact ⟨L, l0, l1, .inl this, by simp only at this; omega⟩
theorem Pre2.go {D T : Int} {m W o : List Sp} {k : Nat} {x1 x2 j : Int} (hD : 1 ≤ D) (hW : ∀ p ∈ W, 0 ≤ p.1 ∧ p.1 ≤ p.2 ∧ p.2 ≤ T - 1) (hT : 1 ≤ T) (h : Pre2 D T m W k x1 x2 j o) :
    Pre3 D T m W k x1 x2 j 0 o := by
  refine ⟨fun x => ?_, ?_⟩
  · rw [h.1]
    simp [InS]
  · obtain ⟨L, l0, l1, l2, l3⟩ := h.2
    refine ⟨L, l0, l1, fun y hy => ?_, ?_, l3⟩
    · rcases l2 with l2 | l2
      · exact .inl l2
      · right
        have := (hW y (by simpa using hy)).1
        have := Int.mul_le_mul_of_nonneg_right (show j * T ≤ j * T + y.1 by omega) (show 0 ≤ D by omega)
        omega
    · rcases l2 with l2 | l2
      · exact .inl l2
      · right
        have e : (j + 1) * T = j * T + T := by rw [Int.add_mul, Int.one_mul]
        rw [e]
        have := Int.mul_le_mul_of_nonneg_right (show j * T ≤ j * T + T by omega) (show 0 ≤ D by omega)
        omega
theorem Pre3.skip {D T : Int} {m W o : List Sp} {k i : Nat} {x1 x2 j y1 y2 : Int} (hD : 1 ≤ D) (hT : 1 ≤ T) (hW : ∀ p ∈ W, 0 ≤ p.1 ∧ p.1 ≤ p.2 ∧ p.2 ≤ T - 1) (h : Pre3 D T m W k x1 x2 j i o) (hy : W[i]? = some (y1, y2))
    (hle : ¬ max x1 ((j * T + y1) * D) ≤ min x2 ((j * T + y2 + 1) * D - 1)) : Pre3 D T m W k x1 x2 j (i + 1) o := by
  have hyW := hW (y1, y2) (List.mem_of_getElem? hy)
  refine ⟨fun x => ?_, ?_⟩
  · rw [h.1, take_snoc? hy, InS_append, InS_one]
    have := pre_span (D := D) (T := T) (x1 := x1) (x2 := x2) (y1 := y1) (y2 := y2) (j := j) (x := x) hD hT hyW.1 hyW.2.2
    have hn : ¬ (x1 ≤ x ∧ x ≤ x2 ∧ x / D / T = j ∧ y1 ≤ x / D % T ∧ x / D % T ≤ y2) := fun g => by
      have := this.2 g; omega
    grind
  · obtain ⟨L, l0, l1, l2, l3⟩ := h.2
    exact ⟨L, l0, l1, fun y g => l2 y (by rw [drop_cons? hy]; exact List.mem_cons_of_mem _ g), l3⟩
theorem Pre3.push {D T : Int} {m W o : List Sp} {k i : Nat} {x1 x2 j y1 y2 lo hi : Int} (hD : 1 ≤ D) (hT : 1 ≤ T) (hWp : PlainF (-1073741826) W) (hW : ∀ p ∈ W, 0 ≤ p.1 ∧ p.1 ≤ p.2 ∧ p.2 ≤ T - 1) (h : Pre3 D T m W k x1 x2 j i o) (hy : W[i]? = some (y1, y2))
    (hx0 : 0 ≤ x1) (hlo : max x1 ((j * T + y1) * D) = lo) (hhi : min x2 ((j * T + y2 + 1) * D - 1) = hi) (hle : lo ≤ hi) : Pre3 D T m W k x1 x2 j (i + 1) (o ++ [(lo, hi)]) := by
  have hyW := hW (y1, y2) (List.mem_of_getElem? hy)
  refine ⟨fun x => ?_, ?_⟩
  · rw [InS_append, InS_one, h.1, take_snoc? hy, InS_append, InS_one]
    have := pre_span (D := D) (T := T) (x1 := x1) (x2 := x2) (y1 := y1) (y2 := y2) (j := j) (x := x) hD hT hyW.1 hyW.2.2
    rw [hlo, hhi] at this
    grind
  · obtain ⟨L, l0, l1, l2, l3, l4⟩ := h.2
    have g1 := l2 (y1, y2) (by rw [drop_cons? hy]; simp)
    simp only at g1 hyW
    have hLlo : L ≤ lo := by omega
    refine ⟨hi + 1, by omega, by simp; omega, fun y hyy => ?_, ?_, by omega⟩
    · right
      have := (hWp.drop_low hy hyy).1
      simp only at this
      have := Int.mul_le_mul_of_nonneg_right (show j * T + y2 + 1 ≤ j * T + y.1 by omega) (show 0 ≤ D by omega)
      omega
    · right
      have e : (j + 1) * T = j * T + T := by rw [Int.add_mul, Int.one_mul]
      rw [e]
      have := Int.mul_le_mul_of_nonneg_right (show j * T + y2 + 1 ≤ j * T + T by omega) (show 0 ≤ D by omega)
      omega
theorem Pre3.done {D T : Int} {m W o : List Sp} {k : Nat} {x1 x2 j : Int} (h : Pre3 D T m W k x1 x2 j W.length o) : Pre2 D T m W k x1 x2 (j + 1) o := by
  refine ⟨fun x => ?_, ?_⟩
  · rw [h.1, List.take_length]
    have : x / D / T < j + 1 ↔ (x / D / T < j ∨ x / D / T = j) := by omega
    rw [this]
    grind
  · obtain ⟨L, l0, l1, l2, l3, l4⟩ := h.2
    exact ⟨L, l0, l1, l3, l4⟩
theorem Pre2.done {D T : Int} {m W a o : List Sp} {k : Nat} {x1 x2 j : Int} (hD : 1 ≤ D) (hT : 1 ≤ T) (hm : Rep m (topM a)) (h : Pre2 D T m W k x1 x2 j o) (hx : m[k]? = some (x1, x2)) (hj : x2 / D / T < j) : Pre1 D T m W (k + 1) o := by
  obtain ⟨h0, h12, h2⟩ := topM_mem hm hx
  refine ⟨fun x => ?_, ?_⟩
  · rw [h.1, InS_take_succ hx]
    have : x ≤ x2 → x / D / T < j := fun g => by
      have q1 : x / D ≤ x2 / D := Int.ediv_le_ediv (by omega) g
      have q2 : x / D / T ≤ x2 / D / T := Int.ediv_le_ediv (by omega) q1
      omega
    grind
  · obtain ⟨L, l0, l1, l2, l3⟩ := h.2
    refine ⟨L, l0, l1, fun p hp => ?_, by omega⟩
    have := (PlainF.drop_low hm.1 hx hp).1
    simp only at this
    omega
/-- spans of numbers of 21 bits -/
def In21 (o : List Sp) : Prop := ∀ p ∈ o, 0 ≤ p.1 ∧ p.1 ≤ p.2 ∧ p.2 ≤ 2097151
theorem In21.push {o : List Sp} (h : In21 o) {a b : Int} (h0 : 0 ≤ a) (h1 : a ≤ b) (h2 : b ≤ 2097151) : In21 (o ++ [(a, b)]) := by
  intro p hp
  rcases List.mem_append.1 hp with g | g
  · exact h p g
  · simp at g; subst g; exact ⟨h0, h1, h2⟩
theorem In21.spw {o : List Sp} (h : In21 o) : SpW o := fun p hp => by have := h p hp; omega
theorem Pre1.len {D T : Int} {m W o : List Sp} {k : Nat} (h : Pre1 D T m W k o) : o.length ≤ 2097152 := by obtain ⟨L, l0, l1, l2, l3⟩ := h.2; omega
theorem Pre2.len {D T : Int} {m W o : List Sp} {k : Nat} {x1 x2 j : Int} (hx : x2 ≤ 2097151) (h : Pre2 D T m W k x1 x2 j o) : o.length ≤ 2097152 := by obtain ⟨L, l0, l1, l2, l3⟩ := h.2; omega
theorem Pre3.len {D T : Int} {m W o : List Sp} {k i : Nat} {x1 x2 j : Int} (hx : x2 ≤ 2097151) (h : Pre3 D T m W k x1 x2 j i o) : o.length ≤ 2097152 := by obtain ⟨L, l0, l1, l2, l3, l4⟩ := h.2; omega
/-- what is wanted of the values, as bits that aren't moved up yet -/
theorem want_mem {t u : Int} {g W : List Sp} (hW : Rep W (TkS t u g)) : ∀ p ∈ W, 0 ≤ p.1 ∧ p.1 ≤ p.2 ∧ p.2 ≤ pw t - 1 := by
  intro p hp
  have hp' := PlainF.mem hW.1 hp
  have h12 : p.1 ≤ p.2 := by omega
  have g1 := (hW.2 p.1).1 (InS_of_mem hp (Int.le_refl _) h12)
  have g2 := (hW.2 p.2).1 (InS_of_mem hp h12 (Int.le_refl _))
  exact ⟨g1.1, h12, g2.2.1⟩
theorem Pre1.rep {d t u : Int} {a g m W o r : List Sp} (hb : bitsB d t u = true) (hm : Rep m (topM a)) (hW : Rep W (TkS t u g)) (h : Pre1 (pw d) (pw t) m W m.length o) (hr : Rep r (Mem o)) : Rep r (PreS d t u a g) := by
  refine hr.congr fun x => ?_
  have e : InS o x ↔ PreS d t u a g x := by
    rw [h.1, List.take_length, hm.2, topM_iff, hW.2]
    unfold TkS PreS pval
    have hp := pw_pos t
    have g0 := Int.emod_nonneg (x / pw d) (b := pw t) (by omega)
    have g1 := Int.emod_lt_of_pos (x / pw d) (b := pw t) (by omega)
    grind
  rw [← e]
  refine ⟨fun g => g.2.2, fun g => ?_⟩
  have := (e.1 g).2.1
  exact ⟨this.1, this.2.1, g⟩
end Go.Proofs.Ytpmhdjiacgckjaa
end
