/- Contracts and plain laws that the proof leans on. Condition: as each theorem says. -/
import Derived.Test.YtlmkokeapbleoaaGreatV12
import Derived.Test.YtlmkokeapbleoaaGreatV09
import Derived.Test.YtlmkokeapbleoaaGreatV07
import Derived.Test.YtlmkokeapbleoaaGreatV05
import Derived.OwnWalk
set_option maxRecDepth 100000
set_option maxHeartbeats 64000000
set_option linter.unusedVariables false
set_option linter.unusedSimpArgs false
namespace Go.Proofs.YtlmkokeapbleoaaGreat
open Go.RowKit
section
def natC (l : List Nat) : List Value := l.map fun t : Nat => .int .i64 (t : Int)
theorem natC_snoc (l : List Nat) (t : Nat) : natC (l ++ [t]) = natC l ++ [.int .i64 (t : Int)] := by simp [natC]
def inC (m : Nat) (D : Nat → Nat) : List Value := (List.range m).map fun t => .int .i64 (D t : Int)
theorem inC_len (m : Nat) (D : Nat → Nat) : (inC m D).length = m := by simp [inC]
theorem inC_at {m : Nat} (D : Nat → Nat) {t : Nat} (h : t < m) : (inC m D)[t]? = some (.int .i64 (D t : Int)) := by simp [inC, List.getElem?_range h]
theorem inC_set (m : Nat) (D : Nat → Nat) (t v : Nat) : (inC m D).set t (.int .i64 (v : Int)) = inC m (Kahn.upd D t v) := by
  apply List.ext_getElem?
  intro j
  by_cases hj : j < m
  · rw [inC_at _ hj]
    by_cases e : t = j
    · subst e; rw [List.getElem?_set_self (by rw [inC_len]; exact hj)]; simp [Kahn.upd]
    · rw [List.getElem?_set_ne e, inC_at _ hj]; simp [Kahn.upd, show ¬ j = t from fun h => e h.symm]
  · rw [List.getElem?_eq_none (by rw [List.length_set, inC_len]; omega), List.getElem?_eq_none (by rw [inC_len]; omega)]
theorem inC_arr (m : Nat) (D : Nat → Nat) (t v : Nat) : (inC m D).toArray.setIfInBounds t (.int .i64 (v : Int)) = (inC m (Kahn.upd D t v)).toArray := by
  rw [List.setIfInBounds_toArray, inC_set]
theorem inC_congr {m : Nat} {D D' : Nat → Nat} (h : ∀ t, t < m → D t = D' t) : inC m D = inC m D' := by
  unfold inC
  refine List.map_congr_left fun t ht => ?_
  rw [h t (List.mem_range.1 ht)]
def toF (E : List Kahn.Edge) (s : Nat) : List Int := (Kahn.outs E s).map fun e => (e.2 : Int)
theorem toF_snoc (E : List Kahn.Edge) (f t s : Nat) : toF (E ++ [(f, t)]) s = if s = f then toF E f ++ [(t : Int)] else toF E s := by
  unfold toF Kahn.outs
  rw [List.filter_append, List.map_append]
  by_cases h : s = f
  · subst h; simp
  · rw [if_neg h, List.filter_cons_of_neg (by simp; omega)]; simp
theorem toF_len (E : List Kahn.Edge) (s : Nat) : (toF E s).length ≤ E.length := by
  unfold toF Kahn.outs; rw [List.length_map]; exact List.length_filter_le ..
theorem cnt_snoc (E : List Kahn.Edge) (f t s : Nat) : Kahn.cnt (E ++ [(f, t)]) s = Kahn.upd (Kahn.cnt E) t (Kahn.cnt E t + 1) s := by
  unfold Kahn.cnt Kahn.upd
  rw [List.countP_append]
  by_cases h : s = t
  · subst h; simp
  · rw [if_neg h]
    have : ¬ t = s := fun e => h e.symm
    simp [this]
theorem epsE_snoc (l : List RuleL) (r : RuleL) : epsE (l ++ [r]) = epsE l ++ if r.gs = [] then [(r.fr.toNat, r.dst.toNat)] else [] := by
  unfold epsE
  rw [List.filter_append, List.map_append]
  congr 1
  by_cases h : r.gs = []
  · rw [if_pos h, List.filter_cons_of_pos (by simp [h])]; rfl
  · rw [if_neg h, List.filter_cons_of_neg (by simpa using h)]; rfl
theorem epsE_len (l : List RuleL) : (epsE l).length ≤ l.length := by
  unfold epsE; rw [List.length_map]; exact List.length_filter_le ..
theorem rows_set {R : List (Item Int)} {m : Nat} {f g : Nat → List Int} (h : R.map (·.2.2) = (List.range m).map f) {i : Nat} (x : Item Int) (hi : i < m) (hx : x.2.2 = g i) (hg : ∀ j, j ≠ i → g j = f j) : (R.set i x).map (·.2.2) = (List.range m).map g := by
  have hl : R.length = m := by have := congrArg List.length h; simpa using this
  rw [List.map_set, h]
  apply List.ext_getElem?
  intro j
  by_cases hj : j < m
  · by_cases e : i = j
    · subst e
      rw [List.getElem?_set_self (by simpa using hj)]; simp [List.getElem?_range hj, hx]
    · rw [List.getElem?_set_ne e]; simp [List.getElem?_range hj, hg j (fun h => e h.symm)]
  · rw [List.getElem?_eq_none (by simp; omega), List.getElem?_eq_none (by simp; omega)]
theorem rows_at {R : List (Item Int)} {m : Nat} {f : Nat → List Int} (h : R.map (·.2.2) = (List.range m).map f) {i : Nat} (hi : i < m) : ∃ a c, R[i]? = some (a, c, f i) := by
  have h1 : (R.map (·.2.2))[i]? = some (f i) := by rw [h]; simp [List.getElem?_range hi]
  rw [List.getElem?_map] at h1
  rcases hr : R[i]? with _ | ⟨a, c, l⟩
  · rw [hr] at h1; cases h1
  · rw [hr] at h1; simp at h1; subst h1; exact ⟨a, c, rfl⟩
section
variable {w0 w : World} {F : World → Prop}
theorem cycle_st (hK : Hid (St w0 w F)) (i o s : Int) (n : Nat) (h1 : 1 ≤ n) (h2 : n ≤ 1024) {ra fa : Option Addr} {rs : List RuleI} (rc fl fc : Nat) (hr : ∀ W, F W → RulesAt Lst ra rs W) (hrl : rs.length ≤ 4096) (hso : Hid (∀ r ∈ rs, StateOk n r.fr ∧ StateOk n r.dst)) (v : Bool) (hv : Hid (Kahn.cyc (epsE (rs.map RuleI.L)) n = v)) :
    Calls Tryz.prog 154 #[.agg #[.int .i64 i, .int .i64 o, .int .i64 n, .int .i64 s, .slice ra rs.length rc, .slice fa fl fc]] w (RetV w0 (.bool v) F) := by
  have HR := Lh hr
  have HK := St.box hK [.int .i64 i, .int .i64 o, .int .i64 n, .int .i64 s, .slice ra rs.length rc, .slice fa fl fc] 26
  have hmk1 : ∀ w : World, (Instr.makeSlice 138 (.int .i64 (n : Int)) (.int .i64 (n : Int))).run Tryz.prog w = .ok (.slice (some ⟨w.heap.size, 0, none⟩) n n) (w.alloc (.cells (madeCells #[.slice none 0 0] n) 62)) := fun w => run_make_row' 138 62 (.slice none 0 0) 24 Tryz.underlying138 infoRowI rfl .i64 .i64 n (by omega) (by omega) w
  have hmk2 : ∀ w : World, (Instr.makeSlice 62 (.int .i64 (n : Int)) (.int .i64 (n : Int))).run Tryz.prog w = .ok (.slice (some ⟨w.heap.size, 0, none⟩) n n) (w.alloc (.cells (madeCells #[.int .i64 0] n) 3)) := fun w => run_make_row' 62 3 (.int .i64 0) 8 Tryz.underlying62 infoIy rfl .i64 .i64 n (by omega) (by omega) w
  obtain ⟨b0, hb0⟩ : ∃ z, w.heap.size = z := ⟨_, rfl⟩
  obtain ⟨w1, hw1⟩ : ∃ z, w.alloc (.cells [.int .i64 i, .int .i64 o, .int .i64 n, .int .i64 s, .slice ra rs.length rc, .slice fa fl fc].toArray 26) = z := ⟨_, rfl⟩
  have hs1 : w1.heap.size = b0 + 1 := by rw [← hw1]; simp [hb0]
  rw [hw1, hb0] at HK
  obtain ⟨q0, q1, q2, q3, q4, q5⟩ := HK.out.now.1.c6
  have HRW0 := Lh (RwI.start w1 n (b0 + 3))
  obtain ⟨w2, hw2⟩ : ∃ z, w1.alloc (.cells (madeCells #[.slice none 0 0] n) 62) = z := ⟨_, rfl⟩
  have hs2 : w2.heap.size = b0 + 2 := by rw [← hw2]; simp; omega
  obtain ⟨w3, hw3⟩ : ∃ z, w2.alloc (.cells (madeCells #[.int .i64 0] n) 3) = z := ⟨_, rfl⟩
  have hs3 : w3.heap.size = b0 + 3 := by rw [← hw3]; simp; omega
  rw [hw2, hs1] at HRW0
  have HB13 : Hid (Below (b0 + 1) w1 w3) := Lh (by rw [← hw3, ← hw2, ← hs1]; exact ((Below.refl _ _).alloc (Nat.le_refl _) _).alloc (by simp) _)
  have HRW3 : Hid (RwI (b0 + 1) (b0 + 3) (List.replicate n (none, 0, [])) w3) := Lh (by rw [← hw3]; exact HRW0.out.below ((Below.refl _ _).alloc (Nat.le_refl _) _))
  have HIN3 : Hid (w3.heap[b0 + 2]? = some (.cells (inC n (Kahn.cnt [])).toArray 3 (0, 0))) := Lh (by
    rw [← hw3, ← hs2, heap_alloc_new]
    congr 2
    apply Array.ext'
    rw [toList_madeCells_one]
    unfold inC Kahn.cnt
    simp [List.map_const'])
  have q2b : w2.cell? ⟨b0, 2, none⟩ = some (.int .i64 n) := by rw [← hw2]; exact cellAl _ q2
  have q2' := (HB13.out.cell (p := ⟨b0, 2, none⟩) (by show b0 < b0 + 1; omega)).trans q2
  have q4' := (HB13.out.cell (p := ⟨b0, 4, none⟩) (by show b0 < b0 + 1; omega)).trans (HK.out.now.1 4 _ rfl)
  have HS1 := Lh hs1
  have HS3 := Lh hs3
  have hib : b0 + 2 < b0 + 3 := by omega
  clear hr HRW0
  go_enter Tryz.func154, Tryz.ntmps154
  go_wp2_with fail
  (try rw [hs1]); (try rw [hs2]); (try rw [hw3])
  clear q0 q1 q2 q3 q4 q5 q2b q2' q4' hmk1 hmk2 hw1 hw2 hw3
  obtain ⟨j0, ji, jz0, jz1, jz2⟩ := info_parts infoIy
  go_loopw [23] (fun iv wr => ∃ (k : Nat) (R : List (Item Int)), k ≤ rs.length ∧ iv = .int .i64 k ∧ Hid (RwI (b0 + 1) (b0 + 3) R wr) ∧ Hid (R.map (·.2.2) = (List.range n).map (toF (epsE ((rs.take k).map RuleI.L)))) ∧
      Hid (wr.heap[b0 + 2]? = some (.cells (inC n (Kahn.cnt (epsE ((rs.take k).map RuleI.L)))).toArray 3 (0, 0))) ∧ Hid (w3.heap.size ≤ wr.heap.size ∧ Below (b0 + 1) w1 wr)) (fun iv _ => rs.length - (intOf iv).toNat)
  case atStart =>
    refine ⟨0, List.replicate n (none, 0, []), Nat.zero_le _, rfl, HRW3, Lh ?_, HIN3, Lh ⟨Nat.le_refl _, HB13.out⟩⟩
    rw [List.take_zero, List.map_nil, List.map_replicate]
    apply List.ext_getElem?
    intro j
    by_cases hj : j < n
    · simp [List.getElem?_replicate, hj, toF, epsE, Kahn.outs]
    · rw [List.getElem?_eq_none (by simp; omega), List.getElem?_eq_none (by simp; omega)]
  case round =>
  obtain ⟨k, R, hk, rfl, HRW, HRF, HIN, HFR⟩ := hrel
  have HKr := Lh (HK.out.step (by rw [HS1.out]; exact HFR.out.2))
  have hbs := HFR.out.1
  rw [HS3.out] at hbs
  by_cases hlt : k < rs.length
  case pos =>
    obtain ⟨rb, off, r, rfl, hx, hw, hd0, hd1, hd2, hd3, hd4⟩ := (HR.out _ HKr.out.now.2).at_ hlt
    obtain ⟨⟨hf0, hf1⟩, ⟨ht0, ht1⟩⟩ := hso.out r (List.mem_of_getElem? hx)
    have HX := Lh hx
    have hE : epsE ((rs.take (k + 1)).map RuleI.L) = epsE ((rs.take k).map RuleI.L) ++ if r.gs.length = 0 then [(r.fr.toNat, r.dst.toNat)] else [] := by
      rw [take_snoc? hx, List.map_append, List.map_cons, List.map_nil, epsE_snoc]
      congr 1
      have e : (r.L.gs = []) ↔ r.gs.length = 0 := by
        unfold RuleI.L bodies
        rw [List.map_eq_nil_iff, List.length_eq_zero_iff]
      by_cases h : r.gs.length = 0
      · rw [if_pos h, if_pos (e.2 h)]; rfl
      · rw [if_neg h, if_neg (fun q => h (e.1 q))]
    obtain ⟨fr, dst, ga, gc, gs, ea, oo⟩ := r
    simp only at hd0 hd1 hd2 hd3 hd4 hf0 hf1 ht0 ht1 hE
    obtain ⟨f, rfl⟩ := Int.eq_ofNat_of_zero_le hf0
    obtain ⟨t, rfl⟩ := Int.eq_ofNat_of_zero_le ht0
    simp only [Int.toNat_natCast] at hE
    have hBX := heap_alloc_new wr (.cells #[.int .i64 (f : Int), .int .i64 (t : Int), .slice ga gs.length gc, .int .i64 ea, .slice oo.a oo.l.length oo.c] 102)
    have HBX := Lh hBX
    have hfn : f < n := by omega
    have htn : t < n := by omega
    clear hx hw hf0 ht0 hBX
    by_cases hg : gs.length = 0
    case neg =>
      rw [if_neg hg, List.append_nil] at hE
      have hg0 : ((gs.length : Int) == 0) = false := by rw [beq_eq_false_iff_ne]; omega
      have HRW2 := Lh (HRW.out.below ((Below.refl wr.heap.size wr).alloc (Nat.le_refl _) (.cells #[.int .i64 (f : Int), .int .i64 (t : Int), .slice ga gs.length gc, .int .i64 ea, .slice oo.a oo.l.length oo.c] 102)))
      have HIN2 := Lh ((Below.heap_alloc wr (.cells #[.int .i64 (f : Int), .int .i64 (t : Int), .slice ga gs.length gc, .int .i64 ea, .slice oo.a oo.l.length oo.c] 102) (b0 + 2) (by omega)).trans HIN.out)
      have HFR2 : Hid (w3.heap.size ≤ (wr.alloc (.cells #[.int .i64 (f : Int), .int .i64 (t : Int), .slice ga gs.length gc, .int .i64 ea, .slice oo.a oo.l.length oo.c] 102)).heap.size ∧ Below (b0 + 1) w1 (wr.alloc (.cells #[.int .i64 (f : Int), .int .i64 (t : Int), .slice ga gs.length gc, .int .i64 ea, .slice oo.a oo.l.length oo.c] 102))) := Lh ⟨by have := HFR.out.1; simp; omega, HFR.out.2.alloc (by omega) _⟩
      have HE := Lh hE
      clear hE hg
      go_wp2_with fail
      go_roundw
      case rel => exact ⟨k + 1, R, by omega, by go_num, HRW2, by rw [HE.out]; exact HRF, by rw [HE.out]; exact HIN2, HFR2⟩
      case measure => simp [intOf]; omega
    rw [if_pos hg] at hE
    have hg0 : ((gs.length : Int) == 0) = true := by simpa using hg
    have HE := Lh hE
    obtain ⟨a, ca, hRq⟩ := rows_at HRF.out hfn
    obtain ⟨l, hl⟩ : ∃ z, toF (epsE ((rs.take k).map RuleI.L)) f = z := ⟨_, rfl⟩
    rw [hl] at hRq
    have hll : l.length ≤ 4096 := by
      rw [← hl]
      have h5 := toF_len (epsE ((rs.take k).map RuleI.L)) f
      have h6 := epsE_len ((rs.take k).map RuleI.L)
      rw [List.length_map, List.length_take] at h6
      omega
    obtain ⟨D, hD⟩ : ∃ z, Kahn.cnt (epsE ((rs.take k).map RuleI.L)) t = z := ⟨_, rfl⟩
    have hDl : D ≤ 4096 := by
      rw [← hD]
      unfold Kahn.cnt
      have h5 := List.countP_le_length (p := fun e : Kahn.Edge => e.2 == t) (l := epsE ((rs.take k).map RuleI.L))
      have h6 := epsE_len ((rs.take k).map RuleI.L)
      rw [List.length_map, List.length_take] at h6
      omega
    have HL := Lh hl
    have HRQ := Lh hRq
    have HDE := Lh hD
    have HG := Lh hg
    clear hE hl hRq hD hg
    go_wp2_with fail
    rw [HG.out] at HBX ⊢
    obtain ⟨wA, hwA⟩ : ∃ z, (wr.alloc (.cells #[.int .i64 (f : Int), .int .i64 (t : Int), .slice ga 0 gc, .int .i64 ea, .slice oo.a oo.l.length oo.c] 102)).drew = z := ⟨_, rfl⟩
    have hbA : Below wr.heap.size wr wA := by rw [← hwA]; exact ((Below.refl _ wr).alloc (Nat.le_refl _) _).drew
    have hAs : wA.heap.size = wr.heap.size + 1 := by rw [← hwA]; simp
    have hxA : wA.heap[wr.heap.size]? = some (.cells #[.int .i64 (f : Int), .int .i64 (t : Int), .slice ga 0 gc, .int .i64 ea, .slice oo.a oo.l.length oo.c] 102 (0, 0)) := by rw [← hwA]; exact HBX.out
    have hx01 : ∀ V : World, V.heap[wr.heap.size]? = wA.heap[wr.heap.size]? → V.cell? ⟨wr.heap.size, 0, none⟩ = some (.int .i64 (f : Int)) ∧ V.cell? ⟨wr.heap.size, 1, none⟩ = some (.int .i64 (t : Int)) := fun V h => by
      rw [hxA] at h
      simp [World.cell?, h]
    have HX01 := Lh hx01
    have HRWA := Lh (HRW.out.below hbA)
    have hrA := HRWA.out.cell HRQ.out
    have hA01 := hx01 wA rfl
    have HBA := Lh hbA
    have HAS := Lh hAs
    have hA3 : b0 + 3 ≤ wA.heap.size := by omega
    clear hx01 hAs
    refine wp_region_Z 13 (by kernel_rfl) (fun V' => (V'.cell? ⟨wr.heap.size, 0, none⟩ = some (.int .i64 (f : Int)) ∧ V'.cell? ⟨wr.heap.size, 1, none⟩ = some (.int .i64 (t : Int))) ∧ V'.cell? ⟨b0 + 1, f, none⟩ = some (.slice a l.length ca)) (by rw [hwA]; exact ⟨hA01, hrA.1⟩) (fun hHeld => ?_)
    refine zt (v := ?_) 0 rfl ?_ ?_
    rotate_left
    · intro w hSw; (try dsimp only at hSw); go_simp; (try with_reducible rfl)
    (try simp only [Act.put, zq1, zq2, zq3, zq4, zq5, zq6])
    refine zt (v := ?_) 1 rfl ?_ ?_
    rotate_left
    · intro w hSw; (try dsimp only at hSw); go_simp; (try with_reducible rfl)
    (try simp only [Act.put, zq1, zq2, zq3, zq4, zq5, zq6])
    refine zt (v := ?_) 2 rfl ?_ ?_
    rotate_left
    · intro w hSw; (try dsimp only at hSw); go_simp; (try with_reducible rfl)
    (try simp only [Act.put, zq1, zq2, zq3, zq4, zq5, zq6])
    refine zt (v := ?_) 3 rfl ?_ ?_
    rotate_left
    · intro w hSw; (try dsimp only at hSw); go_simp; (try with_reducible rfl)
    (try simp only [Act.put, zq1, zq2, zq3, zq4, zq5, zq6])
    refine zt (v := ?_) 4 rfl ?_ ?_
    rotate_left
    · intro w hSw; (try dsimp only at hSw); go_simp; (try with_reducible rfl)
    (try simp only [Act.put, zq1, zq2, zq3, zq4, zq5, zq6])
    refine zt (v := ?_) 5 rfl ?_ ?_
    rotate_left
    · intro w hSw; (try dsimp only at hSw); go_simp; (try with_reducible rfl)
    (try simp only [Act.put, zq1, zq2, zq3, zq4, zq5, zq6])
    refine zt (v := ?_) 6 rfl ?_ ?_
    rotate_left
    · intro w hSw; (try dsimp only at hSw); go_simp; (try with_reducible rfl)
    (try simp only [Act.put, zq1, zq2, zq3, zq4, zq5, zq6])
    refine zt (v := ?_) 7 rfl ?_ ?_
    rotate_left
    · intro w hSw; (try dsimp only at hSw); go_simp; (try with_reducible rfl)
    (try simp only [Act.put, zq1, zq2, zq3, zq4, zq5, zq6])
    refine zt (v := ?_) 8 rfl ?_ ?_
    rotate_left
    · intro w hSw; (try dsimp only at hSw); go_simp; (try with_reducible rfl)
    (try simp only [Act.put, zq1, zq2, zq3, zq4, zq5, zq6])
    refine zt (v := ?_) 9 rfl ?_ ?_
    rotate_left
    · intro w hSw; (try dsimp only at hSw); go_simp; (try with_reducible rfl)
    (try simp only [Act.put, zq1, zq2, zq3, zq4, zq5, zq6])
    rw [hwA]
    refine zr 10 rfl fun K hK => ?_
    go_simp
    refine hK.out _ _ (⟨⟨cellAl _ hA01.1, cellAl _ hA01.2⟩, cellAl _ hrA.1⟩) (fun hHeld => ?_)
    clear hK K
    (try simp only [Act.put, zq1, zq2, zq3, zq4, zq5, zq6])
    have HOR : Hid (wA.ownsRow (b0 + 3) 3 1 (.slice a l.length ca) l.length (l.map (Value.int .i64))) := Lh (HRWA.out.own f _ HRQ.out)
    have hl40 : l.length < 1099511627776 := by omega
    refine zr 11 rfl fun K hK => ?_
    refine step_pushG rfl _ _ 62 rfl (b0 + 3) 3 j0 _ 1 8 Tryz.underlying62 ji jz0 jz1 jz2 rfl (by decide) HOR.out rfl [.int .i64 (t : Int)] 3 rfl rfl (by simp [Value.oneCell']) hl40 (by decide) hA3 ?_
    intro A9 c9 w9 HO9 HG9 HN9
    have hAs := HAS.out
    have hge : ∀ j, ownA a = some j → b0 + 3 ≤ j ∧ j < wr.heap.size := fun j hj => let t := own_ty (HRW.out.own f _ HRQ.out) hj; ⟨t.1, t.2.1⟩
    have hgo : ∀ j, j < wA.heap.size → ownA a ≠ some j → w9.heap[j]? = wA.heap[j]? := fun j hj hne => (HG9.out.block _ (by simp; omega) (fun e => hne e.symm)).trans (Below.heap_alloc _ _ _ hj)
    have h9r := hgo (b0 + 1) (by omega) (fun e => by have := (hge _ e).1; omega)
    have h9x := hgo wr.heap.size (by omega) (fun e => by have := (hge _ e).2; omega)
    have h9i := (hgo (b0 + 2) (by omega) (fun e => by have := (hge _ e).1; omega)).trans ((HBA.out.block _ (by omega)).trans HIN.out)
    have h9a := HX01.out w9 h9x
    have h9c : w9.cell? ⟨b0 + 1, f, none⟩ = some (.slice a l.length ca) := (World.cell?_of_block (w := wA) (a := ⟨b0 + 1, f, none⟩) h9r).trans hrA.1
    have h9f : w9.frozen? ⟨b0 + 1, f, none⟩ = false := by
      have h := h9r.trans HRWA.out.blk
      simp [World.frozen?, h]
    refine hK.out _ _ (⟨h9a, h9c⟩) (fun hHeld => ?_)
    clear hK K
    (try simp only [Act.put, zq1, zq2, zq3, zq4, zq5, zq6])
    refine zt (v := ?_) 12 rfl ?_ ?_
    rotate_left
    · intro w hSw; (try dsimp only at hSw); go_simp; (try with_reducible rfl)
    (try simp only [Act.put, zq1, zq2, zq3, zq4, zq5, zq6])
    refine wpAnyZ_last (i := 13) rfl (by kernel_rfl) (by kernel_rfl) rfl (fun K hK => ?_)
    go_simp
    refine hK.out _ _ ?_
    have HRWN : Hid (RwI (b0 + 1) (b0 + 3) (R.set f (A9, c9, l ++ [(t : Int)])) (w9.setCell ⟨b0 + 1, f, none⟩ (.slice A9 (l.length + 1) c9))) := Lh (HRWA.out.push (by omega) hA3 HRQ.out (by unfold I64; omega) HO9.out HG9.out HN9.out)
    have HRFN : Hid ((R.set f (A9, c9, l ++ [(t : Int)])).map (·.2.2) = (List.range n).map (toF (epsE ((rs.take (k + 1)).map RuleI.L)))) := Lh (rows_set HRF.out _ hfn (by rw [HE.out, toF_snoc, if_pos rfl, HL.out]) fun j hj => by rw [HE.out, toF_snoc, if_neg hj])
    obtain ⟨wX, hwX⟩ : ∃ z, w9.setCell ⟨b0 + 1, f, none⟩ (.slice A9 (l.length + 1) c9) = z := ⟨_, rfl⟩
    rw [hwX] at HRWN
    have hst : ∀ j, j ≠ b0 + 1 → wX.heap[j]? = w9.heap[j]? := fun j hj => by rw [← hwX]; exact heap_setCell_other _ _ _ _ hj
    have hsX : wX.heap.size = w9.heap.size := by rw [← hwX]; simp
    have hs9 := HG9.out.size
    simp at hs9
    have hxX := (HX01.out wX ((hst _ (by omega)).trans h9x)).2
    have hiX := (hst (b0 + 2) (by omega)).trans h9i
    have hiC : wX.cell? ⟨b0 + 2, t, none⟩ = some (.int .i64 (D : Int)) := by
      have h := inC_at (Kahn.cnt (epsE ((rs.take k).map RuleI.L))) htn
      rw [HDE.out] at h
      simp only [World.cell?, hiX]
      rw [List.getElem?_toArray]; exact h
    have hiF : wX.frozen? ⟨b0 + 2, t, none⟩ = false := by simp [World.frozen?, hiX]
    have HFRX : Hid (w3.heap.size ≤ wX.heap.size ∧ Below (b0 + 1) w1 wX) := Lh ⟨by rw [HS3.out]; omega, by
      have h5 := ((HFR.out.2.trans (HBA.out.mono (by omega))).alloc (by omega) (.cells [.int .i64 (t : Int)].toArray 3)).grown HG9.out (by simp; omega) (fun j hj => by have := (hge j hj).1; omega)
      rw [← hwX]; exact h5.setCell (p := ⟨b0 + 1, f, none⟩) (Nat.le_refl _) _⟩
    have HIX := Lh hiX
    have HSX : Hid (b0 + 3 ≤ wX.heap.size) := Lh (by omega)
    have htn1 : (t : Int) < (n : Int) := by omega
    have hD1 : (D : Int) ≤ 4096 := by omega
    rw [hwX]
    clear hHeld hK K h9a h9c h9f h9x h9r h9i hgo hge hwX hst hsX hs9 hiX hA01 hrA hbA hAs hxA hwA HO9 HG9 HN9
    (try simp only [Act.put, zq1, zq2, zq3, zq4, zq5, zq6])
    have HRWZ : Hid (RwI (b0 + 1) (b0 + 3) (R.set f (A9, c9, l ++ [(t : Int)])) (wX.setCell ⟨b0 + 2, t, none⟩ (.int .i64 ((D : Int) + 1)))) := Lh (HRWN.out.keep (heap_setCell_other _ _ _ _ (by show b0 + 1 ≠ b0 + 2; omega)) fun j h1 _ _ => heap_setCell_other _ _ _ _ (by show j ≠ b0 + 2; omega))
    have HINZ : Hid ((wX.setCell ⟨b0 + 2, t, none⟩ (.int .i64 ((D : Int) + 1))).heap[b0 + 2]? = some (.cells (inC n (Kahn.cnt (epsE ((rs.take (k + 1)).map RuleI.L)))).toArray 3 (0, 0))) := Lh (by
      rw [heap_setCell_same wX (b0 + 2) t _ _ _ HIX.out, show ((D : Int) + 1) = ((D + 1 : Nat) : Int) by omega, inC_arr]
      congr 2
      refine congrArg List.toArray (inC_congr fun j hj => ?_)
      rw [HE.out, cnt_snoc, HDE.out])
    have HFRZ : Hid (w3.heap.size ≤ (wX.setCell ⟨b0 + 2, t, none⟩ (.int .i64 ((D : Int) + 1))).heap.size ∧ Below (b0 + 1) w1 (wX.setCell ⟨b0 + 2, t, none⟩ (.int .i64 ((D : Int) + 1)))) := Lh ⟨by simpa using HFRX.out.1, HFRX.out.2.setCell (by show b0 + 1 ≤ b0 + 2; omega) _⟩
    have HLT := Lh hlt
    clear hlt
    go_wp2_with fail
    go_roundw
    case rel => exact ⟨k + 1, R.set f (A9, c9, l ++ [(t : Int)]), by have := HLT.out; omega, by go_num, HRWZ, HRFN, HINZ, HFRZ⟩
    case measure => have := HLT.out; simp [intOf]; omega
  obtain rfl : k = rs.length := by omega
  have hd : decide (rs.length < rs.length) = false := by simp
  rw [List.take_length] at HRF HIN
  obtain ⟨E, hE⟩ : ∃ z, epsE (rs.map RuleI.L) = z := ⟨_, rfl⟩
  rw [hE] at HRF HIN
  have HVE : Hid (Kahn.cyc E n = v) := Lh (by rw [← hE]; exact hv.out)
  have HEE : Hid (∀ e ∈ E, e.1 < n ∧ e.2 < n) := Lh fun e he => by
    rw [← hE] at he
    unfold epsE at he
    obtain ⟨r, hr, rfl⟩ := List.mem_map.1 he
    obtain ⟨r', hr', rfl⟩ := List.mem_map.1 (List.mem_filter.1 hr).1
    obtain ⟨⟨g1, g2⟩, ⟨g3, g4⟩⟩ := hso.out r' hr'
    simp only [RuleI.L]
    omega
  have hEl : E.length ≤ 4096 := by
    rw [← hE]
    have h6 := epsE_len (rs.map RuleI.L)
    rw [List.length_map] at h6
    omega
  have HDB : Hid (∀ t, Kahn.cnt E t ≤ 4096) := Lh fun t => by
    unfold Kahn.cnt
    exact Nat.le_trans List.countP_le_length hEl
  clear hE hlt
  go_wp2_with fail
  clear hd
  obtain ⟨w4, hw4⟩ : ∃ z, z = wr := ⟨_, rfl⟩
  subst hw4
  go_loopw [7, 54] (fun tv iv wr => ∃ (k : Nat) (A : Option Addr) (c : Nat), k ≤ n ∧ iv = .int .i64 k ∧ tv = .slice A ((List.range k).filter fun t => Kahn.cnt E t == 0).length c ∧ Hid (wr.ownsRow w4.heap.size 3 1 (.slice A ((List.range k).filter fun t => Kahn.cnt E t == 0).length c) ((List.range k).filter fun t => Kahn.cnt E t == 0).length (natC ((List.range k).filter fun t => Kahn.cnt E t == 0))) ∧ Hid (Below w4.heap.size w4 wr)) (fun _ iv _ => n - (intOf iv).toNat)
  case atStart => exact ⟨0, none, 0, Nat.zero_le _, rfl, rfl, Lh (World.ownsRow_nil _ _ _ _), Lh (Below.refl _ _)⟩
  case round =>
  obtain ⟨k, A, c, hk2, rfl, rfl, HO, HBL⟩ := hrel
  by_cases hlt : k < n
  · have hc0 : wr.cell? ⟨b0 + 2, k, none⟩ = some (.int .i64 (Kahn.cnt E k : Int)) := by
      have h := (HBL.out.block (b0 + 2) (by omega)).trans HIN.out
      simp only [World.cell?, h]
      rw [List.getElem?_toArray]; exact inC_at _ hlt
    have hs3 := HBL.out.size
    have hkn : (k : Int) < (n : Int) := by omega
    have HLT := Lh hlt
    have hrange : (List.range (k + 1)).filter (fun t => Kahn.cnt E t == 0) = (List.range k).filter (fun t => Kahn.cnt E t == 0) ++ if Kahn.cnt E k = 0 then [k] else [] := by
      rw [List.range_succ, List.filter_append]
      congr 1
      by_cases h : Kahn.cnt E k = 0
      · rw [if_pos h, List.filter_cons_of_pos (by simpa using h)]; rfl
      · rw [if_neg h, List.filter_cons_of_neg (by simpa using h)]; rfl
    have hfl : ((List.range k).filter fun t => Kahn.cnt E t == 0).length ≤ k := by
      have := List.length_filter_le (fun t => Kahn.cnt E t == 0) (List.range k)
      rwa [List.length_range] at this
    obtain ⟨D, hD⟩ : ∃ z, Kahn.cnt E k = z := ⟨_, rfl⟩
    have hD4 := HDB.out k
    rw [hD] at hc0 hrange hD4
    obtain ⟨Q, hQ⟩ : ∃ z, (List.range k).filter (fun t => Kahn.cnt E t == 0) = z := ⟨_, rfl⟩
    rw [hQ] at HO hrange hfl
    rw [hQ]
    have HRG := Lh hrange
    clear hlt hrange hQ hD
    by_cases h0 : D = 0
    · subst h0
      have hl40 : Q.length < 1099511627776 := by omega
      go_wp2_with (at_builtin; go_must (refine wpList_pushG rfl _ _ 62 rfl w4.heap.size 3 j0 _ 1 8 Tryz.underlying62 ji jz0 jz1 jz2 rfl (by decide) HO.out rfl [.int .i64 (k : Int)] 3 rfl rfl (by simp [Value.oneCell']) hl40 (by decide) hs3 ?_); intro A9 c9 w9 HO9 HG9 HN9)
      have HBN : Hid (Below w4.heap.size w4 w9) := Lh ((HBL.out.alloc hs3 _).grown HG9.out (by simp; omega) fun g hg => (HO.out.lt g (by rw [own_ownA]; exact hg)).1)
      have e : Q.length + 1 = ((List.range (k + 1)).filter fun t => Kahn.cnt E t == 0).length := by rw [HRG.out]; simp
      rw [e]
      go_roundw
      case rel => exact ⟨k + 1, A9, c9, by have := HLT.out; omega, by go_num, rfl, Lh (by rw [HRG.out, if_pos rfl, natC_snoc, List.length_append]; exact HO9.out), HBN⟩
      case measure => have := HLT.out; simp [intOf]; omega
    · have hne : ((D : Int) == 0) = false := by rw [beq_eq_false_iff_ne]; omega
      have HE2 : Hid ((List.range (k + 1)).filter (fun t => Kahn.cnt E t == 0) = Q) := Lh (by rw [HRG.out, if_neg h0, List.append_nil])
      clear h0
      go_wp2_with fail
      go_roundw
      case rel => exact ⟨k + 1, A, c, by have := HLT.out; omega, by go_num, by rw [HE2.out], by rw [HE2.out]; exact HO, HBL⟩
      case measure => have := HLT.out; simp [intOf]; omega
  obtain rfl : k = n := by omega
  have hd : decide (k < k) = false := by simp
  have HQ0 := Lh (QOwn.of_own HO.out)
  have HIN4 : Hid (wr.heap[b0 + 2]? = some (.cells (inC k (Kahn.cnt E)).toArray 3 (0, 0))) := Lh ((HBL.out.block (b0 + 2) (by omega)).trans HIN.out)
  have HF0 : Hid ((∀ j, j < w4.heap.size → j ≠ b0 + 2 → wr.heap[j]? = w4.heap[j]?) ∧ w4.heap.size ≤ wr.heap.size ∧ Below (b0 + 1) w1 wr) := Lh ⟨fun j hj _ => HBL.out.block j hj, HBL.out.size, HFR.out.2.trans (HBL.out.mono (by omega))⟩
  obtain ⟨W0, hW0⟩ : ∃ z, (List.range k).filter (fun t => Kahn.cnt E t == 0) = z := ⟨_, rfl⟩
  have HKI0 : Hid (Kahn.KI E k W0 [] (Kahn.cnt E)) := Lh (by rw [← hW0]; exact Kahn.KI.start)
  rw [hW0] at HQ0
  rw [hW0]
  have HR4 := HRW
  clear HO hW0 hlt HIN
  go_wp2_with fail
  clear hd
  go_loopw [7, 10] (fun tv dv wr => ∃ (d m : Nat) (A : Option Addr) (c : Nat) (Q : List Nat) (X : List Kahn.Edge) (D : Nat → Nat), Hid (Q.length = d + m) ∧ d ≤ k ∧ tv = .slice A m c ∧ dv = .int .i64 d ∧ Hid (QOwn wr w4.heap.size 3 A m c (natC (Q.drop d))) ∧ Hid (Kahn.KI E k Q X D) ∧ Hid (Kahn.Gone E Q d X) ∧
      Hid (wr.heap[b0 + 2]? = some (.cells (inC k D).toArray 3 (0, 0))) ∧ Hid ((∀ j, j < w4.heap.size → j ≠ b0 + 2 → wr.heap[j]? = w4.heap[j]?) ∧ w4.heap.size ≤ wr.heap.size ∧ Below (b0 + 1) w1 wr)) (fun _ dv _ => k - (intOf dv).toNat)
  case atStart =>
    exact ⟨0, W0.length, A, c, W0, [], Kahn.cnt E, Lh (by omega), Nat.zero_le _, rfl, rfl, by rw [List.drop_zero]; exact HQ0, HKI0, Lh (Kahn.Gone.start E W0), HIN4, HF0⟩
  case round =>
  clear HQ0 HKI0 HIN4 HF0
  obtain ⟨d, m, A, c, Q, X, D, HQL, hdk, rfl, rfl, HQ, HKI, HGO, HIN, HF⟩ := hrel
  rcases m with _ | m
  · have HQE : Hid (Q.length = d) := Lh (by have := HQL.out; omega)
    have HFIN := Lh (HKI.out.fin HEE.out (by rw [HQE.out]; exact HGO.out))
    have hfin : decide (d < k) = v := by rw [← HQE.out, HFIN.out]; exact HVE.out
    have HFI := Lh hfin
    have HKr := Lh (HK.out.step (by rw [HS1.out]; exact HF.out.2.2))
    have q2 := HKr.out.now.1 2 _ rfl
    have hd0 : decide (0 < 0) = false := by simp
    clear hfin
    go_wp2_with fail
    go_ret
    exact ⟨congrArg (fun b => Ending.returned (.bool b)) HFI.out, Lh ⟨fun W hW => (HKr.out.1 W hW).2, HKr.out.2⟩⟩
  · have hdl : d < Q.length := by have := HQL.out; omega
    obtain ⟨s, hs⟩ : ∃ s, Q[d]? = some s := ⟨_, List.getElem?_eq_getElem hdl⟩
    have hsk := HKI.out.lt s (List.mem_of_getElem? hs)
    have hdk2 : d < k := by have := Kahn.few HKI.out.nod HKI.out.lt; omega
    have hdrop : natC (Q.drop d) = .int .i64 (s : Int) :: natC (Q.drop (d + 1)) := by
      rw [List.drop_eq_getElem_cons hdl, List.getElem?_eq_getElem hdl] at *
      injection hs with hs
      rw [hs]; rfl
    obtain ⟨g, p, rfl⟩ := HQ.out.some_ (by omega)
    rw [hdrop] at HQ
    have hq0 := HQ.out.cell (j := 0) (by omega)
    simp only [Nat.add_zero, List.getElem?_cons_zero] at hq0
    have hrow : ∃ a ca, wr.cell? ⟨b0 + 1, s, none⟩ = some (.slice a (toF E s).length ca) ∧ ∀ V, (∀ j, j < w4.heap.size → j ≠ b0 + 2 → V.heap[j]? = w4.heap[j]?) → IntsAt a (toF E s) V := by
      obtain ⟨a, ca, hR⟩ := rows_at HRF.out hsk
      refine ⟨a, ca, ?_, fun V hV => ?_⟩
      · have h := (HR4.out.cell hR).1
        rw [← h]
        exact World.cell?_of_block (w := w4) (a := ⟨b0 + 1, s, none⟩) (HF.out.1 _ (by show b0 + 1 < _; omega) (by show b0 + 1 ≠ _; omega))
      · have h := HR4.out.own s _ hR
        have h2 : V.ownsRow (b0 + 3) 3 1 (.slice a (toF E s).length ca) (toF E s).length ((toF E s).map (Value.int .i64)) := own_keep h fun j hj => hV j (own_ty h hj).2.1 (by have := (own_ty h hj).1; omega)
        refine ⟨?_, HR4.out.rng _ (List.mem_of_getElem? hR), by have := toF_len E s; omega⟩
        have h3 := Sl.of_own h2
        rwa [List.map_eq_flatMap] at h3
    obtain ⟨a, ca, hca, hIA⟩ := hrow
    have hcap := HQ.out.cap
    have hs1 : (s : Int) < (k : Int) := by omega
    have HHS := Lh hs
    have HIA := Lh hIA
    have HCAP := Lh hcap
    have hm1 : 1 ≤ m + 1 := by omega
    have hc1 : 1 ≤ c := by omega
    have hmp : decide (0 < m + 1) = true := by simp
    clear hs hdrop hIA hdl
    by_cases hc : c = 1
    · subst hc
      obtain rfl : m = 0 := by omega
      have HQ1 : Hid (∀ q, (q = p ∨ q = p + 1) → QOwn wr w4.heap.size 3 (some ⟨g, q, none⟩) 0 0 (natC (Q.drop (d + 1)))) := Lh fun q hq => HQ.out.tail0 q hq
      go_wp2_with fail
      clear hq0 hca
      go_loopw [7, 81] (fun tv iv wr => ∃ (j m' : Nat) (A : Option Addr) (c : Nat) (V : List Nat) (D : Nat → Nat), Hid ((Q ++ V).length = d + 1 + m') ∧ j ≤ (toF E s).length ∧ tv = .slice A m' c ∧ iv = .int .i64 j ∧ Hid (QOwn wr w4.heap.size 3 A m' c (natC ((Q ++ V).drop (d + 1)))) ∧ Hid (Kahn.KI E k (Q ++ V) (X ++ (Kahn.outs E s).take j) D) ∧
          Hid (wr.heap[b0 + 2]? = some (.cells (inC k D).toArray 3 (0, 0))) ∧ Hid ((∀ j, j < w4.heap.size → j ≠ b0 + 2 → wr.heap[j]? = w4.heap[j]?) ∧ w4.heap.size ≤ wr.heap.size ∧ Below (b0 + 1) w1 wr)) (fun _ iv _ => (toF E s).length - (intOf iv).toNat)
      case atStart => exact ⟨0, 0, (some ⟨g, _, none⟩), 0, [], D, Lh (by have := HQL.out; simp; omega), Nat.zero_le _, rfl, rfl, by rw [List.append_nil]; exact (Lh (HQ1.out _ (by omega))), by rw [List.append_nil, List.take_zero, List.append_nil]; exact HKI, HIN, HF⟩
      case round =>
      obtain ⟨j, m', A', c', V, D', HVL, hj, rfl, rfl, HQV, HKV, HIN', HF'⟩ := hrel
      have htl4 : (toF E s).length ≤ 4096 := Nat.le_trans (toF_len E s) hEl
      by_cases hlt : j < (toF E s).length
      · obtain ⟨ab, ao, x, rfl, hx, _, hxc⟩ := (HIA.out wr HF'.out.1).at_ hlt
        obtain ⟨e, hoe, rfl⟩ : ∃ e, (Kahn.outs E s)[j]? = some e ∧ x = (e.2 : Int) := by
          unfold toF at hx
          rw [List.getElem?_map] at hx
          rcases ho : (Kahn.outs E s)[j]? with _ | e
          · rw [ho] at hx; cases hx
          · rw [ho] at hx; simp at hx; exact ⟨e, rfl, hx.symm⟩
        have hem := List.mem_filter.1 (List.mem_of_getElem? hoe)
        have hes : e.1 = s := by simpa using hem.2
        have hek := HEE.out e hem.1
        have hedge := HKV.out.edge (e := e) hek.2 (by rw [hes]; exact List.mem_append_left _ (List.mem_of_getElem? HHS.out)) (by
          rw [List.append_assoc X, ← take_snoc? hoe]
          exact HGO.out.le HKI.out.nod HHS.out (List.take_prefix _ _))
        have hsum := HKV.out.sum e.2 hek.2
        have hdb := HDB.out e.2
        obtain ⟨hd1, hedge⟩ := hedge
        rw [List.append_assoc X, ← take_snoc? hoe] at hedge
        obtain ⟨tt, htt⟩ : ∃ z, e.2 = z := ⟨_, rfl⟩
        rw [htt] at hedge hsum hdb hd1 hxc hek
        obtain ⟨z, hz⟩ : ∃ z, D' tt = z + 1 := ⟨D' tt - 1, by omega⟩
        rw [hz] at hedge hsum
        rw [Nat.add_sub_cancel] at hedge
        have hcz : wr.cell? ⟨b0 + 2, tt, none⟩ = some (.int .i64 ((z : Int) + 1)) := by
          have h := inC_at D' hek.2
          rw [hz] at h
          simp only [World.cell?, HIN'.out]
          rw [List.getElem?_toArray]; exact h
        have hfz : wr.frozen? ⟨b0 + 2, tt, none⟩ = false := by
          have h := HIN'.out
          simp [World.frozen?, h]
        have hcs : (wr.setCell ⟨b0 + 2, tt, none⟩ (.int .i64 (z : Int))).cell? ⟨b0 + 2, tt, none⟩ = some (.int .i64 (z : Int)) := World.cell?_setCell_same _ _ _ hcz
        have HNI : Hid ((wr.setCell ⟨b0 + 2, tt, none⟩ (.int .i64 (z : Int))).heap[b0 + 2]? = some (.cells (inC k (Kahn.upd D' tt z)).toArray 3 (0, 0))) := Lh (by
          rw [heap_setCell_same wr (b0 + 2) tt _ _ _ HIN'.out, inC_arr])
        have HST : Hid (∀ i, i ≠ b0 + 2 → (wr.setCell ⟨b0 + 2, tt, none⟩ (.int .i64 (z : Int))).heap[i]? = wr.heap[i]?) := Lh fun i hi => heap_setCell_other _ _ _ _ hi
        have HSZ : Hid ((wr.setCell ⟨b0 + 2, tt, none⟩ (.int .i64 (z : Int))).heap.size = wr.heap.size) := Lh (by simp)
        have HQS : Hid (QOwn (wr.setCell ⟨b0 + 2, tt, none⟩ (.int .i64 (z : Int))) w4.heap.size 3 A' m' c' (natC ((Q ++ V).drop (d + 1)))) := Lh (HQV.out.keep fun i hi => HST.out i (by have := (HQV.out.ty hi).1; omega))
        have HFS : Hid ((∀ j, j < w4.heap.size → j ≠ b0 + 2 → (wr.setCell ⟨b0 + 2, tt, none⟩ (.int .i64 (z : Int))).heap[j]? = w4.heap[j]?) ∧ w4.heap.size ≤ (wr.setCell ⟨b0 + 2, tt, none⟩ (.int .i64 (z : Int))).heap.size ∧ Below (b0 + 1) w1 (wr.setCell ⟨b0 + 2, tt, none⟩ (.int .i64 (z : Int)))) := Lh ⟨fun i h1 h2 => (HST.out i h2).trans (HF'.out.1 i h1 h2), by rw [HSZ.out]; exact HF'.out.2.1, HF'.out.2.2.setCell (by show b0 + 1 ≤ b0 + 2; omega) _⟩
        have htk : (tt : Int) < (k : Int) := by have := hek.2; omega
        have hz4 : (z : Int) ≤ 4096 := by omega
        have hji : (j : Int) < ((toF E s).length : Int) := by omega
        have HED := Lh hedge
        have HLT := Lh hlt
        have hml : m' ≤ 1024 := by
          have h3 := Kahn.few HKV.out.nod HKV.out.lt
          have h4 := HVL.out
          omega
        clear hoe hem hes hek hedge hsum hdb hd1 htt hz hlt hx
        by_cases h0 : z = 0
        · subst h0
          have hS4 : w4.heap.size ≤ (wr.setCell ⟨b0 + 2, tt, none⟩ (.int .i64 ((0 : Nat) : Int))).heap.size := HFS.out.2.1
          have hl40 : m' < 1099511627776 := by omega
          go_wp2_with (at_builtin; go_must (refine wpList_pushQ rfl _ _ 62 rfl w4.heap.size 3 j0 _ 8 Tryz.underlying62 ji jz0 jz1 jz2 rfl HQS.out rfl (.int .i64 (tt : Int)) 3 (by first | rfl | (simp; rfl) | simp) rfl hl40 (by decide) hS4 ?_); intro A9 c9 w9 HO9 HG9 HN9)
          have hge : ∀ i, ownA A' = some i → w4.heap.size ≤ i := fun i hi => (HQS.out.ty hi).1
          have hgo : ∀ i, i < (wr.setCell ⟨b0 + 2, tt, none⟩ (.int .i64 ((0 : Nat) : Int))).heap.size → ownA A' ≠ some i → w9.heap[i]? = (wr.setCell ⟨b0 + 2, tt, none⟩ (.int .i64 ((0 : Nat) : Int))).heap[i]? := fun i hi hne => (HG9.out.block _ (by simp at hi ⊢; omega) (fun e => hne e.symm)).trans (Below.heap_alloc _ _ _ hi)
          have hs9 := HG9.out.size
          simp at hs9
          have hsz := HSZ.out
          have hf2 := HF'.out.2.1
          have HFN : Hid ((∀ j, j < w4.heap.size → j ≠ b0 + 2 → w9.heap[j]? = w4.heap[j]?) ∧ w4.heap.size ≤ w9.heap.size ∧ Below (b0 + 1) w1 w9) := Lh ⟨fun i h1 h2 => (hgo i (by omega) (fun e => by have := hge i e; omega)).trans (HFS.out.1 i h1 h2), by omega, (HFS.out.2.2.alloc (by omega) _).grown HG9.out (by simp; omega) (fun i hi => by have := hge i hi; omega)⟩
          have HNI9 := Lh ((hgo (b0 + 2) (by omega) (fun e => by have := hge _ e; omega)).trans HNI.out)
          have HKN : Hid (Kahn.KI E k (Q ++ (V ++ [tt])) (X ++ (Kahn.outs E s).take (j + 1)) (Kahn.upd D' tt 0)) := Lh (by
            have h := HED.out
            first | rw [if_pos trivial, List.append_assoc] at h | rw [if_pos rfl, List.append_assoc] at h
            exact h)
          have HVN : Hid ((Q ++ (V ++ [tt])).length = d + 1 + (m' + 1)) := Lh (by have h := HVL.out; simp at h ⊢; omega)
          have HQN : Hid (QOwn w9 w4.heap.size 3 A9 (m' + 1) c9 (natC ((Q ++ (V ++ [tt])).drop (d + 1)))) := Lh (by
            rw [← List.append_assoc, List.drop_append_of_le_length (by have h := HVL.out; omega), natC_snoc]; exact HO9.out)
          first
          | (go_roundw
             case rel => exact ⟨j + 1, m' + 1, A9, c9, V ++ [tt], Kahn.upd D' tt 0, HVN, by have := HLT.out; omega, rfl, by go_num, HQN, HKN, HNI9, HFN⟩
             case measure => have := HLT.out; simp [intOf]; omega)
          | (refine ⟨⟨_, _, _, ⟨j + 1, m' + 1, A9, c9, V ++ [tt], Lh (by have h := HVN.out; simpa using h), by have := HLT.out; omega, rfl, rfl, HQN, _, HKN, HNI9, HFN⟩, rfl, rfl, by go_num⟩, ?_⟩
             have := HLT.out; simp [intOf]; omega)
        · have hne : ((z : Int) == 0) = false := by rw [beq_eq_false_iff_ne]; omega
          have HKN : Hid (Kahn.KI E k (Q ++ V) (X ++ (Kahn.outs E s).take (j + 1)) (Kahn.upd D' tt z)) := Lh (by
            have h := HED.out
            rw [if_neg h0] at h
            exact h)
          clear h0
          go_wp2_with fail
          go_roundw
          case rel => exact ⟨j + 1, m', A', c', V, Kahn.upd D' tt z, HVL, by have := HLT.out; omega, rfl, by go_num, HQS, HKN, HNI, HFS⟩
          case measure => have := HLT.out; simp [intOf]; omega
      · obtain rfl : j = (toF E s).length := by omega
        have hd9 : decide ((toF E s).length < (toF E s).length) = false := by simp
        have htl : (Kahn.outs E s).take (toF E s).length = Kahn.outs E s := List.take_of_length_le (by unfold toF; rw [List.length_map]; exact Nat.le_refl _)
        rw [htl] at HKV
        have HGN := Lh (HGO.out.next HKI.out.nod HHS.out V)
        clear hlt htl
        go_wp2_with fail
        go_roundw
        case rel => exact ⟨d + 1, m', A', c', Q ++ V, X ++ Kahn.outs E s, D', HVL, by omega, rfl, by go_num, HQV, HKV, HGN, HIN', HF'⟩
        case measure => simp [intOf]; omega
    · have HQ1 := Lh HQ.out.tail
      go_wp2_with fail
      clear hq0 hca
      go_loopw [7, 81] (fun tv iv wr => ∃ (j m' : Nat) (A : Option Addr) (c : Nat) (V : List Nat) (D : Nat → Nat), Hid ((Q ++ V).length = d + 1 + m') ∧ j ≤ (toF E s).length ∧ tv = .slice A m' c ∧ iv = .int .i64 j ∧ Hid (QOwn wr w4.heap.size 3 A m' c (natC ((Q ++ V).drop (d + 1)))) ∧ Hid (Kahn.KI E k (Q ++ V) (X ++ (Kahn.outs E s).take j) D) ∧
          Hid (wr.heap[b0 + 2]? = some (.cells (inC k D).toArray 3 (0, 0))) ∧ Hid ((∀ j, j < w4.heap.size → j ≠ b0 + 2 → wr.heap[j]? = w4.heap[j]?) ∧ w4.heap.size ≤ wr.heap.size ∧ Below (b0 + 1) w1 wr)) (fun _ iv _ => (toF E s).length - (intOf iv).toNat)
      case atStart => exact ⟨0, m, (some ⟨g, p + 1, none⟩), (c - 1), [], D, Lh (by have := HQL.out; simp; omega), Nat.zero_le _, rfl, rfl, by rw [List.append_nil]; exact HQ1, by rw [List.append_nil, List.take_zero, List.append_nil]; exact HKI, HIN, HF⟩
      case round =>
      obtain ⟨j, m', A', c', V, D', HVL, hj, rfl, rfl, HQV, HKV, HIN', HF'⟩ := hrel
      have htl4 : (toF E s).length ≤ 4096 := Nat.le_trans (toF_len E s) hEl
      by_cases hlt : j < (toF E s).length
      · obtain ⟨ab, ao, x, rfl, hx, _, hxc⟩ := (HIA.out wr HF'.out.1).at_ hlt
        obtain ⟨e, hoe, rfl⟩ : ∃ e, (Kahn.outs E s)[j]? = some e ∧ x = (e.2 : Int) := by
          unfold toF at hx
          rw [List.getElem?_map] at hx
          rcases ho : (Kahn.outs E s)[j]? with _ | e
          · rw [ho] at hx; cases hx
          · rw [ho] at hx; simp at hx; exact ⟨e, rfl, hx.symm⟩
        have hem := List.mem_filter.1 (List.mem_of_getElem? hoe)
        have hes : e.1 = s := by simpa using hem.2
        have hek := HEE.out e hem.1
        have hedge := HKV.out.edge (e := e) hek.2 (by rw [hes]; exact List.mem_append_left _ (List.mem_of_getElem? HHS.out)) (by
          rw [List.append_assoc X, ← take_snoc? hoe]
          exact HGO.out.le HKI.out.nod HHS.out (List.take_prefix _ _))
        have hsum := HKV.out.sum e.2 hek.2
        have hdb := HDB.out e.2
        obtain ⟨hd1, hedge⟩ := hedge
        rw [List.append_assoc X, ← take_snoc? hoe] at hedge
        obtain ⟨tt, htt⟩ : ∃ z, e.2 = z := ⟨_, rfl⟩
        rw [htt] at hedge hsum hdb hd1 hxc hek
        obtain ⟨z, hz⟩ : ∃ z, D' tt = z + 1 := ⟨D' tt - 1, by omega⟩
        rw [hz] at hedge hsum
        rw [Nat.add_sub_cancel] at hedge
        have hcz : wr.cell? ⟨b0 + 2, tt, none⟩ = some (.int .i64 ((z : Int) + 1)) := by
          have h := inC_at D' hek.2
          rw [hz] at h
          simp only [World.cell?, HIN'.out]
          rw [List.getElem?_toArray]; exact h
        have hfz : wr.frozen? ⟨b0 + 2, tt, none⟩ = false := by
          have h := HIN'.out
          simp [World.frozen?, h]
        have hcs : (wr.setCell ⟨b0 + 2, tt, none⟩ (.int .i64 (z : Int))).cell? ⟨b0 + 2, tt, none⟩ = some (.int .i64 (z : Int)) := World.cell?_setCell_same _ _ _ hcz
        have HNI : Hid ((wr.setCell ⟨b0 + 2, tt, none⟩ (.int .i64 (z : Int))).heap[b0 + 2]? = some (.cells (inC k (Kahn.upd D' tt z)).toArray 3 (0, 0))) := Lh (by
          rw [heap_setCell_same wr (b0 + 2) tt _ _ _ HIN'.out, inC_arr])
        have HST : Hid (∀ i, i ≠ b0 + 2 → (wr.setCell ⟨b0 + 2, tt, none⟩ (.int .i64 (z : Int))).heap[i]? = wr.heap[i]?) := Lh fun i hi => heap_setCell_other _ _ _ _ hi
        have HSZ : Hid ((wr.setCell ⟨b0 + 2, tt, none⟩ (.int .i64 (z : Int))).heap.size = wr.heap.size) := Lh (by simp)
        have HQS : Hid (QOwn (wr.setCell ⟨b0 + 2, tt, none⟩ (.int .i64 (z : Int))) w4.heap.size 3 A' m' c' (natC ((Q ++ V).drop (d + 1)))) := Lh (HQV.out.keep fun i hi => HST.out i (by have := (HQV.out.ty hi).1; omega))
        have HFS : Hid ((∀ j, j < w4.heap.size → j ≠ b0 + 2 → (wr.setCell ⟨b0 + 2, tt, none⟩ (.int .i64 (z : Int))).heap[j]? = w4.heap[j]?) ∧ w4.heap.size ≤ (wr.setCell ⟨b0 + 2, tt, none⟩ (.int .i64 (z : Int))).heap.size ∧ Below (b0 + 1) w1 (wr.setCell ⟨b0 + 2, tt, none⟩ (.int .i64 (z : Int)))) := Lh ⟨fun i h1 h2 => (HST.out i h2).trans (HF'.out.1 i h1 h2), by rw [HSZ.out]; exact HF'.out.2.1, HF'.out.2.2.setCell (by show b0 + 1 ≤ b0 + 2; omega) _⟩
        have htk : (tt : Int) < (k : Int) := by have := hek.2; omega
        have hz4 : (z : Int) ≤ 4096 := by omega
        have hji : (j : Int) < ((toF E s).length : Int) := by omega
        have HED := Lh hedge
        have HLT := Lh hlt
        have hml : m' ≤ 1024 := by
          have h3 := Kahn.few HKV.out.nod HKV.out.lt
          have h4 := HVL.out
          omega
        clear hoe hem hes hek hedge hsum hdb hd1 htt hz hlt hx
        by_cases h0 : z = 0
        · subst h0
          have hS4 : w4.heap.size ≤ (wr.setCell ⟨b0 + 2, tt, none⟩ (.int .i64 ((0 : Nat) : Int))).heap.size := HFS.out.2.1
          have hl40 : m' < 1099511627776 := by omega
          go_wp2_with (at_builtin; go_must (refine wpList_pushQ rfl _ _ 62 rfl w4.heap.size 3 j0 _ 8 Tryz.underlying62 ji jz0 jz1 jz2 rfl HQS.out rfl (.int .i64 (tt : Int)) 3 (by first | rfl | (simp; rfl) | simp) rfl hl40 (by decide) hS4 ?_); intro A9 c9 w9 HO9 HG9 HN9)
          have hge : ∀ i, ownA A' = some i → w4.heap.size ≤ i := fun i hi => (HQS.out.ty hi).1
          have hgo : ∀ i, i < (wr.setCell ⟨b0 + 2, tt, none⟩ (.int .i64 ((0 : Nat) : Int))).heap.size → ownA A' ≠ some i → w9.heap[i]? = (wr.setCell ⟨b0 + 2, tt, none⟩ (.int .i64 ((0 : Nat) : Int))).heap[i]? := fun i hi hne => (HG9.out.block _ (by simp at hi ⊢; omega) (fun e => hne e.symm)).trans (Below.heap_alloc _ _ _ hi)
          have hs9 := HG9.out.size
          simp at hs9
          have hsz := HSZ.out
          have hf2 := HF'.out.2.1
          have HFN : Hid ((∀ j, j < w4.heap.size → j ≠ b0 + 2 → w9.heap[j]? = w4.heap[j]?) ∧ w4.heap.size ≤ w9.heap.size ∧ Below (b0 + 1) w1 w9) := Lh ⟨fun i h1 h2 => (hgo i (by omega) (fun e => by have := hge i e; omega)).trans (HFS.out.1 i h1 h2), by omega, (HFS.out.2.2.alloc (by omega) _).grown HG9.out (by simp; omega) (fun i hi => by have := hge i hi; omega)⟩
          have HNI9 := Lh ((hgo (b0 + 2) (by omega) (fun e => by have := hge _ e; omega)).trans HNI.out)
          have HKN : Hid (Kahn.KI E k (Q ++ (V ++ [tt])) (X ++ (Kahn.outs E s).take (j + 1)) (Kahn.upd D' tt 0)) := Lh (by
            have h := HED.out
            first | rw [if_pos trivial, List.append_assoc] at h | rw [if_pos rfl, List.append_assoc] at h
            exact h)
          have HVN : Hid ((Q ++ (V ++ [tt])).length = d + 1 + (m' + 1)) := Lh (by have h := HVL.out; simp at h ⊢; omega)
          have HQN : Hid (QOwn w9 w4.heap.size 3 A9 (m' + 1) c9 (natC ((Q ++ (V ++ [tt])).drop (d + 1)))) := Lh (by
            rw [← List.append_assoc, List.drop_append_of_le_length (by have h := HVL.out; omega), natC_snoc]; exact HO9.out)
          first
          | (go_roundw
             case rel => exact ⟨j + 1, m' + 1, A9, c9, V ++ [tt], Kahn.upd D' tt 0, HVN, by have := HLT.out; omega, rfl, by go_num, HQN, HKN, HNI9, HFN⟩
             case measure => have := HLT.out; simp [intOf]; omega)
          | (refine ⟨⟨_, _, _, ⟨j + 1, m' + 1, A9, c9, V ++ [tt], Lh (by have h := HVN.out; simpa using h), by have := HLT.out; omega, rfl, rfl, HQN, _, HKN, HNI9, HFN⟩, rfl, rfl, by go_num⟩, ?_⟩
             have := HLT.out; simp [intOf]; omega)
        · have hne : ((z : Int) == 0) = false := by rw [beq_eq_false_iff_ne]; omega
          have HKN : Hid (Kahn.KI E k (Q ++ V) (X ++ (Kahn.outs E s).take (j + 1)) (Kahn.upd D' tt z)) := Lh (by
            have h := HED.out
            rw [if_neg h0] at h
            exact h)
          clear h0
          go_wp2_with fail
          go_roundw
          case rel => exact ⟨j + 1, m', A', c', V, Kahn.upd D' tt z, HVL, by have := HLT.out; omega, rfl, by go_num, HQS, HKN, HNI, HFS⟩
          case measure => have := HLT.out; simp [intOf]; omega
      · obtain rfl : j = (toF E s).length := by omega
        have hd9 : decide ((toF E s).length < (toF E s).length) = false := by simp
        have htl : (Kahn.outs E s).take (toF E s).length = Kahn.outs E s := List.take_of_length_le (by unfold toF; rw [List.length_map]; exact Nat.le_refl _)
        rw [htl] at HKV
        have HGN := Lh (HGO.out.next HKI.out.nod HHS.out V)
        clear hlt htl
        go_wp2_with fail
        go_roundw
        case rel => exact ⟨d + 1, m', A', c', Q ++ V, X ++ Kahn.outs E s, D', HVL, by omega, rfl, by go_num, HQV, HKV, HGN, HIN', HF'⟩
        case measure => simp [intOf]; omega
end
end
section
structure StageD (d : DescI) : Prop where
 rp : ∀ r ∈ d.rs, ∀ t ∈ r.o.l, StageP t.ps
 fp : ∀ f ∈ d.fs, ∀ t ∈ f.o.l, StageP t.ps
theorem stageD (d : DescI) : StageD d := ⟨fun _ _ _ _ => trivial, fun _ _ _ _ => trivial⟩
def RulesTo (d : DescI) (k : Nat) : Prop := ∀ r ∈ d.rs.take k, RuleOk d.L r.L
def RetWh (w0 : World) (v : Bool) (F : World → Prop) (e : Ending) (w' : World) : Prop := ∃ kind j : Int, e = .returned (.tuple #[.int .i64 kind, .int .i64 j]) ∧ ((v = true ∧ kind = 0) ∨ (v = false ∧ kind ≠ 0)) ∧ Hid (St w0 w' F)
section
variable {w0 w : World} {F : World → Prop}
theorem Where_st (hK : Hid (St w0 w F)) (d : DescI) (hd : ∀ W, F W → DescW d W) (v : Bool) (hv : Hid (pB (DescOk d.L) = v)) (hst : StageD d) :
  Calls Tryz.prog 105 #[.agg #[.int .i64 d.i, .int .i64 d.o, .int .i64 d.n, .int .i64 d.s, .slice d.ra d.rs.length d.rc, .slice d.fa d.fs.length d.fc]] w (RetWh w0 v F) := by
 have HRU : Hid (∀ W, F W → RulesAt Lst d.ra d.rs W) := Lh fun W h => (hd W h).rules
 have HFI : Hid (∀ W, F W → FinsAt Lst d.fa d.fs W) := Lh fun W h => (hd W h).fins
 have HST := Lh hst
 have hln := (hd _ hK.out.now).rules.ln
 have hlf := (hd _ hK.out.now).fins.ln
 have HBOK := Lh (fun (h : ¬ DescOk d.L) => pB_f hv h)
 have HGOK := Lh (fun (h : DescOk d.L) => pB_t hv h)
 clear hd hst hv
 obtain ⟨i, o, n, s, ra, rc, rs, fa, fc, fs⟩ := d
 have HRT : ∀ k, RulesTo ⟨i, o, n, s, ra, rc, rs, fa, fc, fs⟩ k = ∀ r ∈ rs.take k, RuleP i o n r.L := fun k => rfl
 simp only at HRU HFI hln hlf ⊢
 have HSR : Hid (∀ r ∈ rs, ∀ t ∈ r.o.l, StageP t.ps) := Lh HST.out.rp
 have HSF : Hid (∀ r ∈ fs, ∀ t ∈ r.o.l, StageP t.ps) := Lh HST.out.fp
 have HK := St.box hK [.int .i64 i, .int .i64 o, .int .i64 n, .int .i64 s, .slice ra rs.length rc, .slice fa fs.length fc] 26
 obtain ⟨q0, q1, q2, q3, q4, q5⟩ := HK.out.now.1.c6
 clear HST HRT
 go_enter Tryz.func105, Tryz.ntmps105
 go_wp2_with fail
 obtain ⟨vh, HVH⟩ : ∃ vh, Hid (pB (HeadP i o n s rs.length fs.length) = vh) := ⟨_, rfl⟩
 refine (head_st HK i o n s ra fa rs.length rc fs.length fc vh HVH).mono ?_
 rintro e w1 ⟨rfl, HK1⟩
 clear q0 q1 q2 q3 q4 q5
 rcases vh with _ | _
 ·obtain rfl := HBOK.out (fun h => by
   have h1 := h.head
   have := pB_true (p := HeadP i o n s rs.length fs.length) ⟨h1.1, h1.2.1, h1.2.2.1, h1.2.2.2.1, h1.2.2.2.2.1, by have := h1.2.2.2.2.2.1; rwa [show (DescI.L ⟨i, o, n, s, ra, rc, rs, fa, fc, fs⟩).rules = rs.map RuleI.L from rfl, List.length_map] at this, by have := h1.2.2.2.2.2.2; rwa [show (DescI.L ⟨i, o, n, s, ra, rc, rs, fa, fc, fs⟩).fins = fs.map FinI.L from rfl, List.length_map] at this⟩
   rw [HVH.out] at this; cases this)
  go_wp2_with fail
  go_ret2
  exact ⟨1, 0, rfl, .inr ⟨rfl, by decide⟩, Lh (HK1.out.weaken fun _ h => h.2)⟩
 have HH : Hid (HeadP i o n s rs.length fs.length) := Lh (pB_iff.1 HVH.out)
 have hr4 : rs.length ≤ 4096 := HH.out.2.2.2.2.2.1
 have hf4 : fs.length ≤ 4096 := HH.out.2.2.2.2.2.2
 have q4 := HK1.out.now.1 4 _ rfl
 clear HK
 go_wp2_with fail
 clear q4
 go_loopw [14] (fun iv wr => ∃ k : Nat, k ≤ rs.length ∧ iv = .int .i64 k ∧ Hid (∀ r ∈ rs.take k, RuleP i o n r.L) ∧ Hid (St w0 wr (fun W => BoxC w.heap.size [.int .i64 i, .int .i64 o, .int .i64 n, .int .i64 s, .slice ra rs.length rc, .slice fa fs.length fc] W ∧ F W))) (fun iv _ => rs.length - (intOf iv).toNat)
 case atStart => exact ⟨0, Nat.zero_le _, rfl, Lh (fun g hg => by simp at hg), HK1⟩
 case round =>
 clear HK1
 obtain ⟨k, hk, rfl, HR, HK⟩ := hrel
 by_cases hlt : k < rs.length
 ·obtain ⟨rb, off, r, rfl, hx, hw, hd0, hd1, hd2, hd3, hd4⟩ := (HRU.out _ HK.out.now.2).at_ hlt
  have HX := Lh hx
  have HKr := Lh (HK.out.add (Below.refl _ _) (G := RuleW r) (fun W hW => RuleR.below Lst.lastsx hw hW))
  have HKp := St.box HKr (ruleC r) 102
  simp only [ruleC] at HKp
  obtain ⟨q0, q1, q2, q3, q4, q5⟩ := HKp.out.now.2.2.1.c6
  obtain ⟨vr, HVR⟩ : ∃ vr, Hid (pB (RuleP i o n r.L) = vr) := ⟨_, rfl⟩
  have HSRr := Lh (HSR.out r (List.mem_of_getElem? hx))
  clear hx hw
  go_wp2_with fail
  refine (rule_st HKp i o n s _ fa rs.length rc fs.length fc r (fun _ h => h.2.1) vr HVR HSRr.out).mono ?_
  rintro e w3 ⟨rfl, HK3⟩
  clear q0 q1 q2 q3 q4 q5
  rcases vr with _ | _
  ·obtain rfl := HBOK.out (fun h => by
    have := pB_true (p := RuleP i o n r.L) (h.rules _ (List.mem_map.2 ⟨r, List.mem_of_getElem? HX.out, rfl⟩))
    rw [HVR.out] at this; cases this)
   go_wp2_with fail
   go_ret2
   exact ⟨2, k, rfl, .inr ⟨rfl, by decide⟩, Lh (HK3.out.weaken fun _ h => h.2.2.2)⟩
  ·have HN : Hid (∀ r ∈ rs.take (k + 1), RuleP i o n r.L) := Lh fun q hq => by
    rw [take_snoc? HX.out] at hq
    rcases List.mem_append.1 hq with hq | hq
    ·exact HR.out q hq
    ·simp at hq; subst hq; exact pB_iff.1 HVR.out
   go_wp2_with fail
   go_roundw
   case rel => exact ⟨k + 1, by omega, by go_num, HN, Lh (HK3.out.weaken fun _ h => h.2.2)⟩
   case measure => simp [intOf]; omega
 obtain rfl : k = rs.length := by omega
 have hd : decide (rs.length < rs.length) = false := by simp
 have HRA : Hid (∀ r ∈ rs, RuleP i o n r.L) := Lh (by have := HR.out; rwa [List.take_length] at this)
 have q5 := HK.out.now.1 5 _ rfl
 go_wp2_with fail
 clear q5 hd hlt HR
 go_loopw [28] (fun iv wr => ∃ k : Nat, k ≤ fs.length ∧ iv = .int .i64 k ∧ Hid (∀ r ∈ fs.take k, StateOk n r.fr ∧ GuardsOk i r.L.gs ∧ WritesOk i o r.L.gs r.L.out) ∧ Hid (St w0 wr (fun W => BoxC w.heap.size [.int .i64 i, .int .i64 o, .int .i64 n, .int .i64 s, .slice ra rs.length rc, .slice fa fs.length fc] W ∧ F W))) (fun iv _ => fs.length - (intOf iv).toNat)
 case atStart => exact ⟨0, Nat.zero_le _, rfl, Lh (fun g hg => by simp at hg), HK⟩
 case round =>
 clear HK
 obtain ⟨k, hk, rfl, HR, HK⟩ := hrel
 by_cases hlt : k < fs.length
 ·obtain ⟨rb, off, r, rfl, hx, hw, hd0, hd1, hd2⟩ := (HFI.out _ HK.out.now.2).at_ hlt
  have HX := Lh hx
  have HKr := Lh (HK.out.add (Below.refl _ _) (G := FinW r) (fun W hW => FinR.below Lst.lastsx hw hW))
  have HKp := St.box HKr (finC r) 134
  have HSFr := Lh (HSF.out r (List.mem_of_getElem? hx))
  have HBADF := Lh (fun (h : ¬ (StateOk n r.fr ∧ GuardsOk i (bodies r.gs) ∧ WritesOk i o (bodies r.gs) (r.o.l.map TermI.L))) => HBOK.out fun g => h (by
   have := g.fins _ (List.mem_map.2 ⟨r, List.mem_of_getElem? HX.out, rfl⟩)
   exact this))
  have HNX : Hid ((StateOk n r.fr ∧ GuardsOk i (bodies r.gs) ∧ WritesOk i o (bodies r.gs) (r.o.l.map TermI.L)) → ∀ r ∈ fs.take (k + 1), StateOk n r.fr ∧ GuardsOk i r.L.gs ∧ WritesOk i o r.L.gs r.L.out) := Lh fun g q hq => by
   rw [take_snoc? HX.out] at hq
   rcases List.mem_append.1 hq with hq | hq
   ·exact HR.out q hq
   ·simp at hq; subst hq; exact g
  obtain ⟨fr, ga, gc, gs, oa, oc, ol⟩ := r
  simp only [finC] at HKp hd0 hd1 hd2 HSFr HBADF HNX
  obtain ⟨q0, q1, q2, q3, q4, q5⟩ := HKp.out.now.2.2.1.c6
  obtain ⟨p0, p1, p2⟩ := HKp.out.now.1.c3
  obtain ⟨v1, HV1⟩ : ∃ vr, Hid (pB (StateOk n fr) = vr) := ⟨_, rfl⟩
  obtain ⟨v2, HV2⟩ : ∃ vr, Hid (pB (GuardsOk i (bodies gs)) = vr) := ⟨_, rfl⟩
  obtain ⟨v3, HV3⟩ : ∃ vr, Hid (pB (WritesOk i o (bodies gs) (ol.map TermI.L)) = vr) := ⟨_, rfl⟩
  clear hx hw
  go_wp2_with fail
  refine (state_st HKp i o n s ra _ rs.length rc fs.length fc fr v1 HV1).mono ?_
  rintro e w3 ⟨rfl, HK3⟩
  clear q0 q1 q2 q3 q4 q5 p0 p1 p2
  obtain ⟨q0, q1, q2, q3, q4, q5⟩ := HK3.out.now.2.2.1.c6
  obtain ⟨p0, p1, p2⟩ := HK3.out.now.1.c3
  rcases v1 with _ | _
  ·obtain rfl := HBADF.out (fun h => by have := pB_true h.1; rw [HV1.out] at this; cases this)
   go_wp2_with fail
   go_ret2
   exact ⟨3, k, rfl, .inr ⟨rfl, by decide⟩, Lh (HK3.out.weaken fun _ h => h.2.2.2)⟩
  go_wp2_with fail
  refine (guards_st HK3 i (fun _ h => h.2.1.2.1.llx) gc v2 HV2).mono ?_
  rintro e w4 ⟨rfl, HK4⟩
  clear q0 q1 q2 q3 q4 q5 p0 p1 p2
  obtain ⟨q0, q1, q2, q3, q4, q5⟩ := HK4.out.now.2.2.1.c6
  obtain ⟨p0, p1, p2⟩ := HK4.out.now.1.c3
  rcases v2 with _ | _
  ·obtain rfl := HBADF.out (fun h => by have := pB_true h.2.1; rw [HV2.out] at this; cases this)
   go_wp2_with fail
   go_ret2
   exact ⟨3, k, rfl, .inr ⟨rfl, by decide⟩, Lh (HK4.out.weaken fun _ h => h.2.2.2)⟩
  have hg4 : gs.length ≤ 4 := by have := (pB_iff.1 HV2.out).1; rwa [bodies_length] at this
  go_wp2_with fail
  refine (writes_st HK4 i o n s ra _ rs.length rc fs.length fc (fun _ h => h.2.1.2.2) oc (fun _ h => h.2.1.2.1.llx) gc hg4 v3 HV3 HSFr.out).mono ?_
  rintro e w5 ⟨rfl, HK5⟩
  clear q0 q1 q2 q3 q4 q5 p0 p1 p2
  rcases v3 with _ | _
  ·obtain rfl := HBADF.out (fun h => by have := pB_true h.2.2; rw [HV3.out] at this; cases this)
   go_wp2_with fail
   go_ret2
   exact ⟨3, k, rfl, .inr ⟨rfl, by decide⟩, Lh (HK5.out.weaken fun _ h => h.2.2.2)⟩
  have HN := Lh (HNX.out ⟨pB_iff.1 HV1.out, pB_iff.1 HV2.out, pB_iff.1 HV3.out⟩)
  go_wp2_with fail
  go_roundw
  case rel => exact ⟨k + 1, by omega, by go_num, HN, Lh (HK5.out.weaken fun _ h => h.2.2)⟩
  case measure => simp [intOf]; omega
 obtain rfl : k = fs.length := by omega
 have hd : decide (fs.length < fs.length) = false := by simp
 obtain ⟨q0, q1, q2, q3, q4, q5⟩ := HK.out.now.1.c6
 obtain ⟨m, hm⟩ := Int.eq_ofNat_of_zero_le (show 0 ≤ n by have := HH.out.2.2.1; omega)
 subst hm
 have hm1 : 1 ≤ m := by have := HH.out.2.2.1; omega
 have hm2 : m ≤ 1024 := by have := HH.out.2.2.2.1; omega
 obtain ⟨vc, HVC⟩ : ∃ vc, Hid (Kahn.cyc (epsE (rs.map RuleI.L)) m = vc) := ⟨_, rfl⟩
 have HSO : Hid (∀ r ∈ rs, StateOk (m : Int) r.fr ∧ StateOk (m : Int) r.dst) := Lh fun r hr => by
  have h := HRA.out r hr
  exact ⟨h.1, h.2.1⟩
 have HCYB : Hid (vc = true → ¬ DescOk (DescI.L ⟨i, o, m, s, ra, rc, rs, fa, fc, fs⟩)) := Lh fun h g => g.cyc (by
  unfold CycP
  rw [h] at HVC
  exact HVC.out)
 have HCYG : Hid (vc = false → DescOk (DescI.L ⟨i, o, m, s, ra, rc, rs, fa, fc, fs⟩)) := Lh fun h => ⟨by
   have h1 := HH.out
   exact ⟨h1.1, h1.2.1, h1.2.2.1, h1.2.2.2.1, h1.2.2.2.2.1, by rw [show (DescI.L ⟨i, o, m, s, ra, rc, rs, fa, fc, fs⟩).rules = rs.map RuleI.L from rfl, List.length_map]; exact hr4, by rw [show (DescI.L ⟨i, o, m, s, ra, rc, rs, fa, fc, fs⟩).fins = fs.map FinI.L from rfl, List.length_map]; exact hf4⟩,
  fun r hr => by
   obtain ⟨q, hq, rfl⟩ := List.mem_map.1 hr
   exact HRA.out q hq,
  fun r hr => by
   obtain ⟨q, hq, rfl⟩ := List.mem_map.1 hr
   exact HR.out q (by rwa [List.take_length]), fun g => by
   unfold CycP at g
   have h2 : Kahn.cyc (epsE (rs.map RuleI.L)) m = true := g
   rw [HVC.out, h] at h2; cases h2⟩
 clear hlt HR
 go_wp2_with fail
 refine (cycle_st HK i o s m hm1 hm2 rc fs.length fc (fun _ h => HRU.out _ h.2) hr4 HSO vc HVC).mono ?_
 rintro e w6 ⟨rfl, HK6⟩
 rcases vc with _ | _
 ·obtain rfl := HGOK.out (HCYG.out rfl)
  clear HBOK HGOK
  go_wp2_with fail
  go_ret2
  exact ⟨0, 0, rfl, .inl ⟨rfl, rfl⟩, Lh (HK6.out.weaken fun _ h => h.2)⟩
 ·obtain rfl := HBOK.out (HCYB.out rfl)
  clear HBOK HGOK
  go_wp2_with fail
  go_ret2
  exact ⟨4, 0, rfl, .inr ⟨rfl, by decide⟩, Lh (HK6.out.weaken fun _ h => h.2)⟩
theorem dCheck_st (hK : Hid (St w0 w F)) (d : DescI) (hd : ∀ W, F W → DescW d W) (v : Bool) (hv : Hid (pB (DescOk d.L) = v)) (hst : StageD d) :
  Calls Tryz.prog 50 #[.agg #[.int .i64 d.i, .int .i64 d.o, .int .i64 d.n, .int .i64 d.s, .slice d.ra d.rs.length d.rc, .slice d.fa d.fs.length d.fc]] w (fun e w' => if v = true then RetV w0 (.int .i64 0) F e w' else RetV w0 (.int .i64 2) F e w') := by
 have HK := St.box hK [.int .i64 d.i, .int .i64 d.o, .int .i64 d.n, .int .i64 d.s, .slice d.ra d.rs.length d.rc, .slice d.fa d.fs.length d.fc] 26
 obtain ⟨q0, q1, q2, q3, q4, q5⟩ := HK.out.now.1.c6
 go_enter Tryz.func50, Tryz.ntmps50
 go_wp2_with fail
 refine (Where_st HK d (fun _ h => hd _ h.2) v hv hst).mono ?_
 rintro e w1 ⟨kind, j, rfl, hk, HK1⟩
 clear q0 q1 q2 q3 q4 q5
 rcases hk with ⟨rfl, rfl⟩ | ⟨rfl, hk⟩
 ·go_wp2_with fail
  go_ret
  exact ⟨rfl, Lh (HK1.out.weaken fun _ h => h.2)⟩
 ·have hk1 : (kind != 0) = true := by simpa using hk
  clear hk
  go_wp2_with fail
  go_ret
  exact ⟨rfl, Lh (HK1.out.weaken fun _ h => h.2)⟩
end
end
section
def MeetTo (a b : List (List Sp)) (k : Nat) : Prop := ∀ (j : Nat) s t, j < k → a[j]? = some s → b[j]? = some t → ∃ x, Mem s x ∧ Mem t x
def MeetG (a b : List (List Sp)) : Prop := ∀ (j : Nat) s t, a[j]? = some s → b[j]? = some t → ∃ x, Mem s x ∧ Mem t x
structure OptL where
 fr : Int
 gs : List (List Sp)
 fin : Bool
def ClashP (a b : OptL) : Prop := a.fr = b.fr ∧ (a.fin = true → a.gs.length = b.gs.length) ∧ (a.fin = false → b.fin = true → a.gs.length ≤ b.gs.length) ∧ MeetG a.gs b.gs
structure OptI where
 fr : Int
 ga : Option Addr
 gc : Nat
 gs : List (Item Sp)
 fin : Bool
def OptI.L (o : OptI) : OptL := ⟨o.fr, bodies o.gs, o.fin⟩
def optC (o : OptI) : List Value := [.int .i64 o.fr, .slice o.ga o.gs.length o.gc, .bool o.fin]
def OptW (o : OptI) (W : World) : Prop := I64 o.fr ∧ LLx o.ga o.gs W
theorem OptW.stays : Stays OptW := fun o w w' h hb => ⟨h.1, h.2.below hb⟩
section
variable {w0 w : World} {F : World → Prop}
theorem smeet_st (hK : Hid (St w0 w F)) {A B : Option Addr} {O N : List (Item Sp)} (ha : ∀ W, F W → LLx A O W) (hb : ∀ W, F W → LLx B N W) (c d : Nat) (v : Bool) (hv : Hid (pB (MeetG (bodies O) (bodies N)) = v)) :
  Calls Tryz.prog 197 #[.slice A O.length c, .slice B N.length d] w (RetV w0 (.bool v) F) := by
 have HA := Lh ha
 have HB := Lh hb
 have hln := (ha _ hK.out.now).2
 have hlx := (hb _ hK.out.now).2
 obtain ⟨m, hm⟩ : ∃ m : Nat, min O.length N.length = m := ⟨_, rfl⟩
 have hmm : min (O.length : Int) (N.length : Int) = (m : Int) := by omega
 have HM := Lh hm
 have HMM := Lh hmm
 clear ha hb hm
 go_enter Tryz.func197, Tryz.ntmps197
 go_wp2_with fail
 clear hmm
 go_loopw [11] (fun iv wr => ∃ k : Nat, k ≤ m ∧ iv = .int .i64 k ∧ Hid (MeetTo (bodies O) (bodies N) k) ∧ Hid (St w0 wr F)) (fun iv _ => m - (intOf iv).toNat)
 case atStart => exact ⟨0, Nat.zero_le _, rfl, Lh (fun j s t hj => by omega), hK⟩
 case round =>
 obtain ⟨k, hk, rfl, HR, HK⟩ := hrel
 by_cases hlt : k < m
 ·obtain ⟨gb, off, ba, bc, b, rfl, _, hb, hc, hl⟩ := (HA.out _ HK.out.now).at_ (k := k) (by have := HM.out; omega)
  obtain ⟨xb, xo, xa, xc, x, rfl, _, hx, hxc, hxl⟩ := (HB.out _ HK.out.now).at_ (k := k) (by have := HM.out; omega)
  have HX := Lh (And.intro hb hx)
  have HKi := Lh (HK.out.add (Below.refl _ _) (G := fun W => (W.cell? ⟨gb, off + k, none⟩ = some (.slice ba b.length bc) ∧ W.cell? ⟨xb, xo + k, none⟩ = some (.slice xa x.length xc)) ∧ Lst ba b W ∧ Lst xa x W)
   (fun W hW => ⟨⟨(hW.cell (p := ⟨gb, off + k, none⟩) (lt_of_cell hc)).trans hc, (hW.cell (p := ⟨xb, xo + k, none⟩) (lt_of_cell hxc)).trans hxc⟩, hl.below hW, hxl.below hW⟩))
  have hk1 : (k : Int) < O.length := by have := HM.out; omega
  have hk2 : (k : Int) < N.length := by have := HM.out; omega
  obtain ⟨vm, HVM⟩ : ∃ vm, Hid (pB (∃ y, Mem b y ∧ Mem x y) = vm) := ⟨_, rfl⟩
  have hkm : (k : Int) < (m : Int) := by omega
  have HLT := Lh hlt
  clear hb hx hl hxl hc hxc hlt
  go_wp2_with fail
  have HK1 := St.hdrewN HKi 1
  go_region_held3 (fun W => W.cell? ⟨gb, off + k, none⟩ = some (.slice ba b.length bc) ∧ W.cell? ⟨xb, xo + k, none⟩ = some (.slice xa x.length xc))
   (first | exact HK1.out.now.1.1 | exact HK2.out.now.1.1 | go_keep)
   ((go_at_call 225; refine (Meets_p HK1 (fun _ h => h.1.2.1) (fun _ h => h.1.2.2) bc xc vm HVM).mono ?_; rintro e5 w5 ⟨rfl, HK2⟩))
  rcases vm with _ | _
  ·obtain rfl := pB_f hv (fun h => by
    have := pB_true (h k b x HX.out.1 HX.out.2)
    rw [HVM.out] at this; cases this)
   go_wp2_with fail
   go_ret
   exact ⟨rfl, Lh (HK2.out.weaken fun _ h => h.2)⟩
  ·have HN : Hid (MeetTo (bodies O) (bodies N) (k + 1)) := Lh fun j s t hj hs ht => by
    by_cases e : j = k
    ·subst e
     rw [HX.out.1] at hs; rw [HX.out.2] at ht
     injection hs with hs; injection ht with ht
     subst hs; subst ht
     exact pB_iff.1 HVM.out
    ·exact HR.out j s t (by omega) hs ht
   go_wp2_with fail
   go_roundw
   case rel => exact ⟨k + 1, by have := HLT.out; omega, by go_num, HN, Lh (HK2.out.weaken fun _ h => h.2)⟩
   case measure => have := HLT.out; simp [intOf]; omega
 ·obtain rfl : k = m := by omega
  have hd : decide (k < k) = false := by simp
  obtain rfl := pB_t hv (fun j s t hs ht => HR.out j s t (by
   have h1 := (List.getElem?_eq_some_iff.1 hs).1
   have h2 := (List.getElem?_eq_some_iff.1 ht).1
   rw [bodies_length] at h1 h2
   have := HM.out; omega) hs ht)
  have hmm := HMM.out
  go_wp2_with fail
  go_ret
  exact ⟨rfl, HK⟩
theorem clash_st (hK : Hid (St w0 w F)) (a b : OptI) (ha : ∀ W, F W → OptW a W) (hb : ∀ W, F W → OptW b W) (v : Bool) (hv : Hid (pB (ClashP a.L b.L) = v)) :
  Calls Tryz.prog 168 #[.agg #[.int .i64 a.fr, .slice a.ga a.gs.length a.gc, .bool a.fin], .agg #[.int .i64 b.fr, .slice b.ga b.gs.length b.gc, .bool b.fin]] w (RetV w0 (.bool v) F) := by
 have HA := Lh ha
 have HB := Lh hb
 have hln := (ha _ hK.out.now).2.2
 have hlx := (hb _ hK.out.now).2.2
 clear ha hb
 obtain ⟨af, aga, agc, ag, af2⟩ := a
 obtain ⟨bf, bga, bgc, bg, bf2⟩ := b
 simp only at hln hlx ⊢
 have HLA : Hid ((bodies ag).length = ag.length) := bodies_length ag
 have HLB : Hid ((bodies bg).length = bg.length) := bodies_length bg
 have HV : Hid (pB (af = bf ∧ (af2 = true → ag.length = bg.length) ∧ (af2 = false → bf2 = true → ag.length ≤ bg.length) ∧ MeetG (bodies ag) (bodies bg)) = v) := by
  unfold Hid
  rw [← hv.out]
  refine pB_congr ?_
  show _ ↔ (af = bf ∧ (af2 = true → (bodies ag).length = (bodies bg).length) ∧ (af2 = false → bf2 = true → (bodies ag).length ≤ (bodies bg).length) ∧ MeetG (bodies ag) (bodies bg))
  rw [HLA.out, HLB.out]
 have HK1 := St.box hK [.int .i64 af, .slice aga ag.length agc, .bool af2] 246
 have HK := St.box HK1 [.int .i64 bf, .slice bga bg.length bgc, .bool bf2] 246
 have hz : (w.alloc (.cells [.int .i64 af, .slice aga ag.length agc, .bool af2].toArray 246)).heap.size = w.heap.size + 1 := by simp
 rw [hz] at HK
 clear hz HK1 hv
 obtain ⟨p0, p1, p2⟩ := HK.out.now.1.c3
 obtain ⟨q0, q1, q2⟩ := HK.out.now.2.1.c3
 by_cases c1 : af = bf
 case neg =>
  have c1' : (af != bf) = true := by simpa using c1
  obtain rfl := pB_f HV (fun h => c1 h.1)
  go_enter Tryz.func168, Tryz.ntmps168
  go_wp2_with fail
  go_ret
  exact ⟨rfl, Lh (HK.out.weaken fun _ h => h.2.2)⟩
 subst c1
 have c1' : (af != af) = false := by simp
 obtain ⟨vm, HVM⟩ : ∃ vm, Hid (pB (MeetG (bodies ag) (bodies bg)) = vm) := ⟨_, rfl⟩
 rcases af2 with _ | _
 ·rcases bf2 with _ | _
  ·obtain rfl : vm = v := by
    rw [← HV.out, ← HVM.out]
    exact pB_congr ⟨fun h => ⟨rfl, by simp, by simp, h⟩, fun h => h.2.2.2⟩
   clear HV
   go_enter Tryz.func168, Tryz.ntmps168
   go_wp2_with fail
   refine (smeet_st HK (A := aga) (O := ag) (B := bga) (N := bg) (fun _ h => (HA.out _ h.2.2).2) (fun _ h => (HB.out _ h.2.2).2) agc bgc vm HVM).mono ?_
   rintro e w3 ⟨rfl, HK3⟩
   go_wp2_with fail
   go_ret
   exact ⟨rfl, Lh (HK3.out.weaken fun _ h => h.2.2)⟩
  ·by_cases c2 : (ag.length : Int) ≤ (bg.length : Int)
   case neg =>
    obtain rfl := pB_f HV (fun h => c2 (by have := h.2.2.1 rfl rfl; omega))
    have c2' : decide ((bg.length : Int) < (ag.length : Int)) = true := by simp; omega
    have c2'' : bg.length < ag.length := by omega
    go_enter Tryz.func168, Tryz.ntmps168
    go_wp2_with fail
    go_ret
    exact ⟨rfl, Lh (HK.out.weaken fun _ h => h.2.2)⟩
   have c2' : ¬ bg.length < ag.length := by omega
   obtain rfl : vm = v := by
    rw [← HV.out, ← HVM.out]
    exact pB_congr ⟨fun h => ⟨rfl, by simp, fun _ _ => by omega, h⟩, fun h => h.2.2.2⟩
   clear HV
   go_enter Tryz.func168, Tryz.ntmps168
   go_wp2_with fail
   refine (smeet_st HK (A := aga) (O := ag) (B := bga) (N := bg) (fun _ h => (HA.out _ h.2.2).2) (fun _ h => (HB.out _ h.2.2).2) agc bgc vm HVM).mono ?_
   rintro e w3 ⟨rfl, HK3⟩
   go_wp2_with fail
   go_ret
   exact ⟨rfl, Lh (HK3.out.weaken fun _ h => h.2.2)⟩
 ·by_cases c2 : ag.length = bg.length
  case neg =>
   have c2' : ((ag.length : Int) != (bg.length : Int)) = true := by rw [bne_iff_ne]; omega
   obtain rfl := pB_f HV (fun h => c2 (h.2.1 rfl))
   go_enter Tryz.func168, Tryz.ntmps168
   go_wp2_with fail
   go_ret
   exact ⟨rfl, Lh (HK.out.weaken fun _ h => h.2.2)⟩
  have c2' : ((ag.length : Int) != (bg.length : Int)) = false := by rw [bne_eq_false_iff_eq]; omega
  obtain rfl : vm = v := by
   rw [← HV.out, ← HVM.out]
   exact pB_congr ⟨fun h => ⟨rfl, fun _ => c2, by simp, h⟩, fun h => h.2.2.2⟩
  clear HV c2
  go_enter Tryz.func168, Tryz.ntmps168
  go_wp2_with fail
  refine (smeet_st HK (A := aga) (O := ag) (B := bga) (N := bg) (fun _ h => (HA.out _ h.2.2).2) (fun _ h => (HB.out _ h.2.2).2) agc bgc vm HVM).mono ?_
  rintro e w3 ⟨rfl, HK3⟩
  go_wp2_with fail
  go_ret
  exact ⟨rfl, Lh (HK3.out.weaken fun _ h => h.2.2)⟩
end
end
section
def ruleO (r : RuleI) : OptI := ⟨r.fr, r.ga, r.gc, r.gs, false⟩
def finO (f : FinI) : OptI := ⟨f.fr, f.ga, f.gc, f.gs, true⟩
def optsI (d : DescI) : List OptI := d.rs.map ruleO ++ d.fs.map finO
def HasClash (l : List OptL) : Prop := ∃ (i k : Nat) (a b : OptL), i < k ∧ l[i]? = some a ∧ l[k]? = some b ∧ ClashP a b
def DClash (d : DescL) : Prop := HasClash (d.rules.map (fun r => ⟨r.fr, r.gs, false⟩) ++ d.fins.map (fun f => ⟨f.fr, f.gs, true⟩))
theorem optsI_L (d : DescI) : (optsI d).map OptI.L = d.L.rules.map (fun r => ⟨r.fr, r.gs, false⟩) ++ d.L.fins.map (fun f => ⟨f.fr, f.gs, true⟩) := by
 simp [optsI, DescI.L, List.map_map]; constructor <;> intros <;> rfl
def atF (l : List OptI) (m : Nat) (n : Int) : List Int := ((List.range m).filter fun j => ((l[j]?).map (·.fr)) == some n).map fun (j : Nat) => (j : Int)
theorem atF_snoc {l : List OptI} {m : Nat} {o : OptI} (h : l[m]? = some o) : atF l (m + 1) = putG (atF l m) o.fr (m : Int) := by
 funext n
 unfold atF putG
 rw [List.range_succ, List.filter_append, List.map_append]
 by_cases e : n = o.fr
 ·subst e
  simp [h]
 ·have : (o.fr == n) = false := by simpa using fun h => e h.symm
  simp [h, e]; intro h2; exact absurd h2.symm e
theorem atF_mem {l : List OptI} {m : Nat} {n x : Int} (h : x ∈ atF l m n) : ∃ j : Nat, x = j ∧ j < m ∧ ∃ o, l[j]? = some o ∧ o.fr = n := by
 unfold atF at h
 obtain ⟨j, hj, rfl⟩ := List.mem_map.1 h
 obtain ⟨h1, h2⟩ := List.mem_filter.1 hj
 refine ⟨j, rfl, List.mem_range.1 h1, ?_⟩
 rcases ho : l[j]? with _ | o
 ·rw [ho] at h2; simp at h2
 ·rw [ho] at h2; exact ⟨o, rfl, by simpa using h2⟩
theorem atF_has {l : List OptI} {m j : Nat} {o : OptI} (hj : j < m) (ho : l[j]? = some o) : (j : Int) ∈ atF l m o.fr := by
 unfold atF
 exact List.mem_map.2 ⟨j, List.mem_filter.2 ⟨List.mem_range.2 hj, by rw [ho]; simp⟩, rfl⟩
theorem infoOpt : (Tryz.prog.info? 246).map (fun i => (i.zero, i.size, i.bytes)) = some (some (.agg #[.int .i64 0, .slice none 0 0, .bool false]), 3, 40) := by kernel_rfl
def TrueR {α : Type} (_ : α) (_ : World) : Prop := True
section
variable {w0 w : World} {F : World → Prop}
theorem Clash_st (hK : Hid (St w0 w F)) (d : DescI) (hd : ∀ W, F W → DescW d W) (hr4 : d.rs.length ≤ 4096) (hf4 : d.fs.length ≤ 4096) (v : Bool) (hv : Hid (pB (DClash d.L) = v)) :
  Calls Tryz.prog 123 #[.agg #[.int .i64 d.i, .int .i64 d.o, .int .i64 d.n, .int .i64 d.s, .slice d.ra d.rs.length d.rc, .slice d.fa d.fs.length d.fc]] w (fun e w' => ∃ x y : Int, RetV w0 (.tuple #[.int .i64 x, .int .i64 y, .bool v]) F e w') := by
 have HRU : Hid (∀ W, F W → RulesAt Lst d.ra d.rs W) := Lh fun W h => (hd W h).rules
 have HFI : Hid (∀ W, F W → FinsAt Lst d.fa d.fs W) := Lh fun W h => (hd W h).fins
 have HV : Hid (pB (HasClash ((optsI d).map OptI.L)) = v) := by
  unfold Hid; rw [optsI_L]; exact hv
 have HOW : Hid (∀ W, F W → ∀ x ∈ optsI d, OptW x W) := Lh fun W h x hx => by
  rcases List.mem_append.1 hx with hx | hx
  ·obtain ⟨r, hr, rfl⟩ := List.mem_map.1 hx
   have := (hd W h).rules.it r hr
   exact ⟨this.1.1, this.2.1.llx⟩
  ·obtain ⟨r, hr, rfl⟩ := List.mem_map.1 hx
   have := (hd W h).fins.it r hr
   exact ⟨this.1, this.2.1.llx⟩
 clear hd hv
 obtain ⟨i, o, n, s, ra, rc, rs, fa, fc, fs⟩ := d
 simp only at HRU HFI hr4 hf4 ⊢
 have HOP : Hid (optsI ⟨i, o, n, s, ra, rc, rs, fa, fc, fs⟩ = rs.map ruleO ++ fs.map finO) := rfl
 obtain ⟨opts, hopts⟩ : ∃ z, optsI ⟨i, o, n, s, ra, rc, rs, fa, fc, fs⟩ = z := ⟨_, rfl⟩
 rw [hopts] at HV HOW HOP
 clear hopts
 have HK1 := St.box hK [.int .i64 i, .int .i64 o, .int .i64 n, .int .i64 s, .slice ra rs.length rc, .slice fa fs.length fc] 26
 have HK := Lh (HK1.out.alloc (.map #[] 0))
 have hmm := @run_makeMap Tryz.prog
 have HMP0 : Hid (∀ base, MapRw 3 1 intC (w.heap.size + 1) base (fun _ => []) [] ((w.alloc (.cells [.int .i64 i, .int .i64 o, .int .i64 n, .int .i64 s, .slice ra rs.length rc, .slice fa fs.length fc].toArray 26)).alloc (.map #[] 0))) := Lh fun base => by
  have := MapRw.start (T := 3) (size := 1) (f := intC) (w.alloc (.cells [.int .i64 i, .int .i64 o, .int .i64 n, .int .i64 s, .slice ra rs.length rc, .slice fa fs.length fc].toArray 26)) base
  rwa [show (w.alloc (.cells [.int .i64 i, .int .i64 o, .int .i64 n, .int .i64 s, .slice ra rs.length rc, .slice fa fs.length fc].toArray 26)).heap.size = w.heap.size + 1 by simp] at this
 have hsz : ((w.alloc (.cells [.int .i64 i, .int .i64 o, .int .i64 n, .int .i64 s, .slice ra rs.length rc, .slice fa fs.length fc].toArray 26)).alloc (.map #[] 0)).heap.size = w.heap.size + 1 + 1 := by simp
 have HSZ := Lh hsz
 have q4 := HK.out.now.1 4 _ rfl
 clear HK1 hsz
 obtain ⟨wM, hwM⟩ : ∃ z, ((w.alloc (.cells [.int .i64 i, .int .i64 o, .int .i64 n, .int .i64 s, .slice ra rs.length rc, .slice fa fs.length fc].toArray 26)).alloc (.map #[] 0)) = z := ⟨_, rfl⟩
 have HBM : Hid (Below w.heap.size w wM) := Lh (by rw [← hwM]; exact ((Below.refl _ _).alloc (Nat.le_refl _) _).alloc (by simp) _)
 rw [hwM] at HK HMP0 HSZ q4
 go_enter Tryz.func123, Tryz.ntmps123
 go_wp2_with fail
 clear hwM q4 hmm
 obtain ⟨i0, hi, hz0, hz1, hz2⟩ := info_parts infoOpt
 go_loopw [5, 21] (fun lv iv wr => ∃ (k : Nat) (A : Option Addr) (c : Nat), k ≤ rs.length ∧ iv = .int .i64 k ∧ lv = .slice A k c ∧ Hid (wr.ownsRow wM.heap.size 246 3 (.slice A k c) k ((opts.take k).flatMap optC)) ∧ Hid (Below wM.heap.size wM wr)) (fun _ iv _ => rs.length - (intOf iv).toNat)
 case atStart => exact ⟨0, none, 0, Nat.zero_le _, rfl, rfl, Lh (World.ownsRow_nil _ _ _ _), Lh (Below.refl _ _)⟩
 case round =>
 obtain ⟨k, A, c, hk, rfl, rfl, HO, HBL⟩ := hrel
 have HK2 := Lh (HK.out.step HBL.out)
 have hs3 := HBL.out.size
 by_cases hlt : k < rs.length
 ·obtain ⟨rb, off, r, rfl, hx, hw, hd0, hd1, hd2, hd3, hd4⟩ := (HRU.out _ HK2.out.now.2).at_ hlt
  have HOX : Hid (opts[k]? = some (ruleO r)) := Lh (by rw [HOP.out, List.getElem?_append_left (by simpa using hlt), List.getElem?_map, hx]; rfl)
  have hl40 : k < 1099511627776 := by omega
  have HO2 : Hid ((wr.alloc (.cells (ruleC r).toArray 102)).ownsRow wM.heap.size 246 3 (.slice A k c) k ((opts.take k).flatMap optC)) := Lh (HO.out.alloc _)
  have hs4 : wM.heap.size ≤ (wr.alloc (.cells (ruleC r).toArray 102)).heap.size := by simp; omega
  simp only [ruleC] at HO2 hs4
  clear hx hw
  go_wp2_with (at_builtin; go_must (refine wpList_pushG rfl _ _ 243 rfl wM.heap.size 246 i0 _ 3 40 Tryz.underlying243 hi hz0 hz1 hz2 rfl (by decide) HO2.out rfl [.int .i64 r.fr, .slice r.ga r.gs.length r.gc, .bool false] 246 (by first | rfl | (simp; rfl) | simp) rfl (by simp [Value.oneCell']) hl40 (by decide) hs4 ?_); intro A9 c9 w9 HO9 HG9 HN9)
  have HBN : Hid (Below wM.heap.size wM w9) := Lh (((HBL.out.alloc hs3 _).alloc hs4 _).grown HG9.out (by simp; omega) fun g hg => (HO.out.lt g (by rw [own_ownA]; exact hg)).1)
  have HON : Hid (w9.ownsRow wM.heap.size 246 3 (.slice A9 (k + 1) c9) (k + 1) ((opts.take (k + 1)).flatMap optC)) := Lh (by
   rw [take_snoc? HOX.out, List.flatMap_append]
   simpa [optC, ruleO] using HO9.out)
  go_roundw
  case rel => exact ⟨k + 1, A9, c9, by omega, by go_num, rfl, HON, HBN⟩
  case measure => simp [intOf]; omega
 obtain rfl : k = rs.length := by omega
 have hd : decide (rs.length < rs.length) = false := by simp
 have q5 := HK2.out.now.1 5 _ rfl
 go_wp2_with fail
 clear hd hlt q5
 go_loopw [5, 37] (fun lv iv wr => ∃ (k : Nat) (A : Option Addr) (c : Nat), k ≤ fs.length ∧ iv = .int .i64 k ∧ lv = .slice A (rs.length + k) c ∧ Hid (wr.ownsRow wM.heap.size 246 3 (.slice A (rs.length + k) c) (rs.length + k) ((opts.take (rs.length + k)).flatMap optC)) ∧ Hid (Below wM.heap.size wM wr)) (fun _ iv _ => fs.length - (intOf iv).toNat)
 case atStart => exact ⟨0, A, c, Nat.zero_le _, rfl, rfl, HO, HBL⟩
 case round =>
 clear HO HBL HK2 hs3
 obtain ⟨k, A, c, hk, rfl, rfl, HO, HBL⟩ := hrel
 have HK2 := Lh (HK.out.step HBL.out)
 have hs3 := HBL.out.size
 by_cases hlt : k < fs.length
 ·obtain ⟨rb, off, r, rfl, hx, hw, hd0, hd1, hd2⟩ := (HFI.out _ HK2.out.now.2).at_ hlt
  have HOX : Hid (opts[rs.length + k]? = some (finO r)) := Lh (by rw [HOP.out, List.getElem?_append_right (by simp), List.length_map, Nat.add_sub_cancel_left, List.getElem?_map, hx]; rfl)
  have hl40 : rs.length + k < 1099511627776 := by omega
  have HO2 : Hid ((wr.alloc (.cells (finC r).toArray 134)).ownsRow wM.heap.size 246 3 (.slice A (rs.length + k) c) (rs.length + k) ((opts.take (rs.length + k)).flatMap optC)) := Lh (HO.out.alloc _)
  have hs4 : wM.heap.size ≤ (wr.alloc (.cells (finC r).toArray 134)).heap.size := by simp; omega
  simp only [finC] at HO2 hs4
  clear hx hw
  go_wp2_with (at_builtin; go_must (refine wpList_pushG rfl _ _ 243 rfl wM.heap.size 246 i0 _ 3 40 Tryz.underlying243 hi hz0 hz1 hz2 rfl (by decide) HO2.out rfl [.int .i64 r.fr, .slice r.ga r.gs.length r.gc, .bool true] 246 (by first | rfl | (simp; rfl) | simp) rfl (by simp [Value.oneCell']) hl40 (by decide) hs4 ?_); intro A9 c9 w9 HO9 HG9 HN9)
  have HBN : Hid (Below wM.heap.size wM w9) := Lh (((HBL.out.alloc hs3 _).alloc hs4 _).grown HG9.out (by simp; omega) fun g hg => (HO.out.lt g (by rw [own_ownA]; exact hg)).1)
  have HON : Hid (w9.ownsRow wM.heap.size 246 3 (.slice A9 (rs.length + k + 1) c9) (rs.length + k + 1) ((opts.take (rs.length + k + 1)).flatMap optC)) := Lh (by
   rw [take_snoc? HOX.out, List.flatMap_append]
   simpa [optC, finO] using HO9.out)
  go_roundw
  case rel => exact ⟨k + 1, A9, c9, by omega, by go_num, rfl, HON, HBN⟩
  case measure => simp [intOf]; omega
 obtain rfl : k = fs.length := by omega
 have hd : decide (fs.length < fs.length) = false := by simp
 have HOL : Hid (opts.length = rs.length + fs.length) := Lh (by rw [HOP.out]; simp)
 have HOA : Hid (wr.ownsRow wM.heap.size 246 3 (.slice A opts.length c) opts.length (opts.flatMap optC)) := Lh (by
  have := HO.out
  rwa [← HOL.out, List.take_length] at this)
 obtain ⟨m, hm⟩ : ∃ m, opts.length = m := ⟨_, rfl⟩
 rw [hm] at HOA HOL
 rw [← HOL.out]
 have HM := Lh hm
 clear hm
 obtain ⟨w3, hw3⟩ : ∃ z, z = wr := ⟨_, rfl⟩
 subst hw3
 go_wp2_with fail
 clear hd hlt HO
 have HROW : Hid (Dep (fun k => wM.heap.size ≤ k) w3 (RowsAt 3 optC TrueR A opts)) := Lh fun V hV => by
  have h1 := Sl.of_own (own_keep HOA.out (w' := V) fun k hA => hV k (own_ty HOA.out hA).1 (own_ty HOA.out hA).2.1)
  rw [← HM.out] at h1
  exact ⟨h1, fun _ _ => trivial, by rw [HM.out]; have := HOL.out; omega⟩
 have hm8 : m ≤ 8192 := by have := HOL.out; omega
 clear HOA
 obtain ⟨j0, ji, jz0, jz1, jz2⟩ := info_parts infoIy
 go_loopw [52] (fun iv wr => ∃ (k : Nat) (L : List (Int × Item Int)), k ≤ m ∧ iv = .int .i64 k ∧ L.length ≤ k ∧ Hid (MapRw 3 1 intC (w.heap.size + 1) w3.heap.size (atF opts k) L wr) ∧
   Hid ((∀ j, j < w3.heap.size → j ≠ w.heap.size + 1 → wr.heap[j]? = w3.heap[j]?) ∧ w3.heap.size ≤ wr.heap.size ∧ Below w.heap.size w wr)) (fun iv _ => m - (intOf iv).toNat)
 case atStart =>
  refine ⟨0, [], Nat.zero_le _, rfl, Nat.zero_le _, Lh ?_, Lh ⟨fun _ _ _ => rfl, Nat.le_refl _, ?_⟩⟩
  ·have := (HMP0.out w3.heap.size).below HBL.out
   exact ⟨this.mp, this.sets, this.apart, this.val, this.none⟩
  ·exact HBM.out.trans (HBL.out.mono (by have := HSZ.out; omega))
 case round =>
 obtain ⟨k, L, hk, rfl, hLk, HMP, HFR⟩ := hrel
 have HKr := Lh (hK.out.step HFR.out.2.2)
 have hbs := HFR.out.2.1
 have HRO := Lh (HROW.out wr fun j hj hl => HFR.out.1 j hl (by have := HSZ.out; omega))
 by_cases hlt : k < m
 case pos =>
  obtain ⟨ob, off, o, rfl, ho, hcc, _⟩ := HRO.out.at_ (fun _ => rfl) (j := k) (by rw [HM.out]; exact hlt)
  have hd0 := hcc 0 _ rfl
  have hd1 := hcc 1 _ rfl
  have hd2 := hcc 2 _ rfl
  simp only [Nat.add_zero] at hd0
  have HOX := Lh ho
  have hwo := HOW.out _ HKr.out.now o (List.mem_of_getElem? ho)
  obtain ⟨fr, ga, gc, gs, fb⟩ := o
  simp only at hd0 hd1 hd2 hwo
  obtain ⟨A6, c6, hl6, hown6, hlook⟩ := HMP.out.look (mt := 244) (et := 62) hwo.1 Tryz.underlying244 (fun W => Tryz.zeroValue62 W)
  have HL6 := Lh hl6
  have HOWN6 := Lh hown6
  have HLOOK := Lh hlook
  have hlr : (atF opts k fr).length ≤ k := by
   unfold atF; rw [List.length_map]
   have := List.length_filter_le (fun j => ((opts[j]?).map (·.fr)) == some fr) (List.range k)
   rwa [List.length_range] at this
  obtain ⟨wA, hwA⟩ : ∃ z, (wr.alloc (.cells #[.int .i64 fr, .slice ga gs.length gc, .bool fb] 246)).drew = z := ⟨_, rfl⟩
  have hbA : Below wr.heap.size wr wA := by rw [← hwA]; exact ((Below.refl _ wr).alloc (Nat.le_refl _) _).drew
  have hAs : wA.heap.size = wr.heap.size + 1 := by rw [← hwA]; simp
  have hA0 : wA.cell? ⟨wr.heap.size, 0, none⟩ = some (.int .i64 fr) := by rw [← hwA]; simp
  have hAm : wA.heap[w.heap.size + 1]? = wr.heap[w.heap.size + 1]? := hbA.block _ HMP.out.mp.lt
  have HBA := Lh hbA
  have HAS := Lh hAs
  have HWO := Lh hwo.1
  clear ho hcc hl6 hown6 hlook hwo hAs
  go_wp2_with fail
  refine wp_region_Z 10 (by kernel_rfl) (fun W => W.cell? ⟨wr.heap.size, 0, none⟩ = some (.int .i64 fr) ∧ W.heap[w.heap.size + 1]? = wr.heap[w.heap.size + 1]?) (by rw [hwA]; exact ⟨hA0, hAm⟩) (fun hHeld => ?_)
  refine zt (v := ?_) 0 rfl ?_ ?_
  rotate_left
  ·intro w hSw; (try dsimp only at hSw); go_simp; (try with_reducible rfl)
  (try simp only [Act.put, zq1, zq2, zq3, zq4, zq5, zq6])
  refine zt (v := ?_) 1 rfl ?_ ?_
  rotate_left
  ·intro w hSw; (try dsimp only at hSw); go_simp; (try with_reducible rfl)
  (try simp only [Act.put, zq1, zq2, zq3, zq4, zq5, zq6])
  refine zt (v := ?_) 2 rfl ?_ ?_
  rotate_left
  ·intro w hSw; (try dsimp only at hSw); go_simp; (try with_reducible rfl)
  (try simp only [Act.put, zq1, zq2, zq3, zq4, zq5, zq6])
  refine zt (v := ?_) 3 rfl ?_ ?_
  rotate_left
  ·intro w hSw; (try dsimp only at hSw); go_simp; (try with_reducible rfl)
  (try simp only [Act.put, zq1, zq2, zq3, zq4, zq5, zq6])
  refine zt (v := ?_) 4 rfl ?_ ?_
  rotate_left
  ·intro w hSw; (try dsimp only at hSw); go_simp; (try with_reducible rfl)
  (try simp only [Act.put, zq1, zq2, zq3, zq4, zq5, zq6])
  refine zt (v := ?_) 5 rfl ?_ ?_
  rotate_left
  ·intro w hSw; (try dsimp only at hSw); go_simp; (try with_reducible rfl)
  (try simp only [Act.put, zq1, zq2, zq3, zq4, zq5, zq6])
  refine wpAnyZ_take (i := 6) (v := .slice A6 (atF opts k fr).length c6) rfl (by kernel_rfl) (by kernel_rfl) (by kernel_rfl) (by kernel_rfl) (fun _ _ _ h => h) (yieldsIf_lookup (by first | kernel_rfl | rfl) rfl rfl rfl (fun W hS => HLOOK.out W hS.2)) (by assumption) ?_
  (try simp only [Act.put, zq1, zq2, zq3, zq4, zq5, zq6])
  refine zt (v := ?_) 7 rfl ?_ ?_
  rotate_left
  ·intro w hSw; (try dsimp only at hSw); go_simp; (try with_reducible rfl)
  (try simp only [Act.put, zq1, zq2, zq3, zq4, zq5, zq6])
  rw [hwA]
  refine zr 8 rfl fun K hK => ?_
  go_simp
  have hmL : w.heap.size + 1 < wA.heap.size := Nat.lt_of_lt_of_le HMP.out.mp.lt HBA.out.size
  have hSb : (wA.alloc (.cells #[.int .i64 (k : Int)] 3)).cell? ⟨wr.heap.size, 0, none⟩ = some (.int .i64 fr) ∧ (wA.alloc (.cells #[.int .i64 (k : Int)] 3)).heap[w.heap.size + 1]? = wr.heap[w.heap.size + 1]? :=
   ⟨(((Below.refl wA.heap.size wA).alloc (Nat.le_refl _) _).cell (p := ⟨wr.heap.size, 0, none⟩) (by show wr.heap.size < _; have := HAS.out; omega)).trans hA0, (Below.heap_alloc _ _ _ hmL).trans hAm⟩
  refine hK.out _ _ (hSb) (fun hHeld => ?_)
  clear hK K
  (try simp only [Act.put, zq1, zq2, zq3, zq4, zq5, zq6])
  have HOA : Hid (wA.ownsRow w3.heap.size 3 1 (.slice A6 (atF opts k fr).length c6) (atF opts k fr).length ((atF opts k fr).flatMap intC)) := Lh (own_keep HOWN6.out fun j hj => HBA.out.block j (own_ty HOWN6.out hj).2.1)
  have hl40 : (atF opts k fr).length < 1099511627776 := by omega
  have hbA2 : w3.heap.size ≤ wA.heap.size := by have := HAS.out; omega
  refine zr 9 rfl fun K hK => ?_
  refine step_pushG rfl _ _ 62 rfl w3.heap.size 3 j0 _ 1 8 Tryz.underlying62 ji jz0 jz1 jz2 rfl (by decide) HOA.out rfl [.int .i64 (k : Int)] 3 rfl rfl (by simp [Value.oneCell']) hl40 (by decide) hbA2 ?_
  intro A9 c9 w9 HO9 HG9 HN9
  have hmA : ownA A6 ≠ some (w.heap.size + 1) := fun e => by
   have h1 := (own_ty HOWN6.out e).1
   have h2 := HBL.out.size
   have h3 := HSZ.out
   omega
  have h9m : w9.heap[w.heap.size + 1]? = wr.heap[w.heap.size + 1]? := (HG9.out.block _ (by simp; omega) (fun e => hmA e.symm)).trans hSb.2
  have h9c : w9.cell? ⟨wr.heap.size, 0, none⟩ = some (.int .i64 fr) := (HG9.out.cell hSb.1 (fun e => by have h1 := (own_ty HOWN6.out e.symm).2.1; simp at h1))
  refine hK.out _ _ (⟨h9c, h9m⟩) (fun hHeld => ?_)
  clear hK K
  (try simp only [Act.put, zq1, zq2, zq3, zq4, zq5, zq6])
  have hkeyF : keyOf Tryz.prog 3 (.int .i64 fr) = some (.int .i64 fr) := Maps.keyOf_int_mk Tryz.underlying3 (by
   have := HWO.out; unfold I64 at this
   simp [Lit.wf, IntKind.min, IntKind.max, IntKind.signed, IntKind.bits]; omega)
  obtain ⟨wB, hrun, hMB, hGB, hSB⟩ := (HMP.out.mp.same h9m).put (Maps.int_keyed Tryz.underlying3) Tryz.underlying244 (by rw [List.length_map]; unfold maxLen; omega) (.slice A9 ((atF opts k fr).length + 1) c9) hkeyF
  obtain ⟨L2, hMP2, hfr2, hsz2, hbel2, hL2⟩ := HMP.out.step (W7 := wA) (x := (k : Int)) (by have := HBL.out.size; have := HSZ.out; omega) hbs HBA.out HL6.out HO9.out HG9.out HN9.out (by
   have e : ival ((A9, c9, atF opts k fr ++ [(k : Int)]) : Item Int) = .slice A9 ((atF opts k fr).length + 1) c9 := by simp [ival]
   rw [e]; exact hMB) hGB
  have HMP2 : Hid (MapRw 3 1 intC (w.heap.size + 1) w3.heap.size (atF opts (k + 1)) L2 wB) := Lh (by
   rw [atF_snoc HOX.out]; exact hMP2)
  have HFR2 : Hid ((∀ j, j < w3.heap.size → j ≠ w.heap.size + 1 → wB.heap[j]? = w3.heap[j]?) ∧ w3.heap.size ≤ wB.heap.size ∧ Below w.heap.size w wB) :=
   Lh ⟨fun j hj hn => (hfr2 j hj hn).trans (HFR.out.1 j hj hn), Nat.le_trans hbs hsz2, HFR.out.2.2.trans (hbel2 w.heap.size (by omega) HFR.out.2.2.size)⟩
  refine wpAnyZ_last (i := 10) rfl (by kernel_rfl) (by kernel_rfl) rfl (fun K hK => ?_)
  refine wp_mapUpdate rfl rfl rfl rfl hrun ?_
  refine hK.out _ _ ?_
  have hlL : L2.length ≤ k + 1 := by omega
  have HLT := Lh hlt
  clear hHeld hK K hrun hMB hGB hSB hMP2 hfr2 hsz2 hbel2 hL2 h9m h9c hSb hmA hA0 hAm hwA hbA hlt hbs hlr hmL hl40 hbA2 hkeyF
  (try simp only [Act.put, zq1, zq2, zq3, zq4, zq5, zq6])
  go_wp2_with fail
  go_roundw
  case rel => exact ⟨k + 1, L2, by have := HLT.out; omega, by go_num, hlL, HMP2, HFR2⟩
  case measure => have := HLT.out; simp [intOf]; omega
 obtain rfl : k = m := by omega
 have hd : decide (k < k) = false := by simp
 go_wp2_with fail
 clear hd hlt
 have HKE : Hid (St w0 wr (fun W => MapRw 3 1 intC (w.heap.size + 1) w3.heap.size (atF opts k) L W ∧ RowsAt 3 optC TrueR A opts W ∧ F W)) := Lh
  ⟨fun W hW => ⟨HMP.out.below hW, HRO.out.below (fun _ _ _ _ _ => trivial) hW, hK.out.1 W (HFR.out.2.2.trans (hW.mono HFR.out.2.2.size))⟩, HKr.out.2⟩
 obtain ⟨w4, hw4⟩ : ∃ z, z = wr := ⟨_, rfl⟩
 subst hw4
 clear HMP HRO HFR HKr hbs hLk hk
 go_loopw [70] (fun iv wr => ∃ q : Nat, q ≤ k ∧ iv = .int .i64 q ∧ Hid (∀ (x y : Nat) (a b : OptI), x < q → x < y → opts[x]? = some a → opts[y]? = some b → ¬ ClashP a.L b.L) ∧ Hid (St w0 wr (fun W => MapRw 3 1 intC (w.heap.size + 1) w3.heap.size (atF opts k) L W ∧ RowsAt 3 optC TrueR A opts W ∧ F W))) (fun iv _ => k - (intOf iv).toNat)
 case atStart => exact ⟨0, Nat.zero_le _, rfl, Lh (fun x y a b hx => by omega), HKE⟩
 case round =>
 clear HKE
 obtain ⟨q, hq, rfl, HNC, HKE⟩ := hrel
 by_cases hlt : q < k
 case neg =>
  obtain rfl : q = k := by omega
  have hd : decide (q < q) = false := by simp
  obtain rfl := pB_f HV (fun ⟨x, y, a, b, hxy, ha, hb, hcl⟩ => by
   rw [List.getElem?_map] at ha hb
   rcases hoa : opts[x]? with _ | oa
   ·rw [hoa] at ha; cases ha
   rcases hob : opts[y]? with _ | ob
   ·rw [hob] at hb; cases hb
   rw [hoa] at ha; rw [hob] at hb
   injection ha with ha; injection hb with hb
   subst ha; subst hb
   exact HNC.out x y oa ob (by have := (List.getElem?_eq_some_iff.1 hoa).1; rw [HM.out] at this; exact this) hxy hoa hob hcl)
  go_wp2_with fail
  go_ret3
  exact ⟨0, 0, rfl, Lh (HKE.out.weaken fun W h => h.2.2)⟩
 obtain ⟨ob, off, o, rfl, ho, hcc, _⟩ := HKE.out.now.2.1.at_ (fun _ => rfl) (j := q) (by rw [HM.out]; exact hlt)
 have hd0 := hcc 0 _ rfl
 have hd1 := hcc 1 _ rfl
 have hd2 := hcc 2 _ rfl
 simp only [Nat.add_zero] at hd0
 have HOX := Lh ho
 have hwo := HOW.out _ HKE.out.now.2.2 o (List.mem_of_getElem? ho)
 obtain ⟨A6, c6, hl6, hown6, hlook⟩ := HKE.out.now.1.look (mt := 244) (et := 62) hwo.1 Tryz.underlying244 (fun W => Tryz.zeroValue62 W)
 obtain ⟨row, hrow⟩ : ∃ z, atF opts k o.fr = z := ⟨_, rfl⟩
 rw [hrow] at hown6 hlook
 have HRW := Lh hrow
 have HROWI : Hid (∀ W, Below wr.heap.size wr W → IntsAt A6 row W) := Lh fun W hW => by
  have h1 := (Sl.of_own hown6).below (B := 0) hW
  have hl : row.length ≤ k := by
   rw [← hrow]; unfold atF; rw [List.length_map]
   have := List.length_filter_le (fun j => ((opts[j]?).map (·.fr)) == some o.fr) (List.range k)
   rwa [List.length_range] at this
  refine ⟨h1, fun x hx => ?_, by omega⟩
  rw [← hrow] at hx
  obtain ⟨j, rfl, hj, _⟩ := atF_mem hx
  unfold I64; omega
 have hlen : row.length ≤ k := by
  rw [← hrow]; unfold atF; rw [List.length_map]
  have := List.length_filter_le (fun j => ((opts[j]?).map (·.fr)) == some o.fr) (List.range k)
  rwa [List.length_range] at this
 have HKO := Lh (HKE.out.add (Below.refl _ _) (G := fun W => OptW o W ∧ IntsAt A6 row W) (fun W hW => ⟨OptW.stays _ _ _ hwo hW, HROWI.out W hW⟩))
 have HKB := St.box HKO (optC o) 246
 have hlk1 := hlook (wr.alloc (.cells (optC o).toArray 246)) (Below.heap_alloc _ _ _ HKE.out.now.1.mp.lt)
 simp only [optC] at HKB hlk1
 obtain ⟨p0, p1, p2⟩ := HKB.out.now.1.c3
 clear ho hcc hl6 hown6 hlook hrow hwo
 go_wp2_with fail
 clear hlk1 p0 p1 p2
 obtain ⟨wB, hwB⟩ : ∃ z, (wr.alloc (.cells #[.int .i64 o.fr, .slice o.ga o.gs.length o.gc, .bool o.fin] 246)) = z := ⟨_, rfl⟩
 rw [hwB] at HKB ⊢
 obtain ⟨bx, hbx⟩ : ∃ z, wr.heap.size = z := ⟨_, rfl⟩
 rw [hbx] at HKB ⊢
 clear hwB hbx
 have HLT := Lh hlt
 clear hd0 hd1 hd2 hlt
 go_loopw [80] (fun iv wr => ∃ y : Nat, y ≤ row.length ∧ iv = .int .i64 y ∧ Hid (∀ x ∈ row.take y, ∀ j : Nat, x = j → q < j → ∀ b, opts[j]? = some b → ¬ ClashP o.L b.L) ∧
  Hid (St w0 wr (fun W => BoxC bx [.int .i64 o.fr, .slice o.ga o.gs.length o.gc, .bool o.fin] W ∧ (OptW o W ∧ IntsAt A6 row W) ∧ MapRw 3 1 intC (w.heap.size + 1) w3.heap.size (atF opts k) L W ∧ RowsAt 3 optC TrueR (some ⟨ob, off, none⟩) opts W ∧ F W))) (fun iv _ => row.length - (intOf iv).toNat)
 case atStart => exact ⟨0, Nat.zero_le _, rfl, Lh (fun x hx => by simp at hx), HKB⟩
 case round =>
 clear HKB HKO HKE HROWI
 obtain ⟨y, hy, rfl, HNY, HK5⟩ := hrel
 by_cases hly : y < row.length
 ·obtain ⟨rb, ro, x, rfl, hx, hxw, hcx⟩ := HK5.out.now.2.1.2.at_ hly
  have HXM := Lh hx
  have hxm : x ∈ atF opts k o.fr := by rw [HRW.out]; exact List.mem_of_getElem? hx
  obtain ⟨j, rfl, hjk, b, hb, hbf⟩ := atF_mem hxm
  have hqi : (q : Int) < (k : Int) := by have := HLT.out; omega
  have HBO := Lh (And.intro hb hbf)
  have HYL := Lh hly
  have hyr : (y : Int) < (row.length : Int) := by omega
  clear hx hxw hxm hb hbf hly
  by_cases hjq : q < j
  ·have hg : decide ((q : Int) < (j : Int)) = true := by simp; omega
   have hg2 : (q : Int) < (j : Int) := by omega
   obtain ⟨ob2, off2, b2, hA2, hb2, hcc2, _⟩ := HK5.out.now.2.2.2.1.at_ (fun _ => rfl) (j := j) (by rw [HM.out]; exact hjk)
   injection hA2 with hA2; injection hA2 with e1 e2
   subst e1; subst e2
   obtain rfl : b = b2 := by have h1 := HBO.out.1; rw [h1] at hb2; exact Option.some.inj hb2
   have hd0 := hcc2 0 _ rfl
   have hd1 := hcc2 1 _ rfl
   have hd2 := hcc2 2 _ rfl
   simp only [Nat.add_zero] at hd0
   obtain ⟨vc, HVC⟩ : ∃ vc, Hid (pB (ClashP o.L b.L) = vc) := ⟨_, rfl⟩
   have hwb := HOW.out _ HK5.out.now.2.2.2.2 b (List.mem_of_getElem? HBO.out.1)
   have HK6 := St.hdrewN (Lh (HK5.out.add (Below.refl _ _) (G := fun W => OptW b W ∧ W.cell? ⟨ob, off + j * 3, none⟩ = some (.int .i64 b.fr) ∧ W.cell? ⟨ob, off + j * 3 + 1, none⟩ = some (.slice b.ga b.gs.length b.gc) ∧ W.cell? ⟨ob, off + j * 3 + 2, none⟩ = some (.bool b.fin))
    (fun W hW => ⟨OptW.stays _ _ _ hwb hW, (hW.cell (p := ⟨ob, off + j * 3, none⟩) (lt_of_cell hd0)).trans hd0, (hW.cell (p := ⟨ob, off + j * 3 + 1, none⟩) (lt_of_cell hd1)).trans hd1, (hW.cell (p := ⟨ob, off + j * 3 + 2, none⟩) (lt_of_cell hd2)).trans hd2⟩))) 1
   have hjk2 : (j : Int) < (k : Int) := by omega
   clear hd0 hd1 hd2 hcc2 hb2 hwb
   go_wp2_with fail
   go_region_held3 (fun W => W.cell? ⟨ob, off + j * 3, none⟩ = some (.int .i64 b.fr) ∧ W.cell? ⟨ob, off + j * 3 + 1, none⟩ = some (.slice b.ga b.gs.length b.gc) ∧ W.cell? ⟨ob, off + j * 3 + 2, none⟩ = some (.bool b.fin) ∧ W.cell? ⟨bx, 0, none⟩ = some (.int .i64 o.fr) ∧ W.cell? ⟨bx, 1, none⟩ = some (.slice o.ga o.gs.length o.gc) ∧ W.cell? ⟨bx, 2, none⟩ = some (.bool o.fin))
    (first | exact ⟨HK7.out.now.1.2.1, HK7.out.now.1.2.2.1, HK7.out.now.1.2.2.2, HK7.out.now.2.1.c3.1, HK7.out.now.2.1.c3.2.1, HK7.out.now.2.1.c3.2.2⟩ | exact ⟨HK6.out.now.1.2.1, HK6.out.now.1.2.2.1, HK6.out.now.1.2.2.2, HK6.out.now.2.1.c3.1, HK6.out.now.2.1.c3.2.1, HK6.out.now.2.1.c3.2.2⟩ | go_keep)
    ((go_at_call 168; refine (clash_st HK6 o b (fun _ h => h.2.2.1.1) (fun _ h => h.1.1) vc HVC).mono ?_; rintro e7 w7 ⟨rfl, HK7⟩))
   rcases vc with _ | _
   ·have HN : Hid (∀ x ∈ row.take (y + 1), ∀ j : Nat, x = j → q < j → ∀ b, opts[j]? = some b → ¬ ClashP o.L b.L) := Lh fun x hx j' e hj' b' hb' => by
     rw [take_snoc? HXM.out] at hx
     rcases List.mem_append.1 hx with hx | hx
     ·exact HNY.out x hx j' e hj' b' hb'
     ·simp at hx; subst hx
      obtain rfl : j = j' := by omega
      obtain rfl : b = b' := by have h1 := HBO.out.1; rw [h1] at hb'; exact Option.some.inj hb'
      intro hc
      have := pB_true hc
      rw [HVC.out] at this; cases this
    go_wp2_with fail
    go_roundw
    case rel => exact ⟨y + 1, by have := HYL.out; omega, by go_num, HN, Lh (HK7.out.weaken fun W h => h.2)⟩
    case measure => have := HYL.out; simp [intOf]; omega
   ·obtain rfl := pB_t HV ⟨q, j, o.L, b.L, hjq, by rw [List.getElem?_map, HOX.out]; rfl, by rw [List.getElem?_map, HBO.out.1]; rfl, pB_iff.1 HVC.out⟩
    go_wp2_with fail
    go_ret3
    exact ⟨q, j, rfl, Lh (HK7.out.weaken fun W h => h.2.2.2.2.2)⟩
  ·have hg : decide ((q : Int) < (j : Int)) = false := by simp; omega
   have hg2 : ¬ (q : Int) < (j : Int) := by omega
   have HN : Hid (∀ x ∈ row.take (y + 1), ∀ j : Nat, x = j → q < j → ∀ b, opts[j]? = some b → ¬ ClashP o.L b.L) := Lh fun x hx j' e hj' b' hb' => by
    rw [take_snoc? HXM.out] at hx
    rcases List.mem_append.1 hx with hx | hx
    ·exact HNY.out x hx j' e hj' b' hb'
    ·simp at hx; subst hx; omega
   clear hjq
   go_wp2_with (go_quiet (fail))
   go_roundw
   case rel => exact ⟨y + 1, by have := HYL.out; omega, by go_num, HN, St.hdrewN HK5 _⟩
   case measure => have := HYL.out; simp [intOf]; omega
 ·obtain rfl : y = row.length := by omega
  have hd : decide (row.length < row.length) = false := by simp
  have HN : Hid (∀ (x y : Nat) (a b : OptI), x < q + 1 → x < y → opts[x]? = some a → opts[y]? = some b → ¬ ClashP a.L b.L) := Lh fun x y a b hx hxy ha hb hc => by
   by_cases e : x = q
   ·subst e
    obtain rfl : o = a := by have h1 := HOX.out; rw [h1] at ha; exact Option.some.inj ha
    have hyk : y < k := by have := (List.getElem?_eq_some_iff.1 hb).1; rw [HM.out] at this; exact this
    have hm := atF_has hyk hb
    rw [show b.fr = o.fr from hc.1.symm, HRW.out] at hm
    exact HNY.out (y : Int) (by rwa [List.take_length]) y rfl hxy b hb hc
   ·exact HNC.out x y a b (by omega) hxy ha hb hc
  clear HNY
  go_wp2_with fail
  go_roundw
  case rel => exact ⟨q + 1, by have := HLT.out; omega, by go_num, HN, Lh (HK5.out.weaken fun W h => h.2.2)⟩
  case measure => have := HLT.out; simp [intOf]; omega
theorem Sole_st (hK : Hid (St w0 w F)) (d : DescI) (hd : ∀ W, F W → DescW d W) (hok : Hid (DescOk d.L)) (v : Bool) (hv : Hid (pB (DClash d.L) = v)) (hst : StageD d) :
  Calls Tryz.prog 72 #[.agg #[.int .i64 d.i, .int .i64 d.o, .int .i64 d.n, .int .i64 d.s, .slice d.ra d.rs.length d.rc, .slice d.fa d.fs.length d.fc]] w (RetV w0 (.tuple #[.bool (!v), .int .i64 0]) F) := by
 have HK := St.box hK [.int .i64 d.i, .int .i64 d.o, .int .i64 d.n, .int .i64 d.s, .slice d.ra d.rs.length d.rc, .slice d.fa d.fs.length d.fc] 26
 have HD := Lh hd
 have hr4 : d.rs.length ≤ 4096 := by have := hok.out.head.2.2.2.2.2.1; rwa [show d.L.rules = d.rs.map RuleI.L from rfl, List.length_map] at this
 have hf4 : d.fs.length ≤ 4096 := by have := hok.out.head.2.2.2.2.2.2; rwa [show d.L.fins = d.fs.map FinI.L from rfl, List.length_map] at this
 have HOK := Lh (pB_true hok.out)
 obtain ⟨q0, q1, q2, q3, q4, q5⟩ := HK.out.now.1.c6
 clear hd
 go_enter Tryz.func72, Tryz.ntmps72
 go_wp2_with fail
 refine (dCheck_st HK d (fun _ h => HD.out _ h.2) true HOK hst).mono ?_
 intro e w1 hret
 rw [if_pos rfl] at hret
 obtain ⟨rfl, HK1⟩ := hret
 clear q0 q1 q2 q3 q4 q5
 obtain ⟨q0, q1, q2, q3, q4, q5⟩ := HK1.out.now.1.c6
 go_wp2_with fail
 refine (Clash_st HK1 d (fun _ h => HD.out _ h.2) hr4 hf4 v hv).mono ?_
 rintro e w2 ⟨x, y, rfl, HK2⟩
 go_wp2_with fail
 go_ret2
 exact ⟨rfl, Lh (HK2.out.weaken fun W h => h.2)⟩
end
end
end Go.Proofs.YtlmkokeapbleoaaGreat
