/- Contracts and plain laws that the proof leans on. Condition: as each theorem says. -/
import Derived.Test.YtlmkokeapbleoaaGreatV04
import Derived.Test.YtlmkokeapbleoaaGreatV11
import Derived.Test.YtlmkokeapbleoaaGreatV07
import Derived.Test.YtlmkokeapbleoaaGreatV08
import Derived.Lib.MinMax
import Derived.Test.YtlmkokeapbleoaaGreatV14
import Derived.Test.YtlmkokeapbleoaaGreatV01
import Derived.Deep.Slices
import Derived.OpenShut
import Derived.ChangeArms
import Derived.ChangeSame
set_option maxRecDepth 100000
set_option maxHeartbeats 64000000
set_option linter.unusedVariables false
set_option linter.unusedSimpArgs false
namespace Go.Proofs.YtlmkokeapbleoaaGreat
open Go.RowKit
section
def szG (gs : List (List Sp)) : Int := (gs.map fun g => min (g.length : Int) 4000).sum
def szT (ts : List TermL) : Int := (ts.map fun t => 1 + min (t.parts.length : Int) 4000).sum
def size6 (gs : List (List Sp)) (ts : List TermL) : Int := if 100 < gs.length ∨ 200 < ts.length then 4000 else 1 + szG gs + szT ts
theorem szG_next {gs : List (List Sp)} {k : Nat} {g : List Sp} (h : gs[k]? = some g) : szG (gs.take (k + 1)) = szG (gs.take k) + min (g.length : Int) 4000 := by
 unfold szG; rw [take_snoc? h, List.map_append, List.sum_append]; simp
theorem szT_next {ts : List TermL} {k : Nat} {t : TermL} (h : ts[k]? = some t) : szT (ts.take (k + 1)) = szT (ts.take k) + (1 + min (t.parts.length : Int) 4000) := by
 unfold szT; rw [take_snoc? h, List.map_append, List.sum_append]; simp
theorem szG_bd (gs : List (List Sp)) : 0 ≤ szG gs ∧ szG gs ≤ gs.length * 4000 := by
 unfold szG
 induction gs with
 | nil => simp
 | cons g gs ih => simp only [List.map_cons, List.sum_cons, List.length_cons]; omega
theorem szT_bd (ts : List TermL) : 0 ≤ szT ts ∧ szT ts ≤ ts.length * 4001 := by
 unfold szT
 induction ts with
 | nil => simp
 | cons g gs ih => simp only [List.map_cons, List.sum_cons, List.length_cons]; omega
theorem size6_bd (gs : List (List Sp)) (ts : List TermL) : 0 ≤ size6 gs ts ∧ size6 gs ts ≤ 1300000 := by
 unfold size6
 have h1 := szG_bd gs
 have h2 := szT_bd ts
 split
 ·omega
 ·omega
def szR (l : List RuleL) : Int := (l.map fun r => size6 r.gs r.out).sum
def szF (l : List FinL) : Int := (l.map fun r => size6 r.gs r.out).sum
theorem szR_next {l : List RuleL} {k : Nat} {r : RuleL} (h : l[k]? = some r) : szR (l.take (k + 1)) = szR (l.take k) + size6 r.gs r.out := by
 unfold szR; rw [take_snoc? h, List.map_append, List.sum_append]; simp
theorem szF_next {l : List FinL} {k : Nat} {r : FinL} (h : l[k]? = some r) : szF (l.take (k + 1)) = szF (l.take k) + size6 r.gs r.out := by
 unfold szF; rw [take_snoc? h, List.map_append, List.sum_append]; simp
theorem szR_bd (l : List RuleL) : 0 ≤ szR l ∧ szR l ≤ l.length * 1300000 := by
 unfold szR
 induction l with
 | nil => simp
 | cons g gs ih => have := size6_bd g.gs g.out; simp only [List.map_cons, List.sum_cons, List.length_cons]; omega
theorem szF_bd (l : List FinL) : 0 ≤ szF l ∧ szF l ≤ l.length * 1300000 := by
 unfold szF
 induction l with
 | nil => simp
 | cons g gs ih => have := size6_bd g.gs g.out; simp only [List.map_cons, List.sum_cons, List.length_cons]; omega
def SmallD (d : DescL) : Prop := d.rules.length ≤ 80 ∧ d.fins.length ≤ 80 ∧ szR d.rules + szF d.fins ≤ 1500
theorem mem_le_sum {α : Type} {f : α → Int} (h : ∀ x, 0 ≤ f x) {l : List α} {x : α} (hx : x ∈ l) : f x ≤ (l.map f).sum := by
 induction l with
 | nil => cases hx
 | cons y l ih =>
  have h0 : 0 ≤ (l.map f).sum := by
   clear ih hx
   induction l with
   | nil => simp
   | cons z l ih => have := h z; simp only [List.map_cons, List.sum_cons]; omega
  simp only [List.map_cons, List.sum_cons]
  rcases List.mem_cons.1 hx with rfl | hx
  ·omega
  ·have := ih hx; have := h y; omega
theorem size6_small {gs : List (List Sp)} {ts : List TermL} (h : size6 gs ts ≤ 1500) : gs.length ≤ 100 ∧ ts.length ≤ 200 ∧ (∀ g ∈ gs, g.length ≤ 1500) ∧ ∀ t ∈ ts, t.parts.length ≤ 1500 := by
 unfold size6 at h
 split at h
 ·omega
 ·rename_i hn
  have h1 := szG_bd gs
  have h2 := szT_bd ts
  refine ⟨by omega, by omega, fun g hg => ?_, fun t ht => ?_⟩
  ·have h3 := mem_le_sum (f := fun g : List Sp => min (g.length : Int) 4000) (fun g => by omega) hg
   unfold szG at h h1
   (try simp only at h3)
   omega
  ·have h3 := mem_le_sum (f := fun t : TermL => 1 + min (t.parts.length : Int) 4000) (fun g => by omega) ht
   unfold szT at h h2
   (try simp only at h3)
   omega
theorem smallD_rule {d : DescL} (h : SmallD d) {r : RuleL} (hr : r ∈ d.rules) : size6 r.gs r.out ≤ 1500 := by
 have h1 := mem_le_sum (f := fun r : RuleL => size6 r.gs r.out) (fun r => (size6_bd _ _).1) hr
 have h2 := (szF_bd d.fins).1
 have h3 := h.2.2
 unfold szR at h3
 (try simp only at h1)
 omega
theorem smallD_fin {d : DescL} (h : SmallD d) {r : FinL} (hr : r ∈ d.fins) : size6 r.gs r.out ≤ 1500 := by
 have h1 := mem_le_sum (f := fun r : FinL => size6 r.gs r.out) (fun r => (size6_bd _ _).1) hr
 have h2 := (szR_bd d.rules).1
 have h3 := h.2.2
 unfold szF at h3
 (try simp only at h1)
 omega
section
variable {w0 w : World} {F : World → Prop} {R : Option Addr → List Sp → World → Prop}
theorem size6_st (hK : Hid (St w0 w F)) {B : Option Addr} {O : List (Item Sp)} (hb : ∀ W, F W → LLr R B O W) (cb : Nat) {TA : Option Addr} {T : List TermI} (ht : ∀ W, F W → TermsAt TA T W) (tc : Nat) (z : Int) (hz : Hid (size6 (bodies O) (T.map TermI.L) = z)) :
  Calls Tryz.prog 69 #[.slice B O.length cb, .slice TA T.length tc] w (RetV w0 (.int .i64 z) F) := by
 have HB := Lh (hb _ hK.out.now)
 have HT := Lh (ht _ hK.out.now)
 have hO := HB.out.2
 have hT := HT.out.ln
 have hbl : (bodies O).length = O.length := bodies_length O
 have htl : (T.map TermI.L).length = T.length := List.length_map ..
 clear hb ht
 by_cases h1 : 100 < O.length
 ·obtain rfl : (4000 : Int) = z := by rw [← hz.out]; unfold size6; rw [if_pos (.inl (by rw [hbl]; exact h1))]
  have h1' : (100 : Int) < (O.length : Int) := by omega
  clear hbl htl
  go_enter Tryz.func69, Tryz.ntmps69
  go_wp2_with fail
  go_ret
  exact ⟨rfl, hK⟩
 by_cases h2 : 200 < T.length
 ·obtain rfl : (4000 : Int) = z := by rw [← hz.out]; unfold size6; rw [if_pos (.inr (by rw [htl]; exact h2))]
  have h1' : ¬ (100 : Int) < (O.length : Int) := by omega
  have h2' : (200 : Int) < (T.length : Int) := by omega
  clear hbl htl
  go_enter Tryz.func69, Tryz.ntmps69
  go_wp2_with fail
  go_ret
  exact ⟨rfl, hK⟩
 have HZ : Hid (1 + szG (bodies O) + szT (T.map TermI.L) = z) := Lh (by rw [← hz.out]; unfold size6; rw [if_neg (by rw [hbl, htl]; omega)])
 have h1' : ¬ (100 : Int) < (O.length : Int) := by omega
 have h2' : ¬ (200 : Int) < (T.length : Int) := by omega
 have HBL := Lh hbl
 have HTL := Lh htl
 clear hbl htl
 go_enter Tryz.func69, Tryz.ntmps69
 go_wp2_with fail
 go_loopw [5, 6] (fun nv iv wr => ∃ k : Nat, k ≤ O.length ∧ iv = .int .i64 k ∧ nv = .int .i64 (1 + szG ((bodies O).take k)) ∧ w = wr) (fun _ iv _ => O.length - (intOf iv).toNat)
 case atStart => exact ⟨0, Nat.zero_le _, rfl, by simp [szG], rfl⟩
 case round =>
 obtain ⟨k, hk, rfl, rfl, rfl⟩ := hrel
 have hsb := szG_bd ((bodies O).take k)
 have hsl : ((bodies O).take k).length ≤ 100 := by rw [List.length_take]; have := HBL.out; omega
 by_cases hlt : k < O.length
 ·obtain ⟨gb, off, ga, gc, g, rfl, _, hg, hc, _⟩ := HB.out.at_ hlt
  have HN := Lh (szG_next hg)
  obtain ⟨s, hs⟩ : ∃ s, szG ((bodies O).take k) = s := ⟨_, rfl⟩
  rw [hs] at hsb HN ⊢
  obtain ⟨m, hm⟩ : ∃ m, min (g.length : Int) 4000 = m := ⟨_, rfl⟩
  have hmb : 0 ≤ m ∧ m ≤ 4000 := by omega
  have HM := Lh hm
  rw [hm] at HN
  have hs4 : 0 ≤ s ∧ s ≤ 400000 := by omega
  clear hg hs hsb hsl
  go_wp2_with fail
  go_round
  case rel => exact ⟨k + 1, by omega, by go_num, by rw [HN.out]; first | rfl | (congr 1; omega), by first | rfl | trivial⟩
  case measure => simp [intOf]; omega
 obtain rfl : k = O.length := by omega
 have hd : decide (O.length < O.length) = false := by simp
 have htk : (bodies O).take O.length = bodies O := List.take_of_length_le (by rw [HBL.out]; exact Nat.le_refl _)
 rw [htk] at hsb hsl ⊢
 obtain ⟨s, hs⟩ : ∃ s, szG (bodies O) = s := ⟨_, rfl⟩
 rw [hs] at hsb HZ ⊢
 have hs4 : 0 ≤ s ∧ s ≤ 400000 := by omega
 clear hs hsb hsl htk hlt
 go_wp2_with fail
 clear hd
 go_loopw [5, 7] (fun nv iv wr => ∃ k : Nat, k ≤ T.length ∧ iv = .int .i64 k ∧ nv = .int .i64 (1 + s + szT ((T.map TermI.L).take k)) ∧ w = wr) (fun _ iv _ => T.length - (intOf iv).toNat)
 case atStart => exact ⟨0, Nat.zero_le _, rfl, by simp [szT], rfl⟩
 case round =>
 obtain ⟨k, hk, rfl, rfl, rfl⟩ := hrel
 have hsb := szT_bd ((T.map TermI.L).take k)
 have hsl : ((T.map TermI.L).take k).length ≤ 200 := by rw [List.length_take]; have := HTL.out; omega
 by_cases hlt : k < T.length
 ·obtain ⟨tb, off, t, rfl, hx, _, _, _, _, _, _, hd5⟩ := HT.out.at_ hlt
  have hx2 : (T.map TermI.L)[k]? = some t.L := by rw [List.getElem?_map, hx]; rfl
  have HN := Lh (szT_next hx2)
  obtain ⟨q, hq⟩ : ∃ q, szT ((T.map TermI.L).take k) = q := ⟨_, rfl⟩
  rw [hq] at hsb HN ⊢
  have hpl : t.L.parts.length = t.ps.length := rfl
  obtain ⟨m, hm⟩ : ∃ m, min (t.ps.length : Int) 4000 = m := ⟨_, rfl⟩
  have hmb : 0 ≤ m ∧ m ≤ 4000 := by omega
  rw [hpl, hm] at HN
  have hq4 : 0 ≤ q ∧ q ≤ 1000000 := by omega
  clear hx hx2 hq hsb hsl hpl
  go_wp2_with fail
  go_round
  case rel => exact ⟨k + 1, by omega, by go_num, by rw [HN.out]; congr 1; omega, by first | rfl | trivial⟩
  case measure => simp [intOf]; omega
 obtain rfl : k = T.length := by omega
 have hd : decide (T.length < T.length) = false := by simp
 have htk : (T.map TermI.L).take T.length = T.map TermI.L := List.take_of_length_le (by rw [HTL.out]; exact Nat.le_refl _)
 rw [htk] at hsb hsl ⊢
 rw [HZ.out]
 clear hsb hsl htk hlt
 go_wp2_with fail
 go_ret
 exact ⟨rfl, hK⟩
theorem small6_st (hK : Hid (St w0 w F)) (d : DescI) (hd : ∀ W, F W → DescR R d W) (hRl : Lasts R) (v : Bool) (hv : Hid (pB (SmallD d.L) = v)) :
  Calls Tryz.prog 26 #[.agg #[.int .i64 d.i, .int .i64 d.o, .int .i64 d.n, .int .i64 d.s, .slice d.ra d.rs.length d.rc, .slice d.fa d.fs.length d.fc]] w (RetV w0 (.bool v) F) := by
 have HRU : Hid (∀ W, F W → RulesAt R d.ra d.rs W) := Lh fun W h => (hd W h).rules
 have HFI : Hid (∀ W, F W → FinsAt R d.fa d.fs W) := Lh fun W h => (hd W h).fins
 have hln := (hd _ hK.out.now).rules.ln
 have hlf := (hd _ hK.out.now).fins.ln
 have HV : Hid (pB (d.rs.length ≤ 80 ∧ d.fs.length ≤ 80 ∧ szR (d.rs.map RuleI.L) + szF (d.fs.map FinI.L) ≤ 1500) = v) := Lh (by
  rw [← hv.out]
  refine pB_congr ?_
  unfold SmallD
  rw [show d.L.rules = d.rs.map RuleI.L from rfl, show d.L.fins = d.fs.map FinI.L from rfl, List.length_map, List.length_map])
 clear hd hv
 obtain ⟨i, o, n, s, ra, rc, rs, fa, fc, fs⟩ := d
 simp only at HRU HFI hln hlf HV ⊢
 have HK := St.box hK [.int .i64 i, .int .i64 o, .int .i64 n, .int .i64 s, .slice ra rs.length rc, .slice fa fs.length fc] 26
 obtain ⟨q0, q1, q2, q3, q4, q5⟩ := HK.out.now.1.c6
 by_cases h1 : rs.length ≤ 80
 case neg =>
  obtain rfl := pB_f HV (fun h => h1 h.1)
  have h1' : (80 : Int) < (rs.length : Int) := by omega
  go_enter Tryz.func26, Tryz.ntmps26
  go_wp2_with fail
  go_ret
  exact ⟨rfl, Lh (HK.out.weaken fun _ h => h.2)⟩
 have h1' : ¬ (80 : Int) < (rs.length : Int) := by omega
 by_cases h2 : fs.length ≤ 80
 case neg =>
  obtain rfl := pB_f HV (fun h => h2 h.2.1)
  have h2' : (80 : Int) < (fs.length : Int) := by omega
  go_enter Tryz.func26, Tryz.ntmps26
  go_wp2_with fail
  go_ret
  exact ⟨rfl, Lh (HK.out.weaken fun _ h => h.2)⟩
 have h2' : ¬ (80 : Int) < (fs.length : Int) := by omega
 have HV2 : Hid (pB (szR (rs.map RuleI.L) + szF (fs.map FinI.L) ≤ 1500) = v) := Lh (by
  rw [← HV.out]; exact pB_congr ⟨fun h => ⟨h1, h2, h⟩, fun h => h.2.2⟩)
 go_enter Tryz.func26, Tryz.ntmps26
 go_wp2_with fail
 clear q0 q1 q2 q3 q4 q5
 go_loopw [3, 4] (fun nv iv wr => ∃ k : Nat, k ≤ rs.length ∧ iv = .int .i64 k ∧ nv = .int .i64 (szR ((rs.map RuleI.L).take k)) ∧ Hid (St w0 wr (fun W => BoxC w.heap.size [.int .i64 i, .int .i64 o, .int .i64 n, .int .i64 s, .slice ra rs.length rc, .slice fa fs.length fc] W ∧ F W))) (fun _ iv _ => rs.length - (intOf iv).toNat)
 case atStart => exact ⟨0, Nat.zero_le _, rfl, by simp [szR], HK⟩
 case round =>
 clear HK
 obtain ⟨k, hk, rfl, rfl, HK⟩ := hrel
 have q4 := HK.out.now.1 4 _ rfl
 have hsb := szR_bd ((rs.map RuleI.L).take k)
 have hsl : ((rs.map RuleI.L).take k).length ≤ 80 := by rw [List.length_take, List.length_map]; omega
 by_cases hlt : k < rs.length
 ·obtain ⟨rb, off, r, hA, hx, hw, hd0, hd1, hd2, hd3, hd4⟩ := (HRU.out _ HK.out.now.2).at_ hlt
  have hx2 : (rs.map RuleI.L)[k]? = some r.L := by rw [List.getElem?_map, hx]; rfl
  have HN := Lh (szR_next hx2)
  obtain ⟨q, hq⟩ : ∃ q, szR ((rs.map RuleI.L).take k) = q := ⟨_, rfl⟩
  rw [hq] at hsb HN ⊢
  obtain ⟨z, hz⟩ : ∃ z, Hid (size6 (bodies r.gs) (r.o.l.map TermI.L) = z) := ⟨_, rfl⟩
  have hzb := size6_bd (bodies r.gs) (r.o.l.map TermI.L)
  rw [hz.out] at hzb
  have HN2 : Hid (szR ((rs.map RuleI.L).take (k + 1)) = q + z) := Lh (by rw [HN.out, ← hz.out]; rfl)
  have hq4 : 0 ≤ q ∧ q ≤ 200000000 := by omega
  have HKr := Lh (HK.out.add (Below.refl _ _) (G := RuleR R r) (fun W hW => hw.below hRl hW))
  have hki : (k : Int) < (rs.length : Int) := by omega
  subst hA
  clear hx hx2 hw hq hsb hsl HN
  go_wp2_with fail
  have HKd := St.hdrewN HKr 1
  refine wp_region_Z 15 (by kernel_rfl) (fun W => (W.cell? ⟨w.heap.size, 4, none⟩ = some (.slice (some ⟨rb, off, none⟩) rs.length rc)) ∧ W.cell? ⟨rb, off + k * 5 + 2, none⟩ = some (.slice r.ga r.gs.length r.gc) ∧ W.cell? ⟨rb, off + k * 5 + 4, none⟩ = some (.slice r.o.a r.o.l.length r.o.c)) ⟨q4, hd2, hd4⟩ (fun hHeld => ?_)
  refine zt (v := ?_) 0 rfl ?_ ?_
  rotate_left
  ·intro w hSw; (try dsimp only at hSw); go_simp; (try with_reducible rfl)
  (try simp only [Act.put, zq1, zq2, zq3, zq4, zq5, zq6])
  refine zt (v := ?_) 1 rfl ?_ ?_
  rotate_left
  ·intro w hSw; (try dsimp only at hSw); go_simp; (try with_reducible rfl)
  (try simp only [Act.put, zq1, zq2, zq3, zq4, zq5, zq6])
  refine zt (v := ?_) 2 rfl ?_ ?_
  rotate_left
  ·intro w hSw; (try dsimp only at hSw); go_simp; (try with_reducible rfl)
  (try simp only [Act.put, zq1, zq2, zq3, zq4, zq5, zq6])
  refine zt (v := ?_) 3 rfl ?_ ?_
  rotate_left
  ·intro w hSw; (try dsimp only at hSw); go_simp; (try with_reducible rfl)
  (try simp only [Act.put, zq1, zq2, zq3, zq4, zq5, zq6])
  refine zt (v := ?_) 4 rfl ?_ ?_
  rotate_left
  ·intro w hSw; (try dsimp only at hSw); go_simp; (try with_reducible rfl)
  (try simp only [Act.put, zq1, zq2, zq3, zq4, zq5, zq6])
  refine zt (v := ?_) 5 rfl ?_ ?_
  rotate_left
  ·intro w hSw; (try dsimp only at hSw); go_simp; (try with_reducible rfl)
  (try simp only [Act.put, zq1, zq2, zq3, zq4, zq5, zq6])
  refine zt (v := ?_) 6 rfl ?_ ?_
  rotate_left
  ·intro w hSw; (try dsimp only at hSw); go_simp; (try with_reducible rfl)
  (try simp only [Act.put, zq1, zq2, zq3, zq4, zq5, zq6])
  refine zt (v := ?_) 7 rfl ?_ ?_
  rotate_left
  ·intro w hSw; (try dsimp only at hSw); go_simp; (try with_reducible rfl)
  (try simp only [Act.put, zq1, zq2, zq3, zq4, zq5, zq6])
  refine zt (v := ?_) 8 rfl ?_ ?_
  rotate_left
  ·intro w hSw; (try dsimp only at hSw); go_simp; (try with_reducible rfl)
  (try simp only [Act.put, zq1, zq2, zq3, zq4, zq5, zq6])
  refine zt (v := ?_) 9 rfl ?_ ?_
  rotate_left
  ·intro w hSw; (try dsimp only at hSw); go_simp; (try with_reducible rfl)
  (try simp only [Act.put, zq1, zq2, zq3, zq4, zq5, zq6])
  refine zt (v := ?_) 10 rfl ?_ ?_
  rotate_left
  ·intro w hSw; (try dsimp only at hSw); go_simp; (try with_reducible rfl)
  (try simp only [Act.put, zq1, zq2, zq3, zq4, zq5, zq6])
  refine zt (v := ?_) 11 rfl ?_ ?_
  rotate_left
  ·intro w hSw; (try dsimp only at hSw); go_simp; (try with_reducible rfl)
  (try simp only [Act.put, zq1, zq2, zq3, zq4, zq5, zq6])
  refine zt (v := ?_) 12 rfl ?_ ?_
  rotate_left
  ·intro w hSw; (try dsimp only at hSw); go_simp; (try with_reducible rfl)
  (try simp only [Act.put, zq1, zq2, zq3, zq4, zq5, zq6])
  refine zr 13 rfl fun K hK => ?_
  go_simp
  refine (size6_st (St.here HKd) (fun _ h => h.1.2.1) r.gc (fun _ h => h.1.2.2) r.o.c z hz).mono ?_
  rintro e w7 ⟨rfl, HK7⟩
  have hb7 : Below wr.heap.size wr w7 := below_to (below_drewN (Below.refl _ _) 1) HK7.out.2
  have HKN := Lh (HK.out.step hb7)
  refine hK.out _ _ (⟨(hb7.cell (lt_of_cell q4)).trans q4, (hb7.cell (lt_of_cell hd2)).trans hd2, (hb7.cell (lt_of_cell hd4)).trans hd4⟩) (fun hHeld => ?_)
  clear hK K
  (try simp only [Act.put, zq1, zq2, zq3, zq4, zq5, zq6])
  refine zt (v := ?_) 14 rfl ?_ ?_
  rotate_left
  ·intro w hSw; (try dsimp only at hSw); go_simp; (try with_reducible rfl)
  (try simp only [Act.put, zq1, zq2, zq3, zq4, zq5, zq6])
  refine wpAnyZ_last (i := 15) rfl (by kernel_rfl) (by kernel_rfl) rfl (fun K hK => ?_)
  go_simp
  refine hK.out _ _ ?_
  clear hHeld hK K hb7 hd0 hd1 hd2 hd3 hd4 q4
  (try simp only [Act.put, zq1, zq2, zq3, zq4, zq5, zq6])
  go_wp2_with fail
  go_roundw
  case rel => exact ⟨k + 1, by omega, by go_num, by rw [HN2.out]; exact congrArg (Value.int .i64) (IntWalk.i64_in _ (by show _ ∧ _; omega)), HKN⟩
  case measure => simp [intOf]; omega
 obtain rfl : k = rs.length := by omega
 have hd : decide (rs.length < rs.length) = false := by simp
 have htk : (rs.map RuleI.L).take rs.length = rs.map RuleI.L := List.take_of_length_le (by rw [List.length_map]; exact Nat.le_refl _)
 rw [htk] at hsb hsl ⊢
 obtain ⟨sr, hsr⟩ : ∃ q, szR (rs.map RuleI.L) = q := ⟨_, rfl⟩
 rw [hsr] at hsb HV2 ⊢
 have hsr4 : 0 ≤ sr ∧ sr ≤ 200000000 := by omega
 clear hsr hsb hsl htk hlt
 go_wp2_with fail
 clear hd q4
 go_loopw [3, 5] (fun nv iv wr => ∃ k : Nat, k ≤ fs.length ∧ iv = .int .i64 k ∧ nv = .int .i64 (sr + szF ((fs.map FinI.L).take k)) ∧ Hid (St w0 wr (fun W => BoxC w.heap.size [.int .i64 i, .int .i64 o, .int .i64 n, .int .i64 s, .slice ra rs.length rc, .slice fa fs.length fc] W ∧ F W))) (fun _ iv _ => fs.length - (intOf iv).toNat)
 case atStart => exact ⟨0, Nat.zero_le _, rfl, by simp [szF], HK⟩
 case round =>
 clear HK
 obtain ⟨k, hk, rfl, rfl, HK⟩ := hrel
 have q5 := HK.out.now.1 5 _ rfl
 have hsb := szF_bd ((fs.map FinI.L).take k)
 have hsl : ((fs.map FinI.L).take k).length ≤ 80 := by rw [List.length_take, List.length_map]; omega
 by_cases hlt : k < fs.length
 ·obtain ⟨rb, off, r, hA, hx, hw, hd0, hd1, hd2⟩ := (HFI.out _ HK.out.now.2).at_ hlt
  have hx2 : (fs.map FinI.L)[k]? = some r.L := by rw [List.getElem?_map, hx]; rfl
  have HN := Lh (szF_next hx2)
  obtain ⟨q, hq⟩ : ∃ q, szF ((fs.map FinI.L).take k) = q := ⟨_, rfl⟩
  rw [hq] at hsb HN ⊢
  obtain ⟨z, hz⟩ : ∃ z, Hid (size6 (bodies r.gs) (r.o.l.map TermI.L) = z) := ⟨_, rfl⟩
  have hzb := size6_bd (bodies r.gs) (r.o.l.map TermI.L)
  rw [hz.out] at hzb
  have HN2 : Hid (szF ((fs.map FinI.L).take (k + 1)) = q + z) := Lh (by rw [HN.out, ← hz.out]; rfl)
  have hq4 : 0 ≤ q ∧ q ≤ 200000000 := by omega
  have HKr := Lh (HK.out.add (Below.refl _ _) (G := FinR R r) (fun W hW => hw.below hRl hW))
  have hki : (k : Int) < (fs.length : Int) := by omega
  subst hA
  clear hx hx2 hw hq hsb hsl HN
  go_wp2_with fail
  have HKd := St.hdrewN HKr 1
  refine wp_region_Z 15 (by kernel_rfl) (fun W => (W.cell? ⟨w.heap.size, 5, none⟩ = some (.slice (some ⟨rb, off, none⟩) fs.length fc)) ∧ W.cell? ⟨rb, off + k * 3 + 1, none⟩ = some (.slice r.ga r.gs.length r.gc) ∧ W.cell? ⟨rb, off + k * 3 + 2, none⟩ = some (.slice r.o.a r.o.l.length r.o.c)) ⟨q5, hd1, hd2⟩ (fun hHeld => ?_)
  refine zt (v := ?_) 0 rfl ?_ ?_
  rotate_left
  ·intro w hSw; (try dsimp only at hSw); go_simp; (try with_reducible rfl)
  (try simp only [Act.put, zq1, zq2, zq3, zq4, zq5, zq6])
  refine zt (v := ?_) 1 rfl ?_ ?_
  rotate_left
  ·intro w hSw; (try dsimp only at hSw); go_simp; (try with_reducible rfl)
  (try simp only [Act.put, zq1, zq2, zq3, zq4, zq5, zq6])
  refine zt (v := ?_) 2 rfl ?_ ?_
  rotate_left
  ·intro w hSw; (try dsimp only at hSw); go_simp; (try with_reducible rfl)
  (try simp only [Act.put, zq1, zq2, zq3, zq4, zq5, zq6])
  refine zt (v := ?_) 3 rfl ?_ ?_
  rotate_left
  ·intro w hSw; (try dsimp only at hSw); go_simp; (try with_reducible rfl)
  (try simp only [Act.put, zq1, zq2, zq3, zq4, zq5, zq6])
  refine zt (v := ?_) 4 rfl ?_ ?_
  rotate_left
  ·intro w hSw; (try dsimp only at hSw); go_simp; (try with_reducible rfl)
  (try simp only [Act.put, zq1, zq2, zq3, zq4, zq5, zq6])
  refine zt (v := ?_) 5 rfl ?_ ?_
  rotate_left
  ·intro w hSw; (try dsimp only at hSw); go_simp; (try with_reducible rfl)
  (try simp only [Act.put, zq1, zq2, zq3, zq4, zq5, zq6])
  refine zt (v := ?_) 6 rfl ?_ ?_
  rotate_left
  ·intro w hSw; (try dsimp only at hSw); go_simp; (try with_reducible rfl)
  (try simp only [Act.put, zq1, zq2, zq3, zq4, zq5, zq6])
  refine zt (v := ?_) 7 rfl ?_ ?_
  rotate_left
  ·intro w hSw; (try dsimp only at hSw); go_simp; (try with_reducible rfl)
  (try simp only [Act.put, zq1, zq2, zq3, zq4, zq5, zq6])
  refine zt (v := ?_) 8 rfl ?_ ?_
  rotate_left
  ·intro w hSw; (try dsimp only at hSw); go_simp; (try with_reducible rfl)
  (try simp only [Act.put, zq1, zq2, zq3, zq4, zq5, zq6])
  refine zt (v := ?_) 9 rfl ?_ ?_
  rotate_left
  ·intro w hSw; (try dsimp only at hSw); go_simp; (try with_reducible rfl)
  (try simp only [Act.put, zq1, zq2, zq3, zq4, zq5, zq6])
  refine zt (v := ?_) 10 rfl ?_ ?_
  rotate_left
  ·intro w hSw; (try dsimp only at hSw); go_simp; (try with_reducible rfl)
  (try simp only [Act.put, zq1, zq2, zq3, zq4, zq5, zq6])
  refine zt (v := ?_) 11 rfl ?_ ?_
  rotate_left
  ·intro w hSw; (try dsimp only at hSw); go_simp; (try with_reducible rfl)
  (try simp only [Act.put, zq1, zq2, zq3, zq4, zq5, zq6])
  refine zt (v := ?_) 12 rfl ?_ ?_
  rotate_left
  ·intro w hSw; (try dsimp only at hSw); go_simp; (try with_reducible rfl)
  (try simp only [Act.put, zq1, zq2, zq3, zq4, zq5, zq6])
  refine zr 13 rfl fun K hK => ?_
  go_simp
  refine (size6_st (St.here HKd) (fun _ h => h.1.2.1) r.gc (fun _ h => h.1.2.2) r.o.c z hz).mono ?_
  rintro e w7 ⟨rfl, HK7⟩
  have hb7 : Below wr.heap.size wr w7 := below_to (below_drewN (Below.refl _ _) 1) HK7.out.2
  have HKN := Lh (HK.out.step hb7)
  refine hK.out _ _ (⟨(hb7.cell (lt_of_cell q5)).trans q5, (hb7.cell (lt_of_cell hd1)).trans hd1, (hb7.cell (lt_of_cell hd2)).trans hd2⟩) (fun hHeld => ?_)
  clear hK K
  (try simp only [Act.put, zq1, zq2, zq3, zq4, zq5, zq6])
  refine zt (v := ?_) 14 rfl ?_ ?_
  rotate_left
  ·intro w hSw; (try dsimp only at hSw); go_simp; (try with_reducible rfl)
  (try simp only [Act.put, zq1, zq2, zq3, zq4, zq5, zq6])
  refine wpAnyZ_last (i := 15) rfl (by kernel_rfl) (by kernel_rfl) rfl (fun K hK => ?_)
  go_simp
  refine hK.out _ _ ?_
  clear hHeld hK K hb7 hd0 hd1 hd2 q5
  (try simp only [Act.put, zq1, zq2, zq3, zq4, zq5, zq6])
  go_wp2_with fail
  go_roundw
  case rel => exact ⟨k + 1, by omega, by go_num, by rw [HN2.out, ← Int.add_assoc]; exact congrArg (Value.int .i64) (IntWalk.i64_in _ (by show _ ∧ _; omega)), HKN⟩
  case measure => simp [intOf]; omega
 obtain rfl : k = fs.length := by omega
 have hd : decide (fs.length < fs.length) = false := by simp
 have htk : (fs.map FinI.L).take fs.length = fs.map FinI.L := List.take_of_length_le (by rw [List.length_map]; exact Nat.le_refl _)
 rw [htk] at hsb hsl ⊢
 obtain ⟨sf, hsf⟩ : ∃ q, szF (fs.map FinI.L) = q := ⟨_, rfl⟩
 rw [hsf] at hsb HV2 ⊢
 have hsf4 : 0 ≤ sf ∧ sf ≤ 200000000 := by omega
 clear hsf hsb hsl htk hlt
 by_cases hle : sr + sf ≤ 1500
 ·obtain rfl := pB_t HV2 hle
  go_wp2_with fail
  go_ret
  exact ⟨by first | rfl | simp [hle], Lh (HK.out.weaken fun _ h => h.2)⟩
 ·obtain rfl := pB_f HV2 hle
  have hle2 : decide (sr + sf ≤ 1500) = false := by simpa using hle
  go_wp2_with fail
  go_ret
  exact ⟨by first | rfl | simp [hle], Lh (HK.out.weaken fun _ h => h.2)⟩
theorem SmallD.lst {d : DescI} (h : SmallD d.L) {W : World} (hd : DescR SpI d W) : DescW d W := by
 have cv : ∀ {A : Option Addr} {O : List (Item Sp)}, LLr SpI A O W → (∀ g ∈ bodies O, g.length ≤ 1500) → LLr Lst A O W := fun hO hb => ⟨⟨hO.1.1, fun it hit => by
  have h1 := hO.1.2 it hit
  have h2 := hb it.2.2 (List.mem_map.2 ⟨it, hit, rfl⟩)
  exact ⟨h1.1, h1.2.1, by omega⟩⟩, hO.2⟩
 refine ⟨hd.nums, ⟨hd.rules.sl, fun r hr => ?_, hd.rules.ln⟩, ⟨hd.fins.sl, fun r hr => ?_, hd.fins.ln⟩⟩
 ·have h1 := hd.rules.it r hr
  exact ⟨h1.1, cv h1.2.1 (size6_small (smallD_rule h (r := r.L) (List.mem_map.2 ⟨r, hr, rfl⟩))).2.2.1, h1.2.2⟩
 ·have h1 := hd.fins.it r hr
  exact ⟨h1.1, cv h1.2.1 (size6_small (smallD_fin h (r := r.L) (List.mem_map.2 ⟨r, hr, rfl⟩))).2.2.1, h1.2.2⟩
end
end
def Wild (W W' : World) : Prop := ∀ (a : Addr) (v : Value), W.cell? a = some v → W'.cell? a = some v ∨ ∃ y z, v = .int .i64 y ∧ W'.cell? a = some (.int .i64 z) ∧ I64 z
theorem Wild.refl (W : World) : Wild W W := fun _ _ h => .inl h
theorem Wild.trans {A B C : World} (h : Wild A B) (k : Wild B C) : Wild A C := fun a v hv => by
 rcases h a v hv with h1 | ⟨y, z, rfl, h2, h3⟩
 ·exact k a v h1
 ·rcases k a _ h2 with h4 | ⟨y', z', _, h5, h6⟩
  ·exact .inr ⟨y, z, rfl, h4, h3⟩
  ·exact .inr ⟨y, z', rfl, h5, h6⟩
theorem Wild.set {W : World} {p : Addr} {y z : Int} (h : W.cell? p = some (.int .i64 y)) (hz : I64 z) : Wild W (W.setCell p (.int .i64 z)) := fun a v hv => by
 by_cases e : a = p
 ·subst e
  rw [h] at hv; injection hv with hv; subst hv
  exact .inr ⟨y, z, rfl, World.cell?_setCell_same _ _ _ h, hz⟩
 ·left
  rw [World.cell?_setCell_other _ _ _ _ (fun h => e h.symm)]; exact hv
def WildC (cs cs' : List Value) : Prop := ∀ (j : Nat) v, cs[j]? = some v → cs'[j]? = some v ∨ ∃ y z, v = .int .i64 y ∧ cs'[j]? = some (.int .i64 z) ∧ I64 z
theorem WildC.int {cs cs' : List Value} (h : WildC cs cs') {j : Nat} {x : Int} (hj : cs[j]? = some (.int .i64 x)) (hx : I64 x) : ∃ z, cs'[j]? = some (.int .i64 z) ∧ I64 z := by
 rcases h j _ hj with h1 | ⟨y, z, _, h2, h3⟩
 ·exact ⟨x, h1, hx⟩
 ·exact ⟨z, h2, h3⟩
theorem WildC.sl {cs cs' : List Value} (h : WildC cs cs') {j : Nat} {A : Option Addr} {n c : Nat} (hj : cs[j]? = some (.slice A n c)) : cs'[j]? = some (.slice A n c) := by
 rcases h j _ hj with h1 | ⟨y, z, e, _⟩
 ·exact h1
 ·cases e
theorem rows_of {W : World} {α : Type} {size : Nat} {f : α → List Value} {R : α → World → Prop} (hs : 0 < size) (hf : ∀ a, (f a).length = size) {g off : Nat} {L : List α} (hl : L.length ≤ 9223372036854775807)
  (hc : ∀ (k : Nat) x, L[k]? = some x → ∀ (j : Nat) u, (f x)[j]? = some u → W.cell? ⟨g, off + k * size + j, none⟩ = some u) (hR : ∀ x ∈ L, R x W) : RowsAt size f R (some ⟨g, off, none⟩) L W := by
 have hlen : ∀ l : List α, (l.flatMap f).length = l.length * size := by
  intro l; induction l with
  | nil => simp
  | cons y l ih => rw [List.flatMap_cons, List.length_append, ih, hf, List.length_cons, Nat.succ_mul]; omega
 refine ⟨⟨hlen L, fun _ => ⟨g, off, rfl, fun j u hu => ?_⟩⟩, hR, hl⟩
 have hjl : j < L.length * size := by have := (List.getElem?_eq_some_iff.1 hu).1; rwa [hlen] at this
 have hdm := Nat.div_add_mod j size
 have hdl : j / size < L.length := (Nat.div_lt_iff_lt_mul hs).2 hjl
 have hmod := Nat.mod_lt j hs
 have hx := List.getElem?_eq_getElem hdl
 obtain ⟨u', hu'⟩ : ∃ u', (f L[j / size])[j % size]? = some u' := ⟨(f L[j / size])[j % size]'(by rw [hf]; exact hmod), by simp [hf, hmod]⟩
 have h3 := flatMap_at hf hx hu'
 rw [Nat.mul_comm, hdm] at h3
 obtain rfl : u' = u := Option.some.inj (h3.symm.trans hu)
 have := hc _ _ hx _ _ hu'
 rw [Nat.mul_comm, Nat.add_assoc, hdm] at this
 exact this
theorem rows_wild {W W' : World} {α β : Type} {size : Nat} {f : α → List Value} {R : α → World → Prop} (sh : α → β) (hs : 0 < size) (hf : ∀ a, (f a).length = size) (H : Wild W W')
  (hone : ∀ x, R x W → ∀ cs : List Value, cs.length = size → WildC (f x) cs → ∃ x', f x' = cs ∧ sh x' = sh x ∧ R x' W') {A : Option Addr} {L : List α} (h : RowsAt size f R A L W) :
  ∃ L', L'.map sh = L.map sh ∧ RowsAt size f R A L' W' := by
 rcases hL : L with _ | ⟨x0, L0⟩
 ·exact ⟨[], rfl, RowsAt.nil_ _ _ _ _ _⟩
 rw [← hL]
 have hpos : 0 < L.length := by rw [hL]; simp
 obtain ⟨g, off, _, hA, _⟩ := RowsAt.at_ h hf hpos
 subst hA
 have hcell : ∀ (k : Nat) x, L[k]? = some x → ∀ (j : Nat) u, (f x)[j]? = some u → W.cell? ⟨g, off + k * size + j, none⟩ = some u := fun k x hx j u hu => by
  obtain ⟨g', off', p, hA, hp, hc, _⟩ := RowsAt.at_ h hf (List.getElem?_eq_some_iff.1 hx).1
  injection hA with hA; injection hA with h1 h2; subst h1; subst h2
  rw [hx] at hp; injection hp with hp; subst hp
  exact hc j u hu
 have each : ∀ k, ∃ x' : α, ∀ x, L[k]? = some x → ((∀ (j : Nat) u, (f x')[j]? = some u → W'.cell? ⟨g, off + k * size + j, none⟩ = some u) ∧ sh x' = sh x ∧ R x' W') := by
  intro k
  rcases hx : L[k]? with _ | x
  ·exact ⟨x0, fun x e => by cases e⟩
  ·have hcl : ∀ j, j < size → ∃ v, W'.cell? ⟨g, off + k * size + j, none⟩ = some v := fun j hj => by
    obtain ⟨u, hu⟩ : ∃ u, (f x)[j]? = some u := ⟨(f x)[j]'(by rw [hf]; exact hj), by simp [hf, hj]⟩
    rcases H _ _ (hcell k x hx j u hu) with h1 | ⟨_, z, _, h2, _⟩
    ·exact ⟨_, h1⟩
    ·exact ⟨_, h2⟩
   have hcsat : ∀ j, j < size → ((List.range size).map fun j => (W'.cell? ⟨g, off + k * size + j, none⟩).getD undef)[j]? = W'.cell? ⟨g, off + k * size + j, none⟩ := fun j hj => by
    obtain ⟨v, hv⟩ := hcl j hj
    simp [List.getElem?_range hj, hv]
   obtain ⟨x', e1, e2, e3⟩ := hone x (h.it x (List.mem_of_getElem? hx)) ((List.range size).map fun j => (W'.cell? ⟨g, off + k * size + j, none⟩).getD undef) (by simp) (fun j v hv => by
    have hj : j < size := by have := (List.getElem?_eq_some_iff.1 hv).1; rwa [hf] at this
    rw [hcsat j hj]
    exact H _ _ (hcell k x hx j v hv))
   refine ⟨x', fun y hy => ?_⟩
   injection hy with hy; subst hy
   refine ⟨fun j u hu => ?_, e2, e3⟩
   have hj : j < size := by have := (List.getElem?_eq_some_iff.1 hu).1; rwa [hf] at this
   rw [e1, hcsat j hj] at hu
   exact hu
 obtain ⟨q, hq⟩ := Classical.skolem.1 each
 refine ⟨(List.range L.length).map q, ?_, rows_of hs hf (by simpa using h.ln) (fun k x hx => ?_) fun x hx => ?_⟩
 ·apply List.ext_getElem?
  intro k
  by_cases hk : k < L.length
  ·have hx := List.getElem?_eq_getElem hk
   simp [List.getElem?_range hk, hk, (hq k _ hx).2.1]
  ·rw [List.getElem?_eq_none (by simp; omega), List.getElem?_eq_none (by simp; omega)]
 ·have hk : k < L.length := by have := (List.getElem?_eq_some_iff.1 hx).1; simpa using this
  have hy := List.getElem?_eq_getElem hk
  have e : x = q k := by simp [List.getElem?_range hk] at hx; exact hx.symm
  rw [e]
  exact (hq k _ hy).1
 ·obtain ⟨k, hk, rfl⟩ := List.mem_map.1 hx
  exact (hq k _ (List.getElem?_eq_getElem (List.mem_range.1 hk))).2.2
theorem ints_wild {W W' : World} (H : Wild W W') {A : Option Addr} {l : List Int} (h : IntsAt A l W) : ∃ l', l'.length = l.length ∧ IntsAt A l' W' := by
 obtain ⟨l', h1, h2⟩ := rows_wild (size := 1) (f := fun x => [Value.int .i64 x]) (R := fun x _ => I64 x) (fun _ => ()) (by decide) (fun _ => rfl) H (fun x hx cs hl hw => by
  obtain ⟨z, h1, h2⟩ := hw.int (j := 0) rfl hx
  match cs, hl with
  | [a], _ => exact ⟨z, by simp at h1; rw [h1], rfl, h2⟩) h
 exact ⟨l', by have := congrArg List.length h1; simpa using this, h2⟩
theorem parts_wild {W W' : World} (H : Wild W W') {A : Option Addr} {l : List PartL} (h : PartsAt A l W) : ∃ l', l'.length = l.length ∧ PartsAt A l' W' := by
 obtain ⟨l', h1, h2⟩ := rows_wild (size := 4) (f := partC) (R := fun p _ => PartW p) (fun _ => ()) (by decide) (fun _ => rfl) H (fun x hx cs hl hw => by
  obtain ⟨z0, a0, b0⟩ := hw.int (j := 0) rfl hx.1
  obtain ⟨z1, a1, b1⟩ := hw.int (j := 1) rfl hx.2.1
  obtain ⟨z2, a2, b2⟩ := hw.int (j := 2) rfl hx.2.2.1
  obtain ⟨z3, a3, b3⟩ := hw.int (j := 3) rfl hx.2.2.2
  match cs, hl with
  | [c0, c1, c2, c3], _ => exact ⟨(z0, z1, z2, z3), by simp at a0 a1 a2 a3; rw [a0, a1, a2, a3]; rfl, rfl, b0, b1, b2, b3⟩) h
 exact ⟨l', by have := congrArg List.length h1; simpa using this, h2⟩
def termSh (t : TermI) : Option Addr × Nat × Nat := (t.pa, t.pc, t.ps.length)
def outSh (o : OutI) : Option Addr × Nat × List (Option Addr × Nat × Nat) := (o.a, o.c, o.l.map termSh)
def nodeSh (x : NodeI) : Option Addr × Nat × Nat := (x.na, x.nc, x.nx.length)
def actSh (x : ActI) : Option Addr × Nat × List (Option Addr × Nat × Nat) := outSh x.o
theorem terms_wild {W W' : World} (H : Wild W W') {A : Option Addr} {l : List TermI} (h : TermsAt A l W) : ∃ l', l'.map termSh = l.map termSh ∧ TermsAt A l' W' :=
 rows_wild (size := 6) (f := termC) (R := TermW) termSh (by decide) (fun _ => rfl) H (fun x hx cs hl hw => by
  obtain ⟨⟨w0, w1, w2, w3, w4⟩, w5⟩ := hx
  obtain ⟨z0, a0, b0⟩ := hw.int (j := 0) rfl w0
  obtain ⟨z1, a1, b1⟩ := hw.int (j := 1) rfl w1
  obtain ⟨z2, a2, b2⟩ := hw.int (j := 2) rfl w2
  obtain ⟨z3, a3, b3⟩ := hw.int (j := 3) rfl w3
  obtain ⟨z4, a4, b4⟩ := hw.int (j := 4) rfl w4
  have a5 := hw.sl (j := 5) rfl
  obtain ⟨ps, p1, p2⟩ := parts_wild H w5
  match cs, hl with
  | [c0, c1, c2, c3, c4, c5], _ => exact ⟨⟨z0, z1, z2, z3, z4, x.pa, x.pc, ps⟩, by simp at a0 a1 a2 a3 a4 a5; rw [a0, a1, a2, a3, a4, a5, ← p1]; rfl, by unfold termSh; rw [p1], ⟨b0, b1, b2, b3, b4⟩, p2⟩) h
theorem len_of_map {α β : Type} {f : α → β} {l l' : List α} (h : l'.map f = l.map f) : l'.length = l.length := by have := congrArg List.length h; simpa using this
theorem out_wild {W W' : World} (H : Wild W W') {o : OutI} (h : OutW o W) : ∃ o', outSh o' = outSh o ∧ o'.v = o.v ∧ OutW o' W' := by
 obtain ⟨l', h1, h2⟩ := terms_wild H h
 exact ⟨⟨o.a, o.c, l'⟩, by unfold outSh; rw [h1], by unfold OutI.v; rw [len_of_map h1], h2⟩
theorem outs_wild {W W' : World} (H : Wild W W') {A : Option Addr} {l : List OutI} (h : EndsAt A l W) : ∃ l', l'.map outSh = l.map outSh ∧ EndsAt A l' W' :=
 rows_wild (size := 1) (f := fun o => [OutI.v o]) (R := OutW) outSh (by decide) (fun _ => rfl) H (fun x hx cs hl hw => by
  have a0 := hw.sl (j := 0) rfl
  obtain ⟨o', h1, h2, h3⟩ := out_wild H hx
  match cs, hl with
  | [c0], _ => exact ⟨o', by simp at a0; rw [a0, h2]; rfl, h1, h3⟩) h
theorem nodes_wild {W W' : World} (H : Wild W W') {A : Option Addr} {l : List NodeI} (h : NodesAt A l W) : ∃ l', l'.map nodeSh = l.map nodeSh ∧ NodesAt A l' W' :=
 rows_wild (size := 3) (f := nodeC) (R := NodeW) nodeSh (by decide) (fun _ => rfl) H (fun x hx cs hl hw => by
  obtain ⟨⟨w0, w1⟩, w2⟩ := hx
  obtain ⟨z0, a0, b0⟩ := hw.int (j := 0) rfl w0
  have a1 := hw.sl (j := 1) rfl
  obtain ⟨z2, a2, b2⟩ := hw.int (j := 2) rfl w1
  obtain ⟨nx, p1, p2⟩ := ints_wild H w2
  match cs, hl with
  | [c0, c1, c2], _ => exact ⟨⟨z0, x.na, x.nc, nx, z2⟩, by simp at a0 a1 a2; rw [a0, a1, a2, ← p1]; rfl, by unfold nodeSh; rw [p1], ⟨b0, b2⟩, p2⟩) h
theorem acts_wild {W W' : World} (H : Wild W W') {A : Option Addr} {l : List ActI} (h : ActsAt A l W) : ∃ l', l'.map actSh = l.map actSh ∧ ActsAt A l' W' :=
 rows_wild (size := 3) (f := actC) (R := ActW) actSh (by decide) (fun _ => rfl) H (fun x hx cs hl hw => by
  obtain ⟨⟨w0, w1⟩, w2⟩ := hx
  obtain ⟨z0, a0, b0⟩ := hw.int (j := 0) rfl w0
  obtain ⟨z1, a1, b1⟩ := hw.int (j := 1) rfl w1
  have a2 := hw.sl (j := 2) rfl
  obtain ⟨o', h1, h2, h3⟩ := out_wild H w2
  match cs, hl with
  | [c0, c1, c2], _ => exact ⟨⟨z0, z1, o'⟩, by simp at a0 a1 a2; rw [a0, a1, a2]; unfold actC; rw [h2]; rfl, h1, ⟨b0, b1⟩, h3⟩) h
structure ShT (T T' : TabI) : Prop where
 cls : T'.cls = T.cls
 na : T'.na = T.na
 nc : T'.nc = T.nc
 ns : T'.ns.map nodeSh = T.ns.map nodeSh
 aa : T'.aa = T.aa
 ac : T'.ac = T.ac
 acts : T'.acts.map actSh = T.acts.map actSh
 ea : T'.ea = T.ea
 ec : T'.ec = T.ec
 es : T'.es.map outSh = T.es.map outSh
theorem tab_wild {W W' : World} (H : Wild W W') {T : TabI} (h : TabW T W) : ∃ T', ShT T T' ∧ TabW T' W' := by
 obtain ⟨ns, n1, n2⟩ := nodes_wild H h.nodes
 obtain ⟨ac, a1, a2⟩ := acts_wild H h.acts
 obtain ⟨es, e1, e2⟩ := outs_wild H h.ends
 exact ⟨⟨T.cls, T.na, T.nc, ns, T.aa, T.ac, ac, T.ea, T.ec, es⟩, ⟨rfl, rfl, rfl, n1, rfl, rfl, a1, rfl, rfl, e1⟩, n2, a2, e2⟩
theorem ShT.tabC {T T' : TabI} (h : ShT T T') {cs : Array Value} (hC : TabC cs T) : TabC cs T' :=
 ⟨hC.size, by rw [h.cls]; exact hC.ln, by rw [h.cls]; exact hC.u8, by rw [h.cls]; exact hC.cl, by rw [h.na, h.nc, len_of_map h.ns]; exact hC.c1, by rw [h.aa, h.ac, len_of_map h.acts]; exact hC.c2, by rw [h.ea, h.ec, len_of_map h.es]; exact hC.c3⟩
theorem dep_addr {n : Nat} {W : World} {G : World → Prop} (h : Dep (fun k => n ≤ k) W G) {g o : Nat} (hc : ∀ V, G V → ∃ v, V.cell? ⟨g, o, none⟩ = some v) : n ≤ g := by
 rcases Nat.lt_or_ge g n with hlt | hge
 ·obtain ⟨v, hv⟩ := hc { W with heap := W.heap.setIfInBounds g (.map #[] 0) } (h _ fun k hk hl => by
   show (W.heap.setIfInBounds g _)[k]? = _
   rw [Array.getElem?_setIfInBounds_ne (by omega)])
  have hg : (W.heap.setIfInBounds g (Obj.map #[] 0))[g]? = none ∨ (W.heap.setIfInBounds g (Obj.map #[] 0))[g]? = some (.map #[] 0) := by
   by_cases hs : g < W.heap.size
   ·right; simp [hs]
   ·left; simp [hs]
  unfold World.cell? at hv
  simp only at hv
  rcases hg with hg | hg
  ·rw [hg] at hv; cases hv
  ·rw [hg] at hv; cases hv
 ·exact hge
theorem CompSaid.one {d : DescI} {T T' : TabL} {v v' : Int} (h : CompSaid d T v) (h' : CompSaid d T' v') : T = T' ∧ v = v' := by
 rcases h with ⟨rfl, hn, rfl⟩ | ⟨hy, h⟩
 ·rcases h' with ⟨rfl, hn', rfl⟩ | ⟨hy', h'⟩
  ·exact ⟨rfl, rfl⟩
  ·exact absurd hy' hn
 rcases h' with ⟨rfl, hn', rfl⟩ | ⟨hy', h'⟩
 ·exact absurd hy hn'
 rcases h with ⟨rfl, hn, rfl⟩ | ⟨hf, h⟩
 ·rcases h' with ⟨rfl, hn', rfl⟩ | ⟨hf', h'⟩
  ·exact ⟨rfl, rfl⟩
  ·exact absurd hf' hn
 rcases h' with ⟨rfl, hn', rfl⟩ | ⟨hf', h'⟩
 ·exact absurd hf hn'
 rcases h with ⟨rfl, hn, rfl⟩ | ⟨hc, h⟩
 ·rcases h' with ⟨rfl, hn', rfl⟩ | ⟨hc', h'⟩
  ·exact ⟨rfl, rfl⟩
  ·exact absurd hn hc'
 rcases h' with ⟨rfl, hn', rfl⟩ | ⟨hc', h'⟩
 ·exact absurd hn' hc
 rcases h with ⟨rfl, hn, rfl⟩ | ⟨P, hP, h⟩
 ·rcases h' with ⟨rfl, hn', rfl⟩ | ⟨P', hP', h'⟩
  ·exact ⟨rfl, rfl⟩
  ·rw [hn] at hP'; cases hP'
 rcases h' with ⟨rfl, hn', rfl⟩ | ⟨P', hP', h'⟩
 ·rw [hn'] at hP; cases hP
 rw [hP] at hP'; injection hP' with hP'; subst hP'
 rcases h with ⟨rfl, hn, rfl⟩ | ⟨rfl, x, hx, rfl⟩
 ·rcases h' with ⟨rfl, hn', rfl⟩ | ⟨rfl, x', hx', rfl⟩
  ·exact ⟨rfl, rfl⟩
  ·rw [hn] at hx'; cases hx'
 rcases h' with ⟨rfl, hn', rfl⟩ | ⟨rfl, x', hx', rfl⟩
 ·rw [hn'] at hx; cases hx
 rw [hx] at hx'; injection hx' with hx'; subst hx'
 exact ⟨rfl, rfl⟩
section
structure OwJ (n0 n1 : Nat) (w3 W : World) : Prop where
 wild : Wild w3 W
 blk : ∀ k, k < w3.heap.size → (k < n0 ∨ n1 ≤ k) → W.heap[k]? = w3.heap[k]?
 bel : Below n0 w3 W
 frz : ∀ p : Addr, p.block < w3.heap.size → W.frozen? p = w3.frozen? p
section
variable {n0 : Nat} {w2 w3 W : World} {T : TabI}
theorem OwJ.refl (n0 n1 : Nat) (w : World) : OwJ n0 n1 w w := ⟨Wild.refl _, fun _ _ _ => rfl, Below.refl _ _, fun _ _ => rfl⟩
theorem OwJ.set {n1 : Nat} (h : OwJ n0 n1 w3 W) {g o : Nat} {y : Int} (z : Int) (hc : W.cell? ⟨g, o, none⟩ = some (.int .i64 y)) (hz : I64 z) (hg : n0 ≤ g ∧ g < n1) : OwJ n0 n1 w3 (W.setCell ⟨g, o, none⟩ (.int .i64 z)) :=
 ⟨h.wild.trans (Wild.set hc hz), fun k hk hn => (heap_setCell_other _ _ _ _ (by show k ≠ g; omega)).trans (h.blk k hk hn), h.bel.setCell hg.1 _, fun p hp => by rw [World.frozen?_setCell]; exact h.frz p hp⟩
theorem map_at {α β : Type} {f : α → β} {L L' : List α} (h : L'.map f = L.map f) {i : Nat} {x : α} (hx : L[i]? = some x) : ∃ x', L'[i]? = some x' ∧ f x' = f x := by
 have h1 : (L'.map f)[i]? = some (f x) := by rw [h, List.getElem?_map, hx]; rfl
 rw [List.getElem?_map] at h1
 rcases hy : L'[i]? with _ | y
 ·rw [hy] at h1; cases h1
 ·rw [hy] at h1; injection h1 with h1; exact ⟨y, rfl, h1⟩
theorem addr_inj {a b c d : Nat} {A : Option Addr} (h : A = some ⟨a, b, none⟩) (h' : A = some ⟨c, d, none⟩) : a = c ∧ b = d := by
 rw [h] at h'; injection h' with h'; injection h' with h1 h2; exact ⟨h1, h2⟩
abbrev OwT (n0 : Nat) (w2 w3 W : World) (T : TabI) : Prop := Dep (fun k => n0 ≤ k) w2 (fun W => TabW T W ∧ TabF T W) ∧ Below w2.heap.size w2 w3 ∧ OwJ n0 w2.heap.size w3 W
theorem OwT.start (h : Dep (fun k => n0 ≤ k) w2 (fun W => TabW T W ∧ TabF T W)) (hb : Below w2.heap.size w2 w3) : OwT n0 w2 w3 w3 T := ⟨h, hb, OwJ.refl _ _ _⟩
theorem OwT.set (h : OwT n0 w2 w3 W T) {g o : Nat} {y : Int} (z : Int) (hc : W.cell? ⟨g, o, none⟩ = some (.int .i64 y)) (hz : I64 z) (hg : n0 ≤ g ∧ g < w2.heap.size) : OwT n0 w2 w3 (W.setCell ⟨g, o, none⟩ (.int .i64 z)) T := ⟨h.1, h.2.1, h.2.2.set z hc hz hg⟩
theorem OwT.bd (h : OwT n0 w2 w3 W T) {g o : Nat} (hc : ∀ V, TabW T V → ∃ v, V.cell? ⟨g, o, none⟩ = some v) : n0 ≤ g ∧ g < w2.heap.size := by
 refine ⟨dep_addr h.1 fun V hV => hc V hV.1, ?_⟩
 obtain ⟨v, hv⟩ := hc w2 h.1.now.1
 exact lt_of_cell hv
theorem OwT.fr (h : OwT n0 w2 w3 W T) {A : Option Addr} {m : Nat} (hf : ∀ V, TabF T V → Unf A m V) {g o : Nat} (hA : A = some ⟨g, o, none⟩) {j : Nat} (hj : j < m) : W.frozen? ⟨g, o + j, none⟩ = false := by
 have h1 := hf w3 (h.1.st w3 h.2.1).2 g o hA j hj
 rw [h.2.2.frz ⟨g, o + j, none⟩ h1.1]; exact h1.2
theorem OwT.tab (h : OwT n0 w2 w3 W T) : ∃ T', ShT T T' ∧ TabW T' W := tab_wild h.2.2.wild (h.1.st w3 h.2.1).1
theorem OwT.node (h : OwT n0 w2 w3 W T) {i : Nat} {x : NodeI} (hx : T.ns[i]? = some x) : ∃ nb noff y, T.na = some ⟨nb, noff, none⟩ ∧ (n0 ≤ nb ∧ nb < w2.heap.size) ∧ W.cell? ⟨nb, noff + i * 3, none⟩ = some (.int .i64 y) ∧ W.frozen? ⟨nb, noff + i * 3, none⟩ = false ∧
  W.cell? ⟨nb, noff + i * 3 + 1, none⟩ = some (.slice x.na x.nx.length x.nc) := by
 obtain ⟨T', hS, hT⟩ := h.tab
 obtain ⟨x', hx', hsh⟩ := map_at hS.ns hx
 have hl := (List.getElem?_eq_some_iff.1 hx').1
 have hl0 := (List.getElem?_eq_some_iff.1 hx).1
 obtain ⟨nb, noff, n, hA, hn, hw, r0, r1, r2⟩ := hT.nodes.at_ hl
 rw [hx'] at hn; injection hn with hn; subst hn
 rw [hS.na] at hA
 unfold nodeSh at hsh
 injection hsh with e1 e2; injection e2 with e2 e3
 refine ⟨nb, noff, x'.h, hA, h.bd (o := noff + i * 3) fun V hV => ?_, r0, h.fr (fun V hV => hV.nodes) hA (by omega), by rw [← e1, ← e2, ← e3]; exact r1⟩
 obtain ⟨nb2, noff2, _, hA2, _, _, s0, _⟩ := hV.nodes.at_ hl0
 obtain ⟨rfl, rfl⟩ := addr_inj hA hA2
 exact ⟨_, s0⟩
theorem OwT.nx (h : OwT n0 w2 w3 W T) {i : Nat} {x : NodeI} (hx : T.ns[i]? = some x) {k : Nat} (hk : k < x.nx.length) : ∃ g o y, x.na = some ⟨g, o, none⟩ ∧ (n0 ≤ g ∧ g < w2.heap.size) ∧ W.cell? ⟨g, o + k, none⟩ = some (.int .i64 y) ∧ W.frozen? ⟨g, o + k, none⟩ = false := by
 obtain ⟨T', hS, hT⟩ := h.tab
 obtain ⟨x', hx', hsh⟩ := map_at hS.ns hx
 unfold nodeSh at hsh
 injection hsh with e1 e2; injection e2 with e2 e3
 have hw := hT.nodes.it x' (List.mem_of_getElem? hx')
 obtain ⟨g, o, y, hA, _, _, hc⟩ := hw.2.at_ (j := k) (by omega)
 rw [e1] at hA
 refine ⟨g, o, y, hA, h.bd (o := o + k) fun V hV => ?_, hc, h.fr (fun V hV => hV.nx x (List.mem_of_getElem? hx)) hA (by omega)⟩
 have hw2 := hV.nodes.it x (List.mem_of_getElem? hx)
 obtain ⟨g2, o2, y2, hA2, _, _, hc2⟩ := hw2.2.at_ hk
 obtain ⟨rfl, rfl⟩ := addr_inj hA hA2
 exact ⟨_, hc2⟩
theorem OwT.act (h : OwT n0 w2 w3 W T) {i : Nat} {x : ActI} (hx : T.acts[i]? = some x) : ∃ ab aoff, T.aa = some ⟨ab, aoff, none⟩ ∧ W.cell? ⟨ab, aoff + i * 3 + 2, none⟩ = some (.slice x.o.a x.o.l.length x.o.c) := by
 obtain ⟨T', hS, hT⟩ := h.tab
 obtain ⟨x', hx', hsh⟩ := map_at hS.acts hx
 have hl := (List.getElem?_eq_some_iff.1 hx').1
 obtain ⟨nb, noff, n, hA, hn, hw, r0, r1, r2⟩ := hT.acts.at_ hl
 rw [hx'] at hn; injection hn with hn; subst hn
 rw [hS.aa] at hA
 unfold actSh outSh at hsh
 injection hsh with e1 e2; injection e2 with e2 e3
 exact ⟨nb, noff, hA, by rw [← e1, ← e2, ← len_of_map e3]; exact r2⟩
end
end
section
open Go.RowKit Go.ChangeShapes Go.WideShapes Go.Deep
section
variable {H : Type} {enc : TypeId × Value → H} {W : World} {base : Nat} {spare : Nat → Bool} {held : Bool}
def OpensAs (enc : TypeId × Value → H) (W : World) (base : Nat) (spare : Nat → Bool) (held : Bool) (t : TypeId) {α : Type} (f : α → List Value) (R : α → World → Prop) : Prop :=
 ∀ (fuel : Nat) (cs : List Value) (x : DataW H × List MemPlace), DataW.trod enc Tryz.prog W base spare held fuel t cs = some x → ∃ a, cs = f a ∧ R a W
theorem opens_int : OpensAs enc W base spare held 3 (fun z => [Value.int .i64 z]) (fun z _ => I64 z) := fun fuel cs x h => by
 obtain ⟨z, e, _, w⟩ := DataW.trod_int Tryz.underlying3 h
 exact ⟨z, e, I64.of_wf w⟩
theorem add_none (b off k : Nat) : (⟨b, off, none⟩ : Addr).add k = ⟨b, off + k, none⟩ := by unfold Addr.add; split <;> simp_all
theorem opens_slice {t e : TypeId} {α : Type} {size : Nat} {f : α → List Value} {R : α → World → Prop} (ht : Tryz.prog.underlying t = some (.slice e)) (hce : Tryz.prog.cellsOf e = size) (hs : 0 < size) (hf : ∀ a, (f a).length = size)
  (he : OpensAs enc W base spare held e f R) {fuel : Nat} {cs : List Value} {x : DataW H × List MemPlace} (h : DataW.trod enc Tryz.prog W base spare held fuel t cs = some x) :
  ∃ A L c, cs = [Value.slice A L.length c] ∧ RowsAt size f R A L W ∧ L.length ≤ c ∧ c ≤ 9223372036854775807 := by
 rcases open_slice ht h with ⟨hcs, _⟩ | ⟨b, len, cap, m, n, D, Pl, hcs, _, hl, hm, hmm, _, hc⟩
 ·exact ⟨none, [], 0, hcs, RowsAt.nil_ _ _ _ _ _, Nat.le_refl _, by omega⟩
 ·have hlm : len ≤ m := by rw [hmm]; split <;> omega
  unfold maxLen at hm
  rcases Nat.eq_zero_or_pos len with h0 | hpos
  ·subst h0
   exact ⟨some b, [], cap, hcs, RowsAt.nil_ _ _ _ _ _, Nat.zero_le _, hm⟩
  have each : ∀ i, ∃ a : α, i < len → ((∀ j u, (f a)[j]? = some u → W.cell? (b.add (i * size + j)) = some u) ∧ R a W) := by
   intro i
   obtain ⟨cs0, h10, h20⟩ := hc 0 (by omega)
   obtain ⟨a0, e0, r0⟩ := he _ _ _ h20
   by_cases hi : i < len
   ·obtain ⟨cs', h1, h2⟩ := hc i (by omega)
    rw [hce] at h1
    obtain ⟨_, hlen, hat⟩ := World.cells?_some h1
    obtain ⟨a, rfl, r⟩ := he _ _ _ h2
    refine ⟨a, fun _ => ⟨fun j u hu => ?_, r⟩⟩
    have hj : j < size := by have := (List.getElem?_eq_some_iff.1 hu).1; rwa [hf] at this
    have := hat j (by omega)
    rw [Go.Deep.add_add] at this
    rw [this, hu]
   ·exact ⟨a0, fun g => absurd g hi⟩
  obtain ⟨q, hq⟩ := Classical.skolem.1 each
  have hL : ((List.range len).map q).length = len := by simp
  refine ⟨some b, (List.range len).map q, cap, by rw [hL]; exact hcs, ⟨⟨?_, fun _ => ?_⟩, fun a ha => ?_, by rw [hL]; omega⟩, by rw [hL]; exact hl, hm⟩
  ·rw [hL]
   have : ∀ l : List α, (l.flatMap f).length = l.length * size := by
    intro l; induction l with
    | nil => simp
    | cons y l ih => rw [List.flatMap_cons, List.length_append, ih, hf, List.length_cons, Nat.succ_mul]; omega
   rw [this, hL]
  ·obtain ⟨bb, off, spot⟩ := b
   have hu0 : ∃ u, (f (q 0))[0]? = some u := ⟨(f (q 0))[0]'(by rw [hf]; exact hs), by simp [hf, hs]⟩
   obtain ⟨u0, hu0⟩ := hu0
   have h0 := (hq 0 hpos).1 0 u0 hu0
   have hs0 : spot = none := by simpa [Addr.add] using World.cell?_spot h0
   subst hs0
   refine ⟨bb, off, rfl, fun j u hu => ?_⟩
   have hjl : j < len * size := by
    have := (List.getElem?_eq_some_iff.1 hu).1
    have h2 : ∀ l : List α, (l.flatMap f).length = l.length * size := by
     intro l; induction l with
     | nil => simp
     | cons y l ih => rw [List.flatMap_cons, List.length_append, ih, hf, List.length_cons, Nat.succ_mul]; omega
    rw [h2, hL] at this; exact this
   have hdm := Nat.div_add_mod j size
   have hdl : j / size < len := (Nat.div_lt_iff_lt_mul hs).2 hjl
   have hmod := Nat.mod_lt j hs
   have hx : ((List.range len).map q)[j / size]? = some (q (j / size)) := by simp [hdl]
   obtain ⟨u', hu'⟩ : ∃ u', (f (q (j / size)))[j % size]? = some u' := ⟨(f (q (j / size)))[j % size]'(by rw [hf]; exact hmod), by simp [hf, hmod]⟩
   have h3 := flatMap_at hf hx hu'
   rw [Nat.mul_comm, hdm] at h3
   obtain rfl : u' = u := Option.some.inj (h3.symm.trans hu)
   have := (hq _ hdl).1 _ _ hu'
   rw [Nat.mul_comm, hdm, add_none] at this
   exact this
  ·obtain ⟨r, hr, rfl⟩ := List.mem_map.1 ha
   exact (hq r (List.mem_range.1 hr)).2
end
end
section
open Go.RowKit Go.ChangeShapes Go.WideShapes Go.Deep
set_option maxRecDepth 100000
theorem list3 {α : Type} {l : List α} (h : l.length = 3) : ∃ a b c, l = [a, b, c] := by
 match l, h with
 | [a, b, c], _ => exact ⟨a, b, c, rfl⟩
theorem list4 {α : Type} {l : List α} (h : l.length = 4) : ∃ a b c d, l = [a, b, c, d] := by
 match l, h with
 | [a, b, c, d], _ => exact ⟨a, b, c, d, rfl⟩
theorem list6 {α : Type} {l : List α} (h : l.length = 6) : ∃ a b c d e f, l = [a, b, c, d, e, f] := by
 match l, h with
 | [a, b, c, d, e, f], _ => exact ⟨a, b, c, d, e, f, rfl⟩
section
variable {H : Type} {enc : TypeId × Value → H} {W : World} {base : Nat} {spare : Nat → Bool} {held : Bool}
theorem opens_part : OpensAs enc W base spare held 70 partC (fun p _ => PartW p) := fun fuel cs x h => by
 obtain ⟨xs, n, _, rfl, hl, hlen, hf⟩ := DataW.trod_struct Tryz.underlying70 h
 rw [show Tryz.prog.cellsOf 70 = 4 from by kernel_rfl] at hl
 obtain ⟨c0, c1, c2, c3, rfl⟩ := list4 hl
 obtain ⟨x0, x1, x2, x3, rfl⟩ := list4 hlen
 have h0 : DataW.trod enc Tryz.prog W base spare held n 3 [c0] = some x0 := by have := hf 0 _ rfl; simpa [show Tryz.prog.cellsOf 3 = 1 from by kernel_rfl] using this
 have h1 : DataW.trod enc Tryz.prog W base spare held n 3 [c1] = some x1 := by have := hf 1 _ rfl; simpa [show Tryz.prog.cellsOf 3 = 1 from by kernel_rfl] using this
 have h2 : DataW.trod enc Tryz.prog W base spare held n 3 [c2] = some x2 := by have := hf 2 _ rfl; simpa [show Tryz.prog.cellsOf 3 = 1 from by kernel_rfl] using this
 have h3 : DataW.trod enc Tryz.prog W base spare held n 3 [c3] = some x3 := by have := hf 3 _ rfl; simpa [show Tryz.prog.cellsOf 3 = 1 from by kernel_rfl] using this
 obtain ⟨z0, e0, w0⟩ := opens_int _ _ _ h0
 obtain ⟨z1, e1, w1⟩ := opens_int _ _ _ h1
 obtain ⟨z2, e2, w2⟩ := opens_int _ _ _ h2
 obtain ⟨z3, e3, w3⟩ := opens_int _ _ _ h3
 simp only [List.cons.injEq, and_true] at e0 e1 e2 e3
 exact ⟨(z0, z1, z2, z3), by rw [e0, e1, e2, e3]; rfl, ⟨w0, w1, w2, w3⟩⟩
theorem open_parts {fuel : Nat} {cs : List Value} {x : DataW H × List MemPlace} (h : DataW.trod enc Tryz.prog W base spare held fuel 66 cs = some x) :
  ∃ A L c, cs = [Value.slice A L.length c] ∧ PartsAt A L W ∧ L.length ≤ c ∧ c ≤ 9223372036854775807 := opens_slice (size := 4) Tryz.underlying66 (by kernel_rfl) (by decide) (fun _ => rfl) opens_part h
theorem opens_term : OpensAs enc W base spare held 68 termC TermW := fun fuel cs x h => by
 obtain ⟨xs, n, _, rfl, hl, hlen, hf⟩ := DataW.trod_struct Tryz.underlying68 h
 rw [show Tryz.prog.cellsOf 68 = 6 from by kernel_rfl] at hl
 obtain ⟨c0, c1, c2, c3, c4, c5, rfl⟩ := list6 hl
 obtain ⟨x0, x1, x2, x3, x4, x5, rfl⟩ := list6 hlen
 have h0 : DataW.trod enc Tryz.prog W base spare held n 3 [c0] = some x0 := by have := hf 0 _ rfl; simpa [show Tryz.prog.cellsOf 3 = 1 from by kernel_rfl] using this
 have h1 : DataW.trod enc Tryz.prog W base spare held n 3 [c1] = some x1 := by have := hf 1 _ rfl; simpa [show Tryz.prog.cellsOf 3 = 1 from by kernel_rfl] using this
 have h2 : DataW.trod enc Tryz.prog W base spare held n 3 [c2] = some x2 := by have := hf 2 _ rfl; simpa [show Tryz.prog.cellsOf 3 = 1 from by kernel_rfl] using this
 have h3 : DataW.trod enc Tryz.prog W base spare held n 3 [c3] = some x3 := by have := hf 3 _ rfl; simpa [show Tryz.prog.cellsOf 3 = 1 from by kernel_rfl] using this
 have h4 : DataW.trod enc Tryz.prog W base spare held n 3 [c4] = some x4 := by have := hf 4 _ rfl; simpa [show Tryz.prog.cellsOf 3 = 1 from by kernel_rfl] using this
 have h5 : DataW.trod enc Tryz.prog W base spare held n 66 [c5] = some x5 := by have := hf 5 _ rfl; simpa [show Tryz.prog.cellsOf 66 = 1 from by kernel_rfl] using this
 obtain ⟨z0, e0, w0⟩ := opens_int _ _ _ h0
 obtain ⟨z1, e1, w1⟩ := opens_int _ _ _ h1
 obtain ⟨z2, e2, w2⟩ := opens_int _ _ _ h2
 obtain ⟨z3, e3, w3⟩ := opens_int _ _ _ h3
 obtain ⟨z4, e4, w4⟩ := opens_int _ _ _ h4
 obtain ⟨A5, L5, C5, e5, w5, hc5, _⟩ := open_parts h5
 simp only [List.cons.injEq, and_true] at e0 e1 e2 e3 e4 e5
 exact ⟨⟨z0, z1, z2, z3, z4, A5, C5, L5⟩, by rw [e0, e1, e2, e3, e4, e5]; rfl, ⟨⟨w0, w1, w2, w3, w4⟩, w5⟩⟩
theorem open_terms {fuel : Nat} {cs : List Value} {x : DataW H × List MemPlace} (h : DataW.trod enc Tryz.prog W base spare held fuel 57 cs = some x) :
  ∃ A L c, cs = [Value.slice A L.length c] ∧ TermsAt A L W ∧ L.length ≤ c ∧ c ≤ 9223372036854775807 := opens_slice (size := 6) Tryz.underlying57 (by kernel_rfl) (by decide) (fun _ => rfl) opens_term h
end
end
section
open Go.RowKit Go.ChangeShapes Go.WideShapes Go.Deep
set_option maxRecDepth 100000
theorem list5 {α : Type} {l : List α} (h : l.length = 5) : ∃ a b c d e, l = [a, b, c, d, e] := by
 match l, h with
 | [a, b, c, d, e], _ => exact ⟨a, b, c, d, e, rfl⟩
section
variable {H : Type} {enc : TypeId × Value → H} {W : World} {base : Nat} {spare : Nat → Bool} {held : Bool}
theorem opens_sort : OpensAs enc W base spare held 22 (fun z => [Value.int .i64 z]) (fun z _ => I64 z) := fun fuel cs x h => by
 obtain ⟨z, e, _, w⟩ := DataW.trod_int Tryz.underlying22 h
 exact ⟨z, e, I64.of_wf w⟩
theorem opens_spans : OpensAs enc W base spare held 103 (fun it : Item Sp => [ival it]) (fun it W => SpI it.1 it.2.2 W) := fun fuel cs x h => by
 obtain ⟨a, len, cap, rfl⟩ := spans_shape h
 obtain ⟨l, s1, s2, s3⟩ := open_spans h
 have e := s1.len
 subst e
 exact ⟨(a, cap, l), rfl, s1, s2, s3⟩
theorem open_lls {fuel : Nat} {cs : List Value} {x : DataW H × List MemPlace} (h : DataW.trod enc Tryz.prog W base spare held fuel 29 cs = some x) :
  ∃ A L c, cs = [Value.slice A L.length c] ∧ LLr SpI A L W ∧ L.length ≤ c ∧ c ≤ 9223372036854775807 := by
 obtain ⟨A, L, c, e, r, h1, h2⟩ := opens_slice (size := 1) Tryz.underlying29 (by kernel_rfl) (by decide) (fun _ => rfl) opens_spans h
 refine ⟨A, L, c, e, ⟨⟨?_, r.it⟩, by omega⟩, h1, h2⟩
 have h3 := r.sl
 rwa [← List.map_eq_flatMap] at h3
theorem opens_rule : OpensAs enc W base spare held 102 ruleC (RuleR SpI) := fun fuel cs x h => by
 obtain ⟨xs, n, _, rfl, hl, hlen, hf⟩ := DataW.trod_struct Tryz.underlying102 h
 rw [show Tryz.prog.cellsOf 102 = 5 from by kernel_rfl] at hl
 obtain ⟨c0, c1, c2, c3, c4, rfl⟩ := list5 hl
 obtain ⟨x0, x1, x2, x3, x4, rfl⟩ := list5 hlen
 have h0 : DataW.trod enc Tryz.prog W base spare held n 3 [c0] = some x0 := by have := hf 0 _ rfl; simpa [show Tryz.prog.cellsOf 3 = 1 from by kernel_rfl] using this
 have h1 : DataW.trod enc Tryz.prog W base spare held n 3 [c1] = some x1 := by have := hf 1 _ rfl; simpa [show Tryz.prog.cellsOf 3 = 1 from by kernel_rfl] using this
 have h2 : DataW.trod enc Tryz.prog W base spare held n 29 [c2] = some x2 := by have := hf 2 _ rfl; simpa [show Tryz.prog.cellsOf 29 = 1 from by kernel_rfl] using this
 have h3 : DataW.trod enc Tryz.prog W base spare held n 3 [c3] = some x3 := by have := hf 3 _ rfl; simpa [show Tryz.prog.cellsOf 3 = 1 from by kernel_rfl] using this
 have h4 : DataW.trod enc Tryz.prog W base spare held n 57 [c4] = some x4 := by have := hf 4 _ rfl; simpa [show Tryz.prog.cellsOf 57 = 1 from by kernel_rfl] using this
 obtain ⟨z0, e0, w0⟩ := opens_int _ _ _ h0
 obtain ⟨z1, e1, w1⟩ := opens_int _ _ _ h1
 obtain ⟨A2, L2, C2, e2, w2, hc2, _⟩ := open_lls h2
 obtain ⟨z3, e3, w3⟩ := opens_int _ _ _ h3
 obtain ⟨A4, L4, C4, e4, w4, hc4, _⟩ := open_terms h4
 simp only [List.cons.injEq, and_true] at e0 e1 e2 e3 e4
 exact ⟨⟨z0, z1, A2, C2, L2, z3, ⟨A4, C4, L4⟩⟩, by rw [e0, e1, e2, e3, e4]; rfl, ⟨⟨w0, w1, w3⟩, w2, w4⟩⟩
theorem opens_final : OpensAs enc W base spare held 134 finC (FinR SpI) := fun fuel cs x h => by
 obtain ⟨xs, n, _, rfl, hl, hlen, hf⟩ := DataW.trod_struct Tryz.underlying134 h
 rw [show Tryz.prog.cellsOf 134 = 3 from by kernel_rfl] at hl
 obtain ⟨c0, c1, c2, rfl⟩ := list3 hl
 obtain ⟨x0, x1, x2, rfl⟩ := list3 hlen
 have h0 : DataW.trod enc Tryz.prog W base spare held n 3 [c0] = some x0 := by have := hf 0 _ rfl; simpa [show Tryz.prog.cellsOf 3 = 1 from by kernel_rfl] using this
 have h1 : DataW.trod enc Tryz.prog W base spare held n 29 [c1] = some x1 := by have := hf 1 _ rfl; simpa [show Tryz.prog.cellsOf 29 = 1 from by kernel_rfl] using this
 have h2 : DataW.trod enc Tryz.prog W base spare held n 57 [c2] = some x2 := by have := hf 2 _ rfl; simpa [show Tryz.prog.cellsOf 57 = 1 from by kernel_rfl] using this
 obtain ⟨z0, e0, w0⟩ := opens_int _ _ _ h0
 obtain ⟨A1, L1, C1, e1, w1, hc1, _⟩ := open_lls h1
 obtain ⟨A2, L2, C2, e2, w2, hc2, _⟩ := open_terms h2
 simp only [List.cons.injEq, and_true] at e0 e1 e2
 exact ⟨⟨z0, A1, C1, L1, ⟨A2, C2, L2⟩⟩, by rw [e0, e1, e2]; rfl, ⟨w0, w1, w2⟩⟩
theorem open_rules {fuel : Nat} {cs : List Value} {x : DataW H × List MemPlace} (h : DataW.trod enc Tryz.prog W base spare held fuel 23 cs = some x) :
  ∃ A L c, cs = [Value.slice A L.length c] ∧ RulesAt SpI A L W ∧ L.length ≤ c ∧ c ≤ 9223372036854775807 := opens_slice (size := 5) Tryz.underlying23 (by kernel_rfl) (by decide) (fun _ => rfl) opens_rule h
theorem open_finals {fuel : Nat} {cs : List Value} {x : DataW H × List MemPlace} (h : DataW.trod enc Tryz.prog W base spare held fuel 24 cs = some x) :
  ∃ A L c, cs = [Value.slice A L.length c] ∧ FinsAt SpI A L W ∧ L.length ≤ c ∧ c ≤ 9223372036854775807 := opens_slice (size := 3) Tryz.underlying24 (by kernel_rfl) (by decide) (fun _ => rfl) opens_final h
theorem opens_desc : OpensAs enc W base spare held 26 descC (DescR SpI) := fun fuel cs x h => by
 obtain ⟨xs, n, _, rfl, hl, hlen, hf⟩ := DataW.trod_struct Tryz.underlying26 h
 rw [show Tryz.prog.cellsOf 26 = 6 from by kernel_rfl] at hl
 obtain ⟨c0, c1, c2, c3, c4, c5, rfl⟩ := list6 hl
 obtain ⟨x0, x1, x2, x3, x4, x5, rfl⟩ := list6 hlen
 have h0 : DataW.trod enc Tryz.prog W base spare held n 22 [c0] = some x0 := by have := hf 0 _ rfl; simpa [show Tryz.prog.cellsOf 22 = 1 from by kernel_rfl] using this
 have h1 : DataW.trod enc Tryz.prog W base spare held n 22 [c1] = some x1 := by have := hf 1 _ rfl; simpa [show Tryz.prog.cellsOf 22 = 1 from by kernel_rfl] using this
 have h2 : DataW.trod enc Tryz.prog W base spare held n 3 [c2] = some x2 := by have := hf 2 _ rfl; simpa [show Tryz.prog.cellsOf 3 = 1 from by kernel_rfl] using this
 have h3 : DataW.trod enc Tryz.prog W base spare held n 3 [c3] = some x3 := by have := hf 3 _ rfl; simpa [show Tryz.prog.cellsOf 3 = 1 from by kernel_rfl] using this
 have h4 : DataW.trod enc Tryz.prog W base spare held n 23 [c4] = some x4 := by have := hf 4 _ rfl; simpa [show Tryz.prog.cellsOf 23 = 1 from by kernel_rfl] using this
 have h5 : DataW.trod enc Tryz.prog W base spare held n 24 [c5] = some x5 := by have := hf 5 _ rfl; simpa [show Tryz.prog.cellsOf 24 = 1 from by kernel_rfl] using this
 obtain ⟨z0, e0, w0⟩ := opens_sort _ _ _ h0
 obtain ⟨z1, e1, w1⟩ := opens_sort _ _ _ h1
 obtain ⟨z2, e2, w2⟩ := opens_int _ _ _ h2
 obtain ⟨z3, e3, w3⟩ := opens_int _ _ _ h3
 obtain ⟨A4, L4, C4, e4, w4, hc4, _⟩ := open_rules h4
 obtain ⟨A5, L5, C5, e5, w5, hc5, _⟩ := open_finals h5
 simp only [List.cons.injEq, and_true] at e0 e1 e2 e3 e4 e5
 exact ⟨⟨z0, z1, z2, z3, A4, C4, L4, A5, C5, L5⟩, by rw [e0, e1, e2, e3, e4, e5]; rfl, ⟨⟨w0, w1, w2, w3⟩, w4, w5⟩⟩
theorem open_desc {fuel : Nat} {cs : Array Value} {x : DataW H × List MemPlace} (h : DataW.trod enc Tryz.prog W base spare held fuel 26 cs.toList = some x) : ∃ d : DescI, cs = #[.int .i64 d.i, .int .i64 d.o, .int .i64 d.n, .int .i64 d.s, .slice d.ra d.rs.length d.rc, .slice d.fa d.fs.length d.fc] ∧ DescR SpI d W := by
 obtain ⟨d, e, w⟩ := opens_desc _ _ _ h
 refine ⟨d, ?_, w⟩
 apply Array.ext'
 rw [e]; rfl
end
end
end Go.Proofs.YtlmkokeapbleoaaGreat
