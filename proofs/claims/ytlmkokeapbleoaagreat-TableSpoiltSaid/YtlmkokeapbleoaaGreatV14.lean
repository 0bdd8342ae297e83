/- Contracts and plain laws that the proof leans on. Condition: as each theorem says. -/
import Derived.Test.YtlmkokeapbleoaaGreatV13
import Derived.Test.YtlmkokeapbleoaaGreatV01
import Derived.Great.Walk
import Derived.Laws.BytesArg
import Derived.Laws.CopyOwn
import Derived.Test.YtlmkokeapbleoaaGreatV09
import Derived.Test.YtlmkokeapbleoaaGreatV12
import Derived.Test.YtlmkokeapbleoaaGreatV04
import Derived.Test.YtlmkokeapbleoaaGreatV11
import Derived.Test.YtlmkokeapbleoaaGreatV07
import Derived.Laws.Tables
import Derived.Great.Ranges
set_option maxRecDepth 100000
set_option maxHeartbeats 64000000
set_option linter.unusedVariables false
set_option linter.unusedSimpArgs false
namespace Go.Proofs.YtlmkokeapbleoaaGreat
open Go.RowKit
section
section
variable {w0 w : World} {F : World → Prop}
theorem free1_st (hK : Hid (St w0 w F)) (r : RuleI) (hr : r.gs.length ≤ 9223372036854775807) (v : Bool) (hv : Hid (pB (r.gs = []) = v)) :
  Calls Tryz.prog 122 #[.agg #[.int .i64 r.fr, .int .i64 r.dst, .slice r.ga r.gs.length r.gc, .int .i64 r.e, .slice r.o.a r.o.l.length r.o.c]] w (RetV w0 (.bool v) F) := by
 have HK := St.box hK (ruleC r) 102
 simp only [ruleC] at HK
 by_cases h0 : r.gs = []
 ·have h1 : ((r.gs.length : Int) == 0) = true := by rw [h0]; rfl
  obtain rfl := pB_t hv h0
  clear h0
  go_enter Tryz.func122, Tryz.ntmps122
  go_wp2_with fail
  go_ret
  exact ⟨rfl, Lh (HK.out.weaken fun _ h => h.2)⟩
 ·have h1 : ((r.gs.length : Int) == 0) = false := by
   rw [beq_eq_false_iff_ne]
   intro h
   exact h0 (List.eq_nil_of_length_eq_zero (by omega))
  obtain rfl := pB_f hv h0
  clear h0
  go_enter Tryz.func122, Tryz.ntmps122
  go_wp2_with fail
  go_ret
  exact ⟨rfl, Lh (HK.out.weaken fun _ h => h.2)⟩
def FreeI (rs : List RuleI) : Prop := ∀ r ∈ rs, r.gs ≠ []
def RetIx2 (w0 : World) (v : Bool) (F : World → Prop) (e : Ending) (w' : World) : Prop := ∃ r : Int, e = .returned (.int .i64 r) ∧ ((v = true ∧ r = -1) ∨ (v = false ∧ 0 ≤ r)) ∧ Hid (St w0 w' F)
theorem indexR_st (hK : Hid (St w0 w F)) {ra : Option Addr} {rs : List RuleI} (hr : ∀ W, F W → RulesAt Lst ra rs W) (rc : Nat) (v : Bool) (hv : Hid (pB (FreeI rs) = v)) :
  Calls Tryz.prog 155 #[.slice ra rs.length rc, .func (.func 122) #[] #[]] w (RetIx2 w0 v F) := by
 have HR := Lh hr
 have hln := (hr _ hK.out.now).ln
 clear hr
 go_enter Tryz.func155, Tryz.ntmps155
 go_wp2_with fail
 go_loopw [8] (fun iv wr => ∃ m : Nat, m ≤ rs.length ∧ iv = .int .i64 m ∧ Hid (FreeI (rs.take m)) ∧ Hid (St w0 wr F)) (fun iv _ => rs.length - (intOf iv).toNat)
 case atStart => exact ⟨0, Nat.zero_le _, rfl, Lh (fun i hi => by simp at hi), hK⟩
 case round =>
 obtain ⟨m, hm, rfl, HF, HK⟩ := hrel
 by_cases hlt : m < rs.length
 ·obtain ⟨rb, off, r, rfl, hx, hw, hd0, hd1, hd2, hd3, hd4⟩ := (HR.out _ HK.out.now).at_ hlt
  have HX := Lh hx
  have hgl := hw.2.1.2
  obtain ⟨vr, HVR⟩ : ∃ vr, Hid (pB (r.gs = []) = vr) := ⟨_, rfl⟩
  have hmr : (m : Int) < (rs.length : Int) := by omega
  clear hx hw
  go_wp2_with fail
  refine (free1_st HK r hgl vr HVR).mono ?_
  rintro e w1 ⟨rfl, HK1⟩
  rcases vr with _ | _
  ·have HN : Hid (FreeI (rs.take (m + 1))) := Lh fun q hq => by
    rw [take_snoc? HX.out] at hq
    rcases List.mem_append.1 hq with hq | hq
    ·exact HF.out q hq
    ·simp at hq; subst hq
     intro h
     have := pB_true h
     rw [HVR.out] at this; cases this
   go_wp2_with fail
   exact ⟨⟨m + 1, by omega, by go_num, HN, HK1⟩, by simp [intOf]; omega⟩
  ·obtain rfl := pB_f hv (fun h => h r (List.mem_of_getElem? HX.out) (pB_iff.1 HVR.out))
   go_wp2_with fail
   go_ret
   exact ⟨m, rfl, .inr ⟨rfl, by omega⟩, HK1⟩
 ·obtain rfl : m = rs.length := by omega
  have hd : decide (rs.length < rs.length) = false := by simp
  obtain rfl := pB_t hv (by have := HF.out; rwa [List.take_length] at this)
  go_wp2_with fail
  go_ret
  exact ⟨-1, rfl, .inl ⟨rfl, rfl⟩, HK⟩
theorem containsR_st (hK : Hid (St w0 w F)) {ra : Option Addr} {rs : List RuleI} (hr : ∀ W, F W → RulesAt Lst ra rs W) (rc : Nat) (v : Bool) (hv : Hid (pB (FreeI rs) = v)) :
  Calls Tryz.prog 106 #[.slice ra rs.length rc, .func (.func 122) #[] #[]] w (RetV w0 (.bool (!v)) F) := by
 go_enter Tryz.func106, Tryz.ntmps106
 go_wp2_with fail
 refine (indexR_st hK hr rc v hv).mono ?_
 rintro e w1 ⟨r, rfl, hr, HK1⟩
 rcases hr with ⟨rfl, rfl⟩ | ⟨rfl, hr⟩
 all_goals
  go_wp2_with fail
  go_ret
  exact ⟨rfl, HK1⟩
theorem Free_st (hK : Hid (St w0 w F)) (d : DescI) (hd : ∀ W, F W → DescW d W) (v : Bool) (hv : Hid (pB (FreeI d.rs) = v)) :
  Calls Tryz.prog 71 #[.agg #[.int .i64 d.i, .int .i64 d.o, .int .i64 d.n, .int .i64 d.s, .slice d.ra d.rs.length d.rc, .slice d.fa d.fs.length d.fc]] w (RetV w0 (.bool v) F) := by
 have HK := St.box hK [.int .i64 d.i, .int .i64 d.o, .int .i64 d.n, .int .i64 d.s, .slice d.ra d.rs.length d.rc, .slice d.fa d.fs.length d.fc] 26
 have HD := Lh hd
 have q4 := HK.out.now.1 4 _ rfl
 clear hd
 go_enter Tryz.func71, Tryz.ntmps71
 go_wp2_with fail
 refine (containsR_st HK (fun _ h => (HD.out _ h.2).rules) d.rc v hv).mono ?_
 rintro e w1 ⟨rfl, HK1⟩
 have hnn : (!!v) = v := Bool.not_not v
 go_wp2_with fail
 go_ret
 exact ⟨by simp, Lh (HK1.out.weaken fun _ h => h.2)⟩
end
end
section
def zeroT : Array Value := (List.replicate 256 (Value.int .u8 0) ++ [Value.slice none 0 0, Value.slice none 0 0, Value.slice none 0 0]).toArray
def zeroTab : TabI := ⟨List.replicate 256 0, none, 0, [], none, 0, [], none, 0, []⟩
theorem zrep_at (n : Nat) (tl : List Value) (i : Nat) (x : Int) (h : (List.replicate n (0 : Int))[i]? = some x) : (List.replicate n (Value.int .u8 0) ++ tl).toArray[i]? = some (Value.int .u8 x) := by
 obtain ⟨hi, hx⟩ := List.getElem?_eq_some_iff.1 h
 rw [List.getElem_replicate] at hx
 subst hx
 rw [List.length_replicate] at hi
 rw [List.getElem?_toArray, List.getElem?_append_left (by simpa using hi), List.getElem?_replicate, if_pos hi]
theorem zeroT_size : zeroT.size = 259 := by kernel_rfl
theorem zeroT_C : TabC zeroT zeroTab := by
 refine ⟨zeroT_size, List.length_replicate, fun x hx => ?_, fun i x hx => ?_, by kernel_rfl, by kernel_rfl, by kernel_rfl⟩
 ·have := List.eq_of_mem_replicate hx; omega
 ·exact zrep_at 256 _ i x hx
theorem info_tabZ : (Tryz.prog.info? 49).map (fun i => i.zero) = some (some (.agg zeroT)) := by kernel_rfl
theorem info_tabS : (Tryz.prog.info? 49).map (·.size) = some 259 := by kernel_rfl
theorem info_tabS' : (Tryz.prog.info? 49).map (·.size) = some zeroT.size := by rw [zeroT_size]; exact info_tabS
theorem built_tab : Tryz.prog.built 49 [] = some zeroT := by kernel_rfl
section
variable {P : Program} {w : World} {ops : Array Oper} {rest : List Oper} {o : Oper} {a : Act} {Q : Exit → Act → World → Prop}
theorem wpList_allocZ (hgd : o.guard = none) (t : TypeId) (ho : o.op = .alloc t) (cs : Array Value) (hz : (P.info? t).map (fun i => i.zero) = some (some (.agg cs)))
  (h : wpList P ops Q rest (a.put o.dst (.pointer (some ⟨w.heap.size, 0, none⟩))) (w.alloc (.cells cs t))) : wpList P ops Q (o :: rest) a w := by
 refine Great.wpList_runTo hgd o.dst rfl _ _ ?_ h
 cases hq : P.info? t with
 | none => simp [hq] at hz
 | some i =>
  have hzz : i.zero = some (.agg cs) := by simpa [hq] using hz
  unfold execOp
  simp [ho, Instr.alloc, zeroValue, typeInfo, hq, hzz, newVar, newRow, Value.cells]
end
section
variable {P : Program} {w : World} {ops : Array Oper} {rest : List Oper} {o : Oper} {a : Act} {Q : Exit → Act → World → Prop}
theorem wpList_buildZ (hgd : o.guard = none) (t : TypeId) (ho : o.op = .build t #[]) (cs : Array Value) (hz : P.built t [] = some cs)
  (h : wpList P ops Q rest (a.put o.dst (.agg cs)) w) : wpList P ops Q (o :: rest) a w := by
 refine wpList_build hgd t #[] ho (by simp [hz]) ?_
 simpa [hz] using h
theorem wpList_load_rowG (hw : Region.wanted o (yielded ops a.tmps) = true) (ty : TypeId) (x : Operand) (ho : o.op = .load ty x) (g : Nat) (hx : a.eval x = .pointer (some ⟨g, 0, none⟩))
  (t : TypeId) (cs : Array Value) (fr : Nat × Nat) (d : TypeDesc) (hg : w.heap[g]? = some (.cells cs t fr))
  (hu : P.underlying ty = some d) (hd : (match d with | .struct _ | .array _ _ => true | _ => false) = true) (hi : (P.info? ty).map (·.size) = some cs.size)
  (h : wpList P ops Q rest (a.put o.dst (.agg cs)) w) : wpList P ops Q (o :: rest) a w :=
 wpList_step fun K hK => by rw [if_pos hw]; exact wp_load_row ty x ho g hx t cs fr d hg hu hd hi (hK _ _ h)
end
theorem results_row2 {P : Program} {fn : Func} {p q : Tmp} {ty : TypeId} (h : fn.results = #[.cell p ty, .tmp q]) (tmps : Array Value) (w : World) (g : Nat) (t : TypeId) (cs : Array Value) (fr : Nat × Nat) (d : TypeDesc) (v : Value)
  (hp : tmps.getD p undef = .pointer (some ⟨g, 0, none⟩)) (hq : tmps.getD q undef = v) (hg : w.heap[g]? = some (.cells cs t fr))
  (hu : P.underlying ty = some d) (hd : (match d with | .struct _ | .array _ _ => true | _ => false) = true) (hi : (P.info? ty).map (·.size) = some cs.size) :
  (results fn tmps).run P w = .ok (.tuple #[.agg cs, v]) w := by
 have hp' : tmps[p]?.getD undef = .pointer (some ⟨g, 0, none⟩) := by simpa using hp
 have hq' : tmps[q]?.getD undef = v := by simpa using hq
 simp [results, h, hp', hq', asAddr, run_loadVar_row w g t ty cs fr d hg hu hd hi]
theorem cells_one {cs : Array Value} {T : TabI} (h : TabC cs T) : cs.all (·.oneCell') = true := by
 refine Array.all_eq_true.2 fun i hi => ?_
 have hs := h.size
 have hg : cs[i]? = some cs[i] := Array.getElem?_eq_getElem hi
 by_cases h1 : i < 256
 ·have hx : T.cls[i]? = some (T.cls[i]'(by rw [h.ln]; exact h1)) := List.getElem?_eq_getElem _
  rw [h.cl i _ hx] at hg
  injection hg with hg
  rw [← hg]; rfl
 ·by_cases h2 : i = 256
  ·subst h2; rw [h.c1] at hg; injection hg with hg; rw [← hg]; rfl
  ·by_cases h3 : i = 257
   ·subst h3; rw [h.c2] at hg; injection hg with hg; rw [← hg]; rfl
   ·obtain rfl : i = 258 := by omega
    rw [h.c3] at hg; injection hg with hg; rw [← hg]; rfl
end
def CompSaid (d : DescI) (T : TabL) (v : Int) : Prop :=
 (v = 2 ∧ ¬ (DescOk d.L ∧ d.i = 1 ∧ d.o = 1) ∧ T = zeroTab.L) ∨
 ((DescOk d.L ∧ d.i = 1 ∧ d.o = 1) ∧ (
  (v = 1 ∧ ¬ FreeI d.rs ∧ T = zeroTab.L) ∨
  (FreeI d.rs ∧ (
   (v = 6 ∧ DClash d.L ∧ T = zeroTab.L) ∨
   (¬ DClash d.L ∧ (
    (v = 4 ∧ splitL [(0, 255)] (bodies (famI d)) = none ∧ T = zeroTab.L) ∨
    (∃ P, splitL [(0, 255)] (bodies (famI d)) = some P ∧ (
     (v = 4 ∧ layL d.L (P.map leastI) 4098 0 ⟨[(d.s, [])], [], []⟩ [] = none ∧ T = zeroTab.L) ∨
     (v = 0 ∧ ∃ x, layL d.L (P.map leastI) 4098 0 ⟨[(d.s, [])], [], []⟩ [] = some x ∧ T = tabL d.L (classes P 256) x)))))))))
def RetComp (w0 : World) (d : DescI) (F : World → Prop) (e : Ending) (w' : World) : Prop :=
 ∃ cs T v, e = .returned (.tuple #[.agg cs, .int .i64 v]) ∧ Hid (TabC cs T) ∧ Hid (St w0 w' (fun W => TabW T W ∧ F W)) ∧ Hid (CompSaid d T.L v)
def famL (D : DescL) : List (List Sp) := D.rules.flatMap (·.gs) ++ D.fins.flatMap (·.gs)
theorem bodies_flat {α : Type} (l : List α) (f : α → List (Item Sp)) : bodies (l.flatMap f) = l.flatMap fun x => bodies (f x) := by
 unfold bodies
 rw [List.map_flatMap]
theorem famI_L (d : DescI) : bodies (famI d) = famL d.L := by
 have h1 : bodies (d.rs.flatMap (·.gs) ++ d.fs.flatMap (·.gs)) = bodies (d.rs.flatMap (·.gs)) ++ bodies (d.fs.flatMap (·.gs)) := by unfold bodies; rw [List.map_append]
 show bodies (d.rs.flatMap (·.gs) ++ d.fs.flatMap (·.gs)) = (d.rs.map RuleI.L).flatMap (·.gs) ++ (d.fs.map FinI.L).flatMap (·.gs)
 rw [h1, bodies_flat, bodies_flat, List.flatMap_map, List.flatMap_map]
 rfl
namespace Drv
structure M where
 nxt : Nat → Int → Int
 eat : Nat → Nat
 dst : Nat → Nat
 wr : Nat → List Int → List Int
structure S where
 node : Nat
 held : List Int
 rej : Bool
def rejd : S := ⟨0, [], true⟩
def step (m : M) (s : S) (x : Int) : S × List Int × List Int :=
 if 0 ≤ m.nxt s.node x then (⟨(m.nxt s.node x).toNat, s.held ++ [x], false⟩, [], [])
 else if m.nxt s.node x = -1 then (rejd, [], [])
 else (⟨m.dst (-2 - m.nxt s.node x).toNat, [], false⟩, m.wr (-2 - m.nxt s.node x).toNat (s.held ++ [x]),
  (s.held ++ [x]).drop (max 1 (m.eat (-2 - m.nxt s.node x).toNat)))
theorem step_dec (m : M) (s : S) (x : Int) (r : List Int) :
  (step m s x).1.held.length + ((step m s x).2.2 ++ r).length < s.held.length + (r.length + 1) ∨
  ((step m s x).1.held.length + ((step m s x).2.2 ++ r).length = s.held.length + (r.length + 1) ∧
   ((step m s x).2.2 ++ r).length < r.length + 1) := by
 unfold step
 split
 ·right; simp; omega
 ·split
  ·left; simp [rejd]; omega
  ·left; simp; omega
def go (m : M) (s : S) : List Int → S × List Int
 | [] => (s, [])
 | x :: r =>
  if s.rej then (s, []) else
  ((go m (step m s x).1 ((step m s x).2.2 ++ r)).1,
   (step m s x).2.1 ++ (go m (step m s x).1 ((step m s x).2.2 ++ r)).2)
termination_by t => (s.held.length + t.length, t.length)
decreasing_by
 all_goals
  have h := step_dec m s x r
  simp only [List.length_cons]
  rcases h with h | ⟨h, h'⟩
  ·exact Prod.Lex.left _ _ h
  ·rw [h]; exact Prod.Lex.right _ h'
theorem go_nil (m : M) (s : S) : go m s [] = (s, []) := by rw [go]
theorem go_rej (m : M) (s : S) (h : s.rej = true) (t : List Int) : go m s t = (s, []) := by
 cases t with
 | nil => rw [go]
 | cons x r => rw [go, if_pos h]
theorem go_cons (m : M) (s : S) (h : s.rej = false) (x : Int) (r : List Int) :
  go m s (x :: r) = ((go m (step m s x).1 ((step m s x).2.2 ++ r)).1,
   (step m s x).2.1 ++ (go m (step m s x).1 ((step m s x).2.2 ++ r)).2) := by
 rw [go, if_neg (by simp [h])]
structure Right (m : M) (H : Nat → Nat) (N A most : Nat) : Prop where
 zero : H 0 = 0
 pos : 0 < N
 next : ∀ k x, k < N → 0 ≤ m.nxt k x → (m.nxt k x).toNat < N ∧ H (m.nxt k x).toNat = H k + 1
 act : ∀ k x, k < N → m.nxt k x < -1 → (-2 - m.nxt k x).toNat < A ∧ m.eat (-2 - m.nxt k x).toNat ≤ H k + 1
 eat : ∀ a, a < A → 1 ≤ m.eat a
 dst : ∀ a, a < A → m.dst a < N ∧ H (m.dst a) = 0
 wr : ∀ a w, a < A → (m.wr a w).length ≤ most
structure Ok (H : Nat → Nat) (N : Nat) (s : S) : Prop where
 lt : s.node < N
 held : s.held.length = H s.node
 rej : s.rej = true → s = rejd
theorem Ok.step {m : M} {H : Nat → Nat} {N A most : Nat} (hr : Right m H N A most) {s : S} (h : Ok H N s) (x : Int) :
  Ok H N (step m s x).1 := by
 unfold Drv.step
 split
 ·rename_i h0
  have := hr.next s.node x h.lt h0
  exact ⟨this.1, by simp [this.2, h.held], by simp⟩
 ·split
  ·exact ⟨hr.pos, by simp [rejd, hr.zero], fun _ => rfl⟩
  ·rename_i h0 h1
   have := hr.act s.node x h.lt (by omega)
   have h2 := hr.dst _ this.1
   exact ⟨h2.1, by simp [h2.2], by simp⟩
theorem Ok.go {m : M} {H : Nat → Nat} {N A most : Nat} (hr : Right m H N A most) : ∀ (s : S) (xs : List Int),
  Ok H N s → Ok H N (go m s xs).1 := by
 intro s xs
 induction s, xs using go.induct (m := m) with
 | case1 s => intro h; rw [go_nil]; exact h
 | case2 s x r hq => intro h; rw [go_rej m s hq]; exact h
 | case3 s x r hq ih =>
  intro h
  rw [go_cons m s (by simpa using hq)]
  exact ih (h.step hr x)
theorem bound_step {m : M} {H : Nat → Nat} {N A most : Nat} (hr : Right m H N A most) {s : S} (h : Ok H N s) (x : Int) :
  (step m s x).2.1.length + most * ((step m s x).1.held.length + (step m s x).2.2.length) ≤ most * (s.held.length + 1) := by
 unfold step
 split
 ·simp
 ·split
  ·simp [rejd]
  ·rename_i h0 h1
   have ha := hr.act s.node x h.lt (by omega)
   have hw := hr.wr _ (s.held ++ [x]) ha.1
   have he := hr.eat _ ha.1
   generalize (-2 - m.nxt s.node x).toNat = a at *
   have hm : max 1 (m.eat a) = m.eat a := by omega
   simp only [hm, List.length_nil, List.length_drop, List.length_append, List.length_cons, Nat.zero_add]
   have : most * (s.held.length + 1 - m.eat a) ≤ most * s.held.length := Nat.mul_le_mul_left _ (by omega)
   rw [Nat.mul_add, Nat.mul_one]; omega
theorem bound {m : M} {H : Nat → Nat} {N A most : Nat} (hr : Right m H N A most) : ∀ (s : S) (xs : List Int),
  Ok H N s → (go m s xs).2.length + most * (go m s xs).1.held.length ≤ most * (s.held.length + xs.length) := by
 intro s xs
 induction s, xs using go.induct (m := m) with
 | case1 s => intro _; rw [go_nil]; simp
 | case2 s x r hq => intro h; rw [go_rej m s hq]; simp; exact Nat.mul_le_mul_left _ (by omega)
 | case3 s x r hq ih =>
  intro h
  rw [go_cons m s (by simpa using hq)]
  have h1 := ih (h.step hr x)
  have h2 := bound_step hr h x
  simp only [List.length_append, List.length_cons] at h1 ⊢
  rw [Nat.mul_add] at *
  rw [Nat.mul_add] at h1 h2 ⊢
  rw [Nat.mul_one] at *
  omega
end Drv
def mostL (T : TabL) : Nat := (T.ends.map List.length).foldl max ((T.acts.map fun a => a.out.length).foldl max 0)
def heldC : List Int := (List.range 256).map fun x => if x = 97 then 1 else if x = 98 then 2 else 0
def heldX : TermL := ⟨0, 0, 21, 0, 120, []⟩
def heldT : TabL := ⟨heldC, [⟨0, [-1, 1, -1], 0⟩, ⟨1, [-2, -2, -3], -1⟩], [⟨2, 0, []⟩, ⟨1, 0, [heldX]⟩], [[]]⟩
theorem heldC_lt : ∀ c ∈ heldC, 0 ≤ c ∧ c < 3 := by
 intro c hc
 obtain ⟨x, _, rfl⟩ := List.mem_map.1 hc
 split
 ·omega
 ·split <;> omega
theorem heldX_ok (n : Int) : TermOk n heldX :=
 ⟨⟨⟨by decide, by decide⟩, ⟨by decide, by decide⟩, ⟨by decide, by decide, by decide, by decide, by decide, by decide, .inl rfl⟩, ⟨fun i p q hp => (by simp [heldX] at hp), by decide⟩⟩, fun p hp => (by cases hp)⟩
theorem heldT_ok : TabOk heldT := by
 have hw : widthL heldT = 3 := rfl
 refine ⟨⟨by decide, by decide, by decide, _, rfl, rfl, by decide, by decide⟩, fun c hc => ?_, fun a ha => ?_, fun l hl => ?_, fun n hn => ?_⟩
 ·rw [hw]; exact (heldC_lt c hc).2
 ·rcases List.mem_cons.1 ha with h | ha
  ·subst h; exact ⟨by decide, by decide, by decide, ⟨_, rfl, rfl⟩, by decide⟩
  ·obtain rfl := List.mem_singleton.1 ha
   exact ⟨by decide, by decide, by decide, ⟨_, rfl, rfl⟩, by decide⟩
 ·obtain rfl := List.mem_singleton.1 hl; decide
 ·rw [hw]
  rcases List.mem_cons.1 hn with h | hn
  ·subst h
   refine ⟨⟨by decide, by decide, rfl, by decide, by decide⟩, fun _ => ⟨_, rfl, fun t ht => (by cases ht)⟩, fun x hx => ?_⟩
   rcases List.mem_cons.1 hx with h | hx
   ·exact .inl h
   ·rcases List.mem_cons.1 hx with h | hx
    ·subst h; exact .inr ⟨by decide, .inl ⟨by decide, _, rfl, rfl⟩⟩
    ·exact .inl (List.mem_singleton.1 hx)
  ·obtain rfl := List.mem_singleton.1 hn
   refine ⟨⟨by decide, by decide, rfl, by decide, by decide⟩, fun h => absurd h (by decide), fun x hx => ?_⟩
   rcases List.mem_cons.1 hx with h | hx
   ·subst h; exact .inr ⟨by decide, .inr ⟨by decide, _, rfl, by decide, fun t ht => (by cases ht)⟩⟩
   ·rcases List.mem_cons.1 hx with h | hx
    ·subst h; exact .inr ⟨by decide, .inr ⟨by decide, _, rfl, by decide, fun t ht => (by cases ht)⟩⟩
    ·obtain rfl := List.mem_singleton.1 hx
     refine .inr ⟨by decide, .inr ⟨by decide, _, rfl, by decide, fun t ht => ?_⟩⟩
     obtain rfl := List.mem_singleton.1 ht
     exact heldX_ok _
theorem heldX_val {w : List Int} (h : WinOk w) : pB (ValOk heldX w) = true ∧ valN heldX w = 120 := by
 have hi : innerT heldX w = 120 := by simp [innerT, innerTo, heldX]
 have hv : ValOk heldX w := ⟨h, fun p hp => (by cases hp), by rw [hi]; decide, by rw [hi]; decide, by rw [hi]; decide⟩
 refine ⟨pB_true hv, ?_⟩
 unfold valN
 rw [hi]; decide
theorem held_most : mostL heldT = 1 := by decide
def heldA : List Sp := [(97, 97)]
def heldB : List Sp := [(98, 98)]
def heldN : List Sp := [(0, 97), (99, 255)]
def heldD : DescL := ⟨1, 1, 1, 0, [⟨0, 0, [heldA, heldB], 1, [heldX]⟩, ⟨0, 0, [heldA, heldN], 2, []⟩], [⟨0, [], []⟩]⟩
def heldP : List (List Sp) := [[(0, 96), (99, 255)], [(97, 97)], [(98, 98)]]
theorem held_guard {g : List Sp} (h : g = heldA ∨ g = heldB ∨ g = heldN) : GuardOk 1 g := by
 rcases h with rfl | rfl | rfl
 ·exact ⟨by simp [heldA], by simp [heldA], by simp [heldA, Plain, PlainF], fun x hx => by rw [inD_iff]; simp only [heldA, Mem, InS, or_false] at hx; omega⟩
 ·exact ⟨by simp [heldB], by simp [heldB], by simp [heldB, Plain, PlainF], fun x hx => by rw [inD_iff]; simp only [heldB, Mem, InS, or_false] at hx; omega⟩
 ·exact ⟨by simp [heldN], by simp [heldN], by simp [heldN, Plain, PlainF], fun x hx => by rw [inD_iff]; simp only [heldN, Mem, InS, or_false] at hx; omega⟩
theorem held_fits (gs : List (List Sp)) : FitsP 1 1 gs heldX := by
 have h := heldX_ok (gs.length : Int)
 refine ⟨⟨.inl rfl, .inl rfl, h.1, fun p hp => (by cases hp), fun h => (by cases h), fun h => (by cases h)⟩, fun w hw => ?_⟩
 have h2 := heldX_val hw.2
 refine ⟨pB_iff.1 h2.1, ?_⟩
 rw [h2.2, inD_iff]; omega
theorem heldD_ok : DescOk heldD := by
 refine ⟨⟨.inl rfl, .inl rfl, by decide, by decide, ⟨by decide, by decide⟩, by decide, by decide⟩, fun r hr => ?_, fun f hf => ?_, ?_⟩
 ·rcases List.mem_cons.1 hr with rfl | hr
  ·refine ⟨⟨by decide, by decide⟩, ⟨by decide, by decide⟩, ⟨by simp, fun g hg => held_guard ?_⟩, by simp <;> decide, by simp, by simp, fun t ht => ?_⟩
   ·simp at hg; rcases hg with rfl | rfl <;> simp
   ·rw [List.mem_singleton] at ht; subst ht; exact held_fits _
  ·rw [List.mem_singleton] at hr; subst hr
   refine ⟨⟨by decide, by decide⟩, ⟨by decide, by decide⟩, ⟨by simp, fun g hg => held_guard ?_⟩, by simp <;> decide, by simp, by simp, fun t ht => (by cases ht)⟩
   simp at hg; rcases hg with rfl | rfl <;> simp
 ·have hf' : f = ⟨0, [], []⟩ := by simpa [heldD] using hf
  subst hf'
  exact ⟨⟨by decide, by decide⟩, ⟨by simp, fun g hg => (by cases hg)⟩, by simp, fun t ht => (by cases ht)⟩
 ·unfold CycP; decide
theorem held_free : FreeP heldD := by
 intro r hr
 simp [heldD] at hr
 rcases hr with rfl | rfl <;> simp
theorem held_noclash : ¬ DClash heldD := by
 rintro ⟨i, k, a, b, hik, ha, hb, h1, h2, h3, h4⟩
 have hk : k < 3 := by
  have := (List.getElem?_eq_some_iff.1 hb).1
  simpa [heldD] using this
 have h5 : (i = 0 ∧ k = 1) ∨ (i = 0 ∧ k = 2) ∨ (i = 1 ∧ k = 2) := by omega
 rcases h5 with ⟨rfl, rfl⟩ | ⟨rfl, rfl⟩ | ⟨rfl, rfl⟩
 ·simp [heldD] at ha hb
  subst ha; subst hb
  obtain ⟨x, hx, hy⟩ := h4 1 heldB heldN rfl rfl
  simp only [heldB, heldN, Mem, InS, or_false] at hx hy
  omega
 ·simp [heldD] at ha hb
  subst ha; subst hb
  have := h3 rfl rfl
  simp at this
 ·simp [heldD] at ha hb
  subst ha; subst hb
  have := h3 rfl rfl
  simp at this
theorem held_split : splitL [(0, 255)] (famL heldD) = some heldP := by
 have m1 : meetM [(0, 255)] [(97, 97)] = [(97, 97)] := meetL_eq ⟨by simp [Plain, PlainF], fun x => by simp only [InS, Mem, or_false]; omega⟩
 have d1 : minusL [(0, 255)] [(97, 97)] = [(0, 96), (98, 255)] := minusL_eq ⟨by simp [Plain, PlainF], fun x => by simp only [InS, Mem, or_false]; omega⟩
 have m2 : meetM [(0, 96), (98, 255)] [(98, 98)] = [(98, 98)] := meetL_eq ⟨by simp [Plain, PlainF], fun x => by simp only [InS, Mem, or_false]; omega⟩
 have d2 : minusL [(0, 96), (98, 255)] [(98, 98)] = [(0, 96), (99, 255)] := minusL_eq ⟨by simp [Plain, PlainF], fun x => by simp only [InS, Mem, or_false]; omega⟩
 have m3 : meetM [(97, 97)] [(98, 98)] = [] := meetL_eq ⟨by simp [Plain, PlainF], fun x => ⟨fun h => h.elim, fun h => by simp only [InS, Mem, or_false] at h; omega⟩⟩
 have d3 : minusL [(97, 97)] [(98, 98)] = [(97, 97)] := minusL_eq ⟨by simp [Plain, PlainF], fun x => by simp only [InS, Mem, or_false]; omega⟩
 have m4 : meetM [(0, 96), (99, 255)] [(97, 97)] = [] := meetL_eq ⟨by simp [Plain, PlainF], fun x => ⟨fun h => h.elim, fun h => by simp only [InS, Mem, or_false] at h; omega⟩⟩
 have d4 : minusL [(0, 96), (99, 255)] [(97, 97)] = [(0, 96), (99, 255)] := minusL_eq ⟨by simp [Plain, PlainF], fun x => by simp only [InS, Mem, or_false]; omega⟩
 have m5 : meetM [(97, 97)] [(97, 97)] = [(97, 97)] := meetL_eq ⟨by simp [Plain, PlainF], fun x => by simp only [InS, Mem, or_false]; omega⟩
 have d5 : minusL [(97, 97)] [(97, 97)] = [] := minusL_eq ⟨by simp [Plain, PlainF], fun x => ⟨fun h => h.elim, fun h => by simp only [InS, Mem, or_false] at h; omega⟩⟩
 have m6 : meetM [(98, 98)] [(97, 97)] = [] := meetL_eq ⟨by simp [Plain, PlainF], fun x => ⟨fun h => h.elim, fun h => by simp only [InS, Mem, or_false] at h; omega⟩⟩
 have d6 : minusL [(98, 98)] [(97, 97)] = [(98, 98)] := minusL_eq ⟨by simp [Plain, PlainF], fun x => by simp only [InS, Mem, or_false]; omega⟩
 have m7 : meetM [(0, 96), (99, 255)] [(0, 97), (99, 255)] = [(0, 96), (99, 255)] := meetL_eq ⟨by simp [Plain, PlainF], fun x => by simp only [InS, Mem, or_false]; omega⟩
 have d7 : minusL [(0, 96), (99, 255)] [(0, 97), (99, 255)] = [] := minusL_eq ⟨by simp [Plain, PlainF], fun x => ⟨fun h => h.elim, fun h => by simp only [InS, Mem, or_false] at h; omega⟩⟩
 have m8 : meetM [(97, 97)] [(0, 97), (99, 255)] = [(97, 97)] := meetL_eq ⟨by simp [Plain, PlainF], fun x => by simp only [InS, Mem, or_false]; omega⟩
 have d8 : minusL [(97, 97)] [(0, 97), (99, 255)] = [] := minusL_eq ⟨by simp [Plain, PlainF], fun x => ⟨fun h => h.elim, fun h => by simp only [InS, Mem, or_false] at h; omega⟩⟩
 have m9 : meetM [(98, 98)] [(0, 97), (99, 255)] = [] := meetL_eq ⟨by simp [Plain, PlainF], fun x => ⟨fun h => h.elim, fun h => by simp only [InS, Mem, or_false] at h; omega⟩⟩
 have d9 : minusL [(98, 98)] [(0, 97), (99, 255)] = [(98, 98)] := minusL_eq ⟨by simp [Plain, PlainF], fun x => by simp only [InS, Mem, or_false]; omega⟩
 have p1 : parts [(97, 97)] [] [[(0, 255)]] = [[(97, 97)], [(0, 96), (98, 255)]] := by simp [parts, m1, d1, addL]
 have s1 : stabS [[(97, 97)], [(0, 96), (98, 255)]] = [[(0, 96), (98, 255)], [(97, 97)]] := stabS_eq ⟨[1, 0], by decide, by simp, by simp [keyS]⟩
 have p2 : parts [(98, 98)] [] [[(0, 96), (98, 255)], [(97, 97)]] = [[(98, 98)], [(0, 96), (99, 255)], [(97, 97)]] := by simp [parts, m2, d2, m3, d3, addL]
 have s2 : stabS [[(98, 98)], [(0, 96), (99, 255)], [(97, 97)]] = heldP := stabS_eq ⟨[1, 2, 0], by decide, by simp [heldP], by simp [keyS]⟩
 have p3 : parts [(97, 97)] [] heldP = heldP := by simp [heldP, parts, m4, d4, m5, d5, m6, d6, addL]
 have s3 : stabS heldP = heldP := stabS_eq ⟨[0, 1, 2], by decide, by simp [heldP], by simp [heldP, keyS]⟩
 have p4 : parts [(0, 97), (99, 255)] [] heldP = heldP := by simp [heldP, parts, m7, d7, m8, d8, m9, d9, addL]
 have hf : famL heldD = [[(97, 97)], [(98, 98)], [(97, 97)], [(0, 97), (99, 255)]] := rfl
 rw [hf]
 unfold splitL
 rw [if_neg (by simp)]
 simp only [splitF]
 rw [p1, if_neg (by simp), s1, p2, if_neg (by simp), s2, p3, if_neg (by simp [heldP]), s3, p4, if_neg (by simp [heldP]), s3]
theorem normL_self {l : List Sp} (h : Plain l) : normL l = l := Rep.unique (normL_rep l).out (Rep.self h) (fun _ => Iff.rfl)
theorem held_least : heldP.map leastI = [0, 97, 98] := by
 unfold heldP
 simp only [List.map_cons, List.map_nil, leastI]
 rw [normL_self (by simp [Plain, PlainF]), normL_self (by simp [Plain, PlainF]), normL_self (by simp [Plain, PlainF])]
 rfl
theorem held_classes : classes heldP 256 = heldC := by decide +kernel
theorem held_lay : layL heldD [0, 97, 98] 4098 0 ⟨[(0, [])], [], []⟩ [] = some (⟨[(0, []), (0, [1])], [1, 0], [0]⟩, [⟨0, [-1, 1, -1], 0⟩, ⟨1, [-2, -2, -3], -1⟩]) := by kernel_rfl
theorem held_tab : tabL heldD heldC (⟨[(0, []), (0, [1])], [1, 0], [0]⟩, [⟨0, [-1, 1, -1], 0⟩, ⟨1, [-2, -2, -3], -1⟩]) = heldT := by kernel_rfl
theorem held_said {d : DescI} {T : TabL} {v : Int} (hd : d.L = heldD) (h : CompSaid d T v) : v = 0 ∧ T = heldT := by
 have hi : d.i = 1 := congrArg DescL.i hd
 have ho : d.o = 1 := congrArg DescL.o hd
 have hs : d.s = 0 := congrArg DescL.s hd
 rcases h with ⟨_, h, _⟩ | ⟨_, h⟩
 ·exact absurd ⟨by rw [hd]; exact heldD_ok, hi, ho⟩ h
 rcases h with ⟨_, h, _⟩ | ⟨_, h⟩
 ·refine absurd (fun r hr hg => ?_) h
  have h2 := held_free r.L (by rw [← hd]; exact List.mem_map.2 ⟨r, hr, rfl⟩)
  exact h2 (by unfold RuleI.L; rw [hg]; rfl)
 rcases h with ⟨_, h, _⟩ | ⟨_, h⟩
 ·rw [hd] at h; exact absurd h held_noclash
 rw [famI_L, hd, held_split] at h
 rcases h with ⟨_, h, _⟩ | ⟨P, hP, h⟩
 ·cases h
 injection hP with hP
 subst hP
 rw [held_least, hs, held_lay, held_classes] at h
 rcases h with ⟨_, h, _⟩ | ⟨hv, x, hx, hT⟩
 ·cases h
 injection hx with hx
 subst hx
 exact ⟨hv, hT.trans held_tab⟩
section
theorem results_cell1 {P : Program} {fn : Func} {p : Tmp} {ty : TypeId} (h : fn.results = #[.cell p ty]) (tmps : Array Value) (w : World) (g : Nat) (t : TypeId) (cs : Array Value) (fr : Nat × Nat) (d : TypeDesc)
    (hp : tmps.getD p undef = .pointer (some ⟨g, 0, none⟩)) (hg : w.heap[g]? = some (.cells cs t fr))
    (hu : P.underlying ty = some d) (hd : (match d with | .struct _ | .array _ _ => true | _ => false) = true) (hi : (P.info? ty).map (·.size) = some cs.size) :
    (results fn tmps).run P w = .ok (.agg cs) w := by
  have hp' : tmps[p]?.getD undef = .pointer (some ⟨g, 0, none⟩) := by simpa using hp
  simp [results, h, hp', asAddr, run_loadVar_row w g t ty cs fr d hg hu hd hi]
theorem infoDescS : (Tryz.prog.info? 26).map (·.size) = some 6 := by kernel_rfl
def allocL : World → List Obj → World
  | w, [] => w
  | w, o :: l => allocL (w.alloc o) l
theorem allocL_old (l : List Obj) : ∀ (w : World) (k : Nat), k < w.heap.size → (allocL w l).heap[k]? = w.heap[k]? := by
  induction l with
  | nil => intro w k _; rfl
  | cons o l ih => intro w k hk; rw [allocL, ih _ _ (by simp; omega), Below.heap_alloc _ _ _ hk]
theorem allocL_at (l : List Obj) : ∀ (w : World) (i : Nat) (o : Obj), l[i]? = some o → (allocL w l).heap[w.heap.size + i]? = some o := by
  induction l with
  | nil => intro w i o h; cases h
  | cons x l ih =>
    intro w i o h
    rw [allocL]
    cases i with
    | zero =>
      injection h with h
      subst h
      rw [allocL_old _ _ _ (by simp)]
      exact heap_alloc_new w x
    | succ i =>
      have h2 := ih (w.alloc x) i o h
      rw [show (w.alloc x).heap.size + i = w.heap.size + (i + 1) by simp; omega] at h2
      exact h2
theorem allocL_below (l : List Obj) : ∀ (w w0 : World) (n : Nat), Below n w0 w → n ≤ w.heap.size → Below n w0 (allocL w l) := by
  induction l with
  | nil => intro w w0 n h _; exact h
  | cons o l ih => intro w w0 n h hn; exact ih _ _ _ (h.alloc hn o) (by simp; omega)
theorem blk_sl {W : World} {size b n : Nat} {cs : Array Value} {t : TypeId} {fr : Nat × Nat} (h : W.heap[b]? = some (.cells cs t fr)) (hn : cs.toList.length = n * size) : Sl W size (some ⟨b, 0, none⟩) n cs.toList := by
  refine ⟨hn, fun _ => ⟨_, _, rfl, fun j u hu => ?_⟩⟩
  simp only [World.cell?, h]
  simpa using hu
def heldI (b : Nat) : DescI := ⟨1, 1, 1, 0, some ⟨b + 8, 0, none⟩, 2,
  [⟨0, 0, some ⟨b + 5, 0, none⟩, 2, [(some ⟨b + 1, 0, none⟩, 1, [(97, 97)]), (some ⟨b + 2, 0, none⟩, 1, [(98, 98)])], 1, ⟨some ⟨b + 6, 0, none⟩, 1, [⟨0, 0, 21, 0, 120, none, 0, []⟩]⟩⟩,
   ⟨0, 0, some ⟨b + 7, 0, none⟩, 2, [(some ⟨b + 1, 0, none⟩, 1, [(97, 97)]), (some ⟨b + 3, 0, none⟩, 2, [(0, 97), (99, 255)])], 2, ⟨none, 0, []⟩⟩],
  some ⟨b + 4, 0, none⟩, 1, [⟨0, none, 0, [], ⟨none, 0, []⟩⟩]⟩
theorem heldI_L (b : Nat) : (heldI b).L = heldD := rfl
def heldCs (b : Nat) : Array Value := #[.int .i64 1, .int .i64 1, .int .i64 1, .int .i64 0, .slice (some ⟨b + 8, 0, none⟩) 2 2, .slice (some ⟨b + 4, 0, none⟩) 1 1]
def heldO (b : Nat) : List Obj := [.cells (heldCs b) 26,
  .cells #[.int .i64 97, .int .i64 97] 129, .cells #[.int .i64 98, .int .i64 98] 129, .cells #[.int .i64 0, .int .i64 97, .int .i64 99, .int .i64 255] 129,
  .cells #[.int .i64 0, .slice none 0 0, .slice none 0 0] 134, .cells #[.slice (some ⟨b + 1, 0, none⟩) 1 1, .slice (some ⟨b + 2, 0, none⟩) 1 1] 103,
  .cells #[.int .i64 0, .int .i64 0, .int .i64 21, .int .i64 0, .int .i64 120, .slice none 0 0] 68,
  .cells #[.slice (some ⟨b + 1, 0, none⟩) 1 1, .slice (some ⟨b + 3, 0, none⟩) 2 2] 103,
  .cells #[.int .i64 0, .int .i64 0, .slice (some ⟨b + 5, 0, none⟩) 2 2, .int .i64 1, .slice (some ⟨b + 6, 0, none⟩) 1 1, .int .i64 0, .int .i64 0, .slice (some ⟨b + 7, 0, none⟩) 2 2, .int .i64 2, .slice none 0 0] 102]
theorem spw_all {l : List Sp} (h : ∀ p ∈ l, -1073741824 ≤ p.1 ∧ p.1 ≤ 1073741824 ∧ -1073741824 ≤ p.2 ∧ p.2 ≤ 1073741824) : SpW l := by
  intro p hp
  have h2 := h p hp
  omega
theorem held_W {W : World} {b : Nat} (h : ∀ i o, 0 < i → (heldO b)[i]? = some o → W.heap[b + i]? = some o) : DescW (heldI b) W := by
  have h1 := blk_sl (size := 2) (n := 1) (h 1 _ (by omega) rfl) rfl
  have h2 := blk_sl (size := 2) (n := 1) (h 2 _ (by omega) rfl) rfl
  have h3 := blk_sl (size := 2) (n := 2) (h 3 _ (by omega) rfl) rfl
  have h4 := blk_sl (size := 3) (n := 1) (h 4 _ (by omega) rfl) rfl
  have h5 := blk_sl (size := 1) (n := 2) (h 5 _ (by omega) rfl) rfl
  have h6 := blk_sl (size := 6) (n := 1) (h 6 _ (by omega) rfl) rfl
  have h7 := blk_sl (size := 1) (n := 2) (h 7 _ (by omega) rfl) rfl
  have h8 := blk_sl (size := 5) (n := 2) (h 8 _ (by omega) rfl) rfl
  have l1 : Lst (some ⟨b + 1, 0, none⟩) [(97, 97)] W := ⟨h1, spw_all (by intro p hp; simp at hp; subst hp; decide), by decide⟩
  have l2 : Lst (some ⟨b + 2, 0, none⟩) [(98, 98)] W := ⟨h2, spw_all (by intro p hp; simp at hp; subst hp; decide), by decide⟩
  have l3 : Lst (some ⟨b + 3, 0, none⟩) [(0, 97), (99, 255)] W := ⟨h3, spw_all (by intro p hp; simp at hp; rcases hp with rfl | rfl <;> decide), by decide⟩
  have i0 : I64 0 := i64_0
  have i1 : I64 1 := by unfold I64; decide
  have i2 : I64 2 := by unfold I64; decide
  have i21 : I64 21 := by unfold I64; decide
  have i120 : I64 120 := by unfold I64; decide
  refine ⟨⟨i1, i1, i1, i0⟩, ⟨h8, fun r hr => ?_, by show 2 ≤ 9223372036854775807; omega⟩, ⟨h4, fun f hf => ?_, by show 1 ≤ 9223372036854775807; omega⟩⟩
  · rcases List.mem_cons.1 hr with rfl | hr
    · refine ⟨⟨i0, i0, i1⟩, ⟨⟨h5, fun i hi => ?_⟩, by show 2 ≤ 9223372036854775807; omega⟩, ⟨h6, fun x hx => ?_, by show 1 ≤ 9223372036854775807; omega⟩⟩
      · rcases List.mem_cons.1 hi with rfl | hi
        · exact l1
        · obtain rfl := List.mem_singleton.1 hi; exact l2
      · obtain rfl := List.mem_singleton.1 hx
        exact ⟨⟨i0, i0, i21, i0, i120⟩, RowsAt.nil_ _ _ _ _ _⟩
    · obtain rfl := List.mem_singleton.1 hr
      refine ⟨⟨i0, i0, i2⟩, ⟨⟨h7, fun i hi => ?_⟩, by show 2 ≤ 9223372036854775807; omega⟩, RowsAt.nil_ _ _ _ _ _⟩
      rcases List.mem_cons.1 hi with rfl | hi
      · exact l1
      · obtain rfl := List.mem_singleton.1 hi; exact l3
  · obtain rfl := List.mem_singleton.1 hf
    exact ⟨i0, ⟨⟨⟨rfl, fun h => absurd h (by decide)⟩, fun i hi => (by cases hi)⟩, by show 0 ≤ 9223372036854775807; omega⟩, RowsAt.nil_ _ _ _ _ _⟩
section
variable {w0 w : World} {F : World → Prop}
theorem held_end (hK : Hid (St w0 w F)) : Hid (St w0 (allocL w (heldO w.heap.size)) (fun W => DescW (heldI w.heap.size) W ∧ F W)) := by
  have hb : Below w.heap.size w (allocL w (heldO w.heap.size)) := allocL_below _ _ _ _ (Below.refl _ _) (Nat.le_refl _)
  have hd : DescW (heldI w.heap.size) (allocL w (heldO w.heap.size)) := held_W fun i o hi ho => allocL_at _ _ _ _ ho
  exact Lh (hK.out.add hb fun V hV => hd.below (fun A l w w' h hb => h.below hb) hV)
theorem held17_st (hK : Hid (St w0 w F)) : Calls Tryz.prog 70 #[] w fun e w' => ∃ b, e = .returned (.agg (heldCs b)) ∧ Hid (St w0 w' (fun W => DescW (heldI b) W ∧ F W)) := by
  go_enter Tryz.func70, Tryz.ntmps70
  go_wp2_with fail
  exact bodyPost_ret (v := .agg (heldCs w.heap.size)) (results_cell1 rfl _ _ w.heap.size 26 (heldCs w.heap.size) (0, 0) _ rfl (allocL_at (heldO w.heap.size) w 0 _ rfl) Tryz.underlying26 rfl infoDescS) rfl ⟨w.heap.size, rfl, held_end hK⟩
theorem held_stage (b : Nat) : StageD (heldI b) := stageD _
end
end
def cntX (P : List (List Sp)) (x : Int) : Nat := P.countP fun b => hasB b x
theorem cntX_append (P Q : List (List Sp)) (x : Int) : cntX (P ++ Q) x = cntX P x + cntX Q x := by unfold cntX; rw [List.countP_append]
theorem cntX_one (b : List Sp) (x : Int) : cntX [b] x = if hasB b x then 1 else 0 := by
 unfold cntX; rw [List.countP_cons, List.countP_nil]; simp
theorem hasB_nil (x : Int) : hasB [] x = false := by
 rw [← Bool.not_eq_true, hasB_iff]; rintro ⟨_, _, h⟩; exact h
theorem cntX_addL (P : List (List Sp)) (b : List Sp) (x : Int) : cntX (addL P b) x = cntX P x + cntX [b] x := by
 unfold addL
 split
 ·rename_i h; subst h; rw [cntX_one, hasB_nil]; simp
 ·exact cntX_append _ _ _
theorem hasB_meet (b s : List Sp) (x : Int) : hasB (meetM b s) x = (hasB b x && hasB s x) := by
 rw [Bool.eq_iff_iff, hasB_iff, (meetL_rep b s).out.mem, Bool.and_eq_true, hasB_iff, hasB_iff]
theorem hasB_minus (b s : List Sp) (x : Int) : hasB (minusL b s) x = (hasB b x && !hasB s x) := by
 rw [Bool.eq_iff_iff, hasB_iff, (minusL_rep b s).out.mem, Bool.and_eq_true, hasB_iff, Bool.not_eq_true', ← Bool.not_eq_true, hasB_iff]
theorem cntX_parts (s : List Sp) (x : Int) (L P : List (List Sp)) : cntX (parts s P L) x = cntX P x + cntX L x := by
 induction L generalizing P with
 | nil => simp [parts, cntX]
 | cons b L ih =>
  have e : cntX (b :: L) x = cntX [b] x + cntX L x := cntX_append [b] L x
  rw [parts, ih, cntX_addL, cntX_addL, e, cntX_one, cntX_one, cntX_one, hasB_meet, hasB_minus]
  cases hasB b x <;> cases hasB s x <;> simp <;> omega
theorem StabRel.perm {P Q : List (List Sp)} (h : StabRel P Q) : Q.Perm P := by
 obtain ⟨ix, h1, rfl, _⟩ := h
 have h2 := h1.map (fun i => P[i]!)
 have e : (List.range P.length).map (fun i => P[i]!) = P := by
  apply List.ext_getElem?
  intro k
  rw [List.getElem?_map]
  by_cases hk : k < P.length
  ·rw [List.getElem?_range hk, List.getElem?_eq_getElem hk]
   simp [List.getElem?_eq_getElem hk]
  ·rw [List.getElem?_eq_none (by simp; omega), List.getElem?_eq_none (by omega)]; rfl
 rwa [e] at h2
theorem cntX_perm {P Q : List (List Sp)} (h : Q.Perm P) (x : Int) : cntX Q x = cntX P x := by unfold cntX; exact h.countP_eq _
theorem parts_mem {s c : List Sp} {L P : List (List Sp)} (h : c ∈ parts s P L) : c ∈ P ∨ ∃ b ∈ L, c = meetM b s ∨ c = minusL b s := by
 induction L generalizing P with
 | nil => exact .inl h
 | cons b L ih =>
  rcases ih h with h | ⟨b', h1, h2⟩
  ·have key : ∀ (Q : List (List Sp)) (y : List Sp), c ∈ addL Q y → c ∈ Q ∨ c = y := by
    intro Q y hy
    unfold addL at hy
    split at hy
    ·exact .inl hy
    ·rcases List.mem_append.1 hy with hy | hy
     ·exact .inl hy
     ·exact .inr (by simpa using hy)
   rcases key _ _ h with h | h
   ·rcases key _ _ h with h | h
    ·exact .inl h
    ·exact .inr ⟨b, by simp, .inl h⟩
   ·exact .inr ⟨b, by simp, .inr h⟩
  ·exact .inr ⟨b', List.mem_cons_of_mem _ h1, h2⟩
def alikeB (fam : List (List Sp)) (x y : Int) : Bool := fam.all fun s => hasB s x == hasB s y
theorem alikeB_snoc (fam : List (List Sp)) (s : List Sp) (x y : Int) : alikeB (fam ++ [s]) x y = (alikeB fam x y && (hasB s x == hasB s y)) := by simp [alikeB]
structure Blocks (r : List Sp) (fam P : List (List Sp)) : Prop where
 one : ∀ x, cntX P x = if hasB r x then 1 else 0
 same : ∀ b ∈ P, ∀ x y, hasB b x = true → (hasB b y = true ↔ (hasB r y = true ∧ alikeB fam x y = true))
theorem Blocks.start {r : List Sp} : Blocks r [] [r] := ⟨fun x => cntX_one r x, fun b hb x y hx => by simp at hb; subst hb; simp [alikeB]⟩
theorem Blocks.inr {r : List Sp} {fam P : List (List Sp)} (h : Blocks r fam P) {b : List Sp} (hb : b ∈ P) {x : Int} (hx : hasB b x = true) : hasB r x = true := ((h.same b hb x x hx).1 hx).1
theorem Blocks.next {r s : List Sp} {fam P : List (List Sp)} (h : Blocks r fam P) {Q : List (List Sp)} (hq : StabRel (parts s [] P) Q) : Blocks r (fam ++ [s]) Q := by
 refine ⟨fun x => ?_, fun c hc x y hx => ?_⟩
 ·rw [cntX_perm hq.perm, cntX_parts, show cntX [] x = 0 from rfl, Nat.zero_add]; exact h.one x
 ·have hc' := (hq.mem c).1 hc
  rcases parts_mem hc' with h0 | ⟨b, hb, rfl | rfl⟩
  ·cases h0
  ·rw [hasB_meet, Bool.and_eq_true] at hx
   rw [hasB_meet, Bool.and_eq_true, h.same b hb x y hx.1, alikeB_snoc, Bool.and_eq_true, hx.2, and_assoc]
   simp
  ·rw [hasB_minus, Bool.and_eq_true, Bool.not_eq_true'] at hx
   rw [hasB_minus, Bool.and_eq_true, h.same b hb x y hx.1, alikeB_snoc, Bool.and_eq_true, hx.2, and_assoc]
   simp
theorem stab_ex (P : List (List Sp)) : ∃ Q, StabRel P Q := by
 let le : Nat → Nat → Bool := fun i j => decide (keyS P[i]! < keyS P[j]! ∨ (keyS P[i]! = keyS P[j]! ∧ i ≤ j))
 have hp := List.mergeSort_perm (List.range P.length) le
 have hw := List.pairwise_mergeSort (le := le) (fun a b c h1 h2 => by simp only [le, decide_eq_true_eq] at *; omega) (fun a b => by simp only [le, Bool.or_eq_true, decide_eq_true_eq]; omega) (List.range P.length)
 refine ⟨_, (List.range P.length).mergeSort le, hp, rfl, ?_⟩
 have hnd : ((List.range P.length).mergeSort le).Nodup := hp.nodup_iff.2 List.nodup_range
 rw [List.pairwise_iff_getElem] at hw ⊢
 intro i j hi hj hij
 have h1 := hw i j hi hj hij
 simp only [le, decide_eq_true_eq] at h1
 have h2 : ((List.range P.length).mergeSort le)[i] ≠ ((List.range P.length).mergeSort le)[j] := by
  intro e
  rw [List.Nodup, List.pairwise_iff_getElem] at hnd
  exact hnd i j hi hj hij e
 rcases h1 with h1 | ⟨h1, h1'⟩
 ·exact .inl h1
 ·exact .inr ⟨h1, Nat.lt_of_le_of_ne h1' h2⟩
theorem stabS_rel (P : List (List Sp)) : StabRel P (stabS P) := by
 obtain ⟨Q, h⟩ := stab_ex P
 rw [stabS_eq h]; exact h
theorem splitF_blocks {r : List Sp} {fam : List (List Sp)} : ∀ {fam0 out P : List (List Sp)}, Blocks r fam0 out → splitF out fam = some P → Blocks r (fam0 ++ fam) P := by
 induction fam with
 | nil => intro fam0 out P h e; simp only [splitF] at e; injection e with e; subst e; rw [List.append_nil]; exact h
 | cons s fam ih =>
  intro fam0 out P h e
  simp only [splitF] at e
  split at e
  ·cases e
  ·have := ih (h.next (stabS_rel _)) e
   rwa [List.append_assoc] at this
theorem splitL_blocks {r : List Sp} {fam P : List (List Sp)} (h : splitL r fam = some P) : Blocks r fam P := by
 unfold splitL at h
 split at h
 ·rename_i hr
  injection h with h
  subst h; subst hr
  exact ⟨fun x => by rw [hasB_nil]; rfl, fun b hb => by cases hb⟩
 ·exact splitF_blocks Blocks.start h
def tgL (P : List (List Sp)) (x y : Int) : Bool := P.foldl (fun t b => if hasB b x then hasB b y else t) false
theorem tgL_snoc (P : List (List Sp)) (b : List Sp) (x y : Int) : tgL (P ++ [b]) x y = if hasB b x then hasB b y else tgL P x y := by simp [tgL]
theorem tgL_some {P : List (List Sp)} {x y : Int} (h : cntX P x ≠ 0) : ∃ b ∈ P, hasB b x = true ∧ tgL P x y = hasB b y := by
 obtain ⟨n, hn⟩ : ∃ n, P.length = n := ⟨_, rfl⟩
 induction n generalizing P with
 | zero => rw [List.eq_nil_of_length_eq_zero hn] at h; exact absurd rfl h
 | succ n ih =>
  rcases List.eq_nil_or_concat P with rfl | ⟨Q, b, rfl⟩
  ·simp at hn
  ·rw [List.concat_eq_append] at *
   rw [tgL_snoc]
   by_cases hb : hasB b x = true
   ·exact ⟨b, by simp, hb, by rw [if_pos hb]⟩
   ·rw [cntX_append, cntX_one, if_neg hb, Nat.add_zero] at h
    obtain ⟨c, hc, h1, h2⟩ := ih h (by simp at hn; omega)
    exact ⟨c, by simp [hc], h1, by rw [if_neg hb]; exact h2⟩
theorem tells {r : List Sp} {fam P : List (List Sp)} (h : Blocks r fam P) (x y : Int) : cntX P x ≤ 1 ∧ cntX P y ≤ 1 ∧ (cntX P x = 1 ↔ hasB r x = true) ∧ (cntX P x ≠ 0 → cntX P y ≠ 0 → tgL P x y = alikeB fam x y) := by
 have h1 := h.one x
 have h2 := h.one y
 refine ⟨by rw [h1]; split <;> omega, by rw [h2]; split <;> omega, by rw [h1]; split <;> simp_all, fun hx hy => ?_⟩
 obtain ⟨b, hb, g1, g2⟩ := tgL_some (y := y) hx
 rw [g2, Bool.eq_iff_iff, h.same b hb x y g1]
 have : hasB r y = true := by
  rw [h2] at hy
  by_cases e : hasB r y = true
  ·exact e
  ·rw [if_neg e] at hy; exact absurd rfl hy
 simp [this]
def Some1 (b : List Sp) : Prop := ∃ x, hasB b x = true
theorem plain_some {b : List Sp} (h : Plain b) (hn : b ≠ []) : Some1 b := by
 cases b with
 | nil => exact absurd rfl hn
 | cons p l => exact ⟨p.1, by rw [hasB_iff, h.mem]; exact .inl ⟨by omega, h.2.1⟩⟩
theorem addL_some {P : List (List Sp)} {x : List Sp} (hP : ∀ b ∈ P, Some1 b) (hx : Plain x) : ∀ b ∈ addL P x, Some1 b := by
 unfold addL
 split
 ·exact hP
 ·rename_i hn
  intro b hb
  rcases List.mem_append.1 hb with hb | hb
  ·exact hP b hb
  ·rw [List.mem_singleton] at hb; subst hb; exact plain_some hx hn
theorem parts_some {s : List Sp} {L P : List (List Sp)} (hP : ∀ b ∈ P, Some1 b) : ∀ b ∈ parts s P L, Some1 b := by
 induction L generalizing P with
 | nil => exact hP
 | cons c L ih => exact ih (addL_some (addL_some hP (meetL_rep c s).out.1) (minusL_rep c s).out.1)
theorem splitF_some {fam : List (List Sp)} : ∀ {out P : List (List Sp)}, (∀ b ∈ out, Some1 b) → splitF out fam = some P → ∀ b ∈ P, Some1 b := by
 induction fam with
 | nil => intro out P h e; simp only [splitF] at e; injection e with e; subst e; exact h
 | cons s fam ih =>
  intro out P h e
  simp only [splitF] at e
  split at e
  ·cases e
  ·exact ih (fun b hb => parts_some (P := []) (fun _ h => (by cases h)) b ((stabS_rel _).mem b |>.1 hb)) e
def sumX (P : List (List Sp)) : Nat → Nat
 | 0 => 0
 | n + 1 => sumX P n + cntX P (n : Int)
theorem sumX_cons (b : List Sp) (P : List (List Sp)) (n : Nat) : sumX (b :: P) n = sumX [b] n + sumX P n := by
 induction n with
 | zero => rfl
 | succ n ih =>
  have h := cntX_append [b] P (n : Int)
  simp only [sumX]
  rw [ih, show b :: P = [b] ++ P from rfl, h]; omega
theorem sumX_pos {b : List Sp} {k : Nat} (h : hasB b (k : Int) = true) : ∀ n, k < n → 1 ≤ sumX [b] n := by
 intro n
 induction n with
 | zero => intro hk; omega
 | succ n ih =>
  intro hk
  simp only [sumX]
  rcases Nat.lt_or_ge k n with h2 | h2
  ·have := ih h2; omega
  ·obtain rfl : k = n := by omega
   rw [cntX_one, if_pos h]; omega
theorem len_sumX {n : Nat} {P : List (List Sp)} (h : ∀ b ∈ P, ∃ k : Nat, k < n ∧ hasB b (k : Int) = true) : P.length ≤ sumX P n := by
 induction P with
 | nil => exact Nat.zero_le _
 | cons b P ih =>
  rw [sumX_cons, List.length_cons]
  obtain ⟨k, hk, hb⟩ := h b List.mem_cons_self
  have h1 := sumX_pos hb n hk
  have h2 := ih fun c hc => h c (List.mem_cons_of_mem _ hc)
  omega
theorem sumX_le {P : List (List Sp)} (h : ∀ x, cntX P x ≤ 1) : ∀ n, sumX P n ≤ n
 | 0 => Nat.le_refl _
 | n + 1 => by have h1 := sumX_le h n; have h2 := h (n : Int); simp only [sumX]; omega
theorem hasB_bytes (x : Int) : hasB [(0, 255)] x = true ↔ 0 ≤ x ∧ x ≤ 255 := by
 rw [hasB_iff]
 simp only [Mem, InS, or_false]
 omega
theorem bytes_count {fam P : List (List Sp)} (h : splitL [(0, 255)] fam = some P) : P.length ≤ 256 ∧ ∀ i : Nat, i < 256 → 0 ≤ classI P i := by
 have hB := splitL_blocks h
 have hs : ∀ b ∈ P, Some1 b := by
  unfold splitL at h
  rw [if_neg (by simp)] at h
  exact splitF_some (fun b hb => by rw [List.mem_singleton] at hb; subst hb; exact ⟨0, (hasB_bytes 0).2 (by omega)⟩) h
 have hin : ∀ b ∈ P, ∃ k : Nat, k < 256 ∧ hasB b (k : Int) = true := fun b hb => by
  obtain ⟨x, hx⟩ := hs b hb
  have h2 := (hasB_bytes x).1 (hB.inr hb hx)
  exact ⟨x.toNat, by omega, by rw [Int.toNat_of_nonneg h2.1]; exact hx⟩
 refine ⟨Nat.le_trans (len_sumX hin) (sumX_le (fun x => by rw [hB.one x]; split <;> omega) 256), fun i hi => ?_⟩
 have h1 := hB.one (i : Int)
 rw [if_pos ((hasB_bytes _).2 (by omega))] at h1
 have ha : P.any (fun l => hasB l (i : Int)) = true := by
  rw [List.any_eq_true]
  have h2 : 0 < P.countP (fun l => hasB l (i : Int)) := by unfold cntX at h1; omega
  exact List.countP_pos_iff.1 h2
 unfold classI
 rw [if_pos ha]
 exact Int.natCast_nonneg _
theorem infoNodeM : (Tryz.prog.info? 64).map (fun i => (i.zero, i.size, i.bytes)) = some (some (.agg #[.int .i64 0, .slice none 0 0, .int .i64 0]), 3, 40) := by kernel_rfl
def withN (V : MkV) (a : Option Addr) (c : Nat) (ns : List NodeI) : MkV := { V with na := a, nc := c, ns := ns }
theorem Mk.afterNl {B : MkB} {V : MkV} {W W3 : World} (h : Mk B V W) {a : Option Addr} {c : Nat} {x : NodeI} (hs : W.heap.size ≤ W3.heap.size)
  (hk : ∀ k, k < W.heap.size → k ≠ B.mb → ownA V.na ≠ some k → W3.heap[k]? = W.heap[k]?)
  (hbox : W3.heap[B.mb]? = some (.cells (mkCells B (withN V a c (V.ns ++ [x]))).toArray 143 (0, 0)))
  (hnl : W3.ownsRow B.n 64 3 (.slice a (V.ns ++ [x]).length c) (V.ns ++ [x]).length ((V.ns ++ [x]).flatMap nodeC))
  (hnew : ∀ g, ownA a = some g → ownA V.na = some g ∨ W.heap.size ≤ g)
  (hx : Dep (fun k => ¬ Mut B (withN V a c (V.ns ++ [x])) k ∧ ¬ B.av k) W3 (fun W => NodeW x W ∧ Unf x.na (x.nx.length * 1) W)) :
  Mk B (withN V a c (V.ns ++ [x])) W3 ∧ ∀ k, k < W.heap.size → Mut B (withN V a c (V.ns ++ [x])) k → Mut B V k := by
 have hsub : ∀ k, k < W.heap.size → Mut B (withN V a c (V.ns ++ [x])) k → Mut B V k := fun k hl hm => by
  rcases hm with e | e | e | e | e | e | e | e
  ·exact .inl e
  ·exact .inr (.inl e)
  ·exact .inr (.inr (.inl e))
  ·exact .inr (.inr (.inr (.inl e)))
  ·exact .inr (.inr (.inr (.inr (.inl e))))
  ·exact .inr (.inr (.inr (.inr (.inr (.inl e)))))
  ·exact .inr (.inr (.inr (.inr (.inr (.inr (.inl e))))))
  ·rcases hnew k e with e | e
   ·exact .inr (.inr (.inr (.inr (.inr (.inr (.inr e))))))
   ·omega
 have hmap : ∀ {b : Nat} {kt : TypeId} {M : List (Value × Value)}, MapIs Tryz.prog kt b M W → MapIs Tryz.prog kt b M W3 := fun k => k.same (hk _ k.lt (fun e => cells_ne_map h.box k e.symm) (own_ne_map h.nl k))
 refine ⟨⟨hbox, h.cl, h.lo, h.dis, ?_, hmap h.num, h.pok, ?_, hmap h.am, ?_, hmap h.em, hnl, ?_, fun k hk => Nat.lt_of_lt_of_le (h.avl k hk) hs⟩, hsub⟩
 ·exact own_keep h.pl fun k hA => hk k (own_ty h.pl hA).2.1 (fun e => own_ne_cells h.pl h.box tyPM (e ▸ hA)) (fun e => own_apart h.pl h.nl tyPN k hA e)
 ·exact own_keep h.al fun k hA => hk k (own_ty h.al hA).2.1 (fun e => own_ne_cells h.al h.box tyAM (e ▸ hA)) (fun e => own_apart h.al h.nl tyAN k hA e)
 ·exact own_keep h.el fun k hA => hk k (own_ty h.el hA).2.1 (fun e => own_ne_cells h.el h.box tyTM (e ▸ hA)) (fun e => own_apart h.el h.nl tyTN k hA e)
 ·have h2 := h.imm.step (w' := W3) (P' := fun k => ¬ Mut B (withN V a c (V.ns ++ [x])) k ∧ ¬ B.av k) (fun k hn hl => hk k hl (fun e => hn.1 (.inl e)) (fun e => hn.1 (.inr (.inr (.inr (.inr (.inr (.inr (.inr e))))))))) hs (fun k hn hl => ⟨fun hm => hn.1 (hsub k hl hm), hn.2⟩)
  exact fun U hU => let q := h2 U hU; ⟨q.ls, q.rows, q.fins, q.acs, q.es, fun y hy => by
   rcases List.mem_append.1 hy with hy | hy
   ·exact q.ns y hy
   ·rw [List.mem_singleton] at hy; subst hy; exact hx U hU⟩
theorem Mk.counts {B : MkB} {V : MkV} {S : LayS} {W : World} (h : Mk B V W) (hS : Lays B V S) : V.acs.length ≤ B.d.rs.length ∧ V.es.length ≤ B.d.fs.length := by
 constructor
 ·have h1 : (V.acs.map (·.1)).Nodup := by
   obtain ⟨_, _, _, _, h3, _⟩ := h.am
   rw [idxM_fst] at h3
   exact nodup_of_map _ h3
  have h2 := Kahn.few (n := B.d.rs.length) h1 fun t ht => by
   obtain ⟨x, hx, rfl⟩ := List.mem_map.1 ht
   obtain ⟨r, hr, _⟩ := hS.aok x hx
   exact (List.getElem?_eq_some_iff.1 hr).1
  rwa [List.length_map] at h2
 ·have h1 : (V.es.map (·.1)).Nodup := by
   obtain ⟨_, _, _, _, h3, _⟩ := h.em
   rw [idxM_fst] at h3
   exact nodup_of_map _ h3
  have h2 := Kahn.few (n := B.d.fs.length) h1 fun t ht => by
   obtain ⟨x, hx, rfl⟩ := List.mem_map.1 ht
   obtain ⟨r, hr, _⟩ := hS.eok x hx
   exact (List.getElem?_eq_some_iff.1 hr).1
  rwa [List.length_map] at h2
section
open Go.Shelf
def updB (b : Nat → Option Nat) (k x : Nat) : Nat → Option Nat := fun j => if j = k then some x else b j
def cntB5 (b : Nat → Option Nat) : Nat := (if b 0 = none then 1 else 0) + ((if b 1 = none then 1 else 0) + ((if b 2 = none then 1 else 0) + ((if b 3 = none then 1 else 0) + (if b 4 = none then 1 else 0))))
theorem cntB5_upd {b : Nat → Option Nat} {k x m : Nat} (hk : k < 5) (hb : b k = none) (h : cntB5 b = m + 1) : cntB5 (updB b k x) = m := by
 have : k = 0 ∨ k = 1 ∨ k = 2 ∨ k = 3 ∨ k = 4 := by omega
 unfold cntB5 updB at *
 rcases this with rfl | rfl | rfl | rfl | rfl <;> simp [hb] at h ⊢ <;> omega
theorem cntB5_zero {b : Nat → Option Nat} (h : cntB5 b = 0) {k : Nat} (hk : k < 5) : b k ≠ none := by
 have : k = 0 ∨ k = 1 ∨ k = 2 ∨ k = 3 ∨ k = 4 := by omega
 unfold cntB5 at h
 intro hn
 rcases this with rfl | rfl | rfl | rfl | rfl <;> simp [hn] at h
theorem cntB5_pos {b : Nat → Option Nat} {m : Nat} (h : cntB5 b = m + 1) : ∃ k, k < 5 ∧ b k = none := by
 apply Classical.byContradiction
 intro hn
 have hs : ∀ k, k < 5 → b k ≠ none := fun k hk hb => hn ⟨k, hk, hb⟩
 unfold cntB5 at h
 simp [hs 0 (by omega), hs 1 (by omega), hs 2 (by omega), hs 3 (by omega), hs 4 (by omega)] at h
section
variable {P : Program} {ops : Array Oper} {Q : Exit → Act → World → Prop} {md : Region.Mode} {S : World → Prop} {z : Nat}
theorem makes5 (fuel : Nat) (ix : Nat → Nat) (L : (Nat → Option Nat) → Array Bool) (A : (Nat → Option Nat) → Act) (J : (Nat → Option Nat) → World → Prop)
  (hr : ∀ b, (∃ k, k < 5 ∧ b k = none) → Region.ready md ops (L b) ≠ [] ∧ ∀ i ∈ Region.ready md ops (L b), ∃ k, k < 5 ∧ i = ix k ∧ b k = none)
  (hL : ∀ b k x, k < 5 → b k = none → (L b).setIfInBounds (ix k) true = L (updB b k x))
  (step : ∀ b k w, k < 5 → b k = none → J b w → wpOp P ops Q (ix k) (fun a' w' => S w' ∧ a' = A (updB b k w.heap.size) ∧ J (updB b k w.heap.size) w') (A b) w)
  (hend : ∀ b w, (∀ k, k < 5 → b k ≠ none) → J b w → wpAnyZ P md ops Q S z fuel (L b) (A b) w) :
  ∀ (m : Nat) (b : Nat → Option Nat) (w : World), cntB5 b = m → J b w → wpAnyZ P md ops Q S z (fuel + m) (L b) (A b) w := by
 intro m
 induction m with
 | zero => exact fun b w hc hJ => hend b w (fun k hk => cntB5_zero hc hk) hJ
 | succ m ih =>
  intro b w hc hJ
  obtain ⟨hne, hall⟩ := hr b (cntB5_pos hc)
  refine ⟨fun h => absurd h hne, fun i hi => ?_⟩
  obtain ⟨k, hk, rfl, hb⟩ := hall i hi
  refine wpOp_mono (fun a' w' h => ?_) (step b k w hk hb hJ)
  obtain ⟨h1, rfl, h3⟩ := h
  refine ⟨.inr h1, ?_⟩
  rw [hL b k w.heap.size hk hb]
  exact ih _ _ (cntB5_upd hk hb hc) h3
end
def putO (d : Nat) (f : Nat → Value) (o : Option Nat) (a : Act) : Act := match o with
 | none => a
 | some x => a.put (some d) (f x)
theorem put_comm (a : Act) {d e : Nat} (h : d ≠ e) (x y : Value) : (a.put (some d) x).put (some e) y = (a.put (some e) y).put (some d) x := by
 unfold Act.put
 simp [Array.setIfInBounds_comm _ _ h]
theorem putO_put (a : Act) {d e : Nat} (h : d ≠ e) (f : Nat → Value) (o : Option Nat) (y : Value) : (putO d f o a).put (some e) y = putO d f o (a.put (some e) y) := by
 cases o with
 | none => rfl
 | some x => exact put_comm a h _ _
def actsB (d : Nat → Nat) (f : Nat → Nat → Value) (a0 : Act) (b : Nat → Option Nat) : Act := putO (d 0) (f 0) (b 0) (putO (d 1) (f 1) (b 1) (putO (d 2) (f 2) (b 2) (putO (d 3) (f 3) (b 3) (putO (d 4) (f 4) (b 4) a0))))
theorem actsB_upd {d : Nat → Nat} {f : Nat → Nat → Value} {a0 : Act} {b : Nat → Option Nat} (hd : ∀ j k, j < 5 → k < 5 → j ≠ k → d j ≠ d k) {k x : Nat} (hk : k < 5) (hb : b k = none) : (actsB d f a0 b).put (some (d k)) (f k x) = actsB d f a0 (updB b k x) := by
 have h5 : k = 0 ∨ k = 1 ∨ k = 2 ∨ k = 3 ∨ k = 4 := by omega
 unfold actsB updB
 rcases h5 with rfl | rfl | rfl | rfl | rfl
 ·rw [hb]; rfl
 ·rw [putO_put _ (hd 0 1 (by omega) (by omega) (by omega)), hb]; rfl
 ·rw [putO_put _ (hd 0 2 (by omega) (by omega) (by omega)), putO_put _ (hd 1 2 (by omega) (by omega) (by omega)), hb]; rfl
 ·rw [putO_put _ (hd 0 3 (by omega) (by omega) (by omega)), putO_put _ (hd 1 3 (by omega) (by omega) (by omega)), putO_put _ (hd 2 3 (by omega) (by omega) (by omega)), hb]; rfl
 ·rw [putO_put _ (hd 0 4 (by omega) (by omega) (by omega)), putO_put _ (hd 1 4 (by omega) (by omega) (by omega)), putO_put _ (hd 2 4 (by omega) (by omega) (by omega)), putO_put _ (hd 3 4 (by omega) (by omega) (by omega)), hb]; rfl
theorem putO_eval {d : Nat} {f : Nat → Value} {o : Option Nat} {a : Act} {t : Nat} (h : d ≠ t) : (putO d f o a).eval (.tmp t) = a.eval (.tmp t) := by
 cases o with
 | none => rfl
 | some x =>
  show (a.tmps.setIfInBounds d (f x)).getD t undef = a.tmps.getD t undef
  simp [Array.getElem?_setIfInBounds, h]
theorem actsB_eval {d : Nat → Nat} {f : Nat → Nat → Value} {a0 : Act} {b : Nat → Option Nat} {t : Nat} (h : ∀ k, k < 5 → d k ≠ t) : (actsB d f a0 b).eval (.tmp t) = a0.eval (.tmp t) := by
 unfold actsB
 rw [putO_eval (h 0 (by omega)), putO_eval (h 1 (by omega)), putO_eval (h 2 (by omega)), putO_eval (h 3 (by omega)), putO_eval (h 4 (by omega))]
structure MadeB (w0 : World) (obj : Nat → Obj) (b : Nat → Option Nat) (w : World) : Prop where
 bel : Below w0.heap.size w0 w
 at_ : ∀ k x, k < 5 → b k = some x → w0.heap.size ≤ x ∧ w.heap[x]? = some (obj k)
 dis : ∀ j k x, j < 5 → k < 5 → j ≠ k → b j = some x → b k ≠ some x
theorem MadeB.upd {w0 w : World} {obj : Nat → Obj} {b : Nat → Option Nat} (h : MadeB w0 obj b w) {k : Nat} (hk : k < 5) : MadeB w0 obj (updB b k w.heap.size) (w.alloc (obj k)) := by
 have hs := h.bel.size
 have hlt : ∀ j x, j < 5 → b j = some x → x < w.heap.size := fun j x hj hx => (Array.getElem?_eq_some_iff.1 (h.at_ j x hj hx).2).1
 refine ⟨h.bel.alloc hs _, fun j x hj hx => ?_, fun j i x hj hi hne hx hy => ?_⟩
 ·unfold updB at hx
  split at hx
  ·rename_i e
   injection hx with hx; subst hx; subst e
   exact ⟨hs, heap_alloc_new w _⟩
  ·have h2 := h.at_ j x hj hx
   exact ⟨h2.1, (Below.heap_alloc _ _ _ (hlt j x hj hx)).trans h2.2⟩
 ·unfold updB at hx hy
  split at hx
  ·rename_i e
   injection hx with hx; subst hx
   rw [if_neg (by omega)] at hy
   have := hlt i _ hi hy
   omega
  ·split at hy
   ·injection hy with hy; subst hy
    have := hlt j _ hj hx
    omega
   ·exact h.dis j i x hj hi hne hx hy
section
variable {P : Program} {ops : Array Oper} {Q : Exit → Act → World → Prop} {md : Region.Mode} {S : World → Prop} {z : Nat}
theorem makes5_at {a0 : Act} {w0 : World} {L0 : Array Bool} (fuel : Nat) (ix d : Nat → Nat) (f : Nat → Nat → Value) (obj : Nat → Obj) (L : (Nat → Option Nat) → Array Bool)
  (hL0 : L (fun _ => none) = L0) (hd : ∀ j k, j < 5 → k < 5 → j ≠ k → d j ≠ d k)
  (hr : ∀ b, (∃ k, k < 5 ∧ b k = none) → Region.ready md ops (L b) ≠ [] ∧ ∀ i ∈ Region.ready md ops (L b), ∃ k, k < 5 ∧ i = ix k ∧ b k = none)
  (hL : ∀ b k x, k < 5 → b k = none → (L b).setIfInBounds (ix k) true = L (updB b k x))
  (hS : ∀ w, Below w0.heap.size w0 w → S w)
  (hx : ∀ k b w (K : Act → World → Prop), k < 5 → K ((actsB d f a0 b).put (some (d k)) (f k w.heap.size)) (w.alloc (obj k)) → wpOp P ops Q (ix k) K (actsB d f a0 b) w)
  (hend : ∀ b w, (∀ k, k < 5 → b k ≠ none) → MadeB w0 obj b w → wpAnyZ P md ops Q S z fuel (L b) (actsB d f a0 b) w) :
  wpAnyZ P md ops Q S z (fuel + 5) L0 a0 w0 := by
 rw [← hL0]
 refine makes5 fuel ix L (actsB d f a0) (MadeB w0 obj) hr hL (fun b k w hk hb hJ => hx k b w _ hk ?_) hend 5 (fun _ => none) w0 rfl ⟨Below.refl _ _, fun k x _ h => (by cases h), fun j k x _ _ _ h => (by cases h)⟩
 have h2 := hJ.upd hk
 exact ⟨hS _ h2.bel, actsB_upd hd hk hb, h2⟩
end
def chk5 (ix : List Nat) (fl : List Bool) (r : List Nat) : Bool := !r.isEmpty && r.all fun i => (List.range 5).any fun k => i == ix.getD k 0 && !(fl.getD k true)
theorem chk5_spec {ix : List Nat} {b : Nat → Option Nat} {r : List Nat} (h : chk5 ix [(b 0).isSome, (b 1).isSome, (b 2).isSome, (b 3).isSome, (b 4).isSome] r = true) : r ≠ [] ∧ ∀ i ∈ r, ∃ k, k < 5 ∧ i = ix.getD k 0 ∧ b k = none := by
 unfold chk5 at h
 rw [Bool.and_eq_true] at h
 refine ⟨fun e => by rw [e] at h; simp at h, fun i hi => ?_⟩
 have h2 := List.all_eq_true.1 h.2 i hi
 obtain ⟨k, hk, h3⟩ := List.any_eq_true.1 h2
 rw [List.mem_range] at hk
 rw [Bool.and_eq_true, beq_iff_eq] at h3
 refine ⟨k, hk, h3.1, ?_⟩
 have h5 : k = 0 ∨ k = 1 ∨ k = 2 ∨ k = 3 ∨ k = 4 := by omega
 rcases h5 with rfl | rfl | rfl | rfl | rfl <;> simpa using h3.2
section
variable {P : Program} {o : Oper} {a : Act} {w w' : World} {K : Act → World → Prop} {Q : Exit → Act → World → Prop}
theorem wp_makeSlice {t : TypeId} {x y : Operand} {lv cv v : Value} (hop : o.op = Op.makeSlice t x y) (hx : a.eval x = lv) (hy : a.eval y = cv) (h : (Instr.makeSlice t lv cv).run P w = .ok v w') (hK : K (a.put o.dst v) w') : Oper.wp P o a w K Q := by
 unfold Oper.wp
 simp [execOp, hop, hx, hy, h, Result.andThen]
 exact hK
theorem wp_makeMap {t : TypeId} (hop : o.op = Op.makeMap t none) (hK : K (a.put o.dst (.map (some w.heap.size))) (w.alloc (.map #[] 0))) : Oper.wp P o a w K Q := by
 unfold Oper.wp
 simp [execOp, hop, run_makeMap, Result.andThen]
 exact hK
theorem wp_buildC {t : TypeId} {parts : Array (Nat × Operand)} {l : List (Nat × Value)} {cs : Array Value} (hop : o.op = .build t parts) (hl : (parts.map fun (i, x) => (i, a.eval x)).toList = l) (hb : P.built t l = some cs) (hK : K (a.put o.dst (.agg cs)) w) : Oper.wp P o a w K Q :=
 wp_build t parts hop (by rw [hl, hb]; rfl) (by rw [hl, hb]; exact hK)
theorem wp_boxC {t : TypeId} {x : Operand} {cs : Array Value} (hop : o.op = .box t x) (hx : (a.eval x).cells = cs) (hK : K (a.put o.dst (.pointer (some ⟨w.heap.size, 0, none⟩))) (w.alloc (.cells cs t))) : Oper.wp P o a w K Q := by
 subst hx
 unfold Oper.wp execOp
 simp only [hop, Sem.run_bind, Instr.box, newVar, newRow, run_newObj_alloc, Sem.run_pure, Result.andThen_ok]
 exact hK
end
end
section
open Go.Shelf
abbrev avB (B : MkB) (f : Nat → Prop) : MkB := { B with av := f }
theorem Mk.swap {B : MkB} {V : MkV} {W W' : World} {f g : Nat → Prop} (h : Mk (avB B f) V W) (hs : W.heap.size ≤ W'.heap.size) (hk : ∀ k, k < W.heap.size → ¬ f k → W'.heap[k]? = W.heap[k]?)
  (hf : ∀ k, f k → ¬ Mut B V k) (hg : ∀ k, g k → k < W'.heap.size ∧ (f k ∨ W.heap.size ≤ k)) : Mk (avB B g) V W' := by
 have hd : ∀ k, Mut B V k → W'.heap[k]? = W.heap[k]? := fun k hm => hk k (h.mut_lt hm).2 (fun hf' => hf k hf' hm)
 have hI : Dep (fun k => ¬ Mut (avB B g) V k ∧ ¬ g k) W' (ImmW (avB B f) V) := h.imm.step (fun k hn hl => hk k hl hn.2) hs (fun k hn hl => ⟨hn.1, fun hgk => ((hg k hgk).2).elim hn.2 (fun h => by omega)⟩)
 exact ⟨(hd _ (.inl rfl)).trans h.box, h.cl, h.lo, h.dis, own_keep h.pl fun k hA => hd k (.inr (.inr (.inr (.inr (.inl hA))))), h.num.same (hd _ (.inr (.inl rfl))), h.pok,
  own_keep h.al fun k hA => hd k (.inr (.inr (.inr (.inr (.inr (.inl hA)))))), h.am.same (hd _ (.inr (.inr (.inl rfl)))), own_keep h.el fun k hA => hd k (.inr (.inr (.inr (.inr (.inr (.inr (.inl hA))))))),
  h.em.same (hd _ (.inr (.inr (.inr (.inl rfl))))), own_keep h.nl fun k hA => hd k (.inr (.inr (.inr (.inr (.inr (.inr (.inr hA))))))),
  fun U hU => let q := hI U hU; ⟨q.ls, q.rows, q.fins, q.acs, q.es, q.ns⟩, fun k hk => (hg k hk).1⟩
theorem end_av (W : World) (B : MkB) (f : Nat → Prop) (V : MkV) (S : LayS) (hM : Hid (Mk (avB B f) V W)) (hS : Hid (Lays B V S)) (hD : Hid (∀ W', Below B.n W W' → DescW B.d W')) (hO : Hid (MkOk B)) (q : Nat) (wd : List Int) (hq : (q : Int) < B.d.n) (hwd : Hid (ClsOk B.ls wd)) (n c0 c1 c2 c3 : Int) (hpc : Hid (placeC ((q : Int), wd) = [.int .i64 (q : Int), .int .i64 n, .int .i64 c0, .int .i64 c1, .int .i64 c2, .int .i64 c3]))
  (hel : V.es.length ≤ 1048576) (hfl : B.d.fs.length ≤ 1048576) (hout : Hid (∀ f ∈ B.d.fs, f.o.l.length ≤ 1048576)) :
  Calls Tryz.prog 75 #[.pointer (some ⟨B.mb, 0, none⟩), .agg #[.int .i64 (q : Int), .int .i64 n, .int .i64 c0, .int .i64 c1, .int .i64 c2, .int .i64 c3]] W (RetLay (avB B f) V (putE B S ((q : Int), wd)) (endI B S ((q : Int), wd)) W) :=
 end_mk W (avB B f) V S hM (Lh ⟨hS.out.ps, hS.out.acts, hS.out.ends, hS.out.aok, hS.out.eok⟩) hD (Lh ⟨hO.out.ok, hO.out.rn, hO.out.fn, hO.out.rows, hO.out.fins, hO.out.parts⟩) q wd hq hwd n c0 c1 c2 c3 hpc hel hfl hout
theorem next_av (W : World) (B : MkB) (f : Nat → Prop) (V : MkV) (S : LayS) (hM : Hid (Mk (avB B f) V W)) (hS : Hid (Lays B V S)) (hD : Hid (∀ W', Below B.n W W' → DescW B.d W')) (hO : Hid (MkOk B)) (q : Nat) (wd : List Int) (c : Int) (hq : (q : Int) < B.d.n) (hw4 : wd.length ≤ 4) (hwd : Hid (wd.length < 4 → ClsOk B.ls (wd ++ [c]) ∧ PlaceOk ((q : Int), wd ++ [c]))) (n c0 c1 c2 c3 : Int) (hpc : Hid (placeC ((q : Int), wd) = [.int .i64 (q : Int), .int .i64 n, .int .i64 c0, .int .i64 c1, .int .i64 c2, .int .i64 c3]))
  (hpl : V.ps.length ≤ 1000000) (hal : V.acs.length ≤ 1048576) (hfl : B.d.fs.length ≤ 1048576) (hrl : B.d.rs.length ≤ 1048576) (hout : Hid (∀ r ∈ B.d.rs, r.o.l.length ≤ 1048576)) :
  Calls Tryz.prog 76 #[.pointer (some ⟨B.mb, 0, none⟩), .agg #[.int .i64 (q : Int), .int .i64 n, .int .i64 c0, .int .i64 c1, .int .i64 c2, .int .i64 c3], .int .i64 c] W (RetLay (avB B f) V (nextS B S q wd c).1 (nextS B S q wd c).2 W) :=
 next_mk W (avB B f) V S hM (Lh ⟨hS.out.ps, hS.out.acts, hS.out.ends, hS.out.aok, hS.out.eok⟩) hD (Lh ⟨hO.out.ok, hO.out.rn, hO.out.fn, hO.out.rows, hO.out.fins, hO.out.parts⟩) q wd c hq hw4 hwd n c0 c1 c2 c3 hpc hpl hal hfl hrl hout
theorem Lays.av {B : MkB} {f : Nat → Prop} {V : MkV} {S : LayS} (h : Lays (avB B f) V S) : Lays B V S := ⟨h.ps, h.acts, h.ends, h.aok, h.eok⟩
def tabI (B : MkB) (V : MkV) : TabI := ⟨B.cls, V.na, V.nc, V.ns, V.aa, V.ac, V.acs.map (·.2), V.ea, V.ec, V.es.map (·.2)⟩
def tabV (B : MkB) (V : MkV) : Array Value := (B.cls.map (Value.int .u8) ++ mkTail V).toArray
theorem tabV_size {B : MkB} {V : MkV} (hc : B.cls.length = 256) : (tabV B V).size = 259 := by simp [tabV, mkTail, hc]
theorem tabV_at {B : MkB} {V : MkV} (hc : B.cls.length = 256) {i : Nat} : (tabV B V)[256 + i]? = (mkTail V)[i]? := by
 simp only [tabV, List.getElem?_toArray]
 rw [List.getElem?_append_right (by simp [hc]), List.length_map, hc, Nat.add_sub_cancel_left]
theorem tabV_C {B : MkB} {V : MkV} (hc : B.cls.length = 256) (hu : U8s B.cls) : TabC (tabV B V) (tabI B V) := by
 refine ⟨tabV_size hc, hc, hu, fun i x hx => ?_, tabV_at (i := 0) hc, ?_, ?_⟩
 ·simp only [tabV, List.getElem?_toArray]
  have hx' : B.cls[i]? = some x := hx
  have hi := (List.getElem?_eq_some_iff.1 hx').1
  rw [List.getElem?_append_left (by simpa using hi), List.getElem?_map, hx']
  rfl
 ·show _ = some (Value.slice V.aa (V.acs.map (·.2)).length V.ac)
  rw [List.length_map]; exact tabV_at (i := 1) hc
 ·show _ = some (Value.slice V.ea (V.es.map (·.2)).length V.ec)
  rw [List.length_map]; exact tabV_at (i := 2) hc
theorem tabI_W {B : MkB} {V : MkV} {W : World} (h : Mk B V W) (hn : V.ns.length ≤ 1048576) (ha : V.acs.length ≤ 1048576) (he : V.es.length ≤ 1048576) : TabW (tabI B V) W := by
 refine ⟨⟨Sl.of_own h.nl, fun x hx => (h.imm.now.ns x hx).1, by show V.ns.length ≤ _; omega⟩, ⟨?_, fun x hx => ?_, by show (V.acs.map (·.2)).length ≤ _; rw [List.length_map]; omega⟩, ⟨?_, fun x hx => ?_, by show (V.es.map (·.2)).length ≤ _; rw [List.length_map]; omega⟩⟩
 ·show Sl W 3 V.aa (V.acs.map (·.2)).length ((V.acs.map (·.2)).flatMap actC)
  rw [List.length_map, List.flatMap_map]; exact Sl.of_own h.al
 ·obtain ⟨y, hy, rfl⟩ := List.mem_map.1 hx
  exact (h.imm.now.acs y hy).1
 ·show Sl W 1 V.ea (V.es.map (·.2)).length ((V.es.map (·.2)).flatMap fun o => [OutI.v o])
  rw [List.length_map, List.flatMap_map]; exact Sl.of_own h.el
 ·obtain ⟨y, hy, rfl⟩ := List.mem_map.1 hx
  exact h.imm.now.es y hy
structure TabF (T : TabI) (W : World) : Prop where
 nodes : Unf T.na (T.ns.length * 3) W
 nx : ∀ x ∈ T.ns, Unf x.na (x.nx.length * 1) W
 acts : Unf T.aa (T.acts.length * 3) W
 outs : ∀ x ∈ T.acts, OutF x.o W
theorem tabI_dep {B : MkB} {V : MkV} {W : World} (h : Mk (avB B fun k => k < B.n) V W) (hn : V.ns.length ≤ 1048576) (ha : V.acs.length ≤ 1048576) (he : V.es.length ≤ 1048576) : Dep (fun k => B.n ≤ k) W (fun W => TabW (tabI B V) W ∧ TabF (tabI B V) W) := fun U hU => by
 have hI := h.imm U fun k hk hl => hU k (by have h2 : ¬ k < B.n := hk.2; omega) hl
 have hnl := own_keep h.nl (w' := U) fun k hk => hU k (own_ty h.nl hk).1 (own_ty h.nl hk).2.1
 have hal := own_keep h.al (w' := U) fun k hk => hU k (own_ty h.al hk).1 (own_ty h.al hk).2.1
 have hel := own_keep h.el (w' := U) fun k hk => hU k (own_ty h.el hk).1 (own_ty h.el hk).2.1
 refine ⟨⟨⟨Sl.of_own hnl, fun x hx => (hI.ns x hx).1, by show V.ns.length ≤ _; omega⟩, ⟨?_, fun x hx => ?_, by show (V.acs.map (·.2)).length ≤ _; rw [List.length_map]; omega⟩, ⟨?_, fun x hx => ?_, by show (V.es.map (·.2)).length ≤ _; rw [List.length_map]; omega⟩⟩, own_unf hnl, fun x hx => (hI.ns x hx).2, ?_, fun x hx => ?_⟩
 ·show Sl U 3 V.aa (V.acs.map (·.2)).length ((V.acs.map (·.2)).flatMap actC)
  rw [List.length_map, List.flatMap_map]; exact Sl.of_own hal
 ·obtain ⟨y, hy, rfl⟩ := List.mem_map.1 hx
  exact (hI.acs y hy).1
 ·show Sl U 1 V.ea (V.es.map (·.2)).length ((V.es.map (·.2)).flatMap fun o => [OutI.v o])
  rw [List.length_map, List.flatMap_map]; exact Sl.of_own hel
 ·obtain ⟨y, hy, rfl⟩ := List.mem_map.1 hx
  exact hI.es y hy
 ·show Unf V.aa ((V.acs.map (·.2)).length * 3) U
  rw [List.length_map]; exact own_unf hal
 ·obtain ⟨y, hy, rfl⟩ := List.mem_map.1 hx
  exact (hI.acs y hy).2
theorem tabI_L {B : MkB} {V : MkV} {S : LayS} (h : Lays B V S) : (tabI B V).L = tabL B.d.L B.cls (S, V.ns.map NodeI.L) := by
 have h1 : (V.acs.map (·.2)).map ActI.L = S.acts.map fun i => match B.d.L.rules[i]? with | some r => (⟨r.eat, (S.ps.idxOf (r.dst, []) : Nat), r.out⟩ : ActL) | none => ⟨0, 0, []⟩ := by
  rw [← h.acts, List.map_map, List.map_map]
  apply List.map_congr_left
  intro x hx
  obtain ⟨r, hr, _, hL⟩ := h.aok x hx
  have hg : B.d.L.rules[x.1]? = some r.L := by show (B.d.rs.map RuleI.L)[x.1]? = _; rw [List.getElem?_map, hr]; rfl
  simp only [Function.comp, hg]
  rw [hL, h.ps]; rfl
 have h2 : (V.es.map (·.2)).map OutI.L = S.ends.map fun i => match B.d.L.fins[i]? with | some f => f.out | none => [] := by
  rw [← h.ends, List.map_map, List.map_map]
  apply List.map_congr_left
  intro x hx
  obtain ⟨r, hr, hL⟩ := h.eok x hx
  have hg : B.d.L.fins[x.1]? = some r.L := by show (B.d.fs.map FinI.L)[x.1]? = _; rw [List.getElem?_map, hr]; rfl
  simp only [Function.comp, hg]
  rw [hL]; rfl
 show (⟨B.cls, V.ns.map NodeI.L, (V.acs.map (·.2)).map ActI.L, (V.es.map (·.2)).map OutI.L⟩ : TabL) = _
 rw [h1, h2]; rfl
theorem tabV_load {B : MkB} {V : MkV} {W : World} (h : Mk B V W) : (Instr.loadAt 49 (.pointer (some ⟨B.mb, 13, none⟩))).run Tryz.prog W = .ok (.agg (tabV B V)) W := by
 have hl := run_loadAt_mid (P := Tryz.prog) W B.mb 13 49 (tabV B V).toList _ (fun j v hv => by
  refine h.cell ?_
  simp only [tabV] at hv
  unfold mkCells
  rw [List.getElem?_append_right (by simp [mkHead])]
  simpa [mkHead] using hv) Tryz.underlying49 rfl (by rw [show (tabV B V).toList.length = 259 from by rw [Array.length_toList]; exact tabV_size h.cl]; exact info_tabS)
 simpa using hl
theorem idxOf_le' {α : Type} [BEq α] [LawfulBEq α] (l : List α) (x : α) : l.idxOf x ≤ l.length := List.idxOf_le_length
theorem nextS_rng (B : MkB) (S : LayS) (q : Int) (wd : List Int) (c : Int) : -3 - (S.acts.length : Int) ≤ (nextS B S q wd c).2 ∧ (nextS B S q wd c).2 ≤ S.ps.length + 1 := by
 unfold nextS
 split
 ·exact ⟨by show _ ≤ (-1 : Int); omega, by show (-1 : Int) ≤ _; omega⟩
 ·split
  ·rename_i j hj
   have h1 := (putA_le B S j).2.1
   have h2 := idxOf_le' (putA B S j).acts j
   constructor
   ·show _ ≤ -2 - (((putA B S j).acts.idxOf j : Nat) : Int)
    omega
   ·show -2 - (((putA B S j).acts.idxOf j : Nat) : Int) ≤ _
    omega
  ·split
   ·have h1 := putL_le S.ps (q, wd ++ [c])
    have h2 := idxOf_le' (putL S.ps (q, wd ++ [c])) (q, wd ++ [c])
    constructor
    ·show _ ≤ (((putL S.ps (q, wd ++ [c])).idxOf (q, wd ++ [c]) : Nat) : Int)
     omega
    ·show (((putL S.ps (q, wd ++ [c])).idxOf (q, wd ++ [c]) : Nat) : Int) ≤ _
     omega
   ·exact ⟨by show _ ≤ (-1 : Int); omega, by show (-1 : Int) ≤ _; omega⟩
theorem endI_rng (B : MkB) (S : LayS) (p : Place) : -1 ≤ endI B S p ∧ endI B S p ≤ S.ends.length + 1 := by
 unfold endI
 split
 ·exact ⟨by omega, by omega⟩
 ·rename_i j hj
  have h1 := putL_le S.ends j
  have h2 := idxOf_le' (putL S.ends j) j
  constructor <;> omega
theorem tyIM : (3 : TypeId) ≠ 143 := by decide
theorem tyIP : (3 : TypeId) ≠ 150 := by decide
theorem tyIA : (3 : TypeId) ≠ 59 := by decide
theorem tyIT : (3 : TypeId) ≠ 57 := by decide
theorem tyIN : (3 : TypeId) ≠ 64 := by decide
theorem Mk.ints {B : MkB} {V : MkV} {W : World} (h : Mk B V W) {m n c k : Nat} {A : Option Addr} {xs : List Value} (ho : W.ownsRow m 3 1 (.slice A n c) n xs) (hk : ownA A = some k) : ¬ Mut B V k := by
 rintro (e | e | e | e | e | e | e | e)
 ·subst e; exact own_ne_cells ho h.box tyIM hk
 ·subst e; exact own_ne_map ho h.num hk
 ·subst e; exact own_ne_map ho h.am hk
 ·subst e; exact own_ne_map ho h.em hk
 ·exact own_apart ho h.pl tyIP k hk e
 ·exact own_apart ho h.al tyIA k hk e
 ·exact own_apart ho h.el tyIT k hk e
 ·exact own_apart ho h.nl tyIN k hk e
theorem RwI.of_block {V : World} {b n base : Nat} (h : V.heap[b]? = some (.cells (madeCells #[.slice none 0 0] n) 62 (0, 0))) : RwI b base (List.replicate n (none, 0, [])) V := by
 refine ⟨?_, fun i x hx => ?_, fun i j x y _ hx _ k hk => ?_, fun x hx => ?_⟩
 ·rw [h]
  congr 2
  apply Array.ext'
  rw [toList_madeCells_one]
  simp [icells, ival]
 ·obtain ⟨_, rfl⟩ := List.mem_replicate.1 (List.mem_of_getElem? hx)
  exact World.ownsRow_nil _ _ _ _
 ·obtain ⟨_, rfl⟩ := List.mem_replicate.1 (List.mem_of_getElem? hx)
  cases hk
 ·obtain ⟨_, rfl⟩ := List.mem_replicate.1 hx
  intro v hv; cases hv
theorem MapIs.of_block {P : Program} {kt : TypeId} {b : Nat} {w : World} (h : w.heap[b]? = some (.map #[] 0)) : MapIs P kt b [] w :=
 ⟨#[], 0, h, ⟨by simp, MapKept.stamped_empty 0, by simp⟩, List.nodup_nil, by simp⟩
theorem mkS_of {d : DescI} {w6 : World} {n N x0 x1 x2 x3 x4 : Nat} {cs : Array Value} (hn : n ≤ w6.heap.size)
  (g0 : n ≤ x0 ∧ w6.heap[x0]? = some (.cells (madeCells #[.slice none 0 0] N) 62 (0, 0))) (g1 : n ≤ x1 ∧ w6.heap[x1]? = some (.cells (madeCells #[.slice none 0 0] N) 62 (0, 0)))
  (g2 : n ≤ x2 ∧ w6.heap[x2]? = some (.map #[] 0)) (g3 : n ≤ x3 ∧ w6.heap[x3]? = some (.map #[] 0)) (g4 : n ≤ x4 ∧ w6.heap[x4]? = some (.map #[] 0)) (hd : x2 ≠ x3 ∧ x2 ≠ x4 ∧ x3 ≠ x4 ∧ x0 ≠ x1)
  (hc : cs = (mkCells (mkB0 d n w6.heap.size x2 x3 x4 x0 x1 N) mkV0).toArray) : MkS d n w6.heap.size x2 x3 x4 x0 x1 N (w6.alloc (.cells cs 143)) := by
 have hk : ∀ {k : Nat} {o : Obj}, w6.heap[k]? = some o → (w6.alloc (.cells cs 143)).heap[k]? = some o := fun h => (Below.heap_alloc _ _ _ (Array.getElem?_eq_some_iff.1 h).1).trans h
 refine ⟨by rw [← hc]; exact heap_alloc_new w6 _, .of_block (hk g0.2), .of_block (hk g1.2), .of_block (hk g2.2), .of_block (hk g3.2), .of_block (hk g4.2), ⟨hn, g2.1, g3.1, g4.1, g0.1, g1.1⟩, hd⟩
section
variable {P : Program} {ops : Array Oper} {Q : Exit → Act → World → Prop} {md : Region.Mode} {S : World → Prop} {z : Nat}
theorem wpAnyZ_ready2 {i j : Nat} {fuel : Nat} {listed : Array Bool} {a : Act} {w : World} {o o2 : Oper} (hr : Region.ready md ops listed = [i, j]) (ho : ops[i]? = some o) (ho2 : ops[j]? = some o2)
  (h : ∀ K' : Act → World → Prop, Shut (∀ a w, S w → (S w → wpAnyZ P md ops Q S z fuel (listed.setIfInBounds i true) a w) → K' a w) → if Region.wanted o (yielded ops a.tmps) = true then Oper.wp P o a w K' Q else K' (a.put o.dst undef) w)
  (h2 : ∀ K' : Act → World → Prop, Shut (∀ a w, S w → (S w → wpAnyZ P md ops Q S z fuel (listed.setIfInBounds j true) a w) → K' a w) → if Region.wanted o2 (yielded ops a.tmps) = true then Oper.wp P o2 a w K' Q else K' (a.put o2.dst undef) w) :
  wpAnyZ P md ops Q S z (fuel + 1) listed a w :=
 ⟨fun h0 => absurd (hr.symm.trans h0) (by simp), by
  rw [hr]
  intro k hk
  rcases List.mem_cons.1 hk with rfl | hk
  ·exact wpOp_step ho (fun K' hK => h K' (fun a w hS hW => hK a w ⟨.inr hS, hW hS⟩))
  ·rcases List.mem_singleton.1 hk with rfl
   exact wpOp_step ho2 (fun K' hK => h2 K' (fun a w hS hW => hK a w ⟨.inr hS, hW hS⟩))⟩
end
theorem wpList_load_of {P : Program} {w : World} {ops : Array Oper} {rest : List Oper} {o : Oper} {a : Act} {Q : Exit → Act → World → Prop} (hgd : o.guard = none) (ty : TypeId) (x : Operand) (ho : o.op = .load ty x) (y : Value) (hy : a.eval x = y) (v : Value) (hv : (Instr.loadAt ty y).run P w = .ok v w)
  (h : wpList P ops Q rest (a.put o.dst v) w) : wpList P ops Q (o :: rest) a w := by
 subst hy
 refine Great.wpList_runTo hgd o.dst rfl _ _ ?_ h
 unfold execOp
 simp only [ho, Sem.run_bind, hv, Result.andThen_ok, Sem.run_pure]
theorem place6 {W : World} {b : Nat} {x0 x1 x2 x3 x4 x5 : Value} {t : TypeId} {fr : Nat × Nat} (h : W.heap[b]? = some (.cells #[x0, x1, x2, x3, x4, x5] t fr)) :
  W.cell? ⟨b, 0, none⟩ = some x0 ∧ W.cell? ⟨b, 1, none⟩ = some x1 ∧ W.cell? ⟨b, 2, none⟩ = some x2 ∧ W.cell? ⟨b, 3, none⟩ = some x3 ∧ W.cell? ⟨b, 4, none⟩ = some x4 ∧ W.cell? ⟨b, 5, none⟩ = some x5 := by
 refine ⟨?_, ?_, ?_, ?_, ?_, ?_⟩ <;> simp [World.cell?, h]
theorem node3 {W : World} {b : Nat} {x0 x1 x2 : Value} {t : TypeId} (h : W.heap[b]? = some (.cells #[x0, x1, x2] t (0, 0))) :
  W.cell? ⟨b, 0, none⟩ = some x0 ∧ W.cell? ⟨b, 1, none⟩ = some x1 ∧ W.cell? ⟨b, 2, none⟩ = some x2 ∧ W.frozen? ⟨b, 1, none⟩ = false := by
 refine ⟨?_, ?_, ?_, ?_⟩ <;> simp [World.cell?, World.frozen?, h]
def RetCompN (w0 w : World) (d : DescI) (F : World → Prop) (e : Ending) (w' : World) : Prop :=
 ∃ cs T v, e = .returned (.tuple #[.agg cs, .int .i64 v]) ∧ Hid (TabC cs T) ∧ Hid (St w0 w' (fun W => TabW T W ∧ F W)) ∧ Hid (CompSaid d T.L v) ∧ Hid (Dep (fun k => w.heap.size ≤ k) w' (fun W => TabW T W ∧ TabF T W)) ∧ Hid (Below w.heap.size w w')
theorem RetCompN.comp {w0 w : World} {d : DescI} {F : World → Prop} {e : Ending} {w' : World} (h : RetCompN w0 w d F e w') : RetComp w0 d F e w' := by
 obtain ⟨cs, T, v, h1, h2, h3, h4, _⟩ := h
 exact ⟨cs, T, v, h1, h2, h3, h4⟩
end
end Go.Proofs.YtlmkokeapbleoaaGreat
