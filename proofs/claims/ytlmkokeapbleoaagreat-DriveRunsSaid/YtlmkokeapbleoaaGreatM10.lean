/- Contracts and plain laws that the law's proof leans on: Desc DescIn MapIs MapRw MkKey TermRt FitsLaw FitsVal0 FitsVal FitsIn Push. Condition: as each theorem says. -/
import Derived.Test.YtlmkokeapbleoaaGreatM04
import Derived.Test.YtlmkokeapbleoaaGreatM09
import Derived.Test.YtlmkokeapbleoaaGreatM01
import Derived.Maps.OwnIn
import Derived.Maps.OwnSet
import Derived.Maps.RangeWalk
import Derived.Test.YtlmkokeapbleoaaGreatM05
import Derived.DeepKeys4
import Derived.Deep.RegionWith
import Derived.Deep.RegionHeld3
import Derived.Deep.DeepCutAuto
import Derived.Laws.StructEq
import Derived.Test.YtlmkokeapbleoaaGreatM06
set_option maxRecDepth 100000
set_option maxHeartbeats 64000000
set_option linter.unusedVariables false
set_option linter.unusedSimpArgs false
namespace Go.Proofs.YtlmkokeapbleoaaGreat
section
open Go.RowKit
structure RuleL where
 fr : Int
 dst : Int
 gs : List (List Sp)
 eat : Int
 out : List TermL
structure FinL where
 fr : Int
 gs : List (List Sp)
 out : List TermL
structure DescL where
 i : Int
 o : Int
 n : Int
 s : Int
 rules : List RuleL
 fins : List FinL
def LLr (R : Option Addr → List Sp → World → Prop) (A : Option Addr) (O : List (Item Sp)) (W : World) : Prop := Items R A O.length O W ∧ O.length ≤ 9223372036854775807
theorem LLr.below {R : Option Addr → List Sp → World → Prop} (hR : Lasts R) {A : Option Addr} {O : List (Item Sp)} {w w' : World} (h : LLr R A O w) (hb : Below w.heap.size w w') : LLr R A O w' := ⟨Items.below h.1 hR hb, h.2⟩
theorem LLr.at_ {R : Option Addr → List Sp → World → Prop} {A : Option Addr} {L : List (Item Sp)} {W : World} (h : LLr R A L W) {k : Nat} (hk : k < L.length) : ∃ gb off ba bc b, A = some ⟨gb, off, none⟩ ∧ L[k]? = some (ba, bc, b) ∧ (bodies L)[k]? = some b ∧ W.cell? ⟨gb, off + k, none⟩ = some (.slice ba b.length bc) ∧ R ba b W := by
 obtain ⟨gb, off, ba, bc, b, hA, hx, hc, hl⟩ := h.1.at_ hk
 exact ⟨gb, off, ba, bc, b, hA, hx, by unfold bodies; rw [List.getElem?_map, hx]; rfl, hc, hl⟩
theorem LLr.llx {A : Option Addr} {O : List (Item Sp)} {W : World} (h : LLr Lst A O W) : LLx A O W := h
structure RuleI where
 fr : Int
 dst : Int
 ga : Option Addr
 gc : Nat
 gs : List (Item Sp)
 e : Int
 o : OutI
def RuleI.L (r : RuleI) : RuleL := ⟨r.fr, r.dst, bodies r.gs, r.e, r.o.L⟩
def ruleC (r : RuleI) : List Value := [.int .i64 r.fr, .int .i64 r.dst, .slice r.ga r.gs.length r.gc, .int .i64 r.e, .slice r.o.a r.o.l.length r.o.c]
def RuleR (R : Option Addr → List Sp → World → Prop) (r : RuleI) (W : World) : Prop := (I64 r.fr ∧ I64 r.dst ∧ I64 r.e) ∧ LLr R r.ga r.gs W ∧ OutW r.o W
structure FinI where
 fr : Int
 ga : Option Addr
 gc : Nat
 gs : List (Item Sp)
 o : OutI
def FinI.L (r : FinI) : FinL := ⟨r.fr, bodies r.gs, r.o.L⟩
def finC (r : FinI) : List Value := [.int .i64 r.fr, .slice r.ga r.gs.length r.gc, .slice r.o.a r.o.l.length r.o.c]
def FinR (R : Option Addr → List Sp → World → Prop) (r : FinI) (W : World) : Prop := I64 r.fr ∧ LLr R r.ga r.gs W ∧ OutW r.o W
def RulesAt (R : Option Addr → List Sp → World → Prop) (A : Option Addr) (l : List RuleI) (W : World) : Prop := RowsAt 5 ruleC (RuleR R) A l W
def FinsAt (R : Option Addr → List Sp → World → Prop) (A : Option Addr) (l : List FinI) (W : World) : Prop := RowsAt 3 finC (FinR R) A l W
structure DescI where
 i : Int
 o : Int
 n : Int
 s : Int
 ra : Option Addr
 rc : Nat
 rs : List RuleI
 fa : Option Addr
 fc : Nat
 fs : List FinI
def DescI.L (d : DescI) : DescL := ⟨d.i, d.o, d.n, d.s, d.rs.map RuleI.L, d.fs.map FinI.L⟩
structure DescR (R : Option Addr → List Sp → World → Prop) (d : DescI) (W : World) : Prop where
 nums : I64 d.i ∧ I64 d.o ∧ I64 d.n ∧ I64 d.s
 rules : RulesAt R d.ra d.rs W
 fins : FinsAt R d.fa d.fs W
section
variable {R : Option Addr → List Sp → World → Prop}
theorem RuleR.stays (hR : Lasts R) : Stays (RuleR R) := fun r w w' h hb => ⟨h.1, h.2.1.below hR hb, TermsAt.below h.2.2 hb⟩
theorem FinR.stays (hR : Lasts R) : Stays (FinR R) := fun r w w' h hb => ⟨h.1, h.2.1.below hR hb, TermsAt.below h.2.2 hb⟩
theorem RuleR.below (hR : Lasts R) {r : RuleI} {w w' : World} (h : RuleR R r w) (hb : Below w.heap.size w w') : RuleR R r w' := RuleR.stays hR _ _ _ h hb
theorem FinR.below (hR : Lasts R) {r : FinI} {w w' : World} (h : FinR R r w) (hb : Below w.heap.size w w') : FinR R r w' := FinR.stays hR _ _ _ h hb
theorem RulesAt.below (hR : Lasts R) {A : Option Addr} {l : List RuleI} {w w' : World} (h : RulesAt R A l w) (hb : Below w.heap.size w w') : RulesAt R A l w' := RowsAt.below h (RuleR.stays hR) hb
theorem FinsAt.below (hR : Lasts R) {A : Option Addr} {l : List FinI} {w w' : World} (h : FinsAt R A l w) (hb : Below w.heap.size w w') : FinsAt R A l w' := RowsAt.below h (FinR.stays hR) hb
theorem DescR.below (hR : Lasts R) {d : DescI} {w w' : World} (h : DescR R d w) (hb : Below w.heap.size w w') : DescR R d w' := ⟨h.nums, h.rules.below hR hb, h.fins.below hR hb⟩
theorem RulesAt.at_ {A : Option Addr} {l : List RuleI} {W : World} (h : RulesAt R A l W) {j : Nat} (hj : j < l.length) : ∃ b off r, A = some ⟨b, off, none⟩ ∧ l[j]? = some r ∧ RuleR R r W ∧
  W.cell? ⟨b, off + j * 5, none⟩ = some (.int .i64 r.fr) ∧ W.cell? ⟨b, off + j * 5 + 1, none⟩ = some (.int .i64 r.dst) ∧ W.cell? ⟨b, off + j * 5 + 2, none⟩ = some (.slice r.ga r.gs.length r.gc) ∧ W.cell? ⟨b, off + j * 5 + 3, none⟩ = some (.int .i64 r.e) ∧
  W.cell? ⟨b, off + j * 5 + 4, none⟩ = some (.slice r.o.a r.o.l.length r.o.c) := by
 obtain ⟨b, off, p, hA, hp, hc, hw⟩ := RowsAt.at_ h (fun _ => rfl) hj
 exact ⟨b, off, p, hA, hp, hw, hc 0 _ rfl, hc 1 _ rfl, hc 2 _ rfl, hc 3 _ rfl, hc 4 _ rfl⟩
theorem FinsAt.at_ {A : Option Addr} {l : List FinI} {W : World} (h : FinsAt R A l W) {j : Nat} (hj : j < l.length) : ∃ b off r, A = some ⟨b, off, none⟩ ∧ l[j]? = some r ∧ FinR R r W ∧
  W.cell? ⟨b, off + j * 3, none⟩ = some (.int .i64 r.fr) ∧ W.cell? ⟨b, off + j * 3 + 1, none⟩ = some (.slice r.ga r.gs.length r.gc) ∧ W.cell? ⟨b, off + j * 3 + 2, none⟩ = some (.slice r.o.a r.o.l.length r.o.c) := by
 obtain ⟨b, off, p, hA, hp, hc, hw⟩ := RowsAt.at_ h (fun _ => rfl) hj
 exact ⟨b, off, p, hA, hp, hw, hc 0 _ rfl, hc 1 _ rfl, hc 2 _ rfl⟩
end
abbrev RuleW := RuleR Lst
abbrev FinW := FinR Lst
abbrev DescW := DescR Lst
def domL (s : Int) : List Sp := if s = 1 then [(0, 255)] else if s = 2 then [(0, 55295), (57344, 1114111)] else []
def SortOk (s : Int) : Prop := s = 1 ∨ s = 2
theorem domL_plain (s : Int) : Plain (domL s) := by
 unfold domL
 split
 ·simp [Plain, PlainF]
 ·split <;> simp [Plain, PlainF]
theorem domL_nil (s : Int) : domL s = [] ↔ ¬ SortOk s := by
 unfold domL SortOk
 split
 ·rename_i h; simp [h]
 ·split
  ·rename_i h; simp [h]
  ·rename_i h1 h2; simp [h1, h2]
def InD (s x : Int) : Prop := InS (domL s) x
theorem inD_iff (s x : Int) : InD s x ↔ ((s = 1 ∧ 0 ≤ x ∧ x ≤ 255) ∨ (s = 2 ∧ ((0 ≤ x ∧ x ≤ 55295) ∨ (57344 ≤ x ∧ x ≤ 1114111)))) := by
 unfold InD domL
 split
 ·rename_i h; simp [h, InS]
 ·split
  ·rename_i h; simp [h, InS]
  ·rename_i h1 h2; simp [h1, h2, InS]
theorem inD_mem (s x : Int) : Mem (domL s) x ↔ InD s x := (domL_plain s).mem x
def StateOk (n s : Int) : Prop := 0 ≤ s ∧ s < n
def HeadOk (d : DescL) : Prop := SortOk d.i ∧ SortOk d.o ∧ 1 ≤ d.n ∧ d.n ≤ 1024 ∧ StateOk d.n d.s ∧ d.rules.length ≤ 4096 ∧ d.fins.length ≤ 4096
def GuardOk (i : Int) (g : List Sp) : Prop := g ≠ [] ∧ g.length ≤ 64 ∧ Plain g ∧ ∀ x, Mem g x → InD i x
def GuardsOk (i : Int) (gs : List (List Sp)) : Prop := gs.length ≤ 4 ∧ ∀ g ∈ gs, GuardOk i g
def WholeP (p : PartL) : Prop := p.2.1 = 0 ∧ p.2.2.1 = 21 ∧ p.2.2.2 = 0
def PlainT (t : TermL) : Prop := t.base = 0 ∧ t.drop = 0 ∧ t.take = 21 ∧ t.up = 0
def TermRt (i o : Int) (n : Nat) (t : TermL) : Prop :=
 SortOk i ∧ SortOk o ∧ NumsOk t ∧ (∀ p ∈ t.parts, PartOk n p ∧ (i = 2 → WholeP p)) ∧ (i = 2 → t.parts.length ≤ 1) ∧ (o = 2 → PlainT t)
def WinG (gs : List (List Sp)) (w : List Int) : Prop := hitM gs w ∧ WinOk w
def FitsP (i o : Int) (gs : List (List Sp)) (t : TermL) : Prop := TermRt i o gs.length t ∧ ∀ w, WinG gs w → ValOk t w ∧ InD o (valN t w)
def WritesOk (i o : Int) (gs : List (List Sp)) (out : List TermL) : Prop := out.length ≤ 64 ∧ ∀ t ∈ out, FitsP i o gs t
def RuleOk (d : DescL) (r : RuleL) : Prop := StateOk d.n r.fr ∧ StateOk d.n r.dst ∧ GuardsOk d.i r.gs ∧ min (r.gs.length : Int) 1 ≤ r.eat ∧ r.eat ≤ r.gs.length ∧ WritesOk d.i d.o r.gs r.out
def FinOk (d : DescL) (f : FinL) : Prop := StateOk d.n f.fr ∧ GuardsOk d.i f.gs ∧ WritesOk d.i d.o f.gs f.out
def epsE (l : List RuleL) : List Kahn.Edge := (l.filter fun r => r.gs.isEmpty).map fun r => (r.fr.toNat, r.dst.toNat)
def CycP (d : DescL) : Prop := Kahn.cyc (epsE d.rules) d.n.toNat = true
structure DescOk (d : DescL) : Prop where
 head : HeadOk d
 rules : ∀ r ∈ d.rules, RuleOk d r
 fins : ∀ f ∈ d.fins, FinOk d f
 cyc : ¬ CycP d
def FreeP (d : DescL) : Prop := ∀ r ∈ d.rules, r.gs ≠ []
end
section
open Go.RowKit
theorem DomX_any (s : Int) (w : World) : Calls Tryz.prog 54 #[.int .i64 s] w (NewSpans w (domL s)) := by
 unfold domL
 by_cases h1 : s = 1
 ·rw [if_pos h1]
  subst h1
  go_enter Tryz.func54, Tryz.ntmps54
  go_wp2
  go_ret
  exact NewSpans.lit (by simp) _ 1 rfl _ rfl
 ·rw [if_neg h1]
  have g1 : (s == 1) = false := by simpa using h1
  by_cases h2 : s = 2
  ·rw [if_pos h2]
   subst h2
   clear h1
   go_enter Tryz.func54, Tryz.ntmps54
   go_wp2
   go_ret
   exact NewSpans.lit (by simp) _ 2 rfl _ rfl
  ·rw [if_neg h2]
   have g2 : (s == 2) = false := by simpa using h2
   clear h1 h2
   go_enter Tryz.func54, Tryz.ntmps54
   go_wp2
   go_ret
   exact NewSpans.nil_ w
section
variable {w0 w : World} {F : World → Prop} {A B : Option Addr} {a b : List Sp}
theorem DomX_st (hK : Hid (St w0 w F)) (s : Int) : Calls Tryz.prog 54 #[.int .i64 s] w (RetL w0 (domL s) F) :=
 (DomX_any s w).mono fun e w1 h => retL_new hK (domL_plain s) h
theorem Within_p (hK : Hid (St w0 w F)) (ha : ∀ W, F W → Lst A a W) (hb : ∀ W, F W → Lst B b W) (c d : Nat) (v : Bool) (hv : Hid (pB (∀ x, Mem a x → Mem b x) = v)) :
  Calls Tryz.prog 189 #[.slice A a.length c, .slice B b.length d] w (RetV w0 (.bool v) F) := by
 obtain ⟨r, hr⟩ := rep_minus a b
 refine Within_st hK ha hb c d hr (v := v) ?_
 rw [← hv.out, Bool.eq_iff_iff, decide_eq_true_iff, pB_iff]
 constructor
 ·rintro rfl x hx
  apply Classical.byContradiction
  intro hn
  exact rep_nil hr.out x ⟨hx, hn⟩
 ·intro h
  rcases r with _ | ⟨p, r⟩
  ·rfl
  ·have hp := hr.out.1
   have := (hr.out.2 p.1).1 (.inl ⟨Int.le_refl _, hp.2.1⟩)
   exact absurd (h _ this.1) this.2
theorem Meets_p (hK : Hid (St w0 w F)) (ha : ∀ W, F W → Lst A a W) (hb : ∀ W, F W → Lst B b W) (c d : Nat) (v : Bool) (hv : Hid (pB (∃ x, Mem a x ∧ Mem b x) = v)) :
  Calls Tryz.prog 225 #[.slice A a.length c, .slice B b.length d] w (RetV w0 (.bool v) F) := by
 obtain ⟨r, hr⟩ := rep_meet a b
 refine Meets_st hK ha hb c d hr (v := v) ?_
 rw [← hv.out, Bool.eq_iff_iff, pB_iff]
 constructor
 ·intro h
  rcases r with _ | ⟨p, r⟩
  ·simp at h
  ·have hp := hr.out.1
   exact ⟨p.1, (hr.out.2 p.1).1 (.inl ⟨Int.le_refl _, hp.2.1⟩)⟩
 ·rintro ⟨x, hx⟩
  have := rep_ne hr.out hx
  simpa using this
def GuardsTo (i : Int) (gs : List (List Sp)) (k : Nat) : Prop := ∀ g ∈ gs.take k, GuardOk i g
theorem guards_st (hK : Hid (St w0 w F)) (i : Int) {O : List (Item Sp)} (ha : ∀ W, F W → LLx A O W) (c : Nat) (v : Bool) (hv : Hid (pB (GuardsOk i (bodies O)) = v)) :
  Calls Tryz.prog 152 #[.int .i64 i, .slice A O.length c] w (RetV w0 (.bool v) F) := by
 have HA := Lh ha
 clear ha
 by_cases h4 : O.length ≤ 4
 case neg =>
  have h4' : ¬ (O.length : Int) ≤ 4 := by omega
  obtain rfl := pB_f hv (fun h => h4 (by have := h.1; rwa [bodies_length] at this))
  go_enter Tryz.func152, Tryz.ntmps152
  go_wp2_with fail
  go_ret
  exact ⟨rfl, hK⟩
 have h4' : (O.length : Int) ≤ 4 := by omega
 go_enter Tryz.func152, Tryz.ntmps152
 go_wp2_with fail
 refine (DomX_st hK i).mono ?_
 rintro e w1 ⟨A1, c1, rfl, HK1⟩
 go_wp2_with fail
 go_loopw [15] (fun iv wr => ∃ k : Nat, k ≤ O.length ∧ iv = .int .i64 k ∧ Hid (GuardsTo i (bodies O) k) ∧ Hid (St w0 wr (fun W => Lst A1 (domL i) W ∧ F W))) (fun iv _ => O.length - (intOf iv).toNat)
 case atStart => exact ⟨0, Nat.zero_le _, rfl, Lh (fun g hg => by simp at hg), HK1⟩
 case round =>
 clear HK1
 obtain ⟨k, hk, rfl, HR, HK⟩ := hrel
 by_cases hlt : k < O.length
 ·obtain ⟨gb, off, ba, bc, b, rfl, _, hb, hc, hl⟩ := (HA.out _ HK.out.now.2).at_ hlt
  have HX := Lh hb
  have hbl := hl.len
  have HKi := Lh (HK.out.add (Below.refl _ _) (G := Lst ba b) (fun W hW => hl.below hW))
  have HBAD : ¬ GuardOk i b → v = false := fun h => pB_f hv (fun g => h (g.2 b (List.mem_of_getElem? HX.out)))
  have HRES := Lh (fun W (h : Hid (St w0 W (fun W => Lst ba b W ∧ Lst A1 (domL i) W ∧ F W))) => (Lh (h.out.weaken fun _ h => h.2.2) : Hid (St w0 W F)))
  clear hb hl
  by_cases g1 : b.length = 0
  ·have g1' : ((b.length : Int) == 0) = true := by rw [g1]; rfl
   obtain rfl := HBAD fun h => h.1 (List.length_eq_zero_iff.1 g1)
   clear HBAD g1
   go_wp2_with fail
   go_ret
   exact ⟨rfl, HRES.out _ HKi⟩
  have g1' : ((b.length : Int) == 0) = false := by rw [beq_eq_false_iff_ne]; omega
  by_cases g2 : b.length ≤ 64
  case neg =>
   have g2' : ¬ (b.length : Int) ≤ 64 := by omega
   obtain rfl := HBAD fun h => g2 h.2.1
   clear HBAD g1
   go_wp2_with fail
   go_ret
   exact ⟨rfl, HRES.out _ HKi⟩
  have g2' : (b.length : Int) ≤ 64 := by omega
  rcases hp : plainB (-1073741826) b with _ | _
  ·obtain rfl := HBAD fun h => by have := (plainB_iff _ _).2 (show PlainF (-1073741826) b from h.2.2.1); rw [hp] at this; cases this
   have HP := Lh hp
   clear HBAD g1 hp
   go_wp2_with fail
   refine (Check_st HKi (fun _ h => h.1) bc HP.out).mono ?_
   rintro e w3 ⟨rfl, HK3⟩
   go_wp2_with fail
   go_ret
   exact ⟨rfl, HRES.out _ HK3⟩
  have HP := Lh hp
  by_cases g4 : ∀ x, Mem b x → Mem (domL i) x
  case neg =>
   obtain rfl := HBAD fun h => g4 fun x hx => (inD_mem i x).2 (h.2.2.2 x hx)
   have HW := Lh (pB_false g4)
   clear HBAD g1 hp g4
   go_wp2_with fail
   refine (Check_st HKi (fun _ h => h.1) bc HP.out).mono ?_
   rintro e w3 ⟨rfl, HK3⟩
   go_wp2_with fail
   refine (Within_p HK3 (fun _ h => h.1) (fun _ h => h.2.1) bc c1 false HW).mono ?_
   rintro e w4 ⟨rfl, HK4⟩
   go_wp2_with fail
   go_ret
   exact ⟨rfl, HRES.out _ HK4⟩
  have HW := Lh (pB_true g4)
  have HN : Hid (GuardsTo i (bodies O) (k + 1)) := Lh fun q hq => by
   rw [take_snoc? HX.out] at hq
   rcases List.mem_append.1 hq with hq | hq
   ·exact HR.out q hq
   ·simp at hq; subst hq
    exact ⟨fun h => g1 (by rw [h]; rfl), g2, (plainB_iff _ _).1 hp, fun x hx => (inD_mem i x).1 (g4 x hx)⟩
  clear HBAD g1 hp g4
  go_wp2_with fail
  refine (Check_st HKi (fun _ h => h.1) bc HP.out).mono ?_
  rintro e w3 ⟨rfl, HK3⟩
  go_wp2_with fail
  refine (Within_p HK3 (fun _ h => h.1) (fun _ h => h.2.1) bc c1 true HW).mono ?_
  rintro e w4 ⟨rfl, HK4⟩
  go_wp2_with fail
  go_roundw
  case rel => exact ⟨k + 1, by omega, by go_num, HN, Lh (HK4.out.weaken fun _ h => h.2)⟩
  case measure => simp [intOf]; omega
 ·obtain rfl : k = O.length := by omega
  have hd : decide (O.length < O.length) = false := by simp
  obtain rfl := pB_t hv ⟨by rw [bodies_length]; omega, by have := HR.out; unfold GuardsTo at this; rwa [List.take_of_length_le (by rw [bodies_length]; omega)] at this⟩
  go_wp2_with fail
  go_ret
  exact ⟨rfl, Lh (HK.out.weaken fun _ h => h.2)⟩
end
end
section
open Go.RowKit Go.ChangeMaps Go.MapKept Go.WideShapes
open Go.WideElems (Fit rd rg pl rd_key rd_val rg_of)
open Go.Maps (Keyed)
def R0 (_ : Value) : Option (DataW Unit × List MemPlace) := some (.nil, [])
def mkey (e : MapEntry) : Value × Value := (e.key, e.val)
def MapIs (P : Program) (kt : TypeId) (b : Nat) (M : List (Value × Value)) (w : World) : Prop :=
 ∃ es clock, w.heap[b]? = some (.map es clock) ∧ Fit P kt R0 es clock ∧ (M.map (·.1)).Nodup ∧ ∀ p, p ∈ M ↔ ∃ e ∈ es.toList, mkey e = p
def MapRng (P : Program) (kt : TypeId) (b r : Nat) (R : List (Value × Value)) (w : World) : Prop :=
 ∃ es clock since seen c0, w.heap[b]? = some (.map es clock) ∧ Fit P kt R0 es clock ∧ w.heap[r]? = some (.mapIter (some b) since seen c0) ∧ (∀ x ∈ es.toList, x.born < since) ∧ since ≤ c0 ∧ since ≤ clock ∧
  (R.map (·.1)).Nodup ∧ ∀ p, p ∈ R ↔ ∃ e ∈ es.toList, seen.contains e.born = false ∧ mkey e = p
noncomputable def mapPut (M : List (Value × Value)) (k v : Value) : List (Value × Value) := by classical exact (k, v) :: M.filter fun p => decide (p.1 ≠ k)
section
variable {P : Program} {kt : TypeId} {w w' : World} {b r : Nat} {M R : List (Value × Value)}
theorem MapIs.lt (h : MapIs P kt b M w) : b < w.heap.size := by
 obtain ⟨es, clock, hb, _⟩ := h
 exact (Array.getElem?_eq_some_iff.1 hb).1
theorem MapIs.same (h : MapIs P kt b M w) (hb : w'.heap[b]? = w.heap[b]?) : MapIs P kt b M w' := by
 obtain ⟨es, clock, h1, h2⟩ := h
 exact ⟨es, clock, hb.trans h1, h2⟩
theorem MapIs.made (w : World) : MapIs P kt w.heap.size [] (w.alloc (.map #[] 0)) :=
 ⟨#[], 0, (MapKept.heap_alloc w _).1, ⟨by simp, stamped_empty 0, by simp⟩, List.nodup_nil, by simp⟩
theorem nodup_of_map {α β : Type} (f : α → β) {l : List α} (h : (l.map f).Nodup) : l.Nodup := by
 unfold List.Nodup at *
 rw [List.pairwise_map] at h
 exact h.imp fun h e => h (by rw [e])
theorem fit_nodup {es : Array MapEntry} {clock : Nat} (F : Fit P kt R0 es clock) : (es.toList.map (·.key)).Nodup := by
 have := ((stamped_iff es clock).1 F.stamped).2.2
 unfold List.Nodup
 rw [List.pairwise_map]
 exact this
theorem fit_inj {es : Array MapEntry} {clock : Nat} (F : Fit P kt R0 es clock) {x y : MapEntry} (hx : x ∈ es.toList) (hy : y ∈ es.toList) (h : x.key = y.key) : x = y :=
 entry_eq_of_key ((stamped_iff es clock).1 F.stamped).2.2 hx hy h
theorem MapIs.perm (h : MapIs P kt b M w) : ∃ es clock, w.heap[b]? = some (.map es clock) ∧ M.length = es.size := by
 obtain ⟨es, clock, h1, F, h3, h4⟩ := h
 refine ⟨es, clock, h1, ?_⟩
 have hn : (es.toList.map mkey).Nodup := by
  have := fit_nodup F
  refine nodup_of_map Prod.fst ?_
  rw [List.map_map]; exact this
 have hp : M.Perm (es.toList.map mkey) := (List.perm_ext_iff_of_nodup (nodup_of_map _ h3) hn).2 fun p => by rw [h4, List.mem_map]
 rw [hp.length_eq]; simp
theorem MapIs.len {t e ty : TypeId} (h : MapIs P kt b M w) (ht : P.underlying t = some (.map kt e)) : (Builtin.len_ #[t] ty #[.map (some b)]).run P w = .ok (.int .i64 M.length) w := by
 obtain ⟨es, clock, hb, hl⟩ := h.perm
 rw [hl]
 simp [Builtin.len_, run_underlying ht, MapKept.run_getObj_map hb, goInt, Result.andThen]
theorem MapIs.look {t e : TypeId} (c : Bool) (h : MapIs P kt b M w) (K : Keyed P kt) (ht : P.underlying t = some (.map kt e)) {z : Value} (hz : (zeroValue e).run P w = .ok z w) {key : Value} {kl : Lit} (hkey : keyOf P kt key = some kl) :
  ((∀ p ∈ M, p.1 ≠ key) ∧ (Instr.lookup t (.map (some b)) key c).run P w = .ok (if c then .tuple #[z, .bool false] else z) w) ∨
  ∃ v, (key, v) ∈ M ∧ (Instr.lookup t (.map (some b)) key c).run P w = .ok (if c then .tuple #[v, .bool true] else v) w := by
 obtain ⟨es, clock, hb, F, h3, h4⟩ := h
 rcases Maps.fit_look c K ht hz hb F hkey with ⟨hrun, hno, _⟩ | ⟨e0, y, he, hk, hrun, _⟩
 ·refine .inl ⟨fun p hp => ?_, hrun⟩
  obtain ⟨e, he, rfl⟩ := (h4 p).1 hp
  exact hno e he
 ·exact .inr ⟨e0.val, (h4 _).2 ⟨e0, he, by rw [← hk]; rfl⟩, hrun⟩
theorem MapIs.put {t e : TypeId} (h : MapIs P kt b M w) (K : Keyed P kt) (ht : P.underlying t = some (.map kt e)) (hn : M.length < maxLen) {key : Value} (val : Value) {kl : Lit} (hkey : keyOf P kt key = some kl) :
  ∃ w', (Instr.mapUpdate t (.map (some b)) key val).run P w = .ok () w' ∧ MapIs P kt b (mapPut M key val) w' ∧ w.grownBy w' (some b) ∧ w'.heap.size = w.heap.size := by
 obtain ⟨es0, cl0, hb0, hl0⟩ := h.perm
 obtain ⟨es, clock, hb, F, h3, h4⟩ := h
 rw [hb] at hb0
 injection hb0 with hb0
 injection hb0 with hb1 hb2
 subst hb1
 obtain ⟨es', clock', hrun, F', hsort, _, _, hwho⟩ := Maps.fit_store (R' := R0) K ht hb F (by rw [← hl0]; exact hn) (fun _ _ _ _ hz => hz) hkey (val := val) (yv := (.nil, [])) rfl
 have hkeys : ∀ kl', (∃ x ∈ es'.toList, (rg P kt R0 x).1 = kl') ↔ (kl' = kl ∨ ∃ x ∈ es.toList, (rg P kt R0 x).1 = kl' ∧ notKey kl (rg P kt R0 x) = true) := fun kl' => by
  have p1 := sorted_perm (es'.toList.map (rg P kt R0))
  have p2 := sorted_perm (es.toList.map (rg P kt R0))
  constructor
  ·rintro ⟨x, hx, rfl⟩
   have hm := p1.mem_iff.2 (List.mem_map.2 ⟨x, hx, rfl⟩)
   rw [hsort] at hm
   unfold putKey at hm
   rcases List.mem_cons.1 ((insert_perm _ _).mem_iff.1 hm) with hm | hm
   ·exact .inl (by rw [hm])
   ·obtain ⟨hm1, hm2⟩ := List.mem_filter.1 hm
    obtain ⟨y, hy, he⟩ := List.mem_map.1 (p2.mem_iff.1 hm1)
    exact .inr ⟨y, hy, by rw [he], by rw [he]; exact hm2⟩
  ·intro hk
   have : ∃ d, (kl', d) ∈ es'.toList.map (rg P kt R0) := by
    rcases hk with rfl | ⟨x, hx, rfl, hx2⟩
    ·exact ⟨_, p1.mem_iff.1 (by rw [hsort]; unfold putKey; exact (insert_perm _ _).mem_iff.2 (List.mem_cons_self ..))⟩
    ·refine ⟨(rg P kt R0 x).2, p1.mem_iff.1 ?_⟩
     rw [hsort]; unfold putKey
     exact (insert_perm _ _).mem_iff.2 (List.mem_cons_of_mem _ (List.mem_filter.2 ⟨p2.mem_iff.2 (List.mem_map.2 ⟨x, hx, rfl⟩), hx2⟩))
   obtain ⟨d, hd⟩ := this
   obtain ⟨x, hx, he⟩ := List.mem_map.1 hd
   exact ⟨x, hx, by rw [he]⟩
 have hrgk : ∀ {E : Array MapEntry} {c : Nat} (F : Fit P kt R0 E c) x, x ∈ E.toList → keyOf P kt x.key = some (rg P kt R0 x).1 := fun F x hx => by
  obtain ⟨y, hy⟩ := F.reads x hx
  rw [rg_of hy]; exact rd_key hy
 have hold : ∀ x ∈ es.toList, x.key ≠ key → x ∈ es'.toList := fun x hx hne => by
  have hnk : notKey kl (rg P kt R0 x) = true := (Maps.notKey_iff (K.key hkey)).2 fun e => hne (K.inj (hrgk F x hx) (by rw [e]; exact hkey))
  obtain ⟨y, hy, he⟩ := (hkeys _).2 (.inr ⟨x, hx, rfl, hnk⟩)
  have hyk : y.key = x.key := K.inj (hrgk F' y hy) (by rw [he]; exact hrgk F x hx)
  rcases hwho y hy with ⟨h1, _⟩ | ⟨h1, _⟩
  ·rw [← fit_inj F h1 hx hyk]; exact hy
  ·exact absurd (hyk.symm.trans h1) hne
 obtain ⟨y0, hy0, he0⟩ := (hkeys kl).2 (.inl rfl)
 have hy0k : y0.key = key := K.inj (hrgk F' y0 hy0) (by rw [he0]; exact hkey)
 have hy0v : y0.val = val := by
  rcases hwho y0 hy0 with ⟨h1, h2⟩ | ⟨_, h2⟩
  ·exact absurd hy0k h2
  ·exact h2
 refine ⟨_, hrun, ⟨es', clock', heap_setBlock_same hb _, F', ?_, fun p => ?_⟩, ⟨rfl, rfl, rfl, by simp [setBlock], fun i _ hi => heap_setBlock_other hb _ (fun e => hi (by rw [e]))⟩, by simp [setBlock]⟩
 ·unfold mapPut
  rw [List.map_cons, List.nodup_cons]
  refine ⟨fun hm => ?_, h3.sublist (List.Sublist.map _ (List.filter_sublist))⟩
  obtain ⟨p, hp, he⟩ := List.mem_map.1 hm
  have := (List.mem_filter.1 hp).2
  simp at this
  exact this he
 ·unfold mapPut
  rw [List.mem_cons, List.mem_filter]
  constructor
  ·rintro (rfl | ⟨hp, hk⟩)
   ·exact ⟨y0, hy0, by unfold mkey; rw [hy0k, hy0v]⟩
   ·obtain ⟨x, hx, rfl⟩ := (h4 p).1 hp
    exact ⟨x, hold x hx (by classical exact of_decide_eq_true hk), rfl⟩
  ·rintro ⟨x, hx, rfl⟩
   rcases hwho x hx with ⟨h1, h2⟩ | ⟨h1, h2⟩
   ·exact .inr ⟨(h4 _).2 ⟨x, h1, rfl⟩, by classical exact decide_eq_true h2⟩
   ·exact .inl (by unfold mkey; rw [h1, h2])
theorem MapIs.range {t e : TypeId} (h : MapIs P kt b M w) (ht : P.underlying t = some (.map kt e)) :
  (Instr.range t (.map (some b))).run P w = .ok (.pointer (some ⟨w.heap.size, 0, none⟩)) (w.alloc (.mapIter (some b) (h.choose_spec.choose) #[] (h.choose_spec.choose))) ∧ MapRng P kt b w.heap.size M (w.alloc (.mapIter (some b) (h.choose_spec.choose) #[] (h.choose_spec.choose))) := by
 have hlt := h.lt
 obtain ⟨hb, F, h3, h4⟩ := h.choose_spec.choose_spec
 refine ⟨run_range_map w t kt e b _ _ ht hb, h.choose, _, _, #[], _, ((MapKept.heap_alloc w _).2 b hlt).trans hb, F, (MapKept.heap_alloc w _).1, F.stamped.1, Nat.le_refl _, Nat.le_refl _, h3, fun p => ?_⟩
 rw [h4 p]
 simp
theorem MapRng.ne (h : MapRng P kt b r R w) : r ≠ b := by
 obtain ⟨es, clock, since, seen, c0, hb, _, hr, _⟩ := h
 rintro rfl
 rw [hb] at hr; cases hr
theorem MapRng.same (h : MapRng P kt b r R w) (hb : w'.heap[b]? = w.heap[b]?) (hr : w'.heap[r]? = w.heap[r]?) : MapRng P kt b r R w' := by
 obtain ⟨es, clock, since, seen, c0, h1, h2, h3, h4⟩ := h
 exact ⟨es, clock, since, seen, c0, hb.trans h1, h2, hr.trans h3, h4⟩
theorem MapRng.next (h : MapRng P kt b r R w) (ty : TypeId) :
  (R = [] ∧ (Instr.next (.pointer (some ⟨r, 0, none⟩)) false ty).run P w = .ok (.tuple #[.bool false]) w) ∨
  ∃ p R' w', R.Perm (p :: R') ∧ (Instr.next (.pointer (some ⟨r, 0, none⟩)) false ty).run P w = .ok (.tuple #[.bool true, p.1, p.2]) w' ∧ MapRng P kt b r R' w' ∧ w.grownBy w' (some r) ∧ w'.heap.size = w.heap.size ∧
   (Instr.entry (.pointer (some ⟨r, 0, none⟩))).run P w' = .ok (.tuple #[p.1, p.2]) w' := by
 have hne := h.ne
 obtain ⟨es, clock, since, seen, c0, hb, F, hr, hold, hsc, hsk, hnd, hm⟩ := h
 rcases run_next_at (P := P) w ty r b since c0 seen es clock hr hb hold hsc with ⟨h0, hrun⟩ | ⟨e, he, w1, hal, hrun⟩
 ·refine .inl ⟨List.eq_nil_iff_forall_not_mem.2 fun p hp => ?_, hrun⟩
  obtain ⟨x, hx, hs, _⟩ := (hm p).1 hp
  rw [all_seen es seen h0 x hx] at hs
  cases hs
 ·obtain ⟨hem, hes⟩ := mem_left he
  have hr1 : w1.heap[r]? = some (.mapIter (some b) since seen c0) := by rcases hal with rfl | rfl <;> exact hr
  have hb1 : w1.heap[b]? = some (.map es clock) := by rcases hal with rfl | rfl <;> exact hb
  have hset := heap_set (o' := .mapIter (some b) since (seen.push e.born) clock) hr1
  have hb' : (setBlock w1 r (.mapIter (some b) since (seen.push e.born) clock)).heap[b]? = some (.map es clock) := (hset.2 b (fun e1 => hne e1.symm)).trans hb1
  have hst := (stamped_iff es clock).1 F.stamped
  have hpm : mkey e ∈ R := (hm _).2 ⟨e, hem, hes, rfl⟩
  classical
  have hperm := List.perm_cons_erase hpm
  have hnd2 : ((mkey e :: R.erase (mkey e)).map (·.1)).Nodup := (hperm.map (·.1)).nodup_iff.1 hnd
  rw [List.map_cons, List.nodup_cons] at hnd2
  refine .inr ⟨mkey e, R.erase (mkey e), setBlock w1 r (.mapIter (some b) since (seen.push e.born) clock), hperm, hrun, ⟨es, clock, since, seen.push e.born, clock, hb', F, hset.1, hold, hsk, hsk, hnd2.2, fun p => ?_⟩, ?_, ?_,
   run_entry_at _ r b since seen es clock e hset.1 hb' hem hst.2.1⟩
  ·have hRn : R.Nodup := nodup_of_map _ hnd
   rw [hRn.mem_erase_iff, hm p]
   constructor
   ·rintro ⟨hpe, x, hx, hs, rfl⟩
    refine ⟨x, hx, ?_, rfl⟩
    rw [contains_push, hs, Bool.false_or, beq_eq_false_iff_ne]
    intro hbn
    exact hpe (by rw [born_inj hst.2.1 hx hem hbn])
   ·rintro ⟨x, hx, hs, rfl⟩
    rw [contains_push, Bool.or_eq_false_iff, beq_eq_false_iff_ne] at hs
    refine ⟨fun hk => hs.2 ?_, x, hx, hs.1, rfl⟩
    have := fit_inj F hx hem (congrArg Prod.fst hk)
    rw [this]
  ·rcases hal with rfl | rfl <;> exact ⟨rfl, rfl, rfl, by simp [setBlock], fun i _ hi => hset.2 i (fun e1 => hi (by rw [e1]))⟩
  ·rcases hal with rfl | rfl <;> simp [setBlock]
theorem MapIs.rng {t e : TypeId} (h : MapIs P kt b M w) (ht : P.underlying t = some (.map kt e)) :
  ∃ w', (Instr.range t (.map (some b))).run P w = .ok (.pointer (some ⟨w.heap.size, 0, none⟩)) w' ∧ MapRng P kt b w.heap.size M w' ∧ Below w.heap.size w w' ∧ w'.heap.size = w.heap.size + 1 := by
 obtain ⟨h1, h2⟩ := h.range ht
 exact ⟨_, h1, h2, (Below.refl _ _).alloc (Nat.le_refl _) _, by simp⟩
end
end
section
open Go.RowKit
theorem yieldsIf_lookup {P : Program} {ops : Array Oper} {S : World → Prop} {o : Oper} {a : Act} {t : TypeId} {m x : Operand} {mv kv v : Value} (hw : Region.wanted o (yielded ops a.tmps) = true) (hop : o.op = Op.lookup t m x false) (hm : a.eval m = mv) (hx : a.eval x = kv)
  (h : ∀ w, S w → (Instr.lookup t mv kv false).run P w = .ok v w) : YieldsIf P ops S o v a :=
 .inl ⟨hw, fun w hS => by simp [execOp, hop, hm, hx, h w hS, Result.andThen]⟩
theorem wp_mapUpdate {P : Program} {o : Oper} {a : Act} {t : TypeId} {m x y : Operand} {mv kv v : Value} {w w' : World} {K : Act → World → Prop} {Q : Exit → Act → World → Prop} (hop : o.op = Op.mapUpdate t m x y) (hm : a.eval m = mv) (hx : a.eval x = kv) (hy : a.eval y = v)
  (h : (Instr.mapUpdate t mv kv v).run P w = .ok () w') (hK : K (a.put o.dst undef) w') : Oper.wp P o a w K Q := by
 unfold Oper.wp
 simp [execOp, hop, hm, hx, hy, h, Result.andThen]
 exact hK
section
variable {α : Type} {T : TypeId} {size : Nat} {f : α → List Value}
structure MapRw (T : TypeId) (size : Nat) (f : α → List Value) (mb base : Nat) (g : Int → List α) (L : List (Int × Item α)) (W : World) : Prop where
 mp : MapIs Tryz.prog 3 mb (L.map fun x => ((.int .i64 x.1 : Value), ival x.2)) W
 sets : ∀ x ∈ L, W.ownsRow base T size (.slice x.2.1 x.2.2.2.length x.2.2.1) x.2.2.2.length (x.2.2.2.flatMap f)
 apart : ∀ x ∈ L, ∀ y ∈ L, x.1 ≠ y.1 → ∀ k, ownA x.2.1 = some k → ownA y.2.1 ≠ some k
 val : ∀ x ∈ L, x.2.2.2 = g x.1
 none : ∀ n, (∀ x ∈ L, x.1 ≠ n) → g n = []
variable {mb base : Nat} {g : Int → List α} {L : List (Int × Item α)} {W W' : World}
theorem MapRw.start (W : World) (base : Nat) : MapRw T size f W.heap.size base (fun _ => []) [] (W.alloc (.map #[] 0)) :=
 ⟨MapIs.made W, fun x hx => (by cases hx), fun x hx => (by cases hx), fun x hx => (by cases hx), fun _ _ => rfl⟩
theorem MapRw.keep (h : MapRw T size f mb base g L W) (hk : ∀ k, (k = mb ∨ base ≤ k) → k < W.heap.size → W'.heap[k]? = W.heap[k]?) : MapRw T size f mb base g L W' :=
 ⟨h.mp.same (hk mb (.inl rfl) h.mp.lt), fun x hx => own_keep (h.sets x hx) fun k hA => hk k (.inr (own_ty (h.sets x hx) hA).1) (own_ty (h.sets x hx) hA).2.1, h.apart, h.val, h.none⟩
theorem MapRw.below (h : MapRw T size f mb base g L W) (hb : Below W.heap.size W W') : MapRw T size f mb base g L W' := h.keep fun k _ hl => hb.block k hl
theorem mapRw_keys {P : Program} {kt : TypeId} {w : World} (h : MapIs P kt mb (L.map fun x => ((.int .i64 x.1 : Value), ival x.2)) w) : (L.map (·.1)).Nodup := by
 obtain ⟨es, clock, _, _, h3, _⟩ := h
 rw [List.map_map] at h3
 unfold List.Nodup at *
 rw [List.pairwise_map] at *
 exact h3.imp fun {a b} h e => h (congrArg (Value.int .i64) e)
theorem nodup_fst {α β : Type} {L : List (α × β)} (h : (L.map (·.1)).Nodup) {x y : α × β} (hx : x ∈ L) (hy : y ∈ L) (e : x.1 = y.1) : x = y := by
 induction L with
 | nil => cases hx
 | cons z L ih =>
  rw [List.map_cons, List.nodup_cons] at h
  rcases List.mem_cons.1 hx with hx1 | hx1
  ·rcases List.mem_cons.1 hy with hy1 | hy1
   ·rw [hx1, hy1]
   ·exact absurd (List.mem_map.2 ⟨y, hy1, by rw [← e, hx1]⟩) h.1
  ·rcases List.mem_cons.1 hy with hy1 | hy1
   ·exact absurd (List.mem_map.2 ⟨x, hx1, by rw [e, hy1]⟩) h.1
   ·exact ih h.2 hx1 hy1
theorem MapRw.look {mt et : TypeId} (h : MapRw T size f mb base g L W) {n : Int} (hn : I64 n) (hmt : Tryz.prog.underlying mt = some (.map 3 et)) (hz : ∀ W : World, (zeroValue et).run Tryz.prog W = .ok (.slice Option.none 0 0) W) :
  ∃ A c, ((∃ y ∈ L, y = (n, (A, c, g n))) ∨ ((∀ y ∈ L, y.1 ≠ n) ∧ A = Option.none ∧ c = 0 ∧ g n = [])) ∧ W.ownsRow base T size (.slice A (g n).length c) (g n).length ((g n).flatMap f) ∧
   ∀ W', W'.heap[mb]? = W.heap[mb]? → (Instr.lookup mt (.map (some mb)) (.int .i64 n) false).run Tryz.prog W' = .ok (.slice A (g n).length c) W' := by
 have hwf : (Lit.int .i64 n).wf = true := by
  unfold I64 at hn
  simp [Lit.wf, IntKind.min, IntKind.max, IntKind.signed, IntKind.bits]; omega
 have hk : keyOf Tryz.prog 3 (.int .i64 n) = some (.int .i64 n) := Maps.keyOf_int_mk Tryz.underlying3 hwf
 by_cases hex : ∃ y ∈ L, y.1 = n
 ·obtain ⟨⟨n', A, c, l⟩, hy, rfl⟩ := hex
  have hl : l = g n' := h.val _ hy
  subst hl
  refine ⟨A, c, .inl ⟨_, hy, rfl⟩, h.sets _ hy, fun W' hW => ?_⟩
  rcases (h.mp.same hW).look false (Maps.int_keyed Tryz.underlying3) hmt (hz W') hk with ⟨hno, _⟩ | ⟨v, hv, hrun⟩
  ·exact absurd rfl (hno _ (List.mem_map.2 ⟨_, hy, rfl⟩))
  ·obtain ⟨z, hz, hze⟩ := List.mem_map.1 hv
   have h1 : z.1 = n' := by have := congrArg Prod.fst hze; simpa using this
   obtain rfl := nodup_fst (mapRw_keys h.mp) hz hy h1
   have h2 : ival (A, c, g n') = v := congrArg Prod.snd hze
   rw [hrun, ← h2]; rfl
 ·have hno : ∀ y ∈ L, y.1 ≠ n := fun y hy e => hex ⟨y, hy, e⟩
  have hg := h.none n hno
  refine ⟨Option.none, 0, .inr ⟨hno, rfl, rfl, hg⟩, by rw [hg]; exact World.ownsRow_nil _ _ _ _, fun W' hW => ?_⟩
  rw [hg]
  rcases (h.mp.same hW).look false (Maps.int_keyed Tryz.underlying3) hmt (hz W') hk with ⟨_, hrun⟩ | ⟨v, hv, _⟩
  ·rw [hrun]; rfl
  ·obtain ⟨z, hz, hze⟩ := List.mem_map.1 hv
   have h1 : z.1 = n := by have := congrArg Prod.fst hze; simpa using this
   exact absurd h1 (hno z hz)
def putG (g : Int → List α) (n : Int) (x : α) : Int → List α := fun m => if m = n then g n ++ [x] else g m
theorem mapPut_rw (L : List (Int × Item α)) (n : Int) (s : Item α) : mapPut (L.map fun x => ((.int .i64 x.1 : Value), ival x.2)) (.int .i64 n) (ival s) = ((n, s) :: L.filter fun x => decide (x.1 ≠ n)).map fun x => ((.int .i64 x.1 : Value), ival x.2) := by
 classical
 unfold mapPut
 rw [List.map_cons]
 congr 1
 rw [List.filter_map]
 congr 1
 refine List.filter_congr fun x _ => ?_
 show decide _ = decide _
 rw [decide_eq_decide]
 simp
theorem MapRw.step {W7 W8 W9 : World} {ob : Obj} {A A' : Option Addr} {c c' : Nat} {x : α} {n : Int} (h : MapRw T size f mb base g L W) (hmb : mb < base) (hbW : base ≤ W.heap.size)
  (h7 : Below W.heap.size W W7) (hl : (∃ y ∈ L, y = (n, (A, c, g n))) ∨ ((∀ y ∈ L, y.1 ≠ n) ∧ A = Option.none ∧ c = 0 ∧ g n = []))
  (HO : W8.ownsRow base T size (.slice A' ((g n).length + 1) c') ((g n).length + 1) ((g n).flatMap f ++ f x)) (HG : (W7.alloc ob).grownBy W8 (ownA A)) (HN : Newer (ownA A) (ownA A') (W7.heap.size + 1))
  (hM : MapIs Tryz.prog 3 mb (mapPut (L.map fun x => ((.int .i64 x.1 : Value), ival x.2)) (.int .i64 n) (ival ((A', c', g n ++ [x]) : Item α))) W9) (hG9 : W8.grownBy W9 (some mb)) :
  ∃ L', MapRw T size f mb base (putG g n x) L' W9 ∧ (∀ k, k < base → k ≠ mb → W9.heap[k]? = W.heap[k]?) ∧ W.heap.size ≤ W9.heap.size ∧ (∀ B, B ≤ mb → B ≤ W.heap.size → Below B W W9) ∧ L'.length ≤ L.length + 1 := by
 have hs7 := h7.size
 have hs8 : W7.heap.size + 1 ≤ W8.heap.size := by have := HG.size; simp at this; omega
 have hs9 := hG9.size
 have hAow : ∀ k, ownA A = some k → (∃ y ∈ L, ownA y.2.1 = some k ∧ y.1 = n) ∧ base ≤ k ∧ k < W.heap.size := fun k hk => by
  rcases hl with ⟨y, hy, rfl⟩ | ⟨_, rfl, _⟩
  ·exact ⟨⟨_, hy, hk, rfl⟩, (h.sets _ hy).lt k (by rw [own_ownA]; exact hk)⟩
  ·cases hk
 have hold : ∀ k, k < W.heap.size → ownA A ≠ some k → W8.heap[k]? = W.heap[k]? := fun k hk hA =>
  (HG.block k (by simp; omega) (fun e => hA e.symm)).trans ((Below.heap_alloc _ _ _ (by omega)).trans (h7.block k hk))
 have hold9 : ∀ k, k < W.heap.size → ownA A ≠ some k → k ≠ mb → W9.heap[k]? = W.heap[k]? := fun k hk hA hm => (hG9.block k (by omega) (fun e => hm (by injection e))).trans (hold k hk hA)
 rw [mapPut_rw] at hM
 have hA9 : ∀ k, ownA A' = some k → base ≤ k ∧ k < W8.heap.size := fun k hk => HO.lt k (by rw [own_ownA]; exact hk)
 have hrow9 : W9.ownsRow base T size (.slice A' (g n ++ [x]).length c') (g n ++ [x]).length ((g n ++ [x]).flatMap f) := by
  have e : (g n ++ [x]).length = (g n).length + 1 := by simp
  rw [e, List.flatMap_append]
  simpa using own_keep HO fun k hk => hG9.block k (hA9 k hk).2 (fun e => by injection e with e; have := hA9 k hk; omega)
 refine ⟨(n, (A', c', g n ++ [x])) :: L.filter fun y => decide (y.1 ≠ n), ⟨hM, fun y hy => ?_, ?_, fun y hy => ?_, fun m hm => ?_⟩, fun k hk hkm => hold9 k (by omega) (fun e => by have := hAow k e; omega) hkm, by omega, fun B hB hBW => ?_, ?_⟩
 ·rcases List.mem_cons.1 hy with rfl | hy
  ·exact hrow9
  ·obtain ⟨hy1, hy2⟩ := List.mem_filter.1 hy
   have hyn : y.1 ≠ n := by simpa using hy2
   have hlt := fun k hk => (h.sets y hy1).lt k (by rw [own_ownA]; exact hk)
   refine own_keep (h.sets y hy1) fun k hk => hold9 k (hlt k hk).2 (fun e => ?_) (fun e => by have := hlt k hk; omega)
   obtain ⟨⟨z, hz, hz1, hz2⟩, _⟩ := hAow k e
   exact h.apart z hz y hy1 (fun e => hyn (e ▸ hz2)) k hz1 hk
 ·have key : ∀ y ∈ L, y.1 ≠ n → ∀ k, ownA A' = some k → ownA y.2.1 ≠ some k := fun y hy hyn k hk he => by
   have hlt := (h.sets y hy).lt k (by rw [own_ownA]; exact he)
   rcases HN with e | ⟨q, e, hq⟩
   ·rw [e] at hk
    obtain ⟨⟨z, hz, hz1, hz2⟩, _⟩ := hAow k hk
    exact h.apart z hz y hy (fun e => hyn (e ▸ hz2)) k hz1 he
   ·rw [e] at hk; injection hk with hk; omega
  intro y hy z hz hne k hk he
  rcases List.mem_cons.1 hy with rfl | hy
  ·rcases List.mem_cons.1 hz with rfl | hz
   ·exact hne rfl
   ·obtain ⟨hz1, hz2⟩ := List.mem_filter.1 hz
    exact key z hz1 (by simpa using hz2) k hk he
  ·obtain ⟨hy1, hy2⟩ := List.mem_filter.1 hy
   rcases List.mem_cons.1 hz with rfl | hz
   ·exact key y hy1 (by simpa using hy2) k he hk
   ·exact h.apart y hy1 z (List.mem_filter.1 hz).1 hne k hk he
 ·rcases List.mem_cons.1 hy with rfl | hy
  ·simp [putG]
  ·obtain ⟨hy1, hy2⟩ := List.mem_filter.1 hy
   have hyn : y.1 ≠ n := by simpa using hy2
   rw [h.val y hy1]; simp [putG, hyn]
 ·have hmn : m ≠ n := fun e => hm _ (List.mem_cons_self ..) e.symm
  simp only [putG, hmn, if_false]
  refine h.none m fun y hy e => ?_
  by_cases hyn : y.1 = n
  ·exact hmn (e ▸ hyn)
  ·exact hm y (List.mem_cons_of_mem _ (List.mem_filter.2 ⟨hy, by simpa using hyn⟩)) e
 ·exact ⟨hG9.os.trans (HG.os.trans h7.os), hG9.tape.trans (HG.tape.trans h7.tape), hG9.output.trans (HG.output.trans h7.output), by omega, fun k hk => hold9 k (by omega) (fun e => by have := hAow k e; omega) (by omega)⟩
 ·simp only [List.length_cons]
  have := List.length_filter_le (fun y : Int × Item α => decide (y.1 ≠ n)) L
  omega
end
end
section
open Go.RowKit
abbrev Place := Int × List Int
def placeC (p : Place) : List Value := [.int .i64 p.1, .int .i64 p.2.length, .int .i64 (p.2.getD 0 0), .int .i64 (p.2.getD 1 0), .int .i64 (p.2.getD 2 0), .int .i64 (p.2.getD 3 0)]
def PlaceOk (p : Place) : Prop := I64 p.1 ∧ p.2.length ≤ 4 ∧ ∀ c ∈ p.2, I64 c
theorem i64_0 : I64 0 := by unfold I64; decide
theorem PlaceOk.at_ {p : Place} (h : PlaceOk p) (i : Nat) : I64 (p.2.getD i 0) := by
 rcases Nat.lt_or_ge i p.2.length with hi | hi
 ·rw [List.getD_eq_getElem?_getD, List.getElem?_eq_getElem hi]
  exact h.2.2 _ (List.getElem_mem _)
 ·rw [List.getD_eq_getElem?_getD, List.getElem?_eq_none hi]
  exact i64_0
def placeV (p : Place) : Value := .agg (placeC p).toArray
theorem i64_wf {x : Int} (h : I64 x) : (Lit.int .i64 x).wf = true := by
 unfold I64 at h
 simp [Lit.wf, IntKind.min, IntKind.max, IntKind.signed, IntKind.bits]; omega
theorem keyLits_i64 (D : Nat) {x : Int} (h : I64 x) : Tryz.prog.keyLits (D + 1) 3 [.int .i64 x] = some [.int .i64 x] := by
 unfold Program.keyLits
 rw [Tryz.underlying3]
 simp [i64_wf h]
theorem keyLits_4 (D : Nat) {a b c d : Int} (ha : I64 a) (hb : I64 b) (hc : I64 c) (hd : I64 d) : Tryz.prog.keyLits (D + 2) 146 [.int .i64 a, .int .i64 b, .int .i64 c, .int .i64 d] = some [.int .i64 a, .int .i64 b, .int .i64 c, .int .i64 d] := by
 have h146 : Tryz.prog.cellsOf 146 = 4 := by kernel_rfl
 have h3 : Tryz.prog.cellsOf 3 = 1 := by kernel_rfl
 unfold Program.keyLits
 rw [Tryz.underlying146]
 simp [h146, h3, List.range_succ, List.mapM_cons, keyLits_i64 D ha, keyLits_i64 D hb, keyLits_i64 D hc, keyLits_i64 D hd]
theorem keyLits_w (D : Nat) {n a b c d : Int} (hn : I64 n) (ha : I64 a) (hb : I64 b) (hc : I64 c) (hd : I64 d) : Tryz.prog.keyLits (D + 3) 148 [.int .i64 n, .int .i64 a, .int .i64 b, .int .i64 c, .int .i64 d] = some [.int .i64 n, .int .i64 a, .int .i64 b, .int .i64 c, .int .i64 d] := by
 have h148 : Tryz.prog.cellsOf 148 = 5 := by kernel_rfl
 have h146 : Tryz.prog.cellsOf 146 = 4 := by kernel_rfl
 have h3 : Tryz.prog.cellsOf 3 = 1 := by kernel_rfl
 unfold Program.keyLits
 rw [Tryz.underlying148]
 simp [h148, h146, h3, List.mapM_cons, keyLits_i64 (D + 1) hn, keyLits_4 D ha hb hc hd]
theorem keyLits_p (D : Nat) {s n a b c d : Int} (hs : I64 s) (hn : I64 n) (ha : I64 a) (hb : I64 b) (hc : I64 c) (hd : I64 d) : Tryz.prog.keyLits (D + 4) 150 [.int .i64 s, .int .i64 n, .int .i64 a, .int .i64 b, .int .i64 c, .int .i64 d] = some [.int .i64 s, .int .i64 n, .int .i64 a, .int .i64 b, .int .i64 c, .int .i64 d] := by
 have h150 : Tryz.prog.cellsOf 150 = 6 := by kernel_rfl
 have h148 : Tryz.prog.cellsOf 148 = 5 := by kernel_rfl
 have h3 : Tryz.prog.cellsOf 3 = 1 := by kernel_rfl
 unfold Program.keyLits
 rw [Tryz.underlying150]
 simp [h150, h148, h3, List.mapM_cons, keyLits_i64 (D + 2) hs, keyLits_w D hn ha hb hc hd]
theorem place_key {p : Place} (h : PlaceOk p) : ∃ kl, keyOf Tryz.prog 150 (placeV p) = some kl := by
 have hkt : Tryz.prog.keyType 150 = true := by kernel_rfl
 have hf : (placeV p).formed Tryz.prog 150 = true := by
  have : ∀ a b c d e f : Value, (Value.agg #[a, b, c, d, e, f]).formed Tryz.prog 150 = true := fun a b c d e f => by kernel_rfl
  exact this _ _ _ _ _ _
 obtain ⟨D, hD⟩ : ∃ D, Tryz.prog.types.size + 1 = D + 4 := ⟨Tryz.prog.types.size - 3, by
  have : 4 ≤ Tryz.prog.types.size := of_decide_eq_true (by kernel_rfl)
  omega⟩
 have hl : I64 (p.2.length : Int) := by unfold I64; have := h.2.1; omega
 have hk := keyLits_p D h.1 hl (h.at_ 0) (h.at_ 1) (h.at_ 2) (h.at_ 3)
 unfold keyOf
 rw [Tryz.underlying150]
 simp only [hkt, hf, Bool.and_self, if_true, hD]
 exact ⟨_, by
  show Option.map _ (Tryz.prog.keyLits (D + 4) 150 [.int .i64 p.1, .int .i64 p.2.length, .int .i64 (p.2.getD 0 0), .int .i64 (p.2.getD 1 0), .int .i64 (p.2.getD 2 0), .int .i64 (p.2.getD 3 0)]) = _
  rw [hk]; rfl⟩
theorem laidOutA : laidOutB Tryz.prog = true := by kernel_rfl
theorem place_keyed : Maps.Keyed Tryz.prog 150 :=
 Maps.Keyed.of_law (deep_law_laid laidOutA (m := 5) (by omega) (of_decide_eq_true (by kernel_rfl)) (by kernel_rfl) (by kernel_rfl))
theorem placeV_inj {p q : Place} (hp : p.2.length ≤ 4) (hq : q.2.length ≤ 4) (h : placeV p = placeV q) : p = q := by
 unfold placeV placeC at h
 injection h with h
 have h := congrArg Array.toList h
 simp only [List.cons.injEq, Value.int.injEq, true_and] at h
 obtain ⟨h1, h2, h3, h4, h5, h6, _⟩ := h
 obtain ⟨s, l⟩ := p
 obtain ⟨s', l'⟩ := q
 simp only at *
 subst h1
 have hl : l.length = l'.length := by omega
 congr 1
 apply List.ext_getElem?
 intro i
 rcases Nat.lt_or_ge i l.length with hi | hi
 ·have hi' : i < l'.length := by omega
  have key : l.getD i 0 = l'.getD i 0 := by
   have : i = 0 ∨ i = 1 ∨ i = 2 ∨ i = 3 := by omega
   rcases this with rfl | rfl | rfl | rfl <;> assumption
  rw [List.getD_eq_getElem?_getD, List.getD_eq_getElem?_getD, List.getElem?_eq_getElem hi, List.getElem?_eq_getElem hi'] at key
  rw [List.getElem?_eq_getElem hi, List.getElem?_eq_getElem hi']
  simpa using key
 ·rw [List.getElem?_eq_none hi, List.getElem?_eq_none (by omega)]
end
section
open Go.RowKit
theorem guardPartD : Tryz.prog.eqGuardType Tryz.prog.depth 70 = false := by kernel_rfl
theorem eqlPartD (x1 x2 x3 x4 y1 y2 y3 y4 : Int) (b : Bool) (hb : pB (x1 = y1 ∧ x2 = y2 ∧ x3 = y3 ∧ x4 = y4) = b) (w : World) :
  (binOp .eql 70 (.agg #[.int .i64 x1, .int .i64 x2, .int .i64 x3, .int .i64 x4]) (.agg #[.int .i64 y1, .int .i64 y2, .int .i64 y3, .int .i64 y4])).run Tryz.prog w = .ok (.bool b) w := by
 have u3 := Tryz.underlying3
 have a3 := Tryz.isAgg3
 have z3 := Tryz.sizeOf3
 have hS : Tryz.prog.underlying 70 = some (.struct (Tryz.prog.fieldsOf 70)) := by kernel_rfl
 have hp : Tryz.prog.stoodInHeld 70 = false := by kernel_rfl
 rw [run_eql_struct, show (10000 : Nat) = 9999 + 1 from rfl, run_equalIn_agg w 9999 70 _ _ hS hp]
 simp only [Program.fieldsOf, Tryz.underlying70]
 subst hb
 by_cases h1 : x1 = y1
 ·subst h1
  by_cases h2 : x2 = y2
  ·subst h2
   by_cases h3 : x3 = y3
   ·subst h3
    by_cases h4 : x4 = y4
    ·subst h4
     rw [pB_true (p := x1 = x1 ∧ x2 = x2 ∧ x3 = x3 ∧ x4 = x4) ⟨rfl, rfl, rfl, rfl⟩]
     go_simp
    ·rw [pB_false (fun h => h4 h.2.2.2)]
     go_simp
   ·rw [pB_false (fun h => h3 h.2.2.1)]
    go_simp
  ·rw [pB_false (fun h => h2 h.2.1)]
   go_simp
 ·rw [pB_false (fun h => h1 h.1)]
  go_simp
theorem neqPartD (x1 x2 x3 x4 y1 y2 y3 y4 : Int) (b : Bool) (hb : pB (x1 = y1 ∧ x2 = y2 ∧ x3 = y3 ∧ x4 = y4) = b) (w : World) :
  (binOp .neq 70 (.agg #[.int .i64 x1, .int .i64 x2, .int .i64 x3, .int .i64 x4]) (.agg #[.int .i64 y1, .int .i64 y2, .int .i64 y3, .int .i64 y4])).run Tryz.prog w = .ok (.bool (!b)) w := by
 have h := eqlPartD x1 x2 x3 x4 y1 y2 y3 y4 b hb w
 rw [run_eql_struct] at h
 rw [run_neq_struct]
 generalize (Op.equalIn 10000 70 (.agg #[.int .i64 x1, .int .i64 x2, .int .i64 x3, .int .i64 x4]) (.agg #[.int .i64 y1, .int .i64 y2, .int .i64 y3, .int .i64 y4])).run Tryz.prog w = r at h
 cases r with
 | ok a w1 => simp at h; obtain ⟨rfl, rfl⟩ := h; simp
 | halt h1 w1 => simp at h
theorem yielded_undefD {ops : Array Oper} {tmps : Array Value} {j : Nat} (h : ((ops[j]?).bind (·.dst)).bind (tmps[·]?) = some undef) : yielded ops tmps j = none := by
 unfold yielded; rw [h]; rfl
attribute [local go_sem ↓] yielded_undefD
section
variable {w0 w : World} {F : World → Prop} {A : Option Addr} {l : List PartL}
theorem plain_st (hK : Hid (St w0 w F)) (b d t u s : Int) (c : Nat) (v : Bool) (hv : Hid (pB (PlainT ⟨b, d, t, u, s, l⟩) = v)) :
  Calls Tryz.prog 203 #[.agg #[.int .i64 b, .int .i64 d, .int .i64 t, .int .i64 u, .int .i64 s, .slice A l.length c]] w (RetV w0 (.bool v) F) := by
 have HK := St.box hK [.int .i64 b, .int .i64 d, .int .i64 t, .int .i64 u, .int .i64 s, .slice A l.length c] 68
 have hg := guardPartD
 by_cases b0 : b = 0
 case neg =>
  have b0' : (b == 0) = false := by simpa using b0
  obtain rfl := pB_f hv (fun h => b0 h.1)
  go_enter Tryz.func203, Tryz.ntmps203
  go_wp2_with fail
  go_ret
  exact ⟨rfl, Lh (HK.out.weaken fun _ h => h.2)⟩
 subst b0
 have hq : ∀ w, _ := eqlPartD 0 d t u 0 0 21 0 v (by rw [← hv.out]; exact pB_congr ⟨fun h => ⟨rfl, h.2⟩, fun h => ⟨rfl, h.2⟩⟩)
 go_enter Tryz.func203, Tryz.ntmps203
 go_wp2_with fail
 refine (retV_gives HK (outer_any 0 d t u s A l.length c _)).mono ?_
 rintro e w1 ⟨rfl, HK1⟩
 go_wp2_with fail
 refine (retV_gives HK1 (Whole_any 0 _)).mono ?_
 rintro e w2 ⟨rfl, HK2⟩
 go_wp2_with fail
 go_ret
 exact ⟨rfl, Lh (HK2.out.weaken fun _ h => h.2)⟩
def RtP (i : Int) (n : Nat) (p : PartL) : Prop := PartOk n p ∧ (i = 2 → WholeP p)
def RtTo (i : Int) (n : Nat) (l : List PartL) (k : Nat) : Prop := ∀ p ∈ l.take k, RtP i n p
theorem RtTo.next {i : Int} {n : Nat} {k : Nat} {p : PartL} (h : RtTo i n l k) (hx : l[k]? = some p) (hp : RtP i n p) : RtTo i n l (k + 1) := fun q hq => by
 rw [take_snoc? hx] at hq
 rcases List.mem_append.1 hq with hq | hq
 ·exact h q hq
 ·simp at hq; subst hq; exact hp
theorem tRightG_st (hK : Hid (St w0 w F)) (hp : ∀ W, F W → PartsAt A l W) (b d t u s : Int) (c : Nat) (i o : Int) (n : Nat) (v : Bool) (hv : Hid (pB (TermRt i o n ⟨b, d, t, u, s, l⟩) = v)) :
  Calls Tryz.prog 172 #[.agg #[.int .i64 b, .int .i64 d, .int .i64 t, .int .i64 u, .int .i64 s, .slice A l.length c], .int .i64 i, .int .i64 o, .int .i64 n] w (RetV w0 (.bool v) F) := by
 have hln := (hp _ hK.out.now).ln
 have HP := Lh hp
 have HK := St.box hK [.int .i64 b, .int .i64 d, .int .i64 t, .int .i64 u, .int .i64 s, .slice A l.length c] 68
 have hg := guardPartD
 clear hp
 by_cases s1 : SortOk i
 case neg =>
  have h1 : (((domL i).length : Int) == 0) = true := by rw [(domL_nil i).2 s1]; rfl
  obtain rfl := pB_f hv (fun h => s1 h.1)
  clear s1
  go_enter Tryz.func172, Tryz.ntmps172
  go_wp2_with fail
  refine (DomX_st HK i).mono ?_
  rintro e w1 ⟨A1, c1, rfl, HK1⟩
  go_wp2_with fail
  go_ret
  exact ⟨rfl, Lh (HK1.out.weaken fun _ h => h.2.2)⟩
 have h1 : (((domL i).length : Int) == 0) = false := by
  rw [beq_eq_false_iff_ne]
  intro h
  exact (domL_nil i).1 (List.eq_nil_of_length_eq_zero (by omega)) s1
 by_cases s2 : SortOk o
 case neg =>
  have h2 : (((domL o).length : Int) == 0) = true := by rw [(domL_nil o).2 s2]; rfl
  obtain rfl := pB_f hv (fun h => s2 h.2.1)
  clear s1 s2
  go_enter Tryz.func172, Tryz.ntmps172
  go_wp2_with fail
  refine (DomX_st HK i).mono ?_
  rintro e w1 ⟨A1, c1, rfl, HK1⟩
  go_wp2_with fail
  refine (DomX_st HK1 o).mono ?_
  rintro e w2 ⟨A2, c2, rfl, HK2⟩
  go_wp2_with fail
  go_ret
  exact ⟨rfl, Lh (HK2.out.weaken fun _ h => h.2.2.2)⟩
 have h2 : (((domL o).length : Int) == 0) = false := by
  rw [beq_eq_false_iff_ne]
  intro h
  exact (domL_nil o).1 (List.eq_nil_of_length_eq_zero (by omega)) s2
 have HS := Lh (And.intro s1 s2)
 clear s1 s2
 go_enter Tryz.func172, Tryz.ntmps172
 go_wp2_with fail
 refine (DomX_st HK i).mono ?_
 rintro e w1 ⟨A1, c1, rfl, HK1⟩
 go_wp2_with fail
 refine (DomX_st HK1 o).mono ?_
 rintro e w2 ⟨A2, c2, rfl, HK2⟩
 have HK2 : Hid (St w0 w2 (fun W => BoxC w.heap.size [.int .i64 b, .int .i64 d, .int .i64 t, .int .i64 u, .int .i64 s, .slice A l.length c] W ∧ F W)) := Lh (HK2.out.weaken fun _ h => h.2.2)
 obtain ⟨hc0, hc1, hc2, hc3, hc4, hc5⟩ := HK2.out.now.1.c6
 clear h1
 by_cases a1 : NumsOk ⟨b, d, t, u, s, l⟩
 case neg =>
  obtain rfl := pB_f hv (fun h => a1 h.2.2.1)
  have H1 := Lh (pB_false a1)
  clear a1
  go_wp2_with fail
  refine (numbers_st HK2 (fun _ h => HP.out _ h.2) b d t u s c false H1).mono ?_
  rintro e w3 ⟨rfl, HK3⟩
  go_wp2_with fail
  go_ret
  exact ⟨rfl, Lh (HK3.out.weaken fun _ h => h.2)⟩
 have H1 := Lh (pB_true a1)
 have HA := Lh a1
 clear a1
 go_wp2_with fail
 refine (numbers_st HK2 (fun _ h => HP.out _ h.2) b d t u s c true H1).mono ?_
 rintro e w3 ⟨rfl, HK3⟩
 clear hc0 hc1 hc2 hc3 hc4 hc5 h2
 have hc5 := HK3.out.now.1 5 _ rfl
 have h4 : l.length ≤ 4 := HA.out.2.2.2.2
 go_wp2_with fail
 go_loopw [29] (fun iv wr => ∃ k : Nat, k ≤ l.length ∧ iv = .int .i64 k ∧ Hid (RtTo i n l k) ∧ Hid (St w0 wr (fun W => BoxC w.heap.size [.int .i64 b, .int .i64 d, .int .i64 t, .int .i64 u, .int .i64 s, .slice A l.length c] W ∧ F W))) (fun iv _ => l.length - (intOf iv).toNat)
 case atStart => exact ⟨0, Nat.zero_le _, rfl, Lh (fun p hp => by simp at hp), HK3⟩
 case round =>
 clear hc5 HK HK1 HK2 HK3 H1
 obtain ⟨k, hk, rfl, HR, HK⟩ := hrel
 by_cases hlt : k < l.length
 ·obtain ⟨pb, off, p, rfl, hx, hw, hd0, hd1, hd2, hd3⟩ := (HP.out _ HK.out.now.2).at_ hlt
  have hlw := lt_of_cell hd0
  have HKp := St.box HK [.int .i64 p.1, .int .i64 p.2.1, .int .i64 p.2.2.1, .int .i64 p.2.2.2] 70
  obtain ⟨x1, x2, x3, x4⟩ := p
  simp only at hd0 hd1 hd2 hd3 HKp
  have HX := Lh hx
  have HBAD : ¬ RtP i n (x1, x2, x3, x4) → v = false := fun h => pB_f hv (fun g => h (g.2.2.2.1 _ (List.mem_of_getElem? HX.out)))
  clear hx hw
  by_cases a2 : PartOk n (x1, x2, x3, x4)
  case neg =>
   have H2 := Lh (pB_false a2)
   obtain rfl := HBAD (fun h => a2 h.1)
   clear a2 HBAD
   go_wp2_with fail
   have HK := St.hdrewN HKp 1
   first | (go_region_with (go_at_call 183; refine (PRight_st HK x1 x2 x3 x4 n false H2).mono ?_; rintro e w5 ⟨rfl, HK⟩)) | fail
   all_goals (go_wp2_with fail; go_ret; exact ⟨rfl, Lh (HK.out.weaken fun _ h => h.2.2)⟩)
  have H2 := Lh (pB_true a2)
  by_cases i2 : i = 2
  case neg =>
   have i2' : (i == 2) = false := by simpa using i2
   have HN := Lh (HR.out.next HX.out ⟨a2, fun h => absurd h i2⟩)
   clear a2 HBAD i2
   go_wp2_with fail
   have HK := St.hdrewN HKp 1
   first | (go_region_with (go_at_call 183; refine (PRight_st HK x1 x2 x3 x4 n true H2).mono ?_; rintro e w5 ⟨rfl, HK⟩)) | fail
   all_goals (go_wp2_with fail; exact ⟨⟨k + 1, by omega, by go_num, HN, Lh (HK.out.weaken fun _ h => h.2)⟩, by simp [intOf]; omega⟩)
  subst i2
  by_cases a3 : WholeP (x1, x2, x3, x4)
  case neg =>
   obtain rfl := HBAD (fun h => a3 (h.2 rfl))
   have hq := neqPartD x1 x2 x3 x4 x1 0 21 0 false (pB_false fun h => a3 h.2)
   clear a2 a3 HBAD
   go_wp2_with fail
   have HK6 := St.hdrewN HKp 1
   go_region_held3 (fun W => W.cell? ⟨wr.heap.size, 0, none⟩ = some (.int .i64 x1) ∧ W.cell? ⟨wr.heap.size, 1, none⟩ = some (.int .i64 x2) ∧ W.cell? ⟨wr.heap.size, 2, none⟩ = some (.int .i64 x3) ∧ W.cell? ⟨wr.heap.size, 3, none⟩ = some (.int .i64 x4))
    (first | exact HK8.out.now.1.c4 | exact HK7.out.now.1.c4 | exact HK6.out.now.1.c4 | go_keep)
    ((first | (go_at_call 183; refine (PRight_st HK6 x1 x2 x3 x4 n true H2).mono ?_; rintro e7 w7 ⟨rfl, HK7⟩) | (go_at_call 202; refine (retV_gives HK7 (Whole_any x1 _)).mono ?_; rintro e8 w8 ⟨rfl, HK8⟩)))
   go_wp2_with fail
   go_ret
   exact ⟨rfl, Lh (HK8.out.weaken fun _ h => h.2.2)⟩
  have HN := Lh (HR.out.next HX.out ⟨a2, fun h => a3⟩)
  have hq := neqPartD x1 x2 x3 x4 x1 0 21 0 true (pB_true ⟨rfl, a3⟩)
  clear a2 a3 HBAD
  go_wp2_with fail
  have HK6 := St.hdrewN HKp 1
  go_region_held3 (fun W => W.cell? ⟨wr.heap.size, 0, none⟩ = some (.int .i64 x1) ∧ W.cell? ⟨wr.heap.size, 1, none⟩ = some (.int .i64 x2) ∧ W.cell? ⟨wr.heap.size, 2, none⟩ = some (.int .i64 x3) ∧ W.cell? ⟨wr.heap.size, 3, none⟩ = some (.int .i64 x4))
   (first | exact HK8.out.now.1.c4 | exact HK7.out.now.1.c4 | exact HK6.out.now.1.c4 | go_keep)
   ((first | (go_at_call 183; refine (PRight_st HK6 x1 x2 x3 x4 n true H2).mono ?_; rintro e7 w7 ⟨rfl, HK7⟩) | (go_at_call 202; refine (retV_gives HK7 (Whole_any x1 _)).mono ?_; rintro e8 w8 ⟨rfl, HK8⟩)))
  go_wp2_with fail
  go_roundw
  case rel => exact ⟨k + 1, by omega, by go_num, HN, Lh (HK8.out.weaken fun _ h => h.2)⟩
  case measure => simp [intOf]; omega
 ·obtain rfl : k = l.length := by omega
  have hd : decide (l.length < l.length) = false := by simp
  have HRA : Hid (∀ p ∈ l, RtP i n p) := Lh (by have := HR.out; unfold RtTo at this; rwa [List.take_length] at this)
  have hc5 := HK.out.now.1 5 _ rfl
  have HE : Hid (pB ((i = 2 → l.length ≤ 1) ∧ (o = 2 → PlainT ⟨b, d, t, u, s, l⟩)) = v) := by
   unfold Hid
   rw [← hv.out]
   exact pB_congr ⟨fun h => ⟨HS.out.1, HS.out.2, HA.out, HRA.out, h⟩, fun h => h.2.2.2.2⟩
  by_cases i2 : i = 2 ∧ ¬ l.length ≤ 1
  ·obtain ⟨rfl, l1⟩ := i2
   have l1' : ¬ (l.length : Int) ≤ 1 := by omega
   obtain rfl := pB_f HE (fun h => l1 (h.1 rfl))
   go_wp2_with fail
   go_ret
   exact ⟨rfl, Lh (HK.out.weaken fun _ h => h.2)⟩
  have HI : Hid (pB (o = 2 → PlainT ⟨b, d, t, u, s, l⟩) = v) := by
   unfold Hid
   rw [← HE.out]
   exact pB_congr ⟨fun h => ⟨fun e => Nat.le_of_not_lt fun h1 => i2 ⟨e, by omega⟩, h⟩, fun h => h.2⟩
  have hi : (i = 2 ∧ (l.length : Int) ≤ 1) ∨ (i != 2) = true := by
   by_cases e : i = 2
   ·exact .inl ⟨e, by have : l.length ≤ 1 := Nat.le_of_not_lt fun h1 => i2 ⟨e, by omega⟩; omega⟩
   ·exact .inr (by simpa using e)
  clear i2
  by_cases o2 : o = 2
  case neg =>
   have o2' : (o != 2) = true := by simpa using o2
   obtain rfl := pB_t HI (fun h => absurd h o2)
   clear o2
   rcases hi with ⟨rfl, hi⟩ | hi
   ·go_wp2_with fail
    go_ret
    exact ⟨rfl, Lh (HK.out.weaken fun _ h => h.2)⟩
   ·go_wp2_with fail
    go_ret
    exact ⟨rfl, Lh (HK.out.weaken fun _ h => h.2)⟩
  subst o2
  have HPL : Hid (pB (PlainT ⟨b, d, t, u, s, l⟩) = v) := by
   unfold Hid
   rw [← HI.out]
   exact pB_congr ⟨fun h _ => h, fun h => h rfl⟩
  obtain ⟨hc0, hc1, hc2, hc3, hc4, _⟩ := HK.out.now.1.c6
  rcases hi with ⟨rfl, hi⟩ | hi
  ·go_wp2_with fail
   refine (plain_st HK b d t u s c v HPL).mono ?_
   rintro e w4 ⟨rfl, HK4⟩
   go_wp2_with fail
   go_ret
   exact ⟨rfl, Lh (HK4.out.weaken fun _ h => h.2)⟩
  ·go_wp2_with fail
   refine (plain_st HK b d t u s c v HPL).mono ?_
   rintro e w4 ⟨rfl, HK4⟩
   go_wp2_with fail
   go_ret
   exact ⟨rfl, Lh (HK4.out.weaken fun _ h => h.2)⟩
end
end
section
open Go.RowKit
def InnS (t : TermL) (gs : List (List Sp)) (v : Int) : Prop := ∃ w, WinG gs w ∧ innerT t w = v
def OutS (t : TermL) (gs : List (List Sp)) (y : Int) : Prop := ∃ w, WinG gs w ∧ y = t.base + pval t.drop t.take t.up (innerT t w)
def InRange (t : TermL) (gs : List (List Sp)) : Prop := ∀ v, InnS t gs v → 0 ≤ v ∧ v ≤ 1114111
theorem winG_len {gs : List (List Sp)} {w : List Int} (h : WinG gs w) : gs.length = w.length := hitM_len h.1
theorem innS_bd {t : TermL} (hn : NumsOk t) {gs : List (List Sp)} {v : Int} (h : InnS t gs v) : -1073741824 ≤ v ∧ v ≤ 1073741824 := by
 obtain ⟨w, _, rfl⟩ := h
 have := innerTo_bd hn.2.1 w t.parts.length hn.2.2.2.2
 unfold innerT
 omega
theorem rep_inn {t : TermL} (hn : NumsOk t) (gs : List (List Sp)) : ∃ r, Hid (Rep r (InnS t gs)) := rep_all _ fun v h => innS_bd hn h
noncomputable def symL (g : List Sp) : List Sp := plL fun x => Mem g x ∧ Mem [(0, 1114111)] x
theorem symL_rep (g : List Sp) : Rep (symL g) (fun x => Mem g x ∧ Mem [(0, 1114111)] x) := plL_rep (rep_all _ fun x hx => ⟨hx.1.1, hx.1.2.1⟩)
theorem symL_mem (g : List Sp) (x : Int) : Mem (symL g) x ↔ (Mem g x ∧ 0 ≤ x ∧ x ≤ 1114111) := by
 rw [(symL_rep g).mem]
 constructor
 ·rintro ⟨h1, _, _, h2⟩; exact ⟨h1, by simpa [InS] using h2⟩
 ·rintro ⟨h1, h2⟩; exact ⟨h1, h1.1, h1.2.1, by simpa [InS] using h2⟩
theorem winG_sym (gs : List (List Sp)) (w : List Int) : WinG (gs.map symL) w ↔ WinG gs w := by
 unfold WinG
 rw [hitM_iff, hitM_iff, List.length_map]
 constructor
 ·rintro ⟨⟨h1, h2⟩, h3⟩
  refine ⟨⟨h1, fun k s x hs hx => ?_⟩, h3⟩
  exact ((symL_mem _ _).1 (h2 k (symL s) x (by rw [List.getElem?_map, hs]; rfl) hx)).1
 ·rintro ⟨⟨h1, h2⟩, h3⟩
  refine ⟨⟨h1, fun k s x hs hx => ?_⟩, h3⟩
  rw [List.getElem?_map] at hs
  rcases hg : gs[k]? with _ | g
  ·rw [hg] at hs; cases hs
  ·rw [hg] at hs; injection hs with hs; subst hs
   exact (symL_mem _ _).2 ⟨h2 k g x hg hx, h3 x (List.mem_of_getElem? hx)⟩
theorem innS_sym (t : TermL) (gs : List (List Sp)) (v : Int) : InnS t (gs.map symL) v ↔ InnS t gs v := by
 unfold InnS
 constructor
 ·rintro ⟨w, h1, h2⟩; exact ⟨w, (winG_sym gs w).1 h1, h2⟩
 ·rintro ⟨w, h1, h2⟩; exact ⟨w, (winG_sym gs w).2 h1, h2⟩
theorem win_ex {gs : List (List Sp)} (h : ∀ g ∈ gs, g ≠ [] ∧ Plain g ∧ ∀ x, InS g x → 0 ≤ x ∧ x ≤ 1114111) : ∃ w, WinG gs w := by
 induction gs with
 | nil => exact ⟨[], trivial, fun x hx => by cases hx⟩
 | cons g gs ih =>
  obtain ⟨w, h1, h2⟩ := ih fun q hq => h q (List.mem_cons_of_mem _ hq)
  obtain ⟨hn, hp, hb⟩ := h g (List.mem_cons_self ..)
  obtain ⟨p, l, rfl⟩ := List.exists_cons_of_ne_nil hn
  have hx : InS (p :: l) p.1 := .inl ⟨Int.le_refl _, hp.2.1⟩
  refine ⟨p.1 :: w, ⟨(hp.mem _).2 hx, h1⟩, fun x hx2 => ?_⟩
  rcases List.mem_cons.1 hx2 with rfl | hx2
  ·exact hb _ hx
  ·exact h2 x hx2
theorem win_none {gs : List (List Sp)} {g : List Sp} (hg : g ∈ gs) (h : symL g = []) (w : List Int) : ¬ WinG gs w := by
 rintro ⟨h1, h2⟩
 obtain ⟨hl, h1⟩ := (hitM_iff _ _).1 h1
 obtain ⟨k, hk⟩ := List.getElem?_of_mem hg
 have hkl := (List.getElem?_eq_some_iff.1 hk).1
 have hx := List.getElem?_eq_getElem (l := w) (i := k) (by omega)
 have h3 := (symL_mem g _).2 ⟨h1 k g _ hk hx, h2 _ (List.mem_of_getElem? hx)⟩
 rw [h] at h3
 exact h3.2.2
theorem bitsOk_b {d t u : Int} (h : BitsOk d t u) : bitsB d t u = true := by
 rw [bitsB_iff]
 unfold BitsOk at h
 omega
theorem val_pval {t : TermL} (hb : BitsOk t.drop t.take t.up) {w : List Int} (h0 : 0 ≤ innerT t w) (h1 : innerT t w ≤ 1114111) : valN t w = t.base + pval t.drop t.take t.up (innerT t w) ∧ vOk t.drop t.take t.up (innerT t w) = true := by
 have hv : vOk t.drop t.take t.up (innerT t w) = true := (vOk_iff _ _ _ _).2 ⟨bitsOk_b hb, h0, by omega⟩
 refine ⟨?_, hv⟩
 unfold valN vNum
 rw [if_pos hv]
theorem fits_iff {i o : Int} {gs : List (List Sp)} {t : TermL} (ht : TermRt i o gs.length t) : FitsP i o gs t ↔ (InRange t gs ∧ ∀ y, OutS t gs y → InD o y) := by
 unfold FitsP InRange OutS
 constructor
 ·rintro ⟨_, h⟩
  refine ⟨?_, ?_⟩
  ·rintro v ⟨w, hw, rfl⟩
   have := (h w hw).1
   exact ⟨this.2.2.1, this.2.2.2.1⟩
  ·rintro y ⟨w, hw, rfl⟩
   have h1 := (h w hw).1
   rw [← (val_pval ht.2.2.1.2.2.1 h1.2.2.1 h1.2.2.2.1).1]
   exact (h w hw).2
 ·rintro ⟨h1, h2⟩
  refine ⟨ht, fun w hw => ?_⟩
  have h3 := h1 _ ⟨w, hw, rfl⟩
  have h4 := val_pval ht.2.2.1.2.2.1 h3.1 h3.2
  refine ⟨⟨hw.2, fun p hp => ?_, h3.1, h3.2, h4.2⟩, ?_⟩
  ·rw [← winG_len hw]; exact (ht.2.2.2.1 p hp).1
  ·rw [h4.1]; exact h2 _ ⟨w, hw, rfl⟩
theorem outS_bd {t : TermL} (hn : NumsOk t) {gs : List (List Sp)} {y : Int} (h : OutS t gs y) : -1073741824 ≤ y ∧ y ≤ 1073741824 := by
 obtain ⟨w, _, rfl⟩ := h
 have h1 := pval_bd (bitsOk_b hn.2.2.1) (innerT t w)
 have h2 := hn.1
 unfold SmallN at h2
 omega
theorem inn_one {t : TermL} (hp : t.parts = []) {gs : List (List Sp)} (hw : ∃ w, WinG gs w) (v : Int) : InnS t gs v ↔ v = t.sum := by
 have hi : ∀ w, innerT t w = t.sum := fun w => by simp [innerT, innerTo, hp]
 constructor
 ·rintro ⟨w, _, rfl⟩; exact hi w
 ·rintro rfl
  obtain ⟨w, hw⟩ := hw
  exact ⟨w, hw, hi w⟩
end
section
open Go.RowKit
def RetLB2 (w0 : World) (r : List Sp) (ok : Bool) (F : World → Prop) (e : Ending) (w' : World) : Prop := ∃ A c, e = .returned (.tuple #[.slice A r.length c, .bool ok]) ∧ Hid (St w0 w' (fun W => Lst A r W ∧ F W))
section
variable {w0 w : World} {F : World → Prop}
theorem values0_st (hK : Hid (St w0 w F)) (b d t u s : Int) (A : Option Addr) (c : Nat) (B : Option Addr) (n cb : Nat) (hs : SmallN s) (ok : Bool) (hok : Hid (pB (0 ≤ s ∧ s ≤ 1114111) = ok)) :
  Calls Tryz.prog 242 #[.agg #[.int .i64 b, .int .i64 d, .int .i64 t, .int .i64 u, .int .i64 s, .slice A 0 c], .slice B n cb] w (RetLB2 w0 [(s, s)] ok F) := by
 have HK := St.box hK [.int .i64 b, .int .i64 d, .int .i64 t, .int .i64 u, .int .i64 s, .slice A 0 c] 68
 have hs1 := hs.1
 have hs2 := hs.2
 have hc5 := HK.out.now.1 5 _ rfl
 have hmm := @run_makeMap Tryz.prog
 go_enter Tryz.func242, Tryz.ntmps242
 go_wp2_with fail
 have HK2 := Lh (HK.out.alloc (.map #[] 0))
 clear hc5
 have hd : decide (0 < 0) = false := by simp
 go_loopw [7, 21] (fun pv iv wr => pv = .slice none 0 0 ∧ iv = .int .i64 0 ∧ Hid (St w0 wr (fun W => BoxC w.heap.size [.int .i64 b, .int .i64 d, .int .i64 t, .int .i64 u, .int .i64 s, .slice A 0 c] W ∧ F W))) (fun _ iv _ => 0)
 case atStart => exact ⟨rfl, rfl, HK2⟩
 case round =>
 clear HK2
 obtain ⟨rfl, rfl, HK2⟩ := hrel
 have hc4 := HK2.out.now.1 4 _ rfl
 go_wp2_with fail
 have HK3 := St.lit HK2 (s, s) (by intro p hp; simp at hp; subst hp; simp; omega)
 clear hc4
 go_loopw [10, 55] (fun ov iv wr2 => ov = .slice (some ⟨wr.heap.size, 0, none⟩) 1 1 ∧ iv = .int .i64 0 ∧ Hid (St w0 wr2 (fun W => Lst (some ⟨wr.heap.size, 0, none⟩) [(s, s)] W ∧ F W))) (fun _ iv _ => 0)
 case atStart => exact ⟨rfl, rfl, Lh (HK3.out.weaken fun _ h => ⟨h.1, h.2.2⟩)⟩
 case round =>
 clear HK3
 obtain ⟨rfl, rfl, HK3⟩ := hrel
 have hr : Hid (Rep [(s, s)] (Mem [(s, s)])) := Lh (Rep.self (by simp [Plain, PlainF]; omega))
 have hx : optD (nthS [(s, s)] 0) = s := by simp [nthS, optD]
 have hb : optB (nthS [(s, s)] 0) = true := by simp [nthS, optB]
 have hc : cnt [(s, s)] - 1 = 0 := by simp [cnt]
 have HX := Lh hx
 have HB := Lh hb
 have HC := Lh hc
 clear hx hb hc
 go_wp2_with fail
 refine (First_st HK3 (fun _ h => h.1) 1 hr HX.out HB.out).mono ?_
 rintro e w4 ⟨rfl, HK4⟩
 go_wp2_with fail
 refine (Last_st HK4 (fun _ h => h.1) 1 hr (x := s) (v := true) (by rw [HC.out]; exact HX.out) (by rw [HC.out]; exact HB.out)).mono ?_
 rintro e w5 ⟨rfl, HK5⟩
 by_cases g1 : 0 ≤ s
 ·obtain rfl := pB_t hok ⟨g1, hs2⟩
  go_wp2_with fail
  go_ret2
  exact ⟨_, _, rfl, HK5⟩
 ·obtain rfl := pB_f hok (fun h => g1 h.1)
  go_wp2_with fail
  go_ret2
  exact ⟨_, _, rfl, HK5⟩
end
end
section
open Go.RowKit
def StageP (l : List PartL) : Prop := l = []
section
variable {w0 w : World} {F : World → Prop}
theorem values_st (hK : Hid (St w0 w F)) {A : Option Addr} {l : List PartL} (hp : ∀ W, F W → PartsAt A l W) (b d t u s : Int) (c : Nat) {B : Option Addr} {O : List (Item Sp)} (hb : ∀ W, F W → LLx B O W) (cb : Nat)
  (hn : Hid (NumsOk ⟨b, d, t, u, s, l⟩)) (hpo : Hid (∀ p ∈ l, PartOk O.length p)) (hO : Hid (∀ g ∈ bodies O, g ≠ [] ∧ Plain g ∧ ∀ x, InS g x → 0 ≤ x ∧ x ≤ 1114111)) (r : List Sp) (hr : Hid (Rep r (InnS ⟨b, d, t, u, s, l⟩ (bodies O)))) (ok : Bool) (hok : Hid (pB (InRange ⟨b, d, t, u, s, l⟩ (bodies O)) = ok)) (hst : StageP l) :
  Calls Tryz.prog 242 #[.agg #[.int .i64 b, .int .i64 d, .int .i64 t, .int .i64 u, .int .i64 s, .slice A l.length c], .slice B O.length cb] w (RetLB2 w0 r ok F) := by
 obtain rfl : l = [] := hst
 have hi := inn_one (t := ⟨b, d, t, u, s, []⟩) rfl (win_ex hO.out)
 have hs : SmallN s := hn.out.2.1
 have hs1 := hs.1
 have hs2 := hs.2
 have hR : Rep [(s, s)] (InnS ⟨b, d, t, u, s, []⟩ (bodies O)) := ⟨by simp [Plain, PlainF]; omega, fun v => by
  rw [hi]
  show _ ↔ v = s
  simp only [InS, or_false]
  omega⟩
 obtain rfl := Rep.unique hr.out hR (fun _ => Iff.rfl)
 refine values0_st hK b d t u s A c B O.length cb hs ok (Lh ?_)
 rw [← hok.out]
 refine pB_congr ⟨fun h v hv => ?_, fun h => h s ((hi s).2 rfl)⟩
 rw [(hi v).1 hv]; exact h
end
end
section
open Go.RowKit
section
variable {w0 w : World} {F : World → Prop}
theorem symbols_st (hK : Hid (St w0 w F)) : Calls Tryz.prog 241 #[] w (RetL w0 [(0, 1114111)] F) := by
 go_enter Tryz.func241, Tryz.ntmps241
 go_wp2_with fail
 go_ret
 exact ⟨_, 1, rfl, St.lit hK (0, 1114111) (by intro p hp; simp at hp; subst hp; simp)⟩
def SymNe (gs : List (List Sp)) (k : Nat) : Prop := ∀ g ∈ gs.take k, symL g ≠ []
theorem symNe_next {gs : List (List Sp)} {k : Nat} {g : List Sp} (h : gs[k]? = some g) : SymNe gs (k + 1) ↔ (SymNe gs k ∧ symL g ≠ []) := by
 unfold SymNe
 rw [take_snoc? h]
 constructor
 ·intro q; exact ⟨fun x hx => q x (List.mem_append.2 (.inl hx)), q g (by simp)⟩
 ·rintro ⟨q1, q2⟩ x hx
  rcases List.mem_append.1 hx with hx | hx
  ·exact q1 x hx
  ·simp at hx; subst hx; exact q2
theorem inner_st (hK : Hid (St w0 w F)) {A : Option Addr} {l : List PartL} (hp : ∀ W, F W → PartsAt A l W) (b d t u s : Int) (c : Nat) {B : Option Addr} {O : List (Item Sp)} (hb : ∀ W, F W → LLx B O W) (cb : Nat)
  (h4 : O.length ≤ 4) (hn : Hid (NumsOk ⟨b, d, t, u, s, l⟩)) (hpo : Hid (∀ p ∈ l, PartOk O.length p)) (r : List Sp) (hr : Hid (Rep r (InnS ⟨b, d, t, u, s, l⟩ (bodies O)))) (ok : Bool) (hok : Hid (pB (InRange ⟨b, d, t, u, s, l⟩ (bodies O)) = ok)) (hst : StageP l) :
  Calls Tryz.prog 228 #[.agg #[.int .i64 b, .int .i64 d, .int .i64 t, .int .i64 u, .int .i64 s, .slice A l.length c], .slice B O.length cb] w (RetLB2 w0 r ok F) := by
 have HP := Lh hp
 have HB := Lh hb
 have hl4 : l.length ≤ 4 := hn.out.2.2.2.2
 have h4' : (O.length : Int) ≤ 4 := by omega
 have HK := St.box hK [.int .i64 b, .int .i64 d, .int .i64 t, .int .i64 u, .int .i64 s, .slice A l.length c] 68
 have HN := Lh (pB_true hn.out)
 obtain ⟨q0, q1, q2, q3, q4, q5⟩ := HK.out.now.1.c6
 have hmk : ∀ w : World, (Instr.makeSlice 29 (.int .i64 (O.length : Int)) (.int .i64 (O.length : Int))).run Tryz.prog w = .ok (.slice (some ⟨w.heap.size, 0, none⟩) O.length O.length) (w.alloc (.cells (madeCells #[.slice none 0 0] O.length) 103)) := fun w => run_make_row' 29 103 (.slice none 0 0) 24 Tryz.underlying29 infoHdy rfl .i64 .i64 O.length (by omega) (by omega) w
 clear hp hb
 go_enter Tryz.func228, Tryz.ntmps228
 go_wp2_with fail
 refine (numbers_st HK (fun _ h => HP.out _ h.2) b d t u s c true HN).mono ?_
 rintro e w3 ⟨rfl, HK3⟩
 clear q0 q1 q2 q3 q4 q5 HK
 go_wp2_with fail
 clear hmk
 go_loopw [6, 25] (fun sv iv wr => ∃ (k : Nat) (sb : Bool) (Q : List (Item Sp)), k ≤ O.length ∧ iv = .int .i64 k ∧ sv = .bool sb ∧ Q.length = O.length ∧ Hid (pB (SymNe (bodies O) k) = sb) ∧ Hid (bodies Q = ((bodies O).map symL).take k ++ List.replicate (O.length - k) []) ∧ Hid (RwB w3.heap.size w3.heap.size Q wr) ∧ Hid (Below w3.heap.size w3 wr)) (fun _ iv _ => O.length - (intOf iv).toNat)
 case atStart =>
  refine ⟨0, true, List.replicate O.length (none, 0, []), Nat.zero_le _, rfl, rfl, by simp, Lh (pB_true fun g hg => by simp at hg), Lh (by simp [bodies]), Lh ?_, Lh ?_⟩
  ·exact RwB.start w3 O.length
  ·exact (Below.refl _ _).alloc (Nat.le_refl _) _
 case round =>
 obtain ⟨k, sb, Q, hk, rfl, rfl, hQl, HS, HQ, HRW, HBL⟩ := hrel
 have HKr : Hid (St w0 wr (fun W => BoxC w.heap.size [.int .i64 b, .int .i64 d, .int .i64 t, .int .i64 u, .int .i64 s, .slice A l.length c] W ∧ F W)) := Lh (HK3.out.step HBL.out)
 by_cases hlt : k < O.length
 ·obtain ⟨gb, off, ga, gc, g, rfl, _, hg, hc, hl⟩ := (HB.out _ HKr.out.now.2).at_ hlt
  have HG := Lh hg
  have HKi := Lh (HKr.out.add (Below.refl _ _) (G := Lst ga g) (fun W hW => hl.below hW))
  have hsz : w3.heap.size ≤ wr.heap.size := by have := HBL.out.size; omega
  have HRS : Hid (Rep (symL g) (fun x => Mem g x ∧ Mem [(0, 1114111)] x)) := Lh (symL_rep g)
  obtain ⟨sl, hsl⟩ : ∃ z, symL g = z := ⟨_, rfl⟩
  rw [hsl] at HRS
  have HSL := Lh hsl
  have HNX := Lh (symNe_next hg)
  have hnew : (bodies (Q.set k (none, 0, sl))) = ((bodies O).map symL).take (k + 1) ++ List.replicate (O.length - (k + 1)) [] := by
   have hG2 : ((bodies O).map symL)[k]? = some sl := by rw [List.getElem?_map, hg, ← hsl]; rfl
   have e := fill_set hG2
   rw [List.length_map, bodies_length, ← HQ.out] at e
   rw [← e]; unfold bodies; rw [List.map_set]
  have HNEW := Lh hnew
  have hkq : k < Q.length := by omega
  clear hg hl hsl hnew
  go_wp2_with fail
  refine (symbols_st (St.here HKi)).mono ?_
  rintro e w4 ⟨A4, c4, rfl, HK4⟩
  go_wp2_with fail
  refine (Meet_stD HK4 (fun _ h => h.2.1) (fun _ h => h.1) gc c4 HRS).mono ?_
  rintro e w5 ⟨A5, c5, rfl, HD5, HK5, HB5⟩
  have HD6 := Lh (HD5.out.mono (P' := fun k => wr.heap.size ≤ k) fun k hp _ => Nat.le_trans HK4.out.2.size hp)
  have HRN := Lh (HRW.out.set (by omega) HK5.out.2 (i := k) (c := c5) HD6.out)
  obtain ⟨vc, hvc, hvf⟩ := (HRW.out.below HK5.out.2).cell hkq
  have hcs : (w5.setCell ⟨w3.heap.size, k, none⟩ (.slice A5 sl.length c5)).cell? ⟨w3.heap.size, k, none⟩ = some (.slice A5 sl.length c5) := World.cell?_setCell_same _ _ _ hvc
  have HBN : Hid (Below w3.heap.size w3 (w5.setCell ⟨w3.heap.size, k, none⟩ (.slice A5 sl.length c5))) := Lh ((HBL.out.trans (HK5.out.2.mono hsz)).setCell (Nat.le_refl _) _)
  have HQN : Hid (bodies (Q.set k (A5, c5, sl)) = ((bodies O).map symL).take (k + 1) ++ List.replicate (O.length - (k + 1)) []) := Lh (by
   rw [← HNEW.out]; unfold bodies; rw [List.map_set, List.map_set])
  have hQl2 : (Q.set k (A5, c5, sl)).length = O.length := by rw [List.length_set]; exact hQl
  have HQl2 := Lh hQl2
  have HLT := Lh hlt
  have hkO : (k : Int) < (O.length : Int) := by omega
  clear hQl2 hsz hkq hlt hc hQl
  rcases sb with _ | _
  ·have HSN : Hid (pB (SymNe (bodies O) (k + 1)) = false) := Lh (pB_false fun h => by
    have h2 := pB_true (HNX.out.1 h).1
    rw [HS.out] at h2; cases h2)
   go_wp2_with fail
   go_roundw
   case rel => exact ⟨k + 1, false, Q.set k (A5, c5, sl), by have := HLT.out; omega, by go_num, rfl, HQl2.out, HSN, HQN, HRN, HBN⟩
   case measure => have := HLT.out; simp [intOf]; omega
  by_cases hn : sl = []
  ·subst hn
   have HSN : Hid (pB (SymNe (bodies O) (k + 1)) = false) := Lh (pB_false fun h => (HNX.out.1 h).2 HSL.out)
   go_wp2_with fail
   go_roundw
   case rel => exact ⟨k + 1, false, Q.set k (A5, c5, []), by have := HLT.out; omega, by go_num, rfl, HQl2.out, HSN, HQN, HRN, HBN⟩
   case measure => have := HLT.out; simp [intOf]; omega
  ·have hpos : decide (0 < sl.length) = true := by simpa using List.length_pos_iff.2 hn
   have HSN : Hid (pB (SymNe (bodies O) (k + 1)) = true) := Lh (pB_true (HNX.out.2 ⟨pB_iff.1 HS.out, by rw [HSL.out]; exact hn⟩))
   clear hn
   go_wp2_with fail
   go_roundw
   case rel => exact ⟨k + 1, true, Q.set k (A5, c5, sl), by have := HLT.out; omega, by go_num, rfl, HQl2.out, HSN, HQN, HRN, HBN⟩
   case measure => have := HLT.out; simp [intOf]; omega
 ·obtain rfl : k = O.length := by omega
  have hd : decide (O.length < O.length) = false := by simp
  have HBQ : Hid (bodies Q = (bodies O).map symL) := Lh (by
   rw [HQ.out, Nat.sub_self, List.replicate_zero, List.append_nil, List.take_of_length_le (by rw [List.length_map, bodies_length]; exact Nat.le_refl _)])
  have HKs := Lh (HKr.out.add (Below.refl _ _) (G := LLx (some ⟨w3.heap.size, 0, none⟩) Q) (fun W hW => (HRW.out.row (Nat.le_refl _) (by omega)).mono (P' := fun _ => True) (fun _ _ _ => trivial) W (fun k _ hk => hW.block k hk)))
  have HSA : Hid (pB (∀ g ∈ bodies O, symL g ≠ []) = sb) := Lh (by
   rw [← HS.out]; unfold SymNe; rw [List.take_of_length_le (by rw [bodies_length]; exact Nat.le_refl _)])
  have hc5 := HKs.out.now.2.1 5 _ rfl
  rw [← hQl]
  have HQl := Lh hQl
  clear hQl HS HQ
  go_wp2_with fail
  clear hc5
  go_loopw [49] (fun iv wr2 => ∃ k : Nat, k ≤ l.length ∧ iv = .int .i64 k ∧ Hid (St w0 wr2 (fun W => LLx (some ⟨w3.heap.size, 0, none⟩) Q W ∧ BoxC w.heap.size [.int .i64 b, .int .i64 d, .int .i64 t, .int .i64 u, .int .i64 s, .slice A l.length c] W ∧ F W))) (fun iv _ => l.length - (intOf iv).toNat)
  case atStart => exact ⟨0, Nat.zero_le _, rfl, HKs⟩
  case round =>
  clear HKs HKr HRW HBL
  obtain ⟨k, hk, rfl, HKs⟩ := hrel
  by_cases hlt : k < l.length
  ·obtain ⟨pb, off, p, rfl, hx, hw, hd0, hd1, hd2, hd3⟩ := (HP.out _ HKs.out.now.2.2).at_ hlt
   have H2 := Lh (pB_true (hpo.out p (List.mem_of_getElem? hx)))
   have HKp := St.box HKs [.int .i64 p.1, .int .i64 p.2.1, .int .i64 p.2.2.1, .int .i64 p.2.2.2] 70
   obtain ⟨x1, x2, x3, x4⟩ := p
   simp only at hd0 hd1 hd2 hd3 HKp
   clear hx hw
   rw [HQl.out]
   go_wp2_with fail
   refine (PRight_st HKp x1 x2 x3 x4 O.length true H2).mono ?_
   rintro e w6 ⟨rfl, HK6⟩
   go_wp2_with fail
   go_roundw
   case rel => exact ⟨k + 1, by omega, by go_num, Lh (HK6.out.weaken fun _ h => h.2)⟩
   case measure => simp [intOf]; omega
  ·obtain rfl : k = l.length := by omega
   have hd : decide (l.length < l.length) = false := by simp
   rcases sb with _ | _
   ·have hno : ∀ w, ¬ WinG (bodies O) w := fun w hw => by
     have h1 : ¬ ∀ g ∈ bodies O, symL g ≠ [] := fun h => by have := pB_true h; rw [HSA.out] at this; cases this
     apply h1
     intro g hg h2
     exact win_none hg h2 w hw
    obtain rfl := pB_t hok (fun v ⟨w, hw, _⟩ => absurd hw (hno w))
    obtain rfl := Rep.unique hr.out (show Rep [] (InnS ⟨b, d, t, u, s, l⟩ (bodies O)) from ⟨by simp [Plain, PlainF], fun v => by
     simp only [InS, false_iff]
     rintro ⟨w, hw, _⟩
     exact hno w hw⟩) (fun _ => Iff.rfl)
    go_wp2_with fail
    go_ret2
    exact ⟨none, 0, rfl, Lh (HKs.out.weaken fun W h => ⟨lst_nil W, h.2.2⟩)⟩
   ·have HO : Hid (∀ g ∈ bodies Q, g ≠ [] ∧ Plain g ∧ ∀ x, InS g x → 0 ≤ x ∧ x ≤ 1114111) := Lh fun g hg => by
     rw [HBQ.out] at hg
     obtain ⟨g', hg', rfl⟩ := List.mem_map.1 hg
     refine ⟨pB_iff.1 HSA.out g' hg', (symL_rep g').1, fun x hx => ?_⟩
     exact ((symL_mem g' x).1 (((symL_rep g').1.mem x).2 hx)).2
    have HPQ : Hid (∀ p ∈ l, PartOk Q.length p) := Lh (by rw [HQl.out]; exact hpo.out)
    have HR2 : Hid (Rep r (InnS ⟨b, d, t, u, s, l⟩ (bodies Q))) := Lh (by rw [HBQ.out]; exact hr.out.congr fun v => (innS_sym _ _ v).symm)
    have HOK2 : Hid (pB (InRange ⟨b, d, t, u, s, l⟩ (bodies Q)) = ok) := Lh (by
     rw [← hok.out, HBQ.out]
     exact pB_congr ⟨fun h v hv => h v ((innS_sym _ _ v).2 hv), fun h v hv => h v ((innS_sym _ _ v).1 hv)⟩)
    obtain ⟨q0, q1, q2, q3, q4, q5⟩ := HKs.out.now.2.1.c6
    go_wp2_with fail
    refine (values_st HKs (fun _ h => HP.out _ h.2.2) b d t u s c (fun _ h => h.1) Q.length hn HPQ HO r HR2 ok HOK2 hst).mono ?_
    rintro e w7 ⟨A7, c7, rfl, HK7⟩
    go_wp2_with fail
    go_ret2
    exact ⟨A7, c7, rfl, Lh (HK7.out.weaken fun W h => ⟨h.1, h.2.2.2⟩)⟩
end
end
section
open Go.RowKit Go.Shelf
def SRow (w : World) (base : Nat) (A : Option Addr) (c : Nat) (l : List Sp) : Prop := w.ownsRow base 129 2 (.slice A l.length c) l.length (spanCells l)
theorem SRow.start (w : World) (base : Nat) : SRow w base none 0 [] := World.ownsRow_nil _ _ _ _
theorem SRow.spans {w : World} {base : Nat} {A : Option Addr} {c : Nat} {l : List Sp} (h : SRow w base A c l) : Spans w A l.length l := Sl.of_own h
theorem SRow.alloc {w : World} {base : Nat} {A : Option Addr} {c : Nat} {l : List Sp} (h : SRow w base A c l) (o : Obj) : SRow (w.alloc o) base A c l := World.ownsRow.alloc h o
theorem SRow.drewN {w : World} {base : Nat} {A : Option Addr} {c : Nat} {l : List Sp} (h : SRow w base A c l) (q : Nat) : SRow (w.drewN q) base A c l := h
theorem SRow.drew {w : World} {base : Nat} {A : Option Addr} {c : Nat} {l : List Sp} (h : SRow w base A c l) : SRow w.drew base A c l := h
theorem SRow.pushed {B : Nat} {W w0 w' : World} {o : Obj} {base : Nat} {A : Option Addr} {c : Nat} {l : List Sp} (hb : Below B W w0) (hown : SRow w0 base A c l) (hB : B ≤ base) (hB' : B ≤ w0.heap.size)
  (hg : (w0.alloc o).grownBy w' (Value.ownBlock (.slice A l.length c))) : Below B W w' := below_pushed hb hown hB hB' hg
theorem SRow.lit (w : World) (base : Nat) (p1 p2 : Int) (h : base ≤ w.heap.size) : SRow (w.alloc (.cells #[.int .i64 p1, .int .i64 p2] 129)) base (some ⟨w.heap.size, 0, none⟩) 1 [(p1, p2)] :=
 ⟨rfl, .inr ⟨w.heap.size, 1, _, rfl, h, heap_alloc_new w _, Nat.le_refl _, by unfold maxLen; omega, rfl, rfl⟩⟩
theorem SRow.lit' {w : World} {base B : Nat} {p1 p2 : Int} (hB : B = w.heap.size) (h : base ≤ w.heap.size) : SRow (w.alloc (.cells #[.int .i64 p1, .int .i64 p2] 129)) base (some ⟨B, 0, none⟩) 1 [(p1, p2)] := by
 subst hB; exact SRow.lit w base p1 p2 h
section
variable {w0 : World} {ops : Array Oper} {rest : List Oper} {o : Oper} {a : Act} {Q : Exit → Act → World → Prop} {base : Nat} {A : Option Addr} {c : Nat} {l : List Sp}
theorem wpList_pushS (hgd : o.guard = none) (s x : Operand) (ho : o.op = .call { callee := .builtin .append, args := #[s, x], argTypes := #[103, 103] })
  (hown : SRow w0 base A c l) (hs : a.eval s = .slice A l.length c) {p1 p2 : Int} (hx : a.eval x = .slice (some ⟨w0.heap.size, 0, none⟩) 1 1) (hn : l.length < 1099511627776) (hbase : base ≤ w0.heap.size)
  (h : ∀ (l' : List Sp) A' c' w', Hid (l' = l ++ [(p1, p2)]) → Hid (SRow w' base A' c' l') → Hid ((w0.alloc (.cells #[.int .i64 p1, .int .i64 p2] 129)).grownBy w' (Value.ownBlock (.slice A l.length c))) →
   Hid (Value.ownBlock (.slice A' l'.length c') = Value.ownBlock (.slice A l.length c) ∨ Value.ownBlock (.slice A' l'.length c') = some (w0.heap.size + 1)) → wpList Tryz.prog ops Q rest (a.put o.dst (.slice A' l'.length c')) w') :
  wpList Tryz.prog ops Q (o :: rest) a (w0.alloc (.cells #[.int .i64 p1, .int .i64 p2] 129)) := by
 obtain ⟨i0, hi, hz0, hz1, hz2⟩ := info_parts info59
 have hs0 : (w0.alloc (.cells #[.int .i64 p1, .int .i64 p2] 129)).heap.size = w0.heap.size + 1 := by simp
 refine wpList_append_own_at _ hgd s x 103 ho base 129 i0 _ 2 16 Tryz.underlying103 hi hz0 hz1 hz2 rfl (by decide) _ l.length (spanCells l) hs (hown.alloc _) ⟨w0.heap.size, 0, none⟩ 1 1 [.int .i64 p1, .int .i64 p2] hx rfl ?_ (one2 rfl rfl)
  (by unfold maxLen; omega) (by omega) (by rw [hs0]; omega) ?_
 ·exact World.news_of_block (cs := #[.int .i64 p1, .int .i64 p2]) (t := 129) (fr := (0, 0)) (heap_alloc_new w0 _)
 ·intro v' w' hown' hg _ hat
  obtain ⟨A', c', rfl⟩ := own_shape hown'
  have e : (l ++ [(p1, p2)]).length = l.length + 1 := by simp
  rw [hs0] at hat
  rw [← e] at hown' hat ⊢
  exact h _ A' c' w' rfl (by unfold Hid SRow; rw [spanCells_append]; exact hown') hg hat
theorem wpList_pushS2 (hgd : o.guard = none) (s x : Operand) (ho : o.op = .call { callee := .builtin .append, args := #[s, x], argTypes := #[103, 103] })
  (hown : SRow w0 base A c l) (hs : a.eval s = .slice A l.length c) {p1 p2 q1 q2 : Int} (hx : a.eval x = .slice (some ⟨w0.heap.size, 0, none⟩) 2 2) (hn : l.length < 1099511627776) (hbase : base ≤ w0.heap.size)
  (h : ∀ (l' : List Sp) A' c' w', Hid (l' = l ++ [(p1, p2), (q1, q2)]) → Hid (SRow w' base A' c' l') → Hid ((w0.alloc (.cells #[.int .i64 p1, .int .i64 p2, .int .i64 q1, .int .i64 q2] 129)).grownBy w' (Value.ownBlock (.slice A l.length c))) →
   Hid (Value.ownBlock (.slice A' l'.length c') = Value.ownBlock (.slice A l.length c) ∨ Value.ownBlock (.slice A' l'.length c') = some (w0.heap.size + 1)) → wpList Tryz.prog ops Q rest (a.put o.dst (.slice A' l'.length c')) w') :
  wpList Tryz.prog ops Q (o :: rest) a (w0.alloc (.cells #[.int .i64 p1, .int .i64 p2, .int .i64 q1, .int .i64 q2] 129)) := by
 obtain ⟨i0, hi, hz0, hz1, hz2⟩ := info_parts info59
 have hs0 : (w0.alloc (.cells #[.int .i64 p1, .int .i64 p2, .int .i64 q1, .int .i64 q2] 129)).heap.size = w0.heap.size + 1 := by simp
 refine wpList_append_own_at _ hgd s x 103 ho base 129 i0 _ 2 16 Tryz.underlying103 hi hz0 hz1 hz2 rfl (by decide) _ l.length (spanCells l) hs (hown.alloc _) ⟨w0.heap.size, 0, none⟩ 2 2 [.int .i64 p1, .int .i64 p2, .int .i64 q1, .int .i64 q2] hx rfl ?_ (by intro u hu; simp at hu; rcases hu with rfl | rfl | rfl | rfl <;> rfl)
  (by unfold maxLen; omega) (by omega) (by rw [hs0]; omega) ?_
 ·exact World.news_of_block (cs := #[.int .i64 p1, .int .i64 p2, .int .i64 q1, .int .i64 q2]) (t := 129) (fr := (0, 0)) (heap_alloc_new w0 _)
 ·intro v' w' hown' hg _ hat
  obtain ⟨A', c', rfl⟩ := own_shape hown'
  have e : (l ++ [(p1, p2), (q1, q2)]).length = l.length + 2 := by simp
  rw [hs0] at hat
  rw [← e] at hown' hat ⊢
  exact h _ A' c' w' rfl (by unfold Hid SRow; rw [spanCells_append]; exact hown') hg hat
theorem wp_pushS (hgd : o.guard = none) (s x : Operand) (ho : o.op = .call { callee := .builtin .append, args := #[s, x], argTypes := #[103, 103] })
  (hown : SRow w0 base A c l) (hs : a.eval s = .slice A l.length c) {p1 p2 : Int} (hx : a.eval x = .slice (some ⟨w0.heap.size, 0, none⟩) 1 1) (hn : l.length < 1099511627776) (hbase : base ≤ w0.heap.size) {K : Act → World → Prop}
  (h : ∀ (l' : List Sp) A' c' w', Hid (l' = l ++ [(p1, p2)]) → Hid (SRow w' base A' c' l') → Hid ((w0.alloc (.cells #[.int .i64 p1, .int .i64 p2] 129)).grownBy w' (Value.ownBlock (.slice A l.length c))) →
   Hid (Value.ownBlock (.slice A' l'.length c') = Value.ownBlock (.slice A l.length c) ∨ Value.ownBlock (.slice A' l'.length c') = some (w0.heap.size + 1)) → K (a.put o.dst (.slice A' l'.length c')) w') :
  o.wp Tryz.prog a (w0.alloc (.cells #[.int .i64 p1, .int .i64 p2] 129)) K Q := by
 obtain ⟨i0, hi, hz0, hz1, hz2⟩ := info_parts info59
 have hs0 : (w0.alloc (.cells #[.int .i64 p1, .int .i64 p2] 129)).heap.size = w0.heap.size + 1 := by simp
 obtain ⟨v', w', hr, hown', hg, _, hat⟩ := run_append_own_at (P := Tryz.prog) (w0.alloc (.cells #[.int .i64 p1, .int .i64 p2] 129)) base 103 o.type 129 i0 _ 2 16 Tryz.underlying103 hi hz0 hz1 hz2 rfl (by decide) (.slice A l.length c) l.length (spanCells l) (hown.alloc _) ⟨w0.heap.size, 0, none⟩ 1 1 [.int .i64 p1, .int .i64 p2] rfl
  (World.news_of_block (cs := #[.int .i64 p1, .int .i64 p2]) (t := 129) (fr := (0, 0)) (heap_alloc_new w0 _)) (one2 rfl rfl) (by unfold maxLen; omega) (by omega) (by rw [hs0]; omega)
 unfold Oper.wp execOp
 simp only [ho, resolve, invoke, builtin, Sem.run_bind, Sem.run_pure, Result.andThen_ok, List.map_toArray, List.map_cons, List.map_nil, hs, hx, hr]
 obtain ⟨A', c', rfl⟩ := own_shape hown'
 have e : (l ++ [(p1, p2)]).length = l.length + 1 := by simp
 rw [hs0] at hat
 rw [← e] at hown' hat ⊢
 exact h _ A' c' w' rfl (by unfold Hid SRow; rw [spanCells_append]; exact hown') hg hat
end
theorem leaveM_nil {P : Program} {F : Fence} {n : Nat} {fn : Func} {tmps : Array Value} {R : Ending → World → Prop} {w : World} (v : Value) (h : (results fn tmps).run P w = .ok v w) (hR : R (.returned v) w) : LeavesInM F n P fn tmps R [] .returning w := ⟨v, h, hR⟩
theorem leaveM_mark {P : Program} {F : Fence} {n : Nat} {fn : Func} {tmps : Array Value} {R : Ending → World → Prop} {w : World} {D : Nat} (v : Value) (hD : w.heap[D]? = some (.deferred (some []))) (h : ∀ w', (results fn tmps).run P w' = .ok v w')
  (hR : R (.returned v) (w.putObj D (.deferred none))) : LeavesInM F n P fn tmps R [{ target := .collected D, args := #[] }] .returning w :=
 ⟨by simp, .inl ⟨_, _, rfl, run_takeDeferred hD, v, h _, hR⟩⟩
theorem St.mark {w0 w1 w : World} {F : World → Prop} {A : Option Addr} {r : List Sp} {D : Nat} (h : St w0 w1 F) (hb : Below w1.heap.size w1 w) (hL : Lst A r w) (hD : w1.heap.size ≤ D) (hK : w.heap[D]? = some (.deferred (some []))) :
  St w0 (w.putObj D (.deferred none)) (fun W => Lst A r W ∧ F W) := by
 have hg := grownBy_putObj' w D (.deferred none)
 have hb' : Below w1.heap.size w1 (w.putObj D (.deferred none)) := hb.grown hg hb.size (fun k e => by cases e; exact hD)
 refine h.add hb' (fun W hW => ?_)
 refine Lst.below ⟨⟨hL.sp.1, fun hn => ?_⟩, hL.wd, hL.len⟩ hW
 obtain ⟨b, off, e, hc⟩ := hL.sp.2 hn
 exact ⟨b, off, e, fun j u hu => cell_kept (hc j u hu) hg (fun r e => by cases e; exact ⟨_, hK, rfl⟩)⟩
def BoxRow (Bu base : Nat) (o : List Sp) (W : World) : Prop := ∃ A c, W.cell? ⟨Bu, 0, none⟩ = some (.slice A o.length c) ∧ W.frozen? ⟨Bu, 0, none⟩ = false ∧ SRow W base A c o
theorem BoxRow.own {β : Type} (B Bu base : Nat) (f : β → List Sp) : OwnFrom B (fun s W => BoxRow Bu base (f s) W) := by
 rintro s X Y row ⟨A, c, h1, h2, h3⟩ hg hr
 refine ⟨A, c, cell_kept h1 hg (fun r e => (hr r e).2), (frozen_kept h1 hg (fun r e => (hr r e).2)).trans h2, ?_⟩
 refine h3.kept hg ?_
 rcases hb : Value.ownBlock (.slice A (f s).length c) with _ | g
 ·exact .inl rfl
 ·right
  intro e
  obtain ⟨_, o, ho, hc⟩ := hr g e.symm
  rcases h3.2 with ⟨e', _⟩ | ⟨g', cap, cur, e', _, hgg, _⟩
  ·rw [e'] at hb; simp [Value.ownBlock] at hb
  ·rw [e'] at hb
   simp [Value.ownBlock] at hb
   subst hb
   rw [hgg] at ho
   cases ho
   cases hc
theorem BoxRow.new (w : World) (base : Nat) : BoxRow w.heap.size base [] (w.alloc (.cells #[.slice none 0 0] 103)) := by
 have hb := heap_alloc_new w (.cells #[.slice none 0 0] 103)
 refine ⟨none, 0, ?_, ?_, SRow.start _ _⟩
 ·simp only [World.cell?, hb]; rfl
 ·unfold World.frozen?; rw [hb]; simp
theorem BoxRow.push {lo hi Bu base : Nat} {W w0 W3 : World} {A A' : Option Addr} {c c' : Nat} {o l' : List Sp} {ob : Obj} (h1 : lo ≤ Bu) (h2 : Bu < hi) (h3 : hi ≤ base) (hv : W.cell? ⟨Bu, 0, none⟩ = some (.slice A o.length c)) (hf : W.frozen? ⟨Bu, 0, none⟩ = false)
  (ho : SRow W base A c o) (hb : Below W.heap.size W w0) (hob : ob.isCells = true) (HO : SRow W3 base A' c' l') (HG : (w0.alloc ob).grownBy W3 (Value.ownBlock (.slice A o.length c)))
  (HAT : Value.ownBlock (.slice A' l'.length c') = Value.ownBlock (.slice A o.length c) ∨ Value.ownBlock (.slice A' l'.length c') = some (w0.heap.size + 1)) :
  KeepsOthers W (W3.setCell ⟨Bu, 0, none⟩ (.slice A' l'.length c')) ∧ KpB lo hi Bu W (W3.setCell ⟨Bu, 0, none⟩ (.slice A' l'.length c')) ∧ BoxRow Bu base l' (W3.setCell ⟨Bu, 0, none⟩ (.slice A' l'.length c')) ∧
   Below lo W (W3.setCell ⟨Bu, 0, none⟩ (.slice A' l'.length c')) := by
 have hBu := lt_of_cell hv
 have hba : Below W.heap.size W (w0.alloc ob) := hb.alloc hb.size _
 have hs0 : (w0.alloc ob).heap.size = w0.heap.size + 1 := by simp
 have hrow : SRow w0 base A c o := by
  refine ⟨ho.1, ?_⟩
  rcases ho.2 with h | ⟨g, cap, cur, e, hg1, hg2, hg3⟩
  ·exact .inl h
  ·exact .inr ⟨g, cap, cur, e, hg1, (hb.block g (Array.getElem?_eq_some_iff.1 hg2).1).trans hg2, hg3⟩
 have hrowa : SRow (w0.alloc ob) base A c o := hrow.alloc _
 obtain ⟨k1, k2, k3⟩ := KpB.pushed (lo := lo) (hi := hi) h1 h2 hv hba hrowa HG (by rw [hs0]; exact HAT) HO h3
 have hne : some Bu ≠ Value.ownBlock (.slice A o.length c) := fun e => by have := ho.lt Bu e.symm; omega
 have hgb : ∀ k, Value.ownBlock (.slice A o.length c) = some k → lo ≤ k := fun k e => by have := ho.lt k e; omega
 refine ⟨?_, k1, ⟨A', c', k2, ?_, k3⟩, ?_⟩
 ·have q1 : KeepsOthers W w0 := ⟨hb.size, fun k o hk _ => (hb.block k (Array.getElem?_eq_some_iff.1 hk).1).trans hk⟩
  refine ((q1.trans (KeepsOthers.alloc w0 ob)).trans (KeepsOthers.of_grownBy HG ?_)).trans (KeepsOthers.setCell _ _ _)
  intro j oj hj hoj
  rcases hrowa.2 with ⟨e', _⟩ | ⟨g', cap, cur, e', _, hgg, _⟩
  ·rw [e'] at hj; simp [Value.ownBlock] at hj
  ·rw [e'] at hj
   simp [Value.ownBlock] at hj
   subst hj
   rw [hgg] at hoj
   cases hoj
   rfl
 ·rw [World.frozen?_setCell]
  exact (World.frozen?_of_block (HG.block Bu (by have := hba.size; omega) hne)).trans ((hba.frozen (p := ⟨Bu, 0, none⟩) hBu).trans hf)
 ·have q2 : Below lo W (w0.alloc ob) := hba.mono (by omega)
  exact (q2.grown HG (by have := hba.size; omega) hgb).setCell (p := ⟨Bu, 0, none⟩) h1 _
theorem SRow.below {W w : World} {base : Nat} {A : Option Addr} {c : Nat} {l : List Sp} (h : SRow W base A c l) (hb : Below W.heap.size W w) : SRow w base A c l := by
 refine ⟨h.1, ?_⟩
 rcases h.2 with h | ⟨g, cap, cur, e, hg1, hg2, hg3⟩
 ·exact .inl h
 ·exact .inr ⟨g, cap, cur, e, hg1, (hb.block g (Array.getElem?_eq_some_iff.1 hg2).1).trans hg2, hg3⟩
end
end Go.Proofs.YtlmkokeapbleoaaGreat
