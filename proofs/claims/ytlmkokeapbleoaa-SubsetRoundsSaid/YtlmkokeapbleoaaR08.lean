/- Words for table's maker in memory: its cells, the rows and maps that it fills; what a step may write. Condition: none. Contract of table's (*maker).node: a place's number; it is laid if it was not there. Condition: the maker is known. Contract of table's (*maker).act: a rule's number as an act; it is laid if it was not there. Condition: the maker is known. Contract of desc.rule. Condition: the rule is known. Contract of table's (*maker).act, the walk. Condition: the maker and the description are known. Words for the maker's ends; what is known of the maker's rows. Condition: none. Contract of table's (*maker).end, the walk. Condition: the maker and the description are known. Contract of table's (*maker).next. Condition: the maker and the description are known. Plain law of table.Compile's loop: the places one behind the other, each a node. No program in sight (but the words of the maker). Condition: none. Plain law: what table.Compile lays, as a computation on plain descriptions. No program in sight (but the words of the maker). Condition: none. Words for rows of numbers on their way in a block of their own (the maker's rules and finals by states); appending a slice to a row of the call's own, with what is new. No function of the program in sight. Condition: none. Plain facts on sorting in place by swaps, stably: what is sorted by key and by place is the only such arrangement. No program in sight. Condition: none. Plain facts on merging in place: ranges that change places, a stretch turned round, two sorted stretches made one. No program in sight. Condition: none. A row of slices that is sorted in place by the least numbers of what they hold: the row, its comparing function. Condition: no slice is empty, none lies in the row. Ranges that change places, a stretch turned round, two sorted stretches merged in place: the library's walks over a row of slices. Condition: as StabRow says. -/
import Derived.Test.YtlmkokeapbleoaaR07
import Derived.Lib.MinMax
import Derived.Test.YtlmkokeapbleoaaR05
import Derived.Test.YtlmkokeapbleoaaR01
import Derived.Test.YtlmkokeapbleoaaR04
import Derived.Deep.QuietTactic
import Derived.Shelf.RegionOpenPlain
set_option maxRecDepth 100000
set_option maxHeartbeats 64000000
set_option linter.unusedVariables false
set_option linter.unusedSimpArgs false
section
namespace Go.Proofs.Ytlmkokeapbleoaa
open Go.RowKit
structure MkB where
  d : DescI
  n : Nat
  mb : Nat
  nb : Nat
  ab : Nat
  eb : Nat
  la : Option Addr
  lc : Nat
  ls : List Int
  ra : Option Addr
  rc : Nat
  rows : List (Item Int)
  fa : Option Addr
  fc : Nat
  fins : List (Item Int)
  cls : List Int
  av : Nat → Prop
structure MkV where
  pa : Option Addr
  pc : Nat
  ps : List Place
  aa : Option Addr
  ac : Nat
  acs : List (Nat × ActI)
  ea : Option Addr
  ec : Nat
  es : List (Nat × OutI)
  na : Option Addr
  nc : Nat
  ns : List NodeI
def LLi (A : Option Addr) (O : List (Item Int)) (W : World) : Prop := Items IntsAt A O.length O W ∧ O.length ≤ 9223372036854775807
theorem IntsAt.lasts : Lasts IntsAt := fun A l w w' h hb => h.below hb
theorem LLi.below {A : Option Addr} {O : List (Item Int)} {w w' : World} (h : LLi A O w) (hb : Below w.heap.size w w') : LLi A O w' := ⟨Items.below h.1 IntsAt.lasts hb, h.2⟩
def Mut (B : MkB) (V : MkV) (k : Nat) : Prop := k = B.mb ∨ k = B.nb ∨ k = B.ab ∨ k = B.eb ∨ ownA V.pa = some k ∨ ownA V.aa = some k ∨ ownA V.ea = some k ∨ ownA V.na = some k
structure ImmW (B : MkB) (V : MkV) (W : World) : Prop where
  ls : IntsAt B.la B.ls W
  rows : LLi B.ra B.rows W
  fins : LLi B.fa B.fins W
  acs : ∀ x ∈ V.acs, ActW x.2 W ∧ OutF x.2.o W
  es : ∀ x ∈ V.es, OutW x.2 W
  ns : ∀ x ∈ V.ns, NodeW x W ∧ Unf x.na (x.nx.length * 1) W
theorem ImmW.below {B : MkB} {V : MkV} {W W' : World} (h : ImmW B V W) (hb : Below W.heap.size W W') : ImmW B V W' :=
  ⟨h.ls.below hb, h.rows.below hb, h.fins.below hb, fun x hx => ⟨ActW.stays _ _ _ (h.acs x hx).1 hb, (h.acs x hx).2.below hb⟩, fun x hx => OutW.stays _ _ _ (h.es x hx) hb, fun x hx => ⟨NodeW.stays _ _ _ (h.ns x hx).1 hb, (h.ns x hx).2.below hb⟩⟩
structure MkF (B : MkB) (V V' : MkV) (W W' : World) : Prop where
  bel : Below B.n W W'
  blk : ∀ k, k < W.heap.size → ¬ Mut B V k → W'.heap[k]? = W.heap[k]?
  sub : ∀ k, k < W.heap.size → Mut B V' k → Mut B V k
section
variable {B : MkB} {V V' V'' : MkV} {W W' W'' : World}
theorem MkF.refl (B : MkB) (V : MkV) (W : World) : MkF B V V W W := ⟨Below.refl _ _, fun _ _ _ => rfl, fun _ _ h => h⟩
theorem MkF.trans (h : MkF B V V' W W') (k : MkF B V' V'' W' W'') : MkF B V V'' W W'' :=
  ⟨h.bel.trans k.bel, fun j hj hn => (k.blk j (Nat.lt_of_lt_of_le hj h.bel.size) (fun e => hn (h.sub j hj e))).trans (h.blk j hj hn), fun j hj hm => h.sub j hj (k.sub j (Nat.lt_of_lt_of_le hj h.bel.size) hm)⟩
theorem cellAl {w : World} {p : Addr} {v : Value} (o : Obj) (h : w.cell? p = some v) : (w.alloc o).cell? p = some v := (((Below.refl w.heap.size w).alloc (Nat.le_refl _) o).cell (World.block_lt_of_cell? w p h)).trans h
theorem cells_ne_map {W : World} {a b : Nat} {cs : Array Value} {t : TypeId} {fr : Nat × Nat} {P : Program} {kt : TypeId} {M : List (Value × Value)} (h : W.heap[a]? = some (.cells cs t fr)) (k : MapIs P kt b M W) : a ≠ b := by
  rintro rfl
  obtain ⟨es, clock, hb, _⟩ := k
  rw [h] at hb; cases hb
theorem own_ne_map {W : World} {m sz n c b : Nat} {et : TypeId} {A : Option Addr} {xs : List Value} {P : Program} {kt : TypeId} {M : List (Value × Value)} (h : W.ownsRow m et sz (.slice A n c) n xs) (k : MapIs P kt b M W) : ownA A ≠ some b := fun e => by
  obtain ⟨_, _, cur, hb⟩ := own_ty h e
  exact cells_ne_map hb k rfl
theorem own_ne_cells {W : World} {m sz n c b : Nat} {et t : TypeId} {A : Option Addr} {xs : List Value} {cs : Array Value} {fr : Nat × Nat} (h : W.ownsRow m et sz (.slice A n c) n xs) (k : W.heap[b]? = some (.cells cs t fr)) (ht : et ≠ t) : ownA A ≠ some b := fun e => by
  obtain ⟨_, _, cur, hb⟩ := own_ty h e
  rw [k] at hb
  injection hb with hb; injection hb with _ hb
  exact ht hb.symm
theorem MapIs.congr {P : Program} {kt : TypeId} {b : Nat} {M M' : List (Value × Value)} (h : MapIs P kt b M W) (hn : (M'.map (·.1)).Nodup) (hm : ∀ p, p ∈ M' ↔ p ∈ M) : MapIs P kt b M' W := by
  obtain ⟨es, clock, h1, h2, _, h4⟩ := h
  exact ⟨es, clock, h1, h2, hn, fun p => (hm p).trans (h4 p)⟩
end
def putL {α : Type} [DecidableEq α] (l : List α) (x : α) : List α := if x ∈ l then l else l ++ [x]
theorem mapPut_new {M : List (Value × Value)} {k v : Value} (h : ∀ p ∈ M, p.1 ≠ k) : mapPut M k v = (k, v) :: M := by
  classical
  unfold mapPut
  congr 1
  rw [List.filter_eq_self]
  intro p hp
  simpa using h p hp
end Go.Proofs.Ytlmkokeapbleoaa
end
section
namespace Go.Proofs.Ytlmkokeapbleoaa
open Go.RowKit
end Go.Proofs.Ytlmkokeapbleoaa
end
section
namespace Go.Proofs.Ytlmkokeapbleoaa
open Go.RowKit
structure LayS where
  ps : List Place
  acts : List Nat
  ends : List Nat
def putA (B : MkB) (S : LayS) (i : Nat) : LayS := if i ∈ S.acts then S else { S with ps := putL S.ps (((B.d.rs[i]?).map (·.dst)).getD 0, []), acts := S.acts ++ [i] }
theorem mem_put {α : Type} [DecidableEq α] {l : List α} {x y : α} : x ∈ putL l y ↔ x ∈ l ∨ x = y := by
  unfold putL
  split
  · rename_i h
    constructor
    · exact .inl
    · rintro (h2 | rfl)
      · exact h2
      · exact h
  · simp
end Go.Proofs.Ytlmkokeapbleoaa
end
section
namespace Go.Proofs.Ytlmkokeapbleoaa
open Go.RowKit
def RuleP (i o n : Int) (r : RuleL) : Prop := StateOk n r.fr ∧ StateOk n r.dst ∧ GuardsOk i r.gs ∧ min (r.gs.length : Int) 1 ≤ r.eat ∧ r.eat ≤ r.gs.length ∧ WritesOk i o r.gs r.out
theorem BoxC.c5 {b : Nat} {v0 v1 v2 v3 v4 : Value} {W : World} (h : BoxC b [v0, v1, v2, v3, v4] W) : W.cell? ⟨b, 0, none⟩ = some v0 ∧ W.cell? ⟨b, 1, none⟩ = some v1 ∧ W.cell? ⟨b, 2, none⟩ = some v2 ∧ W.cell? ⟨b, 3, none⟩ = some v3 ∧ W.cell? ⟨b, 4, none⟩ = some v4 :=
  ⟨h 0 _ rfl, h 1 _ rfl, h 2 _ rfl, h 3 _ rfl, h 4 _ rfl⟩
section
variable {w0 w : World} {F : World → Prop}
theorem rule_st (hK : Hid (St w0 w F)) (i o n s : Int) (ra fa : Option Addr) (rl rc fl fc : Nat) (r : RuleI) (hr : ∀ W, F W → RuleW r W) (v : Bool) (hv : Hid (pB (RuleP i o n r.L) = v)) (hst : ∀ t ∈ r.o.l, StageP t.ps) :
    Calls Try.prog 31 #[.agg #[.int .i64 i, .int .i64 o, .int .i64 n, .int .i64 s, .slice ra rl rc, .slice fa fl fc], .agg #[.int .i64 r.fr, .int .i64 r.dst, .slice r.ga r.gs.length r.gc, .int .i64 r.e, .slice r.o.a r.o.l.length r.o.c]] w (RetV w0 (.bool v) F) := by
  have HR := Lib.hid hr
  have HST := Lib.hid hst
  obtain ⟨fr, dst, ga, gc, gs, e, oa, oc, ol⟩ := r
  have hgl := ((hr _ hK.out.now).2.1).2
  simp only at hgl ⊢
  have HK1 := St.box hK [.int .i64 i, .int .i64 o, .int .i64 n, .int .i64 s, .slice ra rl rc, .slice fa fl fc] 26
  have HK := St.box HK1 [.int .i64 fr, .int .i64 dst, .slice ga gs.length gc, .int .i64 e, .slice oa ol.length oc] 42
  have hz : (w.alloc (.cells [.int .i64 i, .int .i64 o, .int .i64 n, .int .i64 s, .slice ra rl rc, .slice fa fl fc].toArray 26)).heap.size = w.heap.size + 1 := by simp
  rw [hz] at HK
  have HV : Hid (pB (RuleP i o n ⟨fr, dst, bodies gs, e, ol.map TermI.L⟩) = v) := hv
  clear hr hst hz HK1 hv
  have hbl : (bodies gs).length = gs.length := bodies_length gs
  obtain ⟨v1, HV1⟩ : ∃ v1, Hid (pB (StateOk n fr) = v1) := ⟨_, rfl⟩
  obtain ⟨v2, HV2⟩ : ∃ v2, Hid (pB (StateOk n dst) = v2) := ⟨_, rfl⟩
  obtain ⟨v3, HV3⟩ : ∃ v3, Hid (pB (GuardsOk i (bodies gs)) = v3) := ⟨_, rfl⟩
  have HBL := Lib.hid hbl
  obtain ⟨p0, p1, p2, p3, p4⟩ := HK.out.now.1.c5
  obtain ⟨q0, q1, q2, q3, q4, q5⟩ := HK.out.now.2.1.c6
  clear hbl
  go_enter Try.func31, Try.ntmps31
  go_wp2_with fail
  refine (state_st HK i o n s ra fa rl rc fl fc fr v1 HV1).mono ?_
  rintro e w1 ⟨rfl, HK1⟩
  clear p0 p1 p2 p3 p4 q0 q1 q2 q3 q4 q5
  obtain ⟨p0, p1, p2, p3, p4⟩ := HK1.out.now.1.c5
  obtain ⟨q0, q1, q2, q3, q4, q5⟩ := HK1.out.now.2.1.c6
  rcases v1 with _ | _
  · obtain rfl := pB_f HV (fun h => by have := pB_true h.1; rw [HV1.out] at this; cases this)
    go_wp2_with fail
    go_ret
    exact ⟨rfl, Lib.hid (HK1.out.weaken fun _ h => h.2.2)⟩
  go_wp2_with fail
  refine (state_st HK1 i o n s ra fa rl rc fl fc dst v2 HV2).mono ?_
  rintro e w2 ⟨rfl, HK2⟩
  clear p0 p1 p2 p3 p4 q0 q1 q2 q3 q4 q5
  obtain ⟨p0, p1, p2, p3, p4⟩ := HK2.out.now.1.c5
  obtain ⟨q0, q1, q2, q3, q4, q5⟩ := HK2.out.now.2.1.c6
  rcases v2 with _ | _
  · obtain rfl := pB_f HV (fun h => by have := pB_true h.2.1; rw [HV2.out] at this; cases this)
    go_wp2_with fail
    go_ret
    exact ⟨rfl, Lib.hid (HK2.out.weaken fun _ h => h.2.2)⟩
  go_wp2_with fail
  refine (guards_st HK2 i (fun _ h => (HR.out _ h.2.2).2.1.llx) gc v3 HV3).mono ?_
  rintro e w3 ⟨rfl, HK3⟩
  clear p0 p1 p2 p3 p4 q0 q1 q2 q3 q4 q5
  obtain ⟨p0, p1, p2, p3, p4⟩ := HK3.out.now.1.c5
  obtain ⟨q0, q1, q2, q3, q4, q5⟩ := HK3.out.now.2.1.c6
  rcases v3 with _ | _
  · obtain rfl := pB_f HV (fun h => by have := pB_true h.2.2.1; rw [HV3.out] at this; cases this)
    go_wp2_with fail
    go_ret
    exact ⟨rfl, Lib.hid (HK3.out.weaken fun _ h => h.2.2)⟩
  have hg4 : gs.length ≤ 4 := by have := (pB_iff.1 HV3.out).1; rwa [HBL.out] at this
  obtain ⟨m, hm⟩ : ∃ m : Int, min (gs.length : Int) 1 = m := ⟨_, rfl⟩
  by_cases e1 : e < m
  · obtain rfl := pB_f HV (fun h => by have := h.2.2.2.1; simp only [HBL.out] at this; omega)
    go_wp2_with fail
    go_ret
    exact ⟨rfl, Lib.hid (HK3.out.weaken fun _ h => h.2.2)⟩
  by_cases e2 : e ≤ (gs.length : Int)
  case neg =>
    obtain rfl := pB_f HV (fun h => by have := h.2.2.2.2.1; simp only [HBL.out] at this; omega)
    go_wp2_with fail
    go_ret
    exact ⟨rfl, Lib.hid (HK3.out.weaken fun _ h => h.2.2)⟩
  have HE : Hid (pB (WritesOk i o (bodies gs) (ol.map TermI.L)) = v) := by
    unfold Hid
    rw [← HV.out]
    exact pB_congr ⟨fun h => ⟨pB_iff.1 HV1.out, pB_iff.1 HV2.out, pB_iff.1 HV3.out, by simp only [HBL.out]; omega, by simp only [HBL.out]; omega, h⟩, fun h => h.2.2.2.2.2⟩
  go_wp2_with fail
  refine (writes_st HK3 i o n s ra fa rl rc fl fc (fun _ h => (HR.out _ h.2.2).2.2) oc (fun _ h => (HR.out _ h.2.2).2.1.llx) gc hg4 v HE HST.out).mono ?_
  rintro e w4 ⟨rfl, HK4⟩
  go_wp2_with fail
  go_ret
  exact ⟨rfl, Lib.hid (HK4.out.weaken fun _ h => h.2.2)⟩
end
end Go.Proofs.Ytlmkokeapbleoaa
end
section
namespace Go.Proofs.Ytlmkokeapbleoaa
open Go.RowKit
end Go.Proofs.Ytlmkokeapbleoaa
end
section
namespace Go.Proofs.Ytlmkokeapbleoaa
open Go.RowKit
def rowF (l : List Int) (q : Int) : List Int := ((List.range l.length).filter fun j => l[j]? == some q).map fun (j : Nat) => (j : Int)
def EndC (B : MkB) (p : Place) (j : Nat) : Prop := ∃ f, B.d.fs[j]? = some f ∧ f.fr = p.1 ∧ f.gs.length = p.2.length ∧ OnG B.ls (bodies f.gs) p.2
noncomputable def endF (B : MkB) (p : Place) : Option Nat := (List.range B.d.fs.length).find? fun j => pB (EndC B p j)
noncomputable def putE (B : MkB) (S : LayS) (p : Place) : LayS := match endF B p with
  | none => S
  | some j => { S with ends := putL S.ends j }
noncomputable def endI (B : MkB) (S : LayS) (p : Place) : Int := match endF B p with
  | none => -1
  | some j => ((putL S.ends j).idxOf j : Nat)
end Go.Proofs.Ytlmkokeapbleoaa
end
section
namespace Go.Proofs.Ytlmkokeapbleoaa
open Go.RowKit
end Go.Proofs.Ytlmkokeapbleoaa
end
section
namespace Go.Proofs.Ytlmkokeapbleoaa
open Go.RowKit
def RuC (B : MkB) (q : Int) (w : List Int) (j : Nat) : Prop := ∃ r, B.d.rs[j]? = some r ∧ r.fr = q ∧ w.length ≤ r.gs.length ∧ OnG B.ls (bodies r.gs) w
def RuE (B : MkB) (q : Int) (w : List Int) (j : Nat) : Prop := ∃ r, B.d.rs[j]? = some r ∧ r.fr = q ∧ r.gs.length = w.length ∧ OnG B.ls (bodies r.gs) w
def FiC (B : MkB) (q : Int) (w : List Int) (j : Nat) : Prop := ∃ r, B.d.fs[j]? = some r ∧ r.fr = q ∧ w.length ≤ r.gs.length ∧ OnG B.ls (bodies r.gs) w
noncomputable def nextF (B : MkB) (q : Int) (w : List Int) : Option Nat := (List.range B.d.rs.length).find? fun j => pB (RuE B q w j)
noncomputable def goesF (B : MkB) (q : Int) (w : List Int) : Bool := pB ((∃ j, RuC B q w j) ∨ ∃ j, FiC B q w j)
noncomputable def nextS (B : MkB) (S : LayS) (q : Int) (wd : List Int) (c : Int) : LayS × Int :=
  if wd.length = 4 then (S, -1)
  else match nextF B q (wd ++ [c]) with
    | some j => (putA B S j, -2 - ((putA B S j).acts.idxOf j : Nat))
    | none => if goesF B q (wd ++ [c]) = true then ({ S with ps := putL S.ps (q, wd ++ [c]) }, ((putL S.ps (q, wd ++ [c])).idxOf (q, wd ++ [c]) : Nat)) else (S, -1)
end Go.Proofs.Ytlmkokeapbleoaa
end
section
namespace Go.Proofs.Ytlmkokeapbleoaa
open Go.RowKit
noncomputable def nxtS (B : MkB) (S : LayS) (q : Int) (wd : List Int) : Nat → LayS × List Int
  | 0 => (S, [])
  | k + 1 => ((nextS B (nxtS B S q wd k).1 q wd (k : Int)).1, (nxtS B S q wd k).2 ++ [(nextS B (nxtS B S q wd k).1 q wd (k : Int)).2])
noncomputable def nodeS (B : MkB) (S : LayS) (p : Place) : LayS × NodeL :=
  ((nxtS B (putE B S p) p.1 p.2 B.ls.length).1, ⟨(p.2.length : Int), (nxtS B (putE B S p) p.1 p.2 B.ls.length).2, endI B S p⟩)
structure LayOk (B : MkB) (S : LayS) : Prop where
  ps : ∀ p ∈ S.ps, (0 ≤ p.1 ∧ p.1 < B.d.n) ∧ ClsOk B.ls p.2
  nod : S.ps.Nodup
section
variable {B : MkB} {S : LayS}
theorem putL_nodup {α : Type} [DecidableEq α] {l : List α} {x : α} (h : l.Nodup) : (putL l x).Nodup := by
  unfold putL
  split
  · exact h
  · rename_i hn
    exact List.nodup_append.2 ⟨h, by simp, fun a ha b hb e => hn (by rw [List.mem_singleton] at hb; rw [← hb, ← e]; exact ha)⟩
theorem LayOk.put (h : LayOk B S) {p : Place} (hp : (0 ≤ p.1 ∧ p.1 < B.d.n) ∧ ClsOk B.ls p.2) (a e : List Nat) : LayOk B ⟨putL S.ps p, a, e⟩ :=
  ⟨fun r hr => (mem_put.1 hr).elim (h.ps r) (fun e => e ▸ hp), putL_nodup h.nod⟩
theorem LayOk.putA (h : LayOk B S) (hd : ∀ r ∈ B.d.rs, 0 ≤ r.dst ∧ r.dst < B.d.n) {i : Nat} (hi : i < B.d.rs.length) : LayOk B (putA B S i) := by
  unfold Go.Proofs.Ytlmkokeapbleoaa.putA
  split
  · exact h
  · rw [List.getElem?_eq_getElem hi]
    exact h.put ⟨hd _ (List.getElem_mem hi), by simp [ClsOk]⟩ _ _
theorem LayOk.putE (h : LayOk B S) (p : Place) : LayOk B (putE B S p) := by
  unfold Go.Proofs.Ytlmkokeapbleoaa.putE
  split
  · exact h
  · exact ⟨h.ps, h.nod⟩
theorem LayOk.next (h : LayOk B S) (hd : ∀ r ∈ B.d.rs, 0 ≤ r.dst ∧ r.dst < B.d.n) {q : Int} {wd : List Int} (hq : 0 ≤ q ∧ q < B.d.n) (hw : ClsOk B.ls wd) {c : Int} (hc : 0 ≤ c ∧ c < B.ls.length) : LayOk B (nextS B S q wd c).1 := by
  unfold nextS
  split
  · exact h
  · rename_i h4
    have hwc : ClsOk B.ls (wd ++ [c]) := ⟨by rw [List.length_append, List.length_singleton]; have := hw.1; omega, fun x hx => by
      rcases List.mem_append.1 hx with hx | hx
      · exact hw.2 x hx
      · rw [List.mem_singleton] at hx; subst hx; exact hc⟩
    split
    · rename_i j hj
      refine h.putA hd ?_
      unfold nextF at hj
      exact List.mem_range.1 (List.mem_of_find?_eq_some hj)
    · split
      · exact h.put ⟨hq, hwc⟩ _ _
      · exact h
theorem LayOk.nxt (h : LayOk B S) (hd : ∀ r ∈ B.d.rs, 0 ≤ r.dst ∧ r.dst < B.d.n) {q : Int} {wd : List Int} (hq : 0 ≤ q ∧ q < B.d.n) (hw : ClsOk B.ls wd) {k : Nat} (hk : k ≤ B.ls.length) : LayOk B (nxtS B S q wd k).1 := by
  induction k with
  | zero => exact h
  | succ k ih => exact (ih (by omega)).next hd hq hw ⟨by omega, by omega⟩
theorem LayOk.node (h : LayOk B S) (hd : ∀ r ∈ B.d.rs, 0 ≤ r.dst ∧ r.dst < B.d.n) {p : Place} (hp : p ∈ S.ps) : LayOk B (nodeS B S p).1 :=
  (h.putE p).nxt hd (h.ps p hp).1 (h.ps p hp).2 (Nat.le_refl _)
end
end Go.Proofs.Ytlmkokeapbleoaa
end
section
namespace Go.Proofs.Ytlmkokeapbleoaa
open Go.RowKit
section
variable (B : MkB)
end
end Go.Proofs.Ytlmkokeapbleoaa
end
section
namespace Go.Proofs.Ytlmkokeapbleoaa
open Go.RowKit
structure RwI (bb base : Nat) (B : List (Item Int)) (V : World) : Prop where
  blk : V.heap[bb]? = some (.cells (icells B).toArray 45 (0, 0))
  own : ∀ (i : Nat) x, B[i]? = some x → V.ownsRow base 3 1 (.slice x.1 x.2.2.length x.2.1) x.2.2.length (x.2.2.map (Value.int .i64))
  dis : ∀ (i j : Nat) x y, i ≠ j → B[i]? = some x → B[j]? = some y → ∀ k, ownA x.1 = some k → ownA y.1 ≠ some k
  rng : ∀ x ∈ B, ∀ v ∈ x.2.2, I64 v
section
variable {bb base : Nat} {B : List (Item Int)} {V V2 : World}
theorem RwI.start (V : World) (n base : Nat) : RwI V.heap.size base (List.replicate n (none, 0, [])) (V.alloc (.cells (madeCells #[.slice none 0 0] n) 45)) := by
  refine ⟨?_, fun i x hx => ?_, fun i j x y _ hx _ k hk => ?_, fun x hx => ?_⟩
  · rw [heap_alloc_new V _]
    congr 2
    apply Array.ext'
    rw [toList_madeCells_one]
    simp [icells, ival]
  · obtain ⟨_, rfl⟩ := List.mem_replicate.1 (List.mem_of_getElem? hx)
    exact World.ownsRow_nil _ _ _ _
  · obtain ⟨_, rfl⟩ := List.mem_replicate.1 (List.mem_of_getElem? hx)
    cases hk
  · obtain ⟨_, rfl⟩ := List.mem_replicate.1 hx
    intro v hv; cases hv
theorem RwI.lt (h : RwI bb base B V) : bb < V.heap.size := (Array.getElem?_eq_some_iff.1 h.blk).1
theorem RwI.keep (h : RwI bb base B V) (hb : V2.heap[bb]? = V.heap[bb]?) (hk : ∀ k, base ≤ k → k < V.heap.size → (∃ cur, V.heap[k]? = some (.cells cur 3 (0, 0))) → V2.heap[k]? = V.heap[k]?) : RwI bb base B V2 :=
  ⟨hb.trans h.blk, fun i x hx => own_keep (h.own i x hx) fun k hA => let t := own_ty (h.own i x hx) hA; hk k t.1 t.2.1 t.2.2, h.dis, h.rng⟩
theorem RwI.below (h : RwI bb base B V) (hb : Below V.heap.size V V2) : RwI bb base B V2 := h.keep (hb.block _ h.lt) fun k _ hl _ => hb.block k hl
theorem RwI.cell (h : RwI bb base B V) {i : Nat} {a : Option Addr} {c : Nat} {l : List Int} (hx : B[i]? = some (a, c, l)) : V.cell? ⟨bb, i, none⟩ = some (.slice a l.length c) ∧ V.frozen? ⟨bb, i, none⟩ = false := by
  have hb := h.blk
  refine ⟨?_, by simp [World.frozen?, hb]⟩
  simp [World.cell?, hb, icells, hx, ival]
theorem RwI.push (h : RwI bb base B V) (hbb : bb < base) (hbs : base ≤ V.heap.size) {i : Nat} {a a' : Option Addr} {c c' : Nat} {l : List Int} {x : Int} {o : Obj} (hx : B[i]? = some (a, c, l)) (hx64 : I64 x)
    (ho : V2.ownsRow base 3 1 (.slice a' (l.length + 1) c') (l.length + 1) (l.map (Value.int .i64) ++ [.int .i64 x])) (hg : (V.alloc o).grownBy V2 (ownA a)) (hn : Newer (ownA a) (ownA a') (V.heap.size + 1)) :
    RwI bb base (B.set i (a', c', l ++ [x])) (V2.setCell ⟨bb, i, none⟩ (.slice a' (l.length + 1) c')) := by
  have hab : ownA a ≠ some bb := fun e => by have := (own_ty (h.own i _ hx) e).1; omega
  have hst : ∀ k, k ≠ bb → (V2.setCell ⟨bb, i, none⟩ (.slice a' (l.length + 1) c')).heap[k]? = V2.heap[k]? := fun k hk => heap_setCell_other _ _ _ _ hk
  have h2 : ∀ k, k < V.heap.size → ownA a ≠ some k → V2.heap[k]? = V.heap[k]? := fun k hk hne => (hg.block k (by simp; omega) (fun e => hne e.symm)).trans (Below.heap_alloc _ _ _ hk)
  have hil := (List.getElem?_eq_some_iff.1 hx).1
  have hlen : (l ++ [x]).length = l.length + 1 := by simp
  have hnew : ∀ k, ownA a' = some k → ownA a = some k ∨ V.heap.size + 1 ≤ k := fun k hk => by
    rcases hn with e | ⟨g, e, hg2⟩
    · rw [e] at hk; exact .inl hk
    · rw [e] at hk; injection hk with hk; exact .inr (by omega)
  have hoth : ∀ (j : Nat) y, j ≠ i → B[j]? = some y → ∀ k, ownA y.1 = some k → ownA a' ≠ some k := fun j y hj hy k hk hk2 => by
    rcases hnew k hk2 with e | e
    · exact h.dis i j _ _ (fun e => hj e.symm) hx hy k e hk
    · have := (own_ty (h.own j y hy) hk).2.1; omega
  refine ⟨?_, fun j y hy => ?_, fun j j' y y' hne hy hy' => ?_, fun y hy => ?_⟩
  · rw [heap_setCell_same V2 bb i _ _ _ ((h2 bb h.lt hab).trans h.blk)]
    congr 2
    apply Array.ext'
    simp only [List.setIfInBounds_toArray]
    rw [← hlen]
    exact icells_set B i (a', c', l ++ [x])
  · by_cases e : j = i
    · subst e
      rw [List.getElem?_set_self hil] at hy
      injection hy with hy; subst hy
      have h3 := own_keep (w' := V2.setCell ⟨bb, j, none⟩ (.slice a' (l.length + 1) c')) ho (fun k hk => hst k (fun e => by have := (own_ty ho hk).1; omega))
      simpa using h3
    · rw [List.getElem?_set_ne (fun h => e h.symm)] at hy
      refine own_keep (h.own j y hy) fun k hk => ?_
      have ht := own_ty (h.own j y hy) hk
      exact (hst k (by omega)).trans (h2 k ht.2.1 (h.dis j i _ _ e hy hx k hk))
  · by_cases e : j = i
    · subst e
      rw [List.getElem?_set_self hil] at hy
      injection hy with hy; subst hy
      rw [List.getElem?_set_ne hne] at hy'
      intro k hk hk2
      exact hoth j' y' (fun e => hne e.symm) hy' k hk2 hk
    · rw [List.getElem?_set_ne (fun h => e h.symm)] at hy
      by_cases e' : j' = i
      · subst e'
        rw [List.getElem?_set_self hil] at hy'
        injection hy' with hy'; subst hy'
        exact hoth j y e hy
      · rw [List.getElem?_set_ne (fun h => e' h.symm)] at hy'
        exact h.dis j j' y y' hne hy hy'
  · rcases List.mem_or_eq_of_mem_set hy with hy | rfl
    · exact h.rng y hy
    · intro v hv
      rcases List.mem_append.1 hv with hv | hv
      · exact h.rng _ (List.mem_of_getElem? hx) v hv
      · rw [List.mem_singleton] at hv; subst hv; exact hx64
theorem RwI.row (h : RwI bb base B V) (hl : B.length ≤ 1048576) (hm : ∀ x ∈ B, x.2.2.length ≤ 1048576) (P : Nat → Prop) (hP : P bb) (hPb : ∀ k, base ≤ k → k < V.heap.size → (∃ cur, V.heap[k]? = some (.cells cur 3 (0, 0))) → P k) : Dep P V (LLi (some ⟨bb, 0, none⟩) B) := fun U hU => by
  have hb := (hU bb hP h.lt).trans h.blk
  refine ⟨⟨⟨by rw [icells_length, Nat.mul_one], fun _ => ⟨bb, 0, rfl, fun j u hu => ?_⟩⟩, fun x hx => ?_⟩, by omega⟩
  · rw [Nat.zero_add]
    simp [World.cell?, hb, hu]
  · obtain ⟨i, hi⟩ := List.getElem?_of_mem hx
    have h1 := h.own i x hi
    have h2 := own_keep (w' := U) h1 fun k hA => let t := own_ty h1 hA; hU k (hPb k t.1 t.2.1 t.2.2) t.2.1
    have h3 := Sl.of_own h2
    refine ⟨?_, h.rng x hx, by have := hm x hx; omega⟩
    rw [← List.map_eq_flatMap]
    exact h3
end
theorem rowF_snoc (l : List Int) (x q : Int) : rowF (l ++ [x]) q = if x = q then rowF l q ++ [(l.length : Int)] else rowF l q := by
  unfold rowF
  rw [List.length_append, List.length_singleton, List.range_succ, List.filter_append, List.map_append]
  have h1 : ((List.range l.length).filter fun j => (l ++ [x])[j]? == some q) = (List.range l.length).filter fun j => l[j]? == some q := List.filter_congr fun j hj => by
    rw [List.getElem?_append_left (List.mem_range.1 hj)]
  rw [h1]
  by_cases e : x = q
  · subst e; simp
  · simp [e]
end Go.Proofs.Ytlmkokeapbleoaa
end
section
namespace Go.Proofs.Ytlmkokeapbleoaa
structure KV where
  b : Nat
  off : Nat
  n : Nat
  c : Nat
  key : Int
  ix : Nat
deriving DecidableEq
namespace KV
def lt (x y : KV) : Prop := x.key < y.key ∨ (x.key = y.key ∧ x.ix < y.ix)
theorem lt_trans {x y z : KV} (h : lt x y) (k : lt y z) : lt x z := by unfold lt at *; omega
end KV
def SrtB (xs : List KV) (a b : Nat) : Prop := ∀ i j x y, a ≤ i → i < j → j < b → xs[i]? = some x → xs[j]? = some y → KV.lt x y
def IxB (xs : List KV) (a b : Nat) : Prop := ∀ i j x y, a ≤ i → i < j → j < b → xs[i]? = some x → xs[j]? = some y → x.ix < y.ix
structure Rch (a b : Nat) (xs ys : List KV) : Prop where
  len : ys.length = xs.length
  perm : ys.Perm xs
  out : ∀ j, (j < a ∨ b ≤ j) → ys[j]? = xs[j]?
  from_ : ∀ j, a ≤ j → j < b → j < xs.length → ∃ i, a ≤ i ∧ i < b ∧ i < xs.length ∧ ys[j]? = xs[i]?
theorem Rch.refl (a b : Nat) (xs : List KV) : Rch a b xs xs := ⟨rfl, List.Perm.refl _, fun _ _ => rfl, fun j h1 h2 h3 => ⟨j, h1, h2, h3, rfl⟩⟩
theorem Rch.trans {a b : Nat} {xs ys zs : List KV} (h : Rch a b xs ys) (k : Rch a b ys zs) : Rch a b xs zs := by
  refine ⟨k.len.trans h.len, k.perm.trans h.perm, fun j hj => (k.out j hj).trans (h.out j hj), fun j h1 h2 h3 => ?_⟩
  obtain ⟨i, i1, i2, i3, e⟩ := k.from_ j h1 h2 (by rw [h.len]; exact h3)
  obtain ⟨i', j1, j2, j3, e'⟩ := h.from_ i i1 i2 (by rw [← h.len]; exact i3)
  exact ⟨i', j1, j2, j3, e.trans e'⟩
theorem Rch.mono {a b a' b' : Nat} {xs ys : List KV} (h : Rch a b xs ys) (ha : a' ≤ a) (hb : b ≤ b') : Rch a' b' xs ys := by
  refine ⟨h.len, h.perm, fun j hj => h.out j (by omega), fun j h1 h2 h3 => ?_⟩
  by_cases hj : a ≤ j ∧ j < b
  · obtain ⟨i, i1, i2, i3, e⟩ := h.from_ j hj.1 hj.2 h3
    exact ⟨i, by omega, by omega, i3, e⟩
  · exact ⟨j, h1, h2, h3, h.out j (by omega)⟩
def swapL (xs : List KV) (i j : Nat) (x y : KV) : List KV := (xs.set i y).set j x
theorem swapL_get {xs : List KV} {i j : Nat} {x y : KV} (hi : i < xs.length) (hj : j < xs.length) (hij : i ≠ j) (p : Nat) :
    (swapL xs i j x y)[p]? = if p = j then some x else if p = i then some y else xs[p]? := by
  unfold swapL
  rw [List.getElem?_set, List.getElem?_set]
  by_cases h1 : p = j
  · subst h1; simp [hj]
  · by_cases h2 : p = i
    · subst h2; simp [h1, Ne.symm h1, hi]
    · simp [h1, h2, Ne.symm h1, Ne.symm h2]
theorem swapL_perm {xs : List KV} {i j : Nat} {x y : KV} (hi : xs[i]? = some x) (hj : xs[j]? = some y) : (swapL xs i j x y).Perm xs := by
  obtain ⟨hi', rfl⟩ := List.getElem?_eq_some_iff.1 hi
  obtain ⟨hj', rfl⟩ := List.getElem?_eq_some_iff.1 hj
  have h := Array.swap_perm (xs := xs.toArray) (i := i) (j := j) (by simpa using hi') (by simpa using hj')
  have e : (xs.toArray.swap i j (by simpa using hi') (by simpa using hj')) = (swapL xs i j xs[i] xs[j]).toArray := by
    simp [Array.swap, swapL]
  rw [e] at h
  simpa [Array.perm_iff_toList_perm] using h
theorem Rch.swap {a b i j : Nat} {xs : List KV} {x y : KV} (hi : xs[i]? = some x) (hj : xs[j]? = some y) (hij : i ≠ j) (h1 : a ≤ i) (h2 : i < b) (h3 : a ≤ j) (h4 : j < b) : Rch a b xs (swapL xs i j x y) := by
  have hi' := (List.getElem?_eq_some_iff.1 hi).1
  have hj' := (List.getElem?_eq_some_iff.1 hj).1
  refine ⟨by simp [swapL], swapL_perm hi hj, fun p hp => ?_, fun p p1 p2 p3 => ?_⟩
  · rw [swapL_get hi' hj' hij, if_neg (by omega), if_neg (by omega)]
  · rw [swapL_get hi' hj' hij]
    by_cases e1 : p = j
    · rw [if_pos e1]; exact ⟨i, h1, h2, hi', hi.symm⟩
    · rw [if_neg e1]
      by_cases e2 : p = i
      · rw [if_pos e2]; exact ⟨j, h3, h4, hj', hj.symm⟩
      · rw [if_neg e2]; exact ⟨p, p1, p2, p3, rfl⟩
theorem get_of_lt {xs : List KV} {i : Nat} (h : i < xs.length) : ∃ x, xs[i]? = some x := ⟨xs[i], List.getElem?_eq_getElem h⟩
theorem Rch.all {a b : Nat} {xs ys : List KV} (h : Rch a b xs ys) {P : KV → Prop} (hP : ∀ j x, a ≤ j → j < b → xs[j]? = some x → P x) : ∀ j x, a ≤ j → j < b → ys[j]? = some x → P x := by
  intro j x h1 h2 hx
  have hl := (List.getElem?_eq_some_iff.1 hx).1
  obtain ⟨i, i1, i2, i3, e⟩ := h.from_ j h1 h2 (by rw [← h.len]; exact hl)
  exact hP i x i1 i2 (e ▸ hx)
theorem SrtB.out {a b c d : Nat} {xs ys : List KV} (h : SrtB xs c d) (hr : Rch a b xs ys) (hd : d ≤ a ∨ b ≤ c) : SrtB ys c d := by
  intro i j x y h1 h2 h3 hx hy
  rw [hr.out i (by omega)] at hx
  rw [hr.out j (by omega)] at hy
  exact h i j x y h1 h2 h3 hx hy
theorem SrtB.join {a m b : Nat} {xs : List KV} (h : SrtB xs a m) (k : SrtB xs m b) (hx : ∀ i j x y, a ≤ i → i < m → m ≤ j → j < b → xs[i]? = some x → xs[j]? = some y → KV.lt x y) : SrtB xs a b := by
  intro i j x y h1 h2 h3 e1 e2
  by_cases hj : j < m
  · exact h i j x y h1 h2 hj e1 e2
  · by_cases hi : i < m
    · exact hx i j x y h1 hi (by omega) h3 e1 e2
    · exact k i j x y (by omega) h2 h3 e1 e2
theorem SrtB.le {a b i j : Nat} {xs : List KV} {x y : KV} (h : SrtB xs a b) (h1 : a ≤ i) (h2 : i ≤ j) (h3 : j < b) (hx : xs[i]? = some x) (hy : xs[j]? = some y) : x.key ≤ y.key := by
  by_cases e : i = j
  · subst e; rw [hx] at hy; injection hy with hy; subst hy; exact Int.le_refl _
  · have := h i j x y h1 (by omega) h3 hx hy
    unfold KV.lt at this; omega
def InsO (a b : Nat) (xs0 xs : List KV) (i : Nat) : Prop := Rch a b xs0 xs ∧ SrtB xs a i ∧ (∀ j, i ≤ j → xs[j]? = xs0[j]?) ∧ (∀ j x y, a ≤ j → j < i → xs[j]? = some x → ∀ q, i ≤ q → q < b → xs0[q]? = some y → x.ix < y.ix)
def InsI (a b : Nat) (xs0 xs : List KV) (i j : Nat) : Prop := Rch a b xs0 xs ∧ a ≤ j ∧ j ≤ i ∧ (∀ p, i < p → xs[p]? = xs0[p]?) ∧ xs[j]? = xs0[i]? ∧
  (∀ p q x y, a ≤ p → p < q → q ≤ i → p ≠ j → q ≠ j → xs[p]? = some x → xs[q]? = some y → KV.lt x y) ∧ (∀ q x y, j < q → q ≤ i → xs[j]? = some x → xs[q]? = some y → KV.lt x y) ∧
  (∀ p x y, a ≤ p → p ≤ i → p ≠ j → xs[p]? = some x → ∀ q, i ≤ q → q < b → xs0[q]? = some y → x.ix < y.ix)
theorem InsO.start {a b : Nat} {xs : List KV} (hix : IxB xs a b) (i : Nat) (hi : i ≤ a + 1) : InsO a b xs xs i := by
  refine ⟨Rch.refl _ _ _, fun p q x y h1 h2 h3 _ _ => by omega, fun _ _ => rfl, fun j x y h1 h2 hx q h3 h4 hy => hix j q x y h1 (by omega) h4 hx hy⟩
theorem InsO.go {a b i : Nat} {xs0 xs : List KV} (h : InsO a b xs0 xs i) (ha : a ≤ i) : InsI a b xs0 xs i i := by
  obtain ⟨h1, h2, h3, h4⟩ := h
  refine ⟨h1, ha, Nat.le_refl _, fun p hp => h3 p (by omega), h3 i (Nat.le_refl _), fun p q x y p1 p2 p3 p4 p5 hx hy => h2 p q x y p1 p2 (by omega) hx hy, fun q x y q1 q2 => by omega, fun p x y p1 p2 p3 hx q q1 q2 hy => h4 p x y p1 (by omega) hx q q1 q2 hy⟩
theorem InsI.down {a b i j : Nat} {xs0 xs : List KV} {x y : KV} (h : InsI a b xs0 xs i j) (hi : i < b) (hj : a < j) (hx : xs[j]? = some x) (hy : xs[j - 1]? = some y) (hlt : x.key < y.key) : InsI a b xs0 (swapL xs j (j - 1) x y) i (j - 1) := by
  obtain ⟨h1, h2, h3, h4, h5, h6, h7, h8⟩ := h
  have lx := (List.getElem?_eq_some_iff.1 hx).1
  have ly := (List.getElem?_eq_some_iff.1 hy).1
  have G := swapL_get (x := x) (y := y) lx ly (show j ≠ j - 1 by omega)
  refine ⟨h1.trans (Rch.swap hx hy (by omega) (by omega) (by omega) (by omega) (by omega)), by omega, by omega, fun p hp => ?_, ?_, ?_, ?_, ?_⟩
  · rw [G, if_neg (by omega), if_neg (by omega)]; exact h4 p hp
  · rw [G, if_pos rfl, ← h5, hx]
  · intro p q u v p1 p2 p3 p4 p5 hu hv
    rw [G, if_neg p4] at hu
    rw [G, if_neg p5] at hv
    by_cases e1 : q = j
    · subst e1
      rw [if_pos rfl] at hv; injection hv with hv; subst hv
      rw [if_neg (by omega)] at hu
      exact h6 p (q - 1) u y p1 (by omega) (by omega) (by omega) (by omega) hu hy
    · rw [if_neg e1] at hv
      by_cases e2 : p = j
      · subst e2
        rw [if_pos rfl] at hu; injection hu with hu; subst hu
        exact h6 (p - 1) q y v (by omega) (by omega) p3 (by omega) e1 hy hv
      · rw [if_neg e2] at hu
        exact h6 p q u v p1 p2 p3 e2 e1 hu hv
  · intro q u v q1 q2 hu hv
    rw [G, if_pos rfl] at hu; injection hu with hu; subst hu
    rw [G, if_neg (by omega)] at hv
    by_cases e1 : q = j
    · rw [if_pos e1] at hv; injection hv with hv; subst hv; exact .inl hlt
    · rw [if_neg e1] at hv
      exact h7 q x v (by omega) q2 hx hv
  · intro p u v p1 p2 p3 hu q q1 q2 hv
    rw [G, if_neg p3] at hu
    by_cases e1 : p = j
    · rw [if_pos e1] at hu; injection hu with hu; subst hu
      exact h8 (j - 1) y v (by omega) (by omega) (by omega) hy q q1 q2 hv
    · rw [if_neg e1] at hu
      exact h8 p u v p1 p2 e1 hu q q1 q2 hv
theorem InsI.done {a b i j : Nat} {xs0 xs : List KV} (hix : IxB xs0 a b) (h : InsI a b xs0 xs i j) (hi : i < b) (hs : j = a ∨ ∃ x y, xs[j]? = some x ∧ xs[j - 1]? = some y ∧ ¬ x.key < y.key) : InsO a b xs0 xs (i + 1) := by
  obtain ⟨h1, h2, h3, h4, h5, h6, h7, h8⟩ := h
  refine ⟨h1, fun p q u v p1 p2 p3 hu hv => ?_, fun p hp => h4 p (by omega), fun p u v p1 p2 hu q q1 q2 hv => ?_⟩
  · by_cases e1 : p = j
    · subst e1; exact h7 q u v p2 (by omega) hu hv
    · by_cases e2 : q = j
      · subst e2
        rcases hs with hs | ⟨x, y, hx, hy, hn⟩
        · omega
        · rw [hx] at hv; injection hv with hv; subst hv
          have hxy : KV.lt y x := by
            have hxi : xs0[i]? = some x := by rw [← h5]; exact hx
            have := h8 (q - 1) y x (by omega) (by omega) (by omega) hy i (Nat.le_refl _) hi hxi
            unfold KV.lt; omega
          by_cases e3 : p = q - 1
          · subst e3; rw [hy] at hu; injection hu with hu; subst hu; exact hxy
          · exact KV.lt_trans (h6 p (q - 1) u y p1 (by omega) (by omega) e1 (by omega) hu hy) hxy
      · exact h6 p q u v p1 p2 (by omega) e1 e2 hu hv
  · by_cases e1 : p = j
    · subst e1
      rw [h5] at hu
      exact hix i q u v (by omega) (by omega) q2 hu hv
    · exact h8 p u v p1 (by omega) e1 hu q (by omega) q2 hv
end Go.Proofs.Ytlmkokeapbleoaa
end
section
namespace Go.Proofs.Ytlmkokeapbleoaa
def SwI (xs ys : List KV) (a b k : Nat) : Prop := ∀ p, ys[p]? = if a ≤ p ∧ p < a + k then xs[p - a + b]? else if b ≤ p ∧ p < b + k then xs[p - b + a]? else xs[p]?
theorem SwI.start (xs : List KV) (a b : Nat) : SwI xs xs a b 0 := fun p => by rw [if_neg (by omega), if_neg (by omega)]
theorem SwI.next {xs ys : List KV} {a b k : Nat} {x y : KV} (h : SwI xs ys a b k) (hab : a + k < b) (hx : ys[a + k]? = some x) (hy : ys[b + k]? = some y) : SwI xs (swapL ys (a + k) (b + k) x y) a b (k + 1) := by
  have lx := (List.getElem?_eq_some_iff.1 hx).1
  have ly := (List.getElem?_eq_some_iff.1 hy).1
  have gx := h (a + k)
  have gy := h (b + k)
  rw [if_neg (by omega), if_neg (by omega)] at gx gy
  intro p
  rw [swapL_get lx ly (by omega)]
  by_cases e1 : p = b + k
  · subst e1
    rw [if_pos rfl, if_neg (by omega), if_pos (by omega), show b + k - b + a = a + k by omega, ← gx, hx]
  · rw [if_neg e1]
    by_cases e2 : p = a + k
    · subst e2
      rw [if_pos rfl, if_pos (by omega), show a + k - a + b = b + k by omega, ← gy, hy]
    · rw [if_neg e2, h p]
      by_cases c1 : a ≤ p ∧ p < a + k
      · rw [if_pos c1, if_pos (by omega)]
      · rw [if_neg c1, if_neg (show ¬ (a ≤ p ∧ p < a + (k + 1)) by omega)]
        by_cases c2 : b ≤ p ∧ p < b + k
        · rw [if_pos c2, if_pos (show b ≤ p ∧ p < b + (k + 1) by omega)]
        · rw [if_neg c2, if_neg (show ¬ (b ≤ p ∧ p < b + (k + 1)) by omega)]
def RotT (xs : List KV) (a m b p : Nat) : Option KV := if p < a then xs[p]? else if p < a + (b - m) then xs[p - a + m]? else if p < b then xs[p - (b - m)]? else xs[p]?
def RotS (T : Nat → Option KV) (cur : List KV) (m i j : Nat) : Prop := i ≤ m ∧ (∀ p, (p < m - i ∨ m + j ≤ p) → cur[p]? = T p) ∧ (∀ p, m - i ≤ p → p < m → cur[p]? = T (p + j)) ∧ (∀ p, m ≤ p → p < m + j → cur[p]? = T (p - i))
theorem RotS.start {xs : List KV} {a m b : Nat} (h1 : a ≤ m) (h2 : m ≤ b) : RotS (RotT xs a m b) xs m (m - a) (b - m) := by
  refine ⟨by omega, fun p hp => ?_, fun p h3 h4 => ?_, fun p h3 h4 => ?_⟩
  · unfold RotT
    rcases hp with hp | hp
    · rw [if_pos (by omega)]
    · rw [if_neg (by omega), if_neg (by omega), if_neg (by omega)]
  · unfold RotT
    rw [if_neg (by omega), if_neg (by omega), if_pos (by omega), show p + (b - m) - (b - m) = p by omega]
  · unfold RotT
    rw [if_neg (by omega), if_pos (by omega), show p - (m - a) - a + m = p by omega]
theorem RotS.left {T : Nat → Option KV} {cur ys : List KV} {m i j : Nat} (h : RotS T cur m i j) (hij : j < i) (hs : SwI cur ys (m - i) m j) : RotS T ys m (i - j) j := by
  obtain ⟨h0, h1, h2, h3⟩ := h
  refine ⟨by omega, fun p hp => ?_, fun p g1 g2 => ?_, fun p g1 g2 => ?_⟩
  · rw [hs p]
    by_cases c1 : m - i ≤ p ∧ p < m - i + j
    · rw [if_pos c1, h3 _ (by omega) (by omega)]; congr 1; omega
    · rw [if_neg c1, if_neg (by omega)]; exact h1 p (by omega)
  · rw [hs p, if_neg (by omega), if_neg (by omega)]; exact h2 p (by omega) g2
  · rw [hs p, if_neg (by omega), if_pos (by omega), h2 _ (by omega) (by omega)]; congr 1; omega
theorem RotS.right {T : Nat → Option KV} {cur ys : List KV} {m i j : Nat} (h : RotS T cur m i j) (hij : i < j) (hs : SwI cur ys (m - i) (m + j - i) i) : RotS T ys m i (j - i) := by
  obtain ⟨h0, h1, h2, h3⟩ := h
  refine ⟨h0, fun p hp => ?_, fun p g1 g2 => ?_, fun p g1 g2 => ?_⟩
  · rw [hs p]
    by_cases c1 : m - i ≤ p ∧ p < m - i + i
    · omega
    · rw [if_neg c1]
      by_cases c2 : m + j - i ≤ p ∧ p < m + j - i + i
      · rw [if_pos c2, h2 _ (by omega) (by omega)]; congr 1; omega
      · rw [if_neg c2]; exact h1 p (by omega)
  · rw [hs p, if_pos (by omega), h3 _ (by omega) (by omega)]; congr 1; omega
  · rw [hs p, if_neg (by omega), if_neg (by omega)]; exact h3 p g1 (by omega)
theorem RotS.done {T : Nat → Option KV} {cur ys : List KV} {m i : Nat} (h : RotS T cur m i i) (hs : SwI cur ys (m - i) m i) (p : Nat) : ys[p]? = T p := by
  obtain ⟨h0, h1, h2, h3⟩ := h
  rw [hs p]
  by_cases c1 : m - i ≤ p ∧ p < m - i + i
  · rw [if_pos c1, h3 _ (by omega) (by omega)]; congr 1; omega
  · rw [if_neg c1]
    by_cases c2 : m ≤ p ∧ p < m + i
    · rw [if_pos c2, h2 _ (by omega) (by omega)]; congr 1; omega
    · rw [if_neg c2]; exact h1 p (by omega)
theorem rot_same {xs : List KV} {a m b : Nat} (h : a = m ∨ m = b) (h1 : a ≤ m) (h2 : m ≤ b) (p : Nat) : xs[p]? = RotT xs a m b p := by
  unfold RotT
  by_cases c1 : p < a
  · rw [if_pos c1]
  · rw [if_neg c1]
    by_cases c2 : p < a + (b - m)
    · rw [if_pos c2]; congr 1; omega
    · rw [if_neg c2]
      by_cases c3 : p < b
      · rw [if_pos c3]; congr 1; omega
      · rw [if_neg c3]
def IxX (xs : List KV) (a m b : Nat) : Prop := ∀ i j x y, a ≤ i → i < m → m ≤ j → j < b → xs[i]? = some x → xs[j]? = some y → x.ix < y.ix
def Cut (xs : List KV) (a m b mid s : Nat) : Prop := a ≤ s ∧ s ≤ m ∧ s ≤ mid ∧ mid + m - s ≤ b ∧ m ≤ mid + m - s ∧
  (∀ u v x y, a ≤ u → u < s → mid + m - s ≤ v → v < b → xs[u]? = some x → xs[v]? = some y → x.key ≤ y.key) ∧
  (∀ u v x y, s ≤ u → u < m → m ≤ v → v < mid + m - s → xs[u]? = some x → xs[v]? = some y → y.key < x.key)
theorem Cut.get {xs ys : List KV} {a m b mid s : Nat} (h : Cut xs a m b mid s) (hy : ∀ p, ys[p]? = RotT xs s m (mid + m - s) p) :
    (∀ p, p < s → ys[p]? = xs[p]?) ∧ (∀ p, s ≤ p → p < mid → ys[p]? = xs[p - s + m]?) ∧ (∀ p, mid ≤ p → p < mid + m - s → ys[p]? = xs[p - (mid - s)]?) ∧ (∀ p, mid + m - s ≤ p → ys[p]? = xs[p]?) := by
  obtain ⟨h1, h2, h3, h4, h5, _, _⟩ := h
  refine ⟨fun p g => ?_, fun p g g' => ?_, fun p g g' => ?_, fun p g => ?_⟩
  · rw [hy, RotT, if_pos g]
  · rw [hy, RotT, if_neg (by omega), if_pos (by omega)]
  · rw [hy, RotT, if_neg (by omega), if_neg (by omega), if_pos (by omega)]; congr 1; omega
  · rw [hy, RotT, if_neg (by omega), if_neg (by omega), if_neg (by omega)]
theorem Cut.halves {xs ys : List KV} {a m b mid s : Nat} (h : Cut xs a m b mid s) (h1 : SrtB xs a m) (h2 : SrtB xs m b) (hx : IxX xs a m b) (hy : ∀ p, ys[p]? = RotT xs s m (mid + m - s) p) :
    SrtB ys a s ∧ SrtB ys s mid ∧ IxX ys a s mid ∧ SrtB ys mid (mid + m - s) ∧ SrtB ys (mid + m - s) b ∧ IxX ys mid (mid + m - s) b ∧
    (∀ i j x y, a ≤ i → i < mid → mid ≤ j → j < b → ys[i]? = some x → ys[j]? = some y → KV.lt x y) := by
  obtain ⟨G1, G2, G3, G4⟩ := h.get hy
  obtain ⟨c1, c2, c3, c4, c5, K1, K2⟩ := h
  refine ⟨?_, ?_, ?_, ?_, ?_, ?_, ?_⟩
  · intro i j x y g1 g2 g3 e1 e2
    rw [G1 i (by omega)] at e1; rw [G1 j g3] at e2
    exact h1 i j x y g1 g2 (by omega) e1 e2
  · intro i j x y g1 g2 g3 e1 e2
    rw [G2 i g1 (by omega)] at e1; rw [G2 j (by omega) g3] at e2
    exact h2 _ _ x y (by omega) (by omega) (by omega) e1 e2
  · intro i j x y g1 g2 g3 g4 e1 e2
    rw [G1 i g2] at e1; rw [G2 j g3 g4] at e2
    exact hx _ _ x y g1 (by omega) (by omega) (by omega) e1 e2
  · intro i j x y g1 g2 g3 e1 e2
    rw [G3 i g1 (by omega)] at e1; rw [G3 j (by omega) g3] at e2
    exact h1 _ _ x y (by omega) (by omega) (by omega) e1 e2
  · intro i j x y g1 g2 g3 e1 e2
    rw [G4 i g1] at e1; rw [G4 j (by omega)] at e2
    exact h2 _ _ x y (by omega) (by omega) (by omega) e1 e2
  · intro i j x y g1 g2 g3 g4 e1 e2
    rw [G3 i g1 g2] at e1; rw [G4 j g3] at e2
    exact hx _ _ x y (by omega) (by omega) (by omega) g4 e1 e2
  · intro i j x y g1 g2 g3 g4 e1 e2
    by_cases d1 : i < s
    · rw [G1 i d1] at e1
      by_cases d2 : j < mid + m - s
      · rw [G3 j g3 d2] at e2
        exact h1 _ _ x y g1 (by omega) (by omega) e1 e2
      · rw [G4 j (by omega)] at e2
        have k1 := K1 i j x y g1 d1 (by omega) g4 e1 e2
        have k2 := hx i j x y g1 (by omega) (by omega) g4 e1 e2
        unfold KV.lt; omega
    · rw [G2 i (by omega) g2] at e1
      by_cases d2 : j < mid + m - s
      · rw [G3 j g3 d2] at e2
        exact .inl (K2 _ _ y x (by omega) (by omega) (by omega) (by omega) e2 e1)
      · rw [G4 j (by omega)] at e2
        exact h2 _ _ x y (by omega) (by omega) (by omega) e1 e2
theorem Rch.ixx {a b c d m : Nat} {xs ys : List KV} (h : IxX xs a m b) (hr : Rch c d xs ys) (ho : d ≤ a ∨ b ≤ c) : IxX ys a m b := by
  intro i j x y g1 g2 g3 g4 e1 e2
  rw [hr.out i (by omega)] at e1
  rw [hr.out j (by omega)] at e2
  exact h i j x y g1 g2 g3 g4 e1 e2
theorem halves_join {ys zs us : List KV} {a mid b : Nat} (hx : ∀ i j x y, a ≤ i → i < mid → mid ≤ j → j < b → ys[i]? = some x → ys[j]? = some y → KV.lt x y)
    (r1 : Rch a mid ys zs) (r2 : Rch mid b zs us) (s1 : SrtB zs a mid) (s2 : SrtB us mid b) : SrtB us a b := by
  refine SrtB.join (s1.out r2 (.inl (Nat.le_refl _))) s2 ?_
  intro i j x y g1 g2 g3 g4 e1 e2
  rw [r2.out i (.inl g2)] at e1
  refine r1.all (P := fun x => KV.lt x y) (fun i' x' h1 h2 hx' => ?_) i x g1 g2 e1
  refine r2.all (P := fun y => KV.lt x' y) (fun j' y' h3 h4 hy' => ?_) j y g3 g4 e2
  rw [r1.out j' (.inr h3)] at hy'
  exact hx i' j' x' y' h1 h2 h3 h4 hx' hy'
def B1 (xs : List KV) (m b : Nat) (k : Int) (i j : Nat) : Prop := m ≤ i ∧ i ≤ j ∧ j ≤ b ∧ (∀ q y, m ≤ q → q < i → xs[q]? = some y → y.key < k) ∧ (∀ q y, j ≤ q → q < b → xs[q]? = some y → k ≤ y.key)
theorem B1.start (xs : List KV) {m b : Nat} (k : Int) (h : m ≤ b) : B1 xs m b k m b := ⟨Nat.le_refl _, h, Nat.le_refl _, fun q y h1 h2 => by omega, fun q y h1 h2 => by omega⟩
theorem B1.up {xs : List KV} {m b i j h : Nat} {k : Int} {x : KV} (hs : SrtB xs m b) (g : B1 xs m b k i j) (h1 : i ≤ h) (h2 : h < j) (hx : xs[h]? = some x) (hk : x.key < k) : B1 xs m b k (h + 1) j := by
  obtain ⟨g1, g2, g3, g4, g5⟩ := g
  exact ⟨by omega, by omega, g3, fun q y q1 q2 hy => by have := hs.le q1 (by omega) (by omega) hy hx; omega, g5⟩
theorem B1.down {xs : List KV} {m b i j h : Nat} {k : Int} {x : KV} (hs : SrtB xs m b) (g : B1 xs m b k i j) (h1 : i ≤ h) (h2 : h < j) (hx : xs[h]? = some x) (hk : ¬ x.key < k) : B1 xs m b k i h := by
  obtain ⟨g1, g2, g3, g4, g5⟩ := g
  exact ⟨g1, h1, by omega, g4, fun q y q1 q2 hy => by have := hs.le (show m ≤ h by omega) q1 q2 hx hy; omega⟩
def B2 (xs : List KV) (a m : Nat) (k : Int) (i j : Nat) : Prop := a ≤ i ∧ i ≤ j ∧ j ≤ m ∧ (∀ q y, a ≤ q → q < i → xs[q]? = some y → y.key ≤ k) ∧ (∀ q y, j ≤ q → q < m → xs[q]? = some y → k < y.key)
theorem B2.start (xs : List KV) {a m : Nat} (k : Int) (h : a ≤ m) : B2 xs a m k a m := ⟨Nat.le_refl _, h, Nat.le_refl _, fun q y h1 h2 => by omega, fun q y h1 h2 => by omega⟩
theorem B2.up {xs : List KV} {a m i j h : Nat} {k : Int} {x : KV} (hs : SrtB xs a m) (g : B2 xs a m k i j) (h1 : i ≤ h) (h2 : h < j) (hx : xs[h]? = some x) (hk : ¬ k < x.key) : B2 xs a m k (h + 1) j := by
  obtain ⟨g1, g2, g3, g4, g5⟩ := g
  exact ⟨by omega, by omega, g3, fun q y q1 q2 hy => by have := hs.le q1 (by omega) (by omega) hy hx; omega, g5⟩
theorem B2.down {xs : List KV} {a m i j h : Nat} {k : Int} {x : KV} (hs : SrtB xs a m) (g : B2 xs a m k i j) (h1 : i ≤ h) (h2 : h < j) (hx : xs[h]? = some x) (hk : k < x.key) : B2 xs a m k i h := by
  obtain ⟨g1, g2, g3, g4, g5⟩ := g
  exact ⟨g1, h1, by omega, g4, fun q y q1 q2 hy => by have := hs.le (show a ≤ h by omega) q1 q2 hx hy; omega⟩
def B3 (xs : List KV) (p s0 r0 s r : Nat) : Prop := s0 ≤ s ∧ s ≤ r ∧ r ≤ r0 ∧ (∀ c x y, s0 ≤ c → c < s → xs[c]? = some x → xs[p - c]? = some y → x.key ≤ y.key) ∧ (∀ c x y, r ≤ c → c < r0 → xs[c]? = some x → xs[p - c]? = some y → y.key < x.key)
theorem B3.start (xs : List KV) {p s0 r0 : Nat} (h : s0 ≤ r0) : B3 xs p s0 r0 s0 r0 := ⟨Nat.le_refl _, h, Nat.le_refl _, fun q y h1 h2 => by omega, fun q y h1 h2 => by omega⟩
section
variable {xs : List KV} {a m b p s0 r0 : Nat}
theorem B3.up {s r c : Nat} {x y : KV} (h1 : SrtB xs a m) (h2 : SrtB xs m b) (g : B3 xs p s0 r0 s r) (ha : a ≤ s0) (hm : r0 ≤ m) (hp : p < s0 + b) (hp2 : m + r0 ≤ p + 1) (c1 : s ≤ c) (c2 : c < r) (hx : xs[c]? = some x) (hy : xs[p - c]? = some y) (hk : ¬ y.key < x.key) : B3 xs p s0 r0 (c + 1) r := by
  obtain ⟨g1, g2, g3, g4, g5⟩ := g
  refine ⟨by omega, by omega, g3, fun q u v q1 q2 hu hv => ?_, g5⟩
  have k1 := h1.le (show a ≤ q by omega) (show q ≤ c by omega) (show c < m by omega) hu hx
  have k2 := h2.le (show m ≤ p - c by omega) (show p - c ≤ p - q by omega) (show p - q < b by omega) hy hv
  omega
theorem B3.down {s r c : Nat} {x y : KV} (h1 : SrtB xs a m) (h2 : SrtB xs m b) (g : B3 xs p s0 r0 s r) (ha : a ≤ s0) (hm : r0 ≤ m) (hp : p < s0 + b) (hp2 : m + r0 ≤ p + 1) (c1 : s ≤ c) (c2 : c < r) (hx : xs[c]? = some x) (hy : xs[p - c]? = some y) (hk : y.key < x.key) : B3 xs p s0 r0 s c := by
  obtain ⟨g1, g2, g3, g4, g5⟩ := g
  refine ⟨g1, by omega, by omega, g4, fun q u v q1 q2 hu hv => ?_⟩
  have k1 := h1.le (show a ≤ c by omega) q1 (show q < m by omega) hx hu
  have k2 := h2.le (show m ≤ p - q by omega) (show p - q ≤ p - c by omega) (show p - c < b by omega) hv hy
  omega
theorem B3.cut {mid s : Nat} (h1 : SrtB xs a m) (h2 : SrtB xs m b) (hb : b ≤ xs.length) (ham : a < m) (hmb : m < b) (hmid : mid = (a + b) / 2) (hs : (m ≤ mid ∧ s0 = a ∧ r0 = m) ∨ (mid < m ∧ s0 = mid + m - b ∧ r0 = mid)) (g : B3 xs (mid + m - 1) s0 r0 s s) : Cut xs a m b mid s := by
  obtain ⟨g1, _, g3, g4, g5⟩ := g
  refine ⟨by omega, by omega, by omega, by omega, by omega, fun u v x y u1 u2 v1 v2 hu hv => ?_, fun u v x y u1 u2 v1 v2 hu hv => ?_⟩
  · have hs0 : s0 < s := by omega
    obtain ⟨x', hx'⟩ := get_of_lt (xs := xs) (i := s - 1) (by omega)
    obtain ⟨y', hy'⟩ := get_of_lt (xs := xs) (i := mid + m - 1 - (s - 1)) (by omega)
    have k1 := g4 (s - 1) x' y' (by omega) (by omega) hx' hy'
    have k2 := h1.le u1 (show u ≤ s - 1 by omega) (by omega) hu hx'
    have k3 := h2.le (show m ≤ mid + m - 1 - (s - 1) by omega) (show mid + m - 1 - (s - 1) ≤ v by omega) v2 hy' hv
    omega
  · have hs0 : s < r0 := by omega
    obtain ⟨x', hx'⟩ := get_of_lt (xs := xs) (i := s) (by omega)
    obtain ⟨y', hy'⟩ := get_of_lt (xs := xs) (i := mid + m - 1 - s) (by omega)
    have k1 := g5 s x' y' (by omega) hs0 hx' hy'
    have k2 := h1.le (show a ≤ s by omega) u1 u2 hx' hu
    have k3 := h2.le v1 (show v ≤ mid + m - 1 - s by omega) (by omega) hv hy'
    omega
end
def MvU (xs cur : List KV) (a k : Nat) : Prop := a ≤ k ∧ ∀ p, cur[p]? = if a ≤ p ∧ p < k then xs[p + 1]? else if p = k then xs[a]? else xs[p]?
theorem MvU.start (xs : List KV) (a : Nat) : MvU xs xs a a := ⟨Nat.le_refl _, fun p => by rw [if_neg (by omega)]; split; subst_vars; rfl; rfl⟩
theorem MvU.next {xs cur : List KV} {a k : Nat} {x y : KV} (h : MvU xs cur a k) (hx : cur[k]? = some x) (hy : cur[k + 1]? = some y) : MvU xs (swapL cur k (k + 1) x y) a (k + 1) := by
  have lx := (List.getElem?_eq_some_iff.1 hx).1
  have ly := (List.getElem?_eq_some_iff.1 hy).1
  have h0 := h.1
  have gx := h.2 k
  have gy := h.2 (k + 1)
  rw [if_neg (by omega), if_pos rfl] at gx
  rw [if_neg (by omega), if_neg (by omega)] at gy
  refine ⟨by omega, fun p => ?_⟩
  rw [swapL_get lx ly (by omega)]
  by_cases e1 : p = k + 1
  · subst e1; rw [if_pos rfl, if_neg (by omega), if_pos rfl, ← gx, hx]
  · rw [if_neg e1]
    by_cases e2 : p = k
    · subst e2; rw [if_pos rfl, if_pos (by omega), ← gy, hy]
    · rw [if_neg e2, h.2 p]
      by_cases c1 : a ≤ p ∧ p < k
      · rw [if_pos c1, if_pos (by omega)]
      · rw [if_neg c1, if_neg e2, if_neg (by omega), if_neg e1]
theorem MvU.done {xs cur : List KV} {a b i : Nat} {x : KV} (hx : xs[a]? = some x) (hs : SrtB xs (a + 1) b) (hX : IxX xs a (a + 1) b) (g : B1 xs (a + 1) b x.key i i) (h : MvU xs cur a (i - 1)) : SrtB cur a b := by
  obtain ⟨g1, _, g3, g4, g5⟩ := g
  have G := h.2
  intro p q u v p1 p2 p3 hu hv
  rw [G p] at hu
  rw [G q] at hv
  by_cases c1 : p < i - 1
  · rw [if_pos ⟨p1, c1⟩] at hu
    by_cases c2 : q < i - 1
    · rw [if_pos ⟨by omega, c2⟩] at hv
      exact hs _ _ u v (by omega) (by omega) (by omega) hu hv
    · rw [if_neg (by omega)] at hv
      by_cases c3 : q = i - 1
      · rw [if_pos c3, hx] at hv; injection hv with hv; subst hv
        exact .inl (g4 _ u (by omega) (by omega) hu)
      · rw [if_neg c3] at hv
        exact hs _ _ u v (by omega) (by omega) p3 hu hv
  · rw [if_neg (by omega)] at hu
    by_cases c2 : p = i - 1
    · rw [if_pos c2, hx] at hu; injection hu with hu; subst hu
      rw [if_neg (by omega), if_neg (by omega)] at hv
      have k1 := g5 q v (by omega) p3 hv
      have k2 := hX a q x v (Nat.le_refl _) (by omega) (by omega) p3 hx hv
      unfold KV.lt; omega
    · rw [if_neg c2] at hu
      rw [if_neg (by omega), if_neg (by omega)] at hv
      exact hs _ _ u v (by omega) p2 p3 hu hv
def MvD (xs cur : List KV) (m k : Nat) : Prop := k ≤ m ∧ ∀ p, cur[p]? = if k < p ∧ p ≤ m then xs[p - 1]? else if p = k then xs[m]? else xs[p]?
theorem MvD.start (xs : List KV) (m : Nat) : MvD xs xs m m := ⟨Nat.le_refl _, fun p => by rw [if_neg (by omega)]; split; subst_vars; rfl; rfl⟩
theorem MvD.next {xs cur : List KV} {m k : Nat} {x y : KV} (h : MvD xs cur m k) (hk : 0 < k) (hx : cur[k]? = some x) (hy : cur[k - 1]? = some y) : MvD xs (swapL cur k (k - 1) x y) m (k - 1) := by
  have lx := (List.getElem?_eq_some_iff.1 hx).1
  have ly := (List.getElem?_eq_some_iff.1 hy).1
  have h0 := h.1
  have gx := h.2 k
  have gy := h.2 (k - 1)
  rw [if_neg (by omega), if_pos rfl] at gx
  rw [if_neg (by omega), if_neg (by omega)] at gy
  refine ⟨by omega, fun p => ?_⟩
  rw [swapL_get lx ly (by omega)]
  by_cases e1 : p = k - 1
  · subst e1; rw [if_pos rfl, if_neg (by omega), if_pos rfl, ← gx, hx]
  · rw [if_neg e1]
    by_cases e2 : p = k
    · subst e2; rw [if_pos rfl, if_pos (by omega), ← gy, hy]
    · rw [if_neg e2, h.2 p]
      by_cases c1 : k < p ∧ p ≤ m
      · rw [if_pos c1, if_pos (by omega)]
      · rw [if_neg c1, if_neg e2, if_neg (by omega), if_neg e1]
theorem MvD.done {xs cur : List KV} {a m i : Nat} {y : KV} (hy : xs[m]? = some y) (hs : SrtB xs a m) (hX : IxX xs a m (m + 1)) (g : B2 xs a m y.key i i) (h : MvD xs cur m i) : SrtB cur a (m + 1) := by
  obtain ⟨g1, _, g3, g4, g5⟩ := g
  have G := h.2
  intro p q u v p1 p2 p3 hu hv
  rw [G p] at hu
  rw [G q] at hv
  by_cases c1 : p < i
  · rw [if_neg (by omega), if_neg (by omega)] at hu
    by_cases c2 : q < i
    · rw [if_neg (by omega), if_neg (by omega)] at hv
      exact hs _ _ u v p1 p2 (by omega) hu hv
    · by_cases c3 : q = i
      · rw [if_neg (by omega), if_pos c3, hy] at hv; injection hv with hv; subst hv
        have k1 := g4 p u p1 c1 hu
        have k2 := hX p m u y p1 (by omega) (Nat.le_refl _) (by omega) hu hy
        unfold KV.lt; omega
      · rw [if_pos (by omega)] at hv
        exact hs _ _ u v p1 (by omega) (by omega) hu hv
  · by_cases c2 : p = i
    · rw [if_neg (by omega), if_pos c2, hy] at hu; injection hu with hu; subst hu
      rw [if_pos (by omega)] at hv
      exact .inl (g5 _ v (by omega) (by omega) hv)
    · rw [if_pos (by omega)] at hu
      rw [if_pos (by omega)] at hv
      exact hs _ _ u v (by omega) (by omega) (by omega) hu hv
end Go.Proofs.Ytlmkokeapbleoaa
end
section
namespace Go.Proofs.Ytlmkokeapbleoaa
open Go.RowKit
def KV.val (x : KV) : Value := .slice (some ⟨x.b, x.off, none⟩) x.n x.c
structure KSt (W : World) (base g cap : Nat) (xs : List KV) : Prop where
  row : W.ownsRow base 36 1 (.slice (some ⟨g, 0, none⟩) xs.length cap) xs.length (xs.map KV.val)
  good : ∀ x ∈ xs, x.b ≠ g ∧ 1 ≤ x.n ∧ x.n < 4611686018427387904 ∧ W.cell? ⟨x.b, x.off, none⟩ = some (.int .i64 x.key)
theorem KSt.drewN {W : World} {base g cap : Nat} {xs : List KV} (h : KSt W base g cap xs) (q : Nat) : KSt (W.drewN q) base g cap xs := ⟨h.row, h.good⟩
theorem KSt.at_ {W : World} {base g cap : Nat} {xs : List KV} (h : KSt W base g cap xs) {i : Nat} {x : KV} (hi : xs[i]? = some x) : W.cell? ⟨g, i, none⟩ = some x.val := by
  have hl := (List.getElem?_eq_some_iff.1 hi).1
  rw [h.row.cellAt i (by omega), List.getElem?_map, hi]; rfl
theorem KSt.key {W : World} {base g cap : Nat} {xs : List KV} (h : KSt W base g cap xs) {i : Nat} {x : KV} (hi : xs[i]? = some x) : 1 ≤ x.n ∧ x.n < 4611686018427387904 ∧ W.cell? ⟨x.b, x.off, none⟩ = some (.int .i64 x.key) :=
  (h.good x (List.mem_of_getElem? hi)).2
theorem KSt.st1 {W : World} {base g cap : Nat} {xs : List KV} (h : KSt W base g cap xs) {i j : Nat} {y : KV} (u : Value) (hj : xs[j]? = some y) (hij : i ≠ j) : (W.setCell ⟨g, i, none⟩ u).cell? ⟨g, j, none⟩ = some y.val := by
  have hl := (List.getElem?_eq_some_iff.1 hj).1
  rw [(h.row.stored i u).1.cellAt j (by omega), List.getElem?_set_ne hij, List.getElem?_map, hj]; rfl
theorem KSt.swap {W : World} {base g cap : Nat} {xs : List KV} (h : KSt W base g cap xs) {i j : Nat} {x y : KV} (hi : xs[i]? = some x) (hj : xs[j]? = some y) :
    KSt ((W.setCell ⟨g, i, none⟩ y.val).setCell ⟨g, j, none⟩ x.val) base g cap (swapL xs i j x y) ∧ W.grownBy ((W.setCell ⟨g, i, none⟩ y.val).setCell ⟨g, j, none⟩ x.val) (some g) := by
  obtain ⟨s1, g1⟩ := h.row.stored i y.val
  obtain ⟨s2, g2⟩ := s1.stored j x.val
  have hg := g1.trans g2
  have hp := swapL_perm hi hj
  refine ⟨⟨?_, fun z hz => ?_⟩, hg⟩
  · have e1 : (swapL xs i j x y).length = xs.length := by simp [swapL]
    have e2 : (swapL xs i j x y).map KV.val = ((xs.map KV.val).set i y.val).set j x.val := by simp [swapL, List.map_set]
    rw [e1, e2]; exact s2
  · obtain ⟨z1, z2, z3, z4⟩ := h.good z (hp.mem_iff.1 hz)
    exact ⟨z1, z2, z3, hg.cell z4 (fun e => z1 (by injection e))⟩
theorem eg79 : ∀ args w, (callFunc 44 args).run Try.prog w = .ok (.enter 44 args) w := enters_of Try.func44 (by kernel_rfl) rfl
theorem less_any (x y : KV) (W : World) (hx : 1 ≤ x.n ∧ x.n < 4611686018427387904 ∧ W.cell? ⟨x.b, x.off, none⟩ = some (.int .i64 x.key)) (hy : 1 ≤ y.n ∧ y.n < 4611686018427387904 ∧ W.cell? ⟨y.b, y.off, none⟩ = some (.int .i64 y.key)) :
    Drawn Try.prog 44 #[x.val, y.val] W (.int .i64 (cmpI x.key y.key)) := by
  obtain ⟨x1, x2, x3⟩ := hx
  obtain ⟨y1, y2, y3⟩ := hy
  obtain ⟨xb, xo, xn, xc, xk, xi⟩ := x
  obtain ⟨yb, yo, yn, yc, yk, yi⟩ := y
  simp only at x1 x2 x3 y1 y2 y3
  unfold KV.val
  simp only
  have hxn : (0 : Int) < xn := by omega
  have hyn : (0 : Int) < yn := by omega
  have HC := Lib.hid (Compare64_any xk yk)
  unfold Drawn
  go_enter Try.func44, Try.ntmps44
  go_wp2_with (go_quiet ((go_at_call 40; exact HC.out.quiet)))
  go_ret
  exact ⟨rfl, _, rfl⟩
theorem Drawn.at_ {P : Program} {f : FuncId} {args : Array Value} {w : World} {v : Value} (h : ∀ q, Drawn P f args (w.drewN q) v) (q : Nat) : Calls P f args (w.drewN q) fun e w'' => e = .returned v ∧ ∃ m, w'' = w.drewN m :=
  Calls.mono (h q) fun e w' ⟨he, n, hn⟩ => ⟨he, q + n, by rw [hn, World.drewN_drewN]⟩
theorem KSt.less {W : World} {base g cap : Nat} {xs : List KV} (h : KSt W base g cap xs) {i j : Nat} {x y : KV} (hi : xs[i]? = some x) (hj : xs[j]? = some y) (q : Nat) :
    Calls Try.prog 44 #[x.val, y.val] (W.drewN q) fun e w'' => e = .returned (.int .i64 (cmpI x.key y.key)) ∧ ∃ m, w'' = W.drewN m :=
  Drawn.at_ (fun q => less_any x y _ (h.key hi) (h.key hj)) q
theorem cmpI_lt {x y : Int} (h : x < y) : cmpI x y < 0 := by unfold cmpI; rw [if_pos h]; omega
theorem cmpI_nlt {x y : Int} (h : ¬ x < y) : ¬ cmpI x y < 0 := by unfold cmpI; rw [if_neg h]; split <;> omega
def KEnd (W : World) (base g cap : Nat) (R : List KV → Prop) (e : Ending) (w' : World) : Prop := e = .returned (.tuple #[]) ∧ ∃ ys, R ys ∧ KSt w' base g cap ys ∧ W.grownBy w' (some g)
def KGo (W : World) (base g cap : Nat) (ys : List KV) (w' : World) : Prop := KSt w' base g cap ys ∧ W.grownBy w' (some g)
theorem KGo.start {W : World} {base g cap : Nat} {xs : List KV} (h : KSt W base g cap xs) : KGo W base g cap xs W := ⟨h, ⟨rfl, rfl, rfl, Nat.le_refl _, fun _ _ _ => rfl⟩⟩
theorem grownBy_from {W w : World} {r : Option Nat} {q : Nat} (h : (W.drewN q).grownBy w r) : W.grownBy w r := ⟨h.os, h.tape, h.output, h.size, h.block⟩
theorem grownBy_to {W w : World} {r : Option Nat} (h : W.grownBy w r) (q : Nat) : W.grownBy (w.drewN q) r := ⟨h.os, h.tape, h.output, h.size, h.block⟩
theorem KGo.swap {W w : World} {base g cap : Nat} {xs : List KV} (h : KGo W base g cap xs w) (q : Nat) {i j : Nat} {x y : KV} (hi : xs[i]? = some x) (hj : xs[j]? = some y) :
    KGo W base g cap (swapL xs i j x y) (((w.drewN q).setCell ⟨g, i, none⟩ y.val).setCell ⟨g, j, none⟩ x.val) := by
  obtain ⟨h1, h2⟩ := (h.1.drewN q).swap hi hj
  exact ⟨h1, World.grownBy.trans h.2 (grownBy_from h2)⟩
theorem KGo.swp {W w : World} {base g cap : Nat} {xs : List KV} (h : KGo W base g cap xs w) {i j : Nat} {x y : KV} (hi : xs[i]? = some x) (hj : xs[j]? = some y) :
    KGo W base g cap (swapL xs i j x y) (((w.setCell ⟨g, i, none⟩ y.val).setCell ⟨g, j, none⟩ x.val).drew) := by
  obtain ⟨h1, h2⟩ := h.1.swap hi hj
  have h3 := World.grownBy.trans h.2 h2
  exact ⟨⟨h1.row, h1.good⟩, ⟨h3.os, h3.tape, h3.output, h3.size, h3.block⟩⟩
theorem KGo.drewN {W w : World} {base g cap : Nat} {xs : List KV} (h : KGo W base g cap xs w) (q : Nat) : KGo W base g cap xs (w.drewN q) := ⟨h.1.drewN q, grownBy_to h.2 q⟩
theorem KGo.call {W w w' : World} {base g cap : Nat} {xs ys : List KV} (h : KGo W base g cap xs w) (h1 : KSt w' base g cap ys) (h2 : w.grownBy w' (some g)) : KGo W base g cap ys w' := ⟨h1, World.grownBy.trans h.2 h2⟩
theorem ins_any (base g cap a b : Nat) (xs0 : List KV) (W : World) (hK : Hid (KSt W base g cap xs0)) (hix : Hid (IxB xs0 a b)) (hab : b ≤ xs0.length) (ha : a ≤ b) (hn : xs0.length < 1099511627776) :
    Calls Try.prog 64 #[.slice (some ⟨g, 0, none⟩) xs0.length cap, .int .i64 a, .int .i64 b, .func (.func 44) #[] #[]] W (KEnd W base g cap fun ys => Rch a b xs0 ys ∧ SrtB ys a b) := by
  have eg := eg79
  go_enter Try.func64, Try.ntmps64
  go_wp2_with fail
  go_loopw [8] (fun iv wr => ∃ (i : Nat) (xs : List KV), iv = .int .i64 i ∧ a + 1 ≤ i ∧ i ≤ b + 1 ∧ Hid (InsO a b xs0 xs i) ∧ Hid (KGo W base g cap xs wr)) (fun iv _ => b + 1 - (intOf iv).toNat)
  case atStart => exact ⟨a + 1, xs0, by go_num, Nat.le_refl _, by omega, Lib.hid (InsO.start hix.out _ (Nat.le_refl _)), Lib.hid (KGo.start hK.out)⟩
  case round =>
  obtain ⟨i, xs, rfl, hi1, hi2, HI, HG⟩ := hrel
  have hxl := HI.out.1.len
  by_cases hib : i < b
  · have HJ := Lib.hid (HI.out.go (by omega))
    go_wp2_with fail
    go_loopw [9] (fun jv wr => ∃ (j : Nat) (ys : List KV), jv = .int .i64 j ∧ a ≤ j ∧ j ≤ i ∧ Hid (InsI a b xs0 ys i j) ∧ Hid (KGo W base g cap ys wr)) (fun jv _ => (intOf jv).toNat)
    case atStart => exact ⟨i, xs, rfl, by omega, Nat.le_refl _, HJ, HG⟩
    case round =>
    obtain ⟨j0, ys, rfl, hj1, hj2, HJ, HG⟩ := hrel
    have hyl := HJ.out.1.len
    by_cases hja : a < j0
    · obtain ⟨j, rfl⟩ : ∃ j, j0 = j + 1 := ⟨j0 - 1, by omega⟩
      obtain ⟨x, hx⟩ := get_of_lt (xs := ys) (i := j + 1) (by omega)
      obtain ⟨y, hy⟩ := get_of_lt (xs := ys) (i := j) (by omega)
      have hc1 := HG.out.1.at_ hx
      have hc2 := HG.out.1.at_ hy
      have hf1 := HG.out.1.row.frozenAt j
      have hf2 := HG.out.1.row.frozenAt (j + 1)
      have HL := Lib.hid (HG.out.1.less hx hy)
      have hja' : (a : Int) < (j : Int) + 1 := by omega
      by_cases hk : x.key < y.key
      · have hcm := cmpI_lt hk
        have HJ2 := Lib.hid (HJ.out.down hib (by omega) hx (by simpa using hy) hk)
        rw [Nat.add_sub_cancel] at HJ2
        have HX := Lib.hid hx
        have HY := Lib.hid hy
        clear hx hy hk
        go_wp2_with (go_quiet ((go_at_call 44; exact HL.out _)))
        have HG2 := Lib.hid (HG.out.drewN nq)
        clear hc1 hc2 hf1 hf2
        generalize wr.drewN nq = w2 at HG2 ⊢
        have hc1 := HG2.out.1.at_ HX.out
        have hc2 := HG2.out.1.at_ HY.out
        have hf1 := HG2.out.1.row.frozenAt j
        have hf2 := HG2.out.1.row.frozenAt (j + 1)
        have hc3 := HG2.out.1.st1 (i := j + 1) y.val HY.out (by omega)
        have HSW := Lib.hid (HG2.out.swp HX.out HY.out)
        unfold KV.val at hc1 hc2 hc3
        have mixed : Try.prog.follows .mixedOrders = true := by kernel_rfl
        go_big_region_o
        clear hc1 hc2 hc3 hf1 hf2
        go_wp2_with fail
        exact ⟨⟨j, _, by go_num, by omega, by omega, HJ2, HSW⟩, by simp [intOf]⟩
      · have hcm := cmpI_nlt hk
        have HI2 := Lib.hid (HJ.out.done hix.out hib (.inr ⟨x, y, hx, by simpa using hy, hk⟩))
        clear hx hy hk
        go_wp2_with (go_quiet ((go_at_call 44; exact HL.out _)))
        exact ⟨⟨i + 1, ys, by go_num, by omega, by omega, HI2, Lib.hid (HG.out.drewN _)⟩, by simp [intOf]; omega⟩
    · obtain rfl : j0 = a := by omega
      have HI2 := Lib.hid (HJ.out.done hix.out hib (.inl rfl))
      go_wp2_with (go_quiet (fail))
      exact ⟨⟨i + 1, ys, by go_num, by omega, by omega, HI2, Lib.hid (HG.out.drewN _)⟩, by simp [intOf]; omega⟩
  · have hnb : ¬ ((i : Int) < b) := by omega
    go_wp2_with fail
    go_end0
    exact ⟨rfl, xs, ⟨HI.out.1, fun p q u v h1 h2 h3 => HI.out.2.1 p q u v h1 h2 (by omega)⟩, HG.out.1, HG.out.2⟩
end Go.Proofs.Ytlmkokeapbleoaa
end
section
namespace Go.Proofs.Ytlmkokeapbleoaa
open Go.RowKit
theorem swr_any (base g cap a b n : Nat) (xs0 : List KV) (W : World) (hK : Hid (KSt W base g cap xs0)) (hab : a + n ≤ b) (hb : b + n ≤ xs0.length) (hn : xs0.length < 1099511627776) (cv : Value) :
    Calls Try.prog 87 #[.slice (some ⟨g, 0, none⟩) xs0.length cap, .int .i64 a, .int .i64 b, .int .i64 n, cv] W (KEnd W base g cap fun ys => Rch a (b + n) xs0 ys ∧ SwI xs0 ys a b n) := by
  go_enter Try.func87, Try.ntmps87
  go_wp2_with fail
  go_loopw [10] (fun iv wr => ∃ (k : Nat) (xs : List KV), iv = .int .i64 k ∧ k ≤ n ∧ Hid (Rch a (b + n) xs0 xs) ∧ Hid (SwI xs0 xs a b k) ∧ Hid (KGo W base g cap xs wr)) (fun iv _ => n - (intOf iv).toNat)
  case atStart => exact ⟨0, xs0, rfl, Nat.zero_le _, Lib.hid (Rch.refl _ _ _), Lib.hid (SwI.start _ _ _), Lib.hid (KGo.start hK.out)⟩
  case round =>
  obtain ⟨k, xs, rfl, hk, HR, HI, HG⟩ := hrel
  have hxl := HR.out.len
  by_cases hlt : k < n
  · obtain ⟨pa, hpa⟩ : ∃ p : Nat, a + k = p := ⟨_, rfl⟩
    obtain ⟨pb, hpb⟩ : ∃ p : Nat, b + k = p := ⟨_, rfl⟩
    have hk1 : (a : Int) + (k : Int) = (pa : Int) := by omega
    have hk2 : (b : Int) + (k : Int) = (pb : Int) := by omega
    have hlp : pa < xs0.length ∧ pb < xs0.length := by omega
    obtain ⟨hlp1, hlp2⟩ := hlp
    obtain ⟨x, hx⟩ := get_of_lt (xs := xs) (i := pa) (by omega)
    obtain ⟨y, hy⟩ := get_of_lt (xs := xs) (i := pb) (by omega)
    have hc1 := HG.out.1.at_ hx
    have hc2 := HG.out.1.at_ hy
    have hf1 := HG.out.1.row.frozenAt pa
    have hf2 := HG.out.1.row.frozenAt pb
    have hc3 := HG.out.1.st1 (i := pa) y.val hy (by omega)
    unfold KV.val at hc1 hc2 hc3
    have HSW := Lib.hid (HG.out.swp hx hy)
    have HR2 := Lib.hid (HR.out.trans (Rch.swap hx hy (by omega) (by omega) (by omega) (by omega) (by omega)))
    have HI2 : Hid (SwI xs0 (swapL xs pa pb x y) a b (k + 1)) := by
      have := HI.out.next (x := x) (y := y) (by omega) (by rw [hpa]; exact hx) (by rw [hpb]; exact hy)
      rw [hpa, hpb] at this
      exact this
    have hne : pa ≠ pb := by omega
    have mixed : Try.prog.follows .mixedOrders = true := by kernel_rfl
    clear hpa hpb
    clear hx hy
    go_wp2_with fail
    go_big_region_o
    clear hc1 hc2 hc3 hf1 hf2
    go_wp2_with fail
    exact ⟨⟨k + 1, _, by go_num, by omega, HR2, HI2, HSW⟩, by simp [intOf]; omega⟩
  · have hnb : ¬ ((k : Int) < n) := by omega
    obtain rfl : k = n := by omega
    go_wp2_with fail
    go_end0
    exact ⟨rfl, xs, ⟨HR.out, HI.out⟩, HG.out.1, HG.out.2⟩
theorem rot_any (base g cap a m b : Nat) (xs0 : List KV) (W : World) (hK : Hid (KSt W base g cap xs0)) (ham : a < m) (hmb : m < b) (hb : b ≤ xs0.length) (hn : xs0.length < 1099511627776) (cv : Value) :
    Calls Try.prog 79 #[.slice (some ⟨g, 0, none⟩) xs0.length cap, .int .i64 a, .int .i64 m, .int .i64 b, cv] W (KEnd W base g cap fun ys => Rch a b xs0 ys ∧ ∀ p, ys[p]? = RotT xs0 a m b p) := by
  obtain ⟨T, hT⟩ : ∃ T, RotT xs0 a m b = T := ⟨_, rfl⟩
  have HT : Hid (RotS T xs0 m (m - a) (b - m)) := by rw [← hT]; exact RotS.start (by omega) (by omega)
  have HTT := Lib.hid hT
  clear hT
  obtain ⟨i0, hi0⟩ : ∃ p : Nat, m - a = p := ⟨_, rfl⟩
  obtain ⟨j0, hj0⟩ : ∃ p : Nat, b - m = p := ⟨_, rfl⟩
  have e1 : (m : Int) - (a : Int) = (i0 : Int) := by omega
  have e2 : (b : Int) - (m : Int) = (j0 : Int) := by omega
  rw [hi0, hj0] at HT
  go_enter Try.func79, Try.ntmps79
  go_wp2_with fail
  go_loopw [10, 11] (fun iv jv wr => ∃ (i j : Nat) (xs : List KV), iv = .int .i64 i ∧ jv = .int .i64 j ∧ 1 ≤ i ∧ 1 ≤ j ∧ a + i ≤ m ∧ m + j ≤ b ∧ Hid (Rch a b xs0 xs) ∧ Hid (RotS T xs m i j) ∧ Hid (KGo W base g cap xs wr)) (fun iv jv _ => (intOf iv).toNat + (intOf jv).toNat)
  case atStart => exact ⟨i0, j0, xs0, rfl, rfl, by omega, by omega, by omega, by omega, Lib.hid (Rch.refl _ _ _), HT, Lib.hid (KGo.start hK.out)⟩
  case round =>
  obtain ⟨i, j, xs, rfl, rfl, hi1, hj1, hi2, hj2, HR, HI, HG⟩ := hrel
  have hxl := HR.out.len
  obtain ⟨mi, hmi⟩ : ∃ p : Nat, m - i = p := ⟨_, rfl⟩
  have e3 : (m : Int) - (i : Int) = (mi : Int) := by omega
  by_cases hij : i = j
  · subst hij
    have hne : ((i : Int) != (i : Int)) = false := by simp
    go_wp2_with fail
    rw [← hxl]
    refine (swr_any base g cap mi m i xs wr (Lib.hid HG.out.1) (by omega) (by omega) (by omega) _).mono ?_
    rintro e w2 ⟨rfl, ys, ⟨r1, r2⟩, r3, r4⟩; rw [← hmi] at r1 r2
    go_wp2_with fail
    go_end0
    exact ⟨rfl, ys, ⟨HR.out.trans (r1.mono (by omega) (by omega)), fun p => by rw [HTT.out]; exact HI.out.done r2 p⟩, (HG.out.call r3 r4).1, (HG.out.call r3 r4).2⟩
  · have hne : ((i : Int) != (j : Int)) = true := by simp; omega
    by_cases hgt : j < i
    · have hgt' : (j : Int) < i := by omega
      obtain ⟨ij, hij'⟩ : ∃ p : Nat, i - j = p := ⟨_, rfl⟩
      have e4 : (i : Int) - (j : Int) = (ij : Int) := by omega
      go_wp2_with fail
      rw [← hxl]
      refine (swr_any base g cap mi m j xs wr (Lib.hid HG.out.1) (by omega) (by omega) (by omega) _).mono ?_
      rintro e w2 ⟨rfl, ys, ⟨r1, r2⟩, r3, r4⟩; rw [← hmi] at r1 r2
      have HE := Lib.hid (HG.out.call r3 r4)
      have HR2 := Lib.hid (HR.out.trans (r1.mono (by omega) (by omega)))
      have HI2 := Lib.hid (HI.out.left hgt r2)
      rw [hij'] at HI2
      clear r1 r2 r3 r4
      rw [hxl]
      go_wp2_with fail
      exact ⟨⟨ij, j, ys, rfl, rfl, by omega, hj1, by omega, hj2, HR2, HI2, HE⟩, by simp [intOf]; omega⟩
    · have hgt' : ¬ (j : Int) < i := by omega
      obtain ⟨ji, hji⟩ : ∃ p : Nat, j - i = p := ⟨_, rfl⟩
      have e4 : (j : Int) - (i : Int) = (ji : Int) := by omega
      obtain ⟨mj, hmj⟩ : ∃ p : Nat, m + j - i = p := ⟨_, rfl⟩
      have e5 : (m : Int) + (j : Int) - (i : Int) = (mj : Int) := by omega
      go_wp2_with fail
      rw [← hxl]
      refine (swr_any base g cap mi mj i xs wr (Lib.hid HG.out.1) (by omega) (by omega) (by omega) _).mono ?_
      rintro e w2 ⟨rfl, ys, ⟨r1, r2⟩, r3, r4⟩; rw [← hmi] at r1 r2
      have HE := Lib.hid (HG.out.call r3 r4)
      have HR2 := Lib.hid (HR.out.trans (r1.mono (by omega) (by omega)))
      rw [← hmj] at r2
      have HI2 := Lib.hid (HI.out.right (by omega) r2)
      rw [hji] at HI2
      clear r1 r2 r3 r4
      rw [hxl]
      go_wp2_with fail
      exact ⟨⟨i, ji, ys, rfl, rfl, hi1, by omega, hi2, by omega, HR2, HI2, HE⟩, by simp [intOf]; omega⟩
end Go.Proofs.Ytlmkokeapbleoaa
end
