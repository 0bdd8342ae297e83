/- Contracts and plain laws that the proof leans on. Condition: as each theorem says. -/
import Derived.Test.YtlmkokeapbleoaaGreatV07
import Derived.Lib.MinMax
set_option maxRecDepth 100000
set_option maxHeartbeats 64000000
set_option linter.unusedVariables false
set_option linter.unusedSimpArgs false
namespace Go.Proofs.YtlmkokeapbleoaaGreat
open Go.RowKit
section
structure MkB where
  d : DescI
  n : Nat
  mb : Nat
  nb : Nat
  ab : Nat
  eb : Nat
  la : Option Addr
  lc : Nat
  ls : List Int
  ra : Option Addr
  rc : Nat
  rows : List (Item Int)
  fa : Option Addr
  fc : Nat
  fins : List (Item Int)
  cls : List Int
  av : Nat → Prop
structure MkV where
  pa : Option Addr
  pc : Nat
  ps : List Place
  aa : Option Addr
  ac : Nat
  acs : List (Nat × ActI)
  ea : Option Addr
  ec : Nat
  es : List (Nat × OutI)
  na : Option Addr
  nc : Nat
  ns : List NodeI
def mkHead (B : MkB) (V : MkV) : List Value := [.int .i64 B.d.i, .int .i64 B.d.o, .int .i64 B.d.n, .int .i64 B.d.s, .slice B.d.ra B.d.rs.length B.d.rc, .slice B.d.fa B.d.fs.length B.d.fc,
  .slice B.la B.ls.length B.lc, .slice B.ra B.rows.length B.rc, .slice B.fa B.fins.length B.fc, .slice V.pa V.ps.length V.pc, .map (some B.nb), .map (some B.ab), .map (some B.eb)]
def mkTail (V : MkV) : List Value := [.slice V.na V.ns.length V.nc, .slice V.aa V.acs.length V.ac, .slice V.ea V.es.length V.ec]
def mkCells (B : MkB) (V : MkV) : List Value := mkHead B V ++ (B.cls.map (Value.int .u8) ++ mkTail V)
theorem mkCells_lo (B : MkB) (V : MkV) {i : Nat} (hi : i < 13) : (mkCells B V)[i]? = (mkHead B V)[i]? := by
  unfold mkCells
  rw [List.getElem?_append_left (by simpa [mkHead] using hi)]
theorem mkCells_hi (B : MkB) (V : MkV) (hc : B.cls.length = 256) (j : Nat) : (mkCells B V)[269 + j]? = (mkTail V)[j]? := by
  unfold mkCells
  rw [List.getElem?_append_right (by simp [mkHead]; omega), List.getElem?_append_right (by simp [mkHead, hc]; omega)]
  congr 1
  simp [mkHead, hc]; omega
theorem mkCells_len (B : MkB) (V : MkV) (hc : B.cls.length = 256) : (mkCells B V).length = 272 := by simp [mkCells, mkHead, mkTail, hc]
theorem mkCells_set9 (B : MkB) (V : MkV) (a : Option Addr) (c : Nat) (ps : List Place) : (mkCells B V).set 9 (.slice a ps.length c) = mkCells B { V with pa := a, pc := c, ps := ps } := rfl
theorem set_hi {l m : List Value} {k : Nat} (hl : l.length = k) (j : Nat) (v : Value) : (l ++ m).set (k + j) v = l ++ m.set j v := by
  rw [List.set_append_right _ _ (by omega)]
  congr 2; omega
theorem mkCells_set269 (B : MkB) (V : MkV) (hc : B.cls.length = 256) (a : Option Addr) (c : Nat) (ns : List NodeI) : (mkCells B V).set 269 (.slice a ns.length c) = mkCells B { V with na := a, nc := c, ns := ns } := by
  unfold mkCells
  rw [← List.append_assoc, show 269 = 269 + 0 from rfl, set_hi (by simp [mkHead, hc]), List.append_assoc]; rfl
theorem mkCells_set270 (B : MkB) (V : MkV) (hc : B.cls.length = 256) (a : Option Addr) (c : Nat) (acs : List (Nat × ActI)) : (mkCells B V).set 270 (.slice a acs.length c) = mkCells B { V with aa := a, ac := c, acs := acs } := by
  unfold mkCells
  rw [← List.append_assoc, show 270 = 269 + 1 from rfl, set_hi (by simp [mkHead, hc]), List.append_assoc]; rfl
theorem mkCells_set271 (B : MkB) (V : MkV) (hc : B.cls.length = 256) (a : Option Addr) (c : Nat) (es : List (Nat × OutI)) : (mkCells B V).set 271 (.slice a es.length c) = mkCells B { V with ea := a, ec := c, es := es } := by
  unfold mkCells
  rw [← List.append_assoc, show 271 = 269 + 2 from rfl, set_hi (by simp [mkHead, hc]), List.append_assoc]; rfl
def LLi (A : Option Addr) (O : List (Item Int)) (W : World) : Prop := Items IntsAt A O.length O W ∧ O.length ≤ 9223372036854775807
theorem IntsAt.lasts : Lasts IntsAt := fun A l w w' h hb => h.below hb
theorem LLi.below {A : Option Addr} {O : List (Item Int)} {w w' : World} (h : LLi A O w) (hb : Below w.heap.size w w') : LLi A O w' := ⟨Items.below h.1 IntsAt.lasts hb, h.2⟩
def Mut (B : MkB) (V : MkV) (k : Nat) : Prop := k = B.mb ∨ k = B.nb ∨ k = B.ab ∨ k = B.eb ∨ ownA V.pa = some k ∨ ownA V.aa = some k ∨ ownA V.ea = some k ∨ ownA V.na = some k
structure ImmW (B : MkB) (V : MkV) (W : World) : Prop where
  ls : IntsAt B.la B.ls W
  rows : LLi B.ra B.rows W
  fins : LLi B.fa B.fins W
  acs : ∀ x ∈ V.acs, ActW x.2 W ∧ OutF x.2.o W
  es : ∀ x ∈ V.es, OutW x.2 W
  ns : ∀ x ∈ V.ns, NodeW x W ∧ Unf x.na (x.nx.length * 1) W
theorem ImmW.below {B : MkB} {V : MkV} {W W' : World} (h : ImmW B V W) (hb : Below W.heap.size W W') : ImmW B V W' :=
  ⟨h.ls.below hb, h.rows.below hb, h.fins.below hb, fun x hx => ⟨ActW.stays _ _ _ (h.acs x hx).1 hb, (h.acs x hx).2.below hb⟩, fun x hx => OutW.stays _ _ _ (h.es x hx) hb, fun x hx => ⟨NodeW.stays _ _ _ (h.ns x hx).1 hb, (h.ns x hx).2.below hb⟩⟩
def idxM (l : List Nat) : List (Value × Value) := l.zipIdx.map fun x => (.int .i64 (x.1 : Int), .int .i64 (x.2 : Int))
def numM (l : List Place) : List (Value × Value) := l.zipIdx.map fun x => (placeV x.1, .int .i64 (x.2 : Int))
structure Mk (B : MkB) (V : MkV) (W : World) : Prop where
  box : W.heap[B.mb]? = some (.cells (mkCells B V).toArray 143 (0, 0))
  cl : B.cls.length = 256
  lo : B.n ≤ B.mb ∧ B.n ≤ B.nb ∧ B.n ≤ B.ab ∧ B.n ≤ B.eb
  dis : B.nb ≠ B.ab ∧ B.nb ≠ B.eb ∧ B.ab ≠ B.eb
  pl : W.ownsRow B.n 150 6 (.slice V.pa V.ps.length V.pc) V.ps.length (V.ps.flatMap placeC)
  num : MapIs Tryz.prog 150 B.nb (numM V.ps) W
  pok : ∀ p ∈ V.ps, PlaceOk p
  al : W.ownsRow B.n 59 3 (.slice V.aa V.acs.length V.ac) V.acs.length (V.acs.flatMap fun x => actC x.2)
  am : MapIs Tryz.prog 3 B.ab (idxM (V.acs.map (·.1))) W
  el : W.ownsRow B.n 57 1 (.slice V.ea V.es.length V.ec) V.es.length (V.es.flatMap fun x => [OutI.v x.2])
  em : MapIs Tryz.prog 3 B.eb (idxM (V.es.map (·.1))) W
  nl : W.ownsRow B.n 64 3 (.slice V.na V.ns.length V.nc) V.ns.length (V.ns.flatMap nodeC)
  imm : Dep (fun k => ¬ Mut B V k ∧ ¬ B.av k) W (ImmW B V)
  avl : ∀ k, B.av k → k < W.heap.size
structure MkF (B : MkB) (V V' : MkV) (W W' : World) : Prop where
  bel : Below B.n W W'
  blk : ∀ k, k < W.heap.size → ¬ Mut B V k → W'.heap[k]? = W.heap[k]?
  sub : ∀ k, k < W.heap.size → Mut B V' k → Mut B V k
section
variable {B : MkB} {V V' V'' : MkV} {W W' W'' : World}
theorem MkF.refl (B : MkB) (V : MkV) (W : World) : MkF B V V W W := ⟨Below.refl _ _, fun _ _ _ => rfl, fun _ _ h => h⟩
theorem MkF.trans (h : MkF B V V' W W') (k : MkF B V' V'' W' W'') : MkF B V V'' W W'' :=
  ⟨h.bel.trans k.bel, fun j hj hn => (k.blk j (Nat.lt_of_lt_of_le hj h.bel.size) (fun e => hn (h.sub j hj e))).trans (h.blk j hj hn), fun j hj hm => h.sub j hj (k.sub j (Nat.lt_of_lt_of_le hj h.bel.size) hm)⟩
theorem MkF.of_below (h : Below W.heap.size W W') (hn : B.n ≤ W.heap.size) : MkF B V V W W' := ⟨h.mono hn, fun j hj _ => h.block j hj, fun _ _ h => h⟩
theorem Mk.cell (h : Mk B V W) {i : Nat} {v : Value} (hv : (mkCells B V)[i]? = some v) : W.cell? ⟨B.mb, i, none⟩ = some v := by
  have := h.box
  simp [World.cell?, this, hv]
theorem Mk.frozen (h : Mk B V W) (i : Nat) : W.frozen? ⟨B.mb, i, none⟩ = false := by
  have := h.box
  simp [World.frozen?, this]
theorem Mk.clo (h : Mk B V W) {i : Nat} {v : Value} (hi : i < 13) (hv : (mkHead B V)[i]? = some v) : W.cell? ⟨B.mb, i, none⟩ = some v := h.cell ((mkCells_lo B V hi).trans hv)
theorem Mk.chi (h : Mk B V W) {j : Nat} {v : Value} (hv : (mkTail V)[j]? = some v) : W.cell? ⟨B.mb, 269 + j, none⟩ = some v := h.cell ((mkCells_hi B V h.cl j).trans hv)
theorem Mk.mlt (h : Mk B V W) : B.mb < W.heap.size := (Array.getElem?_eq_some_iff.1 h.box).1
theorem Mk.nle (h : Mk B V W) : B.n ≤ W.heap.size := by have := h.mlt; have := h.lo.1; omega
theorem Mk.mut_lt (h : Mk B V W) {k : Nat} (hk : Mut B V k) : B.n ≤ k ∧ k < W.heap.size := by
  rcases hk with rfl | rfl | rfl | rfl | hk | hk | hk | hk
  · exact ⟨h.lo.1, h.mlt⟩
  · exact ⟨h.lo.2.1, h.num.lt⟩
  · exact ⟨h.lo.2.2.1, h.am.lt⟩
  · exact ⟨h.lo.2.2.2, h.em.lt⟩
  · exact ⟨(own_ty h.pl hk).1, (own_ty h.pl hk).2.1⟩
  · exact ⟨(own_ty h.al hk).1, (own_ty h.al hk).2.1⟩
  · exact ⟨(own_ty h.el hk).1, (own_ty h.el hk).2.1⟩
  · exact ⟨(own_ty h.nl hk).1, (own_ty h.nl hk).2.1⟩
theorem Mk.free (h : Mk B V W) {k : Nat} (hk : W.heap.size ≤ k) : ¬ Mut B V k := fun hm => by have := h.mut_lt hm; omega
theorem Mk.keep (h : Mk B V W) (hs : W.heap.size ≤ W'.heap.size) (hk : ∀ k, B.n ≤ k → k < W.heap.size → W'.heap[k]? = W.heap[k]?) (hd : ∀ k, k < W.heap.size → W'.heap[k]? = W.heap[k]?) : Mk B V W' :=
  ⟨(hk _ h.lo.1 h.mlt).trans h.box, h.cl, h.lo, h.dis, own_keep h.pl fun k hA => hd k (own_ty h.pl hA).2.1, h.num.same (hd _ h.num.lt), h.pok, own_keep h.al fun k hA => hd k (own_ty h.al hA).2.1, h.am.same (hd _ h.am.lt),
   own_keep h.el fun k hA => hd k (own_ty h.el hA).2.1, h.em.same (hd _ h.em.lt), own_keep h.nl fun k hA => hd k (own_ty h.nl hA).2.1, h.imm.step (fun k _ hl => hd k hl) hs (fun _ hp _ => hp), fun k hk => Nat.lt_of_lt_of_le (h.avl k hk) hs⟩
theorem Mk.below (h : Mk B V W) (hb : Below W.heap.size W W') : Mk B V W' := h.keep hb.size (fun k _ hl => hb.block k hl) fun k hl => hb.block k hl
theorem cellAl {w : World} {p : Addr} {v : Value} (o : Obj) (h : w.cell? p = some v) : (w.alloc o).cell? p = some v := (((Below.refl w.heap.size w).alloc (Nat.le_refl _) o).cell (World.block_lt_of_cell? w p h)).trans h
theorem cells_ne_map {W : World} {a b : Nat} {cs : Array Value} {t : TypeId} {fr : Nat × Nat} {P : Program} {kt : TypeId} {M : List (Value × Value)} (h : W.heap[a]? = some (.cells cs t fr)) (k : MapIs P kt b M W) : a ≠ b := by
  rintro rfl
  obtain ⟨es, clock, hb, _⟩ := k
  rw [h] at hb; cases hb
theorem own_ne_map {W : World} {m sz n c b : Nat} {et : TypeId} {A : Option Addr} {xs : List Value} {P : Program} {kt : TypeId} {M : List (Value × Value)} (h : W.ownsRow m et sz (.slice A n c) n xs) (k : MapIs P kt b M W) : ownA A ≠ some b := fun e => by
  obtain ⟨_, _, cur, hb⟩ := own_ty h e
  exact cells_ne_map hb k rfl
theorem own_ne_cells {W : World} {m sz n c b : Nat} {et t : TypeId} {A : Option Addr} {xs : List Value} {cs : Array Value} {fr : Nat × Nat} (h : W.ownsRow m et sz (.slice A n c) n xs) (k : W.heap[b]? = some (.cells cs t fr)) (ht : et ≠ t) : ownA A ≠ some b := fun e => by
  obtain ⟨_, _, cur, hb⟩ := own_ty h e
  rw [k] at hb
  injection hb with hb; injection hb with _ hb
  exact ht hb.symm
theorem MapIs.congr {P : Program} {kt : TypeId} {b : Nat} {M M' : List (Value × Value)} (h : MapIs P kt b M W) (hn : (M'.map (·.1)).Nodup) (hm : ∀ p, p ∈ M' ↔ p ∈ M) : MapIs P kt b M' W := by
  obtain ⟨es, clock, h1, h2, _, h4⟩ := h
  exact ⟨es, clock, h1, h2, hn, fun p => (hm p).trans (h4 p)⟩
end
theorem tyPM : (150 : TypeId) ≠ 143 := by decide
theorem tyPA : (150 : TypeId) ≠ 59 := by decide
theorem tyPT : (150 : TypeId) ≠ 57 := by decide
theorem tyPN : (150 : TypeId) ≠ 64 := by decide
theorem tyAM : (59 : TypeId) ≠ 143 := by decide
theorem tyAT : (59 : TypeId) ≠ 57 := by decide
theorem tyAN : (59 : TypeId) ≠ 64 := by decide
theorem tyTM : (57 : TypeId) ≠ 143 := by decide
theorem tyTN : (57 : TypeId) ≠ 64 := by decide
theorem tyNM : (64 : TypeId) ≠ 143 := by decide
def putL {α : Type} [DecidableEq α] (l : List α) (x : α) : List α := if x ∈ l then l else l ++ [x]
theorem numM_mem {l : List Place} {k v : Value} : (k, v) ∈ numM l ↔ ∃ (i : Nat) (p : Place), l[i]? = some p ∧ k = placeV p ∧ v = .int .i64 (i : Int) := by
  unfold numM
  rw [List.mem_map]
  constructor
  · rintro ⟨⟨p, i⟩, hm, he⟩
    injection he with h1 h2
    exact ⟨i, p, by simpa using List.mem_zipIdx_iff_getElem?.1 hm, h1.symm, h2.symm⟩
  · rintro ⟨i, p, hp, rfl, rfl⟩
    exact ⟨(p, i), List.mem_zipIdx_iff_getElem?.2 hp, rfl⟩
theorem idxM_mem {l : List Nat} {k v : Value} : (k, v) ∈ idxM l ↔ ∃ (i : Nat) (x : Nat), l[i]? = some x ∧ k = .int .i64 (x : Int) ∧ v = .int .i64 (i : Int) := by
  unfold idxM
  rw [List.mem_map]
  constructor
  · rintro ⟨⟨p, i⟩, hm, he⟩
    injection he with h1 h2
    exact ⟨i, p, by simpa using List.mem_zipIdx_iff_getElem?.1 hm, h1.symm, h2.symm⟩
  · rintro ⟨i, p, hp, rfl, rfl⟩
    exact ⟨(p, i), List.mem_zipIdx_iff_getElem?.2 hp, rfl⟩
theorem numM_fst (l : List Place) : (numM l).map (·.1) = l.map placeV := by
  unfold numM
  rw [List.map_map]
  show (l.zipIdx).map (placeV ∘ Prod.fst) = _
  rw [← List.map_map, List.zipIdx_map_fst]
theorem idxM_fst (l : List Nat) : (idxM l).map (·.1) = l.map fun (x : Nat) => (.int .i64 (x : Int) : Value) := by
  unfold idxM
  rw [List.map_map]
  show (l.zipIdx).map ((fun (x : Nat) => (.int .i64 (x : Int) : Value)) ∘ Prod.fst) = _
  rw [← List.map_map, List.zipIdx_map_fst]
theorem numM_snoc (l : List Place) (p : Place) : numM (l ++ [p]) = numM l ++ [(placeV p, .int .i64 (l.length : Int))] := by
  unfold numM
  rw [List.zipIdx_append, List.map_append]
  simp
theorem idxM_snoc (l : List Nat) (p : Nat) : idxM (l ++ [p]) = idxM l ++ [(.int .i64 (p : Int), .int .i64 (l.length : Int))] := by
  unfold idxM
  rw [List.zipIdx_append, List.map_append]
  simp
theorem mapPut_new {M : List (Value × Value)} {k v : Value} (h : ∀ p ∈ M, p.1 ≠ k) : mapPut M k v = (k, v) :: M := by
  classical
  unfold mapPut
  congr 1
  rw [List.filter_eq_self]
  intro p hp
  simpa using h p hp
end
theorem Mk.nodup {B : MkB} {V : MkV} {W : World} (h : Mk B V W) : V.ps.Nodup := by
 obtain ⟨_, _, _, _, h3, _⟩ := h.num
 rw [numM_fst] at h3
 exact nodup_of_map _ h3
theorem idxOf_at {α : Type} [BEq α] [LawfulBEq α] {l : List α} {i : Nat} {x : α} (hn : l.Nodup) (h : l[i]? = some x) : l.idxOf x = i := by
 induction l generalizing i with
 | nil => simp at h
 | cons y l ih =>
  rw [List.nodup_cons] at hn
  cases i with
  | zero => simp at h; subst h; simp
  | succ i =>
   have h' : l[i]? = some x := by simpa using h
   have hne : y ≠ x := fun e => hn.1 (by rw [e]; exact List.mem_of_getElem? h')
   have hb : (y == x) = false := by simpa using hne
   rw [List.idxOf_cons, hb, ih hn.2 h']; rfl
theorem numM_look {B : MkB} {V : MkV} {W : World} (h : Mk B V W) {p : Place} (hp : PlaceOk p) (W' : World) (hW : W'.heap[B.nb]? = W.heap[B.nb]?) :
  (Instr.lookup 139 (.map (some B.nb)) (placeV p) true).run Tryz.prog W' = .ok (.tuple #[.int .i64 (if p ∈ V.ps then (V.ps.idxOf p : Int) else 0), .bool (decide (p ∈ V.ps))]) W' := by
 obtain ⟨kl, hkl⟩ := place_key hp
 have hinj : ∀ q ∈ V.ps, placeV q = placeV p → q = p := fun q hq e => placeV_inj (h.pok q hq).2.1 hp.2.1 e
 rcases (h.num.same hW).look true place_keyed Tryz.underlying139 (Tryz.zeroValue3 W') hkl with ⟨hno, hrun⟩ | ⟨v, hv, hrun⟩
 ·have hm : p ∉ V.ps := fun hm => by
   obtain ⟨i, hi⟩ := List.getElem?_of_mem hm
   exact hno _ (numM_mem.2 ⟨i, p, hi, rfl, rfl⟩) rfl
  rw [hrun]; simp [hm]
 ·obtain ⟨i, q, hq, hk, rfl⟩ := numM_mem.1 hv
  have hqp := hinj q (List.mem_of_getElem? hq) hk.symm
  subst hqp
  have hm : q ∈ V.ps := List.mem_of_getElem? hq
  rw [hrun]; simp [hm, idxOf_at h.nodup hq]
def withP (V : MkV) (a : Option Addr) (c : Nat) (ps : List Place) : MkV := { V with pa := a, pc := c, ps := ps }
def RetNode (B : MkB) (V : MkV) (p : Place) (W : World) (e : Ending) (W' : World) : Prop :=
 ∃ a c, e = .returned (.int .i64 ((putL V.ps p).idxOf p : Int)) ∧ Hid (Mk B (withP V a c (putL V.ps p)) W') ∧ Hid (MkF B V (withP V a c (putL V.ps p)) W W')
theorem infoPlace : (Tryz.prog.info? 150).map (fun i => (i.zero, i.size, i.bytes)) = some (some (.agg #[.int .i64 0, .int .i64 0, .int .i64 0, .int .i64 0, .int .i64 0, .int .i64 0]), 6, 48) := by kernel_rfl
theorem Mk.afterNode {B : MkB} {V : MkV} {W W3 : World} (h : Mk B V W) {a : Option Addr} {c : Nat} {p : Place} (hp : PlaceOk p) (hs : W.heap.size ≤ W3.heap.size)
  (hk : ∀ k, k < W.heap.size → k ≠ B.mb → k ≠ B.nb → ownA V.pa ≠ some k → W3.heap[k]? = W.heap[k]?)
  (hbox : W3.heap[B.mb]? = some (.cells (mkCells B (withP V a c (V.ps ++ [p]))).toArray 143 (0, 0)))
  (hpl : W3.ownsRow B.n 150 6 (.slice a (V.ps ++ [p]).length c) (V.ps ++ [p]).length ((V.ps ++ [p]).flatMap placeC))
  (hnum : MapIs Tryz.prog 150 B.nb (numM (V.ps ++ [p])) W3) (hnew : ∀ g, ownA a = some g → ownA V.pa = some g ∨ W.heap.size ≤ g) :
  Mk B (withP V a c (V.ps ++ [p])) W3 ∧ ∀ k, k < W.heap.size → Mut B (withP V a c (V.ps ++ [p])) k → Mut B V k := by
 have hsub : ∀ k, k < W.heap.size → Mut B (withP V a c (V.ps ++ [p])) k → Mut B V k := fun k hl hm => by
  rcases hm with e | e | e | e | e | e
  ·exact .inl e
  ·exact .inr (.inl e)
  ·exact .inr (.inr (.inl e))
  ·exact .inr (.inr (.inr (.inl e)))
  ·rcases hnew k e with e | e
   ·exact .inr (.inr (.inr (.inr (.inl e))))
   ·omega
  ·exact .inr (.inr (.inr (.inr (.inr e))))
 have hmap : ∀ {b : Nat} {kt : TypeId} {M : List (Value × Value)}, MapIs Tryz.prog kt b M W → b ≠ B.nb → MapIs Tryz.prog kt b M W3 := fun k hn => k.same (hk _ k.lt (fun e => cells_ne_map h.box k e.symm) hn (own_ne_map h.pl k))
 refine ⟨⟨hbox, h.cl, h.lo, h.dis, hpl, hnum, fun q hq => ?_, ?_, hmap h.am h.dis.1.symm, ?_, hmap h.em h.dis.2.1.symm, ?_, ?_, fun k hk => Nat.lt_of_lt_of_le (h.avl k hk) hs⟩, hsub⟩
 ·rcases List.mem_append.1 hq with hq | hq
  ·exact h.pok q hq
  ·rw [List.mem_singleton] at hq; subst hq; exact hp
 ·exact own_keep h.al fun k hA => hk k (own_ty h.al hA).2.1 (fun e => own_ne_cells h.al h.box tyAM (e ▸ hA)) (fun e => own_ne_map h.al h.num (e ▸ hA)) (fun e => own_apart h.pl h.al tyPA k e hA)
 ·exact own_keep h.el fun k hA => hk k (own_ty h.el hA).2.1 (fun e => own_ne_cells h.el h.box tyTM (e ▸ hA)) (fun e => own_ne_map h.el h.num (e ▸ hA)) (fun e => own_apart h.pl h.el tyPT k e hA)
 ·exact own_keep h.nl fun k hA => hk k (own_ty h.nl hA).2.1 (fun e => own_ne_cells h.nl h.box tyNM (e ▸ hA)) (fun e => own_ne_map h.nl h.num (e ▸ hA)) (fun e => own_apart h.pl h.nl tyPN k e hA)
 ·have h2 := h.imm.step (w' := W3) (P' := fun k => ¬ Mut B (withP V a c (V.ps ++ [p])) k ∧ ¬ B.av k) (fun k hn hl => hk k hl (fun e => hn.1 (.inl e)) (fun e => hn.1 (.inr (.inl e))) (fun e => hn.1 (.inr (.inr (.inr (.inr (.inl e))))))) hs (fun k hn hl => ⟨fun hm => hn.1 (hsub k hl hm), hn.2⟩)
  exact fun U hU => let q := h2 U hU; ⟨q.ls, q.rows, q.fins, q.acs, q.es, q.ns⟩
theorem node_mk (W : World) (B : MkB) (V : MkV) (hM : Hid (Mk B V W)) (p : Place) (hp : PlaceOk p) (s n c0 c1 c2 c3 : Int) (hpc : Hid (placeC p = [.int .i64 s, .int .i64 n, .int .i64 c0, .int .i64 c1, .int .i64 c2, .int .i64 c3])) (hl : V.ps.length ≤ 1048576) :
  Calls Tryz.prog 74 #[.pointer (some ⟨B.mb, 0, none⟩), .agg #[.int .i64 s, .int .i64 n, .int .i64 c0, .int .i64 c1, .int .i64 c2, .int .i64 c3]] W (RetNode B V p W) := by
 have hV : placeV p = .agg #[.int .i64 s, .int .i64 n, .int .i64 c0, .int .i64 c1, .int .i64 c2, .int .i64 c3] := by unfold placeV; rw [hpc.out]
 obtain ⟨wA, hwA⟩ : ∃ z, W.alloc (.cells #[.int .i64 s, .int .i64 n, .int .i64 c0, .int .i64 c1, .int .i64 c2, .int .i64 c3] 150) = z := ⟨_, rfl⟩
 have hbA : Below W.heap.size W wA := by rw [← hwA]; exact (Below.refl _ _).alloc (Nat.le_refl _) _
 have hxA : wA.heap[W.heap.size]? = some (.cells #[.int .i64 s, .int .i64 n, .int .i64 c0, .int .i64 c1, .int .i64 c2, .int .i64 c3] 150 (0, 0)) := by rw [← hwA]; exact heap_alloc_new W _
 have HMA := Lh (hM.out.below hbA)
 have HBA := Lh hbA
 have HXA := Lh hxA
 have HP := Lh hp
 have hm10 := HMA.out.clo (i := 10) (by decide) rfl
 have hm9 := HMA.out.clo (i := 9) (by decide) rfl
 have hb0 : wA.cell? ⟨W.heap.size, 0, none⟩ = some (.int .i64 s) := by simp [World.cell?, hxA]
 have hb1 : wA.cell? ⟨W.heap.size, 1, none⟩ = some (.int .i64 n) := by simp [World.cell?, hxA]
 have hb2 : wA.cell? ⟨W.heap.size, 2, none⟩ = some (.int .i64 c0) := by simp [World.cell?, hxA]
 have hb3 : wA.cell? ⟨W.heap.size, 3, none⟩ = some (.int .i64 c1) := by simp [World.cell?, hxA]
 have hb4 : wA.cell? ⟨W.heap.size, 4, none⟩ = some (.int .i64 c2) := by simp [World.cell?, hxA]
 have hb5 : wA.cell? ⟨W.heap.size, 5, none⟩ = some (.int .i64 c3) := by simp [World.cell?, hxA]
 have hlk : ∀ W', W'.heap[B.nb]? = wA.heap[B.nb]? → (Instr.lookup 139 (.map (some B.nb)) (.agg #[.int .i64 s, .int .i64 n, .int .i64 c0, .int .i64 c1, .int .i64 c2, .int .i64 c3]) true).run Tryz.prog W' = .ok (.tuple #[.int .i64 (if p ∈ V.ps then (V.ps.idxOf p : Int) else 0), .bool (decide (p ∈ V.ps))]) W' := fun W' h => by
  rw [← hV]; exact numM_look HMA.out hp W' h
 clear hbA hxA hp
 by_cases hm : p ∈ V.ps
 ·have hlk2 : ∀ k, (Instr.lookup 139 (.map (some B.nb)) (.agg #[.int .i64 s, .int .i64 n, .int .i64 c0, .int .i64 c1, .int .i64 c2, .int .i64 c3]) true).run Tryz.prog (wA.drewN k) = .ok (.tuple #[.int .i64 (V.ps.idxOf p : Int), .bool true]) (wA.drewN k) := fun k => by
   have := hlk (wA.drewN k) rfl
   simpa [hm] using this
  have HIN : Hid (putL V.ps p = V.ps) := Lh (by unfold putL; rw [if_pos hm])
  clear hlk hm hV
  go_enter Tryz.func74, Tryz.ntmps74
  go_wp2_with fail
  go_quiet (fail)
  go_wp2_with fail
  go_ret
  refine ⟨V.pa, V.pc, by rw [HIN.out]; rfl, Lh ?_, Lh ?_⟩
  ·rw [HIN.out]; exact HMA.out.below (below_drewN (Below.refl _ _) _)
  ·rw [HIN.out]
   exact MkF.of_below (below_drewN HBA.out _) hM.out.nle
 ·have hlk2 : ∀ k, (Instr.lookup 139 (.map (some B.nb)) (.agg #[.int .i64 s, .int .i64 n, .int .i64 c0, .int .i64 c1, .int .i64 c2, .int .i64 c3]) true).run Tryz.prog (wA.drewN k) = .ok (.tuple #[.int .i64 0, .bool false]) (wA.drewN k) := fun k => by
   have := hlk (wA.drewN k) rfl
   simpa [hm] using this
  have HIN : Hid (putL V.ps p = V.ps ++ [p]) := Lh (by unfold putL; rw [if_neg hm])
  have HNM := Lh hm
  have HVV := Lh hV
  clear hlk hm hV
  go_enter Tryz.func74, Tryz.ntmps74
  go_wp2_with fail
  go_quiet (fail)
  go_wp2_with fail
  have hbox6 : ∀ w' : World, w'.heap[W.heap.size]? = wA.heap[W.heap.size]? → w'.cell? ⟨W.heap.size, 0, none⟩ = some (.int .i64 s) ∧ w'.cell? ⟨W.heap.size, 1, none⟩ = some (.int .i64 n) ∧ w'.cell? ⟨W.heap.size, 2, none⟩ = some (.int .i64 c0) ∧ w'.cell? ⟨W.heap.size, 3, none⟩ = some (.int .i64 c1) ∧ w'.cell? ⟨W.heap.size, 4, none⟩ = some (.int .i64 c2) ∧ w'.cell? ⟨W.heap.size, 5, none⟩ = some (.int .i64 c3) := fun w' h => by
   have h2 := h.trans HXA.out
   refine ⟨?_, ?_, ?_, ?_, ?_, ?_⟩ <;> simp [World.cell?, h2]
  obtain ⟨w2, hw2⟩ : ∃ z, (wA.drewN nq).drew = z := ⟨_, rfl⟩
  have hh2 : w2.heap = wA.heap := by rw [← hw2]; rfl
  have hb2A : Below wA.heap.size wA w2 := by rw [← hw2]; exact (below_drewN (Below.refl _ _) _).drew
  have HB2A := Lh hb2A
  have HH2 := Lh hh2
  have HX6 := Lh hbox6
  have h210 : w2.cell? ⟨B.mb, 10, none⟩ = some (.map (some B.nb)) := (hb2A.cell (lt_of_cell hm10)).trans hm10
  have h26 := hbox6 w2 (by rw [hh2])
  clear hb0 hb1 hb2 hb3 hb4 hb5 hlk2 hbox6 hh2 hb2A
  refine wp_region_Z 6 (by kernel_rfl) (fun V' => V'.cell? ⟨B.mb, 10, none⟩ = some (.map (some B.nb)) ∧ V'.cell? ⟨W.heap.size, 0, none⟩ = some (.int .i64 s) ∧ V'.cell? ⟨W.heap.size, 1, none⟩ = some (.int .i64 n) ∧ V'.cell? ⟨W.heap.size, 2, none⟩ = some (.int .i64 c0) ∧ V'.cell? ⟨W.heap.size, 3, none⟩ = some (.int .i64 c1) ∧ V'.cell? ⟨W.heap.size, 4, none⟩ = some (.int .i64 c2) ∧ V'.cell? ⟨W.heap.size, 5, none⟩ = some (.int .i64 c3)) (by rw [hw2]; exact ⟨h210, h26⟩) (fun hHeld => ?_)
  refine zt (v := ?_) 0 rfl ?_ ?_
  rotate_left
  ·intro w hSw; (try dsimp only at hSw); go_simp; (try with_reducible rfl)
  (try simp only [Act.put, zq1, zq2, zq3, zq4, zq5, zq6])
  refine zt (v := ?_) 1 rfl ?_ ?_
  rotate_left
  ·intro w hSw; (try dsimp only at hSw); go_simp; (try with_reducible rfl)
  (try simp only [Act.put, zq1, zq2, zq3, zq4, zq5, zq6])
  refine zt (v := ?_) 2 rfl ?_ ?_
  rotate_left
  ·intro w hSw; (try dsimp only at hSw); go_simp; (try with_reducible rfl)
  (try simp only [Act.put, zq1, zq2, zq3, zq4, zq5, zq6])
  refine zt (v := ?_) 3 rfl ?_ ?_
  rotate_left
  ·intro w hSw; (try dsimp only at hSw); go_simp; (try with_reducible rfl)
  (try simp only [Act.put, zq1, zq2, zq3, zq4, zq5, zq6])
  refine zt (v := ?_) 4 rfl ?_ ?_
  rotate_left
  ·intro w hSw; (try dsimp only at hSw); go_simp; (try with_reducible rfl)
  (try simp only [Act.put, zq1, zq2, zq3, zq4, zq5, zq6])
  refine zt (v := ?_) 5 rfl ?_ ?_
  rotate_left
  ·intro w hSw; (try dsimp only at hSw); go_simp; (try with_reducible rfl)
  (try simp only [Act.put, zq1, zq2, zq3, zq4, zq5, zq6])
  rw [hw2]
  obtain ⟨kl, hkl⟩ := place_key HP.out
  obtain ⟨wB, hrun, hMB, hGB, hSB⟩ := (HMA.out.num.same (w' := w2) (by rw [HH2.out])).put place_keyed Tryz.underlying139 (by unfold numM; rw [List.length_map, List.length_zipIdx]; unfold maxLen; omega) (.int .i64 (V.ps.length : Int)) hkl
  rw [HVV.out] at hrun
  have HMB : Hid (MapIs Tryz.prog 150 B.nb (numM (V.ps ++ [p])) wB) := Lh (by
   rw [mapPut_new (fun q hq e => by
    obtain ⟨k, v⟩ := q
    obtain ⟨i, r, hr, hk, _⟩ := numM_mem.1 hq
    have hrm := List.mem_of_getElem? hr
    have := placeV_inj (HMA.out.pok r hrm).2.1 HP.out.2.1 (hk.symm.trans e)
    subst this
    exact HNM.out hrm)] at hMB
   refine hMB.congr ?_ ?_
   ·rw [numM_fst, List.map_append]
    have h1 := HMA.out.nodup
    have h2 : ((V.ps ++ [p]).map placeV).Nodup := by
     have hn : (V.ps ++ [p]).Nodup := List.nodup_append.2 ⟨h1, by simp, fun a ha b hb e => HNM.out (by rw [List.mem_singleton] at hb; rw [← hb, ← e]; exact ha)⟩
     unfold List.Nodup
     rw [List.pairwise_map]
     refine List.Pairwise.imp_of_mem (fun {a b} ha hb hne e => hne ?_) hn
     have hok : ∀ q ∈ V.ps ++ [p], q.2.length ≤ 4 := fun q hq => by
      rcases List.mem_append.1 hq with hq | hq
      ·exact (HMA.out.pok q hq).2.1
      ·rw [List.mem_singleton] at hq; subst hq; exact HP.out.2.1
     exact placeV_inj (hok a ha) (hok b hb) e
    rwa [List.map_append] at h2
   ·intro q
    rw [numM_snoc]
    simp only [List.mem_append, List.mem_cons, List.not_mem_nil, or_false]
    exact Or.comm)
  refine wpAnyZ_last (i := 6) rfl (by kernel_rfl) (by kernel_rfl) rfl (fun K hK => ?_)
  refine wp_mapUpdate rfl rfl rfl rfl hrun ?_
  refine hK.out _ _ ?_
  clear hHeld hK K hrun hMB hw2 h210 h26
  (try simp only [Act.put, zq1, zq2, zq3, zq4, zq5, zq6])
  have HGB := Lh hGB
  have HSB := Lh hSB
  have hAB : ∀ k, k < wA.heap.size → k ≠ B.nb → wB.heap[k]? = wA.heap[k]? := fun k hk hn => (HGB.out.block k (by rw [HH2.out]; exact hk) (fun e => hn (by injection e))).trans (by rw [HH2.out])
  have HAB := Lh hAB
  have hmn : B.mb ≠ B.nb := cells_ne_map HMA.out.box HMA.out.num
  have hmbB : wB.heap[B.mb]? = some (.cells (mkCells B V).toArray 143 (0, 0)) := (hAB _ HMA.out.mlt hmn).trans HMA.out.box
  have HMBB := Lh hmbB
  have hWA : W.heap.size < wA.heap.size := (Array.getElem?_eq_some_iff.1 HXA.out).1
  have hWn : W.heap.size ≠ B.nb := fun e => by have := hM.out.num.lt; omega
  obtain ⟨w4, hw4⟩ : ∃ z, wB.drew = z := ⟨_, rfl⟩
  have hh4 : w4.heap = wB.heap := by rw [← hw4]; rfl
  have HH4 := Lh hh4
  have h49 : w4.cell? ⟨B.mb, 9, none⟩ = some (.slice V.pa V.ps.length V.pc) := by
   have : w4.heap[B.mb]? = some (.cells (mkCells B V).toArray 143 (0, 0)) := by rw [hh4]; exact hmbB
   simp only [World.cell?, this]; rfl
  have h46 := HX6.out w4 (by rw [hh4]; exact hAB _ hWA hWn)
  clear hGB hSB hAB hmbB hh4
  go_wp2_with fail
  refine wp_region_Z 10 (by kernel_rfl) (fun V' => V'.cell? ⟨B.mb, 9, none⟩ = some (.slice V.pa V.ps.length V.pc) ∧ V'.cell? ⟨W.heap.size, 0, none⟩ = some (.int .i64 s) ∧ V'.cell? ⟨W.heap.size, 1, none⟩ = some (.int .i64 n) ∧ V'.cell? ⟨W.heap.size, 2, none⟩ = some (.int .i64 c0) ∧ V'.cell? ⟨W.heap.size, 3, none⟩ = some (.int .i64 c1) ∧ V'.cell? ⟨W.heap.size, 4, none⟩ = some (.int .i64 c2) ∧ V'.cell? ⟨W.heap.size, 5, none⟩ = some (.int .i64 c3)) (by rw [hw4]; exact ⟨h49, h46⟩) (fun hHeld => ?_)
  refine zt (v := ?_) 0 rfl ?_ ?_
  rotate_left
  ·intro w hSw; (try dsimp only at hSw); go_simp; (try with_reducible rfl)
  (try simp only [Act.put, zq1, zq2, zq3, zq4, zq5, zq6])
  refine zt (v := ?_) 1 rfl ?_ ?_
  rotate_left
  ·intro w hSw; (try dsimp only at hSw); go_simp; (try with_reducible rfl)
  (try simp only [Act.put, zq1, zq2, zq3, zq4, zq5, zq6])
  refine zt (v := ?_) 2 rfl ?_ ?_
  rotate_left
  ·intro w hSw; (try dsimp only at hSw); go_simp; (try with_reducible rfl)
  (try simp only [Act.put, zq1, zq2, zq3, zq4, zq5, zq6])
  refine zt (v := ?_) 3 rfl ?_ ?_
  rotate_left
  ·intro w hSw; (try dsimp only at hSw); go_simp; (try with_reducible rfl)
  (try simp only [Act.put, zq1, zq2, zq3, zq4, zq5, zq6])
  refine zt (v := ?_) 4 rfl ?_ ?_
  rotate_left
  ·intro w hSw; (try dsimp only at hSw); go_simp; (try with_reducible rfl)
  (try simp only [Act.put, zq1, zq2, zq3, zq4, zq5, zq6])
  refine zt (v := ?_) 5 rfl ?_ ?_
  rotate_left
  ·intro w hSw; (try dsimp only at hSw); go_simp; (try with_reducible rfl)
  (try simp only [Act.put, zq1, zq2, zq3, zq4, zq5, zq6])
  rw [hw4]
  refine zr 6 rfl fun K hK => ?_
  go_simp
  refine hK.out _ _ (⟨cellAl _ h49, cellAl _ h46.1, cellAl _ h46.2.1, cellAl _ h46.2.2.1, cellAl _ h46.2.2.2.1, cellAl _ h46.2.2.2.2.1, cellAl _ h46.2.2.2.2.2⟩) (fun hHeld => ?_)
  clear hK K
  (try simp only [Act.put, zq1, zq2, zq3, zq4, zq5, zq6])
  have HPL : Hid (w4.ownsRow B.n 150 6 (.slice V.pa V.ps.length V.pc) V.ps.length (V.ps.flatMap placeC)) := Lh (own_keep HMA.out.pl fun k hk => by
   rw [HH4.out]
   exact HAB.out k (own_ty HMA.out.pl hk).2.1 (fun e => own_ne_map HMA.out.pl HMA.out.num (e ▸ hk)))
  obtain ⟨i0, hi, hz0, hz1, hz2⟩ := info_parts infoPlace
  have hl40 : V.ps.length < 1099511627776 := by omega
  have hs4 : wA.heap.size ≤ w4.heap.size := by rw [HH4.out, HSB.out, HH2.out]; exact Nat.le_refl _
  have hn4 : B.n ≤ w4.heap.size := Nat.le_trans HMA.out.nle hs4
  refine zr 7 rfl fun K hK => ?_
  refine step_pushG rfl _ _ 141 rfl B.n 150 i0 _ 6 48 Tryz.underlying141 hi hz0 hz1 hz2 rfl (by decide) HPL.out rfl [.int .i64 s, .int .i64 n, .int .i64 c0, .int .i64 c1, .int .i64 c2, .int .i64 c3] 150 rfl rfl (by simp [Value.oneCell']) hl40 (by decide) hn4 ?_
  intro A9 c9 w9 HO9 HG9 HN9
  have hpaW : ∀ k, ownA V.pa = some k → k < W.heap.size := fun k hk => (own_ty hM.out.pl hk).2.1
  have hpm : ownA V.pa ≠ some B.mb := own_ne_cells HMA.out.pl HMA.out.box tyPM
  have hpx : ownA V.pa ≠ some W.heap.size := fun e => by have := hpaW _ e; omega
  have h99 : w9.cell? ⟨B.mb, 9, none⟩ = some (.slice V.pa V.ps.length V.pc) := HG9.out.cell (cellAl _ h49) (fun e => hpm e.symm)
  have hgo : ∀ {j : Nat} {v : Value}, w4.cell? ⟨W.heap.size, j, none⟩ = some v → w9.cell? ⟨W.heap.size, j, none⟩ = some v := fun h => HG9.out.cell (cellAl _ h) (fun e => hpx e.symm)
  have h9m : w9.heap[B.mb]? = some (.cells (mkCells B V).toArray 143 (0, 0)) := (HG9.out.block _ (by have := HMA.out.mlt; simp; omega) (fun e => hpm e.symm)).trans ((Below.heap_alloc _ _ _ (by have := HMA.out.mlt; omega)).trans (by rw [HH4.out]; exact HMBB.out))
  have h9f : w9.frozen? ⟨B.mb, 9, none⟩ = false := by simp [World.frozen?, h9m]
  refine hK.out _ _ (⟨h99, hgo h46.1, hgo h46.2.1, hgo h46.2.2.1, hgo h46.2.2.2.1, hgo h46.2.2.2.2.1, hgo h46.2.2.2.2.2⟩) (fun hHeld => ?_)
  clear hK K
  (try simp only [Act.put, zq1, zq2, zq3, zq4, zq5, zq6])
  refine zr 8 rfl fun K hK => ?_
  go_simp
  refine hK.out _ _ (⟨h99, hgo h46.1, hgo h46.2.1, hgo h46.2.2.1, hgo h46.2.2.2.1, hgo h46.2.2.2.2.1, hgo h46.2.2.2.2.2⟩) (fun hHeld => ?_)
  clear hK K
  (try simp only [Act.put, zq1, zq2, zq3, zq4, zq5, zq6])
  refine zt (v := ?_) 9 rfl ?_ ?_
  rotate_left
  ·intro w hSw; (try dsimp only at hSw); go_simp; (try with_reducible rfl)
  (try simp only [Act.put, zq1, zq2, zq3, zq4, zq5, zq6])
  refine wpAnyZ_last (i := 10) rfl (by kernel_rfl) (by kernel_rfl) rfl (fun K hK => ?_)
  go_simp
  refine hK.out _ _ ?_
  have HF : Hid (RetNode B V p W (.returned (.int .i64 (V.ps.length : Int))) (w9.setCell ⟨B.mb, 9, none⟩ (.slice A9 (V.ps.length + 1) c9))) := Lh (by
   have hst : ∀ k, k ≠ B.mb → (w9.setCell ⟨B.mb, 9, none⟩ (.slice A9 (V.ps.length + 1) c9)).heap[k]? = w9.heap[k]? := fun k hk => heap_setCell_other _ _ _ _ hk
   have hs9 := HG9.out.size
   simp at hs9
   have hchain : ∀ k, k < wA.heap.size → k ≠ B.mb → k ≠ B.nb → ownA V.pa ≠ some k → (w9.setCell ⟨B.mb, 9, none⟩ (.slice A9 (V.ps.length + 1) c9)).heap[k]? = wA.heap[k]? := fun k hk h1 h2 h3 =>
    (hst k h1).trans ((HG9.out.block k (by simp; omega) (fun e => h3 e.symm)).trans ((Below.heap_alloc _ _ _ (by omega)).trans (by rw [HH4.out]; exact HAB.out k hk h2)))
   have hlen : (V.ps ++ [p]).length = V.ps.length + 1 := by simp
   have hMk := HMA.out.afterNode (W3 := w9.setCell ⟨B.mb, 9, none⟩ (.slice A9 (V.ps.length + 1) c9)) (a := A9) (c := c9) HP.out (by simp; omega) hchain
    (by
     rw [heap_setCell_same w9 B.mb 9 _ _ _ h9m, List.setIfInBounds_toArray, ← hlen]
     rw [mkCells_set9]; rfl)
    (by
     rw [hlen, List.flatMap_append]
     have h := own_keep HO9.out (w' := w9.setCell ⟨B.mb, 9, none⟩ (.slice A9 (V.ps.length + 1) c9)) (fun k hk => hst k (fun e => by
      rcases HN9.out with e2 | ⟨g, e2, hg⟩
      ·rw [e2] at hk; exact hpm (e ▸ hk)
      ·rw [e2] at hk; injection hk with hk; have := HMA.out.mlt; omega))
     simpa [hpc.out] using h)
    (HMB.out.same ((hst _ (cells_ne_map HMA.out.box HMA.out.num).symm).trans ((HG9.out.block _ (by have := HMA.out.num.lt; simp; omega) (fun e => own_ne_map HMA.out.pl HMA.out.num e.symm)).trans ((Below.heap_alloc _ _ _ (by have := HMA.out.num.lt; omega)).trans (by rw [HH4.out])))))
    (fun g hg => by
     rcases HN9.out with e2 | ⟨q, e2, hq⟩
     ·rw [e2] at hg; exact .inl hg
     ·rw [e2] at hg; injection hg with hg; right; omega)
   refine ⟨A9, c9, ?_, Lh (by rw [HIN.out]; exact hMk.1), Lh (by
    rw [HIN.out]
    refine ⟨?_, fun k hk hn => ?_, fun k hk hm => hMk.2 k (by have := HBA.out.size; omega) hm⟩
    ·have h1 : Below B.n W wB := ((HBA.out.mono hM.out.nle).trans (HB2A.out.mono HMA.out.nle)).grown HGB.out (by rw [HH2.out]; exact HMA.out.nle) (fun k hk => by injection hk with hk; rw [← hk]; exact HMA.out.lo.2.1)
     have h2 : Below B.n W w4 := by rw [← hw4]; exact h1.drew
     exact ((h2.alloc hn4 _).grown HG9.out (by simp; omega) (fun k hk => (own_ty HMA.out.pl hk).1)).setCell HMA.out.lo.1 _
    ·exact (hchain k (by have := HBA.out.size; omega) (fun e => hn (.inl e)) (fun e => hn (.inr (.inl e))) (fun e => hn (.inr (.inr (.inr (.inr (.inl e))))))).trans (HBA.out.block k hk))⟩
   rw [HIN.out, idxOf_at (i := V.ps.length) (by
    have := hMk.1.nodup
    exact this) (by simp)])
  clear hHeld hK K h9f h9m hgo h99 hpx hpm hpaW hw4 h49 h46 HO9 HG9 HN9
  (try simp only [Act.put, zq1, zq2, zq3, zq4, zq5, zq6])
  go_wp2_with fail
  go_ret
  exact HF.out
structure LayS where
 ps : List Place
 acts : List Nat
 ends : List Nat
structure Lays (B : MkB) (V : MkV) (S : LayS) : Prop where
 ps : V.ps = S.ps
 acts : V.acs.map (·.1) = S.acts
 ends : V.es.map (·.1) = S.ends
 aok : ∀ x ∈ V.acs, ∃ r, B.d.rs[x.1]? = some r ∧ (r.dst, []) ∈ V.ps ∧ x.2.L = ⟨r.e, V.ps.idxOf (r.dst, []), r.o.L⟩
 eok : ∀ x ∈ V.es, ∃ f, B.d.fs[x.1]? = some f ∧ x.2.L = f.o.L
def putA (B : MkB) (S : LayS) (i : Nat) : LayS := if i ∈ S.acts then S else { S with ps := putL S.ps (((B.d.rs[i]?).map (·.dst)).getD 0, []), acts := S.acts ++ [i] }
def RetLay (B : MkB) (V : MkV) (S' : LayS) (x : Int) (W : World) (e : Ending) (W' : World) : Prop :=
 ∃ V', e = .returned (.int .i64 x) ∧ Hid (Mk B V' W') ∧ Hid (MkF B V V' W W') ∧ Hid (Lays B V' S') ∧ V'.ns = V.ns
theorem idxOf_app {α : Type} [BEq α] [LawfulBEq α] {l m : List α} {x : α} (h : x ∈ l) : (l ++ m).idxOf x = l.idxOf x := by
 induction l with
 | nil => cases h
 | cons y l ih =>
  rw [List.cons_append, List.idxOf_cons, List.idxOf_cons]
  by_cases e : y = x
  ·simp [e]
  ·have hb : (y == x) = false := by simpa using e
   rw [hb]
   rcases List.mem_cons.1 h with h | h
   ·exact absurd h.symm e
   ·rw [ih h]
theorem idxOf_put {α : Type} [DecidableEq α] [BEq α] [LawfulBEq α] {l : List α} {x y : α} (h : x ∈ l) : (putL l y).idxOf x = l.idxOf x := by
 unfold putL
 split
 ·rfl
 ·rw [idxOf_app h]
theorem mem_put {α : Type} [DecidableEq α] {l : List α} {x y : α} : x ∈ putL l y ↔ x ∈ l ∨ x = y := by
 unfold putL
 split
 ·rename_i h
  constructor
  ·exact .inl
  ·rintro (h2 | rfl)
   ·exact h2
   ·exact h
 ·simp
theorem Lays.withP {B : MkB} {V : MkV} {S : LayS} (h : Lays B V S) (a : Option Addr) (c : Nat) (p : Place) : Lays B (withP V a c (putL V.ps p)) { S with ps := putL S.ps p } :=
 ⟨by show putL V.ps p = _; rw [h.ps], h.acts, h.ends, fun x hx => by
  obtain ⟨r, h1, h2, h3⟩ := h.aok x hx
  exact ⟨r, h1, mem_put.2 (.inl h2), by rw [h3]; show _ = (⟨r.e, ((putL V.ps p).idxOf (r.dst, []) : Nat), r.o.L⟩ : ActL); rw [idxOf_put h2]⟩, h.eok⟩
theorem idxM_look {mb : Nat} {l : List Nat} {W : World} (h : MapIs Tryz.prog 3 mb (idxM l) W) (i : Nat) (hi : I64 (i : Int)) (W' : World) (hW : W'.heap[mb]? = W.heap[mb]?) :
  (Instr.lookup 140 (.map (some mb)) (.int .i64 (i : Int)) true).run Tryz.prog W' = .ok (.tuple #[.int .i64 (if i ∈ l then (l.idxOf i : Int) else 0), .bool (decide (i ∈ l))]) W' := by
 have hkl : keyOf Tryz.prog 3 (.int .i64 (i : Int)) = some (.int .i64 (i : Int)) := Maps.keyOf_int_mk Tryz.underlying3 (i64_wf hi)
 have hnd : l.Nodup := by
  obtain ⟨_, _, _, _, h3, _⟩ := h
  rw [idxM_fst] at h3
  exact nodup_of_map _ h3
 rcases (h.same hW).look true (Maps.int_keyed Tryz.underlying3) Tryz.underlying140 (Tryz.zeroValue3 W') hkl with ⟨hno, hrun⟩ | ⟨v, hv, hrun⟩
 ·have hm : i ∉ l := fun hm => by
   obtain ⟨j, hj⟩ := List.getElem?_of_mem hm
   exact hno _ (idxM_mem.2 ⟨j, i, hj, rfl, rfl⟩) rfl
  rw [hrun]; simp [hm]
 ·obtain ⟨j, q, hq, hk, rfl⟩ := idxM_mem.1 hv
  injection hk with _ hk
  obtain rfl : i = q := by omega
  have hm : i ∈ l := List.mem_of_getElem? hq
  rw [hrun]; simp [hm, idxOf_at hnd hq]
theorem idxM_put {mb : Nat} {l : List Nat} {W : World} (h : MapIs Tryz.prog 3 mb (idxM l) W) (i : Nat) (hi : I64 (i : Int)) (hm : i ∉ l) (hl : l.length ≤ 1048576) :
  ∃ w', (Instr.mapUpdate 140 (.map (some mb)) (.int .i64 (i : Int)) (.int .i64 (l.length : Int))).run Tryz.prog W = .ok () w' ∧ MapIs Tryz.prog 3 mb (idxM (l ++ [i])) w' ∧ W.grownBy w' (some mb) ∧ w'.heap.size = W.heap.size := by
 have hkl : keyOf Tryz.prog 3 (.int .i64 (i : Int)) = some (.int .i64 (i : Int)) := Maps.keyOf_int_mk Tryz.underlying3 (i64_wf hi)
 obtain ⟨w', h1, h2, h3, h4⟩ := h.put (Maps.int_keyed Tryz.underlying3) Tryz.underlying140 (by unfold idxM; rw [List.length_map, List.length_zipIdx]; unfold maxLen; omega) (.int .i64 (l.length : Int)) hkl
 refine ⟨w', h1, ?_, h3, h4⟩
 rw [mapPut_new (fun q hq e => by
  obtain ⟨k, v⟩ := q
  obtain ⟨j, r, hr, hk, _⟩ := idxM_mem.1 hq
  have e2 := hk.symm.trans e
  injection e2 with _ e2
  obtain rfl : r = i := by omega
  exact hm (List.mem_of_getElem? hr))] at h2
 refine h2.congr ?_ ?_
 ·obtain ⟨_, _, _, _, h5, _⟩ := h2
  rw [idxM_snoc, List.map_append]
  rw [List.map_cons] at h5
  have := (List.perm_append_singleton (Value.int .i64 (i : Int)) ((idxM l).map (·.1))).nodup_iff.2 h5
  simpa using this
 ·intro q
  rw [idxM_snoc]
  simp only [List.mem_append, List.mem_cons, List.not_mem_nil, or_false]
  exact Or.comm
def withA (V : MkV) (a : Option Addr) (c : Nat) (acs : List (Nat × ActI)) : MkV := { V with aa := a, ac := c, acs := acs }
theorem Mk.afterAct {B : MkB} {V : MkV} {W W3 : World} (h : Mk B V W) {a : Option Addr} {c : Nat} {x : Nat × ActI} (hs : W.heap.size ≤ W3.heap.size)
  (hk : ∀ k, k < W.heap.size → k ≠ B.mb → k ≠ B.ab → ownA V.aa ≠ some k → W3.heap[k]? = W.heap[k]?)
  (hbox : W3.heap[B.mb]? = some (.cells (mkCells B (withA V a c (V.acs ++ [x]))).toArray 143 (0, 0)))
  (hal : W3.ownsRow B.n 59 3 (.slice a (V.acs ++ [x]).length c) (V.acs ++ [x]).length ((V.acs ++ [x]).flatMap fun y => actC y.2))
  (ham : MapIs Tryz.prog 3 B.ab (idxM ((V.acs ++ [x]).map (·.1))) W3) (hnew : ∀ g, ownA a = some g → ownA V.aa = some g ∨ W.heap.size ≤ g)
  (hx : Dep (fun k => ¬ Mut B (withA V a c (V.acs ++ [x])) k ∧ ¬ B.av k) W3 (fun W => ActW x.2 W ∧ OutF x.2.o W)) :
  Mk B (withA V a c (V.acs ++ [x])) W3 ∧ ∀ k, k < W.heap.size → Mut B (withA V a c (V.acs ++ [x])) k → Mut B V k := by
 have hsub : ∀ k, k < W.heap.size → Mut B (withA V a c (V.acs ++ [x])) k → Mut B V k := fun k hl hm => by
  rcases hm with e | e | e | e | e | e | e
  ·exact .inl e
  ·exact .inr (.inl e)
  ·exact .inr (.inr (.inl e))
  ·exact .inr (.inr (.inr (.inl e)))
  ·exact .inr (.inr (.inr (.inr (.inl e))))
  ·rcases hnew k e with e | e
   ·exact .inr (.inr (.inr (.inr (.inr (.inl e)))))
   ·omega
  ·exact .inr (.inr (.inr (.inr (.inr (.inr e)))))
 have hmap : ∀ {b : Nat} {kt : TypeId} {M : List (Value × Value)}, MapIs Tryz.prog kt b M W → b ≠ B.ab → MapIs Tryz.prog kt b M W3 := fun k hn => k.same (hk _ k.lt (fun e => cells_ne_map h.box k e.symm) hn (own_ne_map h.al k))
 refine ⟨⟨hbox, h.cl, h.lo, h.dis, ?_, hmap h.num h.dis.1, h.pok, hal, ham, ?_, hmap h.em h.dis.2.2.symm, ?_, ?_, fun k hk => Nat.lt_of_lt_of_le (h.avl k hk) hs⟩, hsub⟩
 ·exact own_keep h.pl fun k hA => hk k (own_ty h.pl hA).2.1 (fun e => own_ne_cells h.pl h.box tyPM (e ▸ hA)) (fun e => own_ne_map h.pl h.am (e ▸ hA)) (fun e => own_apart h.pl h.al tyPA k hA e)
 ·exact own_keep h.el fun k hA => hk k (own_ty h.el hA).2.1 (fun e => own_ne_cells h.el h.box tyTM (e ▸ hA)) (fun e => own_ne_map h.el h.am (e ▸ hA)) (fun e => own_apart h.al h.el tyAT k e hA)
 ·exact own_keep h.nl fun k hA => hk k (own_ty h.nl hA).2.1 (fun e => own_ne_cells h.nl h.box tyNM (e ▸ hA)) (fun e => own_ne_map h.nl h.am (e ▸ hA)) (fun e => own_apart h.al h.nl tyAN k e hA)
 ·have h2 := h.imm.step (w' := W3) (P' := fun k => ¬ Mut B (withA V a c (V.acs ++ [x])) k ∧ ¬ B.av k) (fun k hn hl => hk k hl (fun e => hn.1 (.inl e)) (fun e => hn.1 (.inr (.inr (.inl e)))) (fun e => hn.1 (.inr (.inr (.inr (.inr (.inr (.inl e)))))))) hs (fun k hn hl => ⟨fun hm => hn.1 (hsub k hl hm), hn.2⟩)
  exact fun U hU => let q := h2 U hU; ⟨q.ls, q.rows, q.fins, fun y hy => by
   rcases List.mem_append.1 hy with hy | hy
   ·exact q.acs y hy
   ·rw [List.mem_singleton] at hy; subst hy; exact hx U hU, q.es, q.ns⟩
theorem ownsRow_setN {W : World} {m b c size : Nat} {et : TypeId} {xs : List Value} {n : Nat} (h : W.ownsRow m et size (.slice (some ⟨b, 0, none⟩) n c) n xs) (k : Nat) (v : Value) : (W.setCell ⟨b, k, none⟩ v).ownsRow m et size (.slice (some ⟨b, 0, none⟩) n c) n (xs.set k v) := by
 refine ⟨by simpa using h.1, ?_⟩
 rcases h.2 with ⟨e, _⟩ | ⟨g, cap, cur, e, hg, hh, hc, hm, hs, ht⟩
 ·cases e
 ·injection e with e1 e2 e3
  injection e1 with e1; injection e1 with e1; subst e1; subst e3
  refine .inr ⟨b, c, cur.setIfInBounds k v, rfl, hg, heap_setCell_same W b k cur et v hh, hc, hm, by simpa using hs, ?_⟩
  rw [Array.toList_setIfInBounds, List.take_set, ht]
theorem act_set (L : List (Nat × ActI)) (i : Nat) (e d0 d1 : Int) (o : OutI) : ((L ++ [(i, (⟨e, d0, o⟩ : ActI))]).flatMap fun y => actC y.2).set (L.length * 3 + 1) (.int .i64 d1) = (L ++ [(i, (⟨e, d1, o⟩ : ActI))]).flatMap fun y => actC y.2 := by
 have hl : (L.flatMap fun y => actC y.2).length = L.length * 3 := by
  induction L with
  | nil => rfl
  | cons y L ih => rw [List.flatMap_cons, List.length_append, ih]; simp [actC]; omega
 rw [List.flatMap_append, List.flatMap_append, set_hi hl]; rfl
theorem Mk.setTo {B : MkB} {V : MkV} {W : World} (h : Mk B V W) {L : List (Nat × ActI)} {i b : Nat} {e d0 : Int} {o : OutI} (hV : V.acs = L ++ [(i, ⟨e, d0, o⟩)]) (hb : V.aa = some ⟨b, 0, none⟩) (d1 : Int) (hd : I64 d1) :
  Mk B (withA V V.aa V.ac (L ++ [(i, ⟨e, d1, o⟩)])) (W.setCell ⟨b, L.length * 3 + 1, none⟩ (.int .i64 d1)) := by
 have hA : ownA V.aa = some b := by rw [hb]; rfl
 have hst : ∀ k, k ≠ b → (W.setCell ⟨b, L.length * 3 + 1, none⟩ (.int .i64 d1)).heap[k]? = W.heap[k]? := fun k hk => heap_setCell_other _ _ _ _ hk
 have hlen : (L ++ [(i, (⟨e, d1, o⟩ : ActI))]).length = V.acs.length := by rw [hV]; simp
 have hmu : ∀ k, Mut B (withA V V.aa V.ac (L ++ [(i, ⟨e, d1, o⟩)])) k ↔ Mut B V k := fun k => Iff.rfl
 refine ⟨?_, h.cl, h.lo, h.dis, ?_, h.num.same (hst B.nb (fun e => own_ne_map h.al h.num (by rw [e]; exact hA))), h.pok, ?_, ?_, ?_, h.em.same (hst B.eb (fun e => own_ne_map h.al h.em (by rw [e]; exact hA))), ?_, ?_, fun k hk => by simpa using h.avl k hk⟩
 ·rw [hst B.mb (fun e => own_ne_cells h.al h.box tyAM (by rw [e]; exact hA)), h.box]
  show some (Obj.cells (mkCells B V).toArray _ _) = some (Obj.cells (mkCells B (withA V V.aa V.ac (L ++ [(i, ⟨e, d1, o⟩)]))).toArray _ _)
  unfold mkCells mkTail withA
  rw [show (L ++ [(i, (⟨e, d1, o⟩ : ActI))]).length = V.acs.length from hlen]; rfl
 ·exact own_keep h.pl fun k hk => hst k (fun e => own_apart h.pl h.al tyPA k hk (e ▸ hA))
 ·have h2 := h.al
  rw [hb] at h2
  have h3 := ownsRow_setN h2 (L.length * 3 + 1) (.int .i64 d1)
  rw [hV, act_set] at h3
  show (W.setCell ⟨b, L.length * 3 + 1, none⟩ (.int .i64 d1)).ownsRow B.n 59 3 (.slice V.aa (L ++ [(i, (⟨e, d1, o⟩ : ActI))]).length V.ac) (L ++ [(i, (⟨e, d1, o⟩ : ActI))]).length _
  rw [hb]
  have e1 : (L ++ [(i, (⟨e, d0, o⟩ : ActI))]).length = (L ++ [(i, (⟨e, d1, o⟩ : ActI))]).length := by simp
  rw [e1] at h3
  exact h3
 ·have h2 := h.am.same (w' := W.setCell ⟨b, L.length * 3 + 1, none⟩ (.int .i64 d1)) (hst B.ab (fun e => own_ne_map h.al h.am (by rw [e]; exact hA)))
  rw [hV] at h2
  simpa [withA] using h2
 ·exact own_keep h.el fun k hk => hst k (fun e => own_apart h.al h.el tyAT k (e ▸ hA) hk)
 ·exact own_keep h.nl fun k hk => hst k (fun e => own_apart h.al h.nl tyAN k (e ▸ hA) hk)
 ·have h2 := h.imm.step (w' := W.setCell ⟨b, L.length * 3 + 1, none⟩ (.int .i64 d1)) (P' := fun k => ¬ Mut B (withA V V.aa V.ac (L ++ [(i, ⟨e, d1, o⟩)])) k ∧ ¬ B.av k) (fun k hn _ => hst k (fun e => hn.1 (.inr (.inr (.inr (.inr (.inr (.inl (e ▸ hA))))))))) (by simp) (fun k hn _ => hn)
  exact fun U hU => let q := h2 U hU; ⟨q.ls, q.rows, q.fins, fun y hy => by
   rcases List.mem_append.1 hy with hy | hy
   ·exact q.acs y (by rw [hV]; exact List.mem_append.2 (.inl hy))
   ·rw [List.mem_singleton] at hy; subst hy
    have h3 := q.acs (i, ⟨e, d0, o⟩) (by rw [hV]; simp)
    exact ⟨⟨⟨h3.1.1.1, hd⟩, h3.1.2⟩, h3.2⟩, q.es, q.ns⟩
section
def RuleP (i o n : Int) (r : RuleL) : Prop := StateOk n r.fr ∧ StateOk n r.dst ∧ GuardsOk i r.gs ∧ min (r.gs.length : Int) 1 ≤ r.eat ∧ r.eat ≤ r.gs.length ∧ WritesOk i o r.gs r.out
theorem BoxC.c5 {b : Nat} {v0 v1 v2 v3 v4 : Value} {W : World} (h : BoxC b [v0, v1, v2, v3, v4] W) : W.cell? ⟨b, 0, none⟩ = some v0 ∧ W.cell? ⟨b, 1, none⟩ = some v1 ∧ W.cell? ⟨b, 2, none⟩ = some v2 ∧ W.cell? ⟨b, 3, none⟩ = some v3 ∧ W.cell? ⟨b, 4, none⟩ = some v4 :=
 ⟨h 0 _ rfl, h 1 _ rfl, h 2 _ rfl, h 3 _ rfl, h 4 _ rfl⟩
section
variable {w0 w : World} {F : World → Prop}
theorem rule_st (hK : Hid (St w0 w F)) (i o n s : Int) (ra fa : Option Addr) (rl rc fl fc : Nat) (r : RuleI) (hr : ∀ W, F W → RuleW r W) (v : Bool) (hv : Hid (pB (RuleP i o n r.L) = v)) (hst : ∀ t ∈ r.o.l, StageP t.ps) :
  Calls Tryz.prog 150 #[.agg #[.int .i64 i, .int .i64 o, .int .i64 n, .int .i64 s, .slice ra rl rc, .slice fa fl fc], .agg #[.int .i64 r.fr, .int .i64 r.dst, .slice r.ga r.gs.length r.gc, .int .i64 r.e, .slice r.o.a r.o.l.length r.o.c]] w (RetV w0 (.bool v) F) := by
 have HR := Lh hr
 have HST := Lh hst
 obtain ⟨fr, dst, ga, gc, gs, e, oa, oc, ol⟩ := r
 have hgl := ((hr _ hK.out.now).2.1).2
 simp only at hgl ⊢
 have HK1 := St.box hK [.int .i64 i, .int .i64 o, .int .i64 n, .int .i64 s, .slice ra rl rc, .slice fa fl fc] 26
 have HK := St.box HK1 [.int .i64 fr, .int .i64 dst, .slice ga gs.length gc, .int .i64 e, .slice oa ol.length oc] 102
 have hz : (w.alloc (.cells [.int .i64 i, .int .i64 o, .int .i64 n, .int .i64 s, .slice ra rl rc, .slice fa fl fc].toArray 26)).heap.size = w.heap.size + 1 := by simp
 rw [hz] at HK
 have HV : Hid (pB (RuleP i o n ⟨fr, dst, bodies gs, e, ol.map TermI.L⟩) = v) := hv
 clear hr hst hz HK1 hv
 have hbl : (bodies gs).length = gs.length := bodies_length gs
 obtain ⟨v1, HV1⟩ : ∃ v1, Hid (pB (StateOk n fr) = v1) := ⟨_, rfl⟩
 obtain ⟨v2, HV2⟩ : ∃ v2, Hid (pB (StateOk n dst) = v2) := ⟨_, rfl⟩
 obtain ⟨v3, HV3⟩ : ∃ v3, Hid (pB (GuardsOk i (bodies gs)) = v3) := ⟨_, rfl⟩
 have HBL := Lh hbl
 obtain ⟨p0, p1, p2, p3, p4⟩ := HK.out.now.1.c5
 obtain ⟨q0, q1, q2, q3, q4, q5⟩ := HK.out.now.2.1.c6
 clear hbl
 go_enter Tryz.func150, Tryz.ntmps150
 go_wp2_with fail
 refine (state_st HK i o n s ra fa rl rc fl fc fr v1 HV1).mono ?_
 rintro e w1 ⟨rfl, HK1⟩
 clear p0 p1 p2 p3 p4 q0 q1 q2 q3 q4 q5
 obtain ⟨p0, p1, p2, p3, p4⟩ := HK1.out.now.1.c5
 obtain ⟨q0, q1, q2, q3, q4, q5⟩ := HK1.out.now.2.1.c6
 rcases v1 with _ | _
 ·obtain rfl := pB_f HV (fun h => by have := pB_true h.1; rw [HV1.out] at this; cases this)
  go_wp2_with fail
  go_ret
  exact ⟨rfl, Lh (HK1.out.weaken fun _ h => h.2.2)⟩
 go_wp2_with fail
 refine (state_st HK1 i o n s ra fa rl rc fl fc dst v2 HV2).mono ?_
 rintro e w2 ⟨rfl, HK2⟩
 clear p0 p1 p2 p3 p4 q0 q1 q2 q3 q4 q5
 obtain ⟨p0, p1, p2, p3, p4⟩ := HK2.out.now.1.c5
 obtain ⟨q0, q1, q2, q3, q4, q5⟩ := HK2.out.now.2.1.c6
 rcases v2 with _ | _
 ·obtain rfl := pB_f HV (fun h => by have := pB_true h.2.1; rw [HV2.out] at this; cases this)
  go_wp2_with fail
  go_ret
  exact ⟨rfl, Lh (HK2.out.weaken fun _ h => h.2.2)⟩
 go_wp2_with fail
 refine (guards_st HK2 i (fun _ h => (HR.out _ h.2.2).2.1.llx) gc v3 HV3).mono ?_
 rintro e w3 ⟨rfl, HK3⟩
 clear p0 p1 p2 p3 p4 q0 q1 q2 q3 q4 q5
 obtain ⟨p0, p1, p2, p3, p4⟩ := HK3.out.now.1.c5
 obtain ⟨q0, q1, q2, q3, q4, q5⟩ := HK3.out.now.2.1.c6
 rcases v3 with _ | _
 ·obtain rfl := pB_f HV (fun h => by have := pB_true h.2.2.1; rw [HV3.out] at this; cases this)
  go_wp2_with fail
  go_ret
  exact ⟨rfl, Lh (HK3.out.weaken fun _ h => h.2.2)⟩
 have hg4 : gs.length ≤ 4 := by have := (pB_iff.1 HV3.out).1; rwa [HBL.out] at this
 obtain ⟨m, hm⟩ : ∃ m : Int, min (gs.length : Int) 1 = m := ⟨_, rfl⟩
 by_cases e1 : e < m
 ·obtain rfl := pB_f HV (fun h => by have := h.2.2.2.1; simp only [HBL.out] at this; omega)
  go_wp2_with fail
  go_ret
  exact ⟨rfl, Lh (HK3.out.weaken fun _ h => h.2.2)⟩
 by_cases e2 : e ≤ (gs.length : Int)
 case neg =>
  obtain rfl := pB_f HV (fun h => by have := h.2.2.2.2.1; simp only [HBL.out] at this; omega)
  go_wp2_with fail
  go_ret
  exact ⟨rfl, Lh (HK3.out.weaken fun _ h => h.2.2)⟩
 have HE : Hid (pB (WritesOk i o (bodies gs) (ol.map TermI.L)) = v) := by
  unfold Hid
  rw [← HV.out]
  exact pB_congr ⟨fun h => ⟨pB_iff.1 HV1.out, pB_iff.1 HV2.out, pB_iff.1 HV3.out, by simp only [HBL.out]; omega, by simp only [HBL.out]; omega, h⟩, fun h => h.2.2.2.2.2⟩
 go_wp2_with fail
 refine (writes_st HK3 i o n s ra fa rl rc fl fc (fun _ h => (HR.out _ h.2.2).2.2) oc (fun _ h => (HR.out _ h.2.2).2.1.llx) gc hg4 v HE HST.out).mono ?_
 rintro e w4 ⟨rfl, HK4⟩
 go_wp2_with fail
 go_ret
 exact ⟨rfl, Lh (HK4.out.weaken fun _ h => h.2.2)⟩
end
end
theorem infoActM : (Tryz.prog.info? 59).map (fun i => (i.zero, i.size, i.bytes)) = some (some (.agg #[.int .i64 0, .int .i64 0, .slice none 0 0]), 3, 40) := by kernel_rfl
theorem own_fz {W : World} {m sz n c b : Nat} {et : TypeId} {xs : List Value} (h : W.ownsRow m et sz (.slice (some ⟨b, 0, none⟩) n c) n xs) (j : Nat) : W.frozen? ⟨b, j, none⟩ = false := by
 obtain ⟨_, _, cur, e⟩ := own_ty h (k := b) rfl
 simp [World.frozen?, e]
theorem own_some {W : World} {m sz n c : Nat} {et : TypeId} {A : Option Addr} {xs : List Value} (h : W.ownsRow m et sz (.slice A n c) n xs) (hn : 0 < n) : ∃ b, A = some ⟨b, 0, none⟩ := by
 rcases h.2 with ⟨e, e2⟩ | ⟨g, cap, cur, e, _⟩
 ·omega
 ·injection e with e; exact ⟨g, e⟩
theorem act_mk (W : World) (B : MkB) (V : MkV) (S : LayS) (hM : Hid (Mk B V W)) (hS : Hid (Lays B V S)) (hD : Hid (∀ W', Below B.n W W' → DescW B.d W')) (i : Nat) (r : RuleI) (hr : Hid (B.d.rs[i]? = some r)) (hi : i < 1048576) (hpl : V.ps.length ≤ 1000000) (hal : V.acs.length ≤ 1048576)
  (hout : r.o.l.length ≤ 1048576) (hps : Hid (∀ t ∈ r.o.l, t.ps.length ≤ 1048576)) :
  Calls Tryz.prog 127 #[.pointer (some ⟨B.mb, 0, none⟩), .int .i64 (i : Int)] W (RetLay B V (putA B S i) ((putA B S i).acts.idxOf i : Nat) W) := by
 have hi64 : I64 (i : Int) := by unfold I64; omega
 have hlk := idxM_look hM.out.am i hi64 W rfl
 have hm11 := hM.out.clo (i := 11) (by decide) rfl
 have HSA := Lh hS.out.acts
 by_cases hm : i ∈ V.acs.map (·.1)
 ·have hPA : putA B S i = S := by unfold putA; rw [if_pos (by rw [← hS.out.acts]; exact hm)]
  have HPA := Lh hPA
  rw [if_pos hm] at hlk
  rw [show decide (i ∈ V.acs.map (·.1)) = true by simpa using hm] at hlk
  clear hm hPA
  go_enter Tryz.func127, Tryz.ntmps127
  go_wp2_with fail
  go_ret
  exact ⟨V, by rw [HPA.out, ← HSA.out]; rfl, hM, Lh (MkF.refl _ _ _), by rw [HPA.out]; exact hS, rfl⟩
 have hPA : putA B S i = { S with ps := putL S.ps (r.dst, []), acts := S.acts ++ [i] } := by
  unfold putA; rw [if_neg (by rw [← hS.out.acts]; exact hm), hr.out]; rfl
 have HPA := Lh hPA
 have HNM := Lh hm
 rw [if_neg hm] at hlk
 rw [show decide (i ∈ V.acs.map (·.1)) = false by simpa using hm] at hlk
 obtain ⟨rb, off, r', hA, hx, hw, hd0, hd1, hd2, hd3, hd4⟩ := (hD.out W (Below.refl _ _)).rules.at_ (j := i) (List.getElem?_eq_some_iff.1 hr.out).1
 obtain rfl : r = r' := by have := hr.out; rw [this] at hx; exact Option.some.inj hx
 have hm4 := hM.out.clo (i := 4) (by decide) rfl
 rw [hA] at hm4
 have hilt : (i : Int) < (B.d.rs.length : Int) := by have := (List.getElem?_eq_some_iff.1 hr.out).1; omega
 have hi0 : (0 : Int) ≤ (i : Int) := by omega
 obtain ⟨wA, hwA⟩ : ∃ z, W.alloc (.cells #[.int .i64 r.fr, .int .i64 r.dst, .slice r.ga r.gs.length r.gc, .int .i64 r.e, .slice r.o.a r.o.l.length r.o.c] 102) = z := ⟨_, rfl⟩
 have hbA : Below W.heap.size W wA := by rw [← hwA]; exact (Below.refl _ _).alloc (Nat.le_refl _) _
 have hxA : wA.heap[W.heap.size]? = some (.cells #[.int .i64 r.fr, .int .i64 r.dst, .slice r.ga r.gs.length r.gc, .int .i64 r.e, .slice r.o.a r.o.l.length r.o.c] 102 (0, 0)) := by rw [← hwA]; exact heap_alloc_new W _
 have HBA := Lh hbA
 have HXA := Lh hxA
 have HMA := Lh (hM.out.below hbA)
 have hm270 := HMA.out.chi (j := 1) rfl
 have hmA11 := HMA.out.clo (i := 11) (by decide) rfl
 obtain ⟨wB, hrun, hMB, hGB, hSB⟩ := idxM_put HMA.out.am i hi64 hm (by rw [List.length_map]; exact hal)
 rw [List.length_map] at hrun
 have HMB := Lh hMB
 have HGB := Lh hGB
 have HSB := Lh hSB
 have HW := Lh hw
 have HI64 := Lh hi64
 clear hbA hxA hx hw hm hPA hMB hGB hSB hi64
 go_enter Tryz.func127, Tryz.ntmps127
 go_wp2_with fail
 have hAB : ∀ k, k < wA.heap.size → k ≠ B.ab → wB.heap[k]? = wA.heap[k]? := fun k hk hn => HGB.out.block k hk (fun e => hn (by injection e))
 have HAB := Lh hAB
 have hmn : B.mb ≠ B.ab := cells_ne_map HMA.out.box HMA.out.am
 have hWA : W.heap.size < wA.heap.size := (Array.getElem?_eq_some_iff.1 HXA.out).1
 have hWn : W.heap.size ≠ B.ab := fun e => by have := hM.out.am.lt; omega
 obtain ⟨w4, hw4⟩ : ∃ z, wB.drew = z := ⟨_, rfl⟩
 have hh4 : w4.heap = wB.heap := by rw [← hw4]; rfl
 have HH4 := Lh hh4
 have hb4m : w4.heap[B.mb]? = some (.cells (mkCells B V).toArray 143 (0, 0)) := by rw [hh4, hAB _ HMA.out.mlt hmn]; exact HMA.out.box
 have hb4x : w4.heap[W.heap.size]? = some (.cells #[.int .i64 r.fr, .int .i64 r.dst, .slice r.ga r.gs.length r.gc, .int .i64 r.e, .slice r.o.a r.o.l.length r.o.c] 102 (0, 0)) := by rw [hh4, hAB _ hWA hWn]; exact HXA.out
 have h270 : ∀ w' : World, w'.heap[B.mb]? = w4.heap[B.mb]? → w'.cell? ⟨B.mb, 270, none⟩ = some (.slice V.aa V.acs.length V.ac) := fun w' h => by
  have h2 := h.trans hb4m
  have h3 := mkCells_hi B V hM.out.cl 1
  simp only [World.cell?, h2]
  simpa [mkTail] using h3
 have hx5 : ∀ w' : World, w'.heap[W.heap.size]? = w4.heap[W.heap.size]? → w'.cell? ⟨W.heap.size, 3, none⟩ = some (.int .i64 r.e) ∧ w'.cell? ⟨W.heap.size, 4, none⟩ = some (.slice r.o.a r.o.l.length r.o.c) ∧ w'.cell? ⟨W.heap.size, 1, none⟩ = some (.int .i64 r.dst) := fun w' h => by
  have h2 := h.trans hb4x
  refine ⟨?_, ?_, ?_⟩ <;> simp [World.cell?, h2]
 have hs4 : w4.heap.size = wA.heap.size := by rw [hh4]; exact HSB.out
 have hbel4 : Below B.n W w4 := by
  rw [← hw4]
  exact ((HBA.out.mono hM.out.nle).grown HGB.out HMA.out.nle (fun k hk => by injection hk with hk; rw [← hk]; exact HMA.out.lo.2.2.1)).drew
 have HBEL4 := Lh hbel4
 have H270 := Lh h270
 have HX5 := Lh hx5
 have HS4 := Lh hs4
 have HB4M := Lh hb4m
 have HTO : Hid (TermsAt r.o.a r.o.l w4) := Lh ((hD.out w4 hbel4).rules.it r (List.mem_of_getElem? hr.out)).2.2
 have h4a := h270 w4 rfl
 have h4b := hx5 w4 rfl
 have HMN := Lh (And.intro hmn hWn)
 clear hAB hh4 hb4m hb4x h270 hx5 hs4 hbel4 hmn hWn
 refine wp_region_Z 17 (by kernel_rfl) (fun V' => V'.cell? ⟨B.mb, 270, none⟩ = some (.slice V.aa V.acs.length V.ac) ∧ V'.cell? ⟨W.heap.size, 3, none⟩ = some (.int .i64 r.e) ∧ V'.cell? ⟨W.heap.size, 4, none⟩ = some (.slice r.o.a r.o.l.length r.o.c)) (by rw [hw4]; exact ⟨h4a, h4b.1, h4b.2.1⟩) (fun hHeld => ?_)
 refine zt (v := ?_) 0 rfl ?_ ?_
 rotate_left
 ·intro w hSw; (try dsimp only at hSw); go_simp; (try with_reducible rfl)
 (try simp only [Act.put, zq1, zq2, zq3, zq4, zq5, zq6])
 refine zt (v := ?_) 1 rfl ?_ ?_
 rotate_left
 ·intro w hSw; (try dsimp only at hSw); go_simp; (try with_reducible rfl)
 (try simp only [Act.put, zq1, zq2, zq3, zq4, zq5, zq6])
 refine zt (v := ?_) 2 rfl ?_ ?_
 rotate_left
 ·intro w hSw; (try dsimp only at hSw); go_simp; (try with_reducible rfl)
 (try simp only [Act.put, zq1, zq2, zq3, zq4, zq5, zq6])
 refine zt (v := ?_) 3 rfl ?_ ?_
 rotate_left
 ·intro w hSw; (try dsimp only at hSw); go_simp; (try with_reducible rfl)
 (try simp only [Act.put, zq1, zq2, zq3, zq4, zq5, zq6])
 refine zt (v := ?_) 4 rfl ?_ ?_
 rotate_left
 ·intro w hSw; (try dsimp only at hSw); go_simp; (try with_reducible rfl)
 (try simp only [Act.put, zq1, zq2, zq3, zq4, zq5, zq6])
 refine zt (v := ?_) 5 rfl ?_ ?_
 rotate_left
 ·intro w hSw; (try dsimp only at hSw); go_simp; (try with_reducible rfl)
 (try simp only [Act.put, zq1, zq2, zq3, zq4, zq5, zq6])
 refine zt (v := ?_) 6 rfl ?_ ?_
 rotate_left
 ·intro w hSw; (try dsimp only at hSw); go_simp; (try with_reducible rfl)
 (try simp only [Act.put, zq1, zq2, zq3, zq4, zq5, zq6])
 refine zt (v := ?_) 7 rfl ?_ ?_
 rotate_left
 ·intro w hSw; (try dsimp only at hSw); go_simp; (try with_reducible rfl)
 (try simp only [Act.put, zq1, zq2, zq3, zq4, zq5, zq6])
 refine zt (v := ?_) 8 rfl ?_ ?_
 rotate_left
 ·intro w hSw; (try dsimp only at hSw); go_simp; (try with_reducible rfl)
 (try simp only [Act.put, zq1, zq2, zq3, zq4, zq5, zq6])
 refine zt (v := ?_) 9 rfl ?_ ?_
 rotate_left
 ·intro w hSw; (try dsimp only at hSw); go_simp; (try with_reducible rfl)
 (try simp only [Act.put, zq1, zq2, zq3, zq4, zq5, zq6])
 rw [hw4]
 refine zr 10 rfl fun K hK => ?_
 go_simp
 refine (own_st w4 HTO.out hout hps.out r.o.c).mono ?_
 rintro e w5 ⟨A5, c5, l5, rfl, HL5, HD5, HB5, HF5⟩
 have hB5m : w5.heap[B.mb]? = w4.heap[B.mb]? := HB5.out.block _ (by have := HMA.out.mlt; have := HS4.out; omega)
 have hB5x : w5.heap[W.heap.size]? = w4.heap[W.heap.size]? := HB5.out.block _ (by have := HS4.out; omega)
 have h5a := H270.out w5 hB5m
 have h5b := HX5.out w5 hB5x
 refine hK.out _ _ (⟨h5a, h5b.1, h5b.2.1⟩) (fun hHeld => ?_)
 clear hK K
 (try simp only [Act.put, zq1, zq2, zq3, zq4, zq5, zq6])
 refine zt (v := ?_) 11 rfl ?_ ?_
 rotate_left
 ·intro w hSw; (try dsimp only at hSw); go_simp; (try with_reducible rfl)
 (try simp only [Act.put, zq1, zq2, zq3, zq4, zq5, zq6])
 refine zr 12 rfl fun K hK => ?_
 go_simp
 refine hK.out _ _ (⟨cellAl _ h5a, cellAl _ h5b.1, cellAl _ h5b.2.1⟩) (fun hHeld => ?_)
 clear hK K
 (try simp only [Act.put, zq1, zq2, zq3, zq4, zq5, zq6])
 have hs5 := HB5.out.size
 have hA5 : ∀ k, k < wA.heap.size → k ≠ B.ab → w5.heap[k]? = wA.heap[k]? := fun k hk hn => (HB5.out.block k (by have := HS4.out; omega)).trans (by rw [HH4.out]; exact HAB.out k hk hn)
 have HA5 := Lh hA5
 have HAL : Hid (w5.ownsRow B.n 59 3 (.slice V.aa V.acs.length V.ac) V.acs.length (V.acs.flatMap fun y => actC y.2)) := Lh (own_keep HMA.out.al fun k hk => hA5 k (own_ty HMA.out.al hk).2.1 (fun e => own_ne_map HMA.out.al HMA.out.am (e ▸ hk)))
 obtain ⟨i0, hi, hz0, hz1, hz2⟩ := info_parts infoActM
 have hl40 : V.acs.length < 1099511627776 := by omega
 have hn5 : B.n ≤ w5.heap.size := by have := HMA.out.nle; have := HS4.out; omega
 clear hA5
 refine zr 13 rfl fun K hK => ?_
 refine step_pushG rfl _ _ 46 rfl B.n 59 i0 _ 3 40 Tryz.underlying46 hi hz0 hz1 hz2 rfl (by decide) HAL.out rfl [.int .i64 r.e, .int .i64 0, .slice A5 l5.length c5] 59 rfl rfl (by simp [Value.oneCell']) hl40 (by decide) hn5 ?_
 intro A9 c9 w9 HO9 HG9 HN9
 have hpm : ownA V.aa ≠ some B.mb := own_ne_cells HMA.out.al HMA.out.box tyAM
 have hpx : ownA V.aa ≠ some W.heap.size := fun e => by have := (own_ty hM.out.al e).2.1; omega
 have hml : B.mb < w5.heap.size := by have := HMA.out.mlt; have := HS4.out; omega
 have h9m : w9.heap[B.mb]? = w4.heap[B.mb]? := (HG9.out.block _ (by simp; omega) (fun e => hpm e.symm)).trans ((Below.heap_alloc _ _ _ hml).trans hB5m)
 have h9x : w9.heap[W.heap.size]? = w4.heap[W.heap.size]? := (HG9.out.block _ (by have := HS4.out; simp; omega) (fun e => hpx e.symm)).trans ((Below.heap_alloc _ _ _ (by have := HS4.out; omega)).trans hB5x)
 have h9a := H270.out w9 h9m
 have h9b := HX5.out w9 h9x
 have h9f : w9.frozen? ⟨B.mb, 270, none⟩ = false := by
  have := h9m.trans HB4M.out
  simp [World.frozen?, this]
 refine hK.out _ _ (⟨h9a, h9b.1, h9b.2.1⟩) (fun hHeld => ?_)
 clear hK K
 (try simp only [Act.put, zq1, zq2, zq3, zq4, zq5, zq6])
 refine zr 14 rfl fun K hK => ?_
 go_simp
 refine hK.out _ _ (⟨h9a, h9b.1, h9b.2.1⟩) (fun hHeld => ?_)
 clear hK K
 (try simp only [Act.put, zq1, zq2, zq3, zq4, zq5, zq6])
 refine zr 15 rfl fun K hK => ?_
 go_simp
 refine hK.out _ _ (⟨h9a, h9b.1, h9b.2.1⟩) (fun hHeld => ?_)
 clear hK K
 (try simp only [Act.put, zq1, zq2, zq3, zq4, zq5, zq6])
 refine zt (v := ?_) 16 rfl ?_ ?_
 rotate_left
 ·intro w hSw; (try dsimp only at hSw); go_simp; (try with_reducible rfl)
 (try simp only [Act.put, zq1, zq2, zq3, zq4, zq5, zq6])
 refine wpAnyZ_last (i := 17) rfl (by kernel_rfl) (by kernel_rfl) rfl (fun K hK => ?_)
 go_simp
 refine hK.out _ _ ?_
 obtain ⟨w10, hw10⟩ : ∃ z, w9.setCell ⟨B.mb, 270, none⟩ (.slice A9 (V.acs.length + 1) c9) = z := ⟨_, rfl⟩
 have hst : ∀ k, k ≠ B.mb → w10.heap[k]? = w9.heap[k]? := fun k hk => by rw [← hw10]; exact heap_setCell_other _ _ _ _ hk
 have hs9 := HG9.out.size
 simp at hs9
 have hs10 : w10.heap.size = w9.heap.size := by rw [← hw10]; simp
 have hlen : (V.acs ++ [(i, (⟨r.e, 0, ⟨A5, c5, l5⟩⟩ : ActI))]).length = V.acs.length + 1 := by simp
 have hnewA : ∀ g, ownA A9 = some g → ownA V.aa = some g ∨ w5.heap.size + 1 ≤ g := fun g hg => by
  rcases HN9.out with e2 | ⟨q, e2, hq⟩
  ·rw [e2] at hg; exact .inl hg
  ·rw [e2] at hg; injection hg with hg; right; omega
 have hchain : ∀ k, k < wA.heap.size → k ≠ B.mb → k ≠ B.ab → ownA V.aa ≠ some k → w10.heap[k]? = wA.heap[k]? := fun k hk h1 h2 h3 =>
  (hst k h1).trans ((HG9.out.block k (by have := HS4.out; simp; omega) (fun e => h3 e.symm)).trans ((Below.heap_alloc _ _ _ (by have := HS4.out; omega)).trans (HA5.out k hk h2)))
 have hMk := HMA.out.afterAct (W3 := w10) (a := A9) (c := c9) (x := (i, ⟨r.e, 0, ⟨A5, c5, l5⟩⟩)) (by have := HS4.out; omega) hchain
  (by
   rw [← hw10, heap_setCell_same w9 B.mb 270 _ _ _ (h9m.trans HB4M.out), List.setIfInBounds_toArray, ← hlen, mkCells_set270 B V hM.out.cl]; rfl)
  (by
   rw [hlen, List.flatMap_append]
   have h := own_keep HO9.out (w' := w10) (fun k hk => hst k (fun e => by
    rcases hnewA k hk with e2 | e2
    ·exact hpm (e ▸ e2)
    ·omega))
   simpa [actC, OutI.v] using h)
  (by
   rw [List.map_append]
   refine HMB.out.same ((hst _ HMN.out.1.symm).trans ((HG9.out.block _ (by have := HMA.out.am.lt; have := HS4.out; simp; omega) (fun e => own_ne_map HMA.out.al HMA.out.am e.symm)).trans ((Below.heap_alloc _ _ _ (by have := HMA.out.am.lt; have := HS4.out; omega)).trans ((HB5.out.block _ (by have := HMA.out.am.lt; have := HS4.out; omega)).trans (by rw [HH4.out]))))))
  (fun g hg => by
   rcases hnewA g hg with e2 | e2
   ·exact .inl e2
   ·right; have := HS4.out; omega)
  (fun U hU => by
   have hk5 : ∀ k, w4.heap.size ≤ k → k < w5.heap.size → U.heap[k]? = w5.heap[k]? := fun k hk hl => by
    have hfree : ¬ Mut B (withA V A9 c9 (V.acs ++ [(i, ⟨r.e, 0, ⟨A5, c5, l5⟩⟩)])) k := fun hm => by
     have hs4 := HS4.out
     rcases hm with e | e | e | e | e | e | e | e
     ·have := HMA.out.mlt; omega
     ·have := HMA.out.num.lt; omega
     ·have := HMA.out.am.lt; omega
     ·have := HMA.out.em.lt; omega
     ·have := (own_ty HMA.out.pl e).2.1; omega
     ·rcases hnewA k e with e2 | e2
      ·have := (own_ty HMA.out.al e2).2.1; omega
      ·omega
     ·have := (own_ty HMA.out.el e).2.1; omega
     ·have := (own_ty HMA.out.nl e).2.1; omega
    refine (hU k ⟨hfree, fun ha => by have := HMA.out.avl k ha; have := HS4.out; omega⟩ (by omega)).trans ((hst k (fun e => hfree (.inl e))).trans ((HG9.out.block k (by simp; omega) (fun e => ?_)).trans (Below.heap_alloc _ _ _ hl)))
    have := (own_ty HMA.out.al e.symm).2.1
    have := HS4.out
    omega
   exact ⟨⟨⟨HW.out.1.2.2, i64_0⟩, HD5.out U hk5⟩, HF5.out U hk5⟩)
 have HM10 := Lh hMk.1
 have HF10 : Hid (MkF B V (withA V A9 c9 (V.acs ++ [(i, ⟨r.e, 0, ⟨A5, c5, l5⟩⟩)])) W w10) := Lh (by
  refine ⟨?_, fun k hk hn => ?_, fun k hk hm => hMk.2 k (by have := HBA.out.size; omega) hm⟩
  ·have h1 : Below B.n W w5 := HBEL4.out.trans (HB5.out.mono (by have := HMA.out.nle; have := HS4.out; omega))
   have h2 := ((h1.alloc hn5 (.cells [.int .i64 r.e, .int .i64 0, .slice A5 l5.length c5].toArray 59)).grown HG9.out (by simp; omega) (fun k hk => (own_ty HMA.out.al hk).1)).setCell (p := ⟨B.mb, 270, none⟩) hM.out.lo.1 (.slice A9 (V.acs.length + 1) c9)
   rw [hw10] at h2
   exact h2
  ·exact (hchain k (by have := HBA.out.size; omega) (fun e => hn (.inl e)) (fun e => hn (.inr (.inr (.inl e)))) (fun e => hn (.inr (.inr (.inr (.inr (.inr (.inl e)))))))).trans (HBA.out.block k hk))
 have h10x : w10.heap[W.heap.size]? = w4.heap[W.heap.size]? := (hst _ (fun e => by have := hM.out.mlt; omega)).trans h9x
 have H10X := Lh h10x
 have HNEWA := Lh hnewA
 clear hHeld hK K h9m h9x h9a h9b h9f hpm hpx hml hst hs9 hs10 hnewA hchain hMk h10x hB5m hB5x h5a h5b hw4 h4a h4b
 (try simp only [Act.put, zq1, zq2, zq3, zq4, zq5, zq6])
 go_wp2_with fail
 rw [hw10]
 obtain ⟨b, hAb⟩ := own_some HM10.out.al (by simp [withA])
 obtain rfl : A9 = some ⟨b, 0, none⟩ := hAb
 obtain ⟨w11, hw11⟩ : ∃ z, w10.drew = z := ⟨_, rfl⟩
 have hb11 : Below w10.heap.size w10 w11 := by rw [← hw11]; exact (Below.refl _ _).drew
 have HM11 := Lh (HM10.out.below hb11)
 have HF11 := Lh (HF10.out.trans (MkF.of_below hb11 HM10.out.nle))
 have hWs : W.heap.size < w10.heap.size := by
  have h1 := H10X.out
  rcases Nat.lt_or_ge W.heap.size w10.heap.size with h | h
  ·exact h
  ·exfalso
   have := HX5.out w10 h1
   have := lt_of_cell this.1
   omega
 have h11x : w11.heap[W.heap.size]? = w4.heap[W.heap.size]? := (hb11.block _ hWs).trans H10X.out
 have h270 : w11.cell? ⟨B.mb, 270, none⟩ = some (.slice (some ⟨b, 0, none⟩) (V.acs.length + 1) c9) := by
  have := HM11.out.chi (j := 1) rfl
  simpa [withA] using this
 have h11b := (HX5.out w11 h11x).2.2
 have H11X := Lh h11x
 have hlen1 : (V.acs.length : Int) < (V.acs.length : Int) + 1 := by omega
 have hlen0 : (0 : Int) ≤ (V.acs.length : Int) := by omega
 have hlen2 : V.acs.length < V.acs.length + 1 := by omega
 clear h11x hb11 hw10
 refine wp_region_Z 13 (by kernel_rfl) (fun V' => V'.cell? ⟨B.mb, 270, none⟩ = some (.slice (some ⟨b, 0, none⟩) (V.acs.length + 1) c9) ∧ V'.cell? ⟨W.heap.size, 1, none⟩ = some (.int .i64 r.dst)) (by rw [hw11]; exact ⟨h270, h11b⟩) (fun hHeld => ?_)
 refine zt (v := ?_) 0 rfl ?_ ?_
 rotate_left
 ·intro w hSw; (try dsimp only at hSw); go_simp; (try with_reducible rfl)
 (try simp only [Act.put, zq1, zq2, zq3, zq4, zq5, zq6])
 refine zt (v := ?_) 1 rfl ?_ ?_
 rotate_left
 ·intro w hSw; (try dsimp only at hSw); go_simp; (try with_reducible rfl)
 (try simp only [Act.put, zq1, zq2, zq3, zq4, zq5, zq6])
 refine zt (v := ?_) 2 rfl ?_ ?_
 rotate_left
 ·intro w hSw; (try dsimp only at hSw); go_simp; (try with_reducible rfl)
 (try simp only [Act.put, zq1, zq2, zq3, zq4, zq5, zq6])
 refine zt (v := ?_) 3 rfl ?_ ?_
 rotate_left
 ·intro w hSw; (try dsimp only at hSw); go_simp; (try with_reducible rfl)
 (try simp only [Act.put, zq1, zq2, zq3, zq4, zq5, zq6])
 refine zt (v := ?_) 4 rfl ?_ ?_
 rotate_left
 ·intro w hSw; (try dsimp only at hSw); go_simp; (try with_reducible rfl)
 (try simp only [Act.put, zq1, zq2, zq3, zq4, zq5, zq6])
 refine zt (v := ?_) 5 rfl ?_ ?_
 rotate_left
 ·intro w hSw; (try dsimp only at hSw); go_simp; (try with_reducible rfl)
 (try simp only [Act.put, zq1, zq2, zq3, zq4, zq5, zq6])
 refine zt (v := ?_) 6 rfl ?_ ?_
 rotate_left
 ·intro w hSw; (try dsimp only at hSw); go_simp; (try with_reducible rfl)
 (try simp only [Act.put, zq1, zq2, zq3, zq4, zq5, zq6])
 refine zt (v := ?_) 7 rfl ?_ ?_
 rotate_left
 ·intro w hSw; (try dsimp only at hSw); go_simp; (try with_reducible rfl)
 (try simp only [Act.put, zq1, zq2, zq3, zq4, zq5, zq6])
 refine zt (v := ?_) 8 rfl ?_ ?_
 rotate_left
 ·intro w hSw; (try dsimp only at hSw); go_simp; (try with_reducible rfl)
 (try simp only [Act.put, zq1, zq2, zq3, zq4, zq5, zq6])
 refine zt (v := ?_) 9 rfl ?_ ?_
 rotate_left
 ·intro w hSw; (try dsimp only at hSw); go_simp; (try with_reducible rfl)
 (try simp only [Act.put, zq1, zq2, zq3, zq4, zq5, zq6])
 rw [hw11]
 refine zr 10 rfl fun K hK => ?_
 go_simp
 refine (node_mk w11 B _ HM11 (r.dst, []) ⟨HW.out.1.2.1, by simp, by simp⟩ r.dst 0 0 0 0 0 (Lh rfl) (by show V.ps.length ≤ _; omega)).mono ?_
 rintro e w12 ⟨pa, pc, rfl, HM12, HF12⟩
 have hfx : ¬ Mut B (withA V (some ⟨b, 0, none⟩) c9 (V.acs ++ [(i, ⟨r.e, 0, ⟨A5, c5, l5⟩⟩)])) W.heap.size := fun hm => by
  rcases hm with e | e | e | e | e | e | e | e
  ·have := hM.out.mlt; omega
  ·have := hM.out.num.lt; omega
  ·have := hM.out.am.lt; omega
  ·have := hM.out.em.lt; omega
  ·have := (own_ty hM.out.pl e).2.1; omega
  ·rcases HNEWA.out _ e with e2 | e2
   ·have := (own_ty hM.out.al e2).2.1; omega
   ·have := HB5.out.size; have := HS4.out; omega
  ·have := (own_ty hM.out.el e).2.1; omega
  ·have := (own_ty hM.out.nl e).2.1; omega
 have h12x : w12.heap[W.heap.size]? = w4.heap[W.heap.size]? := (HF12.out.blk _ (by
  have := HX5.out w11 H11X.out
  exact lt_of_cell this.1) hfx).trans H11X.out
 have h12a : w12.cell? ⟨B.mb, 270, none⟩ = some (.slice (some ⟨b, 0, none⟩) (V.acs.length + 1) c9) := by
  have := HM12.out.chi (j := 1) rfl
  simpa [withA, withP] using this
 have h12b := (HX5.out w12 h12x).2.2
 have h12c : ∃ v, w12.cell? ⟨b, V.acs.length * 3 + 1, none⟩ = some v := by
  have h := HM12.out.al
  have h2 : w12.ownsRow B.n 59 3 (.slice (some ⟨b, 0, none⟩) (V.acs ++ [(i, (⟨r.e, 0, ⟨A5, c5, l5⟩⟩ : ActI))]).length c9) (V.acs ++ [(i, (⟨r.e, 0, ⟨A5, c5, l5⟩⟩ : ActI))]).length ((V.acs ++ [(i, (⟨r.e, 0, ⟨A5, c5, l5⟩⟩ : ActI))]).flatMap fun y => actC y.2) := h
  have h3 := h2.1
  rw [h2.cellAt _ (by simp; omega)]
  exact ⟨_, List.getElem?_eq_getElem (by rw [h3]; simp; omega)⟩
 obtain ⟨vc, hvc⟩ := h12c
 have h12f : w12.frozen? ⟨b, V.acs.length * 3 + 1, none⟩ = false := own_fz (HM12.out.al : w12.ownsRow B.n 59 3 (.slice (some ⟨b, 0, none⟩) _ _) _ _) _
 obtain ⟨dx, hdx⟩ : ∃ z : Nat, (putL V.ps (r.dst, [])).idxOf (r.dst, []) = z := ⟨_, rfl⟩
 have hdx2 : (putL (withA V (some ⟨b, 0, none⟩) c9 (V.acs ++ [(i, (⟨r.e, 0, ⟨A5, c5, l5⟩⟩ : ActI))])).ps (r.dst, [])).idxOf (r.dst, []) = dx := hdx
 rw [hdx2]
 have HDX := Lh hdx
 have hdx64 : I64 (dx : Int) := by
  have h1 : dx ≤ V.ps.length + 1 := by
   rw [← hdx]
   have := List.idxOf_le_length (a := ((r.dst, []) : Place)) (l := putL V.ps (r.dst, []))
   refine Nat.le_trans this ?_
   unfold putL
   split <;> simp
  unfold I64; omega
 clear hdx hdx2 hfx h12x
 refine hK.out _ _ (⟨h12a, h12b⟩) (fun hHeld => ?_)
 clear hK K
 (try simp only [Act.put, zq1, zq2, zq3, zq4, zq5, zq6])
 refine zr 11 rfl fun K hK => ?_
 go_simp
 refine hK.out _ _ (⟨h12a, h12b⟩) (fun hHeld => ?_)
 clear hK K
 (try simp only [Act.put, zq1, zq2, zq3, zq4, zq5, zq6])
 refine zt (v := ?_) 12 rfl ?_ ?_
 rotate_left
 ·intro w hSw; (try dsimp only at hSw); go_simp; (try with_reducible rfl)
 (try simp only [Act.put, zq1, zq2, zq3, zq4, zq5, zq6])
 refine wpAnyZ_last (i := 13) rfl (by kernel_rfl) (by kernel_rfl) rfl (fun K hK => ?_)
 go_simp
 refine hK.out _ _ ?_
 have HFIN : Hid (RetLay B V (putA B S i) ((putA B S i).acts.idxOf i : Nat) W (.returned (.int .i64 (V.acs.length : Int))) (w12.setCell ⟨b, V.acs.length * 3 + 1, none⟩ (.int .i64 (dx : Int)))) := Lh (by
  have hM3 := HM12.out.setTo (L := V.acs) (i := i) (b := b) (e := r.e) (d0 := 0) (o := ⟨A5, c5, l5⟩) rfl rfl (dx : Int) hdx64
  have hnlo : B.n ≤ b := (own_ty HM12.out.al (k := b) rfl).1
  refine ⟨_, ?_, Lh hM3, Lh ((HF11.out.trans HF12.out).trans (?_ : MkF B _ (withA (withP (withA V (some ⟨b, 0, none⟩) c9 (V.acs ++ [(i, ⟨r.e, 0, ⟨A5, c5, l5⟩⟩)])) pa pc (putL V.ps (r.dst, []))) (some ⟨b, 0, none⟩) c9 (V.acs ++ [(i, ⟨r.e, dx, ⟨A5, c5, l5⟩⟩)])) w12 _)), Lh ⟨?_, ?_, by rw [HPA.out]; exact hS.out.ends, ?_, hS.out.eok⟩, rfl⟩
  ·rw [HPA.out]
   show _ = Ending.returned (.int .i64 (((S.acts ++ [i]).idxOf i : Nat) : Int))
   have hnd : (S.acts ++ [i]).Nodup := by
    rw [← HSA.out]
    obtain ⟨_, _, _, _, h3, _⟩ := hM.out.am
    rw [idxM_fst] at h3
    exact List.nodup_append.2 ⟨nodup_of_map _ h3, by simp, fun a ha b hb e => HNM.out (by rw [List.mem_singleton] at hb; rw [← hb, ← e]; exact ha)⟩
   rw [idxOf_at (i := S.acts.length) hnd (by simp), ← HSA.out, List.length_map]
  ·refine ⟨(Below.refl _ _).setCell hnlo _, fun k hk hn => heap_setCell_other _ _ _ _ (fun e => hn ?_), fun k hk hm => hm⟩
   have e : k = b := e
   subst e
   exact .inr (.inr (.inr (.inr (.inr (.inl rfl)))))
  ·rw [HPA.out]
   show putL V.ps (r.dst, []) = putL S.ps (r.dst, [])
   rw [hS.out.ps]
  ·rw [HPA.out]
   show List.map (fun (x : Nat × ActI) => x.1) (V.acs ++ [(i, ⟨r.e, dx, ⟨A5, c5, l5⟩⟩)]) = S.acts ++ [i]
   rw [List.map_append, HSA.out]; rfl
  ·intro x hx
   rcases List.mem_append.1 hx with hx | hx
   ·obtain ⟨q, h1, h2, h3⟩ := hS.out.aok x hx
    refine ⟨q, h1, mem_put.2 (.inl h2), ?_⟩
    rw [h3]
    show _ = (⟨q.e, ((putL V.ps (r.dst, [])).idxOf (q.dst, []) : Nat), q.o.L⟩ : ActL)
    rw [idxOf_put h2]
   ·rw [List.mem_singleton] at hx
    subst hx
    refine ⟨r, hr.out, mem_put.2 (.inr rfl), ?_⟩
    show (⟨r.e, dx, l5.map TermI.L⟩ : ActL) = ⟨r.e, ((putL V.ps (r.dst, [])).idxOf (r.dst, []) : Nat), r.o.L⟩
    rw [HL5.out, ← HDX.out]; rfl)
 clear hHeld hK K hdx64 h12f hvc h12a h12b hw11 h270 h11b
 (try simp only [Act.put, zq1, zq2, zq3, zq4, zq5, zq6])
 go_wp2_with fail
 go_ret
 exact HFIN.out
def rowF (l : List Int) (q : Int) : List Int := ((List.range l.length).filter fun j => l[j]? == some q).map fun (j : Nat) => (j : Int)
theorem rowF_mem {l : List Int} {q x : Int} : x ∈ rowF l q ↔ ∃ j : Nat, x = j ∧ l[j]? = some q := by
 unfold rowF
 rw [List.mem_map]
 constructor
 ·rintro ⟨j, hj, rfl⟩
  exact ⟨j, rfl, by simpa using (List.mem_filter.1 hj).2⟩
 ·rintro ⟨j, rfl, hj⟩
  exact ⟨j, List.mem_filter.2 ⟨List.mem_range.2 (List.getElem?_eq_some_iff.1 hj).1, by simpa using hj⟩, rfl⟩
theorem rowF_len (l : List Int) (q : Int) : (rowF l q).length ≤ l.length := by
 unfold rowF
 rw [List.length_map]
 have := List.length_filter_le (fun j => l[j]? == some q) (List.range l.length)
 rwa [List.length_range] at this
theorem rowF_rise (l : List Int) (q : Int) : (rowF l q).Pairwise (· < ·) := by
 unfold rowF
 rw [List.pairwise_map]
 exact (List.pairwise_lt_range.sublist List.filter_sublist).imp fun h => by omega
theorem rowF_ahead {l : List Int} {q : Int} {y : Nat} {j j' : Nat} (h : (rowF l q)[y]? = some (j : Int)) (hj : j' < j) (hl : l[j']? = some q) : (j' : Int) ∈ (rowF l q).take y := by
 obtain ⟨y', hy'⟩ := List.getElem?_of_mem (rowF_mem.2 ⟨j', rfl, hl⟩)
 have h1 := List.getElem?_eq_some_iff.1 h
 have h2 := List.getElem?_eq_some_iff.1 hy'
 rcases Nat.lt_or_ge y' y with hlt | hge
 ·exact List.mem_of_getElem? (i := y') (by rw [List.getElem?_take_of_lt hlt]; exact hy')
 ·exfalso
  rcases Nat.lt_or_eq_of_le hge with hlt | heq
  ·have := (List.pairwise_iff_getElem.1 (rowF_rise l q)) y y' h1.1 h2.1 hlt
   rw [h1.2, h2.2] at this; omega
  ·subst heq
   rw [h] at hy'
   injection hy' with hy'; omega
structure MkOk (B : MkB) : Prop where
 ok : DescOk B.d.L
 rn : B.rows.length = B.d.n.toNat
 fn : B.fins.length = B.d.n.toNat
 rows : ∀ q : Nat, (q : Int) < B.d.n → ∃ a c, B.rows[q]? = some (a, c, rowF (B.d.rs.map (·.fr)) q)
 fins : ∀ q : Nat, (q : Int) < B.d.n → ∃ a c, B.fins[q]? = some (a, c, rowF (B.d.fs.map (·.fr)) q)
 parts : (∀ r ∈ B.d.rs, ∀ t ∈ r.o.l, t.ps.length ≤ 1048576) ∧ ∀ r ∈ B.d.fs, ∀ t ∈ r.o.l, t.ps.length ≤ 1048576
def EndC (B : MkB) (p : Place) (j : Nat) : Prop := ∃ f, B.d.fs[j]? = some f ∧ f.fr = p.1 ∧ f.gs.length = p.2.length ∧ OnG B.ls (bodies f.gs) p.2
noncomputable def endF (B : MkB) (p : Place) : Option Nat := (List.range B.d.fs.length).find? fun j => pB (EndC B p j)
theorem find_range {n j : Nat} {P : Nat → Bool} (hj : j < n) (hP : P j = true) (hno : ∀ j' < j, P j' = false) : (List.range n).find? P = some j := by
 rw [List.find?_range_eq_some]
 exact ⟨hP, List.mem_range.2 hj, fun k hk => by rw [hno k hk]; rfl⟩
theorem endF_some {B : MkB} {p : Place} {j : Nat} (h : EndC B p j) (hno : ∀ j' < j, ¬ EndC B p j') : endF B p = some j := by
 obtain ⟨f, hf, _⟩ := id h
 exact find_range (List.getElem?_eq_some_iff.1 hf).1 (pB_true h) fun j' hj' => pB_false (hno j' hj')
theorem endF_none {B : MkB} {p : Place} (hno : ∀ j, ¬ EndC B p j) : endF B p = none := by
 unfold endF
 rw [List.find?_eq_none]
 intro j _
 rw [pB_false (hno j)]; simp
noncomputable def putE (B : MkB) (S : LayS) (p : Place) : LayS := match endF B p with
 | none => S
 | some j => { S with ends := putL S.ends j }
noncomputable def endI (B : MkB) (S : LayS) (p : Place) : Int := match endF B p with
 | none => -1
 | some j => ((putL S.ends j).idxOf j : Nat)
def withE (V : MkV) (a : Option Addr) (c : Nat) (es : List (Nat × OutI)) : MkV := { V with ea := a, ec := c, es := es }
theorem Mk.afterEnd {B : MkB} {V : MkV} {W W3 : World} (h : Mk B V W) {a : Option Addr} {c : Nat} {x : Nat × OutI} (hs : W.heap.size ≤ W3.heap.size)
  (hk : ∀ k, k < W.heap.size → k ≠ B.mb → k ≠ B.eb → ownA V.ea ≠ some k → W3.heap[k]? = W.heap[k]?)
  (hbox : W3.heap[B.mb]? = some (.cells (mkCells B (withE V a c (V.es ++ [x]))).toArray 143 (0, 0)))
  (hel : W3.ownsRow B.n 57 1 (.slice a (V.es ++ [x]).length c) (V.es ++ [x]).length ((V.es ++ [x]).flatMap fun y => [OutI.v y.2]))
  (hem : MapIs Tryz.prog 3 B.eb (idxM ((V.es ++ [x]).map (·.1))) W3) (hnew : ∀ g, ownA a = some g → ownA V.ea = some g ∨ W.heap.size ≤ g)
  (hx : Dep (fun k => ¬ Mut B (withE V a c (V.es ++ [x])) k ∧ ¬ B.av k) W3 (OutW x.2)) :
  Mk B (withE V a c (V.es ++ [x])) W3 ∧ ∀ k, k < W.heap.size → Mut B (withE V a c (V.es ++ [x])) k → Mut B V k := by
 have hsub : ∀ k, k < W.heap.size → Mut B (withE V a c (V.es ++ [x])) k → Mut B V k := fun k hl hm => by
  rcases hm with e | e | e | e | e | e | e | e
  ·exact .inl e
  ·exact .inr (.inl e)
  ·exact .inr (.inr (.inl e))
  ·exact .inr (.inr (.inr (.inl e)))
  ·exact .inr (.inr (.inr (.inr (.inl e))))
  ·exact .inr (.inr (.inr (.inr (.inr (.inl e)))))
  ·rcases hnew k e with e | e
   ·exact .inr (.inr (.inr (.inr (.inr (.inr (.inl e))))))
   ·omega
  ·exact .inr (.inr (.inr (.inr (.inr (.inr (.inr e))))))
 have hmap : ∀ {b : Nat} {kt : TypeId} {M : List (Value × Value)}, MapIs Tryz.prog kt b M W → b ≠ B.eb → MapIs Tryz.prog kt b M W3 := fun k hn => k.same (hk _ k.lt (fun e => cells_ne_map h.box k e.symm) hn (own_ne_map h.el k))
 refine ⟨⟨hbox, h.cl, h.lo, h.dis, ?_, hmap h.num h.dis.2.1, h.pok, ?_, hmap h.am h.dis.2.2, hel, hem, ?_, ?_, fun k hk => Nat.lt_of_lt_of_le (h.avl k hk) hs⟩, hsub⟩
 ·exact own_keep h.pl fun k hA => hk k (own_ty h.pl hA).2.1 (fun e => own_ne_cells h.pl h.box tyPM (e ▸ hA)) (fun e => own_ne_map h.pl h.em (e ▸ hA)) (fun e => own_apart h.pl h.el tyPT k hA e)
 ·exact own_keep h.al fun k hA => hk k (own_ty h.al hA).2.1 (fun e => own_ne_cells h.al h.box tyAM (e ▸ hA)) (fun e => own_ne_map h.al h.em (e ▸ hA)) (fun e => own_apart h.al h.el tyAT k hA e)
 ·exact own_keep h.nl fun k hA => hk k (own_ty h.nl hA).2.1 (fun e => own_ne_cells h.nl h.box tyNM (e ▸ hA)) (fun e => own_ne_map h.nl h.em (e ▸ hA)) (fun e => own_apart h.el h.nl tyTN k e hA)
 ·have h2 := h.imm.step (w' := W3) (P' := fun k => ¬ Mut B (withE V a c (V.es ++ [x])) k ∧ ¬ B.av k) (fun k hn hl => hk k hl (fun e => hn.1 (.inl e)) (fun e => hn.1 (.inr (.inr (.inr (.inl e))))) (fun e => hn.1 (.inr (.inr (.inr (.inr (.inr (.inr (.inl e))))))))) hs (fun k hn hl => ⟨fun hm => hn.1 (hsub k hl hm), hn.2⟩)
  exact fun U hU => let q := h2 U hU; ⟨q.ls, q.rows, q.fins, q.acs, fun y hy => by
   rcases List.mem_append.1 hy with hy | hy
   ·exact q.es y hy
   ·rw [List.mem_singleton] at hy; subst hy; exact hx U hU, q.ns⟩
theorem Mk.has_st {B : MkB} {V : MkV} {W : World} (h : Mk B V W) {G : World → Prop} (hG : ∀ W', Below W.heap.size W W' → G W') :
  Hid (St W W (fun W' => (W'.cell? ⟨B.mb, 6, none⟩ = some (.slice B.la B.ls.length B.lc) ∧ IntsAt B.la B.ls W') ∧ G W')) :=
 Lh ⟨fun W' hW => ⟨⟨(h.below hW).clo (i := 6) (by decide) rfl, (h.below hW).imm.now.ls⟩, hG W' hW⟩, Below.refl _ _⟩
end Go.Proofs.YtlmkokeapbleoaaGreat
