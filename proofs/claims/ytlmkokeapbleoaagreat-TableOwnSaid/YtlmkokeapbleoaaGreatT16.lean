/- A region that draws its order and in which several makes stand side by side: they come in whatever order. No function of the program in sight. Condition: none. The maker beside blocks that are written meanwhile (a node's record and its row of numbers); the table that it holds. Condition: the maker is known. -/
import Derived.Test.YtlmkokeapbleoaaGreatT07
import Derived.Test.YtlmkokeapbleoaaGreatT10
import Derived.Laws.Tables
import Derived.Great.Ranges
import Derived.Test.YtlmkokeapbleoaaGreatT15
set_option maxRecDepth 100000
set_option maxHeartbeats 64000000
set_option linter.unusedVariables false
set_option linter.unusedSimpArgs false
section
namespace Go.Proofs.YtlmkokeapbleoaaGreat
open Go.RowKit Go.Shelf
def updB (b : Nat → Option Nat) (k x : Nat) : Nat → Option Nat := fun j => if j = k then some x else b j
def cntB5 (b : Nat → Option Nat) : Nat := (if b 0 = none then 1 else 0) + ((if b 1 = none then 1 else 0) + ((if b 2 = none then 1 else 0) + ((if b 3 = none then 1 else 0) + (if b 4 = none then 1 else 0))))
theorem cntB5_upd {b : Nat → Option Nat} {k x m : Nat} (hk : k < 5) (hb : b k = none) (h : cntB5 b = m + 1) : cntB5 (updB b k x) = m := by
  have : k = 0 ∨ k = 1 ∨ k = 2 ∨ k = 3 ∨ k = 4 := by omega
  unfold cntB5 updB at *
  rcases this with rfl | rfl | rfl | rfl | rfl <;> simp [hb] at h ⊢ <;> omega
theorem cntB5_zero {b : Nat → Option Nat} (h : cntB5 b = 0) {k : Nat} (hk : k < 5) : b k ≠ none := by
  have : k = 0 ∨ k = 1 ∨ k = 2 ∨ k = 3 ∨ k = 4 := by omega
  unfold cntB5 at h
  intro hn
  rcases this with rfl | rfl | rfl | rfl | rfl <;> simp [hn] at h
theorem cntB5_pos {b : Nat → Option Nat} {m : Nat} (h : cntB5 b = m + 1) : ∃ k, k < 5 ∧ b k = none := by
  apply Classical.byContradiction
  intro hn
  have hs : ∀ k, k < 5 → b k ≠ none := fun k hk hb => hn ⟨k, hk, hb⟩
  unfold cntB5 at h
  simp [hs 0 (by omega), hs 1 (by omega), hs 2 (by omega), hs 3 (by omega), hs 4 (by omega)] at h
section
variable {P : Program} {ops : Array Oper} {Q : Exit → Act → World → Prop} {md : Region.Mode} {S : World → Prop} {z : Nat}
theorem makes5 (fuel : Nat) (ix : Nat → Nat) (L : (Nat → Option Nat) → Array Bool) (A : (Nat → Option Nat) → Act) (J : (Nat → Option Nat) → World → Prop)
    (hr : ∀ b, (∃ k, k < 5 ∧ b k = none) → Region.ready md ops (L b) ≠ [] ∧ ∀ i ∈ Region.ready md ops (L b), ∃ k, k < 5 ∧ i = ix k ∧ b k = none)
    (hL : ∀ b k x, k < 5 → b k = none → (L b).setIfInBounds (ix k) true = L (updB b k x))
    (step : ∀ b k w, k < 5 → b k = none → J b w → wpOp P ops Q (ix k) (fun a' w' => S w' ∧ a' = A (updB b k w.heap.size) ∧ J (updB b k w.heap.size) w') (A b) w)
    (hend : ∀ b w, (∀ k, k < 5 → b k ≠ none) → J b w → wpAnyZ P md ops Q S z fuel (L b) (A b) w) :
    ∀ (m : Nat) (b : Nat → Option Nat) (w : World), cntB5 b = m → J b w → wpAnyZ P md ops Q S z (fuel + m) (L b) (A b) w := by
  intro m
  induction m with
  | zero => exact fun b w hc hJ => hend b w (fun k hk => cntB5_zero hc hk) hJ
  | succ m ih =>
    intro b w hc hJ
    obtain ⟨hne, hall⟩ := hr b (cntB5_pos hc)
    refine ⟨fun h => absurd h hne, fun i hi => ?_⟩
    obtain ⟨k, hk, rfl, hb⟩ := hall i hi
    refine wpOp_mono (fun a' w' h => ?_) (step b k w hk hb hJ)
    obtain ⟨h1, rfl, h3⟩ := h
    refine ⟨.inr h1, ?_⟩
    rw [hL b k w.heap.size hk hb]
    exact ih _ _ (cntB5_upd hk hb hc) h3
end
def putO (d : Nat) (f : Nat → Value) (o : Option Nat) (a : Act) : Act := match o with
  | none => a
  | some x => a.put (some d) (f x)
theorem put_comm (a : Act) {d e : Nat} (h : d ≠ e) (x y : Value) : (a.put (some d) x).put (some e) y = (a.put (some e) y).put (some d) x := by
  unfold Act.put
  simp [Array.setIfInBounds_comm _ _ h]
theorem putO_put (a : Act) {d e : Nat} (h : d ≠ e) (f : Nat → Value) (o : Option Nat) (y : Value) : (putO d f o a).put (some e) y = putO d f o (a.put (some e) y) := by
  cases o with
  | none => rfl
  | some x => exact put_comm a h _ _
def actsB (d : Nat → Nat) (f : Nat → Nat → Value) (a0 : Act) (b : Nat → Option Nat) : Act := putO (d 0) (f 0) (b 0) (putO (d 1) (f 1) (b 1) (putO (d 2) (f 2) (b 2) (putO (d 3) (f 3) (b 3) (putO (d 4) (f 4) (b 4) a0))))
theorem actsB_upd {d : Nat → Nat} {f : Nat → Nat → Value} {a0 : Act} {b : Nat → Option Nat} (hd : ∀ j k, j < 5 → k < 5 → j ≠ k → d j ≠ d k) {k x : Nat} (hk : k < 5) (hb : b k = none) : (actsB d f a0 b).put (some (d k)) (f k x) = actsB d f a0 (updB b k x) := by
  have h5 : k = 0 ∨ k = 1 ∨ k = 2 ∨ k = 3 ∨ k = 4 := by omega
  unfold actsB updB
  rcases h5 with rfl | rfl | rfl | rfl | rfl
  · rw [hb]; rfl
  · rw [putO_put _ (hd 0 1 (by omega) (by omega) (by omega)), hb]; rfl
  · rw [putO_put _ (hd 0 2 (by omega) (by omega) (by omega)), putO_put _ (hd 1 2 (by omega) (by omega) (by omega)), hb]; rfl
  · rw [putO_put _ (hd 0 3 (by omega) (by omega) (by omega)), putO_put _ (hd 1 3 (by omega) (by omega) (by omega)), putO_put _ (hd 2 3 (by omega) (by omega) (by omega)), hb]; rfl
  · rw [putO_put _ (hd 0 4 (by omega) (by omega) (by omega)), putO_put _ (hd 1 4 (by omega) (by omega) (by omega)), putO_put _ (hd 2 4 (by omega) (by omega) (by omega)), putO_put _ (hd 3 4 (by omega) (by omega) (by omega)), hb]; rfl
theorem putO_eval {d : Nat} {f : Nat → Value} {o : Option Nat} {a : Act} {t : Nat} (h : d ≠ t) : (putO d f o a).eval (.tmp t) = a.eval (.tmp t) := by
  cases o with
  | none => rfl
  | some x =>
    show (a.tmps.setIfInBounds d (f x)).getD t undef = a.tmps.getD t undef
    simp [Array.getElem?_setIfInBounds, h]
theorem actsB_eval {d : Nat → Nat} {f : Nat → Nat → Value} {a0 : Act} {b : Nat → Option Nat} {t : Nat} (h : ∀ k, k < 5 → d k ≠ t) : (actsB d f a0 b).eval (.tmp t) = a0.eval (.tmp t) := by
  unfold actsB
  rw [putO_eval (h 0 (by omega)), putO_eval (h 1 (by omega)), putO_eval (h 2 (by omega)), putO_eval (h 3 (by omega)), putO_eval (h 4 (by omega))]
structure MadeB (w0 : World) (obj : Nat → Obj) (b : Nat → Option Nat) (w : World) : Prop where
  bel : Below w0.heap.size w0 w
  at_ : ∀ k x, k < 5 → b k = some x → w0.heap.size ≤ x ∧ w.heap[x]? = some (obj k)
  dis : ∀ j k x, j < 5 → k < 5 → j ≠ k → b j = some x → b k ≠ some x
theorem MadeB.upd {w0 w : World} {obj : Nat → Obj} {b : Nat → Option Nat} (h : MadeB w0 obj b w) {k : Nat} (hk : k < 5) : MadeB w0 obj (updB b k w.heap.size) (w.alloc (obj k)) := by
  have hs := h.bel.size
  have hlt : ∀ j x, j < 5 → b j = some x → x < w.heap.size := fun j x hj hx => (Array.getElem?_eq_some_iff.1 (h.at_ j x hj hx).2).1
  refine ⟨h.bel.alloc hs _, fun j x hj hx => ?_, fun j i x hj hi hne hx hy => ?_⟩
  · unfold updB at hx
    split at hx
    · rename_i e
      injection hx with hx; subst hx; subst e
      exact ⟨hs, heap_alloc_new w _⟩
    · have h2 := h.at_ j x hj hx
      exact ⟨h2.1, (Below.heap_alloc _ _ _ (hlt j x hj hx)).trans h2.2⟩
  · unfold updB at hx hy
    split at hx
    · rename_i e
      injection hx with hx; subst hx
      rw [if_neg (by omega)] at hy
      have := hlt i _ hi hy
      omega
    · split at hy
      · injection hy with hy; subst hy
        have := hlt j _ hj hx
        omega
      · exact h.dis j i x hj hi hne hx hy
section
variable {P : Program} {ops : Array Oper} {Q : Exit → Act → World → Prop} {md : Region.Mode} {S : World → Prop} {z : Nat}
theorem makes5_at {a0 : Act} {w0 : World} {L0 : Array Bool} (fuel : Nat) (ix d : Nat → Nat) (f : Nat → Nat → Value) (obj : Nat → Obj) (L : (Nat → Option Nat) → Array Bool)
    (hL0 : L (fun _ => none) = L0) (hd : ∀ j k, j < 5 → k < 5 → j ≠ k → d j ≠ d k)
    (hr : ∀ b, (∃ k, k < 5 ∧ b k = none) → Region.ready md ops (L b) ≠ [] ∧ ∀ i ∈ Region.ready md ops (L b), ∃ k, k < 5 ∧ i = ix k ∧ b k = none)
    (hL : ∀ b k x, k < 5 → b k = none → (L b).setIfInBounds (ix k) true = L (updB b k x))
    (hS : ∀ w, Below w0.heap.size w0 w → S w)
    (hx : ∀ k b w (K : Act → World → Prop), k < 5 → K ((actsB d f a0 b).put (some (d k)) (f k w.heap.size)) (w.alloc (obj k)) → wpOp P ops Q (ix k) K (actsB d f a0 b) w)
    (hend : ∀ b w, (∀ k, k < 5 → b k ≠ none) → MadeB w0 obj b w → wpAnyZ P md ops Q S z fuel (L b) (actsB d f a0 b) w) :
    wpAnyZ P md ops Q S z (fuel + 5) L0 a0 w0 := by
  rw [← hL0]
  refine makes5 fuel ix L (actsB d f a0) (MadeB w0 obj) hr hL (fun b k w hk hb hJ => hx k b w _ hk ?_) hend 5 (fun _ => none) w0 rfl ⟨Below.refl _ _, fun k x _ h => (by cases h), fun j k x _ _ _ h => (by cases h)⟩
  have h2 := hJ.upd hk
  exact ⟨hS _ h2.bel, actsB_upd hd hk hb, h2⟩
end
def chk5 (ix : List Nat) (fl : List Bool) (r : List Nat) : Bool := !r.isEmpty && r.all fun i => (List.range 5).any fun k => i == ix.getD k 0 && !(fl.getD k true)
theorem chk5_spec {ix : List Nat} {b : Nat → Option Nat} {r : List Nat} (h : chk5 ix [(b 0).isSome, (b 1).isSome, (b 2).isSome, (b 3).isSome, (b 4).isSome] r = true) : r ≠ [] ∧ ∀ i ∈ r, ∃ k, k < 5 ∧ i = ix.getD k 0 ∧ b k = none := by
  unfold chk5 at h
  rw [Bool.and_eq_true] at h
  refine ⟨fun e => by rw [e] at h; simp at h, fun i hi => ?_⟩
  have h2 := List.all_eq_true.1 h.2 i hi
  obtain ⟨k, hk, h3⟩ := List.any_eq_true.1 h2
  rw [List.mem_range] at hk
  rw [Bool.and_eq_true, beq_iff_eq] at h3
  refine ⟨k, hk, h3.1, ?_⟩
  have h5 : k = 0 ∨ k = 1 ∨ k = 2 ∨ k = 3 ∨ k = 4 := by omega
  rcases h5 with rfl | rfl | rfl | rfl | rfl <;> simpa using h3.2
section
variable {P : Program} {o : Oper} {a : Act} {w w' : World} {K : Act → World → Prop} {Q : Exit → Act → World → Prop}
theorem wp_makeSlice {t : TypeId} {x y : Operand} {lv cv v : Value} (hop : o.op = Op.makeSlice t x y) (hx : a.eval x = lv) (hy : a.eval y = cv) (h : (Instr.makeSlice t lv cv).run P w = .ok v w') (hK : K (a.put o.dst v) w') : Oper.wp P o a w K Q := by
  unfold Oper.wp
  simp [execOp, hop, hx, hy, h, Result.andThen]
  exact hK
theorem wp_makeMap {t : TypeId} (hop : o.op = Op.makeMap t none) (hK : K (a.put o.dst (.map (some w.heap.size))) (w.alloc (.map #[] 0))) : Oper.wp P o a w K Q := by
  unfold Oper.wp
  simp [execOp, hop, run_makeMap, Result.andThen]
  exact hK
theorem wp_buildC {t : TypeId} {parts : Array (Nat × Operand)} {l : List (Nat × Value)} {cs : Array Value} (hop : o.op = .build t parts) (hl : (parts.map fun (i, x) => (i, a.eval x)).toList = l) (hb : P.built t l = some cs) (hK : K (a.put o.dst (.agg cs)) w) : Oper.wp P o a w K Q :=
  wp_build t parts hop (by rw [hl, hb]; rfl) (by rw [hl, hb]; exact hK)
theorem wp_boxC {t : TypeId} {x : Operand} {cs : Array Value} (hop : o.op = .box t x) (hx : (a.eval x).cells = cs) (hK : K (a.put o.dst (.pointer (some ⟨w.heap.size, 0, none⟩))) (w.alloc (.cells cs t))) : Oper.wp P o a w K Q := by
  subst hx
  unfold Oper.wp execOp
  simp only [hop, Sem.run_bind, Instr.box, newVar, newRow, run_newObj_alloc, Sem.run_pure, Result.andThen_ok]
  exact hK
end
end Go.Proofs.YtlmkokeapbleoaaGreat
end
section
namespace Go.Proofs.YtlmkokeapbleoaaGreat
open Go.RowKit Go.Shelf
abbrev avB (B : MkB) (f : Nat → Prop) : MkB := { B with av := f }
theorem Mk.swap {B : MkB} {V : MkV} {W W' : World} {f g : Nat → Prop} (h : Mk (avB B f) V W) (hs : W.heap.size ≤ W'.heap.size) (hk : ∀ k, k < W.heap.size → ¬ f k → W'.heap[k]? = W.heap[k]?)
    (hf : ∀ k, f k → ¬ Mut B V k) (hg : ∀ k, g k → k < W'.heap.size ∧ (f k ∨ W.heap.size ≤ k)) : Mk (avB B g) V W' := by
  have hd : ∀ k, Mut B V k → W'.heap[k]? = W.heap[k]? := fun k hm => hk k (h.mut_lt hm).2 (fun hf' => hf k hf' hm)
  have hI : Dep (fun k => ¬ Mut (avB B g) V k ∧ ¬ g k) W' (ImmW (avB B f) V) := h.imm.step (fun k hn hl => hk k hl hn.2) hs (fun k hn hl => ⟨hn.1, fun hgk => ((hg k hgk).2).elim hn.2 (fun h => by omega)⟩)
  exact ⟨(hd _ (.inl rfl)).trans h.box, h.cl, h.lo, h.dis, own_keep h.pl fun k hA => hd k (.inr (.inr (.inr (.inr (.inl hA))))), h.num.same (hd _ (.inr (.inl rfl))), h.pok,
    own_keep h.al fun k hA => hd k (.inr (.inr (.inr (.inr (.inr (.inl hA)))))), h.am.same (hd _ (.inr (.inr (.inl rfl)))), own_keep h.el fun k hA => hd k (.inr (.inr (.inr (.inr (.inr (.inr (.inl hA))))))),
    h.em.same (hd _ (.inr (.inr (.inr (.inl rfl))))), own_keep h.nl fun k hA => hd k (.inr (.inr (.inr (.inr (.inr (.inr (.inr hA))))))),
    fun U hU => let q := hI U hU; ⟨q.ls, q.rows, q.fins, q.acs, q.es, q.ns⟩, fun k hk => (hg k hk).1⟩
theorem end_av (W : World) (B : MkB) (f : Nat → Prop) (V : MkV) (S : LayS) (hM : Hid (Mk (avB B f) V W)) (hS : Hid (Lays B V S)) (hD : Hid (∀ W', Below B.n W W' → DescW B.d W')) (hO : Hid (MkOk B)) (q : Nat) (wd : List Int) (hq : (q : Int) < B.d.n) (hwd : Hid (ClsOk B.ls wd)) (n c0 c1 c2 c3 : Int) (hpc : Hid (placeC ((q : Int), wd) = [.int .i64 (q : Int), .int .i64 n, .int .i64 c0, .int .i64 c1, .int .i64 c2, .int .i64 c3]))
    (hel : V.es.length ≤ 1048576) (hfl : B.d.fs.length ≤ 1048576) (hout : Hid (∀ f ∈ B.d.fs, f.o.l.length ≤ 1048576)) :
    Calls Tryz.prog 75 #[.pointer (some ⟨B.mb, 0, none⟩), .agg #[.int .i64 (q : Int), .int .i64 n, .int .i64 c0, .int .i64 c1, .int .i64 c2, .int .i64 c3]] W (RetLay (avB B f) V (putE B S ((q : Int), wd)) (endI B S ((q : Int), wd)) W) :=
  end_mk W (avB B f) V S hM (Lib.hid ⟨hS.out.ps, hS.out.acts, hS.out.ends, hS.out.aok, hS.out.eok⟩) hD (Lib.hid ⟨hO.out.ok, hO.out.rn, hO.out.fn, hO.out.rows, hO.out.fins, hO.out.parts⟩) q wd hq hwd n c0 c1 c2 c3 hpc hel hfl hout
theorem next_av (W : World) (B : MkB) (f : Nat → Prop) (V : MkV) (S : LayS) (hM : Hid (Mk (avB B f) V W)) (hS : Hid (Lays B V S)) (hD : Hid (∀ W', Below B.n W W' → DescW B.d W')) (hO : Hid (MkOk B)) (q : Nat) (wd : List Int) (c : Int) (hq : (q : Int) < B.d.n) (hw4 : wd.length ≤ 4) (hwd : Hid (wd.length < 4 → ClsOk B.ls (wd ++ [c]) ∧ PlaceOk ((q : Int), wd ++ [c]))) (n c0 c1 c2 c3 : Int) (hpc : Hid (placeC ((q : Int), wd) = [.int .i64 (q : Int), .int .i64 n, .int .i64 c0, .int .i64 c1, .int .i64 c2, .int .i64 c3]))
    (hpl : V.ps.length ≤ 1000000) (hal : V.acs.length ≤ 1048576) (hfl : B.d.fs.length ≤ 1048576) (hrl : B.d.rs.length ≤ 1048576) (hout : Hid (∀ r ∈ B.d.rs, r.o.l.length ≤ 1048576)) :
    Calls Tryz.prog 76 #[.pointer (some ⟨B.mb, 0, none⟩), .agg #[.int .i64 (q : Int), .int .i64 n, .int .i64 c0, .int .i64 c1, .int .i64 c2, .int .i64 c3], .int .i64 c] W (RetLay (avB B f) V (nextS B S q wd c).1 (nextS B S q wd c).2 W) :=
  next_mk W (avB B f) V S hM (Lib.hid ⟨hS.out.ps, hS.out.acts, hS.out.ends, hS.out.aok, hS.out.eok⟩) hD (Lib.hid ⟨hO.out.ok, hO.out.rn, hO.out.fn, hO.out.rows, hO.out.fins, hO.out.parts⟩) q wd c hq hw4 hwd n c0 c1 c2 c3 hpc hpl hal hfl hrl hout
theorem Lays.av {B : MkB} {f : Nat → Prop} {V : MkV} {S : LayS} (h : Lays (avB B f) V S) : Lays B V S := ⟨h.ps, h.acts, h.ends, h.aok, h.eok⟩
def tabI (B : MkB) (V : MkV) : TabI := ⟨B.cls, V.na, V.nc, V.ns, V.aa, V.ac, V.acs.map (·.2), V.ea, V.ec, V.es.map (·.2)⟩
def tabV (B : MkB) (V : MkV) : Array Value := (B.cls.map (Value.int .u8) ++ mkTail V).toArray
theorem tabV_size {B : MkB} {V : MkV} (hc : B.cls.length = 256) : (tabV B V).size = 259 := by simp [tabV, mkTail, hc]
theorem tabV_at {B : MkB} {V : MkV} (hc : B.cls.length = 256) {i : Nat} : (tabV B V)[256 + i]? = (mkTail V)[i]? := by
  simp only [tabV, List.getElem?_toArray]
  rw [List.getElem?_append_right (by simp [hc]), List.length_map, hc, Nat.add_sub_cancel_left]
theorem tabV_C {B : MkB} {V : MkV} (hc : B.cls.length = 256) (hu : U8s B.cls) : TabC (tabV B V) (tabI B V) := by
  refine ⟨tabV_size hc, hc, hu, fun i x hx => ?_, tabV_at (i := 0) hc, ?_, ?_⟩
  · simp only [tabV, List.getElem?_toArray]
    have hx' : B.cls[i]? = some x := hx
    have hi := (List.getElem?_eq_some_iff.1 hx').1
    rw [List.getElem?_append_left (by simpa using hi), List.getElem?_map, hx']
    rfl
  · show _ = some (Value.slice V.aa (V.acs.map (·.2)).length V.ac)
    rw [List.length_map]; exact tabV_at (i := 1) hc
  · show _ = some (Value.slice V.ea (V.es.map (·.2)).length V.ec)
    rw [List.length_map]; exact tabV_at (i := 2) hc
theorem tabI_W {B : MkB} {V : MkV} {W : World} (h : Mk B V W) (hn : V.ns.length ≤ 1048576) (ha : V.acs.length ≤ 1048576) (he : V.es.length ≤ 1048576) : TabW (tabI B V) W := by
  refine ⟨⟨Sl.of_own h.nl, fun x hx => (h.imm.now.ns x hx).1, by show V.ns.length ≤ _; omega⟩, ⟨?_, fun x hx => ?_, by show (V.acs.map (·.2)).length ≤ _; rw [List.length_map]; omega⟩, ⟨?_, fun x hx => ?_, by show (V.es.map (·.2)).length ≤ _; rw [List.length_map]; omega⟩⟩
  · show Sl W 3 V.aa (V.acs.map (·.2)).length ((V.acs.map (·.2)).flatMap actC)
    rw [List.length_map, List.flatMap_map]; exact Sl.of_own h.al
  · obtain ⟨y, hy, rfl⟩ := List.mem_map.1 hx
    exact (h.imm.now.acs y hy).1
  · show Sl W 1 V.ea (V.es.map (·.2)).length ((V.es.map (·.2)).flatMap fun o => [OutI.v o])
    rw [List.length_map, List.flatMap_map]; exact Sl.of_own h.el
  · obtain ⟨y, hy, rfl⟩ := List.mem_map.1 hx
    exact h.imm.now.es y hy
structure TabF (T : TabI) (W : World) : Prop where
  nodes : Unf T.na (T.ns.length * 3) W
  nx : ∀ x ∈ T.ns, Unf x.na (x.nx.length * 1) W
  acts : Unf T.aa (T.acts.length * 3) W
  outs : ∀ x ∈ T.acts, OutF x.o W
theorem tabI_dep {B : MkB} {V : MkV} {W : World} (h : Mk (avB B fun k => k < B.n) V W) (hn : V.ns.length ≤ 1048576) (ha : V.acs.length ≤ 1048576) (he : V.es.length ≤ 1048576) : Dep (fun k => B.n ≤ k) W (fun W => TabW (tabI B V) W ∧ TabF (tabI B V) W) := fun U hU => by
  have hI := h.imm U fun k hk hl => hU k (by have h2 : ¬ k < B.n := hk.2; omega) hl
  have hnl := own_keep h.nl (w' := U) fun k hk => hU k (own_ty h.nl hk).1 (own_ty h.nl hk).2.1
  have hal := own_keep h.al (w' := U) fun k hk => hU k (own_ty h.al hk).1 (own_ty h.al hk).2.1
  have hel := own_keep h.el (w' := U) fun k hk => hU k (own_ty h.el hk).1 (own_ty h.el hk).2.1
  refine ⟨⟨⟨Sl.of_own hnl, fun x hx => (hI.ns x hx).1, by show V.ns.length ≤ _; omega⟩, ⟨?_, fun x hx => ?_, by show (V.acs.map (·.2)).length ≤ _; rw [List.length_map]; omega⟩, ⟨?_, fun x hx => ?_, by show (V.es.map (·.2)).length ≤ _; rw [List.length_map]; omega⟩⟩, own_unf hnl, fun x hx => (hI.ns x hx).2, ?_, fun x hx => ?_⟩
  · show Sl U 3 V.aa (V.acs.map (·.2)).length ((V.acs.map (·.2)).flatMap actC)
    rw [List.length_map, List.flatMap_map]; exact Sl.of_own hal
  · obtain ⟨y, hy, rfl⟩ := List.mem_map.1 hx
    exact (hI.acs y hy).1
  · show Sl U 1 V.ea (V.es.map (·.2)).length ((V.es.map (·.2)).flatMap fun o => [OutI.v o])
    rw [List.length_map, List.flatMap_map]; exact Sl.of_own hel
  · obtain ⟨y, hy, rfl⟩ := List.mem_map.1 hx
    exact hI.es y hy
  · show Unf V.aa ((V.acs.map (·.2)).length * 3) U
    rw [List.length_map]; exact own_unf hal
  · obtain ⟨y, hy, rfl⟩ := List.mem_map.1 hx
    exact (hI.acs y hy).2
theorem tabI_L {B : MkB} {V : MkV} {S : LayS} (h : Lays B V S) : (tabI B V).L = tabL B.d.L B.cls (S, V.ns.map NodeI.L) := by
  have h1 : (V.acs.map (·.2)).map ActI.L = S.acts.map fun i => match B.d.L.rules[i]? with | some r => (⟨r.eat, (S.ps.idxOf (r.dst, []) : Nat), r.out⟩ : ActL) | none => ⟨0, 0, []⟩ := by
    rw [← h.acts, List.map_map, List.map_map]
    apply List.map_congr_left
    intro x hx
    obtain ⟨r, hr, _, hL⟩ := h.aok x hx
    have hg : B.d.L.rules[x.1]? = some r.L := by show (B.d.rs.map RuleI.L)[x.1]? = _; rw [List.getElem?_map, hr]; rfl
    simp only [Function.comp, hg]
    rw [hL, h.ps]; rfl
  have h2 : (V.es.map (·.2)).map OutI.L = S.ends.map fun i => match B.d.L.fins[i]? with | some f => f.out | none => [] := by
    rw [← h.ends, List.map_map, List.map_map]
    apply List.map_congr_left
    intro x hx
    obtain ⟨r, hr, hL⟩ := h.eok x hx
    have hg : B.d.L.fins[x.1]? = some r.L := by show (B.d.fs.map FinI.L)[x.1]? = _; rw [List.getElem?_map, hr]; rfl
    simp only [Function.comp, hg]
    rw [hL]; rfl
  show (⟨B.cls, V.ns.map NodeI.L, (V.acs.map (·.2)).map ActI.L, (V.es.map (·.2)).map OutI.L⟩ : TabL) = _
  rw [h1, h2]; rfl
theorem tabV_load {B : MkB} {V : MkV} {W : World} (h : Mk B V W) : (Instr.loadAt 49 (.pointer (some ⟨B.mb, 13, none⟩))).run Tryz.prog W = .ok (.agg (tabV B V)) W := by
  have hl := run_loadAt_mid (P := Tryz.prog) W B.mb 13 49 (tabV B V).toList _ (fun j v hv => by
    refine h.cell ?_
    simp only [tabV] at hv
    unfold mkCells
    rw [List.getElem?_append_right (by simp [mkHead])]
    simpa [mkHead] using hv) Tryz.underlying49 rfl (by rw [show (tabV B V).toList.length = 259 from by rw [Array.length_toList]; exact tabV_size h.cl]; exact info_tabS)
  simpa using hl
theorem idxOf_le' {α : Type} [BEq α] [LawfulBEq α] (l : List α) (x : α) : l.idxOf x ≤ l.length := List.idxOf_le_length
theorem nextS_rng (B : MkB) (S : LayS) (q : Int) (wd : List Int) (c : Int) : -3 - (S.acts.length : Int) ≤ (nextS B S q wd c).2 ∧ (nextS B S q wd c).2 ≤ S.ps.length + 1 := by
  unfold nextS
  split
  · exact ⟨by show _ ≤ (-1 : Int); omega, by show (-1 : Int) ≤ _; omega⟩
  · split
    · rename_i j hj
      have h1 := (putA_le B S j).2.1
      have h2 := idxOf_le' (putA B S j).acts j
      constructor
      · show _ ≤ -2 - (((putA B S j).acts.idxOf j : Nat) : Int)
        omega
      · show -2 - (((putA B S j).acts.idxOf j : Nat) : Int) ≤ _
        omega
    · split
      · have h1 := putL_le S.ps (q, wd ++ [c])
        have h2 := idxOf_le' (putL S.ps (q, wd ++ [c])) (q, wd ++ [c])
        constructor
        · show _ ≤ (((putL S.ps (q, wd ++ [c])).idxOf (q, wd ++ [c]) : Nat) : Int)
          omega
        · show (((putL S.ps (q, wd ++ [c])).idxOf (q, wd ++ [c]) : Nat) : Int) ≤ _
          omega
      · exact ⟨by show _ ≤ (-1 : Int); omega, by show (-1 : Int) ≤ _; omega⟩
theorem endI_rng (B : MkB) (S : LayS) (p : Place) : -1 ≤ endI B S p ∧ endI B S p ≤ S.ends.length + 1 := by
  unfold endI
  split
  · exact ⟨by omega, by omega⟩
  · rename_i j hj
    have h1 := putL_le S.ends j
    have h2 := idxOf_le' (putL S.ends j) j
    constructor <;> omega
theorem tyIM : (3 : TypeId) ≠ 143 := by decide
theorem tyIP : (3 : TypeId) ≠ 150 := by decide
theorem tyIA : (3 : TypeId) ≠ 59 := by decide
theorem tyIT : (3 : TypeId) ≠ 57 := by decide
theorem tyIN : (3 : TypeId) ≠ 64 := by decide
theorem Mk.ints {B : MkB} {V : MkV} {W : World} (h : Mk B V W) {m n c k : Nat} {A : Option Addr} {xs : List Value} (ho : W.ownsRow m 3 1 (.slice A n c) n xs) (hk : ownA A = some k) : ¬ Mut B V k := by
  rintro (e | e | e | e | e | e | e | e)
  · subst e; exact own_ne_cells ho h.box tyIM hk
  · subst e; exact own_ne_map ho h.num hk
  · subst e; exact own_ne_map ho h.am hk
  · subst e; exact own_ne_map ho h.em hk
  · exact own_apart ho h.pl tyIP k hk e
  · exact own_apart ho h.al tyIA k hk e
  · exact own_apart ho h.el tyIT k hk e
  · exact own_apart ho h.nl tyIN k hk e
theorem RwI.of_block {V : World} {b n base : Nat} (h : V.heap[b]? = some (.cells (madeCells #[.slice none 0 0] n) 62 (0, 0))) : RwI b base (List.replicate n (none, 0, [])) V := by
  refine ⟨?_, fun i x hx => ?_, fun i j x y _ hx _ k hk => ?_, fun x hx => ?_⟩
  · rw [h]
    congr 2
    apply Array.ext'
    rw [toList_madeCells_one]
    simp [icells, ival]
  · obtain ⟨_, rfl⟩ := List.mem_replicate.1 (List.mem_of_getElem? hx)
    exact World.ownsRow_nil _ _ _ _
  · obtain ⟨_, rfl⟩ := List.mem_replicate.1 (List.mem_of_getElem? hx)
    cases hk
  · obtain ⟨_, rfl⟩ := List.mem_replicate.1 hx
    intro v hv; cases hv
theorem MapIs.of_block {P : Program} {kt : TypeId} {b : Nat} {w : World} (h : w.heap[b]? = some (.map #[] 0)) : MapIs P kt b [] w :=
  ⟨#[], 0, h, ⟨by simp, MapKept.stamped_empty 0, by simp⟩, List.nodup_nil, by simp⟩
theorem mkS_of {d : DescI} {w6 : World} {n N x0 x1 x2 x3 x4 : Nat} {cs : Array Value} (hn : n ≤ w6.heap.size)
    (g0 : n ≤ x0 ∧ w6.heap[x0]? = some (.cells (madeCells #[.slice none 0 0] N) 62 (0, 0))) (g1 : n ≤ x1 ∧ w6.heap[x1]? = some (.cells (madeCells #[.slice none 0 0] N) 62 (0, 0)))
    (g2 : n ≤ x2 ∧ w6.heap[x2]? = some (.map #[] 0)) (g3 : n ≤ x3 ∧ w6.heap[x3]? = some (.map #[] 0)) (g4 : n ≤ x4 ∧ w6.heap[x4]? = some (.map #[] 0)) (hd : x2 ≠ x3 ∧ x2 ≠ x4 ∧ x3 ≠ x4 ∧ x0 ≠ x1)
    (hc : cs = (mkCells (mkB0 d n w6.heap.size x2 x3 x4 x0 x1 N) mkV0).toArray) : MkS d n w6.heap.size x2 x3 x4 x0 x1 N (w6.alloc (.cells cs 143)) := by
  have hk : ∀ {k : Nat} {o : Obj}, w6.heap[k]? = some o → (w6.alloc (.cells cs 143)).heap[k]? = some o := fun h => (Below.heap_alloc _ _ _ (Array.getElem?_eq_some_iff.1 h).1).trans h
  refine ⟨by rw [← hc]; exact heap_alloc_new w6 _, .of_block (hk g0.2), .of_block (hk g1.2), .of_block (hk g2.2), .of_block (hk g3.2), .of_block (hk g4.2), ⟨hn, g2.1, g3.1, g4.1, g0.1, g1.1⟩, hd⟩
section
variable {P : Program} {ops : Array Oper} {Q : Exit → Act → World → Prop} {md : Region.Mode} {S : World → Prop} {z : Nat}
theorem wpAnyZ_ready2 {i j : Nat} {fuel : Nat} {listed : Array Bool} {a : Act} {w : World} {o o2 : Oper} (hr : Region.ready md ops listed = [i, j]) (ho : ops[i]? = some o) (ho2 : ops[j]? = some o2)
    (h : ∀ K' : Act → World → Prop, Shut (∀ a w, S w → (S w → wpAnyZ P md ops Q S z fuel (listed.setIfInBounds i true) a w) → K' a w) → if Region.wanted o (yielded ops a.tmps) = true then Oper.wp P o a w K' Q else K' (a.put o.dst undef) w)
    (h2 : ∀ K' : Act → World → Prop, Shut (∀ a w, S w → (S w → wpAnyZ P md ops Q S z fuel (listed.setIfInBounds j true) a w) → K' a w) → if Region.wanted o2 (yielded ops a.tmps) = true then Oper.wp P o2 a w K' Q else K' (a.put o2.dst undef) w) :
    wpAnyZ P md ops Q S z (fuel + 1) listed a w :=
  ⟨fun h0 => absurd (hr.symm.trans h0) (by simp), by
    rw [hr]
    intro k hk
    rcases List.mem_cons.1 hk with rfl | hk
    · exact wpOp_step ho (fun K' hK => h K' (fun a w hS hW => hK a w ⟨.inr hS, hW hS⟩))
    · rcases List.mem_singleton.1 hk with rfl
      exact wpOp_step ho2 (fun K' hK => h2 K' (fun a w hS hW => hK a w ⟨.inr hS, hW hS⟩))⟩
end
theorem wpList_load_of {P : Program} {w : World} {ops : Array Oper} {rest : List Oper} {o : Oper} {a : Act} {Q : Exit → Act → World → Prop} (hgd : o.guard = none) (ty : TypeId) (x : Operand) (ho : o.op = .load ty x) (y : Value) (hy : a.eval x = y) (v : Value) (hv : (Instr.loadAt ty y).run P w = .ok v w)
    (h : wpList P ops Q rest (a.put o.dst v) w) : wpList P ops Q (o :: rest) a w := by
  subst hy
  refine Great.wpList_runTo hgd o.dst rfl _ _ ?_ h
  unfold execOp
  simp only [ho, Sem.run_bind, hv, Result.andThen_ok, Sem.run_pure]
theorem place6 {W : World} {b : Nat} {x0 x1 x2 x3 x4 x5 : Value} {t : TypeId} {fr : Nat × Nat} (h : W.heap[b]? = some (.cells #[x0, x1, x2, x3, x4, x5] t fr)) :
    W.cell? ⟨b, 0, none⟩ = some x0 ∧ W.cell? ⟨b, 1, none⟩ = some x1 ∧ W.cell? ⟨b, 2, none⟩ = some x2 ∧ W.cell? ⟨b, 3, none⟩ = some x3 ∧ W.cell? ⟨b, 4, none⟩ = some x4 ∧ W.cell? ⟨b, 5, none⟩ = some x5 := by
  refine ⟨?_, ?_, ?_, ?_, ?_, ?_⟩ <;> simp [World.cell?, h]
theorem node3 {W : World} {b : Nat} {x0 x1 x2 : Value} {t : TypeId} (h : W.heap[b]? = some (.cells #[x0, x1, x2] t (0, 0))) :
    W.cell? ⟨b, 0, none⟩ = some x0 ∧ W.cell? ⟨b, 1, none⟩ = some x1 ∧ W.cell? ⟨b, 2, none⟩ = some x2 ∧ W.frozen? ⟨b, 1, none⟩ = false := by
  refine ⟨?_, ?_, ?_, ?_⟩ <;> simp [World.cell?, World.frozen?, h]
def RetCompN (w0 w : World) (d : DescI) (F : World → Prop) (e : Ending) (w' : World) : Prop :=
  ∃ cs T v, e = .returned (.tuple #[.agg cs, .int .i64 v]) ∧ Hid (TabC cs T) ∧ Hid (St w0 w' (fun W => TabW T W ∧ F W)) ∧ Hid (CompSaid d T.L v) ∧ Hid (Dep (fun k => w.heap.size ≤ k) w' (fun W => TabW T W ∧ TabF T W)) ∧ Hid (Below w.heap.size w w')
theorem RetCompN.comp {w0 w : World} {d : DescI} {F : World → Prop} {e : Ending} {w' : World} (h : RetCompN w0 w d F e w') : RetComp w0 d F e w' := by
  obtain ⟨cs, T, v, h1, h2, h3, h4, _⟩ := h
  exact ⟨cs, T, v, h1, h2, h3, h4⟩
end Go.Proofs.YtlmkokeapbleoaaGreat
end
