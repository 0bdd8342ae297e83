/- A region that draws its order, in the round of a range over a function: what is shown of it outside of a round holds there too. A row of spans that a loop's body appends to. Condition: no defer in the region. -/
import Derived.Test.YtdaagdohhnhbdaaEach
import Derived.Deep.RegionHeld3
import Derived.Deep.RegionHeld
import Derived.Maps.OwnIn
namespace Go.Proofs.Ytdaagdohhnhbdaa
open Go.RowKit Go.Shelf
set_option linter.unusedVariables false
attribute [local go_sem] Oper.semAt_some

def noDefer (o : Oper) : Bool := match o.op with | .defer _ => false | _ => true
theorem noDefer.spec {o : Oper} (h : noDefer o = true) : ∀ c, o.op ≠ .defer c := by
  intro c e
  unfold noDefer at h
  rw [e] at h
  cases h
theorem rows_in {P : Program} {row : String} {args : Array Value} {w : World} {R : Value → World → Prop} (l n : Nat) (h : Rows P row args w R) : RowsIn (Fence.wide.inRound l) n P row args w R :=
  fun c cs _ => let ⟨v, w', r, s⟩ := h c cs; ⟨v, w', r, stepsIn_wide.2 s⟩
theorem oper_round {P : Program} {o : Oper} {a : Act} {w : World} {K : Act → World → Prop} {Q : Exit → Act → World → Prop} (l n : Nat) (hnd : ∀ c, o.op ≠ .defer c) (h : o.wp P a w K Q) :
    o.wpIn (Fence.wide.inRound l) n P a w K Q := by
  refine ⟨fun f _ => trivial, ?_⟩
  rw [show (Fence.wide.inRound l).round = some l from rfl, Oper.semAt_some l _ _ hnd]
  unfold Oper.wp at h
  generalize (execOp a.eval o).run P w = r at *
  cases r with
  | ok x w' =>
    cases x <;> simp only [Oper.upon, Oper.uponIn] at h ⊢
    all_goals first
      | exact h
      | exact CallsIn.inRound l (callsIn_wide.2 h)
      | exact rows_in l _ h
      | (refine ⟨?_, CallsIn.inRound l (callsIn_wide.2 h)⟩; simp [Fence.wide])
      | (refine ⟨?_, rows_in l _ h⟩; simp [Fence.wide])
  | halt x w' => cases x <;> simp only [Oper.upon, Oper.uponIn] at h ⊢ <;> exact h
theorem ops_round {P : Program} {ops : Array Oper} {Q : Exit → Act → World → Prop} (l n : Nat) (hnd : ops.all noDefer = true) (hQ : ∀ a w, ¬ Q .outgrown a w) (L : List Nat) :
    ∀ (a : Act) (w : World), wpOps P ops Q L a w → wpOpsIn (Fence.wide.inRound l) n P ops Q L a w := by
  induction L with
  | nil => exact fun a w h => h
  | cons i L ih =>
    intro a w h
    simp only [wpOps] at h
    simp only [wpOpsIn]
    cases ho : ops[i]? with
    | none => rw [ho] at h; exact ih _ _ h
    | some o =>
      rw [ho] at h
      simp only at h ⊢
      have hd : noDefer o = true := by
        obtain ⟨hi, he⟩ := Array.getElem?_eq_some_iff.1 ho
        exact he ▸ (Array.all_eq_true.1 hnd) i hi
      split at h
      · rename_i hw
        rw [if_pos hw]
        rcases h with h | ⟨_, a', w', h⟩
        · exact Oper.wpIn_mono (fun a w => ih a w) (oper_round l n (noDefer.spec hd) h)
        · exact absurd h (hQ a' w')
      · rename_i hw
        rw [if_neg hw]
        exact ⟨fun f _ => trivial, ih _ _ h⟩
theorem region_round {P : Program} {id : Nat} {ops : Array Oper} {Q : Exit → Act → World → Prop} {a : Act} {w : World} {l n : Nat} (hnd : ops.all noDefer = true) (hQ : ∀ a w, ¬ Q .outgrown a w) (hm : P.follows .mixedOrders = true)
    (h : wpAny P .any ops Q ops.size (Array.replicate ops.size false) a { w with drawn := w.drawn + 1 }) : (Code.region id ops true).wpIn (Fence.wide.inRound l) n P Q a w :=
  wpIn_region_draw fun t => by
    simp only [Region.schedule, hm, Bool.true_or, if_true]
    exact ops_round l n hnd hQ _ _ _ (wpAny_sound ops.size t _ a _ h)
theorem region_round_held {P : Program} {id : Nat} {ops : Array Oper} {Q : Exit → Act → World → Prop} {a : Act} {w : World} {l n : Nat} (hnd : ops.all noDefer = true) (hQ : ∀ a w, ¬ Q .outgrown a w) (hm : P.follows .mixedOrders = true)
    (S : World → Prop) (hS : S w.drew) (h : S w.drew → wpAnyH P .any ops Q S ops.size (Array.replicate ops.size false) a w.drew) : (Code.region id ops true).wpIn (Fence.wide.inRound l) n P Q a w :=
  region_round hnd hQ hm (wpAny_of_held _ _ _ _ (h hS))
theorem region_round_quiet {P : Program} {id : Nat} {Q : Exit → Act → World → Prop} {a : Act} {w : World} {l n : Nat} {L : List Oper} (hnd : L.toArray.all noDefer = true) (hQ : ∀ a w, ¬ Q .outgrown a w) (hm : P.follows .mixedOrders = true)
    (hB : Region.lexB .any L.toArray = true)
    (h : wpQuiet P L.toArray (fun w' => ∃ n, w' = w.drewN n) (fun a' => ∀ w', (∃ n, w' = w.drewN n) → Q .normal a' w') L a) : (Code.region id L.toArray true).wpIn (Fence.wide.inRound l) n P Q a w := by
  simp only [Region.lexB, Bool.and_eq_true] at hB
  refine region_round hnd hQ hm (wpAny_of_quiet (C := fun w' => ∃ n, w' = w.drewN n) (Q := fun a' => ∀ w', (∃ n, w' = w.drewN n) → Q .normal a' w') (fun _ w' hw' h => h w' hw') _ _ _ _ ⟨1, rfl⟩ ?_)
  have := wpAnyQ_lex (C := fun w' => ∃ n, w' = w.drewN n) (md := .any) hB.1 L 0 (Array.replicate L.toArray.size false) a (by simp) (by simpa using hB.2) (by simpa using h)
  simpa using this

/-- a range over a function, outside of any fence -/
theorem wp_rangeFunc {P : Program} {α : Type} {g : Operand} {ps : Array Tmp} {assign body : Code} {Q : Exit → Act → World → Prop} {a : Act} {w : World}
    {gf : Nat} {lb : Array Value} (hg : a.eval g = .func (.func gf) #[] lb) (eg : ∀ args w, (callFunc gf args).run P w = .ok (.enter gf args) w)
    {encs : α → Array Value} {Kp : World → World → Prop} {S Sp : List α → Prop} {N : Nat} (hseq : SeqStopsK Fence.wide 7 P gf lb encs Kp S Sp N w)
    (hKt : ∀ {A B C : World}, Kp A B → Kp B C → Kp A C) (hKb : ∀ (W : World) (l : Nat) (o o' : Obj), w.heap.size ≤ l → W.heap[l]? = some o → o.isCells = false → o.isWalk = false → Kp W (W.putObj l o')) (hps : ∀ x, (encs x).size = ps.size)
    (I : List α → World → Prop) (Ix : Code → List α → World → Prop) (hI : OwnFrom w.heap.size I) (hIx : ∀ c, OwnFrom w.heap.size (Ix c)) (h0 : I [] w) (a₁ : α → Act)
    (hassign : ∀ (l : Nat) (x : α) (W : World) (K : Act → World → Prop), K (a₁ x) W →
      assign.wpIn (Fence.wide.inRound l) 6 P (Exit.then K (fun _ _ _ => False)) { tmps := (ps.zip (encs x)).foldl (fun t (p, v) => t.setIfInBounds p v) a.tmps, defers := [] } W)
    (hbody : ∀ (l : Nat) (pre : List α) (x : α) (W : World), I pre W → pre.length < N → body.wpIn (Fence.wide.inRound l) 6 P (ownPostK Kp I Ix (pre ++ [x]) W) (a₁ x) W)
    (hdone : ∀ (D : Nat) (xs : List α) (W : World), w.heap.size ≤ D → S xs → I xs W → W.heap[D]? = some (.deferred (some [])) → Q .normal { a with defers := { target := .collected D, args := #[] } :: a.defers } W)
    (hstop : ∀ (D : Nat) (c : Code) (pre : List α) (W : World), w.heap.size ≤ D → Sp pre → Ix c pre W → W.heap[D]? = some (.deferred (some [])) → c.wp P Q { a with defers := { target := .collected D, args := #[] } :: a.defers } W) :
    (Code.rangeFunc g ps assign body).wp P Q a w :=
  (wpIn_wide (n := 8)).1 (wpIn_rangeFunc_ownF (F := Fence.wide) rfl (by omega) hg trivial eg hseq hKt hKb (Below.refl _ _) hps I Ix hI hIx h0 a₁ hassign hbody hdone
    (fun D c pre W h1 h2 h3 h4 => (wpIn_wide (n := 8)).2 (hstop D c pre W h1 h2 h3 h4)))

theorem cellNew (w : World) (v : Value) (t : TypeId) : (w.alloc (.cells #[v] t)).cell? ⟨w.heap.size, 0, none⟩ = some v ∧ (w.alloc (.cells #[v] t)).frozen? ⟨w.heap.size, 0, none⟩ = false := by
  have hb := heap_alloc_new w (.cells #[v] t)
  constructor
  · simp only [World.cell?, hb]; rfl
  · unfold World.frozen?; rw [hb]; simp
theorem cellAlloc {w : World} (o : Obj) {p : Addr} {v : Value} (h : w.cell? p = some v) : (w.alloc o).cell? p = some v := (World.cell?_alloc_lt w o p (World.block_lt_of_cell? w p h)).trans h
theorem frozenAlloc {w : World} (o : Obj) {p : Addr} {v : Value} (h : w.cell? p = some v) (hf : w.frozen? p = false) : (w.alloc o).frozen? p = false :=
  (((Below.refl w.heap.size w).alloc (Nat.le_refl _) o).frozen (World.block_lt_of_cell? w p h)).trans hf

theorem keepsDrewN (W : World) (q : Nat) : KeepsOthers W (W.drewN q) := ⟨Nat.le_refl _, fun k o h _ => h⟩
theorem KpB.store {lo hi Bu : Nat} {W : World} (q b : Nat) (v : Value) (h1 : lo ≤ b) (h2 : b < hi) (hne : b ≠ Bu) : KpB lo hi Bu W ((W.drewN q).setCell ⟨b, 0, none⟩ v) :=
  (show KpB lo hi Bu W (W.drewN q) from KpB.same (Nat.le_refl _) (fun _ _ h _ => h) rfl).trans (KpB.setCell (W := W.drewN q) b v h1 h2 hne)

/-- what a body does to the row that its box holds -/
theorem KpB.pushed {lo hi Bu : Nat} {W w0 W3 : World} {A A' : Option Addr} {n c n' c' base : Nat} {xs ys : List Value} (h1 : lo ≤ Bu) (h2 : Bu < hi) (hv : W.cell? ⟨Bu, 0, none⟩ = some (.slice A n c))
    (hb : Below W.heap.size W w0) (ho0 : w0.ownsRow base 34 2 (.slice A n c) n ys) (hg : w0.grownBy W3 (Value.ownBlock (.slice A n c)))
    (hat : Value.ownBlock (.slice A' n' c') = Value.ownBlock (.slice A n c) ∨ Value.ownBlock (.slice A' n' c') = some w0.heap.size)
    (ho : W3.ownsRow base 34 2 (.slice A' n' c') n' xs) (hbase : hi ≤ base) :
    KpB lo hi Bu W (W3.setCell ⟨Bu, 0, none⟩ (.slice A' n' c')) ∧ (W3.setCell ⟨Bu, 0, none⟩ (.slice A' n' c')).cell? ⟨Bu, 0, none⟩ = some (.slice A' n' c') ∧ (W3.setCell ⟨Bu, 0, none⟩ (.slice A' n' c')).ownsRow base 34 2 (.slice A' n' c') n' xs := by
  have hBu := lt_of_cell hv
  have hs1 := hb.size
  have hs2 := hg.size
  have hne : some Bu ≠ Value.ownBlock (.slice A n c) := fun e => by have := ho0.lt Bu e.symm; omega
  have hcB : W3.cell? ⟨Bu, 0, none⟩ = some (.slice A n c) := (World.cell?_of_block (hg.block Bu (by omega) hne)).trans ((hb.cell (p := ⟨Bu, 0, none⟩) hBu).trans hv)
  have hc4 : (W3.setCell ⟨Bu, 0, none⟩ (.slice A' n' c')).cell? ⟨Bu, 0, none⟩ = some (.slice A' n' c') := World.cell?_setCell_same' _ _ _ (by rw [hcB]; rfl)
  have hsz : (W3.setCell ⟨Bu, 0, none⟩ (.slice A' n' c')).heap.size = W3.heap.size := by simp
  have key : ∀ k, OwnB lo hi Bu (W3.setCell ⟨Bu, 0, none⟩ (.slice A' n' c')) k → OwnB lo hi Bu W k ∨ (k = w0.heap.size ∧ k < W3.heap.size) := by
    rintro k (h | ⟨off, m, d, h⟩)
    · exact .inl (.inl h)
    · rw [hc4] at h
      injection h with h
      injection h with e1 e2 e3
      subst e1
      have hlt := (ho.lt k rfl).2
      rcases hat with h | h
      · left; right
        rcases ho0.2 with ⟨e, _⟩ | ⟨g, cap, cur, e, _⟩
        · injection e with e1; subst e1; simp [Value.ownBlock] at h
        · injection e with e1 e4 e5
          subst e1
          simp [Value.ownBlock] at h
          subst h
          exact ⟨0, n, c, hv⟩
      · right
        simp [Value.ownBlock] at h
        exact ⟨h, hlt⟩
  refine ⟨⟨by rw [hsz]; omega, fun p u hu hno => ?_, fun k hk => ?_, fun hw k hk => ?_⟩, hc4, ?_⟩
  · have hp := World.block_lt_of_cell? W p hu
    have hpB : Bu ≠ p.block := fun e => hno (.inl (by omega))
    have hpo : some p.block ≠ Value.ownBlock (.slice A n c) := by
      intro e
      refine hno (.inr ?_)
      rcases ho0.2 with ⟨e', _⟩ | ⟨g, cap, cur, e', _⟩
      · injection e' with e1; subst e1; simp [Value.ownBlock] at e
      · injection e' with e1 e4 e5
        subst e1
        simp [Value.ownBlock] at e
        rw [e]
        exact ⟨0, n, c, hv⟩
    rw [World.cell?_setCell_far _ _ _ _ hpB]
    exact hg.cell ((hb.cell hp).trans hu) hpo
  · rcases key k hk with h | h
    · exact .inl h
    · right; omega
  · rw [hsz]
    rcases key k hk with h | h
    · have := hw k h; omega
    · exact h.2
  · exact ownsRow_setCell_below ho (a := ⟨Bu, 0, none⟩) (by show Bu < base; omega) _
end Go.Proofs.Ytdaagdohhnhbdaa
