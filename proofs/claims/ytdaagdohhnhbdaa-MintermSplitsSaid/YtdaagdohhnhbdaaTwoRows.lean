/- Two rows that grow side by side: one of lists, one of texts. Condition: none. -/
import Derived.Test.YtdaagdohhnhbdaaSign
import Derived.Test.YtdaagdohhnhbdaaRefRefine
namespace Go.Proofs.Ytdaagdohhnhbdaa
open Go.RowKit
set_option linter.unusedVariables false
set_option linter.unusedSimpArgs false

theorem Lst.nil_ (A : Option Addr) (W : World) : Lst A [] W := ⟨Sl.nil_ _ _ _, fun p hp => (by cases hp), by simp⟩
theorem infoStr : (Try.prog.info? 9).map (fun i => (i.zero, i.size, i.bytes)) = some (some (.string ⟨#[]⟩), 1, 16) := by kernel_rfl
section
variable {w0 : World} {ops : Array Oper} {rest : List Oper} {o : Oper} {a : Act} {Q : Exit → Act → World → Prop} {base : Nat} {A : Option Addr} {c n : Nat} {xs : List Value}
theorem wpList_pushS (hgd : o.guard = none) (s x : Operand) (ho : o.op = .call { callee := .builtin .append, args := #[s, x], argTypes := #[93, 93] })
    (hown : w0.ownsRow base 9 1 (.slice A n c) n xs) (hs : a.eval s = .slice A n c) (u : Value) (hu : u.oneCell' = true) (hx : a.eval x = .slice (some ⟨w0.heap.size, 0, none⟩) 1 1) (hn : n < 1099511627776) (hbase : base ≤ w0.heap.size)
    (h : ∀ A' c' w', Hid (w'.ownsRow base 9 1 (.slice A' (n + 1) c') (n + 1) (xs ++ [u])) → Hid ((w0.alloc (.cells #[u] 9)).grownBy w' (Value.ownBlock (.slice A n c))) →
      Hid (Value.ownBlock (.slice A' (n + 1) c') = Value.ownBlock (.slice A n c) ∨ Value.ownBlock (.slice A' (n + 1) c') = some (w0.heap.size + 1)) → wpList Try.prog ops Q rest (a.put o.dst (.slice A' (n + 1) c')) w') :
    wpList Try.prog ops Q (o :: rest) a (w0.alloc (.cells #[u] 9)) := by
  obtain ⟨i0, hi, hz0, hz1, hz2⟩ := info_parts infoStr
  have hs0 : (w0.alloc (.cells #[u] 9)).heap.size = w0.heap.size + 1 := by simp
  refine wpList_append_own_at _ hgd s x 93 ho base 9 i0 _ 1 16 Try.underlying93 hi hz0 hz1 hz2 rfl (by decide) _ n xs hs (hown.alloc _) ⟨w0.heap.size, 0, none⟩ 1 1 [u] hx rfl ?_ (by intro v hv; simp at hv; subst hv; exact hu)
    (by unfold maxLen; omega) (by omega) (by rw [hs0]; omega) ?_
  · exact World.news_of_block (cs := #[u]) (t := 9) (fr := (0, 0)) (heap_alloc_new w0 _)
  · intro v' w' hown' hg _ hat
    obtain ⟨A', c', rfl⟩ := own_shape hown'
    rw [hs0] at hat
    exact h A' c' w' hown' hg hat
end

/-- a row of lists and a row of texts -/
structure Two (W : World) (base : Nat) (Ao : Option Addr) (co : Nat) (O : List (Item Sp)) (As : Option Addr) (cs : Nat) (G : List (List Bool)) : Prop where
  row : W.ownsRow base 24 1 (.slice Ao O.length co) O.length (icells O)
  sg : W.ownsRow base 9 1 (.slice As G.length cs) G.length (G.map strV)
  ap : ∀ g, Value.ownBlock (.slice Ao O.length co) = some g → Value.ownBlock (.slice As G.length cs) ≠ some g
  it : ∀ i ∈ O, Lst i.1 i.2.2 W ∧ (i.2.2 = [] ∨ ∃ b off, i.1 = some ⟨b, off, none⟩ ∧ some b ≠ Value.ownBlock (.slice Ao O.length co) ∧ some b ≠ Value.ownBlock (.slice As G.length cs))
variable {W W' : World} {base co cs c' : Nat} {Ao As A' : Option Addr} {O : List (Item Sp)} {G : List (List Bool)} {ob : Obj}
theorem Two.start (W : World) (base : Nat) : Two W base none 0 [] none 0 [] := ⟨World.ownsRow_nil _ _ _ _, World.ownsRow_nil _ _ _ _, fun g h => (by cases h), fun i hi => (by cases hi)⟩
theorem Two.below (h : Two W base Ao co O As cs G) (hb : Below W.heap.size W W') : Two W' base Ao co O As cs G :=
  ⟨own_below h.row hb, own_below h.sg hb, h.ap, fun i hi => ⟨(h.it i hi).1.below hb, (h.it i hi).2⟩⟩
theorem Lst.lt_own {A : Option Addr} {l : List Sp} (h : Lst A l W) (h0 : l ≠ []) {b off : Nat} (hA : A = some ⟨b, off, none⟩) : b < W.heap.size := by
  obtain ⟨b2, off2, _, e2, _, hc, _⟩ := h.sp.at_ (j := 0) (List.length_pos_iff.2 h0)
  rw [hA] at e2
  injection e2 with e2
  injection e2 with e3 e4 e5
  subst e3
  exact lt_of_cell hc
theorem Two.pushS (h : Two W base Ao co O As cs G) (g : List Bool) (ho : W'.ownsRow base 9 1 (.slice A' (G.length + 1) c') (G.length + 1) (G.map strV ++ [strV g])) (hg : (W.alloc ob).grownBy W' (Value.ownBlock (.slice As G.length cs)))
    (hat : Value.ownBlock (.slice A' (G.length + 1) c') = Value.ownBlock (.slice As G.length cs) ∨ Value.ownBlock (.slice A' (G.length + 1) c') = some (W.heap.size + 1)) : Two W' base Ao co O A' c' (G ++ [g]) := by
  have hl : (G ++ [g]).length = G.length + 1 := by simp
  refine ⟨(h.row.alloc ob).kept hg ?_, by rw [hl, List.map_append]; exact ho, fun k hk => ?_, fun i hi => ?_⟩
  · rcases hb : Value.ownBlock (.slice Ao O.length co) with _ | k
    · exact .inl rfl
    · exact .inr (Ne.symm (h.ap k hb))
  · rw [hl]
    rcases hat with e | e
    · rw [e]; exact h.ap k hk
    · rw [e]
      have := (h.row.lt k hk).2
      intro e2; injection e2 with e2; omega
  · obtain ⟨h1, h2⟩ := h.it i hi
    rw [hl]
    rcases h2 with h2 | ⟨b, off, h3, h4, h5⟩
    · rw [h2] at h1 ⊢
      exact ⟨Lst.nil_ _ _, .inl rfl⟩
    · by_cases h0 : i.2.2 = []
      · rw [h0]; exact ⟨Lst.nil_ _ _, .inl rfl⟩
      · refine ⟨(h1.below ((Below.refl _ _).alloc (Nat.le_refl _) ob)).grown hg h3 h5, .inr ⟨b, off, h3, h4, ?_⟩⟩
        have := h1.lt_own h0 h3
        rcases hat with e | e
        · rw [e]; exact h5
        · rw [e]; intro e2; injection e2 with e2; omega
theorem Two.pushN (h : Two W base Ao co O As cs G) (ho : W'.ownsRow base 24 1 (.slice A' (O.length + 1) c') (O.length + 1) (icells O ++ [.slice none 0 0])) (hg : (W.alloc ob).grownBy W' (Value.ownBlock (.slice Ao O.length co)))
    (hat : Value.ownBlock (.slice A' (O.length + 1) c') = Value.ownBlock (.slice Ao O.length co) ∨ Value.ownBlock (.slice A' (O.length + 1) c') = some (W.heap.size + 1)) : Two W' base A' c' (O ++ [(none, 0, [])]) As cs G := by
  have hl : (O ++ [((none, 0, []) : Item Sp)]).length = O.length + 1 := by simp
  refine ⟨by rw [hl, icells_append]; exact ho, (h.sg.alloc ob).kept hg ?_, fun k hk => ?_, fun i hi => ?_⟩
  · rcases hb : Value.ownBlock (.slice Ao O.length co) with _ | k
    · rcases hb2 : Value.ownBlock (.slice As G.length cs) with _ | k2
      · exact .inl rfl
      · exact .inr (by simp)
    · exact .inr (h.ap k hb)
  · rw [hl] at hk
    rcases hat with e | e
    · rw [e] at hk; exact h.ap k hk
    · rw [e] at hk
      injection hk with hk
      intro e2
      have := (h.sg.lt k e2).2
      omega
  · rw [hl]
    rcases List.mem_append.1 hi with hi | hi
    · obtain ⟨h1, h2⟩ := h.it i hi
      rcases h2 with h2 | ⟨b, off, h3, h4, h5⟩
      · rw [h2]; exact ⟨Lst.nil_ _ _, .inl rfl⟩
      · by_cases h0 : i.2.2 = []
        · rw [h0]; exact ⟨Lst.nil_ _ _, .inl rfl⟩
        · refine ⟨(h1.below ((Below.refl _ _).alloc (Nat.le_refl _) ob)).grown hg h3 h4, .inr ⟨b, off, h3, ?_, h5⟩⟩
          have := h1.lt_own h0 h3
          rcases hat with e | e
          · rw [e]; exact h4
          · rw [e]; intro e2; injection e2 with e2; omega
    · simp at hi; subst hi; exact ⟨Lst.nil_ _ _, .inl rfl⟩
theorem Two.store {g : Nat} (h : Two W base (some ⟨g, 0, none⟩) co O As cs G) {k : Nat} (hk : k < O.length) (it : Item Sp) (h1 : Lst it.1 it.2.2 W) {b off : Nat} (h3 : it.1 = some ⟨b, off, none⟩) (h4 : b ≠ g) (h5 : some b ≠ Value.ownBlock (.slice As G.length cs)) :
    Two (W.setCell ⟨g, k, none⟩ (ival it)) base (some ⟨g, 0, none⟩) co (O.set k it) As cs G := by
  obtain ⟨s1, s2⟩ := h.row.stored k (ival it)
  have hl : (O.set k it).length = O.length := by simp
  have hob : Value.ownBlock (.slice (some ⟨g, 0, none⟩) O.length co) = some g := rfl
  have hgs : Value.ownBlock (.slice As G.length cs) ≠ some g := h.ap g rfl
  refine ⟨?_, h.sg.kept s2 (.inr hgs), fun j hj => ?_, fun j hj => ?_⟩
  · rw [hl]
    have e : icells (O.set k it) = (icells O).set k (ival it) := by unfold icells; rw [List.map_set]
    rw [e]; exact s1
  · rw [hl, hob] at hj
    injection hj with hj
    subst hj; exact hgs
  · rw [hl]
    rcases List.mem_or_eq_of_mem_set hj with hj | rfl
    · obtain ⟨a1, a2⟩ := h.it j hj
      rcases a2 with a2 | ⟨b', off', a3, a4, a5⟩
      · rw [a2]; exact ⟨Lst.nil_ _ _, .inl rfl⟩
      · exact ⟨a1.grown s2 a3 (by rw [← hob]; exact a4), .inr ⟨b', off', a3, a4, a5⟩⟩
    · exact ⟨h1.grown s2 h3 (fun e => h4 (by injection e)), .inr ⟨b, off, h3, fun e => h4 (by rw [hob] at e; injection e), h5⟩⟩
theorem Two.ll (h : Two W base Ao co O As cs G) : LL Ao O W := ⟨Sl.of_own h.row, fun i hi => (h.it i hi).1⟩
/-- an empty list comes behind the row of lists; its cell -/
theorem Two.pushN' (h : Two W base Ao co O As cs G) (ho : W'.ownsRow base 24 1 (.slice A' (O.length + 1) c') (O.length + 1) (icells O ++ [.slice none 0 0])) (hg : (W.alloc ob).grownBy W' (Value.ownBlock (.slice Ao O.length co)))
    (hat : Value.ownBlock (.slice A' (O.length + 1) c') = Value.ownBlock (.slice Ao O.length co) ∨ Value.ownBlock (.slice A' (O.length + 1) c') = some (W.heap.size + 1)) :
    ∃ g, A' = some ⟨g, 0, none⟩ ∧ base ≤ g ∧ W'.cell? ⟨g, O.length, none⟩ = some (.slice none 0 0) ∧ Two W' base (some ⟨g, 0, none⟩) c' (O ++ [(none, 0, [])]) As cs G := by
  obtain ⟨g, cap, hA, h1, _⟩ := ho.form (by omega)
  obtain ⟨rfl, rfl⟩ : A' = some ⟨g, 0, none⟩ ∧ c' = cap := by injection hA with h1 h2 h3; exact ⟨h1, h3⟩
  refine ⟨g, rfl, h1, ?_, h.pushN ho hg hat⟩
  rw [ho.cellAt O.length (by omega), List.getElem?_append_right (by simp [icells])]
  simp [icells]
end Go.Proofs.Ytdaagdohhnhbdaa
