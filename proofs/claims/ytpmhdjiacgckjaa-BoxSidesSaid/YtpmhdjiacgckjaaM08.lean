/- Plain facts on tables as bytes: what is packed is read as it was; what is read is packed as it was; no beginning of it is one; one byte changed is told by the check. No program in sight. Condition: none. Words for slices of records and for tables in memory; what is right of a table, in plain words. No function of the program in sight. Condition: none. -/
import Derived.Test.YtpmhdjiacgckjaaM02
import Derived.Test.YtpmhdjiacgckjaaM04
section
namespace Go.Proofs.Ytpmhdjiacgckjaa
set_option linter.unusedVariables false
set_option linter.unusedSimpArgs false

abbrev PartL := Int × Int × Int × Int
/-- a term: its five numbers, its parts -/
structure TermL where
  base : Int
  drop : Int
  take : Int
  up : Int
  sum : Int
  parts : List PartL
structure NodeL where
  held : Int
  next : List Int
  fin : Int
structure ActL where
  eat : Int
  dest : Int
  out : List TermL
structure TabL where
  cls : List Int
  nodes : List NodeL
  acts : List ActL
  ends : List (List TermL)

def numB (x : Int) : List Int := [x / 16777216 % 256, x / 65536 % 256, x / 256 % 256, x % 256]
def unB (a b c d : Int) : Int := if a * 16777216 + b * 65536 + c * 256 + d < 2147483648 then a * 16777216 + b * 65536 + c * 256 + d else a * 16777216 + b * 65536 + c * 256 + d - 4294967296
def I32 (x : Int) : Prop := -2147483648 ≤ x ∧ x ≤ 2147483647
def U8s (l : List Int) : Prop := ∀ x ∈ l, 0 ≤ x ∧ x < 256
theorem unB_num {x : Int} (h : I32 x) : unB (x / 16777216 % 256) (x / 65536 % 256) (x / 256 % 256) (x % 256) = x := by
  obtain ⟨h1, h2⟩ := h
  unfold unB
  split <;> omega
theorem num_unB {a b c d : Int} (ha : 0 ≤ a ∧ a < 256) (hb : 0 ≤ b ∧ b < 256) (hc : 0 ≤ c ∧ c < 256) (hd : 0 ≤ d ∧ d < 256) : numB (unB a b c d) = [a, b, c, d] ∧ I32 (unB a b c d) := by
  unfold unB numB I32
  split
  · refine ⟨?_, by omega, by omega⟩
    have h1 : (a * 16777216 + b * 65536 + c * 256 + d) / 16777216 % 256 = a := by omega
    have h2 : (a * 16777216 + b * 65536 + c * 256 + d) / 65536 % 256 = b := by omega
    have h3 : (a * 16777216 + b * 65536 + c * 256 + d) / 256 % 256 = c := by omega
    have h4 : (a * 16777216 + b * 65536 + c * 256 + d) % 256 = d := by omega
    rw [h1, h2, h3, h4]
  · refine ⟨?_, by omega, by omega⟩
    have h1 : (a * 16777216 + b * 65536 + c * 256 + d - 4294967296) / 16777216 % 256 = a := by omega
    have h2 : (a * 16777216 + b * 65536 + c * 256 + d - 4294967296) / 65536 % 256 = b := by omega
    have h3 : (a * 16777216 + b * 65536 + c * 256 + d - 4294967296) / 256 % 256 = c := by omega
    have h4 : (a * 16777216 + b * 65536 + c * 256 + d - 4294967296) % 256 = d := by omega
    rw [h1, h2, h3, h4]
theorem numB_len (x : Int) : (numB x).length = 4 := rfl
theorem numB_u8 (x : Int) : U8s (numB x) := by
  intro y hy
  simp [numB] at hy
  omega

/-- the check -/
def fnvStep (s : Nat) (x : Int) : Nat := ((s ^^^ x.toNat) * 16777619) % 4294967296
def fnvL (l : List Int) : Nat := l.foldl fnvStep 2166136261
theorem fnvStep_lt (s : Nat) (x : Int) : fnvStep s x < 4294967296 := Nat.mod_lt _ (by decide)
theorem fnv_lt_from (l : List Int) (s : Nat) (h : s < 4294967296) : l.foldl fnvStep s < 4294967296 := by
  induction l generalizing s with
  | nil => exact h
  | cons x l ih => exact ih _ (fnvStep_lt s x)
theorem fnvL_lt (l : List Int) : fnvL l < 4294967296 := fnv_lt_from l _ (by decide)
theorem fnvL_snoc (l : List Int) (x : Int) : fnvL (l ++ [x]) = fnvStep (fnvL l) x := by unfold fnvL; rw [List.foldl_append, List.foldl_cons, List.foldl_nil]
theorem mul_inj {a b : Nat} (ha : a < 4294967296) (hb : b < 4294967296) (h : a * 16777619 % 4294967296 = b * 16777619 % 4294967296) : a = b := by
  have e : ∀ x : Nat, x < 4294967296 → x * 16777619 % 4294967296 * 899433627 % 4294967296 = x := fun x hx => by
    have h1 : x * 16777619 % 4294967296 * 899433627 % 4294967296 = x * 16777619 * 899433627 % 4294967296 := by rw [Nat.mul_mod, Nat.mod_mod, ← Nat.mul_mod]
    have h2 : x * 16777619 * 899433627 = x + x * 3513497 * 4294967296 := by omega
    rw [h1, h2, Nat.add_mul_mod_self_right, Nat.mod_eq_of_lt hx]
  rw [← e a ha, ← e b hb, h]
theorem xor_lt {s : Nat} {x : Int} (hs : s < 4294967296) (hx : 0 ≤ x ∧ x < 256) : s ^^^ x.toNat < 4294967296 := Nat.xor_lt_two_pow (n := 32) hs (by omega)
theorem fnvStep_inj {s t : Nat} {x : Int} (hs : s < 4294967296) (ht : t < 4294967296) (hx : 0 ≤ x ∧ x < 256) (h : fnvStep s x = fnvStep t x) : s = t := by
  have := mul_inj (xor_lt hs hx) (xor_lt ht hx) h
  have h2 := congrArg (fun z => z ^^^ x.toNat) this
  simpa [Nat.xor_assoc] using h2
theorem fnvStep_inj2 {s : Nat} {x y : Int} (hs : s < 4294967296) (hx : 0 ≤ x ∧ x < 256) (hy : 0 ≤ y ∧ y < 256) (h : fnvStep s x = fnvStep s y) : x = y := by
  have := mul_inj (xor_lt hs hx) (xor_lt hs hy) h
  have h2 := congrArg (fun z => s ^^^ z) this
  simp [← Nat.xor_assoc] at h2
  omega
theorem fnv_from_inj {l : List Int} (hl : U8s l) {s t : Nat} (hs : s < 4294967296) (ht : t < 4294967296) (h : l.foldl fnvStep s = l.foldl fnvStep t) : s = t := by
  induction l generalizing s t with
  | nil => exact h
  | cons x l ih => exact fnvStep_inj hs ht (hl x (by simp)) (ih (fun y hy => hl y (by simp [hy])) (fnvStep_lt _ _) (fnvStep_lt _ _) h)
theorem fnv_set {l : List Int} (hl : U8s l) {k : Nat} {y : Int} (hk : k < l.length) (hy : 0 ≤ y ∧ y < 256) (hne : l[k] ≠ y) : fnvL (l.set k y) ≠ fnvL l := by
  have go : ∀ (l : List Int) (k : Nat) (s : Nat), U8s l → (hk : k < l.length) → l[k] ≠ y → s < 4294967296 → (l.set k y).foldl fnvStep s ≠ l.foldl fnvStep s := by
    intro l
    induction l with
    | nil => intro k s _ hk; simp at hk
    | cons x l ih =>
      intro k s hl hk hne hs
      cases k with
      | zero =>
        intro h
        have h1 := fnv_from_inj (fun z hz => hl z (by simp [hz])) (fnvStep_lt _ _) (fnvStep_lt _ _) h
        exact hne (fnvStep_inj2 hs (hl x (by simp)) hy h1.symm)
      | succ k => exact ih k (fnvStep s x) (fun z hz => hl z (by simp [hz])) (by simpa using hk) (by simpa using hne) (fnvStep_lt _ _)
  exact go l k _ hl hk hne (by decide)

def partB (p : PartL) : List Int := numB p.1 ++ (numB p.2.1 ++ (numB p.2.2.1 ++ numB p.2.2.2))
def termB (t : TermL) : List Int := numB t.base ++ (numB t.drop ++ (numB t.take ++ (numB t.up ++ (numB t.sum ++ (numB t.parts.length ++ t.parts.flatMap partB)))))
def termsB (l : List TermL) : List Int := numB l.length ++ l.flatMap termB
def nodeB (n : NodeL) : List Int := numB n.held ++ (numB n.fin ++ n.next.flatMap numB)
def actB (a : ActL) : List Int := numB a.eat ++ (numB a.dest ++ termsB a.out)
def widthL (T : TabL) : Nat := match T.nodes with | [] => 0 | n :: _ => n.next.length
def markB : List Int := [117, 109, 108, 116, 49]
def headB (T : TabL) : List Int := numB (widthL T) ++ (numB T.nodes.length ++ (numB T.acts.length ++ (numB T.ends.length ++ T.cls)))
def innerB (T : TabL) : List Int := headB T ++ (T.nodes.flatMap nodeB ++ (T.acts.flatMap actB ++ T.ends.flatMap termsB))
def bodyB (T : TabL) : List Int := markB ++ innerB T
def packB (T : TabL) : List Int := bodyB T ++ numB (fnvL (bodyB T))

def PartFits (p : PartL) : Prop := I32 p.1 ∧ I32 p.2.1 ∧ I32 p.2.2.1 ∧ I32 p.2.2.2
def TermFits (t : TermL) : Prop := I32 t.base ∧ I32 t.drop ∧ I32 t.take ∧ I32 t.up ∧ I32 t.sum ∧ I32 t.parts.length ∧ ∀ p ∈ t.parts, PartFits p
def TermsFit (l : List TermL) : Prop := l.length ≤ 64 ∧ ∀ t ∈ l, TermFits t
def NodeFits (k : Nat) (n : NodeL) : Prop := I32 n.held ∧ I32 n.fin ∧ n.next.length = k ∧ ∀ x ∈ n.next, I32 x
def ActFits (a : ActL) : Prop := I32 a.eat ∧ I32 a.dest ∧ TermsFit a.out
/-- a table all of whose numbers have 32 bits, and whose sizes may be read -/
structure TabFits (T : TabL) : Prop where
  cl : T.cls.length = 256
  cu : U8s T.cls
  k1 : 1 ≤ widthL T
  k2 : widthL T ≤ 256
  n1 : 1 ≤ T.nodes.length
  n2 : T.nodes.length ≤ 4096
  a2 : T.acts.length ≤ 4096
  e2 : T.ends.length ≤ 4096
  nf : ∀ n ∈ T.nodes, NodeFits (widthL T) n
  af : ∀ a ∈ T.acts, ActFits a
  ef : ∀ l ∈ T.ends, TermsFit l

/-- a reader: what is left, and whether there was a fault -/
abbrev RdL := List Int × Bool
def rNum (s : RdL) : Int × RdL := match s.1 with
  | a :: b :: c :: d :: l => (unB a b c d, (l, s.2))
  | l => (0, (l, true))
def rCount (size most : Nat) (s : RdL) : Int × RdL := if (rNum s).1 < 0 ∨ (most : Int) < (rNum s).1 ∨ (((rNum s).2.1.length / size : Nat) : Int) < (rNum s).1 then (0, ((rNum s).2.1, true)) else rNum s
def rList {α : Type} (f : RdL → α × RdL) : Nat → RdL → List α × RdL
  | 0, s => ([], s)
  | n + 1, s => ((f s).1 :: (rList f n (f s).2).1, (rList f n (f s).2).2)
def rPart (s : RdL) : PartL × RdL := (((rNum s).1, (rNum (rNum s).2).1, (rNum (rNum (rNum s).2).2).1, (rNum (rNum (rNum (rNum s).2).2).2).1), (rNum (rNum (rNum (rNum s).2).2).2).2)
def r5 (s : RdL) : RdL := (rNum (rNum (rNum (rNum (rNum s).2).2).2).2).2
def rTerm (s : RdL) : TermL × RdL :=
  (⟨(rNum s).1, (rNum (rNum s).2).1, (rNum (rNum (rNum s).2).2).1, (rNum (rNum (rNum (rNum s).2).2).2).1, (rNum (rNum (rNum (rNum (rNum s).2).2).2).2).1,
    (rList rPart (rCount 16 (r5 s).1.length (r5 s)).1.toNat (rCount 16 (r5 s).1.length (r5 s)).2).1⟩,
   (rList rPart (rCount 16 (r5 s).1.length (r5 s)).1.toNat (rCount 16 (r5 s).1.length (r5 s)).2).2)
def rTerms (s : RdL) : List TermL × RdL := rList rTerm (rCount 24 64 s).1.toNat (rCount 24 64 s).2
def rNode (k : Nat) (s : RdL) : NodeL × RdL := (⟨(rNum s).1, (rList rNum k (rNum (rNum s).2).2).1, (rNum (rNum s).2).1⟩, (rList rNum k (rNum (rNum s).2).2).2)
def rAct (s : RdL) : ActL × RdL := (⟨(rNum s).1, (rNum (rNum s).2).1, (rTerms (rNum (rNum s).2).2).1⟩, (rTerms (rNum (rNum s).2).2).2)
/-- as long as there is no fault -/
def rLoop {α : Type} (f : RdL → α × RdL) : Nat → RdL → List α × RdL
  | 0, s => ([], s)
  | n + 1, s => if s.2 = true then ([], s) else ((f s).1 :: (rLoop f n (f s).2).1, (rLoop f n (f s).2).2)

section
variable {s : RdL} {l : List Int} {b : Bool}
theorem rNum_app {x : Int} (h : I32 x) : rNum (numB x ++ l, b) = (x, (l, b)) := by
  simp only [numB, rNum, List.cons_append, List.nil_append, unB_num h]
theorem rNum_bad (h : s.2 = true) : (rNum s).2.2 = true := by
  obtain ⟨l, b⟩ := s
  simp only at h
  subst h
  unfold rNum
  split <;> rfl
theorem rNum_u8 (h : U8s s.1) : U8s (rNum s).2.1 := by
  obtain ⟨l, b⟩ := s
  unfold rNum
  split
  · rename_i e
    simp only at e
    subst e
    exact fun x hx => h x (by simp only at hx; simp [hx])
  · exact h
theorem rNum_inv (h : U8s s.1) (hb : (rNum s).2.2 = false) : s = (numB (rNum s).1 ++ (rNum s).2.1, false) ∧ I32 (rNum s).1 := by
  obtain ⟨l, b⟩ := s
  rcases l with _ | ⟨a, _ | ⟨c, _ | ⟨d, _ | ⟨e, l⟩⟩⟩⟩
  · simp [rNum] at hb
  · simp [rNum] at hb
  · simp [rNum] at hb
  · simp [rNum] at hb
  · simp only [rNum] at hb ⊢
    subst hb
    obtain ⟨h1, h2⟩ := num_unB (h a (by simp)) (h c (by simp)) (h d (by simp)) (h e (by simp))
    rw [h1]
    exact ⟨rfl, h2⟩
theorem rCount_app {size most n : Nat} (hn : n ≤ most) (hm : (n : Int) ≤ 2147483647) (hl : n ≤ l.length / size) : rCount size most (numB n ++ l, b) = ((n : Int), (l, b)) := by
  unfold rCount
  have h := rNum_app (l := l) (b := b) (x := (n : Int)) ⟨by omega, hm⟩
  rw [h, if_neg (by simp only; omega)]
theorem rCount_bad {size most : Nat} (h : s.2 = true) : (rCount size most s).2.2 = true := by
  unfold rCount
  split
  · rfl
  · exact rNum_bad h
theorem rCount_u8 {size most : Nat} (h : U8s s.1) : U8s (rCount size most s).2.1 := by
  unfold rCount
  split
  · exact rNum_u8 h
  · exact rNum_u8 h
theorem rCount_inv {size most : Nat} (h : U8s s.1) (hb : (rCount size most s).2.2 = false) :
    s = (numB (rCount size most s).1 ++ (rCount size most s).2.1, false) ∧ 0 ≤ (rCount size most s).1 ∧ (rCount size most s).1 ≤ most ∧ I32 (rCount size most s).1 := by
  unfold rCount at hb ⊢
  split at hb
  · cases hb
  · rename_i hc
    rw [if_neg hc]
    obtain ⟨h1, h2⟩ := rNum_inv h hb
    exact ⟨h1, by omega, by omega, h2⟩
end
/-- what a way of reading must be: behind a fault there is one; bytes stay bytes -/
structure Goes {α : Type} (f : RdL → α × RdL) : Prop where
  bad : ∀ s, s.2 = true → (f s).2.2 = true
  u8 : ∀ s, U8s s.1 → U8s (f s).2.1
theorem Goes.ok {α : Type} {f : RdL → α × RdL} (h : Goes f) {s : RdL} (hb : (f s).2.2 = false) : s.2 = false := by
  cases hs : s.2
  · rfl
  · rw [h.bad s hs] at hb; cases hb
/-- there and back: what is written is read; what is read without a fault is as it is written -/
structure Both {α : Type} (f : RdL → α × RdL) (w : α → List Int) (P : α → Prop) : Prop where
  goes : Goes f
  to_ : ∀ x l b, P x → f (w x ++ l, b) = (x, (l, b))
  back : ∀ s, U8s s.1 → (f s).2.2 = false → s = (w (f s).1 ++ (f s).2.1, false) ∧ P (f s).1
theorem both_num : Both rNum numB I32 := ⟨⟨fun _ => rNum_bad, fun _ => rNum_u8⟩, fun _ _ _ h => rNum_app h, fun _ => rNum_inv⟩
section
variable {α : Type} {f : RdL → α × RdL} {w : α → List Int} {P : α → Prop}
theorem Goes.list (h : Goes f) (n : Nat) : Goes (rList f n) := by
  induction n with
  | zero => exact ⟨fun s hs => hs, fun s hs => hs⟩
  | succ n ih => exact ⟨fun s hs => ih.bad _ (h.bad s hs), fun s hs => ih.u8 _ (h.u8 s hs)⟩
theorem Both.list (h : Both f w P) (n : Nat) : Both (rList f n) (fun L => L.flatMap w) (fun L => L.length = n ∧ ∀ x ∈ L, P x) := by
  refine ⟨h.goes.list n, ?_, ?_⟩
  · induction n with
    | zero =>
      rintro L l b ⟨h1, _⟩
      obtain rfl := List.eq_nil_of_length_eq_zero h1
      rfl
    | succ n ih =>
      rintro L l b ⟨h1, h2⟩
      cases L with
      | nil => simp at h1
      | cons x L =>
        have e : (x :: L).flatMap w ++ l = w x ++ (L.flatMap w ++ l) := by simp
        rw [e]
        simp only [rList, h.to_ x _ b (h2 x (by simp)), ih L l b ⟨by simpa using h1, fun y hy => h2 y (by simp [hy])⟩]
  · induction n with
    | zero =>
      intro s _ hb
      obtain ⟨l, b⟩ := s
      have hb' : b = false := hb
      subst hb'
      exact ⟨rfl, rfl, fun x hx => by cases hx⟩
    | succ n ih =>
      intro s hu hb
      obtain ⟨e2, e3, e4⟩ := ih (f s).2 (h.goes.u8 s hu) hb
      have hb1 : (f s).2.2 = false := (h.goes.list n).ok hb
      obtain ⟨e0, e1⟩ := h.back s hu hb1
      refine ⟨?_, ?_, ?_⟩
      · have : (f s).2.1 = (rList f n (f s).2).1.flatMap w ++ (rList f n (f s).2).2.1 := by
          have := congrArg Prod.fst e2; simpa using this
        show s = (((f s).1 :: (rList f n (f s).2).1).flatMap w ++ (rList f n (f s).2).2.1, false)
        rw [List.flatMap_cons, List.append_assoc, ← this]; exact e0
      · simpa [rList] using e3
      · intro x hx
        rcases List.mem_cons.1 hx with rfl | hx
        · exact e1
        · exact e4 x hx
theorem Goes.loop (h : Goes f) (n : Nat) : Goes (rLoop f n) := by
  induction n with
  | zero => exact ⟨fun s hs => hs, fun s hs => hs⟩
  | succ n ih =>
    refine ⟨fun s hs => ?_, fun s hs => ?_⟩
    · simp only [rLoop, if_pos hs]; exact hs
    · simp only [rLoop]
      split
      · exact hs
      · exact ih.u8 _ (h.u8 s hs)
theorem Goes.loop_eq (h : Goes f) (n : Nat) (s : RdL) (hb : (rLoop f n s).2.2 = false) : rLoop f n s = rList f n s := by
  induction n generalizing s with
  | zero => rfl
  | succ n ih =>
    have h0 : s.2 = false := (h.loop (n + 1)).ok hb
    simp only [rLoop, h0] at hb ⊢
    simp only [Bool.false_eq_true, if_false] at hb ⊢
    rw [ih _ hb]
    rfl
theorem Both.loop (h : Both f w P) (n : Nat) (l : List Int) (L : List α) (hL : L.length = n ∧ ∀ x ∈ L, P x) : rLoop f n (L.flatMap w ++ l, false) = (L, (l, false)) := by
  have h1 := (h.list n).to_ L l false hL
  have h2 : ∀ (n : Nat) (s : RdL), (rList f n s).2.2 = false → rLoop f n s = rList f n s := by
    intro n
    induction n with
    | zero => intro s _; rfl
    | succ n ih =>
      intro s hs
      have h0 : s.2 = false := (h.goes.list (n + 1)).ok hs
      simp only [rLoop, h0, Bool.false_eq_true, if_false]
      rw [ih _ hs]
      rfl
  rw [h2 n _ (by rw [h1]), h1]
end
theorem flatMap_le {α : Type} (w : α → List Int) (k : Nat) (L : List α) (h : ∀ x ∈ L, k ≤ (w x).length) : L.length * k ≤ (L.flatMap w).length := by
  induction L with
  | nil => simp
  | cons x L ih =>
    have h1 := h x (by simp)
    have h2 := ih fun y hy => h y (by simp [hy])
    rw [List.flatMap_cons, List.length_append, List.length_cons, Nat.add_mul]
    omega
theorem both_part : Both rPart partB PartFits := by
  refine ⟨⟨fun s hs => ?_, fun s hs => ?_⟩, ?_, ?_⟩
  · exact rNum_bad (rNum_bad (rNum_bad (rNum_bad hs)))
  · exact rNum_u8 (rNum_u8 (rNum_u8 (rNum_u8 hs)))
  · rintro ⟨a, d, t, u⟩ l b ⟨h1, h2, h3, h4⟩
    simp only at h1 h2 h3 h4
    simp only [partB, List.append_assoc, rPart, rNum_app h1, rNum_app h2, rNum_app h3, rNum_app h4]
  · intro s hu hb
    have hu1 := rNum_u8 hu
    have hu2 := rNum_u8 hu1
    have hu3 := rNum_u8 hu2
    have hb4 : (rNum (rNum (rNum (rNum s).2).2).2).2.2 = false := hb
    obtain ⟨e4, f4⟩ := rNum_inv hu3 hb4
    obtain ⟨e3, f3⟩ := rNum_inv hu2 (congrArg Prod.snd e4)
    obtain ⟨e2, f2⟩ := rNum_inv hu1 (congrArg Prod.snd e3)
    obtain ⟨e1, f1⟩ := rNum_inv hu (congrArg Prod.snd e2)
    refine ⟨?_, f1, f2, f3, f4⟩
    have g4 := congrArg Prod.fst e4
    have g3 := congrArg Prod.fst e3
    have g2 := congrArg Prod.fst e2
    simp only at g4 g3 g2
    refine e1.trans ?_
    simp only [rPart, partB, List.append_assoc]
    rw [← g4, ← g3, ← g2]
theorem partB_len (p : PartL) : (partB p).length = 16 := by simp [partB, numB_len]
theorem both_parts {l : List PartL} {r : List Int} {b : Bool} (h : I32 l.length) (hp : ∀ p ∈ l, PartFits p) {m : Nat} (hm : (numB l.length ++ (l.flatMap partB ++ r)).length ≤ m) :
    rCount 16 m (numB l.length ++ (l.flatMap partB ++ r), b) = ((l.length : Int), (l.flatMap partB ++ r, b)) := by
  have h1 := flatMap_le partB 16 l (fun x _ => by rw [partB_len]; exact Nat.le_refl _)
  rw [List.length_append, List.length_append] at hm
  refine rCount_app (by omega) h.2 ?_
  rw [List.length_append, Nat.le_div_iff_mul_le (by decide)]; omega
theorem toNat_le {x : Int} {n : Nat} (h : x = n) : x.toNat = n := by omega
theorem both_term : Both rTerm termB TermFits := by
  refine ⟨⟨fun s hs => ?_, fun s hs => ?_⟩, ?_, ?_⟩
  · exact (both_part.goes.list _).bad _ (rCount_bad (rNum_bad (rNum_bad (rNum_bad (rNum_bad (rNum_bad hs))))))
  · exact (both_part.goes.list _).u8 _ (rCount_u8 (rNum_u8 (rNum_u8 (rNum_u8 (rNum_u8 (rNum_u8 hs))))))
  · rintro ⟨a, d, t, u, s, ps⟩ l b ⟨h1, h2, h3, h4, h5, h6, h7⟩
    simp only at h1 h2 h3 h4 h5 h6 h7
    have e5 : r5 (termB ⟨a, d, t, u, s, ps⟩ ++ l, b) = (numB ps.length ++ (ps.flatMap partB ++ l), b) := by
      simp only [r5, termB, List.append_assoc, rNum_app h1, rNum_app h2, rNum_app h3, rNum_app h4, rNum_app h5]
    have ec := both_parts (r := l) (b := b) h6 h7 (m := (numB ps.length ++ (ps.flatMap partB ++ l)).length) (Nat.le_refl _)
    have el := (both_part.list ps.length).to_ ps l b ⟨rfl, h7⟩
    unfold rTerm
    rw [e5]
    simp only
    rw [ec]
    simp only [Int.toNat_natCast, el]
    simp only [termB, List.append_assoc, rNum_app h1, rNum_app h2, rNum_app h3, rNum_app h4, rNum_app h5]
  · intro s hu hb
    have hu1 := rNum_u8 hu
    have hu2 := rNum_u8 hu1
    have hu3 := rNum_u8 hu2
    have hu4 := rNum_u8 hu3
    have hu5 : U8s (r5 s).1 := rNum_u8 hu4
    have hu6 := rCount_u8 (size := 16) (most := (r5 s).1.length) hu5
    have hb7 : (rList rPart (rCount 16 (r5 s).1.length (r5 s)).1.toNat (rCount 16 (r5 s).1.length (r5 s)).2).2.2 = false := hb
    obtain ⟨e7, f7, f8⟩ := (both_part.list _).back _ hu6 hb7
    obtain ⟨e6, f60, f61, f6⟩ := rCount_inv hu5 (congrArg Prod.snd e7)
    obtain ⟨e5, f5⟩ := rNum_inv hu4 (congrArg Prod.snd e6)
    obtain ⟨e4, f4⟩ := rNum_inv hu3 (congrArg Prod.snd e5)
    obtain ⟨e3, f3⟩ := rNum_inv hu2 (congrArg Prod.snd e4)
    obtain ⟨e2, f2⟩ := rNum_inv hu1 (congrArg Prod.snd e3)
    obtain ⟨e1, f1⟩ := rNum_inv hu (congrArg Prod.snd e2)
    have hln : (rCount 16 (r5 s).1.length (r5 s)).1 = (((rList rPart (rCount 16 (r5 s).1.length (r5 s)).1.toNat (rCount 16 (r5 s).1.length (r5 s)).2).1.length : Nat) : Int) := by rw [f7]; omega
    refine ⟨?_, f1, f2, f3, f4, f5, ?_, f8⟩
    · have g7 := congrArg Prod.fst e7
      have g6 := congrArg Prod.fst e6
      have g5 := congrArg Prod.fst e5
      have g4 := congrArg Prod.fst e4
      have g3 := congrArg Prod.fst e3
      have g2 := congrArg Prod.fst e2
      simp only at g7 g6 g5 g4 g3 g2
      refine e1.trans ?_
      have hr : (rNum (rNum (rNum (rNum (rNum s).2).2).2).2).2 = r5 s := rfl
      rw [hr] at g5
      simp only [rTerm, termB, List.append_assoc]
      rw [← g7, ← hln, ← g6, ← g5, ← g4, ← g3, ← g2]
    · show I32 (((rList rPart (rCount 16 (r5 s).1.length (r5 s)).1.toNat (rCount 16 (r5 s).1.length (r5 s)).2).1.length : Nat) : Int)
      rw [← hln]; exact f6
theorem termB_len (t : TermL) : 24 ≤ (termB t).length := by simp [termB, numB_len]; omega
theorem both_terms : Both rTerms termsB TermsFit := by
  refine ⟨⟨fun s hs => (both_term.goes.list _).bad _ (rCount_bad hs), fun s hs => (both_term.goes.list _).u8 _ (rCount_u8 hs)⟩, ?_, ?_⟩
  · rintro L l b ⟨h1, h2⟩
    have h3 := flatMap_le termB 24 L (fun x _ => termB_len x)
    have ec : rCount 24 64 (numB L.length ++ (L.flatMap termB ++ l), b) = ((L.length : Int), (L.flatMap termB ++ l, b)) := by
      refine rCount_app h1 (by omega) ?_
      rw [List.length_append, Nat.le_div_iff_mul_le (by decide)]; omega
    have el := (both_term.list L.length).to_ L l b ⟨rfl, h2⟩
    unfold rTerms termsB
    rw [List.append_assoc, ec]
    simp only [Int.toNat_natCast, el]
  · intro s hu hb
    have hu1 := rCount_u8 (size := 24) (most := 64) hu
    obtain ⟨e2, f2, f3⟩ := (both_term.list _).back _ hu1 hb
    obtain ⟨e1, f10, f11, f1⟩ := rCount_inv hu (congrArg Prod.snd e2)
    have hln : (rCount 24 64 s).1 = (((rList rTerm (rCount 24 64 s).1.toNat (rCount 24 64 s).2).1.length : Nat) : Int) := by rw [f2]; omega
    refine ⟨?_, ?_, f3⟩
    · have g2 := congrArg Prod.fst e2
      simp only at g2
      refine e1.trans ?_
      simp only [rTerms, termsB, List.append_assoc]
      rw [← g2, ← hln]
    · show (rList rTerm (rCount 24 64 s).1.toNat (rCount 24 64 s).2).1.length ≤ 64
      rw [f2]; omega
theorem both_node (k : Nat) : Both (rNode k) nodeB (NodeFits k) := by
  refine ⟨⟨fun s hs => (both_num.goes.list k).bad _ (rNum_bad (rNum_bad hs)), fun s hs => (both_num.goes.list k).u8 _ (rNum_u8 (rNum_u8 hs))⟩, ?_, ?_⟩
  · rintro ⟨h, nx, f⟩ l b ⟨h1, h2, h3, h4⟩
    simp only at h1 h2 h3 h4
    have el := (both_num.list k).to_ nx l b ⟨h3, h4⟩
    simp only [nodeB, List.append_assoc, rNode, rNum_app h1, rNum_app h2, el]
  · intro s hu hb
    have hu1 := rNum_u8 hu
    have hu2 := rNum_u8 hu1
    obtain ⟨e3, f3, f4⟩ := (both_num.list k).back _ hu2 hb
    obtain ⟨e2, f2⟩ := rNum_inv hu1 (congrArg Prod.snd e3)
    obtain ⟨e1, f1⟩ := rNum_inv hu (congrArg Prod.snd e2)
    refine ⟨?_, f1, f2, f3, f4⟩
    have g3 := congrArg Prod.fst e3
    have g2 := congrArg Prod.fst e2
    simp only at g3 g2
    refine e1.trans ?_
    simp only [rNode, nodeB, List.append_assoc]
    rw [← g3, ← g2]
theorem both_act : Both rAct actB ActFits := by
  refine ⟨⟨fun s hs => both_terms.goes.bad _ (rNum_bad (rNum_bad hs)), fun s hs => both_terms.goes.u8 _ (rNum_u8 (rNum_u8 hs))⟩, ?_, ?_⟩
  · rintro ⟨e, t, o⟩ l b ⟨h1, h2, h3⟩
    simp only at h1 h2 h3
    have el := both_terms.to_ o l b h3
    simp only [actB, List.append_assoc, rAct, rNum_app h1, rNum_app h2, el]
  · intro s hu hb
    have hu1 := rNum_u8 hu
    have hu2 := rNum_u8 hu1
    obtain ⟨e3, f3⟩ := both_terms.back _ hu2 hb
    obtain ⟨e2, f2⟩ := rNum_inv hu1 (congrArg Prod.snd e3)
    obtain ⟨e1, f1⟩ := rNum_inv hu (congrArg Prod.snd e2)
    refine ⟨?_, f1, f2, f3⟩
    have g3 := congrArg Prod.fst e3
    have g2 := congrArg Prod.fst e2
    simp only at g3 g2
    refine e1.trans ?_
    simp only [rAct, actB, List.append_assoc]
    rw [← g3, ← g2]

/-- the head: four numbers and the classes -/
def h1 (s : RdL) : RdL := (rNum s).2
def h2 (s : RdL) : RdL := (rNum (h1 s)).2
def h3 (s : RdL) : RdL := (rNum (h2 s)).2
def h4 (s : RdL) : RdL := (rNum (h3 s)).2
def h5 (s : RdL) : RdL := ((h4 s).1.drop 256, (h4 s).2)
def badHead (s : RdL) : Prop := (rNum s).1 < 1 ∨ 256 < (rNum s).1 ∨ (rNum (h1 s)).1 < 1 ∨ 4096 < (rNum (h1 s)).1 ∨ (rNum (h2 s)).1 < 0 ∨ 4096 < (rNum (h2 s)).1 ∨ (rNum (h3 s)).1 < 0 ∨ 4096 < (rNum (h3 s)).1 ∨ (h5 s).1.length < (rNum (h1 s)).1.toNat * (8 + 4 * (rNum s).1.toNat)
def rNodes (s : RdL) : List NodeL × RdL := rList (rNode (rNum s).1.toNat) (rNum (h1 s)).1.toNat (h5 s)
def rActs (s : RdL) : List ActL × RdL := rLoop rAct (rNum (h2 s)).1.toNat (rNodes s).2
def rEnds (s : RdL) : List (List TermL) × RdL := rLoop rTerms (rNum (h3 s)).1.toNat (rActs s).2
def rTab (s : RdL) : TabL := ⟨(h4 s).1.take 256, (rNodes s).1, (rActs s).1, (rEnds s).1⟩
/-- what is read of the bytes behind the mark, all of it, and what is left -/
def GoodInner (l : List Int) : Prop := 272 ≤ l.length ∧ ¬ badHead (l, false) ∧ (rEnds (l, false)).2.2 = false

theorem nodeB_len {k : Nat} {n : NodeL} (h : NodeFits k n) : (nodeB n).length = 8 + 4 * k := by
  have : (n.next.flatMap numB).length = 4 * n.next.length := by
    generalize n.next = L
    induction L with
    | nil => rfl
    | cons x L ih => rw [List.flatMap_cons, List.length_append, ih, numB_len, List.length_cons]; omega
  simp only [nodeB, List.length_append, numB_len, this, h.2.2.1]
  omega
theorem inner_to {T : TabL} (h : TabFits T) (l : List Int) : GoodInner (innerB T ++ l) ∧ rTab (innerB T ++ l, false) = T ∧ (rEnds (innerB T ++ l, false)).2 = (l, false) := by
  have ik : I32 (widthL T) := ⟨by omega, by have := h.k2; omega⟩
  have in_ : I32 T.nodes.length := ⟨by omega, by have := h.n2; omega⟩
  have ia : I32 T.acts.length := ⟨by omega, by have := h.a2; omega⟩
  have ie : I32 T.ends.length := ⟨by omega, by have := h.e2; omega⟩
  obtain ⟨r, hr⟩ : ∃ r, T.nodes.flatMap nodeB ++ (T.acts.flatMap actB ++ (T.ends.flatMap termsB ++ l)) = r := ⟨_, rfl⟩
  have e0 : innerB T ++ l = numB (widthL T) ++ (numB T.nodes.length ++ (numB T.acts.length ++ (numB T.ends.length ++ (T.cls ++ r)))) := by
    rw [← hr]; simp only [innerB, headB, List.append_assoc]
  have q1 : rNum (innerB T ++ l, false) = ((widthL T : Int), (numB T.nodes.length ++ (numB T.acts.length ++ (numB T.ends.length ++ (T.cls ++ r))), false)) := by rw [e0, rNum_app ik]
  have q2 : rNum (h1 (innerB T ++ l, false)) = ((T.nodes.length : Int), (numB T.acts.length ++ (numB T.ends.length ++ (T.cls ++ r)), false)) := by unfold h1; rw [q1]; exact rNum_app in_
  have q3 : rNum (h2 (innerB T ++ l, false)) = ((T.acts.length : Int), (numB T.ends.length ++ (T.cls ++ r), false)) := by unfold h2; rw [q2]; exact rNum_app ia
  have q4 : rNum (h3 (innerB T ++ l, false)) = ((T.ends.length : Int), (T.cls ++ r, false)) := by unfold h3; rw [q3]; exact rNum_app ie
  have q5 : h4 (innerB T ++ l, false) = (T.cls ++ r, false) := by unfold h4; rw [q4]
  have q6 : h5 (innerB T ++ l, false) = (r, false) := by
    unfold h5; rw [q5]
    simp only
    rw [← h.cl, List.drop_left]
  have q7 : rNodes (innerB T ++ l, false) = (T.nodes, (T.acts.flatMap actB ++ (T.ends.flatMap termsB ++ l), false)) := by
    unfold rNodes
    rw [q1, q2, q6, ← hr]
    simp only [Int.toNat_natCast]
    exact ((both_node (widthL T)).list T.nodes.length).to_ T.nodes _ false ⟨rfl, h.nf⟩
  have q8 : rActs (innerB T ++ l, false) = (T.acts, (T.ends.flatMap termsB ++ l, false)) := by
    unfold rActs
    rw [q3, q7]
    simp only [Int.toNat_natCast]
    exact both_act.loop T.acts.length _ T.acts ⟨rfl, h.af⟩
  have q9 : rEnds (innerB T ++ l, false) = (T.ends, (l, false)) := by
    unfold rEnds
    rw [q4, q8]
    simp only [Int.toNat_natCast]
    exact both_terms.loop T.ends.length _ T.ends ⟨rfl, h.ef⟩
  refine ⟨⟨?_, ?_, ?_⟩, ?_, ?_⟩
  · rw [e0]; simp only [List.length_append, numB_len, h.cl]; omega
  · unfold badHead
    rw [q1, q2, q3, q4, q6]
    simp only [Int.toNat_natCast]
    have hn := flatMap_le nodeB (8 + 4 * widthL T) T.nodes (fun n hn => by rw [nodeB_len (h.nf n hn)]; exact Nat.le_refl _)
    have hrl : T.nodes.length * (8 + 4 * widthL T) ≤ r.length := by rw [← hr, List.length_append]; omega
    have := h.k1; have := h.k2; have := h.n1; have := h.n2; have := h.a2; have := h.e2
    omega
  · rw [q9]
  · unfold rTab
    rw [q5, q7, q8, q9]
    simp only
    rw [← h.cl, List.take_left]
  · rw [q9]
theorem inner_back {l : List Int} (hu : U8s l) (h : GoodInner l) : l = innerB (rTab (l, false)) ++ (rEnds (l, false)).2.1 ∧ TabFits (rTab (l, false)) := by
  obtain ⟨hl, hh, hb⟩ := h
  have hu1 : U8s (h1 (l, false)).1 := rNum_u8 hu
  have hu2 : U8s (h2 (l, false)).1 := rNum_u8 hu1
  have hu3 : U8s (h3 (l, false)).1 := rNum_u8 hu2
  have hu4 : U8s (h4 (l, false)).1 := rNum_u8 hu3
  have hu5 : U8s (h5 (l, false)).1 := fun x hx => hu4 x (List.mem_of_mem_drop hx)
  have gE := both_terms.goes.loop (rNum (h3 (l, false))).1.toNat
  have gA := both_act.goes.loop (rNum (h2 (l, false))).1.toNat
  have gN := (both_node (rNum (l, false)).1.toNat).goes.list (rNum (h1 (l, false))).1.toNat
  have bA : (rActs (l, false)).2.2 = false := gE.ok hb
  have bN : (rNodes (l, false)).2.2 = false := gA.ok bA
  have b5 : (h5 (l, false)).2 = false := gN.ok bN
  have uN : U8s (rNodes (l, false)).2.1 := gN.u8 _ hu5
  have uA : U8s (rActs (l, false)).2.1 := gA.u8 _ uN
  have eE : rEnds (l, false) = rList rTerms (rNum (h3 (l, false))).1.toNat (rActs (l, false)).2 := both_terms.goes.loop_eq _ _ hb
  have eA : rActs (l, false) = rList rAct (rNum (h2 (l, false))).1.toNat (rNodes (l, false)).2 := both_act.goes.loop_eq _ _ bA
  obtain ⟨e9, f9, f9'⟩ := (both_terms.list (rNum (h3 (l, false))).1.toNat).back (rActs (l, false)).2 uA (by rw [← eE]; exact hb)
  obtain ⟨e8, f8, f8'⟩ := (both_act.list (rNum (h2 (l, false))).1.toNat).back (rNodes (l, false)).2 uN (by rw [← eA]; exact bA)
  obtain ⟨e7, f7, f7'⟩ := ((both_node (rNum (l, false)).1.toNat).list (rNum (h1 (l, false))).1.toNat).back (h5 (l, false)) hu5 bN
  rw [← eE] at e9 f9 f9'
  rw [← eA] at e8 f8 f8'
  have e7' : h5 (l, false) = ((rNodes (l, false)).1.flatMap nodeB ++ (rNodes (l, false)).2.1, false) := e7
  obtain ⟨e4, f4⟩ := rNum_inv hu3 (show (rNum (h3 (l, false))).2.2 = false from b5)
  obtain ⟨e3, f3⟩ := rNum_inv hu2 (show (rNum (h2 (l, false))).2.2 = false from congrArg Prod.snd e4)
  obtain ⟨e2, f2⟩ := rNum_inv hu1 (show (rNum (h1 (l, false))).2.2 = false from congrArg Prod.snd e3)
  obtain ⟨e1, f1⟩ := rNum_inv (s := (l, false)) hu (show (rNum (l, false)).2.2 = false from congrArg Prod.snd e2)
  have g1 := congrArg Prod.fst e1
  have g2 := congrArg Prod.fst e2
  have g3 := congrArg Prod.fst e3
  have g4 := congrArg Prod.fst e4
  have g7 := congrArg Prod.fst e7'
  have g8 := congrArg Prod.fst e8
  have g9 := congrArg Prod.fst e9
  simp only at g1 g2 g3 g4 g7 g8 g9
  have ll : (h4 (l, false)).1.length + 16 = l.length := by
    have l1 := congrArg List.length g1
    have l2 := congrArg List.length g2
    have l3 := congrArg List.length g3
    have l4 := congrArg List.length g4
    rw [List.length_append, numB_len] at l1 l2 l3 l4
    have a1 : (rNum (l, false)).2.1.length = (h1 (l, false)).1.length := rfl
    have a2 : (rNum (h1 (l, false))).2.1.length = (h2 (l, false)).1.length := rfl
    have a3 : (rNum (h2 (l, false))).2.1.length = (h3 (l, false)).1.length := rfl
    have a4 : (rNum (h3 (l, false))).2.1.length = (h4 (l, false)).1.length := rfl
    omega
  unfold badHead at hh
  have hk1 : 1 ≤ (rNum (l, false)).1 := by omega
  have hk2 : (rNum (l, false)).1 ≤ 256 := by omega
  have hn1 : 1 ≤ (rNum (h1 (l, false))).1 := by omega
  have hn2 : (rNum (h1 (l, false))).1 ≤ 4096 := by omega
  have ha1 : 0 ≤ (rNum (h2 (l, false))).1 := by omega
  have ha2 : (rNum (h2 (l, false))).1 ≤ 4096 := by omega
  have he1 : 0 ≤ (rNum (h3 (l, false))).1 := by omega
  have he2 : (rNum (h3 (l, false))).1 ≤ 4096 := by omega
  clear hh
  have nl : (rTab (l, false)).nodes.length = (rNum (h1 (l, false))).1.toNat := f7
  have al : (rTab (l, false)).acts.length = (rNum (h2 (l, false))).1.toNat := f8
  have el : (rTab (l, false)).ends.length = (rNum (h3 (l, false))).1.toNat := f9
  have nf : ∀ n ∈ (rTab (l, false)).nodes, NodeFits (rNum (l, false)).1.toNat n := f7'
  have wd : widthL (rTab (l, false)) = (rNum (l, false)).1.toNat := by
    unfold widthL
    split
    · rename_i e; rw [e] at nl; simp at nl; omega
    · rename_i n _ e
      exact (nf n (by rw [e]; simp)).2.2.1
  have hcl : (rTab (l, false)).cls.length = 256 := by
    show ((h4 (l, false)).1.take 256).length = 256
    rw [List.length_take]; omega
  refine ⟨?_, ⟨hcl, fun x hx => hu4 x (List.mem_of_mem_take hx), by rw [wd]; omega, by rw [wd]; omega, by rw [nl]; omega, by rw [nl]; omega, by rw [al]; omega, by rw [el]; omega, by rw [wd]; exact nf, f8', f9'⟩⟩
  have c4 : (h4 (l, false)).1 = (rTab (l, false)).cls ++ (h5 (l, false)).1 := (List.take_append_drop 256 _).symm
  simp only [innerB, headB, List.append_assoc]
  rw [wd, nl, al, el, Int.toNat_of_nonneg (by omega), Int.toNat_of_nonneg (by omega), Int.toNat_of_nonneg ha1, Int.toNat_of_nonneg he1]
  have m9 : (rTab (l, false)).ends.flatMap termsB ++ (rEnds (l, false)).2.1 = (rActs (l, false)).2.1 := g9.symm
  have m8 : (rTab (l, false)).acts.flatMap actB ++ (rActs (l, false)).2.1 = (rNodes (l, false)).2.1 := g8.symm
  have m7 : (rTab (l, false)).nodes.flatMap nodeB ++ (rNodes (l, false)).2.1 = (h5 (l, false)).1 := g7.symm
  rw [m9, m8, m7, ← c4]
  have n4 : numB (rNum (h3 (l, false))).1 ++ (h4 (l, false)).1 = (h3 (l, false)).1 := g4.symm
  have n3 : numB (rNum (h2 (l, false))).1 ++ (h3 (l, false)).1 = (h2 (l, false)).1 := g3.symm
  have n2 : numB (rNum (h1 (l, false))).1 ++ (h2 (l, false)).1 = (h1 (l, false)).1 := g2.symm
  have n1 : numB (rNum (l, false)).1 ++ (h1 (l, false)).1 = l := g1.symm
  rw [n4, n3, n2, n1]

/-- what Unpack asks ahead of the table's own check -/
def GoodB (bs : List Int) : Prop := 281 ≤ bs.length ∧ bs.take 5 = markB ∧ bs.drop (bs.length - 4) = numB (fnvL (bs.take (bs.length - 4))) ∧ GoodInner ((bs.take (bs.length - 4)).drop 5) ∧ (rEnds ((bs.take (bs.length - 4)).drop 5, false)).2.1 = []
def tabOf (bs : List Int) : TabL := rTab ((bs.take (bs.length - 4)).drop 5, false)
theorem pack_len (T : TabL) : (packB T).length = (bodyB T).length + 4 := by simp [packB, numB_len]
theorem pack_take (T : TabL) : (packB T).take ((packB T).length - 4) = bodyB T := by
  rw [pack_len, Nat.add_sub_cancel]; exact List.take_left
theorem pack_drop (T : TabL) : (packB T).drop ((packB T).length - 4) = numB (fnvL (bodyB T)) := by
  rw [pack_len, Nat.add_sub_cancel]; exact List.drop_left
theorem body_drop (T : TabL) : (bodyB T).drop 5 = innerB T := rfl
theorem inner_len {T : TabL} (h : TabFits T) : 272 ≤ (innerB T).length := by
  simp only [innerB, headB, List.length_append, numB_len, h.cl]; omega
theorem good_pack {T : TabL} (h : TabFits T) : GoodB (packB T) ∧ tabOf (packB T) = T := by
  have h0 := inner_to h []
  rw [List.append_nil] at h0
  obtain ⟨g1, g2, g3⟩ := h0
  have hl := inner_len h
  have hbl : (bodyB T).length = 5 + (innerB T).length := by simp [bodyB, markB]; omega
  refine ⟨⟨by rw [pack_len]; omega, ?_, ?_, ?_, ?_⟩, ?_⟩
  · unfold packB bodyB
    rw [List.append_assoc]
    exact List.take_left (l₁ := markB)
  · rw [pack_drop, pack_take]
  · rw [pack_take, body_drop]; exact g1
  · rw [pack_take, body_drop, g3]
  · unfold tabOf
    rw [pack_take, body_drop, g2]
theorem pack_good {bs : List Int} (hu : U8s bs) (h : GoodB bs) : packB (tabOf bs) = bs ∧ TabFits (tabOf bs) := by
  obtain ⟨q1, q2, q3, q4, q5⟩ := h
  have hu2 : U8s ((bs.take (bs.length - 4)).drop 5) := fun x hx => hu x (List.mem_of_mem_take (List.mem_of_mem_drop hx))
  obtain ⟨e1, e2⟩ := inner_back hu2 q4
  rw [q5, List.append_nil] at e1
  refine ⟨?_, e2⟩
  have hb : bodyB (tabOf bs) = bs.take (bs.length - 4) := by
    unfold bodyB tabOf
    rw [← e1, ← q2]
    have h5 : bs.take 5 = (bs.take (bs.length - 4)).take 5 := by rw [List.take_take, Nat.min_eq_left (by omega)]
    rw [h5, List.take_append_drop]
  unfold packB
  rw [hb, ← q3, List.take_append_drop]
/-- no beginning of a table's bytes is one -/
theorem good_cut {T : TabL} (h : TabFits T) (hu : U8s (packB T)) {k : Nat} (hk : k < (packB T).length) : ¬ GoodB ((packB T).take k) := by
  intro hg
  have hu2 : U8s ((packB T).take k) := fun x hx => hu x (List.mem_of_mem_take hx)
  obtain ⟨e1, e2⟩ := pack_good hu2 hg
  obtain ⟨T', hT'⟩ : ∃ T', tabOf ((packB T).take k) = T' := ⟨_, rfl⟩
  rw [hT'] at e1 e2
  have hl : (packB T').length = k := by rw [e1, List.length_take]; omega
  have hl2 := pack_len T'
  have hl3 := pack_len T
  have hb : bodyB T' = (bodyB T).take (k - 4) := by
    rw [← pack_take T', ← pack_take T, hl, e1, List.take_take, List.take_take]
    congr 1
    omega
  have hsplit : innerB T = innerB T' ++ (bodyB T).drop (k - 4) := by
    have : bodyB T = bodyB T' ++ (bodyB T).drop (k - 4) := by rw [hb, List.take_append_drop]
    have h2 := congrArg (List.drop 5) this
    rw [body_drop, List.drop_append_of_le_length (by simp [bodyB, markB]), body_drop] at h2
    exact h2
  have a1 := (inner_to e2 ((bodyB T).drop (k - 4))).2.2
  have a2 := (inner_to h []).2.2
  rw [List.append_nil, hsplit, a1] at a2
  have := congrArg (fun z : RdL => z.1.length) a2
  simp only [List.length_drop, List.length_nil] at this
  omega
/-- one byte changed is told by the check -/
theorem good_set {T : TabL} (hu : U8s (packB T)) {k : Nat} {y : Int} (hk : k < (packB T).length) (hy : 0 ≤ y ∧ y < 256) (hne : (packB T)[k] ≠ y) : ¬ GoodB ((packB T).set k y) := by
  rintro ⟨_, _, q3, _⟩
  have hl := pack_len T
  rw [List.length_set, hl, Nat.add_sub_cancel] at q3
  have hub : U8s (bodyB T) := fun x hx => hu x (by simp [packB, hx])
  by_cases hc : k < (bodyB T).length
  · have e1 : (packB T).set k y = (bodyB T).set k y ++ numB (fnvL (bodyB T)) := by
      unfold packB; rw [List.set_append_left _ _ hc]
    have hln : ((bodyB T).set k y).length = (bodyB T).length := by simp
    rw [e1, ← hln, List.drop_left, List.take_left] at q3
    have hk2 : (packB T)[k] = (bodyB T)[k] := by unfold packB at *; exact List.getElem_append_left hc
    have h1 := fnvL_lt (bodyB T)
    have h2 := fnvL_lt ((bodyB T).set k y)
    have h3 := fnv_set hub hc hy (by rw [← hk2]; exact hne)
    simp only [numB, List.cons.injEq, and_true] at q3
    omega
  · have e1 : (packB T).set k y = bodyB T ++ (numB (fnvL (bodyB T))).set (k - (bodyB T).length) y := by
      unfold packB; rw [List.set_append_right _ _ (by omega)]
    rw [e1, List.drop_left, List.take_left] at q3
    have hk4 : k - (bodyB T).length < (numB (fnvL (bodyB T))).length := by rw [numB_len]; omega
    have h5 : (packB T)[k] = (numB (fnvL (bodyB T)))[k - (bodyB T).length] := by
      unfold packB at *; exact List.getElem_append_right (by omega)
    rw [h5] at hne
    have h6 := congrArg (fun z => z[k - (bodyB T).length]?) q3
    simp only [List.getElem?_set_self hk4, List.getElem?_eq_getElem hk4, Option.some.injEq] at h6
    exact hne h6.symm
end Go.Proofs.Ytpmhdjiacgckjaa
end
section
namespace Go.Proofs.Ytpmhdjiacgckjaa
open Go.RowKit
set_option linter.unusedVariables false
set_option linter.unusedSimpArgs false

noncomputable def pB (p : Prop) : Bool := @decide p (Classical.propDecidable p)
theorem pB_true {p : Prop} (h : p) : pB p = true := @decide_eq_true p (Classical.propDecidable p) h
theorem pB_false {p : Prop} (h : ¬ p) : pB p = false := @decide_eq_false p (Classical.propDecidable p) h
theorem pB_iff {p : Prop} : pB p = true ↔ p := ⟨fun h => Classical.byContradiction fun h2 => (by rw [pB_false h2] at h; cases h), pB_true⟩
theorem pB_congr {p q : Prop} (h : p ↔ q) : pB p = pB q := by rw [propext h]
theorem pB_t {p : Prop} {v : Bool} (hv : Hid (pB p = v)) (h : p) : v = true := hv.out.symm.trans (pB_true h)
theorem pB_f {p : Prop} {v : Bool} (hv : Hid (pB p = v)) (h : ¬ p) : v = false := hv.out.symm.trans (pB_false h)
theorem ret_pB {p : Prop} (h : p) : Ending.returned (.bool true) = .returned (.bool (pB p)) := by rw [pB_true h]
theorem ret_pBf {p : Prop} (h : ¬ p) : Ending.returned (.bool false) = .returned (.bool (pB p)) := by rw [pB_false h]

/-- a slice of records: 'size' cells each, and what holds of each -/
structure RowsAt {α : Type} (size : Nat) (f : α → List Value) (R : α → World → Prop) (A : Option Addr) (L : List α) (W : World) : Prop where
  sl : Sl W size A L.length (L.flatMap f)
  it : ∀ x ∈ L, R x W
  ln : L.length ≤ 9223372036854775807
def Stays {α : Type} (R : α → World → Prop) : Prop := ∀ x w w', R x w → Below w.heap.size w w' → R x w'
theorem flatMap_at {α : Type} {f : α → List Value} {size : Nat} (hf : ∀ x, (f x).length = size) {L : List α} {j : Nat} {x : α} (hx : L[j]? = some x) {i : Nat} {u : Value} (hu : (f x)[i]? = some u) : (L.flatMap f)[j * size + i]? = some u := by
  induction L generalizing j with
  | nil => simp at hx
  | cons y L ih =>
    have hi : i < size := by have := (List.getElem?_eq_some_iff.1 hu).1; rw [hf] at this; exact this
    cases j with
    | zero =>
      simp at hx; subst hx
      rw [List.flatMap_cons, Nat.zero_mul, Nat.zero_add, List.getElem?_append_left (by rw [hf]; exact hi)]; exact hu
    | succ j =>
      rw [List.flatMap_cons, List.getElem?_append_right (by rw [hf, Nat.add_mul]; omega), hf, show (j + 1) * size + i - size = j * size + i by rw [Nat.add_mul]; omega]
      exact ih (by simpa using hx)
section
variable {α : Type} {size : Nat} {f : α → List Value} {R : α → World → Prop} {A : Option Addr} {L : List α} {W W' : World}
theorem RowsAt.at_ (h : RowsAt size f R A L W) (hf : ∀ x, (f x).length = size) {j : Nat} (hj : j < L.length) :
    ∃ b off x, A = some ⟨b, off, none⟩ ∧ L[j]? = some x ∧ (∀ i u, (f x)[i]? = some u → W.cell? ⟨b, off + j * size + i, none⟩ = some u) ∧ R x W := by
  obtain ⟨b, off, hA, hc⟩ := h.sl.2 (by omega)
  have hx : L[j]? = some L[j] := List.getElem?_eq_getElem hj
  exact ⟨b, off, _, hA, hx, fun i u hu => by rw [Nat.add_assoc]; exact hc _ u (flatMap_at hf hx hu), h.it _ (List.mem_of_getElem? hx)⟩
theorem RowsAt.below (h : RowsAt size f R A L W) (hR : Stays R) (hb : Below W.heap.size W W') : RowsAt size f R A L W' :=
  ⟨Sl.below (B := 0) h.sl hb, fun x hx => hR x _ _ (h.it x hx) hb, h.ln⟩
theorem RowsAt.nil_ (size : Nat) (f : α → List Value) (R : α → World → Prop) (A : Option Addr) (W : World) : RowsAt size f R A [] W := ⟨Sl.nil_ _ _ _, fun x hx => (by cases hx), by simp⟩
end

def I64 (x : Int) : Prop := -9223372036854775808 ≤ x ∧ x ≤ 9223372036854775807
theorem I64.of_wf {x : Int} (h : (Lit.int .i64 x).wf = true) : I64 x := by
  unfold I64
  simpa [Lit.wf, IntKind.min, IntKind.signed, IntKind.bits] using h

def partC (p : PartL) : List Value := [.int .i64 p.1, .int .i64 p.2.1, .int .i64 p.2.2.1, .int .i64 p.2.2.2]
def PartW (p : PartL) : Prop := I64 p.1 ∧ I64 p.2.1 ∧ I64 p.2.2.1 ∧ I64 p.2.2.2
def PartsAt (A : Option Addr) (l : List PartL) (W : World) : Prop := RowsAt 4 partC (fun p _ => PartW p) A l W
/-- a term in memory: its numbers; where its parts lie -/
structure TermI where
  b : Int
  d : Int
  t : Int
  u : Int
  s : Int
  pa : Option Addr
  pc : Nat
  ps : List PartL
def TermI.L (i : TermI) : TermL := ⟨i.b, i.d, i.t, i.u, i.s, i.ps⟩
def termC (i : TermI) : List Value := [.int .i64 i.b, .int .i64 i.d, .int .i64 i.t, .int .i64 i.u, .int .i64 i.s, .slice i.pa i.ps.length i.pc]
def TermW (i : TermI) (W : World) : Prop := (I64 i.b ∧ I64 i.d ∧ I64 i.t ∧ I64 i.u ∧ I64 i.s) ∧ PartsAt i.pa i.ps W
def TermsAt (A : Option Addr) (l : List TermI) (W : World) : Prop := RowsAt 6 termC TermW A l W
/-- a list of terms in memory -/
structure OutI where
  a : Option Addr
  c : Nat
  l : List TermI
def OutI.L (o : OutI) : List TermL := o.l.map TermI.L
def OutI.v (o : OutI) : Value := .slice o.a o.l.length o.c
def OutW (o : OutI) (W : World) : Prop := TermsAt o.a o.l W
structure NodeI where
  h : Int
  na : Option Addr
  nc : Nat
  nx : List Int
  e : Int
def NodeI.L (n : NodeI) : NodeL := ⟨n.h, n.nx, n.e⟩
def nodeC (n : NodeI) : List Value := [.int .i64 n.h, .slice n.na n.nx.length n.nc, .int .i64 n.e]
def IntsAt (A : Option Addr) (l : List Int) (W : World) : Prop := RowsAt 1 (fun x => [Value.int .i64 x]) (fun x _ => I64 x) A l W
def NodeW (n : NodeI) (W : World) : Prop := (I64 n.h ∧ I64 n.e) ∧ IntsAt n.na n.nx W
def NodesAt (A : Option Addr) (l : List NodeI) (W : World) : Prop := RowsAt 3 nodeC NodeW A l W
structure ActI where
  e : Int
  d : Int
  o : OutI
def ActI.L (a : ActI) : ActL := ⟨a.e, a.d, a.o.L⟩
def actC (a : ActI) : List Value := [.int .i64 a.e, .int .i64 a.d, a.o.v]
def ActW (a : ActI) (W : World) : Prop := (I64 a.e ∧ I64 a.d) ∧ OutW a.o W
def ActsAt (A : Option Addr) (l : List ActI) (W : World) : Prop := RowsAt 3 actC ActW A l W
def EndsAt (A : Option Addr) (l : List OutI) (W : World) : Prop := RowsAt 1 (fun o => [OutI.v o]) OutW A l W
/-- a table's value: 256 classes, and where the three lists lie -/
structure TabI where
  cls : List Int
  na : Option Addr
  nc : Nat
  ns : List NodeI
  aa : Option Addr
  ac : Nat
  acts : List ActI
  ea : Option Addr
  ec : Nat
  es : List OutI
def TabI.L (t : TabI) : TabL := ⟨t.cls, t.ns.map NodeI.L, t.acts.map ActI.L, t.es.map OutI.L⟩
/-- these are a table's cells -/
structure TabC (cs : Array Value) (t : TabI) : Prop where
  size : cs.size = 259
  ln : t.cls.length = 256
  u8 : U8s t.cls
  cl : ∀ (i : Nat) (x : Int), t.cls[i]? = some x → cs[i]? = some (Value.int .u8 x)
  c1 : cs[256]? = some (Value.slice t.na t.ns.length t.nc)
  c2 : cs[257]? = some (Value.slice t.aa t.acts.length t.ac)
  c3 : cs[258]? = some (Value.slice t.ea t.es.length t.ec)
structure TabW (t : TabI) (W : World) : Prop where
  nodes : NodesAt t.na t.ns W
  acts : ActsAt t.aa t.acts W
  ends : EndsAt t.ea t.es W

theorem PartsAt.below {A : Option Addr} {l : List PartL} {w w' : World} (h : PartsAt A l w) (hb : Below w.heap.size w w') : PartsAt A l w' := RowsAt.below h (fun _ _ _ h _ => h) hb
theorem IntsAt.below {A : Option Addr} {l : List Int} {w w' : World} (h : IntsAt A l w) (hb : Below w.heap.size w w') : IntsAt A l w' := RowsAt.below h (fun _ _ _ h _ => h) hb
theorem TermW.stays : Stays TermW := fun i w w' h hb => ⟨h.1, h.2.below hb⟩
theorem TermsAt.below {A : Option Addr} {l : List TermI} {w w' : World} (h : TermsAt A l w) (hb : Below w.heap.size w w') : TermsAt A l w' := RowsAt.below h TermW.stays hb
theorem OutW.stays : Stays OutW := fun i w w' h hb => TermsAt.below h hb
theorem NodeW.stays : Stays NodeW := fun i w w' h hb => ⟨h.1, h.2.below hb⟩
theorem NodesAt.below {A : Option Addr} {l : List NodeI} {w w' : World} (h : NodesAt A l w) (hb : Below w.heap.size w w') : NodesAt A l w' := RowsAt.below h NodeW.stays hb
theorem ActW.stays : Stays ActW := fun i w w' h hb => ⟨h.1, TermsAt.below h.2 hb⟩
theorem ActsAt.below {A : Option Addr} {l : List ActI} {w w' : World} (h : ActsAt A l w) (hb : Below w.heap.size w w') : ActsAt A l w' := RowsAt.below h ActW.stays hb
theorem EndsAt.below {A : Option Addr} {l : List OutI} {w w' : World} (h : EndsAt A l w) (hb : Below w.heap.size w w') : EndsAt A l w' := RowsAt.below h OutW.stays hb
theorem TabW.below {t : TabI} {w w' : World} (h : TabW t w) (hb : Below w.heap.size w w') : TabW t w' := ⟨h.nodes.below hb, h.acts.below hb, h.ends.below hb⟩

theorem PartsAt.at_ {A : Option Addr} {l : List PartL} {W : World} (h : PartsAt A l W) {j : Nat} (hj : j < l.length) : ∃ b off p, A = some ⟨b, off, none⟩ ∧ l[j]? = some p ∧ PartW p ∧
    W.cell? ⟨b, off + j * 4, none⟩ = some (.int .i64 p.1) ∧ W.cell? ⟨b, off + j * 4 + 1, none⟩ = some (.int .i64 p.2.1) ∧ W.cell? ⟨b, off + j * 4 + 2, none⟩ = some (.int .i64 p.2.2.1) ∧ W.cell? ⟨b, off + j * 4 + 3, none⟩ = some (.int .i64 p.2.2.2) := by
  obtain ⟨b, off, p, hA, hp, hc, hw⟩ := RowsAt.at_ h (fun _ => rfl) hj
  exact ⟨b, off, p, hA, hp, hw, hc 0 _ rfl, hc 1 _ rfl, hc 2 _ rfl, hc 3 _ rfl⟩
theorem IntsAt.at_ {A : Option Addr} {l : List Int} {W : World} (h : IntsAt A l W) {j : Nat} (hj : j < l.length) : ∃ b off x, A = some ⟨b, off, none⟩ ∧ l[j]? = some x ∧ I64 x ∧ W.cell? ⟨b, off + j, none⟩ = some (.int .i64 x) := by
  obtain ⟨b, off, p, hA, hp, hc, hw⟩ := RowsAt.at_ h (fun _ => rfl) hj
  have := hc 0 _ rfl
  rw [Nat.mul_one, Nat.add_zero] at this
  exact ⟨b, off, p, hA, hp, hw, this⟩
theorem TermsAt.at_ {A : Option Addr} {l : List TermI} {W : World} (h : TermsAt A l W) {j : Nat} (hj : j < l.length) : ∃ b off i, A = some ⟨b, off, none⟩ ∧ l[j]? = some i ∧ TermW i W ∧
    W.cell? ⟨b, off + j * 6, none⟩ = some (.int .i64 i.b) ∧ W.cell? ⟨b, off + j * 6 + 1, none⟩ = some (.int .i64 i.d) ∧ W.cell? ⟨b, off + j * 6 + 2, none⟩ = some (.int .i64 i.t) ∧ W.cell? ⟨b, off + j * 6 + 3, none⟩ = some (.int .i64 i.u) ∧
    W.cell? ⟨b, off + j * 6 + 4, none⟩ = some (.int .i64 i.s) ∧ W.cell? ⟨b, off + j * 6 + 5, none⟩ = some (.slice i.pa i.ps.length i.pc) := by
  obtain ⟨b, off, p, hA, hp, hc, hw⟩ := RowsAt.at_ h (fun _ => rfl) hj
  exact ⟨b, off, p, hA, hp, hw, hc 0 _ rfl, hc 1 _ rfl, hc 2 _ rfl, hc 3 _ rfl, hc 4 _ rfl, hc 5 _ rfl⟩
theorem NodesAt.at_ {A : Option Addr} {l : List NodeI} {W : World} (h : NodesAt A l W) {j : Nat} (hj : j < l.length) : ∃ b off n, A = some ⟨b, off, none⟩ ∧ l[j]? = some n ∧ NodeW n W ∧
    W.cell? ⟨b, off + j * 3, none⟩ = some (.int .i64 n.h) ∧ W.cell? ⟨b, off + j * 3 + 1, none⟩ = some (.slice n.na n.nx.length n.nc) ∧ W.cell? ⟨b, off + j * 3 + 2, none⟩ = some (.int .i64 n.e) := by
  obtain ⟨b, off, p, hA, hp, hc, hw⟩ := RowsAt.at_ h (fun _ => rfl) hj
  exact ⟨b, off, p, hA, hp, hw, hc 0 _ rfl, hc 1 _ rfl, hc 2 _ rfl⟩
theorem ActsAt.at_ {A : Option Addr} {l : List ActI} {W : World} (h : ActsAt A l W) {j : Nat} (hj : j < l.length) : ∃ b off a, A = some ⟨b, off, none⟩ ∧ l[j]? = some a ∧ ActW a W ∧
    W.cell? ⟨b, off + j * 3, none⟩ = some (.int .i64 a.e) ∧ W.cell? ⟨b, off + j * 3 + 1, none⟩ = some (.int .i64 a.d) ∧ W.cell? ⟨b, off + j * 3 + 2, none⟩ = some (.slice a.o.a a.o.l.length a.o.c) := by
  obtain ⟨b, off, p, hA, hp, hc, hw⟩ := RowsAt.at_ h (fun _ => rfl) hj
  exact ⟨b, off, p, hA, hp, hw, hc 0 _ rfl, hc 1 _ rfl, hc 2 _ rfl⟩
theorem EndsAt.at_ {A : Option Addr} {l : List OutI} {W : World} (h : EndsAt A l W) {j : Nat} (hj : j < l.length) : ∃ b off o, A = some ⟨b, off, none⟩ ∧ l[j]? = some o ∧ OutW o W ∧ W.cell? ⟨b, off + j, none⟩ = some (.slice o.a o.l.length o.c) := by
  obtain ⟨b, off, p, hA, hp, hc, hw⟩ := RowsAt.at_ h (fun _ => rfl) hj
  have := hc 0 _ rfl
  rw [Nat.mul_one, Nat.add_zero] at this
  exact ⟨b, off, p, hA, hp, hw, this⟩

/-! ## what is right -/
def SmallN (x : Int) : Prop := -1114111 ≤ x ∧ x ≤ 1114111
def Rising (l : List PartL) : Prop := ∀ (i : Nat) p q, l[i]? = some p → l[i + 1]? = some q → p.2.2.2 < q.2.2.2
def BitsOk (d t u : Int) : Prop := 0 ≤ d ∧ d ≤ 20 ∧ 1 ≤ t ∧ t ≤ 21 ∧ 0 ≤ u ∧ u ≤ 20 ∧ (u = 0 ∨ t ≤ 6)
def PartOk (n : Int) (p : PartL) : Prop := 0 ≤ p.1 ∧ p.1 < n ∧ BitsOk p.2.1 p.2.2.1 p.2.2.2
def RiseOk (l : List PartL) : Prop := Rising l ∧ l.length ≤ 4
def NumsOk (t : TermL) : Prop := SmallN t.base ∧ SmallN t.sum ∧ BitsOk t.drop t.take t.up ∧ RiseOk t.parts
def TermOk (n : Int) (t : TermL) : Prop := NumsOk t ∧ ∀ p ∈ t.parts, PartOk n p
def TermsOk (n : Int) (l : List TermL) : Prop := ∀ t ∈ l, TermOk n t
def NextOk (T : TabL) (h x : Int) : Prop := x = -1 ∨ (h ≠ 4 ∧ ((0 ≤ x ∧ ∃ n, T.nodes[x.toNat]? = some n ∧ n.held = h + 1) ∨ (x ≤ -2 ∧ ∃ a, T.acts[(-2 - x).toNat]? = some a ∧ a.eat ≤ h + 1 ∧ TermsOk (h + 1) a.out)))
def NodeHead (T : TabL) (k : Nat) (n : NodeL) : Prop := 0 ≤ n.held ∧ n.held ≤ 4 ∧ n.next.length = k ∧ -1 ≤ n.fin ∧ n.fin < T.ends.length
def NodeOk (T : TabL) (k : Nat) (n : NodeL) : Prop := NodeHead T k n ∧ (0 ≤ n.fin → ∃ l, T.ends[n.fin.toNat]? = some l ∧ TermsOk n.held l) ∧ ∀ x ∈ n.next, NextOk T n.held x
def ActOk (T : TabL) (a : ActL) : Prop := 1 ≤ a.eat ∧ a.eat ≤ 4 ∧ 0 ≤ a.dest ∧ (∃ n, T.nodes[a.dest.toNat]? = some n ∧ n.held = 0) ∧ a.out.length ≤ 64
def TabHead (T : TabL) : Prop := T.nodes.length ≤ 4096 ∧ T.acts.length ≤ 4096 ∧ T.ends.length ≤ 4096 ∧ ∃ n, T.nodes[0]? = some n ∧ n.held = 0 ∧ 1 ≤ n.next.length ∧ n.next.length ≤ 256
structure TabOk (T : TabL) : Prop where
  head : TabHead T
  cls : ∀ c ∈ T.cls, c < widthL T
  acts : ∀ a ∈ T.acts, ActOk T a
  ends : ∀ l ∈ T.ends, l.length ≤ 64
  nodes : ∀ n ∈ T.nodes, NodeOk T (widthL T) n
theorem widthL_at {T : TabL} {n : NodeL} (h : T.nodes[0]? = some n) : widthL T = n.next.length := by
  unfold widthL
  split
  · rename_i e; rw [e] at h; simp at h
  · rename_i e; rw [e] at h; simp at h; rw [h]
end Go.Proofs.Ytpmhdjiacgckjaa
end
