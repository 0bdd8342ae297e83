/- Plain facts: what the program packs and what the document packs is the same; what is packed fits; a table that is not too great has few bytes. Condition: none. -/
import Derived.Test.YticfbbigljgjdaaRPack
import Derived.Test.YticfbbigljgjdaaPack
import Derived.Test.YticfbbigljgjdaaSmall
namespace Go.Proofs.Yticfbbigljgjdaa
set_option linter.unusedVariables false
set_option linter.unusedSimpArgs false
theorem big32_f {x : Int} : big32 x = false ↔ I32 x := by
  unfold big32 I32
  simp
theorem bigs_f {l : List Int} : bigs l = false ↔ ∀ x ∈ l, I32 x := by
  unfold bigs
  rw [List.any_eq_false]
  constructor
  · intro h x hx; have := h x hx; exact big32_f.1 (by simpa using this)
  · intro h x hx; rw [big32_f.2 (h x hx)]; simp
theorem bigP_f {p : PartL} : bigP p = false ↔ PFits p := by
  unfold bigP PFits
  rw [bigs_f]
  simp
theorem any_f {α : Type} {f : α → Bool} {P : α → Prop} (h : ∀ x, f x = false ↔ P x) {l : List α} : l.any f = false ↔ ∀ x ∈ l, P x := by
  rw [List.any_eq_false]
  exact ⟨fun g x hx => (h x).1 (by simpa using g x hx), fun g x hx => by rw [(h x).2 (g x hx)]; simp⟩
theorem bigM_f {t : TermL} : bigM t = false ↔ FitsM t ∧ I32 t.parts.length := by
  unfold bigM FitsM T5Fits
  rw [Bool.or_eq_false_iff, bigs_f, any_f (fun p => bigP_f (p := p))]
  simp only [List.mem_cons, List.not_mem_nil, or_false, forall_eq_or_imp, forall_eq]
  constructor
  · rintro ⟨⟨a, b, c, d, e, f⟩, g⟩; exact ⟨⟨⟨a, b, c, d, e⟩, g⟩, f⟩
  · rintro ⟨⟨⟨a, b, c, d, e⟩, g⟩, f⟩; exact ⟨⟨a, b, c, d, e, f⟩, g⟩
theorem bigT_f {l : List TermL} : bigT l = false ↔ I32 l.length ∧ ∀ t ∈ l, FitsM t ∧ I32 t.parts.length := by
  unfold bigT
  rw [Bool.or_eq_false_iff, bigs_f, any_f (fun p => bigM_f (t := p))]
  simp only [List.mem_cons, List.not_mem_nil, or_false, forall_eq]
theorem bigN_f {n : NodeL} : bigN n = false ↔ I32 n.held ∧ I32 n.fin ∧ ∀ x ∈ n.next, I32 x := by
  unfold bigN
  rw [Bool.or_eq_false_iff, bigs_f, bigs_f]
  simp only [List.mem_cons, List.not_mem_nil, or_false, forall_eq_or_imp, forall_eq, and_assoc]
theorem bigA_f {a : ActL} : bigA a = false ↔ I32 a.eat ∧ I32 a.dest ∧ I32 a.out.length ∧ ∀ t ∈ a.out, FitsM t ∧ I32 t.parts.length := by
  unfold bigA
  rw [Bool.or_eq_false_iff, bigs_f, bigT_f]
  simp only [List.mem_cons, List.not_mem_nil, or_false, forall_eq_or_imp, forall_eq, and_assoc]
theorem len_mem {α : Type} (f : α → List Int) {l : List α} {x : α} (h : x ∈ l) : (f x).length ≤ (l.flatMap f).length := by
  induction l with
  | nil => cases h
  | cons y l ih =>
    rw [List.flatMap_cons, List.length_append]
    rcases List.mem_cons.1 h with rfl | h
    · omega
    · have := ih h; omega
theorem parts_le (t : TermL) : t.parts.length ≤ (termB t).length := by
  have h := flatMap_le partB 16 t.parts (fun x _ => by rw [partB_len]; exact Nat.le_refl _)
  simp only [termB, List.length_append, numB_len]
  omega
theorem terms_le {l : List TermL} {t : TermL} (h : t ∈ l) : t.parts.length ≤ (termsB l).length := by
  have h1 := len_mem termB h
  have h2 := parts_le t
  simp only [termsB, List.length_append, numB_len]
  omega
theorem i32_small {n : Nat} (h : n ≤ 16777216) : I32 (n : Int) := ⟨by omega, by omega⟩
theorem at_lt {α : Type} {l : List α} {i : Nat} {x : α} (h : l[i]? = some x) : i < l.length := (List.getElem?_eq_some_iff.1 h).1
theorem TabOk.width {T : TabL} (h : TabOk T) : 1 ≤ widthL T ∧ widthL T ≤ 256 ∧ 1 ≤ T.nodes.length := by
  obtain ⟨_, _, _, n, hn, _, h1, h2⟩ := h.head
  rw [widthL_at hn]
  have := at_lt hn
  exact ⟨h1, h2, by omega⟩
theorem TabOk.node32 {T : TabL} (h : TabOk T) {n : NodeL} (hn : n ∈ T.nodes) : I32 n.held ∧ I32 n.fin ∧ n.next.length = widthL T ∧ ∀ x ∈ n.next, I32 x := by
  obtain ⟨⟨a1, a2, a3, a4, a5⟩, _, hx⟩ := h.nodes n hn
  obtain ⟨b1, b2, b3, _⟩ := h.head
  refine ⟨⟨by omega, by omega⟩, ⟨by omega, by omega⟩, a3, fun x hm => ?_⟩
  rcases hx x hm with rfl | ⟨_, ⟨c1, m, hm2, _⟩ | ⟨c1, a, ha, _⟩⟩
  · exact ⟨by omega, by omega⟩
  · have := at_lt hm2; exact ⟨by omega, by omega⟩
  · have := at_lt ha; exact ⟨by omega, by omega⟩
theorem TabOk.act32 {T : TabL} (h : TabOk T) {a : ActL} (ha : a ∈ T.acts) : I32 a.eat ∧ I32 a.dest ∧ a.out.length ≤ 64 := by
  obtain ⟨a1, a2, a3, ⟨n, hn, _⟩, a5⟩ := h.acts a ha
  obtain ⟨b1, b2, b3, _⟩ := h.head
  have := at_lt hn
  exact ⟨⟨by omega, by omega⟩, ⟨by omega, by omega⟩, a5⟩
theorem body_parts (T : TabL) : (T.acts.flatMap actB).length ≤ (bodyB T).length ∧ (T.ends.flatMap termsB).length ≤ (bodyB T).length := by
  simp only [bodyB, innerB, List.length_append]
  omega
theorem ok_ok {T : TabL} (hlen : (bodyB T).length ≤ 16777216) : PackOk T ↔ RPackOk T := by
  constructor
  · rintro ⟨h, hb⟩
    unfold bigTab at hb
    simp only [Bool.or_eq_false_iff] at hb
    obtain ⟨⟨⟨hb1, hb2⟩, hb3⟩, hb4⟩ := hb
    exact ⟨h, fun a ha t ht => (((any_f (fun p => bigA_f (a := p))).1 hb3 a ha).2.2.2 t ht).1, fun l hl t ht => (((any_f (fun p => bigT_f (l := p))).1 hb4 l hl).2 t ht).1⟩
  · rintro ⟨h, hA, hE⟩
    refine ⟨h, ?_⟩
    obtain ⟨w1, w2, w3⟩ := h.width
    obtain ⟨b1, b2, b3, _⟩ := h.head
    obtain ⟨l1, l2⟩ := body_parts T
    unfold bigTab
    simp only [Bool.or_eq_false_iff]
    refine ⟨⟨⟨?_, ?_⟩, ?_⟩, ?_⟩
    · rw [bigs_f]
      simp only [List.mem_cons, List.not_mem_nil, or_false, forall_eq_or_imp, forall_eq]
      exact ⟨i32_small (by omega), i32_small (by omega), i32_small (by omega), i32_small (by omega)⟩
    · exact (any_f (fun p => bigN_f (n := p))).2 fun n hn => by obtain ⟨c1, c2, _, c4⟩ := h.node32 hn; exact ⟨c1, c2, c4⟩
    · exact (any_f (fun p => bigA_f (a := p))).2 fun a ha => by
        obtain ⟨c1, c2, c3⟩ := h.act32 ha
        refine ⟨c1, c2, i32_small (by omega), fun t ht => ⟨hA a ha t ht, i32_small ?_⟩⟩
        have d1 := terms_le ht
        have d2 := len_mem actB ha
        simp only [actB, List.length_append] at d2
        omega
    · exact (any_f (fun p => bigT_f (l := p))).2 fun l hl => by
        have c3 := h.ends l hl
        refine ⟨i32_small (by omega), fun t ht => ⟨hE l hl t ht, i32_small ?_⟩⟩
        have d1 := terms_le ht
        have d2 := len_mem termsB hl
        omega
theorem PackOk.fits {T : TabL} (h : PackOk T) (hc : T.cls.length = 256) (hu : U8s T.cls) : TabFits T := by
  obtain ⟨h, hb⟩ := h
  unfold bigTab at hb
  simp only [Bool.or_eq_false_iff] at hb
  obtain ⟨⟨⟨hb1, hb2⟩, hb3⟩, hb4⟩ := hb
  obtain ⟨w1, w2, w3⟩ := h.width
  obtain ⟨b1, b2, b3, _⟩ := h.head
  have ht : ∀ t : TermL, FitsM t ∧ I32 t.parts.length → TermFits t := fun t ⟨⟨⟨a, b, c, d, e⟩, f⟩, g⟩ => ⟨a, b, c, d, e, g, f⟩
  refine ⟨hc, hu, w1, w2, w3, b1, b2, b3, fun n hn => h.node32 hn, fun a ha => ?_, fun l hl => ?_⟩
  · obtain ⟨c1, c2, c3⟩ := h.act32 ha
    exact ⟨c1, c2, c3, fun t hm => ht t (((any_f (fun p => bigA_f (a := p))).1 hb3 a ha).2.2.2 t hm)⟩
  · exact ⟨h.ends l hl, fun t hm => ht t (((any_f (fun p => bigT_f (l := p))).1 hb4 l hl).2 t hm)⟩
theorem packB_u8 {T : TabL} (h : U8s T.cls) : U8s (packB T) := by
  intro x hx
  rcases List.mem_append.1 hx with hx | hx
  · exact bodyB_u8 h x hx
  · exact numB_u8 _ x hx
/-! ## few bytes -/
theorem flat_bound {α : Type} (w : α → List Int) (f : α → Nat) (c m : Nat) (l : List α) (h : ∀ x ∈ l, (w x).length ≤ c + m * f x) : (l.flatMap w).length ≤ c * l.length + m * (l.map f).sum := by
  induction l with
  | nil => simp
  | cons x l ih =>
    have h1 := h x (by simp)
    have h2 := ih fun y hy => h y (by simp [hy])
    rw [List.flatMap_cons, List.length_append, List.length_cons, List.map_cons, List.sum_cons, Nat.mul_add, Nat.mul_add]
    omega
theorem sum_mem {α : Type} (f : α → Nat) {l : List α} {x : α} (h : x ∈ l) : f x ≤ (l.map f).sum := by
  induction l with
  | nil => cases h
  | cons y l ih =>
    rw [List.map_cons, List.sum_cons]
    rcases List.mem_cons.1 h with rfl | h
    · omega
    · have := ih h; omega
theorem termB_bound {t : TermL} (h : one17 t ≤ 80000) : (termB t).length ≤ 0 + 24 * one17 t := by
  have h1 : (t.parts.flatMap partB).length = 16 * t.parts.length := partsB_len _
  unfold one17 at h ⊢
  simp only [termB, List.length_append, numB_len, h1]
  omega
theorem termsB_bound {l : List TermL} (h : sizeL l ≤ 80000) : (termsB l).length ≤ 4 + 24 * sizeL l := by
  unfold sizeL at h ⊢
  split at h
  · omega
  · rename_i hc
    rw [if_neg hc]
    have h1 := flat_bound termB one17 0 24 l (fun x hx => termB_bound (by have := sum_mem one17 hx; omega))
    simp only [termsB, List.length_append, numB_len]
    omega
theorem nodeB_bound {n : NodeL} (h : nodeN n ≤ 80000) : (nodeB n).length ≤ 8 + 4 * nodeN n := by
  have h1 : (n.next.flatMap numB).length = 4 * n.next.length := by
    generalize n.next = L
    induction L with
    | nil => rfl
    | cons x L ih => rw [List.flatMap_cons, List.length_append, ih, numB_len, List.length_cons]; omega
  unfold nodeN at h ⊢
  simp only [nodeB, List.length_append, numB_len, h1]
  omega
theorem SmallT.few {T : TabL} (h : SmallT T) (hc : T.cls.length = 256) : (bodyB T).length ≤ 16777216 := by
  obtain ⟨a1, a2, a3, hs⟩ := h
  unfold sumT at hs
  have h1 := flat_bound nodeB nodeN 8 4 T.nodes (fun n hn => nodeB_bound (by have := sum_mem nodeN hn; omega))
  have h2 := flat_bound actB (fun a => sizeL a.out) 12 24 T.acts (fun a ha => by
    have h3 := sum_mem (fun a : ActL => sizeL a.out) ha
    have h4 := termsB_bound (l := a.out) (by omega)
    simp only [actB, List.length_append, numB_len]
    omega)
  have h3 := flat_bound termsB sizeL 4 24 T.ends (fun l hl => termsB_bound (by have := sum_mem sizeL hl; omega))
  have hm : markB.length = 5 := rfl
  simp only [bodyB, innerB, headB, List.length_append, numB_len, hc, hm]
  omega
end Go.Proofs.Yticfbbigljgjdaa
