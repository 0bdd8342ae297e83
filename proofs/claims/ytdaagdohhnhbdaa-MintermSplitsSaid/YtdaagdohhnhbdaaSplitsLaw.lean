/- Plain facts on the document's way to part a set: between two borders all numbers are in the same sets; blocks are gathered by what sets have their numbers. No program in sight. Condition: none. -/
import Derived.Test.YtdaagdohhnhbdaaUniLaw
import Derived.Test.YtdaagdohhnhbdaaMinRow
namespace Go.Proofs.Ytdaagdohhnhbdaa
open Go.RowKit
set_option linter.unusedVariables false

/-- the last number from f on ahead of the next border, or the end -/
def nextL : List Sp → Int → Int → Int
  | [], f, e => e
  | p :: l, f, e => if p.2 ≤ f then nextL l f e else if f < p.1 then min (p.1 - 1) e else f
theorem nextL_spec {a : Int} {l : List Sp} (h : PlainF a l) {f e : Int} (hfe : f ≤ e) : f ≤ nextL l f e ∧ nextL l f e ≤ e ∧ (∀ z, f < z → z ≤ nextL l f e → ¬ InS l z) ∧ (nextL l f e = e ∨ InS l (nextL l f e + 1)) := by
  induction l generalizing a with
  | nil => exact ⟨hfe, Int.le_refl _, fun z _ _ h => h, .inl rfl⟩
  | cons p l ih =>
    obtain ⟨h1, h2, h3, h4⟩ := h
    obtain ⟨i1, i2, i3, i4⟩ := ih h4
    unfold nextL
    by_cases c1 : p.2 ≤ f
    · rw [if_pos c1]
      refine ⟨i1, i2, fun z z1 z2 hz => ?_, i4.imp id .inr⟩
      rcases hz with hz | hz
      · omega
      · exact i3 z z1 z2 hz
    · rw [if_neg c1]
      by_cases c2 : f < p.1
      · rw [if_pos c2]
        refine ⟨by omega, by omega, fun z z1 z2 hz => ?_, ?_⟩
        · rcases hz with hz | hz
          · omega
          · have := h4.low hz; omega
        · by_cases c3 : p.1 - 1 ≤ e
          · exact .inr (.inl (by omega))
          · exact .inl (by omega)
      · rw [if_neg c2]
        exact ⟨Int.le_refl _, hfe, fun z z1 z2 _ => by omega, .inr (.inl (by omega))⟩
/-- which sets have a number -/
def signB (fam : List (List Sp)) (x : Int) : List Bool := fam.map fun s => hasB s x
theorem signB_eq (fam : List (List Sp)) (x y : Int) : signB fam x = signB fam y ↔ alikeB fam x y = true := by
  unfold signB alikeB
  induction fam with
  | nil => simp
  | cons s fam ih => simp [ih]
/-- both borders of a set's spans -/
def cut1 (r : List Sp) : List Sp := r.flatMap fun p => [(p.1, p.1), (p.2 + 1, p.2 + 1)]
noncomputable def cutsL (fam : List (List Sp)) : List Sp := fam.flatMap fun s => cut1 (normL s)
theorem cut1_len (r : List Sp) : (cut1 r).length = 2 * r.length := by
  induction r with
  | nil => rfl
  | cons p r ih =>
    have : (cut1 (p :: r)).length = 2 + (cut1 r).length := by unfold cut1; simp [List.flatMap_cons]; omega
    rw [this, ih, List.length_cons]; omega
theorem cutsL_append (a b : List (List Sp)) : cutsL (a ++ b) = cutsL a ++ cutsL b := List.flatMap_append
theorem cutsL_one (s : List Sp) : cutsL [s] = cut1 (normL s) := by simp [cutsL]
theorem cutsL_len (fam : List (List Sp)) (k : Nat) (h : ∀ s ∈ fam, s.length ≤ k) : (cutsL fam).length ≤ 2 * k * fam.length := by
  induction fam with
  | nil => simp [cutsL]
  | cons s fam ih =>
    have e : cutsL (s :: fam) = cut1 (normL s) ++ cutsL fam := rfl
    rw [e, List.length_append, cut1_len, List.length_cons, Nat.mul_succ]
    have h1 := (normL_rep s).out.len_le
    have h2 := h s (by simp)
    have h3 := ih (fun t ht => h t (by simp [ht]))
    omega
theorem cutsL_one_pt {fam : List (List Sp)} {p : Sp} (h : p ∈ cutsL fam) : p.1 = p.2 := by
  unfold cutsL cut1 at h
  simp only [List.mem_flatMap] at h
  obtain ⟨s, _, q, _, h⟩ := h
  simp at h
  rcases h with rfl | rfl <;> rfl
theorem cut1_up {r : List Sp} {z : Int} (h1 : InS r z) (h2 : ¬ InS r (z - 1)) : (z, z) ∈ cut1 r := by
  rw [InS_iff] at h1 h2
  obtain ⟨p, hp, h3, h4⟩ := h1
  have : p.1 = z := by
    by_cases e : p.1 = z
    · exact e
    · exact absurd ⟨p, hp, by omega, by omega⟩ h2
  unfold cut1
  rw [List.mem_flatMap]
  exact ⟨p, hp, by simp [this]⟩
theorem cut1_down {r : List Sp} {z : Int} (h1 : InS r (z - 1)) (h2 : ¬ InS r z) : (z, z) ∈ cut1 r := by
  rw [InS_iff] at h1 h2
  obtain ⟨p, hp, h3, h4⟩ := h1
  have : p.2 + 1 = z := by
    by_cases e : p.2 + 1 = z
    · exact e
    · exact absurd ⟨p, hp, by omega, by omega⟩ h2
  unfold cut1
  rw [List.mem_flatMap]
  exact ⟨p, hp, by simp [this]⟩
theorem border {fam : List (List Sp)} {s : List Sp} (hs : s ∈ fam) {z : Int} (h : hasB s z ≠ hasB s (z - 1)) : (z, z) ∈ cutsL fam := by
  have e : ∀ x, hasB s x = true ↔ InS (normL s) x := fun x => by rw [hasB_iff, (normL_rep s).out.2]
  unfold cutsL
  rw [List.mem_flatMap]
  refine ⟨s, hs, ?_⟩
  by_cases h1 : InS (normL s) z
  · refine cut1_up h1 fun h2 => h ?_
    rw [(e z).2 h1, (e (z - 1)).2 h2]
  · refine cut1_down (Classical.byContradiction fun h2 => h ?_) h1
    rw [← e] at h1 h2
    rw [Bool.not_eq_true] at h1 h2
    rw [h1, h2]
/-- between two borders all numbers are in the same sets -/
theorem sign_run {fam : List (List Sp)} {at_ : List Sp} (ha : Rep at_ (Mem (cutsL fam))) {f t : Int} (hf : -1073741824 ≤ f) (ht : t ≤ 1073741824) (h : ∀ z, f < z → z ≤ t → ¬ InS at_ z) : ∀ z, f ≤ z → z ≤ t → signB fam z = signB fam f := by
  intro z hz
  obtain ⟨n, hn⟩ : ∃ n : Nat, z = f + n := ⟨(z - f).toNat, by omega⟩
  induction n generalizing z with
  | zero => intro _; rw [hn]; simp
  | succ n ih =>
    intro hzt
    have h1 := ih (f + n) (by omega) rfl (by omega)
    rw [← h1]
    unfold signB
    refine List.map_congr_left fun s hs => ?_
    refine Classical.byContradiction fun hne => h z (by omega) hzt ?_
    rw [ha.2]
    have e : z - 1 = f + n := by omega
    have hm := border hs (z := z) (by rw [e]; exact hne)
    exact ⟨by omega, by omega, InS_of_mem hm (Int.le_refl _) (Int.le_refl _)⟩
/-- how many borders lie at f or ahead of it -/
def cutN (c : List Sp) (f : Int) : Nat := c.countP fun p => decide (p.1 ≤ f)
theorem cutN_mono (c : List Sp) {f g : Int} (h : f ≤ g) : cutN c f ≤ cutN c g := by
  unfold cutN
  exact List.countP_mono_left fun p _ hp => by simp at hp ⊢; omega
theorem cutN_len (c : List Sp) (f : Int) : cutN c f ≤ c.length := List.countP_le_length
theorem cutN_lt {c : List Sp} {f g : Int} (h : f < g) {p : Sp} (hp : p ∈ c) (hg : p.1 = g) : cutN c f + 1 ≤ cutN c g := by
  induction c with
  | nil => cases hp
  | cons q c ih =>
    have e : ∀ x, cutN (q :: c) x = cutN c x + if q.1 ≤ x then 1 else 0 := fun x => by unfold cutN; rw [List.countP_cons]; simp
    rw [e, e]
    rcases List.mem_cons.1 hp with rfl | hp
    · have := cutN_mono c (Int.le_of_lt h)
      rw [if_neg (by omega), if_pos (by omega)]; omega
    · have := ih hp
      by_cases c1 : q.1 ≤ f
      · rw [if_pos c1, if_pos (by omega)]; omega
      · rw [if_neg c1]; omega

/-- blocks of what was gone by, each with what sets have its numbers -/
structure SInv (fam : List (List Sp)) (D : Int → Prop) (P : List (List Sp)) (G : List (List Bool)) : Prop where
  len : P.length = G.length
  mem : ∀ (k : Nat) b g, P[k]? = some b → G[k]? = some g → Plain b ∧ b ≠ [] ∧ ∀ x, InS b x ↔ D x ∧ signB fam x = g
  nd : G.Nodup
  all : ∀ x, D x → signB fam x ∈ G
  up : (P.map keyS).Pairwise (· < ·)
theorem SInv.start (fam : List (List Sp)) (D : Int → Prop) (h : ∀ x, ¬ D x) : SInv fam D [] [] := ⟨rfl, fun k b g h => by simp at h, List.nodup_nil, fun x hx => absurd hx (h x), List.Pairwise.nil⟩
theorem SInv.congr {fam : List (List Sp)} {D E : Int → Prop} {P : List (List Sp)} {G : List (List Bool)} (h : SInv fam D P G) (he : ∀ x, E x ↔ D x) : SInv fam E P G :=
  ⟨h.len, fun k b g h1 h2 => by simp only [he]; exact h.mem k b g h1 h2, h.nd, fun x hx => h.all x ((he x).1 hx), h.up⟩
theorem key_le {b : List Sp} (hp : Plain b) {x : Int} (hx : InS b x) : keyS b ≤ x := by
  cases b with
  | nil => cases hx
  | cons p l =>
    obtain ⟨h1, h2, h3, h4⟩ := hp
    show p.1 ≤ x
    rcases hx with hx | hx
    · exact hx.1
    · have := h4.low hx; omega
theorem key_in {b : List Sp} (h : b ≠ []) (hp : Plain b) : InS b (keyS b) := by
  have := keyS_in h hp
  rw [hasB_iff, hp.mem] at this
  exact this
theorem Mem_one {f t x : Int} (h1 : -1073741824 ≤ f) (h2 : t ≤ 1073741824) : Mem [(f, t)] x ↔ f ≤ x ∧ x ≤ t := by simp only [Mem, InS, or_false]; omega
theorem SInv.old {fam : List (List Sp)} {D : Int → Prop} {P : List (List Sp)} {G : List (List Bool)} (h : SInv fam D P G) {k : Nat} {b b' : List Sp} {g : List Bool} (hb : P[k]? = some b) (hg : G[k]? = some g) {f t : Int} (hft : f ≤ t) (h1 : -1073741824 ≤ f) (h2 : t ≤ 1073741824)
    (hlow : ∀ x, D x → x < f) (hs : ∀ x, f ≤ x → x ≤ t → signB fam x = g) (hr : Rep b' (fun x => Mem b x ∨ Mem [(f, t)] x)) : SInv fam (fun x => D x ∨ (f ≤ x ∧ x ≤ t)) (P.set k b') G := by
  obtain ⟨p1, p2, p3⟩ := h.mem k b g hb hg
  have hkl := (List.getElem?_eq_some_iff.1 hb).1
  have hin : ∀ x, InS b' x ↔ InS b x ∨ (f ≤ x ∧ x ≤ t) := fun x => by
    have := hr.2 x
    simp only [Mem_one h1 h2, p1.mem] at this
    exact this
  have hne : b' ≠ [] := by
    rintro rfl
    exact (hin f).2 (.inr ⟨Int.le_refl _, hft⟩)
  have hk0 := key_in p2 p1
  have hk1 := key_in hne hr.1
  have hkey : keyS b' = keyS b := by
    have a1 := key_le hr.1 ((hin _).2 (.inl hk0))
    rcases (hin _).1 hk1 with a2 | a2
    · have := key_le p1 a2; omega
    · have := hlow _ ((p3 _).1 hk0).1; omega
  refine ⟨by rw [List.length_set]; exact h.len, fun j c e hc he => ?_, h.nd, fun x hx => ?_, ?_⟩
  · by_cases hj : j = k
    · subst hj
      rw [List.getElem?_set_self hkl] at hc
      injection hc with hc
      subst hc
      rw [hg] at he
      injection he with he
      subst he
      refine ⟨hr.1, hne, fun x => ?_⟩
      rw [hin, p3]
      constructor
      · rintro (⟨x1, x2⟩ | x1)
        · exact ⟨.inl x1, x2⟩
        · exact ⟨.inr x1, hs x x1.1 x1.2⟩
      · rintro ⟨x1 | x1, x2⟩
        · exact .inl ⟨x1, x2⟩
        · exact .inr x1
    · rw [List.getElem?_set_ne (by omega)] at hc
      obtain ⟨q1, q2, q3⟩ := h.mem j c e hc he
      refine ⟨q1, q2, fun x => ?_⟩
      rw [q3]
      constructor
      · rintro ⟨x1, x2⟩; exact ⟨.inl x1, x2⟩
      · rintro ⟨x1 | x1, x2⟩
        · exact ⟨x1, x2⟩
        · exfalso
          have e1 : g = e := by rw [← hs x x1.1 x1.2, x2]
          have hjl := (List.getElem?_eq_some_iff.1 he)
          have hkl2 := (List.getElem?_eq_some_iff.1 hg)
          obtain ⟨j1, j2⟩ := hjl
          obtain ⟨k1, k2⟩ := hkl2
          exact hj ((List.getElem_inj h.nd).1 (by rw [j2, k2, e1]))
  · rcases hx with hx | hx
    · exact h.all x hx
    · rw [hs x hx.1 hx.2]; exact List.mem_of_getElem? hg
  · have e : (P.set k b').map keyS = P.map keyS := by
      rw [List.map_set, hkey]
      apply List.ext_getElem?
      intro j
      by_cases hj : k = j
      · subst hj
        rw [List.getElem?_set_self (by simpa using hkl), List.getElem?_map, hb]; rfl
      · rw [List.getElem?_set_ne hj]
    rw [e]; exact h.up
theorem SInv.new {fam : List (List Sp)} {D : Int → Prop} {P : List (List Sp)} {G : List (List Bool)} (h : SInv fam D P G) {b' : List Sp} {g : List Bool} (hg : g ∉ G) {f t : Int} (hft : f ≤ t) (h1 : -1073741824 ≤ f) (h2 : t ≤ 1073741824)
    (hlow : ∀ x, D x → x < f) (hs : ∀ x, f ≤ x → x ≤ t → signB fam x = g) (hr : Rep b' (fun x => Mem [] x ∨ Mem [(f, t)] x)) : SInv fam (fun x => D x ∨ (f ≤ x ∧ x ≤ t)) (P ++ [b']) (G ++ [g]) := by
  have hin : ∀ x, InS b' x ↔ (f ≤ x ∧ x ≤ t) := fun x => by
    have := hr.2 x
    simp only [Mem_one h1 h2] at this
    rw [this]
    simp [Mem, InS]
  have hne : b' ≠ [] := by
    rintro rfl
    exact (hin f).2 ⟨Int.le_refl _, hft⟩
  have hk1 := (hin _).1 (key_in hne hr.1)
  have hDg : ∀ x, D x → signB fam x ≠ g := fun x hx e => hg (e ▸ h.all x hx)
  refine ⟨by simp [h.len], fun j c e hc he => ?_, ?_, fun x hx => ?_, ?_⟩
  · by_cases hj : j < P.length
    · rw [List.getElem?_append_left hj] at hc
      rw [List.getElem?_append_left (by rw [← h.len]; exact hj)] at he
      obtain ⟨q1, q2, q3⟩ := h.mem j c e hc he
      refine ⟨q1, q2, fun x => ?_⟩
      rw [q3]
      constructor
      · rintro ⟨x1, x2⟩; exact ⟨.inl x1, x2⟩
      · rintro ⟨x1 | x1, x2⟩
        · exact ⟨x1, x2⟩
        · exfalso
          rw [hs x x1.1 x1.2] at x2
          exact hg (x2 ▸ List.mem_of_getElem? he)
    · obtain rfl : j = P.length := by
        have := (List.getElem?_eq_some_iff.1 hc).1
        simp at this; omega
      simp at hc
      rw [h.len] at he
      simp at he
      subst hc; subst he
      refine ⟨hr.1, hne, fun x => ?_⟩
      rw [hin]
      constructor
      · intro x1; exact ⟨.inr x1, hs x x1.1 x1.2⟩
      · rintro ⟨x1 | x1, x2⟩
        · exact absurd x2 (hDg x x1)
        · exact x1
  · rw [List.nodup_append]
    exact ⟨h.nd, by simp, fun a ha c hc e => by simp at hc; subst hc; subst e; exact hg ha⟩
  · rcases hx with hx | hx
    · exact List.mem_append_left _ (h.all x hx)
    · rw [hs x hx.1 hx.2]; simp
  · rw [List.map_append, List.pairwise_append]
    refine ⟨h.up, by simp, fun a ha c hc => ?_⟩
    simp at hc
    subst hc
    obtain ⟨b, hb, rfl⟩ := List.mem_map.1 ha
    obtain ⟨j, hj, rfl⟩ := List.getElem_of_mem hb
    obtain ⟨q1, q2, q3⟩ := h.mem j _ _ (List.getElem?_eq_getElem hj) (List.getElem?_eq_getElem (by rw [← h.len]; exact hj))
    have := hlow _ ((q3 _).1 (key_in q2 q1)).1
    omega
theorem cnt_le_one {P : List (List Sp)} {x : Int} (h : P.Pairwise fun a b => ¬ (hasB a x = true ∧ hasB b x = true)) : cntX P x ≤ 1 := by
  induction P with
  | nil => simp [cntX]
  | cons b P ih =>
    obtain ⟨h1, h2⟩ := List.pairwise_cons.1 h
    have e : cntX (b :: P) x = cntX [b] x + cntX P x := cntX_append [b] P x
    rw [e, cntX_one]
    by_cases hb : hasB b x = true
    · rw [if_pos hb]
      have : cntX P x = 0 := by
        unfold cntX
        rw [List.countP_eq_zero]
        intro c hc hcx
        exact h1 c hc ⟨hb, hcx⟩
      omega
    · rw [if_neg hb]; have := ih h2; omega
/-- all gone by: these are the blocks, in their order -/
theorem SInv.done {fam : List (List Sp)} {r : List Sp} {D : Int → Prop} {P : List (List Sp)} {G : List (List Bool)} (h : SInv fam D P G) (hD : ∀ x, D x ↔ hasB r x = true) : Blocks r fam P ∧ Ord P := by
  have hget : ∀ b ∈ P, ∃ (k : Nat) (g : List Bool), P[k]? = some b ∧ G[k]? = some g := fun b hb => by
    obtain ⟨j, hj, rfl⟩ := List.getElem_of_mem hb
    exact ⟨j, _, List.getElem?_eq_getElem hj, List.getElem?_eq_getElem (by rw [← h.len]; exact hj)⟩
  have hhas : ∀ (k : Nat) b g, P[k]? = some b → G[k]? = some g → ∀ x, hasB b x = true ↔ hasB r x = true ∧ signB fam x = g := fun k b g h1 h2 x => by
    obtain ⟨q1, q2, q3⟩ := h.mem k b g h1 h2
    rw [hasB_iff, q1.mem, q3, hD]
  refine ⟨⟨fun x => ?_, fun b hb x y hx => ?_⟩, ⟨fun b hb => ?_, ?_⟩⟩
  · have hle : cntX P x ≤ 1 := by
      refine cnt_le_one ?_
      rw [List.pairwise_iff_getElem]
      intro i j hi hj hij ⟨a1, a2⟩
      have gi : i < G.length := by rw [← h.len]; exact hi
      have gj : j < G.length := by rw [← h.len]; exact hj
      have b1 := ((hhas i _ _ (List.getElem?_eq_getElem hi) (List.getElem?_eq_getElem gi) x).1 a1).2
      have b2 := ((hhas j _ _ (List.getElem?_eq_getElem hj) (List.getElem?_eq_getElem gj) x).1 a2).2
      have := (List.getElem_inj h.nd).1 (b1.symm.trans b2)
      omega
    by_cases hx : hasB r x = true
    · rw [if_pos hx]
      have hm := h.all x ((hD x).2 hx)
      obtain ⟨j, hj, ej⟩ := List.getElem_of_mem hm
      have pj : j < P.length := by rw [h.len]; exact hj
      have := (hhas j _ _ (List.getElem?_eq_getElem pj) (List.getElem?_eq_getElem hj) x).2 ⟨hx, ej.symm⟩
      have h2 : 0 < cntX P x := by
        unfold cntX
        exact List.countP_pos_iff.2 ⟨_, List.getElem_mem pj, this⟩
      omega
    · rw [if_neg hx]
      unfold cntX
      rw [List.countP_eq_zero]
      intro b hb hbx
      obtain ⟨k, g, h1, h2⟩ := hget b hb
      exact hx ((hhas k b g h1 h2 x).1 hbx).1
  · obtain ⟨k, g, h1, h2⟩ := hget b hb
    rw [hhas k b g h1 h2] at hx ⊢
    rw [← hx.2, ← signB_eq]
    constructor
    · rintro ⟨a1, a2⟩; exact ⟨a1, a2.symm⟩
    · rintro ⟨a1, a2⟩; exact ⟨a1, a2.symm⟩
  · obtain ⟨k, g, h1, h2⟩ := hget b hb
    obtain ⟨q1, q2, _⟩ := h.mem k b g h1 h2
    exact ⟨q2, q1⟩
  · have := h.up
    rwa [List.pairwise_map] at this
/-- what the code's Split is, told by the document's -/
theorem split_told {r : List Sp} (hr : Plain r) {fam P : List (List Sp)} (hb : Blocks r fam P) (ho : Ord P) : splitL r fam = if 1024 < P.length then none else some P := by
  unfold splitL
  by_cases h0 : r = []
  · rw [if_pos h0]
    subst h0
    have : P = [] := by
      cases P with
      | nil => rfl
      | cons b P =>
        exfalso
        obtain ⟨h1, h2⟩ := ho.ne b (by simp)
        have h3 := hb.inr (b := b) (by simp) (keyS_in h1 h2)
        rw [hasB_nil] at h3
        cases h3
    subst this
    rfl
  · rw [if_neg h0, splitF_G Blocks.start (Ord.start hr h0) (by simp)]
    obtain ⟨b1, o1⟩ := splitG_ord (fam := fam) Blocks.start (Ord.start hr h0)
    have e := ord_unique b1 o1 hb ho (fun x y => by simp)
    rw [e]
theorem plain_le {a : Int} {l : List Sp} (h : PlainF a l) {p : Sp} (hp : p ∈ l) : p.1 ≤ p.2 := by
  induction l generalizing a with
  | nil => cases hp
  | cons q l ih =>
    obtain ⟨h1, h2, h3, h4⟩ := h
    rcases List.mem_cons.1 hp with rfl | hp
    · exact h2
    · exact ih h4 hp
theorem take_below {a : Int} {l : List Sp} (h : PlainF a l) {i : Nat} {p : Sp} (hp : l[i]? = some p) {x : Int} (hx : InS (l.take i) x) : x < p.1 := by
  induction l generalizing a i with
  | nil => simp at hp
  | cons q l ih =>
    obtain ⟨h1, h2, h3, h4⟩ := h
    cases i with
    | zero => cases hx
    | succ i =>
      simp at hp
      rcases hx with hx | hx
      · have hin : InS l p.1 := by
          refine InS_of_mem (List.mem_of_getElem? hp) (Int.le_refl _) ?_
          exact plain_le h4 (List.mem_of_getElem? hp)
        have := h4.low hin
        omega
      · exact ih h4 hp hx
end Go.Proofs.Ytdaagdohhnhbdaa
