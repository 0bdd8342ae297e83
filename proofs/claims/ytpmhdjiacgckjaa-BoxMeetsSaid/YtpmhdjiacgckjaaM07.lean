/- Plain facts: how a list of boxes is found, place by place, and what it tells: a window is in just one of them if its value is wanted, else in none. No program in sight. Condition: none. Slices of slices: their headers as cells, what each of them holds; a header more, a header in place. No function of the program in sight. Condition: none. -/
import Derived.Test.YtpmhdjiacgckjaaM05
section
namespace Go.Proofs.Ytpmhdjiacgckjaa
set_option linter.unusedVariables false
set_option linter.unusedSimpArgs false
open Classical

/-- the plain list of a set -/
noncomputable def plL (S : Int → Prop) : List Sp := if h : ∃ r, Rep r S then h.choose else []
theorem plL_rep {S : Int → Prop} (h : ∃ r, Rep r S) : Rep (plL S) S := by unfold plL; rw [dif_pos h]; exact h.choose_spec
theorem plL_eq {S : Int → Prop} {r : List Sp} (h : Rep r S) : plL S = r := Rep.unique (plL_rep ⟨r, h⟩) h (fun _ => Iff.rfl)
/-- a place: its guard, what its symbols come to, whether it has one part alone, the most that they come to -/
structure Lv where
  g : List Sp
  val : Int → Int
  one : Bool
  top : Int
abbrev Row := List (List Sp)
def topS : List Lv → Int
  | [] => 0
  | l :: ls => l.top + topS ls
def valS : List Lv → List Int → Int
  | l :: ls, x :: xs => l.val x + valS ls xs
  | _, _ => 0
def inG : List Lv → List Int → Prop
  | [], [] => True
  | l :: ls, x :: xs => InS l.g x ∧ inG ls xs
  | _, _ => False
def hit : Row → List Int → Prop
  | [], [] => True
  | s :: r, x :: xs => InS s x ∧ hit r xs
  | _, _ => False
noncomputable def cntR (rows : List Row) (xs : List Int) : Nat := (rows.filter fun r => decide (hit r xs)).length
def rowOk : List Lv → Row → Prop
  | [], [] => True
  | l :: ls, s :: r => (Plain s ∧ s ≠ [] ∧ ∀ x, InS s x → InS l.g x) ∧ rowOk ls r
  | _, _ => False
structure LvOk (l : Lv) : Prop where
  pl : Plain l.g
  ne : l.g ≠ []
  lo : ∀ x, InS l.g x → 0 ≤ l.val x
  hi : ∀ x, InS l.g x → l.val x ≤ l.top
def lvsOk (ls : List Lv) : Prop := ∀ l ∈ ls, LvOk l
/-- the numbers of a plain list, rising -/
def numsL (l : List Sp) : List Int := l.flatMap fun p => (List.range (p.2 - p.1 + 1).toNat).map fun (k : Nat) => p.1 + (k : Int)
noncomputable def valsOf (l : Lv) : List Sp := plL fun v => ∃ x, InS l.g x ∧ l.val x = v
noncomputable def choicesL (l : Lv) : List (Int × List Sp) := (numsL (valsOf l)).map fun v => (v, plL fun x => InS l.g x ∧ l.val x = v)
noncomputable def unionL (a b : List Sp) : List Sp := plL fun x => InS a x ∨ InS b x
noncomputable def headUn (S : List Sp) : Row → Row
  | [] => []
  | h :: t => unionL h S :: t
noncomputable def mergeAt (n : Nat) (S : List Sp) (out : List Row) : List Row := out.take n ++ (out.drop n).map (headUn S)
noncomputable def goL (f : Int → Nat → Option (List Row) × Nat) : List (Int × List Sp) → List Row → List Row → Nat → Nat → Option (List Row) × Nat
  | [], out, _, _, st => (some out, st)
  | (v, S) :: cs, out, last, n, st =>
    match f v st with
    | (none, st') => (none, st')
    | (some rest, st') =>
      if 4096 < out.length then (none, st')
      else if rest ≠ [] ∧ rest = last then goL f cs (mergeAt n S out) last n st'
      else goL f cs (out ++ rest.map (S :: ·)) rest out.length st'
def meetsW (want : List Sp) (lo hi : Int) : Prop := ∃ x, lo ≤ x ∧ x ≤ hi ∧ InS want x
def withinW (want : List Sp) (lo hi : Int) : Prop := ∀ x, lo ≤ x → x ≤ hi → InS want x
noncomputable def fromL (want : List Sp) : List Lv → Int → Nat → Option (List Row) × Nat
  | [], sum, st => if 65536 < st + 1 then (none, st + 1) else if ¬ meetsW want sum sum then (some [], st + 1) else (some [[]], st + 1)
  | l :: ls, sum, st =>
    if 65536 < st + 1 then (none, st + 1)
    else if ¬ meetsW want sum (sum + topS (l :: ls)) then (some [], st + 1)
    else if withinW want sum (sum + topS (l :: ls)) then (some [(l :: ls).map (·.g)], st + 1)
    else if ls = [] ∧ l.one = true then
      (if plL (fun x => InS l.g x ∧ InS want (sum + l.val x)) = [] then (some [], st + 1) else (some [[plL (fun x => InS l.g x ∧ InS want (sum + l.val x))]], st + 1))
    else if 4096 < (numsL (valsOf l)).length then (none, st + 1)
    else goL (fun v st => fromL want ls (sum + v) st) (choicesL l) [] [] 0 (st + 1)

theorem cntR_append (a b : List Row) (xs : List Int) : cntR (a ++ b) xs = cntR a xs + cntR b xs := by unfold cntR; rw [List.filter_append, List.length_append]
theorem cntR_map (S : List Sp) (a : List Row) (x : Int) (xs : List Int) : cntR (a.map (S :: ·)) (x :: xs) = if InS S x then cntR a xs else 0 := by
  unfold cntR
  induction a with
  | nil => simp
  | cons r a ih =>
    rw [List.map_cons, List.filter_cons, List.filter_cons]
    by_cases hS : InS S x
    · rw [if_pos hS] at ih ⊢
      have : (hit (S :: r) (x :: xs)) ↔ hit r xs := ⟨fun h => h.2, fun h => ⟨hS, h⟩⟩
      by_cases hr : hit r xs
      · rw [if_pos (decide_eq_true (this.2 hr)), if_pos (decide_eq_true hr), List.length_cons, List.length_cons, ih]
      · rw [if_neg (by simpa [this] using hr), if_neg (by simpa using hr), ih]
    · rw [if_neg hS] at ih ⊢
      have : ¬ hit (S :: r) (x :: xs) := fun h => hS h.1
      rw [if_neg (by simpa using this), ih]
theorem headUn_map (U S : List Sp) (a : List Row) : (a.map (U :: ·)).map (headUn S) = a.map (unionL U S :: ·) := by
  rw [List.map_map]; rfl
theorem mergeAt_eq (pre : List Row) (U S : List Sp) (last : List Row) : mergeAt pre.length S (pre ++ last.map (U :: ·)) = pre ++ last.map (unionL U S :: ·) := by
  unfold mergeAt
  rw [List.take_left, List.drop_left, headUn_map]

theorem rep_sub {l : List Sp} (h : Plain l) (S : Int → Prop) (hS : ∀ x, S x → InS l x) : ∃ r, Rep r S :=
  rep_all S fun x hx => ⟨h.low (hS x hx), PlainF.high h (hS x hx)⟩
theorem rep_nil {S : Int → Prop} (h : Rep [] S) (x : Int) : ¬ S x := fun hx => by have := (h.2 x).2 hx; cases this
theorem rep_ne {r : List Sp} {S : Int → Prop} (h : Rep r S) {x : Int} (hx : S x) : r ≠ [] := fun e => by subst e; exact rep_nil h x hx
theorem valS_lo {ls : List Lv} (h : lvsOk ls) {xs : List Int} (hx : inG ls xs) : 0 ≤ valS ls xs := by
  induction ls generalizing xs with
  | nil => cases xs <;> simp [valS]
  | cons l ls ih =>
    cases xs with
    | nil => simp [valS]
    | cons x xs =>
      have h1 := (h l (by simp)).lo x hx.1
      have h2 := ih (fun m hm => h m (by simp [hm])) hx.2
      simp only [valS]; omega
theorem valS_hi {ls : List Lv} (h : lvsOk ls) {xs : List Int} (hx : inG ls xs) : valS ls xs ≤ topS ls := by
  induction ls generalizing xs with
  | nil => cases xs <;> simp [valS, topS]
  | cons l ls ih =>
    cases xs with
    | nil => cases hx
    | cons x xs =>
      have h1 := (h l (by simp)).hi x hx.1
      have h2 := ih (fun m hm => h m (by simp [hm])) hx.2
      simp only [valS, topS]; omega
theorem hit_gs (ls : List Lv) (xs : List Int) : hit (ls.map (·.g)) xs ↔ inG ls xs := by
  induction ls generalizing xs with
  | nil => cases xs <;> simp [hit, inG]
  | cons l ls ih => cases xs <;> simp [hit, inG, ih]
theorem rowOk_gs {ls : List Lv} (h : lvsOk ls) : rowOk ls (ls.map (·.g)) := by
  induction ls with
  | nil => trivial
  | cons l ls ih => exact ⟨⟨(h l (by simp)).pl, (h l (by simp)).ne, fun _ hx => hx⟩, ih fun m hm => h m (by simp [hm])⟩
/-- these rows tell of each window whether its value is wanted -/
structure Told (want : List Sp) (ls : List Lv) (sum : Int) (rows : List Row) : Prop where
  cnt : ∀ xs, inG ls xs → cntR rows xs = if InS want (sum + valS ls xs) then 1 else 0
  ok : ∀ r ∈ rows, rowOk ls r
structure LoopB (want : List Sp) (l : Lv) (ls : List Lv) (sum : Int) (D : Int → Prop) (out last : List Row) (n : Nat) : Prop where
  cnt : ∀ x xs, InS l.g x → inG ls xs → cntR out (x :: xs) = if D x ∧ InS want (sum + (l.val x + valS ls xs)) then 1 else 0
  ok : ∀ r ∈ out, rowOk (l :: ls) r
  shape : ∃ pre U, out = pre ++ last.map (U :: ·) ∧ pre.length = n ∧ Plain U ∧ ∀ x, InS U x → InS l.g x
theorem LoopB.more {want : List Sp} {l : Lv} {ls : List Lv} {sum : Int} {D : Int → Prop} {out last rest : List Row} {n : Nat} (h : LoopB want l ls sum D out last n) (hl : LvOk l) {v : Int} {S : List Sp} (hS : Rep S (fun x => InS l.g x ∧ l.val x = v))
    (hv : ∃ x, InS l.g x ∧ l.val x = v) (hD : ∀ x, InS l.g x → D x → l.val x ≠ v) (hr : Told want ls (sum + v) rest) : LoopB want l ls sum (fun x => D x ∨ l.val x = v) (out ++ rest.map (S :: ·)) rest out.length := by
  obtain ⟨x0, hx0⟩ := hv
  refine ⟨fun x xs hx hxs => ?_, fun r hr2 => ?_, out, S, rfl, rfl, hS.1, fun x hx => ((hS.2 x).1 hx).1⟩
  · rw [cntR_append, h.cnt x xs hx hxs, cntR_map]
    by_cases hv : l.val x = v
    · have h1 : InS S x := (hS.2 x).2 ⟨hx, hv⟩
      have h2 : ¬ D x := fun hd => hD x hx hd hv
      have e : sum + (l.val x + valS ls xs) = sum + v + valS ls xs := by rw [hv]; omega
      rw [if_pos h1, if_neg (fun h => h2 h.1), hr.cnt xs hxs, e, Nat.zero_add]
      by_cases hw : InS want (sum + v + valS ls xs)
      · rw [if_pos hw, if_pos ⟨.inr hv, hw⟩]
      · rw [if_neg hw, if_neg (fun h => hw h.2)]
    · have h1 : ¬ InS S x := fun h => hv ((hS.2 x).1 h).2
      rw [if_neg h1, Nat.add_zero]
      by_cases hd : D x ∧ InS want (sum + (l.val x + valS ls xs))
      · rw [if_pos hd, if_pos ⟨.inl hd.1, hd.2⟩]
      · rw [if_neg hd, if_neg (fun h => hd ⟨h.1.resolve_right hv, h.2⟩)]
  · rcases List.mem_append.1 hr2 with h1 | h1
    · exact h.ok r h1
    · obtain ⟨q, hq, rfl⟩ := List.mem_map.1 h1
      exact ⟨⟨hS.1, rep_ne hS hx0, fun x hx => ((hS.2 x).1 hx).1⟩, hr.ok q hq⟩
theorem LoopB.merge {want : List Sp} {l : Lv} {ls : List Lv} {sum : Int} {D : Int → Prop} {out last : List Row} {n : Nat} (h : LoopB want l ls sum D out last n) (hl : LvOk l) {v : Int} {S : List Sp} (hS : Rep S (fun x => InS l.g x ∧ l.val x = v))
    (hv : ∃ x, InS l.g x ∧ l.val x = v) (hD : ∀ x, InS l.g x → D x → l.val x ≠ v) (hr : Told want ls (sum + v) last) : LoopB want l ls sum (fun x => D x ∨ l.val x = v) (mergeAt n S out) last n := by
  obtain ⟨x0, hx0⟩ := hv
  obtain ⟨pre, U, rfl, rfl, hU, hUg⟩ := h.shape
  have hun : ∃ r, Rep r (fun x => InS U x ∨ InS S x) := rep_sub hl.pl _ fun x hx => by
    rcases hx with hx | hx
    · exact hUg x hx
    · exact ((hS.2 x).1 hx).1
  have hR := plL_rep hun
  have hRu : ∀ x, InS (unionL U S) x ↔ (InS U x ∨ InS S x) := hR.2
  rw [mergeAt_eq]
  refine ⟨fun x xs hx hxs => ?_, fun r hr2 => ?_, pre, unionL U S, rfl, rfl, hR.1, fun x hx => ?_⟩
  · have h0 := h.cnt x xs hx hxs
    rw [cntR_append, cntR_map] at h0 ⊢
    by_cases hv : l.val x = v
    · have h1 : InS S x := (hS.2 x).2 ⟨hx, hv⟩
      have h2 : ¬ D x := fun hd => hD x hx hd hv
      have e : sum + (l.val x + valS ls xs) = sum + v + valS ls xs := by rw [hv]; omega
      have hz : (if D x ∧ InS want (sum + (l.val x + valS ls xs)) then (1 : Nat) else 0) = 0 := if_neg (fun h => h2 h.1)
      rw [hz] at h0
      rw [if_pos ((hRu x).2 (.inr h1)), hr.cnt xs hxs, e, show cntR pre (x :: xs) = 0 by omega, Nat.zero_add]
      by_cases hw : InS want (sum + v + valS ls xs)
      · rw [if_pos hw, if_pos ⟨.inr hv, hw⟩]
      · rw [if_neg hw, if_neg (fun h => hw h.2)]
    · have h1 : ¬ InS S x := fun h => hv ((hS.2 x).1 h).2
      have e : InS (unionL U S) x ↔ InS U x := by rw [hRu]; exact ⟨fun h => h.resolve_right h1, .inl⟩
      have e2 : (if InS (unionL U S) x then cntR last xs else 0) = if InS U x then cntR last xs else 0 := by
        by_cases hu : InS U x
        · rw [if_pos hu, if_pos (e.2 hu)]
        · rw [if_neg hu, if_neg (fun h => hu (e.1 h))]
      rw [e2, h0]
      by_cases hd : D x ∧ InS want (sum + (l.val x + valS ls xs))
      · rw [if_pos hd, if_pos ⟨.inl hd.1, hd.2⟩]
      · rw [if_neg hd, if_neg (fun h => hd ⟨h.1.resolve_right hv, h.2⟩)]
  · rcases List.mem_append.1 hr2 with h1 | h1
    · exact h.ok r (List.mem_append.2 (.inl h1))
    · obtain ⟨q, hq, rfl⟩ := List.mem_map.1 h1
      refine ⟨⟨hR.1, rep_ne hR (.inr ((hS.2 x0).2 hx0)), fun x hx => ?_⟩, hr.ok q hq⟩
      rcases (hRu x).1 hx with hx | hx
      · exact hUg x hx
      · exact ((hS.2 x).1 hx).1
  · rcases (hRu x).1 hx with hx | hx
    · exact hUg x hx
    · exact ((hS.2 x).1 hx).1
theorem LoopB.congr {want : List Sp} {l : Lv} {ls : List Lv} {sum : Int} {D E : Int → Prop} {out last : List Row} {n : Nat} (h : LoopB want l ls sum D out last n) (hE : ∀ x, D x ↔ E x) : LoopB want l ls sum E out last n := by
  have : D = E := funext fun x => propext (hE x)
  rw [← this]; exact h
theorem goL_tells {want : List Sp} {l : Lv} {ls : List Lv} {sum : Int} (hl : LvOk l) {f : Int → Nat → Option (List Row) × Nat} (hf : ∀ v st rows st', f v st = (some rows, st') → (∃ x, InS l.g x ∧ l.val x = v) → Told want ls (sum + v) rows) :
    ∀ (cs : List (Int × List Sp)) (D : Int → Prop) (out last : List Row) (n st : Nat) (rows : List Row) (st' : Nat), goL f cs out last n st = (some rows, st') → LoopB want l ls sum D out last n →
      (∀ c ∈ cs, Rep c.2 (fun x => InS l.g x ∧ l.val x = c.1) ∧ ∃ x, InS l.g x ∧ l.val x = c.1) → cs.Pairwise (fun a b => a.1 ≠ b.1) → (∀ c ∈ cs, ∀ x, InS l.g x → D x → l.val x ≠ c.1) →
      ∃ last' n', LoopB want l ls sum (fun x => D x ∨ ∃ c ∈ cs, l.val x = c.1) rows last' n'
  | [], D, out, last, n, st, rows, st', he, hL, _, _, _ => by
    unfold goL at he
    injection he with he _
    injection he with he
    subst he
    exact ⟨last, n, hL.congr fun x => by simp⟩
  | (v, S) :: cs, D, out, last, n, st, rows, st', he, hL, hc, hp, hD => by
    unfold goL at he
    obtain ⟨hS, hv⟩ := hc (v, S) (by simp)
    have hDv := hD (v, S) (by simp)
    rcases hfv : f v st with ⟨_ | rest, st2⟩
    · rw [hfv] at he; simp at he
    · rw [hfv] at he
      simp only at he
      have hT := hf v st rest st2 hfv hv
      have hp2 := List.pairwise_cons.1 hp
      have hD2 : ∀ c ∈ cs, ∀ x, InS l.g x → (D x ∨ l.val x = v) → l.val x ≠ c.1 := fun c hcm x hx hd => by
        rcases hd with hd | hd
        · exact hD c (by simp [hcm]) x hx hd
        · rw [hd]; exact hp2.1 c hcm
      have fin : ∀ {out' last' n'}, goL f cs out' last' n' st2 = (some rows, st') → LoopB want l ls sum (fun x => D x ∨ l.val x = v) out' last' n' → ∃ a b, LoopB want l ls sum (fun x => D x ∨ ∃ c ∈ (v, S) :: cs, l.val x = c.1) rows a b := fun he' hL' => by
        obtain ⟨a, b, h⟩ := goL_tells hl hf cs _ _ _ _ _ _ _ he' hL' (fun c hcm => hc c (by simp [hcm])) hp2.2 hD2
        exact ⟨a, b, h.congr fun x => by simp [or_assoc]⟩
      split at he
      · cases he
      · split at he
        · rename_i hm
          obtain ⟨_, rfl⟩ := hm
          exact fin he (hL.merge hl hS hv hDv hT)
        · exact fin he (hL.more hl hS hv hDv hT)

theorem mem_numsL (l : List Sp) (x : Int) : x ∈ numsL l ↔ InS l x := by
  rw [InS_iff]
  unfold numsL
  rw [List.mem_flatMap]
  constructor
  · rintro ⟨p, hp, hx⟩
    obtain ⟨k, hk, rfl⟩ := List.mem_map.1 hx
    have := List.mem_range.1 hk
    exact ⟨p, hp, by omega, by omega⟩
  · rintro ⟨p, hp, h1, h2⟩
    exact ⟨p, hp, List.mem_map.2 ⟨(x - p.1).toNat, List.mem_range.2 (by omega), by omega⟩⟩
theorem numsL_rising {a : Int} {l : List Sp} (h : PlainF a l) : (numsL l).Pairwise (· < ·) := by
  induction l generalizing a with
  | nil => exact List.Pairwise.nil
  | cons p l ih =>
    obtain ⟨h1, h2, h3, h4⟩ := h
    unfold numsL
    rw [List.flatMap_cons]
    refine List.pairwise_append.2 ⟨?_, ih h4, fun x hx y hy => ?_⟩
    · refine List.pairwise_map.2 (List.Pairwise.imp (fun {a b} h => ?_) List.pairwise_lt_range)
      show p.1 + (a : Int) < p.1 + (b : Int)
      omega
    · obtain ⟨k, hk, rfl⟩ := List.mem_map.1 hx
      have := List.mem_range.1 hk
      have hy2 := h4.low ((mem_numsL l y).1 hy)
      omega
theorem vals_rep {l : Lv} (hl : LvOk l) (ht : l.top ≤ 1073741824) : Rep (valsOf l) (fun v => ∃ x, InS l.g x ∧ l.val x = v) :=
  plL_rep (rep_all _ fun v ⟨x, hx, hv⟩ => by have := hl.lo x hx; have := hl.hi x hx; omega)
theorem choice_ok {l : Lv} (hl : LvOk l) (ht : l.top ≤ 1073741824) : ∀ c ∈ choicesL l, Rep c.2 (fun x => InS l.g x ∧ l.val x = c.1) ∧ ∃ x, InS l.g x ∧ l.val x = c.1 := fun c hc => by
  unfold choicesL at hc
  obtain ⟨v, hv, rfl⟩ := List.mem_map.1 hc
  exact ⟨plL_rep (rep_sub hl.pl _ fun x hx => hx.1), ((vals_rep hl ht).2 v).1 ((mem_numsL _ v).1 hv)⟩
theorem choice_all {l : Lv} (hl : LvOk l) (ht : l.top ≤ 1073741824) {x : Int} (hx : InS l.g x) : ∃ c ∈ choicesL l, l.val x = c.1 :=
  ⟨_, List.mem_map.2 ⟨l.val x, (mem_numsL _ _).2 (((vals_rep hl ht).2 _).2 ⟨x, hx, rfl⟩), rfl⟩, rfl⟩
theorem choice_apart {l : Lv} (hl : LvOk l) (ht : l.top ≤ 1073741824) : (choicesL l).Pairwise (fun a b => a.1 ≠ b.1) :=
  List.pairwise_map.2 (List.Pairwise.imp (fun {a b} h => by show a ≠ b; omega) (numsL_rising (vals_rep hl ht).1))
theorem cntR_one (r : Row) (xs : List Int) : cntR [r] xs = if hit r xs then 1 else 0 := by
  unfold cntR
  by_cases h : hit r xs
  · simp [h]
  · simp [h]
theorem cntR_nil (xs : List Int) : cntR [] xs = 0 := rfl
theorem inG_nil {xs : List Int} (h : inG [] xs) : xs = [] := by cases xs with
  | nil => rfl
  | cons x xs => cases h
theorem fromL_tells (want : List Sp) : ∀ (ls : List Lv) (sum : Int) (st : Nat) (rows : List Row) (st' : Nat), fromL want ls sum st = (some rows, st') → lvsOk ls → (∀ l ∈ ls, l.top ≤ 1073741824) → Told want ls sum rows
  | [], sum, st, rows, st', he, hok, _ => by
    unfold fromL at he
    split at he
    · cases he
    split at he
    · rename_i hm
      injection he with he _; injection he with he; subst he
      refine ⟨fun xs hx => ?_, fun r hr => (by cases hr)⟩
      obtain rfl := inG_nil hx
      rw [cntR_nil, if_neg (fun h => hm ⟨sum, by omega, by omega, by simpa [valS] using h⟩)]
    · rename_i hm
      injection he with he _; injection he with he; subst he
      obtain ⟨x, h1, h2, h3⟩ := Classical.not_not.1 hm
      obtain rfl : x = sum := by omega
      refine ⟨fun xs hx => ?_, fun r hr => ?_⟩
      · obtain rfl := inG_nil hx
        rw [cntR_one, if_pos (show hit [] [] from trivial), if_pos (by simpa [valS] using h3)]
      · obtain rfl := List.mem_singleton.1 hr
        trivial
  | l :: ls, sum, st, rows, st', he, hok, ht => by
    have hl := hok l (by simp)
    have hls : lvsOk ls := fun m hm => hok m (by simp [hm])
    have hlt := ht l (by simp)
    have htl : ∀ m ∈ ls, m.top ≤ 1073741824 := fun m hm => ht m (by simp [hm])
    unfold fromL at he
    split at he
    · cases he
    split at he
    · rename_i hm
      injection he with he _; injection he with he; subst he
      refine ⟨fun xs hx => ?_, fun r hr => (by cases hr)⟩
      have h1 := valS_lo hok hx
      have h2 := valS_hi hok hx
      rw [cntR_nil, if_neg (fun h => hm ⟨_, by omega, by omega, h⟩)]
    split at he
    · rename_i hw
      injection he with he _; injection he with he; subst he
      refine ⟨fun xs hx => ?_, fun r hr => ?_⟩
      · have h1 := valS_lo hok hx
        have h2 := valS_hi hok hx
        rw [cntR_one, if_pos ((hit_gs _ _).2 hx), if_pos (hw _ (by omega) (by omega))]
      · obtain rfl := List.mem_singleton.1 hr
        exact rowOk_gs hok
    split at he
    · rename_i h1
      obtain ⟨rfl, _⟩ := h1
      have hR : Rep (plL (fun x => InS l.g x ∧ InS want (sum + l.val x))) (fun x => InS l.g x ∧ InS want (sum + l.val x)) := plL_rep (rep_sub hl.pl _ fun x hx => hx.1)
      split at he
      · rename_i hn
        injection he with he _; injection he with he; subst he
        rw [hn] at hR
        refine ⟨fun xs hx => ?_, fun r hr => (by cases hr)⟩
        rcases xs with _ | ⟨x, xs⟩
        · cases hx
        obtain rfl := inG_nil hx.2
        rw [cntR_nil, if_neg (fun h => rep_nil hR x ⟨hx.1, by simpa [valS] using h⟩)]
      · rename_i hn
        injection he with he _; injection he with he; subst he
        refine ⟨fun xs hx => ?_, fun r hr => ?_⟩
        · rcases xs with _ | ⟨x, xs⟩
          · cases hx
          obtain rfl := inG_nil hx.2
          have e : sum + valS [l] [x] = sum + l.val x := by simp [valS]
          rw [cntR_one, e]
          have e2 : hit [plL (fun x => InS l.g x ∧ InS want (sum + l.val x))] [x] ↔ InS want (sum + l.val x) := ⟨fun h => ((hR.2 x).1 h.1).2, fun h => ⟨(hR.2 x).2 ⟨hx.1, h⟩, trivial⟩⟩
          by_cases hw : InS want (sum + l.val x)
          · rw [if_pos hw, if_pos (e2.2 hw)]
          · rw [if_neg hw, if_neg (fun h => hw (e2.1 h))]
        · obtain rfl := List.mem_singleton.1 hr
          exact ⟨⟨hR.1, hn, fun x hx => ((hR.2 x).1 hx).1⟩, trivial⟩
    split at he
    · cases he
    · obtain ⟨a, b, h⟩ := goL_tells hl (want := want) (ls := ls) (sum := sum) (fun v st rows st' hf _ => fromL_tells want ls (sum + v) st rows st' hf hls htl) _ (fun _ => False) [] [] 0 _ _ _ he
        ⟨fun x xs _ _ => by rw [cntR_nil, if_neg (fun h => h.1)], fun r hr => (by cases hr), [], [], rfl, rfl, trivial, fun x hx => (by cases hx)⟩ (choice_ok hl hlt) (choice_apart hl hlt) (fun _ _ _ _ h => h.elim)
      refine ⟨fun xs hx => ?_, h.ok⟩
      rcases xs with _ | ⟨x, xs⟩
      · cases hx
      rw [h.cnt x xs hx.1 hx.2]
      have hd := choice_all hl hlt hx.1
      by_cases hw : InS want (sum + (l.val x + valS ls xs))
      · rw [if_pos ⟨.inr hd, hw⟩, if_pos (by simpa [valS] using hw)]
      · rw [if_neg (fun h => hw h.2), if_neg (by simpa [valS] using hw)]

/-! ## where nothing is too much -/
theorem mergeAt_len (n : Nat) (S : List Sp) (out : List Row) : (mergeAt n S out).length = out.length := by
  unfold mergeAt
  rw [List.length_append, List.length_map, List.length_take, List.length_drop]; omega
theorem goL_few {f : Int → Nat → Option (List Row) × Nat} {b : Int → Nat} (hb : ∀ v, b v ≤ 1) : ∀ (cs : List (Int × List Sp)), (∀ c ∈ cs, ∀ st, st ≤ 65000 → ∃ rest, f c.1 st = (some rest, st + 1) ∧ rest.length ≤ b c.1) →
    ∀ (out last : List Row) (n st : Nat), out.length + cs.length ≤ 4096 → st + cs.length ≤ 65000 → ∃ rows, goL f cs out last n st = (some rows, st + cs.length) ∧ rows.length ≤ out.length + (cs.map fun c => b c.1).sum
  | [], _, out, last, n, st, _, _ => ⟨out, rfl, by simp⟩
  | (v, S) :: cs, hf, out, last, n, st, h1, h2 => by
    simp only [List.length_cons] at h1 h2
    obtain ⟨rest, hr, hl⟩ := hf (v, S) (by simp) st (by omega)
    have hb1 := hb v
    simp only at hr hl
    unfold goL
    rw [hr]
    simp only
    rw [if_neg (by omega)]
    have hf2 : ∀ c ∈ cs, ∀ st, st ≤ 65000 → ∃ rest, f c.1 st = (some rest, st + 1) ∧ rest.length ≤ b c.1 := fun c hc => hf c (by simp [hc])
    split
    · obtain ⟨rows, e, hl2⟩ := goL_few hb cs hf2 (mergeAt n S out) last n (st + 1) (by rw [mergeAt_len]; omega) (by omega)
      refine ⟨rows, by rw [e]; simp only [List.length_cons]; congr 1; omega, ?_⟩
      rw [mergeAt_len] at hl2
      simp only [List.map_cons, List.sum_cons]; omega
    · have hlen : (out ++ rest.map (S :: ·)).length = out.length + rest.length := by simp
      obtain ⟨rows, e, hl2⟩ := goL_few hb cs hf2 (out ++ rest.map (S :: ·)) rest out.length (st + 1) (by rw [hlen]; omega) (by omega)
      refine ⟨rows, by rw [e]; simp only [List.length_cons]; congr 1; omega, ?_⟩
      rw [hlen] at hl2
      simp only [List.map_cons, List.sum_cons]; omega
/-- no place is left, or one with one part: one step, one row at most; none, if nothing is met -/
theorem fromL_last (want : List Sp) (ls : List Lv) (sum : Int) (st : Nat) (h : ls = [] ∨ ∃ l, ls = [l] ∧ l.one = true) (hst : st ≤ 65000) :
    ∃ rest, fromL want ls sum st = (some rest, st + 1) ∧ rest.length ≤ (if meetsW want sum (sum + topS ls) then 1 else 0) := by
  rcases h with rfl | ⟨l, rfl, h1⟩
  · unfold fromL
    rw [if_neg (by omega)]
    have e : sum + topS [] = sum := by simp [topS]
    rw [e]
    by_cases hm : meetsW want sum sum
    · rw [if_neg (fun h => h hm), if_pos hm]; exact ⟨_, rfl, Nat.le_refl _⟩
    · rw [if_pos hm, if_neg hm]; exact ⟨_, rfl, Nat.le_refl _⟩
  · unfold fromL
    rw [if_neg (by omega)]
    by_cases hm : meetsW want sum (sum + topS [l])
    · rw [if_neg (fun h => h hm), if_pos hm]
      split
      · exact ⟨_, rfl, by simp⟩
      · rw [if_pos ⟨rfl, h1⟩]
        split
        · exact ⟨_, rfl, by simp⟩
        · exact ⟨_, rfl, by simp⟩
    · rw [if_pos hm, if_neg hm]; exact ⟨_, rfl, Nat.le_refl _⟩
/-- one place ahead of such ones, with not too many values -/
theorem fromL_ahead (want : List Sp) (l : Lv) (ls : List Lv) (sum : Int) (st : Nat) (h : ls = [] ∨ ∃ m, ls = [m] ∧ m.one = true) (hn : (numsL (valsOf l)).length ≤ 4096) (hst : st ≤ 50000) :
    ∃ rows st', fromL want (l :: ls) sum st = (some rows, st') ∧ rows.length ≤ 1 + ((choicesL l).map fun c => if meetsW want (sum + c.1) (sum + c.1 + topS ls) then 1 else 0).sum ∧ rows.length ≤ 4096 := by
  have hcl : (choicesL l).length = (numsL (valsOf l)).length := by unfold choicesL; rw [List.length_map]
  unfold fromL
  rw [if_neg (by omega)]
  split
  · exact ⟨_, _, rfl, by simp, by simp⟩
  split
  · exact ⟨_, _, rfl, by simp, by simp⟩
  split
  · split
    · exact ⟨_, _, rfl, by simp, by simp⟩
    · exact ⟨_, _, rfl, by simp, by simp⟩
  rw [if_neg (by omega)]
  obtain ⟨rows, e, hl⟩ := goL_few (f := fun v st => fromL want ls (sum + v) st) (b := fun v => if meetsW want (sum + v) (sum + v + topS ls) then 1 else 0) (fun v => by show (if _ then 1 else 0) ≤ 1; split <;> omega)
    (choicesL l) (fun c _ st hs => fromL_last want ls (sum + c.1) st h hs) [] [] 0 (st + 1) (by simp; omega) (by omega)
  refine ⟨rows, _, e, by simp at hl; omega, ?_⟩
  have hs : ((choicesL l).map fun c => if meetsW want (sum + c.1) (sum + c.1 + topS ls) then 1 else 0).sum ≤ (choicesL l).length := by
    generalize choicesL l = L
    induction L with
    | nil => simp
    | cons c L ih => simp only [List.map_cons, List.sum_cons, List.length_cons]; split <;> omega
  simp at hl
  omega
end Go.Proofs.Ytpmhdjiacgckjaa
end
section
namespace Go.Proofs.Ytpmhdjiacgckjaa
open Go.RowKit
set_option linter.unusedVariables false

abbrev Item (α : Type) := Option Addr × Nat × List α
def ival {α : Type} (i : Item α) : Value := .slice i.1 i.2.2.length i.2.1
def icells {α : Type} (L : List (Item α)) : List Value := L.map ival
def bodies {α : Type} (L : List (Item α)) : List (List α) := L.map fun i => i.2.2
theorem icells_length {α : Type} (L : List (Item α)) : (icells L).length = L.length := by simp [icells]
theorem icells_append {α : Type} (L M : List (Item α)) : icells (L ++ M) = icells L ++ icells M := by simp [icells]
theorem bodies_append {α : Type} (L M : List (Item α)) : bodies (L ++ M) = bodies L ++ bodies M := by simp [bodies]
theorem bodies_length {α : Type} (L : List (Item α)) : (bodies L).length = L.length := by simp [bodies]
theorem icells_one {α : Type} (L : List (Item α)) : ∀ u ∈ icells L, u.oneCell' = true := by
  intro u hu
  obtain ⟨i, _, rfl⟩ := List.mem_map.1 hu
  rfl
theorem icells_at {α : Type} {L : List (Item α)} {j : Nat} {i : Item α} (h : L[j]? = some i) : (icells L)[j]? = some (.slice i.1 i.2.2.length i.2.1) := by
  unfold icells; rw [List.getElem?_map, h]; rfl
theorem icells_set {α : Type} (L : List (Item α)) (j : Nat) (i : Item α) : (icells L).set j (.slice i.1 i.2.2.length i.2.1) = icells (L.set j i) := by
  unfold icells; rw [List.map_set]; rfl

/-- what holds of a slice's own elements stays so -/
def Lasts {α : Type} (R : Option Addr → List α → World → Prop) : Prop := ∀ A l w w', R A l w → Below w.heap.size w w' → R A l w'
def AllIt {α : Type} (R : Option Addr → List α → World → Prop) (L : List (Item α)) (w : World) : Prop := ∀ i ∈ L, R i.1 i.2.2 w
/-- a slice of slices -/
structure Items {α : Type} (R : Option Addr → List α → World → Prop) (A : Option Addr) (n : Nat) (L : List (Item α)) (w : World) : Prop where
  sl : Sl w 1 A n (icells L)
  it : AllIt R L w
section
variable {α : Type} {R : Option Addr → List α → World → Prop} {A : Option Addr} {n : Nat} {L M : List (Item α)} {w w' : World}
theorem AllIt.below (h : AllIt R L w) (hR : Lasts R) (hb : Below w.heap.size w w') : AllIt R L w' := fun i hi => hR _ _ _ _ (h i hi) hb
theorem AllIt.append (h : AllIt R L w) (k : AllIt R M w) : AllIt R (L ++ M) w := fun i hi => (List.mem_append.1 hi).elim (h i) (k i)
theorem AllIt.one {i : Item α} (h : R i.1 i.2.2 w) : AllIt R [i] w := fun j hj => by simp at hj; subst hj; exact h
theorem AllIt.sub (h : AllIt R L w) (hs : ∀ i ∈ M, i ∈ L) : AllIt R M w := fun i hi => h i (hs i hi)
theorem AllIt.at_ (h : AllIt R L w) {j : Nat} {i : Item α} (hj : L[j]? = some i) : R i.1 i.2.2 w := h i (List.mem_of_getElem? hj)
theorem Items.len (h : Items R A n L w) : L.length = n := by have := h.sl.len; rw [icells_length] at this; omega
theorem Items.at_ (h : Items R A n L w) {j : Nat} (hj : j < n) : ∃ b off a c l, A = some ⟨b, off, none⟩ ∧ L[j]? = some (a, c, l) ∧ w.cell? ⟨b, off + j, none⟩ = some (.slice a l.length c) ∧ R a l w := by
  obtain ⟨b, off, hA, hc⟩ := h.sl.2 (by omega)
  have hl := h.len
  have hx : L[j]? = some (L[j]'(by omega)) := List.getElem?_eq_getElem (by omega)
  exact ⟨b, off, _, _, _, hA, hx, hc j _ (icells_at hx), h.it.at_ hx⟩
theorem Items.below (h : Items R A n L w) (hR : Lasts R) (hb : Below w.heap.size w w') : Items R A n L w' := ⟨Sl.below (B := 0) h.sl hb, h.it.below hR hb⟩
theorem Items.nil_ (R : Option Addr → List α → World → Prop) (w : World) (A : Option Addr) : Items R A 0 [] w := ⟨Sl.nil_ _ _ _, fun i hi => by cases hi⟩
theorem Items.take {k : Nat} (h : Items R A n L w) (hk : k ≤ n) : Items R A k (L.take k) w := by
  refine ⟨?_, h.it.sub fun i hi => List.mem_of_mem_take hi⟩
  have := Sl.take h.sl hk
  rwa [Nat.mul_one, icells, ← List.map_take] at this
end
end Go.Proofs.Ytpmhdjiacgckjaa
end
