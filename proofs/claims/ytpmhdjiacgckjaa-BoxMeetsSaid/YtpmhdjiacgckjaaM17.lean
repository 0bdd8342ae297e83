/- Contract of (*box.finder).from: the rows of the places from one on, as fromL says. Condition: the finder is known, sums and tops are not great. -/
import Derived.Test.YtpmhdjiacgckjaaM15
import Derived.Test.YtpmhdjiacgckjaaM16
section
namespace Go.Proofs.Ytpmhdjiacgckjaa
open Go.RowKit Go.Shelf
set_option linter.unusedVariables false
set_option linter.unusedSimpArgs false
/-- these places are the finder's -/
structure FdLv (f : FdI) (lvs : List Lv) : Prop where
  len : lvs.length = f.pl.length
  at_ : ∀ (k : Nat) l, lvs[k]? = some l → ∃ (xi : Nat) (ga : Option Addr) (gc : Nat) (qa : Option Addr) (qc : Nat) (ps : List PartL), f.pl[k]? = some (xi : Int) ∧ f.gs[xi]? = some (ga, gc, l.g) ∧ f.qs[k]? = some (qa, qc, ps) ∧ ps ≠ [] ∧ ps.length ≤ 8 ∧
    (∀ p ∈ ps, bitsB p.2.1 p.2.2.1 p.2.2.2 = true) ∧ l.val = sumP ps ∧ l.one = decide (ps.length = 1)
  ms : ∀ k, k ≤ lvs.length → f.ms[k]? = some (topS (lvs.drop k))
  ok : lvsOk lvs
  sym : ∀ l ∈ lvs, ∀ x, InS l.g x → 0 ≤ x ∧ x ≤ 2097151
  top : topS lvs ≤ 536870912
theorem goL_st {f : Int → Nat → Option (List Row) × Nat} (hf : ∀ v st r st', f v st = (some r, st') → st ≤ 65536 → st' ≤ 65536) : ∀ (cs : List (Int × List Sp)) (out last : List Row) (n st : Nat) (r : List Row) (st' : Nat), goL f cs out last n st = (some r, st') → st ≤ 65536 → st' ≤ 65536
  | [], out, last, n, st, r, st', he, hs => by
    unfold goL at he; injection he with _ he; omega
  | (v, S) :: cs, out, last, n, st, r, st', he, hs => by
    unfold goL at he
    rcases hfv : f v st with ⟨_ | rest, st2⟩
    · rw [hfv] at he; simp at he
    · rw [hfv] at he
      simp only at he
      have h2 := hf v st rest st2 hfv hs
      split at he
      · cases he
      · split at he
        · exact goL_st hf cs _ _ _ _ _ _ he h2
        · exact goL_st hf cs _ _ _ _ _ _ he h2
theorem fromL_st (want : List Sp) : ∀ (ls : List Lv) (sum : Int) (st : Nat) (r : List Row) (st' : Nat), fromL want ls sum st = (some r, st') → st' ≤ 65536
  | [], sum, st, r, st', he => by
    unfold fromL at he
    split at he
    · cases he
    · split at he <;> (injection he with _ he; omega)
  | l :: ls, sum, st, r, st', he => by
    unfold fromL at he
    split at he
    · cases he
    split at he
    · injection he with _ he; omega
    split at he
    · injection he with _ he; omega
    split at he
    · split at he <;> (injection he with _ he; omega)
    split at he
    · cases he
    · exact goL_st (fun v st r st' h _ => fromL_st want ls (sum + v) st r st' h) _ _ _ _ _ _ _ he (by omega)
theorem top_nonneg {l : Lv} (h : LvOk l) : 0 ≤ l.top := by
  obtain ⟨p, g', hg⟩ : ∃ p g', l.g = p :: g' := by
    cases hg : l.g with
    | nil => exact absurd hg h.ne
    | cons p g' => exact ⟨p, g', rfl⟩
  have hp := h.pl
  rw [hg] at hp
  have hx : InS l.g p.1 := by rw [hg]; exact (InS_iff _ _).2 ⟨p, List.mem_cons_self .., Int.le_refl _, hp.2.1⟩
  have := h.lo _ hx; have := h.hi _ hx; omega
theorem topS_nonneg {ls : List Lv} (h : lvsOk ls) : 0 ≤ topS ls := by
  induction ls with
  | nil => simp [topS]
  | cons l ls ih =>
    have := top_nonneg (h l (List.mem_cons_self ..))
    have := ih fun m hm => h m (List.mem_cons_of_mem _ hm)
    simp only [topS]; omega
theorem topS_drop {ls : List Lv} (h : lvsOk ls) (k : Nat) : topS (ls.drop k) ≤ topS ls := by
  induction ls generalizing k with
  | nil => simp
  | cons l ls ih =>
    cases k with
    | zero => simp
    | succ k =>
      have := top_nonneg (h l (List.mem_cons_self ..))
      have := ih (fun m hm => h m (List.mem_cons_of_mem _ hm)) k
      simp only [List.drop_succ_cons, topS]; omega
theorem goL_len {f : Int → Nat → Option (List Row) × Nat} {B : Nat} (hf : ∀ v st r st', f v st = (some r, st') → r.length ≤ B) : ∀ (cs : List (Int × List Sp)) (out last : List Row) (n st : Nat) (r : List Row) (st' : Nat), goL f cs out last n st = (some r, st') → out.length ≤ 4096 + B → r.length ≤ 4096 + B
  | [], out, last, n, st, r, st', he, hs => by
    unfold goL at he; injection he with he _; injection he with he; subst he; exact hs
  | (v, S) :: cs, out, last, n, st, r, st', he, hs => by
    unfold goL at he
    rcases hfv : f v st with ⟨_ | rest, st2⟩
    · rw [hfv] at he; simp at he
    · rw [hfv] at he
      simp only at he
      have h2 := hf v st rest st2 hfv
      split at he
      · cases he
      · split at he
        · exact goL_len hf cs _ _ _ _ _ _ he (by rw [mergeAt_len]; omega)
        · exact goL_len hf cs _ _ _ _ _ _ he (by rw [List.length_append, List.length_map]; omega)
theorem fromL_len (want : List Sp) : ∀ (ls : List Lv) (sum : Int) (st : Nat) (r : List Row) (st' : Nat), fromL want ls sum st = (some r, st') → r.length ≤ 4096 * ls.length + 1
  | [], sum, st, r, st', he => by
    unfold fromL at he
    split at he
    · cases he
    · split at he <;> (injection he with he _; injection he with he; subst he; simp)
  | l :: ls, sum, st, r, st', he => by
    unfold fromL at he
    split at he
    · cases he
    split at he
    · injection he with he _; injection he with he; subst he; simp
    split at he
    · injection he with he _; injection he with he; subst he; simp
    split at he
    · split at he <;> (injection he with he _; injection he with he; subst he; simp)
    split at he
    · cases he
    · have := goL_len (B := 4096 * ls.length + 1) (fun v st r st' h => fromL_len want ls (sum + v) st r st' h) _ _ _ _ _ _ _ he (by simp)
      simp only [List.length_cons]; omega
theorem topS_mem {ls : List Lv} (h : lvsOk ls) {m : Lv} (hm : m ∈ ls) : m.top ≤ topS ls := by
  induction ls with
  | nil => cases hm
  | cons l ls ih =>
    have h1 := top_nonneg (h l (List.mem_cons_self ..))
    have h2 := topS_nonneg (ls := ls) fun m hm => h m (List.mem_cons_of_mem _ hm)
    simp only [topS]
    rcases List.mem_cons.1 hm with rfl | hm
    · omega
    · have := ih (fun m hm => h m (List.mem_cons_of_mem _ hm)) hm; omega
theorem rowOk_plain : ∀ {ls : List Lv} {r : Row}, rowOk ls r → ∀ s ∈ r, Plain s
  | [], [], _, s, hs => (by cases hs)
  | l :: ls, t :: r, h, s, hs => by
    rcases List.mem_cons.1 hs with rfl | hs
    · exact h.1.1
    · exact rowOk_plain h.2 s hs
  | [], _ :: _, h, _, _ => h.elim
  | _ :: _, [], h, _, _ => h.elim
theorem rowOk_len : ∀ {ls : List Lv} {r : Row}, rowOk ls r → r.length = ls.length
  | [], [], _ => rfl
  | l :: ls, t :: r, h => by simp [rowOk_len h.2]
  | [], _ :: _, h => h.elim
  | _ :: _, [], h => h.elim
noncomputable def choR (l : Lv) : Option (List (Int × List Sp)) := open Classical in if 4096 < (numsL (valsOf l)).length then none else some (choicesL l)
section
variable {w0 w : World} {F : World → Prop}
/-- the choices of a place, whatever its parts -/
theorem choices_st (hK : Hid (St w0 w F)) (f : FdI) (fb : Nat) (st : Int) (hF : ∀ W, F W → FdW f W ∧ FdBox fb f st W) (hok : Hid (FdOk f)) {lvs : List Lv} (hlv : Hid (FdLv f lvs)) {k : Nat} {l : Lv} (hl : lvs[k]? = some l) :
    Calls Try.prog 56 #[.pointer (some ⟨fb, 0, none⟩), .int .i64 k] w (RetCh w0 w (choR l) F) := by
  obtain ⟨xi, ga, gc, qa, qc, ps, h1, h2, h3, hne, h8, hbt, hval, hone⟩ := hlv.out.at_ k l hl
  have hlm := List.mem_of_getElem? hl
  have hlok := hlv.out.ok l hlm
  have hsym := hlv.out.sym l hlm
  have htop : l.top ≤ 536870912 := by
    have h4 := topS_drop hlv.out.ok k
    have h5 := topS_nonneg (ls := lvs.drop (k + 1)) fun m hm => hlv.out.ok m (List.mem_of_mem_drop hm)
    rw [drop_cons? hl] at h4
    simp only [topS] at h4
    have := hlv.out.top; omega
  have hR := vals_rep hlok (by omega)
  have hcnt : cnt (valsOf l) = ((numsL (valsOf l)).length : Int) := (nums_length hR.1).symm
  by_cases h1p : ps.length = 1
  · obtain ⟨⟨a, d, t, u⟩, rfl⟩ : ∃ p, ps = [p] := by
      cases ps with
      | nil => simp at h1p
      | cons p ps => cases ps with
        | nil => exact ⟨p, rfl⟩
        | cons q ps => simp at h1p
    have hb : bitsB d t u = true := hbt _ (List.mem_cons_self ..)
    have hs1 : ∀ x, l.val x = pval d t u x := fun x => by rw [hval]; simp [sumP]
    have hv : Rep (valsOf l) (ImgS d t u l.g) := hR.congr fun v => by
      unfold ImgS Mem
      constructor
      · rintro ⟨x, hx, rfl⟩
        have := hsym x hx
        exact ⟨hb, x, ⟨by omega, by omega, hx⟩, this.1, this.2, (hs1 x).symm⟩
      · rintro ⟨_, x, ⟨_, _, hx⟩, _, _, rfl⟩
        exact ⟨x, hx, hs1 x⟩
    refine choices1_st hK f fb st hF hok (Lib.hid h1) (Lib.hid h2) (Lib.hid h3) (valsOf l) (Lib.hid hv) _ (Lib.hid ?_)
    unfold choR
    rw [hcnt]
    by_cases hbig : 4096 < (numsL (valsOf l)).length
    · rw [if_pos hbig, if_pos (by omega)]
    · rw [if_neg hbig, if_neg (by omega)]
      unfold choicesL
      congr 1
      refine List.map_congr_left fun v _ => ?_
      congr 2
      funext x
      refine propext ?_
      unfold PreS Mem
      constructor
      · rintro ⟨hx, rfl⟩
        have := hsym x hx
        have hpv := pval_bd hb x
        refine ⟨hb, ⟨by omega, by omega, hx⟩, this.1, this.2, by omega, by omega, ?_⟩
        rw [InS_iff]
        exact ⟨_, List.mem_cons_self .., by rw [hs1]; exact Int.le_refl _, by rw [hs1]; exact Int.le_refl _⟩
      · rintro ⟨_, ⟨_, _, hx⟩, _, _, _, _, h⟩
        obtain ⟨p, hp, h4, h5⟩ := (InS_iff _ _).1 h
        obtain rfl := List.mem_singleton.1 hp
        exact ⟨hx, by rw [hs1]; simp only at h4 h5; omega⟩
  · refine choices2_st hK f fb st hF hok (Lib.hid h1) (Lib.hid h2) (Lib.hid h3) (Lib.hid ⟨hlok.pl, hsym, hbt, h8, h1p, hlok.ne⟩) (valsOf l) (Lib.hid (hR.congr fun v => by rw [hval])) _ (Lib.hid ?_)
    unfold choR
    rw [hcnt]
    by_cases hbig : 4096 < (numsL (valsOf l)).length
    · rw [if_pos hbig, if_pos (by omega)]
    · rw [if_neg hbig, if_neg (by omega)]
      unfold choicesL
      rw [hval]; rfl
theorem fromL_nil0 {want : List Sp} {sum T : Int} {st : Nat} (hs : ¬ 65536 < st + 1) (hT : topS [] = T) (hm : ¬ meetsW want sum (sum + T)) : fromL want [] sum st = (some [], st + 1) := by
  have h0 : T = 0 := by rw [← hT]; rfl
  subst h0
  rw [Int.add_zero] at hm
  unfold fromL; rw [if_neg hs, if_pos hm]
theorem fromL_nil1 {want : List Sp} {sum T : Int} {st : Nat} (hs : ¬ 65536 < st + 1) (hT : topS [] = T) (hm : meetsW want sum (sum + T)) : fromL want [] sum st = (some [[]], st + 1) := by
  have h0 : T = 0 := by rw [← hT]; rfl
  subst h0
  rw [Int.add_zero] at hm
  unfold fromL; rw [if_neg hs, if_neg (fun h => h hm)]
section
variable {want : List Sp} {l : Lv} {ls : List Lv} {sum T : Int} {st : Nat} (hs : ¬ 65536 < st + 1) (hT : topS (l :: ls) = T)
include hs hT
theorem fromL_none (hm : ¬ meetsW want sum (sum + T)) : fromL want (l :: ls) sum st = (some [], st + 1) := by
  unfold fromL; rw [if_neg hs, hT, if_pos hm]
theorem fromL_all (hm : meetsW want sum (sum + T)) (hw : withinW want sum (sum + T)) : fromL want (l :: ls) sum st = (some [(l :: ls).map (·.g)], st + 1) := by
  unfold fromL; rw [if_neg hs, hT, if_neg (fun h => h hm), if_pos hw]
theorem fromL_one0 (hm : meetsW want sum (sum + T)) (hw : ¬ withinW want sum (sum + T)) (h1 : ls = [] ∧ l.one = true) (hn : plL (fun x => InS l.g x ∧ InS want (sum + l.val x)) = []) : fromL want (l :: ls) sum st = (some [], st + 1) := by
  unfold fromL; rw [if_neg hs, hT, if_neg (fun h => h hm), if_neg hw, if_pos h1, if_pos hn]
theorem fromL_one1 (hm : meetsW want sum (sum + T)) (hw : ¬ withinW want sum (sum + T)) (h1 : ls = [] ∧ l.one = true) (hn : ¬ plL (fun x => InS l.g x ∧ InS want (sum + l.val x)) = []) : fromL want (l :: ls) sum st = (some [[plL (fun x => InS l.g x ∧ InS want (sum + l.val x))]], st + 1) := by
  unfold fromL; rw [if_neg hs, hT, if_neg (fun h => h hm), if_neg hw, if_pos h1, if_neg hn]
theorem fromL_big (hm : meetsW want sum (sum + T)) (hw : ¬ withinW want sum (sum + T)) (h1 : ¬ (ls = [] ∧ l.one = true)) (hn : 4096 < (numsL (valsOf l)).length) : fromL want (l :: ls) sum st = (none, st + 1) := by
  unfold fromL; rw [if_neg hs, hT, if_neg (fun h => h hm), if_neg hw, if_neg h1, if_pos hn]
theorem fromL_go (hm : meetsW want sum (sum + T)) (hw : ¬ withinW want sum (sum + T)) (h1 : ¬ (ls = [] ∧ l.one = true)) (hn : ¬ 4096 < (numsL (valsOf l)).length) : fromL want (l :: ls) sum st = goL (fun v st => fromL want ls (sum + v) st) (choicesL l) [] [] 0 (st + 1) := by
  conv => lhs; unfold fromL
  rw [if_neg hs, hT, if_neg (fun h => h hm), if_neg hw, if_neg h1, if_neg hn]
end
theorem infoHdx2 : (Try.prog.info? 25).map (fun i => (i.zero, i.size, i.bytes)) = some (some (.slice none 0 0), 1, 24) := by kernel_rfl
def RetFr (w : World) (fb N : Nat) (f : FdI) (r : Option (List Row) × Nat) (e : Ending) (w' : World) : Prop :=
  Hid (FdBox fb f r.2 w') ∧ Hid (Only fb none w w') ∧
  ((r.1 = none ∧ e = .returned (.tuple #[.slice none 0 0, .bool false])) ∨
   ∃ A R c, r.1 = some (bodies2 R) ∧ e = .returned (.tuple #[.slice A R.length c, .bool true]) ∧ Hid (Dep (fun k => (k < N ∧ k ≠ fb) ∨ w.heap.size ≤ k) w' (RowsX A R)))
theorem restL_eq {f : FdI} {lvs : List Lv} (h : FdLv f lvs) (k : Nat) : restL f k = (lvs.drop k).map (·.g) := by
  unfold restL
  apply List.ext_getElem?
  intro i
  rw [List.getElem?_map, List.getElem?_map, List.getElem?_drop, List.getElem?_drop]
  rcases hl : lvs[k + i]? with _ | l
  · have h1 : lvs.length ≤ k + i := List.getElem?_eq_none_iff.1 hl
    rw [List.getElem?_eq_none (by rw [← h.len]; exact h1)]; rfl
  · obtain ⟨xi, ga, gc, qa, qc, ps, h1, h2, _⟩ := h.at_ _ l hl
    rw [h1]
    simp [bodies, h2]
theorem rowsX_one {P Q : Nat → Prop} {w4 : World} {A : Option Addr} {O : List (Item Sp)} {c : Nat} (h : Dep P w4 (LLx A O)) (hP : ∀ k, P k → k < w4.heap.size → Q k) (hQ : Q w4.heap.size) :
    Dep Q (w4.alloc (.cells #[.slice A O.length c] 25)) (RowsX (some ⟨w4.heap.size, 0, none⟩) [(A, c, O)]) := fun V hV => by
  have hn := heap_alloc_new w4 (.cells #[.slice A O.length c] 25)
  have hb := (hV w4.heap.size hQ (by simp)).trans hn
  refine ⟨⟨⟨by simp [icells], fun _ => ⟨w4.heap.size, 0, rfl, fun j u hu => ?_⟩⟩, fun x hx => ?_⟩, by simp⟩
  · have hj : j = 0 := by have := (List.getElem?_eq_some_iff.1 hu).1; simp [icells] at this; omega
    subst hj
    simp [icells, ival] at hu
    subst hu
    simp [World.cell?, hb]
  · obtain rfl := List.mem_singleton.1 hx
    exact h V fun k hp hk => (hV k (hP k hp hk) (by simp; omega)).trans (Below.heap_alloc _ _ _ hk)
theorem llx_one {P Q : Nat → Prop} {w4 : World} {A : Option Addr} {r : List Sp} {c : Nat} (h : Dep P w4 (Lst A r)) (hP : ∀ k, P k → k < w4.heap.size → Q k) (hQ : Q w4.heap.size) :
    Dep Q (w4.alloc (.cells #[.slice A r.length c] 26)) (LLx (some ⟨w4.heap.size, 0, none⟩) [(A, c, r)]) := fun V hV => by
  have hn := heap_alloc_new w4 (.cells #[.slice A r.length c] 26)
  have hb := (hV w4.heap.size hQ (by simp)).trans hn
  refine ⟨⟨⟨by simp [icells], fun _ => ⟨w4.heap.size, 0, rfl, fun j u hu => ?_⟩⟩, fun x hx => ?_⟩, by simp⟩
  · have hj : j = 0 := by have := (List.getElem?_eq_some_iff.1 hu).1; simp [icells] at this; omega
    subst hj
    simp [icells, ival] at hu
    subst hu
    simp [World.cell?, hb]
  · obtain rfl := List.mem_singleton.1 hx
    exact h V fun k hp hk => (hV k (hP k hp hk) (by simp; omega)).trans (Below.heap_alloc _ _ _ hk)
theorem FdBox.below {fb : Nat} {f : FdI} {st : Int} {w w' : World} (h : FdBox fb f st w) (hb : Below w.heap.size w w') : FdBox fb f st w' := by
  unfold FdBox at h ⊢
  exact (hb.block fb (Array.getElem?_eq_some_iff.1 h).1).trans h
theorem FdBox.set5 {fb : Nat} {f : FdI} {st st' : Int} {w : World} (h : FdBox fb f st w) : FdBox fb f st' (w.setCell ⟨fb, 5, none⟩ (.int .i64 st')) := by
  unfold FdBox at h ⊢
  rw [heap_setCell_same w fb 5 (fdCells f st) 61 (.int .i64 st') h]
  simp [fdCells]
theorem Only.of_set (w : World) (fb i : Nat) (v : Value) : Only fb none w (w.setCell ⟨fb, i, none⟩ v) := (Only.refl fb none w).setCell i v
theorem Only.setHigh {fb : Nat} {a b : World} (h : Only fb none a b) {blk i : Nat} {v : Value} (hb : a.heap.size ≤ blk) : Only fb none a (b.setCell ⟨blk, i, none⟩ v) :=
  ⟨h.os, h.tape, h.output, Nat.le_trans h.size (by simp [World.setCell]), fun k hk h1 h2 => (heap_setCell_other _ _ _ _ (fun e => by have e2 : k = blk := e; omega)).trans (h.block k hk h1 h2)⟩
theorem FdBox.same {fb : Nat} {f : FdI} {st : Int} {w w' : World} (h : FdBox fb f st w) (hb : w'.heap[fb]? = w.heap[fb]?) : FdBox fb f st w' := by
  unfold FdBox at h ⊢; exact hb.trans h
theorem bodies2_set (L : List RowI) (i : Nat) (x : RowI) : bodies2 (L.set i x) = (bodies2 L).set i (bodies x.2.2) := by unfold bodies2; rw [List.map_set]
theorem ownsRow_lit (W : World) (et : TypeId) (v : Value) : (W.alloc (.cells #[v] et)).ownsRow W.heap.size et 1 (.slice (some ⟨W.heap.size, 0, none⟩) 1 1) 1 [v] :=
  ⟨rfl, .inr ⟨W.heap.size, 1, #[v], rfl, Nat.le_refl _, heap_alloc_new W _, Nat.le_refl _, by unfold maxLen; omega, rfl, rfl⟩⟩
theorem own_some {W : World} {n sz : Nat} {et : TypeId} {A : Option Addr} {c l : Nat} {xs : List Value} (h : W.ownsRow n et sz (.slice A l c) l xs) (hl : 0 < l) : ∃ g, A = some ⟨g, 0, none⟩ ∧ n ≤ g ∧ g < W.heap.size ∧ l ≤ maxLen := by
  rcases h.2 with ⟨e, _⟩ | ⟨g, cap, cur, e, hg, hh, hc, hm, _⟩
  · injection e with _ e2; omega
  · injection e with e1; exact ⟨g, e1, hg, (Array.getElem?_eq_some_iff.1 hh).1, by omega⟩
theorem own_frozen {W : World} {n sz : Nat} {et : TypeId} {b c l : Nat} {xs : List Value} (h : W.ownsRow n et sz (.slice (some ⟨b, 0, none⟩) l c) l xs) (i : Nat) : W.frozen? ⟨b, i, none⟩ = false := by
  rcases h.2 with ⟨e, _⟩ | ⟨g, cap, cur, e, _, hh, _⟩
  · cases e
  · injection e with e1; injection e1 with e1; injection e1 with e1; subst e1
    simp [World.frozen?, hh]
theorem Only.thenBelow {fb : Nat} {a b c : World} (h : Only fb none a b) (k : Below b.heap.size b c) : Only fb none a c := h.trans (Only.of_below k) (Newer.refl _ _)
theorem Only.dep {fb N : Nat} {a b : World} {G : World → Prop} (h : Only fb none a b) (hG : Dep (fun k => k < N ∧ k ≠ fb) a G) : Dep (fun k => k < N ∧ k ≠ fb) b G := hG.step (fun k hp hl => h.block k hl hp.2 (by simp)) h.size (fun k hp _ => hp)
set_option maxRecDepth 100000 in
set_option maxHeartbeats 16000000 in
theorem from_st (f : FdI) (fb : Nat) (hok : Hid (FdOk f)) {lvs : List Lv} (hlv : Hid (FdLv f lvs)) (N : Nat) (hfN : fb < N) {F : World → Prop} (hF : ∀ W, F W → FdW f W) : ∀ (ls : List Lv) (k : Nat) (sum : Int) (st : Nat) (w : World), Hid (lvs.drop k = ls) → k ≤ lvs.length → 0 ≤ sum → sum + topS ls ≤ 536870912 →
    Hid (Dep (fun k => k < N ∧ k ≠ fb) w F) → N ≤ w.heap.size → Hid (FdBox fb f st w) → st ≤ 65536 →
    Calls Try.prog 37 #[.pointer (some ⟨fb, 0, none⟩), .int .i64 k, .int .i64 sum] w (RetFr w fb N f (fromL f.want ls sum st)) := by
  intro ls
  induction ls with
  | nil =>
    intro k sum st w hls hk hs0 hs1 hD hN hfb hst
    obtain rfl : k = f.pl.length := by
      have h := congrArg List.length hls.out
      rw [List.length_drop] at h
      have := hlv.out.len
      simp at h; omega
    have c5 : w.cell? ⟨fb, 5, none⟩ = some (.int .i64 st) := hfb.out.cell (i := 5) rfl
    have f5 : w.frozen? ⟨fb, 5, none⟩ = false := by have h := hfb.out; unfold FdBox at h; simp [World.frozen?, h]
    obtain ⟨w1, hw1⟩ : ∃ w1, w.setCell ⟨fb, 5, none⟩ (.int .i64 ((st : Int) + 1)) = w1 := ⟨_, rfl⟩
    have HF1 : Hid (FdBox fb f ((st : Int) + 1) w1) := Lib.hid (by rw [← hw1]; exact hfb.out.set5)
    have HO1 : Hid (Only fb none w w1) := Lib.hid (by rw [← hw1]; exact Only.of_set w fb 5 _)
    have HD1 := Lib.hid (HO1.out.dep hD.out)
    have hz1 : w1.heap.size = w.heap.size := by rw [← hw1]; simp
    have HZ1 := Lib.hid hz1
    go_enter Try.func37, Try.ntmps37
    by_cases hbig : 65536 < st + 1
    · have hbg : (st : Int) + 1 > 65536 := by omega
      have HR : Hid (fromL f.want ([]) sum st = (none, st + 1)) := Lib.hid (by unfold fromL; rw [if_pos hbig])
      have c51 : w1.cell? ⟨fb, 5, none⟩ = some (.int .i64 ((st : Int) + 1)) := HF1.out.cell (i := 5) rfl
      clear hbig
      go_wp2_with fail
      go_ret2
      rw [HR.out]
      exact ⟨HF1, HO1, .inl ⟨rfl, rfl⟩⟩
    · obtain ⟨s1, hs1e⟩ : ∃ s : Int, (st : Int) + 1 = s := ⟨_, rfl⟩
      have hbg : ¬ s1 > 65536 := by omega
      have hs1b : 0 ≤ s1 ∧ s1 ≤ 65536 := by omega
      rw [hs1e] at hw1 HF1
      have HNB := Lib.hid hbig
      have c51 : w1.cell? ⟨fb, 5, none⟩ = some (.int .i64 s1) := HF1.out.cell (i := 5) rfl
      have c40 : w1.cell? ⟨fb, 4, none⟩ = some (.slice f.ma f.ms.length f.mc) := HF1.out.cell (i := 4) rfl
      have hms := hlv.out.ms f.pl.length hk
      have hfw := hF _ HD1.out.now
      have hml : f.pl.length < f.ms.length := (List.getElem?_eq_some_iff.1 hms).1
      obtain ⟨mb, mo, mx, hma, hmx, _, hmc⟩ := hfw.ms.at_ hml
      rw [hms] at hmx
      injection hmx with hmx
      rw [← hmx, hls.out] at hmc
      rw [hma] at c40
      obtain ⟨T, hT⟩ : ∃ T, topS ([]) = T := ⟨_, rfl⟩
      have hT0 : 0 ≤ T := by rw [← hT]; exact topS_nonneg fun m hm => (by cases hm)
      rw [hT] at hmc hs1
      have HT := Lib.hid hT
      have hmi : (f.pl.length : Int) < (f.ms.length : Int) := by omega
      have HS1 : Hid (s1 = ((st + 1 : Nat) : Int)) := Lib.hid (by omega)
      have HK1 : Hid (St w1 w1 (fun W => F W ∧ FdBox fb f s1 W)) := Lib.hid (St.start fun W hW => ⟨HD1.out.st W hW, by
        have h := HF1.out
        unfold FdBox at h ⊢
        exact (hW.block fb (Array.getElem?_eq_some_iff.1 h).1).trans h⟩)
      have HKL := St.lit HK1 (sum, sum + T) (by intro p hp; simp at hp; subst hp; simp; omega)
      have c01 : (w1.alloc (.cells #[.int .i64 sum, .int .i64 (sum + T)] 52)).cell? ⟨fb, 0, none⟩ = some (.slice f.wa f.want.length f.wc) := cellAlloc _ (HF1.out.cell (i := 0) rfl)
      have hWnt : ∀ W, F W → Lst f.wa f.want W := fun W h => (hF W h).want
      have HWnt := Lib.hid hWnt
      obtain ⟨r, hr⟩ : ∃ r, Rep r (fun x => Mem [(sum, sum + T)] x ∧ Mem f.want x) := rep_all _ fun x hx => ⟨hx.1.1, hx.1.2.1⟩
      obtain ⟨q, hq⟩ : ∃ q, Rep q (fun x => Mem [(sum, sum + T)] x ∧ ¬ Mem f.want x) := rep_all _ fun x hx => ⟨hx.1.1, hx.1.2.1⟩
      have hone : ∀ x, Mem [(sum, sum + T)] x ↔ (sum ≤ x ∧ x ≤ sum + T) := fun x => by
        unfold Mem
        rw [InS_iff]
        constructor
        · rintro ⟨_, _, p, hp, h1, h2⟩
          obtain rfl := List.mem_singleton.1 hp
          exact ⟨h1, h2⟩
        · rintro ⟨h1, h2⟩
          exact ⟨by omega, by omega, _, List.mem_cons_self .., h1, h2⟩
      have hmt : meetsW f.want sum (sum + T) ↔ r ≠ [] := by
        constructor
        · rintro ⟨x, h1, h2, h3⟩
          exact rep_ne hr ⟨(hone x).2 ⟨h1, h2⟩, by omega, by omega, h3⟩
        · intro hne
          cases hrr : r with
          | nil => exact absurd hrr hne
          | cons p r' =>
            have hp := hr.1
            rw [hrr] at hp
            have hx : InS r p.1 := by rw [hrr]; exact (InS_iff _ _).2 ⟨p, List.mem_cons_self .., Int.le_refl _, hp.2.1⟩
            obtain ⟨h1, h2⟩ := (hr.2 _).1 hx
            exact ⟨p.1, ((hone _).1 h1).1, ((hone _).1 h1).2, h2.2.2⟩
      have hwt : withinW f.want sum (sum + T) ↔ q = [] := by
        constructor
        · intro h
          cases hqq : q with
          | nil => rfl
          | cons p q' =>
            have hp := hq.1
            rw [hqq] at hp
            have hx : InS q p.1 := by rw [hqq]; exact (InS_iff _ _).2 ⟨p, List.mem_cons_self .., Int.le_refl _, hp.2.1⟩
            obtain ⟨h1, h2⟩ := (hq.2 _).1 hx
            have h3 := (hone _).1 h1
            exact absurd ⟨by omega, by omega, h _ h3.1 h3.2⟩ h2
        · intro hn x h1 h2
          apply Classical.byContradiction
          intro hx
          exact rep_nil (hn ▸ hq) x ⟨(hone x).2 ⟨h1, h2⟩, fun h => hx h.2.2⟩
      have HR := Lib.hid hr
      have HQ := Lib.hid hq
      have HMT := Lib.hid hmt
      have HWT := Lib.hid hwt
      clear hbig hms hmx hT hfw hz1 hma hr hq hone hmt hwt hWnt
      by_cases hme : r = []
      · have hbm : (!decide (r = [])) = false := by simp [hme]
        have HNM : Hid (fromL f.want ([]) sum st = (some [], st + 1)) := Lib.hid (fromL_nil0 HNB.out HT.out fun h => (HMT.out.1 h) hme)
        clear hme
        go_wp2_with fail
        refine (Meets_st HKL (fun _ h => h.1) (fun _ h => HWnt.out _ h.2.1) 1 f.wc HR hbm).mono ?_
        rintro e w2 ⟨rfl, HK2⟩
        go_wp2_with fail
        go_ret2
        rw [HNM.out]
        exact ⟨by have h := HK2.out.now.2.2; rw [HS1.out] at h; exact Lib.hid h, Lib.hid (HO1.out.thenBelow HK2.out.2), .inr ⟨none, [], 0, rfl, rfl, Lib.hid fun V _ => ⟨Items.nil_ _ _ _, by simp⟩⟩⟩
      have hbm : (!decide (r = [])) = true := by simp [hme]
      have HME := Lib.hid hme
      clear hme
      go_wp2_with fail
      refine (Meets_st HKL (fun _ h => h.1) (fun _ h => HWnt.out _ h.2.1) 1 f.wc HR hbm).mono ?_
      rintro e w2 ⟨rfl, HK2⟩
      have c02 : w2.cell? ⟨fb, 0, none⟩ = some (.slice f.wa f.want.length f.wc) := HK2.out.now.2.2.cell (i := 0) rfl
      obtain ⟨vw, hvw⟩ : ∃ v, decide (q = []) = v := ⟨_, rfl⟩
      have HVW := Lib.hid hvw
      clear c40 hmc c5 f5 c51
      go_wp2_with fail
      refine (Within_st HK2 (fun _ h => h.1) (fun _ h => HWnt.out _ h.2.1) 1 f.wc HQ hvw).mono ?_
      rintro e w3 ⟨rfl, HK3⟩
      have c23 : w3.cell? ⟨fb, 2, none⟩ = some (.slice f.pa f.pl.length f.pc) := HK3.out.now.2.2.cell (i := 2) rfl
      have HRS : Hid (fromL f.want [] sum st = (some [[]], st + 1)) := Lib.hid (fromL_nil1 HNB.out HT.out (HMT.out.2 HME.out))
      cases vw with
      | true =>
        have HO3 := Lib.hid (HO1.out.thenBelow HK3.out.2)
        have HD3 := Lib.hid (HO3.out.dep hD.out)
        go_wp2_with fail
        refine (rest_st (P := fun k => k < N ∧ k ≠ fb) HD3 f fb s1 hF (Lib.hid HK3.out.now.2.2) hok f.pl.length (Nat.le_refl _)).mono ?_
        rintro e w4 ⟨A4, O4, c4, rfl, hO4, HD4, HB4⟩
        have HR4 : Hid (some [[]] = some (bodies2 [(A4, c4, O4)])) := Lib.hid (by
          have h := restL_eq hlv.out f.pl.length
          rw [hls.out] at h
          simp [bodies2, hO4, h])
        have HX4 : Hid (Dep (fun k => (k < N ∧ k ≠ fb) ∨ w.heap.size ≤ k) (w4.alloc (.cells #[.slice A4 O4.length c4] 25)) (RowsX (some ⟨w4.heap.size, 0, none⟩) [(A4, c4, O4)])) := Lib.hid (rowsX_one HD4.out (fun k hp _ => by
          rcases hp with hp | hp
          · exact .inl hp
          · right; have := HO3.out.size; omega) (by right; have := HO3.out.size; have := HB4.out.size; omega))
        clear hO4
        go_wp2_with fail
        go_ret2
        rw [HRS.out]
        have hB5 : Below w3.heap.size w3 (w4.alloc (.cells #[.slice A4 O4.length c4] 25)) := HB4.out.alloc HB4.out.size _
        refine ⟨Lib.hid ?_, Lib.hid (HO3.out.thenBelow hB5), .inr ⟨_, _, 1, HR4.out, rfl, HX4⟩⟩
        have h := HK3.out.now.2.2
        rw [HS1.out] at h
        unfold FdBox at h ⊢
        exact (hB5.block fb (Array.getElem?_eq_some_iff.1 h).1).trans h
      | false =>
        have HO3 := Lib.hid (HO1.out.thenBelow HK3.out.2)
        have HD3 := Lib.hid (HO3.out.dep hD.out)
        go_wp2_with fail
        refine (rest_st (P := fun k => k < N ∧ k ≠ fb) HD3 f fb s1 hF (Lib.hid HK3.out.now.2.2) hok f.pl.length (Nat.le_refl _)).mono ?_
        rintro e w4 ⟨A4, O4, c4, rfl, hO4, HD4, HB4⟩
        have HR4 : Hid (some [[]] = some (bodies2 [(A4, c4, O4)])) := Lib.hid (by
          have h := restL_eq hlv.out f.pl.length
          rw [hls.out] at h
          simp [bodies2, hO4, h])
        have HX4 : Hid (Dep (fun k => (k < N ∧ k ≠ fb) ∨ w.heap.size ≤ k) (w4.alloc (.cells #[.slice A4 O4.length c4] 25)) (RowsX (some ⟨w4.heap.size, 0, none⟩) [(A4, c4, O4)])) := Lib.hid (rowsX_one HD4.out (fun k hp _ => by
          rcases hp with hp | hp
          · exact .inl hp
          · right; have := HO3.out.size; omega) (by right; have := HO3.out.size; have := HB4.out.size; omega))
        clear hO4
        go_wp2_with fail
        go_ret2
        rw [HRS.out]
        have hB5 : Below w3.heap.size w3 (w4.alloc (.cells #[.slice A4 O4.length c4] 25)) := HB4.out.alloc HB4.out.size _
        refine ⟨Lib.hid ?_, Lib.hid (HO3.out.thenBelow hB5), .inr ⟨_, _, 1, HR4.out, rfl, HX4⟩⟩
        have h := HK3.out.now.2.2
        rw [HS1.out] at h
        unfold FdBox at h ⊢
        exact (hB5.block fb (Array.getElem?_eq_some_iff.1 h).1).trans h
  | cons l ls ih =>
  intro k sum st w hls hk hs0 hs1 hD hN hfb hst
  have hl : lvs[k]? = some l := by
    have h := congrArg (fun m => m[0]?) hls.out
    simpa using h
  have hkl : k < lvs.length := (List.getElem?_eq_some_iff.1 hl).1
  have c5 : w.cell? ⟨fb, 5, none⟩ = some (.int .i64 st) := hfb.out.cell (i := 5) rfl
  have f5 : w.frozen? ⟨fb, 5, none⟩ = false := by have h := hfb.out; unfold FdBox at h; simp [World.frozen?, h]
  obtain ⟨w1, hw1⟩ : ∃ w1, w.setCell ⟨fb, 5, none⟩ (.int .i64 ((st : Int) + 1)) = w1 := ⟨_, rfl⟩
  have HF1 : Hid (FdBox fb f ((st : Int) + 1) w1) := Lib.hid (by rw [← hw1]; exact hfb.out.set5)
  have HO1 : Hid (Only fb none w w1) := Lib.hid (by rw [← hw1]; exact Only.of_set w fb 5 _)
  have HD1 := Lib.hid (HO1.out.dep hD.out)
  have hz1 : w1.heap.size = w.heap.size := by rw [← hw1]; simp
  have HZ1 := Lib.hid hz1
  go_enter Try.func37, Try.ntmps37
  by_cases hbig : 65536 < st + 1
  · have hbg : (st : Int) + 1 > 65536 := by omega
    have HR : Hid (fromL f.want (l :: ls) sum st = (none, st + 1)) := Lib.hid (by unfold fromL; rw [if_pos hbig])
    have c51 : w1.cell? ⟨fb, 5, none⟩ = some (.int .i64 ((st : Int) + 1)) := HF1.out.cell (i := 5) rfl
    clear hbig
    go_wp2_with fail
    go_ret2
    rw [HR.out]
    exact ⟨HF1, HO1, .inl ⟨rfl, rfl⟩⟩
  · obtain ⟨s1, hs1e⟩ : ∃ s : Int, (st : Int) + 1 = s := ⟨_, rfl⟩
    have hbg : ¬ s1 > 65536 := by omega
    have hs1b : 0 ≤ s1 ∧ s1 ≤ 65536 := by omega
    rw [hs1e] at hw1 HF1
    have HNB := Lib.hid hbig
    have c51 : w1.cell? ⟨fb, 5, none⟩ = some (.int .i64 s1) := HF1.out.cell (i := 5) rfl
    have c40 : w1.cell? ⟨fb, 4, none⟩ = some (.slice f.ma f.ms.length f.mc) := HF1.out.cell (i := 4) rfl
    have hms := hlv.out.ms k hk
    have hfw := hF _ HD1.out.now
    have hml : k < f.ms.length := (List.getElem?_eq_some_iff.1 hms).1
    obtain ⟨mb, mo, mx, hma, hmx, _, hmc⟩ := hfw.ms.at_ hml
    rw [hms] at hmx
    injection hmx with hmx
    rw [← hmx, hls.out] at hmc
    rw [hma] at c40
    obtain ⟨T, hT⟩ : ∃ T, topS (l :: ls) = T := ⟨_, rfl⟩
    have hT0 : 0 ≤ T := by rw [← hT]; exact topS_nonneg fun m hm => hlv.out.ok m (by rw [← hls.out] at hm; exact List.mem_of_mem_drop hm)
    rw [hT] at hmc hs1
    have HT := Lib.hid hT
    have hmi : (k : Int) < (f.ms.length : Int) := by omega
    have IH := Lib.hid (@ih)
    have HL := Lib.hid hl
    have HS1 : Hid (s1 = ((st + 1 : Nat) : Int)) := Lib.hid (by omega)
    have HK1 : Hid (St w1 w1 (fun W => F W ∧ FdBox fb f s1 W)) := Lib.hid (St.start fun W hW => ⟨HD1.out.st W hW, by
      have h := HF1.out
      unfold FdBox at h ⊢
      exact (hW.block fb (Array.getElem?_eq_some_iff.1 h).1).trans h⟩)
    have HKL := St.lit HK1 (sum, sum + T) (by intro p hp; simp at hp; subst hp; simp; omega)
    have c01 : (w1.alloc (.cells #[.int .i64 sum, .int .i64 (sum + T)] 52)).cell? ⟨fb, 0, none⟩ = some (.slice f.wa f.want.length f.wc) := cellAlloc _ (HF1.out.cell (i := 0) rfl)
    have hWnt : ∀ W, F W → Lst f.wa f.want W := fun W h => (hF W h).want
    have HWnt := Lib.hid hWnt
    obtain ⟨r, hr⟩ : ∃ r, Rep r (fun x => Mem [(sum, sum + T)] x ∧ Mem f.want x) := rep_all _ fun x hx => ⟨hx.1.1, hx.1.2.1⟩
    obtain ⟨q, hq⟩ : ∃ q, Rep q (fun x => Mem [(sum, sum + T)] x ∧ ¬ Mem f.want x) := rep_all _ fun x hx => ⟨hx.1.1, hx.1.2.1⟩
    have hone : ∀ x, Mem [(sum, sum + T)] x ↔ (sum ≤ x ∧ x ≤ sum + T) := fun x => by
      unfold Mem
      rw [InS_iff]
      constructor
      · rintro ⟨_, _, p, hp, h1, h2⟩
        obtain rfl := List.mem_singleton.1 hp
        exact ⟨h1, h2⟩
      · rintro ⟨h1, h2⟩
        exact ⟨by omega, by omega, _, List.mem_cons_self .., h1, h2⟩
    have hmt : meetsW f.want sum (sum + T) ↔ r ≠ [] := by
      constructor
      · rintro ⟨x, h1, h2, h3⟩
        exact rep_ne hr ⟨(hone x).2 ⟨h1, h2⟩, by omega, by omega, h3⟩
      · intro hne
        cases hrr : r with
        | nil => exact absurd hrr hne
        | cons p r' =>
          have hp := hr.1
          rw [hrr] at hp
          have hx : InS r p.1 := by rw [hrr]; exact (InS_iff _ _).2 ⟨p, List.mem_cons_self .., Int.le_refl _, hp.2.1⟩
          obtain ⟨h1, h2⟩ := (hr.2 _).1 hx
          exact ⟨p.1, ((hone _).1 h1).1, ((hone _).1 h1).2, h2.2.2⟩
    have hwt : withinW f.want sum (sum + T) ↔ q = [] := by
      constructor
      · intro h
        cases hqq : q with
        | nil => rfl
        | cons p q' =>
          have hp := hq.1
          rw [hqq] at hp
          have hx : InS q p.1 := by rw [hqq]; exact (InS_iff _ _).2 ⟨p, List.mem_cons_self .., Int.le_refl _, hp.2.1⟩
          obtain ⟨h1, h2⟩ := (hq.2 _).1 hx
          have h3 := (hone _).1 h1
          exact absurd ⟨by omega, by omega, h _ h3.1 h3.2⟩ h2
      · intro hn x h1 h2
        apply Classical.byContradiction
        intro hx
        exact rep_nil (hn ▸ hq) x ⟨(hone x).2 ⟨h1, h2⟩, fun h => hx h.2.2⟩
    have HR := Lib.hid hr
    have HQ := Lib.hid hq
    have HMT := Lib.hid hmt
    have HWT := Lib.hid hwt
    clear hbig hms hmx hT hfw hz1 hma ih hl hr hq hone hmt hwt hWnt
    by_cases hme : r = []
    · have hbm : (!decide (r = [])) = false := by simp [hme]
      have HNM : Hid (fromL f.want (l :: ls) sum st = (some [], st + 1)) := Lib.hid (fromL_none HNB.out HT.out fun h => (HMT.out.1 h) hme)
      clear hme
      go_wp2_with fail
      refine (Meets_st HKL (fun _ h => h.1) (fun _ h => HWnt.out _ h.2.1) 1 f.wc HR hbm).mono ?_
      rintro e w2 ⟨rfl, HK2⟩
      go_wp2_with fail
      go_ret2
      rw [HNM.out]
      exact ⟨by have h := HK2.out.now.2.2; rw [HS1.out] at h; exact Lib.hid h, Lib.hid (HO1.out.thenBelow HK2.out.2), .inr ⟨none, [], 0, rfl, rfl, Lib.hid fun V _ => ⟨Items.nil_ _ _ _, by simp⟩⟩⟩
    have hbm : (!decide (r = [])) = true := by simp [hme]
    have HME := Lib.hid hme
    clear hme
    go_wp2_with fail
    refine (Meets_st HKL (fun _ h => h.1) (fun _ h => HWnt.out _ h.2.1) 1 f.wc HR hbm).mono ?_
    rintro e w2 ⟨rfl, HK2⟩
    have c02 : w2.cell? ⟨fb, 0, none⟩ = some (.slice f.wa f.want.length f.wc) := HK2.out.now.2.2.cell (i := 0) rfl
    obtain ⟨vw, hvw⟩ : ∃ v, decide (q = []) = v := ⟨_, rfl⟩
    have HVW := Lib.hid hvw
    have hkp : k < f.pl.length := by have := hlv.out.len; omega
    have hki : (k : Int) < (f.pl.length : Int) := by omega
    have hkn : ¬ (k : Int) = (f.pl.length : Int) := by omega
    clear c40 hmc c5 f5 c51
    go_wp2_with fail
    refine (Within_st HK2 (fun _ h => h.1) (fun _ h => HWnt.out _ h.2.1) 1 f.wc HQ hvw).mono ?_
    rintro e w3 ⟨rfl, HK3⟩
    have c23 : w3.cell? ⟨fb, 2, none⟩ = some (.slice f.pa f.pl.length f.pc) := HK3.out.now.2.2.cell (i := 2) rfl
    cases vw with
    | true => 
      have HRS : Hid (fromL f.want (l :: ls) sum st = (some [(l :: ls).map (·.g)], st + 1)) := Lib.hid (fromL_all HNB.out HT.out (HMT.out.2 HME.out) (HWT.out.2 (of_decide_eq_true HVW.out)))
      have HO3 := Lib.hid (HO1.out.thenBelow HK3.out.2)
      have HD3 := Lib.hid (HO3.out.dep hD.out)
      go_wp2_with fail
      refine (rest_st (P := fun k => k < N ∧ k ≠ fb) HD3 f fb s1 hF (Lib.hid HK3.out.now.2.2) hok k (by omega)).mono ?_
      rintro e w4 ⟨A4, O4, c4, rfl, hO4, HD4, HB4⟩
      have HR4 : Hid (some [(l :: ls).map (·.g)] = some (bodies2 [(A4, c4, O4)])) := Lib.hid (by
        have h := restL_eq hlv.out k
        rw [hls.out] at h
        simp [bodies2, hO4, h])
      have HX4 : Hid (Dep (fun k => (k < N ∧ k ≠ fb) ∨ w.heap.size ≤ k) (w4.alloc (.cells #[.slice A4 O4.length c4] 25)) (RowsX (some ⟨w4.heap.size, 0, none⟩) [(A4, c4, O4)])) := Lib.hid (rowsX_one HD4.out (fun k hp _ => by
        rcases hp with hp | hp
        · exact .inl hp
        · right; have := HO3.out.size; omega) (by right; have := HO3.out.size; have := HB4.out.size; omega))
      clear hO4
      go_wp2_with fail
      go_ret2
      rw [HRS.out]
      have hB5 : Below w3.heap.size w3 (w4.alloc (.cells #[.slice A4 O4.length c4] 25)) := HB4.out.alloc HB4.out.size _
      refine ⟨Lib.hid ?_, Lib.hid (HO3.out.thenBelow hB5), .inr ⟨_, _, 1, HR4.out, rfl, HX4⟩⟩
      have h := HK3.out.now.2.2
      rw [HS1.out] at h
      unfold FdBox at h ⊢
      exact (hB5.block fb (Array.getElem?_eq_some_iff.1 h).1).trans h
    | false =>
      have HNW : Hid (¬ withinW f.want sum (sum + T)) := Lib.hid fun h => of_decide_eq_false HVW.out (HWT.out.1 h)
      obtain ⟨xi, ga, gc, qa, qc, ps, hx, hg, hq, hpne, hp8, hpb, hval, hone⟩ := hlv.out.at_ k l HL.out
      obtain ⟨pb, po, gb, go, qb, qo, HP⟩ := PlK.of (F := fun W => Lst (some ⟨w1.heap.size, 0, none⟩) [(sum, sum + T)] W ∧ F W ∧ FdBox fb f s1 W) (fun W h => ⟨hF W h.2.1, h.2.2⟩) HK3.out.now hx hg hq
      have HP := Lib.hid HP
      obtain ⟨c13, c23', c33, cp, cg, cq, _, _⟩ := HP.out _ HK3.out.now
      have hgi : (xi : Int) < (f.gs.length : Int) := by have := (List.getElem?_eq_some_iff.1 hg).1; omega
      have hqi : (k : Int) < (f.qs.length : Int) := by have := (List.getElem?_eq_some_iff.1 hq).1; omega
      have HVAL := Lib.hid (And.intro hval hone)
      have HPS := Lib.hid (And.intro hpne (And.intro hp8 hpb))
      have HG := Lib.hid hg
      have HX := Lib.hid hx
      have HQQ := Lib.hid hq
      have hlls : lvs.length = k + 1 + ls.length := by have h := congrArg List.length hls.out; simp only [List.length_drop, List.length_cons] at h; omega
      have hlen := hlv.out.len
      clear c23 hpne hp8 hpb hval hone hx hg hq
      go_wp2_with fail
      refine wp_region_Z 13 (by kernel_rfl) (fun W => W.cell? ⟨fb, 1, none⟩ = some (.slice (some ⟨gb, go, none⟩) f.gs.length f.gc) ∧ W.cell? ⟨fb, 2, none⟩ = some (.slice (some ⟨pb, po, none⟩) f.pl.length f.pc) ∧
          W.cell? ⟨pb, po + k, none⟩ = some (.int .i64 xi) ∧ W.cell? ⟨gb, go + xi, none⟩ = some (.slice ga l.g.length gc)) ⟨c13, c23', cp, cg⟩ (fun hHeld => ?_)
      refine wpAnyZ_take (i := 0) (v := ?_) rfl (by kernel_rfl) (by kernel_rfl) (by kernel_rfl) (by kernel_rfl) (fun _ _ _ h => h) (Or.inl ⟨by first | kernel_rfl | rfl, ?_⟩) (by assumption) ?_
      rotate_left
      · intro w hSw; (try dsimp only at hSw); go_simp; (try with_reducible rfl)
      (try simp only [Act.put, List.getElem_toArray, List.getElem_cons_succ, List.getElem_cons_zero, List.setIfInBounds_toArray, List.set_cons_zero, List.set_cons_succ])
      refine wpAnyZ_take (i := 1) (v := ?_) rfl (by kernel_rfl) (by kernel_rfl) (by kernel_rfl) (by kernel_rfl) (fun _ _ _ h => h) (Or.inl ⟨by first | kernel_rfl | rfl, ?_⟩) (by assumption) ?_
      rotate_left
      · intro w hSw; (try dsimp only at hSw); go_simp; (try with_reducible rfl)
      (try simp only [Act.put, List.getElem_toArray, List.getElem_cons_succ, List.getElem_cons_zero, List.setIfInBounds_toArray, List.set_cons_zero, List.set_cons_succ])
      refine wpAnyZ_take (i := 2) (v := ?_) rfl (by kernel_rfl) (by kernel_rfl) (by kernel_rfl) (by kernel_rfl) (fun _ _ _ h => h) (Or.inl ⟨by first | kernel_rfl | rfl, ?_⟩) (by assumption) ?_
      rotate_left
      · intro w hSw; (try dsimp only at hSw); go_simp; (try with_reducible rfl)
      (try simp only [Act.put, List.getElem_toArray, List.getElem_cons_succ, List.getElem_cons_zero, List.setIfInBounds_toArray, List.set_cons_zero, List.set_cons_succ])
      refine wpAnyZ_take (i := 3) (v := ?_) rfl (by kernel_rfl) (by kernel_rfl) (by kernel_rfl) (by kernel_rfl) (fun _ _ _ h => h) (Or.inl ⟨by first | kernel_rfl | rfl, ?_⟩) (by assumption) ?_
      rotate_left
      · intro w hSw; (try dsimp only at hSw); go_simp; (try with_reducible rfl)
      (try simp only [Act.put, List.getElem_toArray, List.getElem_cons_succ, List.getElem_cons_zero, List.setIfInBounds_toArray, List.set_cons_zero, List.set_cons_succ])
      refine wpAnyZ_take (i := 4) (v := ?_) rfl (by kernel_rfl) (by kernel_rfl) (by kernel_rfl) (by kernel_rfl) (fun _ _ _ h => h) (Or.inl ⟨by first | kernel_rfl | rfl, ?_⟩) (by assumption) ?_
      rotate_left
      · intro w hSw; (try dsimp only at hSw); go_simp; (try with_reducible rfl)
      (try simp only [Act.put, List.getElem_toArray, List.getElem_cons_succ, List.getElem_cons_zero, List.setIfInBounds_toArray, List.set_cons_zero, List.set_cons_succ])
      refine wpAnyZ_take (i := 5) (v := ?_) rfl (by kernel_rfl) (by kernel_rfl) (by kernel_rfl) (by kernel_rfl) (fun _ _ _ h => h) (Or.inl ⟨by first | kernel_rfl | rfl, ?_⟩) (by assumption) ?_
      rotate_left
      · intro w hSw; (try dsimp only at hSw); go_simp; (try with_reducible rfl)
      (try simp only [Act.put, List.getElem_toArray, List.getElem_cons_succ, List.getElem_cons_zero, List.setIfInBounds_toArray, List.set_cons_zero, List.set_cons_succ])
      refine wpAnyZ_take (i := 6) (v := ?_) rfl (by kernel_rfl) (by kernel_rfl) (by kernel_rfl) (by kernel_rfl) (fun _ _ _ h => h) (Or.inl ⟨by first | kernel_rfl | rfl, ?_⟩) (by assumption) ?_
      rotate_left
      · intro w hSw; (try dsimp only at hSw); go_simp; (try with_reducible rfl)
      (try simp only [Act.put, List.getElem_toArray, List.getElem_cons_succ, List.getElem_cons_zero, List.setIfInBounds_toArray, List.set_cons_zero, List.set_cons_succ])
      refine wpAnyZ_take (i := 7) (v := ?_) rfl (by kernel_rfl) (by kernel_rfl) (by kernel_rfl) (by kernel_rfl) (fun _ _ _ h => h) (Or.inl ⟨by first | kernel_rfl | rfl, ?_⟩) (by assumption) ?_
      rotate_left
      · intro w hSw; (try dsimp only at hSw); go_simp; (try with_reducible rfl)
      (try simp only [Act.put, List.getElem_toArray, List.getElem_cons_succ, List.getElem_cons_zero, List.setIfInBounds_toArray, List.set_cons_zero, List.set_cons_succ])
      refine wpAnyZ_take (i := 8) (v := ?_) rfl (by kernel_rfl) (by kernel_rfl) (by kernel_rfl) (by kernel_rfl) (fun _ _ _ h => h) (Or.inl ⟨by first | kernel_rfl | rfl, ?_⟩) (by assumption) ?_
      rotate_left
      · intro w hSw; (try dsimp only at hSw); go_simp; (try with_reducible rfl)
      (try simp only [Act.put, List.getElem_toArray, List.getElem_cons_succ, List.getElem_cons_zero, List.setIfInBounds_toArray, List.set_cons_zero, List.set_cons_succ])
      refine wpAnyZ_take (i := 9) (v := ?_) rfl (by kernel_rfl) (by kernel_rfl) (by kernel_rfl) (by kernel_rfl) (fun _ _ _ h => h) (Or.inl ⟨by first | kernel_rfl | rfl, ?_⟩) (by assumption) ?_
      rotate_left
      · intro w hSw; (try dsimp only at hSw); go_simp; (try with_reducible rfl)
      (try simp only [Act.put, List.getElem_toArray, List.getElem_cons_succ, List.getElem_cons_zero, List.setIfInBounds_toArray, List.set_cons_zero, List.set_cons_succ])
      refine wpAnyZ_take (i := 10) (v := ?_) rfl (by kernel_rfl) (by kernel_rfl) (by kernel_rfl) (by kernel_rfl) (fun _ _ _ h => h) (Or.inl ⟨by first | kernel_rfl | rfl, ?_⟩) (by assumption) ?_
      rotate_left
      · intro w hSw; (try dsimp only at hSw); go_simp; (try with_reducible rfl)
      (try simp only [Act.put, List.getElem_toArray, List.getElem_cons_succ, List.getElem_cons_zero, List.setIfInBounds_toArray, List.set_cons_zero, List.set_cons_succ])
      refine wpAnyZ_take (i := 11) (v := ?_) rfl (by kernel_rfl) (by kernel_rfl) (by kernel_rfl) (by kernel_rfl) (fun _ _ _ h => h) (Or.inl ⟨by first | kernel_rfl | rfl, ?_⟩) (by assumption) ?_
      rotate_left
      · intro w hSw; (try dsimp only at hSw); go_simp; (try with_reducible rfl)
      (try simp only [Act.put, List.getElem_toArray, List.getElem_cons_succ, List.getElem_cons_zero, List.setIfInBounds_toArray, List.set_cons_zero, List.set_cons_succ])
      refine wpAnyZ_take (i := 12) (v := ?_) rfl (by kernel_rfl) (by kernel_rfl) (by kernel_rfl) (by kernel_rfl) (fun _ _ _ h => h) (Or.inl ⟨by first | kernel_rfl | rfl, ?_⟩) (by assumption) ?_
      rotate_left
      · intro w hSw; (try dsimp only at hSw); go_simp; (try with_reducible rfl)
      (try simp only [Act.put, List.getElem_toArray, List.getElem_cons_succ, List.getElem_cons_zero, List.setIfInBounds_toArray, List.set_cons_zero, List.set_cons_succ])
      refine wpAnyZ_last (i := 13) rfl (by kernel_rfl) (by kernel_rfl) rfl (fun K hK => ?_)
      go_simp
      refine hK.out _ _ ?_
      clear hK K hHeld
      have HK4 := Lib.hid (HK3.out.step ((Below.refl _ w3).drew))
      obtain ⟨w4, hw4⟩ : ∃ w4, w3.drew = w4 := ⟨_, rfl⟩
      rw [hw4] at HK4 ⊢
      clear hw4 c13 c23' c33 cp cg cq
      obtain ⟨c14, c24, c34, _, _, cq4, _, hPA⟩ := HP.out _ HK4.out.now
      obtain ⟨n1, hn1⟩ : ∃ n1 : Nat, n1 + 1 = f.pl.length := ⟨f.pl.length - 1, by omega⟩
      have hsub : (f.pl.length : Int) - 1 = (n1 : Int) := by omega
      have hn4 : n1 ≤ 4 := by have := hok.out.plen; omega
      have hiff : ls = [] ↔ k = n1 := ⟨fun h => by have h0 : ls.length = 0 := by rw [h]; rfl
                                                   omega, fun h => List.eq_nil_of_length_eq_zero (by omega)⟩
      have HIFF := Lib.hid hiff
      clear hlls hlen hki hkn hkp hkl hn1 hiff
      by_cases hA : ls = [] ∧ ps.length = 1
      · have HA := Lib.hid hA
        obtain rfl := HIFF.out.1 hA.1
        have hp1 : (ps.length : Int) = 1 := by omega
        clear hA
        obtain ⟨⟨a, d, t, u⟩, rfl⟩ : ∃ p, ps = [p] := by
          cases ps with
          | nil => simp at hp1
          | cons p ps => cases ps with
            | nil => exact ⟨p, rfl⟩
            | cons q ps => simp at hp1; omega
        obtain ⟨xb, xo, p0, hqa, hp0, _, hq1, hq2, hq3, hq4⟩ := hPA.at_ (j := 0) (by simp)
        obtain rfl : p0 = (a, d, t, u) := by simpa using hp0.symm
        subst hqa
        simp only [Nat.zero_mul, Nat.add_zero] at hq1 hq2 hq3 hq4
        have c04 : w4.cell? ⟨fb, 0, none⟩ = some (.slice f.wa f.want.length f.wc) := HK4.out.now.2.2.cell (i := 0) rfl
        obtain ⟨mv, hmv⟩ : ∃ r, Rep r (fun x => -1073741824 ≤ x ∧ x ≤ 1073741824 ∧ Mem f.want (x - -sum)) := rep_all _ fun x hx => ⟨hx.1, hx.2.1⟩
        have HMV := Lib.hid hmv
        have hb4 : bitsB d t u = true := HPS.out.2.2 _ (List.mem_cons_self ..)
        obtain ⟨r5, hr5⟩ : ∃ r, Rep r (PreS d t u l.g mv) := rep_all _ fun x hx => by have := hx.2.2; omega
        have HR5 := Lib.hid hr5
        have hsm := hlv.out.sym l (List.mem_of_getElem? HL.out)
        have hE : plL (fun x => InS l.g x ∧ InS f.want (sum + l.val x)) = r5 := plL_eq (hr5.congr fun x => by
          have hval : l.val x = pval d t u x := by rw [HVAL.out.1]; simp [sumP]
          have hpv := pval_bd hb4 x
          unfold PreS
          constructor
          · rintro ⟨_, ⟨_, _, hx⟩, _, _, h5⟩
            have h6 := (hmv.2 _).1 h5.2.2
            refine ⟨hx, ?_⟩
            rw [hval, show sum + pval d t u x = pval d t u x - -sum by omega]
            exact h6.2.2.2.2
          · rintro ⟨hx, h5⟩
            have := hsm x hx
            rw [hval, show sum + pval d t u x = pval d t u x - -sum by omega] at h5
            refine ⟨hb4, ⟨by omega, by omega, hx⟩, this.1, this.2, by omega, by omega, (hmv.2 _).2 ⟨by omega, by omega, by omega, by omega, h5⟩⟩)
        have HE := Lib.hid hE
        have HPC := Lib.hid (And.intro hq1 (And.intro hq2 (And.intro hq3 hq4)))
        have HK4p : Hid (St w1 w4 (fun W => (W.cell? ⟨xb, xo, none⟩ = some (.int .i64 a) ∧ W.cell? ⟨xb, xo + 1, none⟩ = some (.int .i64 d) ∧ W.cell? ⟨xb, xo + 2, none⟩ = some (.int .i64 t) ∧ W.cell? ⟨xb, xo + 3, none⟩ = some (.int .i64 u)) ∧ Lst (some ⟨w1.heap.size, 0, none⟩) [(sum, sum + T)] W ∧ F W ∧ FdBox fb f s1 W)) :=
          Lib.hid (HK4.out.add (Below.refl _ _) fun W hW => ⟨(hW.cell (lt_of_cell hq1)).trans hq1, (hW.cell (lt_of_cell hq2)).trans hq2, (hW.cell (lt_of_cell hq3)).trans hq3, (hW.cell (lt_of_cell hq4)).trans hq4⟩)
        have HGL : Hid (∀ W, (Lst (some ⟨w1.heap.size, 0, none⟩) [(sum, sum + T)] W ∧ F W ∧ FdBox fb f s1 W) → Lst ga l.g W) := Lib.hid fun W h => (HP.out W h).gl
        clear hp0 hmv hr5 hE hp1 hPA HPC
        go_wp2_with fail
        refine wp_region_Z 18 (by kernel_rfl) (fun W => W.cell? ⟨fb, 3, none⟩ = some (.slice (some ⟨qb, qo, none⟩) f.qs.length f.qc) ∧ W.cell? ⟨qb, qo + k, none⟩ = some (.slice (some ⟨xb, xo, none⟩) [(a, d, t, u)].length qc) ∧ W.cell? ⟨fb, 0, none⟩ = some (.slice f.wa f.want.length f.wc) ∧
            W.cell? ⟨xb, xo, none⟩ = some (.int .i64 a) ∧ W.cell? ⟨xb, xo + 1, none⟩ = some (.int .i64 d) ∧ W.cell? ⟨xb, xo + 2, none⟩ = some (.int .i64 t) ∧ W.cell? ⟨xb, xo + 3, none⟩ = some (.int .i64 u)) ⟨c34, cq4, c04, hq1, hq2, hq3, hq4⟩ (fun hHeld => ?_)
        refine wpAnyZ_take (i := 0) (v := ?_) rfl (by kernel_rfl) (by kernel_rfl) (by kernel_rfl) (by kernel_rfl) (fun _ _ _ h => h) (Or.inl ⟨by first | kernel_rfl | rfl, ?_⟩) (by assumption) ?_
        rotate_left
        · intro w hSw; (try dsimp only at hSw); go_simp; (try with_reducible rfl)
        (try simp only [Act.put, List.getElem_toArray, List.getElem_cons_succ, List.getElem_cons_zero, List.setIfInBounds_toArray, List.set_cons_zero, List.set_cons_succ])
        refine wpAnyZ_take (i := 1) (v := ?_) rfl (by kernel_rfl) (by kernel_rfl) (by kernel_rfl) (by kernel_rfl) (fun _ _ _ h => h) (Or.inl ⟨by first | kernel_rfl | rfl, ?_⟩) (by assumption) ?_
        rotate_left
        · intro w hSw; (try dsimp only at hSw); go_simp; (try with_reducible rfl)
        (try simp only [Act.put, List.getElem_toArray, List.getElem_cons_succ, List.getElem_cons_zero, List.setIfInBounds_toArray, List.set_cons_zero, List.set_cons_succ])
        refine wpAnyZ_take (i := 2) (v := ?_) rfl (by kernel_rfl) (by kernel_rfl) (by kernel_rfl) (by kernel_rfl) (fun _ _ _ h => h) (Or.inl ⟨by first | kernel_rfl | rfl, ?_⟩) (by assumption) ?_
        rotate_left
        · intro w hSw; (try dsimp only at hSw); go_simp; (try with_reducible rfl)
        (try simp only [Act.put, List.getElem_toArray, List.getElem_cons_succ, List.getElem_cons_zero, List.setIfInBounds_toArray, List.set_cons_zero, List.set_cons_succ])
        refine wpAnyZ_take (i := 3) (v := ?_) rfl (by kernel_rfl) (by kernel_rfl) (by kernel_rfl) (by kernel_rfl) (fun _ _ _ h => h) (Or.inl ⟨by first | kernel_rfl | rfl, ?_⟩) (by assumption) ?_
        rotate_left
        · intro w hSw; (try dsimp only at hSw); go_simp; (try with_reducible rfl)
        (try simp only [Act.put, List.getElem_toArray, List.getElem_cons_succ, List.getElem_cons_zero, List.setIfInBounds_toArray, List.set_cons_zero, List.set_cons_succ])
        refine wpAnyZ_take (i := 4) (v := ?_) rfl (by kernel_rfl) (by kernel_rfl) (by kernel_rfl) (by kernel_rfl) (fun _ _ _ h => h) (Or.inl ⟨by first | kernel_rfl | rfl, ?_⟩) (by assumption) ?_
        rotate_left
        · intro w hSw; (try dsimp only at hSw); go_simp; (try with_reducible rfl)
        (try simp only [Act.put, List.getElem_toArray, List.getElem_cons_succ, List.getElem_cons_zero, List.setIfInBounds_toArray, List.set_cons_zero, List.set_cons_succ])
        refine wpAnyZ_take (i := 5) (v := ?_) rfl (by kernel_rfl) (by kernel_rfl) (by kernel_rfl) (by kernel_rfl) (fun _ _ _ h => h) (Or.inl ⟨by first | kernel_rfl | rfl, ?_⟩) (by assumption) ?_
        rotate_left
        · intro w hSw; (try dsimp only at hSw); go_simp; (try with_reducible rfl)
        (try simp only [Act.put, List.getElem_toArray, List.getElem_cons_succ, List.getElem_cons_zero, List.setIfInBounds_toArray, List.set_cons_zero, List.set_cons_succ])
        refine wpAnyZ_take (i := 6) (v := ?_) rfl (by kernel_rfl) (by kernel_rfl) (by kernel_rfl) (by kernel_rfl) (fun _ _ _ h => h) (Or.inl ⟨by first | kernel_rfl | rfl, ?_⟩) (by assumption) ?_
        rotate_left
        · intro w hSw; (try dsimp only at hSw); go_simp; (try with_reducible rfl)
        (try simp only [Act.put, List.getElem_toArray, List.getElem_cons_succ, List.getElem_cons_zero, List.setIfInBounds_toArray, List.set_cons_zero, List.set_cons_succ])
        refine wpAnyZ_take (i := 7) (v := ?_) rfl (by kernel_rfl) (by kernel_rfl) (by kernel_rfl) (by kernel_rfl) (fun _ _ _ h => h) (Or.inl ⟨by first | kernel_rfl | rfl, ?_⟩) (by assumption) ?_
        rotate_left
        · intro w hSw; (try dsimp only at hSw); go_simp; (try with_reducible rfl)
        (try simp only [Act.put, List.getElem_toArray, List.getElem_cons_succ, List.getElem_cons_zero, List.setIfInBounds_toArray, List.set_cons_zero, List.set_cons_succ])
        refine wpAnyZ_take (i := 8) (v := ?_) rfl (by kernel_rfl) (by kernel_rfl) (by kernel_rfl) (by kernel_rfl) (fun _ _ _ h => h) (Or.inl ⟨by first | kernel_rfl | rfl, ?_⟩) (by assumption) ?_
        rotate_left
        · intro w hSw; (try dsimp only at hSw); go_simp; (try with_reducible rfl)
        (try simp only [Act.put, List.getElem_toArray, List.getElem_cons_succ, List.getElem_cons_zero, List.setIfInBounds_toArray, List.set_cons_zero, List.set_cons_succ])
        refine wpAnyZ_take (i := 9) (v := ?_) rfl (by kernel_rfl) (by kernel_rfl) (by kernel_rfl) (by kernel_rfl) (fun _ _ _ h => h) (Or.inl ⟨by first | kernel_rfl | rfl, ?_⟩) (by assumption) ?_
        rotate_left
        · intro w hSw; (try dsimp only at hSw); go_simp; (try with_reducible rfl)
        (try simp only [Act.put, List.getElem_toArray, List.getElem_cons_succ, List.getElem_cons_zero, List.setIfInBounds_toArray, List.set_cons_zero, List.set_cons_succ])
        refine wpAnyZ_take (i := 10) (v := ?_) rfl (by kernel_rfl) (by kernel_rfl) (by kernel_rfl) (by kernel_rfl) (fun _ _ _ h => h) (Or.inl ⟨by first | kernel_rfl | rfl, ?_⟩) (by assumption) ?_
        rotate_left
        · intro w hSw; (try dsimp only at hSw); go_simp; (try with_reducible rfl)
        (try simp only [Act.put, List.getElem_toArray, List.getElem_cons_succ, List.getElem_cons_zero, List.setIfInBounds_toArray, List.set_cons_zero, List.set_cons_succ])
        refine wpAnyZ_take (i := 11) (v := ?_) rfl (by kernel_rfl) (by kernel_rfl) (by kernel_rfl) (by kernel_rfl) (fun _ _ _ h => h) (Or.inl ⟨by first | kernel_rfl | rfl, ?_⟩) (by assumption) ?_
        rotate_left
        · intro w hSw; (try dsimp only at hSw); go_simp; (try with_reducible rfl)
        (try simp only [Act.put, List.getElem_toArray, List.getElem_cons_succ, List.getElem_cons_zero, List.setIfInBounds_toArray, List.set_cons_zero, List.set_cons_succ])
        refine wpAnyZ_take (i := 12) (v := ?_) rfl (by kernel_rfl) (by kernel_rfl) (by kernel_rfl) (by kernel_rfl) (fun _ _ _ h => h) (Or.inl ⟨by first | kernel_rfl | rfl, ?_⟩) (by assumption) ?_
        rotate_left
        · intro w hSw; (try dsimp only at hSw); go_simp; (try with_reducible rfl)
        (try simp only [Act.put, List.getElem_toArray, List.getElem_cons_succ, List.getElem_cons_zero, List.setIfInBounds_toArray, List.set_cons_zero, List.set_cons_succ])
        refine wpAnyZ_take (i := 13) (v := ?_) rfl (by kernel_rfl) (by kernel_rfl) (by kernel_rfl) (by kernel_rfl) (fun _ _ _ h => h) (Or.inl ⟨by first | kernel_rfl | rfl, ?_⟩) (by assumption) ?_
        rotate_left
        · intro w hSw; (try dsimp only at hSw); go_simp; (try with_reducible rfl)
        (try simp only [Act.put, List.getElem_toArray, List.getElem_cons_succ, List.getElem_cons_zero, List.setIfInBounds_toArray, List.set_cons_zero, List.set_cons_succ])
        refine wpAnyZ_take (i := 14) (v := ?_) rfl (by kernel_rfl) (by kernel_rfl) (by kernel_rfl) (by kernel_rfl) (fun _ _ _ h => h) (Or.inl ⟨by first | kernel_rfl | rfl, ?_⟩) (by assumption) ?_
        rotate_left
        · intro w hSw; (try dsimp only at hSw); go_simp; (try with_reducible rfl)
        (try simp only [Act.put, List.getElem_toArray, List.getElem_cons_succ, List.getElem_cons_zero, List.setIfInBounds_toArray, List.set_cons_zero, List.set_cons_succ])
        refine wpAnyZ_take (i := 15) (v := ?_) rfl (by kernel_rfl) (by kernel_rfl) (by kernel_rfl) (by kernel_rfl) (fun _ _ _ h => h) (Or.inl ⟨by first | kernel_rfl | rfl, ?_⟩) (by assumption) ?_
        rotate_left
        · intro w hSw; (try dsimp only at hSw); go_simp; (try with_reducible rfl)
        (try simp only [Act.put, List.getElem_toArray, List.getElem_cons_succ, List.getElem_cons_zero, List.setIfInBounds_toArray, List.set_cons_zero, List.set_cons_succ])
        refine wpAnyZ_ready (i := 16) (by kernel_rfl) rfl (fun K hK => ?_)
        go_simp
        rw [show IntKind.i64.wrap (-sum) = -sum from IntWalk.i64_in (-sum) (by omega)]
        refine (Move_st (Lib.hid (HK4p.out.step ((Below.refl _ w4).drew))) (fun _ h => HWnt.out _ h.2.2.1) f.wc HMV).mono ?_
        rintro e w5 ⟨A5, c5, rfl, HK5⟩
        have hP5 := HP.out _ HK5.out.now.2.2
        refine hK.out _ _ (⟨hP5.c3, hP5.cq, HK5.out.now.2.2.2.2.cell (i := 0) rfl, HK5.out.now.2.1⟩) (fun hHeld => ?_)
        clear hK K
        (try simp only [Act.put, List.getElem_toArray, List.getElem_cons_succ, List.getElem_cons_zero, List.setIfInBounds_toArray, List.set_cons_zero, List.set_cons_succ])
        refine wpAnyZ_ready (i := 17) (by kernel_rfl) rfl (fun K hK => ?_)
        go_simp
        refine (Pre_stN HK5 (fun _ h => HGL.out _ h.2.2) (fun _ h => h.1) gc c5 a d t u HR5).mono ?_
        rintro e w6 ⟨A6, c6, rfl, HO6, HK6, HB6⟩
        have hP6 := HP.out _ HK6.out.now.2.2.2
        refine hK.out _ _ (⟨hP6.c3, hP6.cq, HK6.out.now.2.2.2.2.2.cell (i := 0) rfl, HK6.out.now.2.2.1⟩) (fun hHeld => ?_)
        clear hK K
        (try simp only [Act.put, List.getElem_toArray, List.getElem_cons_succ, List.getElem_cons_zero, List.setIfInBounds_toArray, List.set_cons_zero, List.set_cons_succ])
        refine wpAnyZ_last (i := 18) rfl (by kernel_rfl) (by kernel_rfl) rfl (fun K hK => ?_)
        go_simp
        refine hK.out _ _ ?_
        clear hK K hHeld hP5 hP6 hq1 hq2 hq3 hq4 c34 cq4 c04 c14 c24
        have HOW := Lib.hid (HO1.out.thenBelow HK6.out.2)
        have HFX : Hid (FdBox fb f ((st + 1 : Nat) : Int) w6) := Lib.hid (by have h := HK6.out.now.2.2.2.2.2; rw [HS1.out] at h; exact h)
        have hone1 : ls = [] ∧ l.one = true := ⟨HA.out.1, by rw [HVAL.out.2]; rfl⟩
        by_cases hr0 : r5 = []
        · have HRS := Lib.hid (fromL_one0 HNB.out HT.out (HMT.out.2 HME.out) HNW.out hone1 (by rw [HE.out, hr0]))
          have hz : ¬ (r5.length : Int) > 0 := by rw [hr0]; simp
          clear hr0 hone1
          go_wp2_with fail
          go_ret2
          rw [HRS.out]
          exact ⟨HFX, HOW, .inr ⟨none, [], 0, rfl, rfl, Lib.hid fun V _ => ⟨Items.nil_ _ _ _, by simp⟩⟩⟩
        · have HRS := Lib.hid (fromL_one1 HNB.out HT.out (HMT.out.2 HME.out) HNW.out hone1 (by rw [HE.out]; exact hr0))
          have hz : (r5.length : Int) > 0 := by have := List.length_pos_iff.2 hr0; omega
          have hm6 : w.heap.size ≤ w6.heap.size := HOW.out.size
          have hd6 : Dep (fun k => w.heap.size ≤ k) w6 (Lst A6 r5) := fun V hV => HR5.out.1.lst (Sl.of_own (own_keep HO6.out fun g hg => by
            have h1 := HO6.out.lt g (by rw [own_ownA]; exact hg)
            exact hV g (by have := HK5.out.2.size; have := HO1.out.size; omega) h1.2)) V (Below.refl _ _)
          have hd7 := llx_one (c := c6) hd6 (fun k hp _ => hp) hm6
          have hd8 := rowsX_one (c := 1) hd7 (Q := fun k => (k < N ∧ k ≠ fb) ∨ w.heap.size ≤ k) (fun k hp _ => .inr hp) (.inr (by simp; omega))
          have HD8 := Lib.hid hd8
          clear hr0 hd6 hd7 hd8 hone1
          go_wp2_with fail
          go_ret2
          rw [HRS.out]
          have hB8 : Below w6.heap.size w6 ((w6.alloc (.cells #[.slice A6 r5.length c6] 26)).alloc (.cells #[.slice (some ⟨w6.heap.size, 0, none⟩) 1 1] 25)) := ((Below.refl _ _).alloc (Nat.le_refl _) _).alloc (by simp) _
          exact ⟨Lib.hid (HFX.out.below hB8), Lib.hid (HOW.out.thenBelow hB8), .inr ⟨_, _, 1, by rw [HE.out]; rfl, by simp, HD8⟩⟩
      · go_upto_region 10 with fail
        go_cut [103] (fun s wr => s = .bool false ∧ wr = w4)
        case first =>
          by_cases hk0 : ls = []
          · obtain rfl := HIFF.out.1 hk0
            have hp1 : ¬ (ps.length : Int) = 1 := fun h => hA ⟨hk0, by omega⟩
            clear hA hk0
            go_wp2_with fail
            go_meet
            exact ⟨congrArg Value.bool (by rw [beq_eq_false_iff_ne]; exact hp1), rfl⟩
          · have hk1 : ¬ (k : Int) = (n1 : Int) := fun h => hk0 (HIFF.out.2 (by omega))
            clear hA hk0
            go_wp2_with fail
            go_meet
            exact ⟨rfl, rfl⟩
        obtain ⟨rfl, rfl⟩ := hcut
        have hn11 : ¬ (ls = [] ∧ l.one = true) := fun h => hA ⟨h.1, by have h2 := h.2; rw [HVAL.out.2] at h2; exact of_decide_eq_true h2⟩
        have HN11 := Lib.hid hn11
        have HTOP : Hid (T = l.top + topS ls ∧ lvs.drop (k + 1) = ls) := Lib.hid ⟨by rw [← HT.out]; rfl, by have h := hls.out; rw [drop_cons? HL.out] at h; injection h⟩
        have hlsok : lvsOk ls := fun m hm => hlv.out.ok m (by rw [← HTOP.out.2] at hm; exact List.mem_of_mem_drop hm)
        have htl := topS_nonneg hlsok
        have hlok := hlv.out.ok l (List.mem_of_getElem? HL.out)
        have htop30 : l.top ≤ 1073741824 := by have := HTOP.out.1; omega
        have HCOK := Lib.hid (choice_ok hlok htop30)
        have HLOK := Lib.hid hlok
        clear hn11 hA hsub hn4 hPA c14 c24 c34 cq4 htl htop30 hlok
        go_wp2_with fail
        refine (choices_st HK4 f fb s1 (fun W h => ⟨hF W h.2.1, h.2.2⟩) hok hlv HL.out).mono ?_
        rintro e w5 ⟨HB5, HK5, hcase⟩
        have HO5 := Lib.hid (HO1.out.thenBelow HK5.out.2)
        have HF5 : Hid (FdBox fb f ((st + 1 : Nat) : Int) w5) := Lib.hid (by have h := HK5.out.now.2.2; rw [HS1.out] at h; exact h)
        rcases hcase with ⟨hch, rfl⟩ | ⟨AC, cC, C, hch, rfl, HDC⟩
        · have hbigc : 4096 < (numsL (valsOf l)).length := by
            unfold choR at hch
            apply Classical.byContradiction
            intro h
            rw [if_neg h] at hch; cases hch
          have HRS := Lib.hid (fromL_big HNB.out HT.out (HMT.out.2 HME.out) HNW.out HN11.out hbigc)
          clear hch hbigc
          go_wp2_with fail
          go_ret2
          rw [HRS.out]
          exact ⟨HF5, HO5, .inl ⟨rfl, rfl⟩⟩
        have hchL : ¬ 4096 < (numsL (valsOf l)).length ∧ choicesL l = C.map chV := by
          unfold choR at hch
          by_cases h : 4096 < (numsL (valsOf l)).length
          · rw [if_pos h] at hch; cases hch
          · rw [if_neg h] at hch; injection hch with hch; exact ⟨h, hch⟩
        have HCL := Lib.hid hchL.2
        have hCl : C.length ≤ 4096 := by
          have h := congrArg List.length hchL.2
          unfold choicesL at h
          rw [List.length_map, List.length_map] at h
          have := hchL.1; omega
        have HRES := Lib.hid (fromL_go HNB.out HT.out (HMT.out.2 HME.out) HNW.out HN11.out hchL.1)
        rw [HCL.out] at HRES
        have HD5 := Lib.hid (HO5.out.dep hD.out)
        obtain ⟨m0, hm0⟩ : ∃ m, w.heap.size = m := ⟨_, rfl⟩
        obtain ⟨n, hn⟩ : ∃ n, w5.heap.size = n := ⟨_, rfl⟩
        have HM0 := Lib.hid hm0
        have HNN := Lib.hid hn
        have hmn : m0 ≤ n := by have := HO5.out.size; omega
        have hNm : N ≤ m0 := by omega
        have hlsl : ls.length ≤ 4 := by have h1 := congrArg List.length HTOP.out.2; rw [List.length_drop] at h1; have := hlv.out.len; have := hok.out.plen; omega
        obtain ⟨BB, hBB⟩ : ∃ B, 4096 * ls.length + 1 = B := ⟨_, rfl⟩
        have hBB5 : BB ≤ 20480 := by omega
        have HBB : Hid (∀ (sum : Int) (st : Nat) r st', fromL f.want ls sum st = (some r, st') → r.length ≤ BB) := Lib.hid fun sum st r st' h => by rw [← hBB]; exact fromL_len _ _ _ _ _ _ h
        have HLS4 := Lib.hid hlsl
        clear hch hchL hm0 hn hBB hlsl
        go_wp2_with fail
        go_loopw [12, 13, 14, 138] (fun ov lv nv iv wr => ∃ (i : Nat) (A : Option Addr) (c : Nat) (L : List RowI) (Al : Option Addr) (cl : Nat) (Rl : List RowI) (nf stt : Nat), ov = .slice A L.length c ∧ lv = .slice Al Rl.length cl ∧ nv = .int .i64 nf ∧ iv = .int .i64 i ∧ i ≤ C.length ∧ nf ≤ L.length ∧ stt ≤ 65536 ∧ L.length ≤ 4096 + BB ∧
            Hid (goL (fun v st => fromL f.want ls (sum + v) st) ((C.map chV).drop i) (bodies2 L) (bodies2 Rl) nf stt = fromL f.want (l :: ls) sum st) ∧ Hid (∀ r ∈ bodies2 L, r ≠ [] ∧ ∀ s ∈ r, Plain s) ∧ Hid (FrI N fb m0 n A c L wr) ∧ Hid (Dep (FrP N fb m0 A L) wr (RowsX Al Rl)) ∧ Hid (FdBox fb f (stt : Int) wr) ∧ Hid (Only fb none w5 wr)) (fun _ _ _ iv _ => C.length - (intOf iv).toNat)
        case atStart => exact ⟨0, none, 0, [], none, 0, [], 0, st + 1, rfl, rfl, rfl, rfl, Nat.zero_le _, Nat.le_refl _, by have := HNB.out; omega, by simp, Lib.hid HRES.out.symm, Lib.hid (fun r hr => by cases hr), Lib.hid (FrI.nil_ _ _ _ _ _), Lib.hid fun V _ => ⟨Items.nil_ _ _ _, by simp⟩, HF5, Lib.hid (Only.refl _ _ _)⟩
        case round =>
        obtain ⟨i, A, c, L, Al, cl, Rl, nf, stt, rfl, rfl, rfl, rfl, hi, hnf, hstt, hLB, HSP, HPL, HFR, HRL, HFB, HOR⟩ := hrel
        by_cases hic : i < C.length
        · have HOwr := Lib.hid (HO5.out.trans HOR.out (Newer.refl _ _))
          have h4s : m0 ≤ wc.heap.size := by have h1 := (HO1.out.thenBelow HK4.out.2).size; have := HM0.out; omega
          have hch : ∀ {V : World}, Only fb none w5 V → ChAt AC C V := fun {V} hV => HDC.out V fun k hp hl => hV.block k hl (by omega) (by simp)
          obtain ⟨xb, xo, ⟨cv, ca, cc, cs⟩, hAC, hCx, hcc, _⟩ := RowsAt.at_ (hch HOR.out) (fun _ => rfl) hic
          have hcx0 := hcc 0 _ rfl
          have hcx1 := hcc 1 _ rfl
          have hcset : ∀ {V : World}, Only fb none w5 V → Lst ca cs V := fun {V} hV => (hch hV).it _ (List.mem_of_getElem? hCx)
          simp only [chC, ival, Nat.add_zero] at hcx0 hcx1
          have hdrop : (C.map chV).drop i = (cv, cs) :: (C.map chV).drop (i + 1) := drop_cons? (by rw [List.getElem?_map, hCx]; rfl)
          have hmemc : ((cv, cs) : Int × List Sp) ∈ choicesL l := by rw [HCL.out]; exact List.mem_map.2 ⟨_, List.mem_of_getElem? hCx, rfl⟩
          obtain ⟨hcR, x0, hx0, hxv⟩ := HCOK.out _ hmemc
          simp only at hcR hxv
          have hcv : 0 ≤ cv ∧ cv ≤ l.top := by rw [← hxv]; exact ⟨HLOK.out.lo _ hx0, HLOK.out.hi _ hx0⟩
          have hT2 := HTOP.out.1
          have htl : 0 ≤ topS ls := topS_nonneg fun m hm => hlv.out.ok m (by rw [← HTOP.out.2] at hm; exact List.mem_of_mem_drop hm)
          obtain ⟨bx, hbx⟩ : ∃ b, wr.heap.size = b := ⟨_, rfl⟩
          have HBX := Lib.hid hbx
          have hnb : n ≤ bx := by have h1 := HOR.out.size; have := HNN.out; omega
          obtain ⟨wb, hwb⟩ : ∃ W, wr.alloc (.cells #[.int .i64 cv, .slice ca cs.length cc] 88) = W := ⟨_, rfl⟩
          have hnew := heap_alloc_new wr (.cells #[.int .i64 cv, .slice ca cs.length cc] 88)
          rw [hwb, hbx] at hnew
          have HOb : Hid (Only fb none wr wb) := Lib.hid (by rw [← hwb]; exact (Only.refl _ _ _).alloc _)
          have hbs : wb.heap.size = bx + 1 := by rw [← hwb, ← hbx]; simp
          have HFb : Hid (FdBox fb f (stt : Int) wb) := Lib.hid (by rw [← hwb]; exact HFB.out.below ((Below.refl _ _).alloc (Nat.le_refl _) _))
          have hk1 : k + 1 ≤ lvs.length := (List.getElem?_eq_some_iff.1 HL.out).1
          have IHk := IH.out (k + 1) (sum + cv) stt wb (Lib.hid HTOP.out.2) hk1 (by omega) (by omega) (Lib.hid ((HOwr.out.trans HOb.out (Newer.refl _ _)).dep hD.out)) (by have := HM0.out; omega) HFb hstt
          rw [show ((k + 1 : Nat) : Int) = (k : Int) + 1 from rfl] at IHk
          have hsc : 0 ≤ sum + cv ∧ sum + cv ≤ 536870912 := by omega
          have hk4 : (k : Int) ≤ 4 := by have h1 := hok.out.plen; have h2 := hlv.out.len; omega
          rcases hfr : fromL f.want ls (sum + cv) stt with ⟨ro, st2⟩
          rw [hfr] at IHk
          have HFRR := Lib.hid hfr
          have IHK := Lib.hid IHk
          have HCX := Lib.hid hCx
          have HDROP := Lib.hid hdrop
          have HCR := Lib.hid hcR
          have hbx0 : wb.cell? ⟨bx, 0, none⟩ = some (.int .i64 cv) := by simp [World.cell?, hnew]
          have hbx1 : wb.cell? ⟨bx, 1, none⟩ = some (.slice ca cs.length cc) := by simp [World.cell?, hnew]
          have hci : (i : Int) < (C.length : Int) := by omega
          have HCS : Hid (∀ V, Only fb none w5 V → Lst ca cs V) := Lib.hid fun V h => hcset h
          have HCD : Hid (Dep (fun k => m0 ≤ k) w5 (Lst ca cs)) := Lib.hid fun V hV => (HDC.out V fun k hp hl => hV k (by omega) hl).it _ (List.mem_of_getElem? hCx)
          subst hAC
          clear hcc hdrop hmemc hx0 hxv hch hcset hCx hcR hT2 htl hfr IHk hnew hk1 h4s
          go_wp2_with fail
          refine IHK.out.mono ?_
          rintro e w6 ⟨HF6, HO6, hres⟩
          have HOw6 := Lib.hid (HOb.out.trans HO6.out (Newer.refl _ _))
          have HR6 : Hid (FrI N fb m0 n A c L w6) := Lib.hid (HFR.out.only HOw6.out hfN hNm hmn)
          have HL6 : Hid (Dep (FrP N fb m0 A L) w6 (RowsX Al Rl)) := Lib.hid (FrP.keep HRL.out HOw6.out.size (fun k hl hn => HOw6.out.block k hl hn (by simp)) hfN hNm)
          have HO56 := Lib.hid (HOR.out.trans HOw6.out (Newer.refl _ _))
          have hfx : bx ≠ fb := by omega
          have hbx61 : w6.cell? ⟨bx, 1, none⟩ = some (.slice ca cs.length cc) := (World.cell?_of_block (HO6.out.block bx (by omega) hfx (by simp))).trans hbx1
          have HBX6 := Lib.hid hbx61
          have HSP2 : Hid (fromL f.want (l :: ls) sum st = (match ro with
            | none => (none, st2)
            | some rest => if 4096 < (bodies2 L).length then (none, st2)
              else if rest ≠ [] ∧ rest = bodies2 Rl then goL (fun v st => fromL f.want ls (sum + v) st) ((C.map chV).drop (i + 1)) (mergeAt nf cs (bodies2 L)) (bodies2 Rl) nf st2
              else goL (fun v st => fromL f.want ls (sum + v) st) ((C.map chV).drop (i + 1)) (bodies2 L ++ rest.map (cs :: ·)) rest (bodies2 L).length st2)) := Lib.hid (by
            have h := HSP.out
            rw [HDROP.out] at h
            unfold goL at h
            simp only [HFRR.out] at h
            rw [← h]
            cases ro <;> rfl)
          rcases hres with ⟨hro, rfl⟩ | ⟨Ar, Rr, cr, hro, rfl, HDr⟩
          · simp only at hro
            subst hro
            clear hbx0 hbx1 hbx61
            go_wp2_with fail
            go_ret2
            rw [HSP2.out]
            exact ⟨HF6, Lib.hid (HO5.out.trans HO56.out (Newer.refl _ _)), .inl ⟨rfl, rfl⟩⟩
          simp only at hro
          subst hro
          by_cases hbigL : 4096 < L.length
          · have hbg : (L.length : Int) > 4096 := by omega
            have HSP3 : Hid (fromL f.want (l :: ls) sum st = (none, st2)) := Lib.hid (by rw [HSP2.out]; simp only; rw [if_pos (by rw [bodies2_length]; exact hbigL)])
            clear hbigL hbx0 hbx1 hbx61
            go_wp2_with fail
            go_ret2
            rw [HSP3.out]
            exact ⟨HF6, Lib.hid (HO5.out.trans HO56.out (Newer.refl _ _)), .inl ⟨rfl, rfl⟩⟩
          have hbg : ¬ (L.length : Int) > 4096 := by omega
          have HSP3 : Hid (fromL f.want (l :: ls) sum st = (if bodies2 Rr ≠ [] ∧ bodies2 Rr = bodies2 Rl then goL (fun v st => fromL f.want ls (sum + v) st) ((C.map chV).drop (i + 1)) (mergeAt nf cs (bodies2 L)) (bodies2 Rl) nf st2
              else goL (fun v st => fromL f.want ls (sum + v) st) ((C.map chV).drop (i + 1)) (bodies2 L ++ (bodies2 Rr).map (cs :: ·)) (bodies2 Rr) (bodies2 L).length st2)) := Lib.hid (by
            rw [HSP2.out]; simp only; rw [if_neg (by rw [bodies2_length]; exact hbigL)])
          have hst2 : st2 ≤ 65536 := fromL_st _ _ _ _ _ _ HFRR.out
          have hRrB : Rr.length ≤ BB := by have h := HBB.out _ _ _ _ HFRR.out; rwa [bodies2_length] at h
          have HRP : Hid (∀ r ∈ bodies2 Rr, r.length ≤ 4 ∧ ∀ s ∈ r, Plain s) := Lib.hid fun r hr => by
            have h1 := fromL_tells f.want ls (sum + cv) stt _ _ HFRR.out (fun m hm => hlv.out.ok m (by rw [← HTOP.out.2] at hm; exact List.mem_of_mem_drop hm)) (fun m hm => by
              have h2 : lvsOk ls := fun m hm => hlv.out.ok m (by rw [← HTOP.out.2] at hm; exact List.mem_of_mem_drop hm)
              have h3 := topS_mem h2 hm
              have h4 := HTOP.out.1
              have h5 := top_nonneg HLOK.out
              omega)
            exact ⟨by rw [rowOk_len (h1.ok r hr)]; exact HLS4.out, fun s hs => rowOk_plain (h1.ok r hr) s hs⟩
          have HD6 : Hid (Dep (FrP N fb m0 A L) w6 (RowsX Ar Rr)) := Lib.hid (HDr.out.mono fun k hp hl => by
            rcases hp with hp | hp
            · exact .inl hp
            · refine .inr ⟨by omega, fun e => by have := (HFR.out.lA k e).2; omega, fun y hy e => ?_⟩
              obtain ⟨b, _, e2, _, h4, _⟩ := HFR.out.rb hy
              rw [e2] at e; injection e with e; omega)
          have HK6 : Hid (St w6 w6 (fun W => RowsX Ar Rr W ∧ RowsX Al Rl W)) := Lib.hid (St.start fun W hW => ⟨HD6.out.st W hW, HL6.out.st W hW⟩)
          have HSP4 := HSP3
          clear hbx0 hbx1 hbx61 hbigL HSP2 HSP3
          go_upto_region 27 with fail
          go_cut [167] (fun s wr2 => ∃ v : Bool, s = .bool v ∧ Hid (pB (bodies2 Rr ≠ [] ∧ bodies2 Rr = bodies2 Rl) = v) ∧ Hid (Below w6.heap.size w6 wr2))
          case first =>
            by_cases hr0 : Rr = []
            · subst hr0
              go_wp2_with fail
              go_meet
              exact ⟨false, rfl, Lib.hid (pB_false fun h => h.1 rfl), Lib.hid (Below.refl _ _)⟩
            · have hgt : (Rr.length : Int) > 0 := by have := List.length_pos_iff.2 hr0; omega
              have hb0 : bodies2 Rr ≠ [] := fun h => hr0 (List.eq_nil_of_length_eq_zero (by have := congrArg List.length h; rwa [bodies2_length] at this))
              obtain ⟨v, hv⟩ : ∃ v, pB (bodies2 Rr = bodies2 Rl) = v := ⟨_, rfl⟩
              have HV := Lib.hid hv
              have HV2 : Hid (pB (bodies2 Rr ≠ [] ∧ bodies2 Rr = bodies2 Rl) = v) := Lib.hid (by rw [← hv]; congr 1; exact propext ⟨fun h => h.2, fun h => ⟨hb0, h⟩⟩)
              clear hr0 hb0 hv
              go_wp2_with (go_at_call 57; refine (alike_st HK6 (fun _ h => h.1) (fun _ h => h.2) cr cl v HV).mono ?_; rintro e w7 ⟨rfl, HK7⟩)
              go_meet
              exact ⟨v, rfl, HV2, Lib.hid HK7.out.2⟩
          obtain ⟨v, rfl, hv, HB7⟩ := hcut
          obtain ⟨w7, hw7⟩ : ∃ W, wc = W := ⟨_, rfl⟩
          rw [hw7] at HB7 ⊢
          clear hw7
          have HR7 : Hid (FrI N fb m0 n A c L w7) := Lib.hid (HR6.out.below HB7.out hfN hNm hmn)
          have HL7 : Hid (Dep (FrP N fb m0 A L) w7 (RowsX Al Rl)) := Lib.hid (FrP.keep HL6.out HB7.out.size (fun k hl _ => HB7.out.block k hl) hfN hNm)
          have HD7 : Hid (Dep (FrP N fb m0 A L) w7 (RowsX Ar Rr)) := Lib.hid (FrP.keep HD6.out HB7.out.size (fun k hl _ => HB7.out.block k hl) hfN hNm)
          have HF7 := Lib.hid (HF6.out.below HB7.out)
          have HO57 := Lib.hid (HO56.out.thenBelow HB7.out)
          have HBX7 : Hid (w7.cell? ⟨bx, 1, none⟩ = some (.slice ca cs.length cc)) := Lib.hid ((HB7.out.cell (lt_of_cell HBX6.out)).trans HBX6.out)
          have hn7 : n ≤ w7.heap.size := by have h1 := HO57.out.size; have := HNN.out; omega
          have hbx7 : bx < w7.heap.size := lt_of_cell HBX7.out
          have hLbx : ∀ y ∈ L, ∀ b, y.1 = some ⟨b, 0, none⟩ → b < bx := fun y hy b hb => by
            obtain ⟨b', e, _, _, h4, _⟩ := HFR.out.rb hy
            rw [e] at hb; injection hb with hb; injection hb with hb; rw [HBX.out] at h4; omega
          have HLBX := Lib.hid hLbx
          clear hLbx
          cases v with
          | true =>
            have hv2 : bodies2 Rr ≠ [] ∧ bodies2 Rr = bodies2 Rl := by
              apply Classical.byContradiction
              intro h
              have := pB_false h
              rw [hv.out] at this; cases this
            have HSP5 : Hid (fromL f.want (l :: ls) sum st = goL (fun v st => fromL f.want ls (sum + v) st) ((C.map chV).drop (i + 1)) (mergeAt nf cs (bodies2 L)) (bodies2 Rl) nf st2) := Lib.hid (by rw [HSP4.out, if_pos hv2])
            clear hv2
            go_wp2_with fail
            go_loopw [19] (fun jv wr3 => ∃ (j : Nat) (L3 : List RowI), jv = .int .i64 j ∧ nf ≤ j ∧ j ≤ L.length ∧ L3.length = L.length ∧ Hid (∀ q : Nat, (bodies2 L3)[q]? = if nf ≤ q ∧ q < j then ((bodies2 L)[q]?).map (headUn cs) else (bodies2 L)[q]?) ∧ Hid (∀ r ∈ bodies2 L3, r ≠ [] ∧ ∀ s ∈ r, Plain s) ∧ Hid (∀ y ∈ L3, ∀ b, y.1 = some ⟨b, 0, none⟩ → b < bx) ∧
              Hid (FrI N fb m0 n A c L3 wr3) ∧ Hid (Dep (FrP N fb m0 A L3) wr3 (RowsX Al Rl)) ∧ Hid (FdBox fb f (st2 : Int) wr3) ∧ Hid (Only fb none w5 wr3) ∧ Hid (wr3.cell? ⟨bx, 1, none⟩ = some (.slice ca cs.length cc))) (fun jv _ => L.length - (intOf jv).toNat)
            case atStart => exact ⟨nf, L, rfl, Nat.le_refl _, hnf, rfl, Lib.hid (fun q => by rw [if_neg (by omega)]), HPL, HLBX, HR7, HL7, HF7, HO57, HBX7⟩
            case round =>
            obtain ⟨wr3, rfl⟩ : ∃ wq : World, wq = wr := ⟨_, rfl⟩
            obtain ⟨j, L3, rfl, hj0, hj1, hj2, HPW, HPL3, HLB3, HR3, HL3, HF3, HO3, HB3⟩ := hrel
            by_cases hjl : j < L.length
            · have hX := (HR3.out.rows hNm hmn (by omega) (fun x hx => by
                obtain ⟨b, e, _, hrow⟩ := HR3.out.row x hx
                by_cases h0 : x.2.2.length = 0
                · omega
                · obtain ⟨_, _, _, _, h⟩ := own_some hrow (by omega)
                  unfold maxLen at h; omega)).now
              obtain ⟨gA, oA, ba, bc, bb, hA', hL3j, hbod, hcell, hll⟩ := hX.at_ (k := j) (by omega)
              have hpl3 := HPL3.out _ (List.mem_of_getElem? hbod)
              obtain ⟨⟨sa, sc, sl⟩, tl, rfl⟩ : ∃ s tl, bb = s :: tl := by
                cases bb with
                | nil => exact absurd rfl hpl3.1
                | cons s tl => exact ⟨s, tl, rfl⟩
              obtain ⟨b0, hb0, _, hrow⟩ := HR3.out.row _ (List.mem_of_getElem? hL3j)
              simp only at hb0
              subst hb0
              obtain ⟨gb', off', ba', bc', b', hA2, hx2, _, hc2, hl2⟩ := hll.at_ (k := 0) (by simp)
              injection hA2 with e; injection e with e1 e2; subst e1; subst e2
              simp only [List.getElem?_cons_zero] at hx2
              injection hx2 with e; injection e with e1 e; injection e with e2 e3; subst e1; subst e2; subst e3
              simp only [Nat.add_zero] at hc2
              have hplsl : Plain sl := hpl3.2 sl (by simp [bodies])
              have hplcs : Plain cs := HCR.out.1
              obtain ⟨r, hr⟩ : ∃ r, Rep r (fun x => Mem sl x ∨ Mem cs x) := rep_all _ fun x hx => by
                rcases hx with hx | hx
                · exact ⟨hx.1, hx.2.1⟩
                · exact ⟨hx.1, hx.2.1⟩
              have hun : unionL sl cs = r := plL_eq (hr.congr fun x => by rw [hplsl.mem x, hplcs.mem x])
              have HUN := Lib.hid hun
              have HRR := Lib.hid hr
              have hfz : wr3.frozen? ⟨b0, 0, none⟩ = false := own_frozen hrow 0
              have hbL := HLB3.out _ (List.mem_of_getElem? hL3j) b0 rfl
              have hbw : b0 < wr3.heap.size := lt_of_cell hc2
              have hnb0 : n ≤ b0 := (hrow.lt b0 rfl).1
              have hgw : gA < wr3.heap.size := lt_of_cell hcell
              have hLcs := HCS.out _ HO3.out
              have HKU : Hid (St wr3 wr3 (fun W => (W.cell? ⟨gA, oA + j, none⟩ = some (.slice (some ⟨b0, 0, none⟩) ((sa, sc, sl) :: tl).length bc) ∧ W.cell? ⟨b0, 0, none⟩ = some (.slice sa sl.length sc) ∧ W.cell? ⟨bx, 1, none⟩ = some (.slice ca cs.length cc)) ∧ Lst sa sl W ∧ Lst ca cs W)) :=
                Lib.hid (St.start fun W hW => ⟨⟨(hW.cell (lt_of_cell hcell)).trans hcell, (hW.cell (lt_of_cell hc2)).trans hc2, (hW.cell (lt_of_cell HB3.out)).trans HB3.out⟩, hl2.below hW, hLcs.below hW⟩)
              have HL3J := Lib.hid hL3j
              have HBOD := Lib.hid hbod
              have HPL := Lib.hid hpl3
              have hji : (j : Int) < (L.length : Int) := by omega
              have hn3 : n ≤ wr3.heap.size := by have h1 := HO3.out.size; have := HNN.out; omega
              have hbx3 := HB3.out
              subst hA'
              clear hX hll hl2 hun hr hrow hLcs hL3j hbod hpl3 hplsl hplcs hgw
              go_upto_region 31 with fail
              refine wp_region_Z 14 (by kernel_rfl) (fun W => W.cell? ⟨gA, oA + j, none⟩ = some (.slice (some ⟨b0, 0, none⟩) ((sa, sc, sl) :: tl).length bc) ∧ W.cell? ⟨b0, 0, none⟩ = some (.slice sa sl.length sc) ∧ W.cell? ⟨bx, 1, none⟩ = some (.slice ca cs.length cc)) ⟨hcell, hc2, hbx3⟩ (fun hHeld => ?_)
              refine wpAnyZ_take (i := 0) (v := ?_) rfl (by kernel_rfl) (by kernel_rfl) (by kernel_rfl) (by kernel_rfl) (fun _ _ _ h => h) (Or.inl ⟨by first | kernel_rfl | rfl, ?_⟩) (by assumption) ?_
              rotate_left
              · intro w hSw; (try dsimp only at hSw); go_simp; (try with_reducible rfl)
              (try simp only [Act.put, List.getElem_toArray, List.getElem_cons_succ, List.getElem_cons_zero, List.setIfInBounds_toArray, List.set_cons_zero, List.set_cons_succ])
              refine wpAnyZ_take (i := 1) (v := ?_) rfl (by kernel_rfl) (by kernel_rfl) (by kernel_rfl) (by kernel_rfl) (fun _ _ _ h => h) (Or.inl ⟨by first | kernel_rfl | rfl, ?_⟩) (by assumption) ?_
              rotate_left
              · intro w hSw; (try dsimp only at hSw); go_simp; (try with_reducible rfl)
              (try simp only [Act.put, List.getElem_toArray, List.getElem_cons_succ, List.getElem_cons_zero, List.setIfInBounds_toArray, List.set_cons_zero, List.set_cons_succ])
              refine wpAnyZ_take (i := 2) (v := ?_) rfl (by kernel_rfl) (by kernel_rfl) (by kernel_rfl) (by kernel_rfl) (fun _ _ _ h => h) (Or.inl ⟨by first | kernel_rfl | rfl, ?_⟩) (by assumption) ?_
              rotate_left
              · intro w hSw; (try dsimp only at hSw); go_simp; (try with_reducible rfl)
              (try simp only [Act.put, List.getElem_toArray, List.getElem_cons_succ, List.getElem_cons_zero, List.setIfInBounds_toArray, List.set_cons_zero, List.set_cons_succ])
              refine wpAnyZ_take (i := 3) (v := ?_) rfl (by kernel_rfl) (by kernel_rfl) (by kernel_rfl) (by kernel_rfl) (fun _ _ _ h => h) (Or.inl ⟨by first | kernel_rfl | rfl, ?_⟩) (by assumption) ?_
              rotate_left
              · intro w hSw; (try dsimp only at hSw); go_simp; (try with_reducible rfl)
              (try simp only [Act.put, List.getElem_toArray, List.getElem_cons_succ, List.getElem_cons_zero, List.setIfInBounds_toArray, List.set_cons_zero, List.set_cons_succ])
              refine wpAnyZ_take (i := 4) (v := ?_) rfl (by kernel_rfl) (by kernel_rfl) (by kernel_rfl) (by kernel_rfl) (fun _ _ _ h => h) (Or.inl ⟨by first | kernel_rfl | rfl, ?_⟩) (by assumption) ?_
              rotate_left
              · intro w hSw; (try dsimp only at hSw); go_simp; (try with_reducible rfl)
              (try simp only [Act.put, List.getElem_toArray, List.getElem_cons_succ, List.getElem_cons_zero, List.setIfInBounds_toArray, List.set_cons_zero, List.set_cons_succ])
              refine wpAnyZ_take (i := 5) (v := ?_) rfl (by kernel_rfl) (by kernel_rfl) (by kernel_rfl) (by kernel_rfl) (fun _ _ _ h => h) (Or.inl ⟨by first | kernel_rfl | rfl, ?_⟩) (by assumption) ?_
              rotate_left
              · intro w hSw; (try dsimp only at hSw); go_simp; (try with_reducible rfl)
              (try simp only [Act.put, List.getElem_toArray, List.getElem_cons_succ, List.getElem_cons_zero, List.setIfInBounds_toArray, List.set_cons_zero, List.set_cons_succ])
              refine wpAnyZ_take (i := 6) (v := ?_) rfl (by kernel_rfl) (by kernel_rfl) (by kernel_rfl) (by kernel_rfl) (fun _ _ _ h => h) (Or.inl ⟨by first | kernel_rfl | rfl, ?_⟩) (by assumption) ?_
              rotate_left
              · intro w hSw; (try dsimp only at hSw); go_simp; (try with_reducible rfl)
              (try simp only [Act.put, List.getElem_toArray, List.getElem_cons_succ, List.getElem_cons_zero, List.setIfInBounds_toArray, List.set_cons_zero, List.set_cons_succ])
              refine wpAnyZ_take (i := 7) (v := ?_) rfl (by kernel_rfl) (by kernel_rfl) (by kernel_rfl) (by kernel_rfl) (fun _ _ _ h => h) (Or.inl ⟨by first | kernel_rfl | rfl, ?_⟩) (by assumption) ?_
              rotate_left
              · intro w hSw; (try dsimp only at hSw); go_simp; (try with_reducible rfl)
              (try simp only [Act.put, List.getElem_toArray, List.getElem_cons_succ, List.getElem_cons_zero, List.setIfInBounds_toArray, List.set_cons_zero, List.set_cons_succ])
              refine wpAnyZ_take (i := 8) (v := ?_) rfl (by kernel_rfl) (by kernel_rfl) (by kernel_rfl) (by kernel_rfl) (fun _ _ _ h => h) (Or.inl ⟨by first | kernel_rfl | rfl, ?_⟩) (by assumption) ?_
              rotate_left
              · intro w hSw; (try dsimp only at hSw); go_simp; (try with_reducible rfl)
              (try simp only [Act.put, List.getElem_toArray, List.getElem_cons_succ, List.getElem_cons_zero, List.setIfInBounds_toArray, List.set_cons_zero, List.set_cons_succ])
              refine wpAnyZ_take (i := 9) (v := ?_) rfl (by kernel_rfl) (by kernel_rfl) (by kernel_rfl) (by kernel_rfl) (fun _ _ _ h => h) (Or.inl ⟨by first | kernel_rfl | rfl, ?_⟩) (by assumption) ?_
              rotate_left
              · intro w hSw; (try dsimp only at hSw); go_simp; (try with_reducible rfl)
              (try simp only [Act.put, List.getElem_toArray, List.getElem_cons_succ, List.getElem_cons_zero, List.setIfInBounds_toArray, List.set_cons_zero, List.set_cons_succ])
              refine wpAnyZ_take (i := 10) (v := ?_) rfl (by kernel_rfl) (by kernel_rfl) (by kernel_rfl) (by kernel_rfl) (fun _ _ _ h => h) (Or.inl ⟨by first | kernel_rfl | rfl, ?_⟩) (by assumption) ?_
              rotate_left
              · intro w hSw; (try dsimp only at hSw); go_simp; (try with_reducible rfl)
              (try simp only [Act.put, List.getElem_toArray, List.getElem_cons_succ, List.getElem_cons_zero, List.setIfInBounds_toArray, List.set_cons_zero, List.set_cons_succ])
              refine wpAnyZ_take (i := 11) (v := ?_) rfl (by kernel_rfl) (by kernel_rfl) (by kernel_rfl) (by kernel_rfl) (fun _ _ _ h => h) (Or.inl ⟨by first | kernel_rfl | rfl, ?_⟩) (by assumption) ?_
              rotate_left
              · intro w hSw; (try dsimp only at hSw); go_simp; (try with_reducible rfl)
              (try simp only [Act.put, List.getElem_toArray, List.getElem_cons_succ, List.getElem_cons_zero, List.setIfInBounds_toArray, List.set_cons_zero, List.set_cons_succ])
              refine wpAnyZ_ready (i := 12) (by kernel_rfl) rfl (fun K hK => ?_)
              go_simp
              refine (Union_stN (Lib.hid (HKU.out.step ((Below.refl _ wr3).drew))) (fun _ h => h.2.1) (fun _ h => h.2.2) sc cc HRR).mono ?_
              rintro e w8 ⟨A8, c8, rfl, HO8, HK8, HB8⟩
              refine hK.out _ _ (HK8.out.now.2.1) (fun hHeld => ?_)
              clear hK K
              (try simp only [Act.put, List.getElem_toArray, List.getElem_cons_succ, List.getElem_cons_zero, List.setIfInBounds_toArray, List.set_cons_zero, List.set_cons_succ])
              refine wpAnyZ_take (i := 13) (v := ?_) rfl (by kernel_rfl) (by kernel_rfl) (by kernel_rfl) (by kernel_rfl) (fun _ _ _ h => h) (Or.inl ⟨by first | kernel_rfl | rfl, ?_⟩) (by assumption) ?_
              rotate_left
              · intro w hSw; (try dsimp only at hSw); go_simp; (try with_reducible rfl)
              (try simp only [Act.put, List.getElem_toArray, List.getElem_cons_succ, List.getElem_cons_zero, List.setIfInBounds_toArray, List.set_cons_zero, List.set_cons_succ])
              have hb38 := HK8.out.2
              have hc28 := HK8.out.now.2.1.2.1
              have hf28 := (hb38.frozen (p := ⟨b0, 0, none⟩) hbw).trans hfz
              have HSH := Lib.hid (HR3.out.setHead (s' := (A8, c8, r)) hb38 hfN hNm hmn hn3 HL3J.out (fun V hV => HRR.out.1.lst (Sl.of_own (own_keep HO8.out fun g hg => by
                have h1 := HO8.out.lt g (by rw [own_ownA]; exact hg)
                exact hV g (by have := h1.1; simpa using this) h1.2)) V (Below.refl _ _)))
              have HB38 := Lib.hid hb38
              clear hb38
              refine wpAnyZ_last (i := 14) rfl (by kernel_rfl) (by kernel_rfl) rfl (fun K hK => ?_)
              go_simp
              refine hK.out _ _ ?_
              clear hK K hHeld hcell hc2 hbx3 hc28 hf28 hfz
              go_wp2_with fail
              have hbx8 := (HB38.out.cell (lt_of_cell HB3.out)).trans HB3.out
              exact ⟨⟨j + 1, L3.set j (some ⟨b0, 0, none⟩, bc, (A8, c8, r) :: tl), by go_num, by omega, by omega, by rw [List.length_set]; exact hj2, Lib.hid (fun q => by
                  rw [bodies2_set, List.getElem?_set]
                  by_cases hq : j = q
                  · subst hq
                    rw [if_pos rfl, if_pos (by rw [bodies2_length]; omega), if_pos ⟨hj0, Nat.lt_succ_self _⟩]
                    have h := HPW.out j
                    rw [if_neg (by omega), HBOD.out] at h
                    rw [← h]
                    simp [bodies, headUn, HUN.out]
                  · rw [if_neg hq, HPW.out q]
                    by_cases h1 : nf ≤ q ∧ q < j
                    · rw [if_pos h1, if_pos ⟨h1.1, by omega⟩]
                    · rw [if_neg h1, if_neg (by omega)]), Lib.hid (fun x hx => by
                  rw [bodies2_set] at hx
                  rcases List.mem_or_eq_of_mem_set hx with hx | rfl
                  · exact HPL3.out x hx
                  · refine ⟨by simp [bodies], fun s hs => ?_⟩
                    rcases List.mem_cons.1 (show s ∈ r :: bodies tl from hs) with rfl | hs
                    · exact HRR.out.1
                    · exact HPL.out.2 s (by simp [bodies]; right; simpa [bodies] using hs)), Lib.hid (fun y hy b hb => by
                  rcases List.mem_or_eq_of_mem_set hy with hy | rfl
                  · exact HLB3.out y hy b hb
                  · injection hb with hb; injection hb with hb; omega), Lib.hid HSH.out.1, Lib.hid (HSH.out.2 _ HL3.out), Lib.hid ((HF3.out.below HB38.out).same (heap_setCell_other _ _ _ _ (by show fb ≠ b0; omega))), Lib.hid ((HO3.out.thenBelow HB38.out).setHigh (by have := HNN.out; omega)), Lib.hid ((World.cell?_setCell_far _ _ _ _ (by show b0 ≠ bx; omega)).trans hbx8)⟩, by simp [intOf]; omega⟩
            · obtain rfl : j = L.length := by omega
              have hdd : ¬ ((L.length : Int) < (L3.length : Int)) := by omega
              have HMG : Hid (mergeAt nf cs (bodies2 L) = bodies2 L3) := Lib.hid (by
                apply List.ext_getElem?
                intro q
                rw [HPW.out q]
                unfold mergeAt
                by_cases hq : q < nf
                · rw [if_neg (by omega), List.getElem?_append_left (by rw [List.length_take, bodies2_length]; omega), List.getElem?_take_of_lt hq]
                · have hlt : ((bodies2 L).take nf).length = nf := by rw [List.length_take, bodies2_length]; omega
                  rw [List.getElem?_append_right (by omega), hlt, List.getElem?_map, List.getElem?_drop, show nf + (q - nf) = q by omega]
                  by_cases hq2 : q < L.length
                  · rw [if_pos (by omega)]
                  · rw [if_neg (by omega), List.getElem?_eq_none (by rw [bodies2_length]; omega)]; rfl)
              go_wp2_with fail
              exact ⟨⟨i + 1, A, c, L3, Al, cl, Rl, nf, st2, by rw [hj2], rfl, rfl, by go_num, by omega, by omega, hst2, by omega, Lib.hid (by rw [← HMG.out]; exact HSP5.out.symm), HPL3, HR3, HL3, HF3, HO3⟩, by simp [intOf]; omega⟩
          | false =>
            have hv2 : ¬ (bodies2 Rr ≠ [] ∧ bodies2 Rr = bodies2 Rl) := fun h => by
              have := pB_true h
              rw [hv.out] at this; cases this
            have HSP5 : Hid (fromL f.want (l :: ls) sum st = goL (fun v st => fromL f.want ls (sum + v) st) ((C.map chV).drop (i + 1)) (bodies2 L ++ (bodies2 Rr).map (cs :: ·)) (bodies2 Rr) L.length st2) := Lib.hid (by rw [HSP4.out, if_neg hv2, bodies2_length])
            have hL4 : L.length ≤ 4096 := by omega
            clear hv2
            go_wp2_with fail
            go_loopw [12, 194] (fun ov jv wr3 => ∃ (j : Nat) (A3 : Option Addr) (c3 : Nat) (L3 : List RowI), jv = .int .i64 j ∧ j ≤ Rr.length ∧ ov = .slice A3 L3.length c3 ∧ L3.length = L.length + j ∧ Hid (bodies2 L3 = bodies2 L ++ ((bodies2 Rr).take j).map (cs :: ·)) ∧ Hid (∀ r ∈ bodies2 L3, r ≠ [] ∧ ∀ s ∈ r, Plain s) ∧
              Hid (FrI N fb m0 n A3 c3 L3 wr3) ∧ Hid (Dep (FrP N fb m0 A3 L3) wr3 (RowsX Ar Rr)) ∧ Hid (FdBox fb f (st2 : Int) wr3) ∧ Hid (Only fb none w5 wr3) ∧ Hid (wr3.cell? ⟨bx, 1, none⟩ = some (.slice ca cs.length cc) ∧ ∀ k, ownA A3 = some k → k ≠ bx)) (fun _ jv _ => Rr.length - (intOf jv).toNat)
            case atStart => exact ⟨0, A, c, L, rfl, Nat.zero_le _, rfl, rfl, Lib.hid (by simp), HPL, HR7, HD7, HF7, HO57, Lib.hid ⟨HBX7.out, fun k hk e => by have := (HFR.out.lA k hk).2; rw [HBX.out] at this; omega⟩⟩
            case round =>
            obtain ⟨wr3, rfl⟩ : ∃ wq : World, wq = wr := ⟨_, rfl⟩
            obtain ⟨j, A3, c3, L3, rfl, hj, rfl, hj2, HPW, HPL3, HR3, HD3, HF3, HO3, HB3⟩ := hrel
            by_cases hjl : j < Rr.length
            · obtain ⟨gr, orr, xa, xc, xr, hAr, hRj, hbod, hcell, hll⟩ := HD3.out.now.at_ hjl
              have hxr := (HRP.out _ (List.mem_of_getElem? hbod))
              have hxr4 : xr.length ≤ 4 := by have h := hxr.1; rwa [bodies_length] at h
              obtain ⟨b1, hb1⟩ : ∃ b, wr3.heap.size = b := ⟨_, rfl⟩
              have hlit := ownsRow_lit wr3 26 (.slice ca cs.length cc)
              rw [hb1] at hlit
              have hsl : Sl (wr3.alloc (.cells #[.slice ca cs.length cc] 26)) 1 xa xr.length (icells xr) := hll.1.sl.alloc _
              obtain ⟨i0, hi, hz0, hz1, hz2⟩ := info_parts infoHdx
              have HLIT := Lib.hid hlit
              have HSL := Lib.hid hsl
              have HBO := Lib.hid hbod
              have HXR := Lib.hid hxr.2
              have HRJ := Lib.hid hRj
              have hn3 : n ≤ wr3.heap.size := by have h1 := HO3.out.size; have := HNN.out; omega
              have HB1 := Lib.hid hb1
              have HOWN3 : Hid (∀ w2, Below wr3.heap.size wr3 w2 → w2.ownsRow n 25 1 (.slice A3 L3.length c3) L3.length (icells L3)) := Lib.hid fun w2 h => own_keep HR3.out.own fun k hk => h.block k (HR3.out.lA k hk).2
              have hL3l : L3.length < 1099511627776 := by omega
              have hbx3 := HB3.out.1
              have tok1 : True := trivial
              have HJ2 := Lib.hid hj2
              clear hj2
              subst hAr
              obtain ⟨i1, hi1, hy0, hy1, hy2⟩ := info_parts infoHdx2
              clear hlit hsl hll hbod hxr hRj
              go_wp2_with (first
                | (at_builtin; have _t := tok1; refine wpList_append_sl _ rfl _ _ 25 rfl b1 26 i0 _ 1 24 Try.underlying25 hi hz0 hz1 hz2 rfl (by decide) HLIT.out rfl HSL.out rfl (icells_one xr) (by unfold maxLen; omega) (by omega) (by simp; omega) ?_; intro v2 w2 hown2 hg2; clear tok1; obtain ⟨A4, c4, hv4⟩ := own_shape hown2; subst hv4; have HOWN2 := Lib.hid hown2; have HG2 := Lib.hid hg2; clear hown2 hg2; have HB2 : Hid (Below wr3.heap.size wr3 w2) := Lib.hid (((Below.refl wr3.heap.size wr3).alloc (Nat.le_refl _) (.cells #[.slice ca cs.length cc] 26)).grown HG2.out (by simp) (fun k hk => by injection hk with hk; rw [← hk, HB1.out]; exact Nat.le_refl _)); have hn2 : n ≤ w2.heap.size := Nat.le_trans hn3 HB2.out.size)
                | (at_builtin; go_must (refine wpList_pushG rfl _ _ 30 rfl n 25 i1 _ 1 24 Try.underlying30 hi1 hy0 hy1 hy2 rfl (by decide) (HOWN3.out _ HB2.out) rfl [.slice A4 (1 + xr.length) c4] 25 rfl rfl (by simp [Value.oneCell']) hL3l (by decide) hn2 ?_); intro A9 c9 w9 HO9 HG9 HN9))
              obtain ⟨g4, hA4, hg1, hg2', _⟩ := own_some HOWN2.out (by omega)
              subst hA4
              have hrow : w2.ownsRow n 26 1 (.slice (some ⟨g4, 0, none⟩) ((ca, cc, cs) :: xr).length c4) ((ca, cc, cs) :: xr).length (icells ((ca, cc, cs) :: xr)) := by
                have h := own_base HOWN2.out (show n ≤ b1 by rw [← HB1.out]; exact hn3)
                rw [Nat.add_comm] at h
                exact h
              have hb1g : wr3.heap.size ≤ g4 := by rw [HB1.out]; exact hg1
              have hFn : ∀ k, FrP N fb m0 A3 L3 k → k ≠ fb := fun k hp => by rcases hp with hp | hp <;> omega
              have hsetc : Dep (FrP N fb m0 A3 L3) wr3 (Lst ca cs) := fun V hV => HCD.out V fun k hp hl => by
                have hl2 : k < n := by rw [HNN.out] at hl; exact hl
                refine (hV k (.inr ⟨hp, fun e => by have := (HR3.out.lA k e).1; omega, fun y hy e => ?_⟩) (by omega)).trans (HO3.out.block k hl (by omega) (by simp))
                obtain ⟨b, _, e2, h3, _⟩ := HR3.out.rb hy
                rw [e2] at e; injection e with e; omega
              have hsets : ∀ s ∈ ((ca, cc, cs) :: xr : List (Item Sp)), Dep (FrP N fb m0 A3 L3) wr3 (Lst s.1 s.2.2) := fun s hs => by
                rcases List.mem_cons.1 hs with rfl | hs
                · exact hsetc
                · exact fun V hV => ((HD3.out V hV).1.it _ (List.mem_of_getElem? HRJ.out)).1.it s hs
              have HPU := Lib.hid (HR3.out.push (x := (some ⟨g4, 0, none⟩, c4, (ca, cc, cs) :: xr)) HB2.out hfN hNm hmn hn3 rfl hb1g hrow hsets (by have h := HO9.out; rw [Nat.add_comm 1 xr.length] at h; exact h) HG9.out HN9.out)
              have hlA3 : ∀ k, ownA A3 = some k → n ≤ k ∧ k < wr3.heap.size := HR3.out.lA
              have hfb9 : w9.heap[fb]? = wr3.heap[fb]? := (HG9.out.block fb (by have := HB2.out.size; simp; omega) (fun e => by have := hlA3 fb e.symm; omega)).trans ((Below.heap_alloc _ _ _ (by have := HB2.out.size; omega)).trans (HB2.out.block fb (by omega)))
              have hO9 : Only fb none w5 w9 := ((HO3.out.thenBelow HB2.out).alloc _).grown HG9.out (by
                rcases hA3 : ownA A3 with _ | g
                · exact .inl rfl
                · exact .inr ⟨g, rfl, by rw [HNN.out]; exact (hlA3 g hA3).1⟩)
              have hbx9 : w9.cell? ⟨bx, 1, none⟩ = some (.slice ca cs.length cc) := HG9.out.cell (cellAlloc _ ((HB2.out.cell (lt_of_cell HB3.out.1)).trans HB3.out.1)) (fun e => HB3.out.2 _ e.symm rfl)
              have hbx3l : bx < wr3.heap.size := lt_of_cell HB3.out.1
              have hnA9 : ∀ k, ownA A9 = some k → k ≠ bx := fun k hk e => by
                rcases HN9.out with h | ⟨q, h, hq⟩
                · rw [h] at hk; exact HB3.out.2 k hk e
                · rw [h] at hk; injection hk with hk; have := HB2.out.size; omega
              exact ⟨⟨j + 1, A9, c9, L3 ++ [(some ⟨g4, 0, none⟩, c4, (ca, cc, cs) :: xr)], by go_num, by omega, by simp, by rw [List.length_append, HJ2.out]; rfl, Lib.hid (by
                  have e1 : bodies2 (L3 ++ [((some ⟨g4, 0, none⟩, c4, (ca, cc, cs) :: xr) : RowI)]) = bodies2 L3 ++ [cs :: bodies xr] := by simp [bodies2, bodies]
                  rw [e1, HPW.out, take_snoc? HBO.out, List.map_append, List.append_assoc]; rfl), Lib.hid (fun r hr => by
                  have e1 : bodies2 (L3 ++ [((some ⟨g4, 0, none⟩, c4, (ca, cc, cs) :: xr) : RowI)]) = bodies2 L3 ++ [cs :: bodies xr] := by simp [bodies2, bodies]
                  rw [e1] at hr
                  rcases List.mem_append.1 hr with hr | hr
                  · exact HPL3.out r hr
                  · obtain rfl := List.mem_singleton.1 hr
                    refine ⟨by simp, fun s hs => ?_⟩
                    rcases List.mem_cons.1 hs with rfl | hs
                    · exact HCR.out.1
                    · exact HXR.out s hs), Lib.hid HPU.out.1, Lib.hid (HPU.out.2 _ HD3.out), Lib.hid (HF3.out.same hfb9), Lib.hid hO9, Lib.hid ⟨hbx9, hnA9⟩⟩, by simp [intOf]; omega⟩
            · obtain rfl : j = Rr.length := by omega
              have hdd : decide ((Rr.length : Int) < (Rr.length : Int)) = false := by simp
              go_wp2_with fail
              exact ⟨⟨i + 1, A3, c3, L3, Ar, cr, Rr, L.length, st2, rfl, rfl, rfl, by go_num, by omega, by omega, hst2, by omega, Lib.hid (by
                rw [HPW.out, List.take_of_length_le (by rw [bodies2_length]; exact Nat.le_refl _)]; exact HSP5.out.symm), HPL3, HR3, HD3, HF3, HO3⟩, by simp [intOf]; omega⟩
        · obtain rfl : i = C.length := by omega
          have hdd : decide ((C.length : Int) < (C.length : Int)) = false := by simp
          have HEND : Hid (fromL f.want (l :: ls) sum st = (some (bodies2 L), stt)) := Lib.hid (by
            have h := HSP.out
            rw [List.drop_of_length_le (by simp)] at h
            unfold goL at h
            exact h.symm)
          go_wp2_with fail
          go_ret2
          rw [HEND.out]
          refine ⟨HFB, Lib.hid (HO5.out.trans HOR.out (Newer.refl _ _)), .inr ⟨A, L, c, rfl, rfl, Lib.hid ?_⟩⟩
          rw [HM0.out]
          exact HFR.out.rows hNm hmn (by omega) (fun x hx => by
            obtain ⟨b, e, _, hrow⟩ := HFR.out.row x hx
            rcases hrow.2 with ⟨e', _⟩ | ⟨_, cap, _, e', _, _, h1, h2, _⟩
            · injection e' with _ e2; omega
            · unfold maxLen at h2; omega)
end
end Go.Proofs.Ytpmhdjiacgckjaa
end
