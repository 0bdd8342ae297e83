/- Contract of umlautlaw01.gone: the numbers of a set that are gone through are those of its plain list. Condition: lists of fewer than 65536 spans, whose numbers are ints. -/
import Derived.Test.YtbllbifkckipdaaEach
namespace Go.Proofs.Ytbllbifkckipdaa
open Go.RowKit Go.Shelf
set_option linter.unusedVariables false
attribute [local go_sem] Oper.semAt_some

/-- a range over a function, outside of any fence -/
theorem wp_rangeFunc {P : Program} {α : Type} {g : Operand} {ps : Array Tmp} {assign body : Code} {Q : Exit → Act → World → Prop} {a : Act} {w : World}
    {gf : Nat} {lb : Array Value} (hg : a.eval g = .func (.func gf) #[] lb) (eg : ∀ args w, (callFunc gf args).run P w = .ok (.enter gf args) w)
    {encs : α → Array Value} {Kp : World → World → Prop} {S Sp : List α → Prop} {N : Nat} (hseq : SeqStopsK Fence.wide 7 P gf lb encs Kp S Sp N w)
    (hKt : ∀ {A B C : World}, Kp A B → Kp B C → Kp A C) (hKb : ∀ (W : World) (l : Nat) (o o' : Obj), w.heap.size ≤ l → W.heap[l]? = some o → o.isCells = false → o.isWalk = false → Kp W (W.putObj l o')) (hps : ∀ x, (encs x).size = ps.size)
    (I : List α → World → Prop) (Ix : Code → List α → World → Prop) (hI : OwnFrom w.heap.size I) (hIx : ∀ c, OwnFrom w.heap.size (Ix c)) (h0 : I [] w) (a₁ : α → Act)
    (hassign : ∀ (l : Nat) (x : α) (W : World) (K : Act → World → Prop), K (a₁ x) W →
      assign.wpIn (Fence.wide.inRound l) 6 P (Exit.then K (fun _ _ _ => False)) { tmps := (ps.zip (encs x)).foldl (fun t (p, v) => t.setIfInBounds p v) a.tmps, defers := [] } W)
    (hbody : ∀ (l : Nat) (pre : List α) (x : α) (W : World), I pre W → pre.length < N → body.wpIn (Fence.wide.inRound l) 6 P (ownPostK Kp I Ix (pre ++ [x]) W) (a₁ x) W)
    (hdone : ∀ (D : Nat) (xs : List α) (W : World), w.heap.size ≤ D → S xs → I xs W → W.heap[D]? = some (.deferred (some [])) → Q .normal { a with defers := { target := .collected D, args := #[] } :: a.defers } W)
    (hstop : ∀ (D : Nat) (c : Code) (pre : List α) (W : World), w.heap.size ≤ D → Sp pre → Ix c pre W → W.heap[D]? = some (.deferred (some [])) → c.wp P Q { a with defers := { target := .collected D, args := #[] } :: a.defers } W) :
    (Code.rangeFunc g ps assign body).wp P Q a w :=
  (wpIn_wide (n := 8)).1 (wpIn_rangeFunc_ownF (F := Fence.wide) rfl (by omega) hg trivial eg hseq hKt hKb (Below.refl _ _) hps I Ix hI hIx h0 a₁ hassign hbody hdone
    (fun D c pre W h1 h2 h3 h4 => (wpIn_wide (n := 8)).2 (hstop D c pre W h1 h2 h3 h4)))

theorem cellNew (w : World) (v : Value) (t : TypeId) : (w.alloc (.cells #[v] t)).cell? ⟨w.heap.size, 0, none⟩ = some v ∧ (w.alloc (.cells #[v] t)).frozen? ⟨w.heap.size, 0, none⟩ = false := by
  have hb := heap_alloc_new w (.cells #[v] t)
  constructor
  · simp only [World.cell?, hb]; rfl
  · unfold World.frozen?; rw [hb]; simp
theorem cellAlloc {w : World} (o : Obj) {p : Addr} {v : Value} (h : w.cell? p = some v) : (w.alloc o).cell? p = some v := (World.cell?_alloc_lt w o p (World.block_lt_of_cell? w p h)).trans h
theorem frozenAlloc {w : World} (o : Obj) {p : Addr} {v : Value} (h : w.cell? p = some v) (hf : w.frozen? p = false) : (w.alloc o).frozen? p = false :=
  (((Below.refl w.heap.size w).alloc (Nat.le_refl _) o).frozen (World.block_lt_of_cell? w p h)).trans hf

/-- between two rounds -/
def GInv (S : Nat) (A : Option Addr) (c N : Nat) (r : List Sp) (pre : List Int) (W : World) : Prop :=
  W.cell? ⟨S, 0, none⟩ = some (.slice A r.length c) ∧ W.cell? ⟨S + 1, 0, none⟩ = some (.int .i64 N) ∧ W.cell? ⟨S + 1 + 1, 0, none⟩ = some (.bool false) ∧ W.frozen? ⟨S + 1 + 1, 0, none⟩ = false ∧
  W.cell? ⟨S + 1 + 1 + 1, 0, none⟩ = some (.int .i64 pre.length) ∧ W.frozen? ⟨S + 1 + 1 + 1, 0, none⟩ = false
def GMat (r : List Sp) (pre : List Int) : Prop := ∀ (j : Nat) (x : Int), pre[j]? = some x → nthS r (j : Int) = some x
theorem GInv.own (S : Nat) (A : Option Addr) (c N : Nat) (r : List Sp) : Own (fun pre W => GInv S A c N r pre W) := fun s X Y row hs hg hr =>
  ⟨cell_kept hs.1 hg hr, cell_kept hs.2.1 hg hr, cell_kept hs.2.2.1 hg hr, (frozen_kept hs.2.2.1 hg hr).trans hs.2.2.2.1, cell_kept hs.2.2.2.2.1 hg hr, (frozen_kept hs.2.2.2.2.1 hg hr).trans hs.2.2.2.2.2⟩
theorem GMat.snoc {r : List Sp} {pre : List Int} (h : GMat r pre) {x : Int} (hx : nthS r (pre.length : Int) = some x) : GMat r (pre ++ [x]) := by
  intro j y hj
  rcases Nat.lt_trichotomy j pre.length with h1 | h1 | h1
  · rw [List.getElem?_append_left h1] at hj; exact h j y hj
  · subst h1
    simp at hj; subst hj; exact hx
  · rw [List.getElem?_eq_none (by simp; omega)] at hj; cases hj

theorem keepsDrewN (W : World) (q : Nat) : KeepsOthers W (W.drewN q) := ⟨Nat.le_refl _, fun k o h _ => h⟩
theorem GInv.next {S : Nat} {A : Option Addr} {c N : Nat} {r : List Sp} {pre : List Int} {W : World} (x : Int) (q : Nat) (h : GInv S A c N r pre W) : GInv S A c N r (pre ++ [x]) ((W.drewN q).setCell ⟨S + 1 + 1 + 1, 0, none⟩ (.int .i64 ((pre.length : Int) + 1))) := by
  obtain ⟨h0, h1, h2, h2f, h3, h3f⟩ := h
  refine ⟨?_, ?_, ?_, ?_, ?_, ?_⟩
  · rw [World.cell?_setCell_far _ _ _ _ (by show S + 1 + 1 + 1 ≠ S; omega)]; exact h0
  · rw [World.cell?_setCell_far _ _ _ _ (by show S + 1 + 1 + 1 ≠ S + 1; omega)]; exact h1
  · rw [World.cell?_setCell_far _ _ _ _ (by show S + 1 + 1 + 1 ≠ S + 1 + 1; omega)]; exact h2
  · rw [World.frozen?_setCell]; exact h2f
  · rw [World.cell?_setCell_same' _ _ _ (by show (W.cell? _).isSome = true; rw [h3]; rfl)]
    simp
  · rw [World.frozen?_setCell]; exact h3f
theorem KpB.store {lo hi Bu : Nat} {W : World} (q b : Nat) (v : Value) (h1 : lo ≤ b) (h2 : b < hi) (hne : b ≠ Bu) : KpB lo hi Bu W ((W.drewN q).setCell ⟨b, 0, none⟩ v) :=
  (show KpB lo hi Bu W (W.drewN q) from KpB.same (Nat.le_refl _) (fun _ _ h _ => h) rfl).trans (KpB.setCell (W := W.drewN q) b v h1 h2 hne)

/-- how a round leaves the loop -/
def GX (S : Nat) (A : Option Addr) (c N : Nat) (r : List Sp) (w : World) (cd : Code) (pre : List Int) (W : World) : Prop :=
  (cd = .exit 0 ∧ GMat r pre ∧ pre.length = N ∧ GInv S A c N r pre W ∧ Below S w W) ∨ (cd = .ret ∧ ∃ pre' x, pre = pre' ++ [x] ∧ nthS r (pre'.length : Int) ≠ some x)
theorem GX.own {S : Nat} {A : Option Addr} {c N : Nat} {r : List Sp} {w : World} (B : Nat) (h1 : S ≤ w.heap.size) (h2 : S ≤ B) (cd : Code) : OwnFrom B (GX S A c N r w cd) := fun s X Y row hs hg hr => by
  rcases hs with ⟨a1, a2, a3, a4, a5⟩ | h
  · exact .inl ⟨a1, a2, a3, (Own.from (GInv.own S A c N r) B) s X Y row a4 hg hr, ownFrom_below (β := Unit) h1 h2 () X Y row a5 hg hr⟩
  · exact .inr h
theorem GMat.bad {r : List Sp} {a : Int} (hp : PlainF a r) {pre : List Int} {x : Int} (h : pre ++ [x] <+: nums r) : nthS r (pre.length : Int) = some x := by
  rw [← nums_get hp]
  obtain ⟨s, hs⟩ := h
  rw [← hs]; simp

set_option maxRecDepth 100000 in
set_option maxHeartbeats 8000000 in
theorem gone_any (A : Option Addr) (n c : Nat) (l r : List Sp) (A' : Option Addr) (c' : Nat) (N : Nat) (hN0 : 1 ≤ N) (hN1 : N ≤ 1000) (w : World) (h : Lst A l w) (hn : l.length < 65536) (h' : Spans w A' r.length r) (hr : Rep r (Mem l)) :
    Gives Try.prog 48 #[.slice A l.length c, .slice A' r.length c', .int .i64 N] w (.bool true) := by
  unfold Gives
  have HK : Hid (St w ((((w.alloc (.cells #[.slice A' r.length c'] 33)).alloc (.cells #[.int .i64 N] 3)).alloc (.cells #[.bool false] 4)).alloc (.cells #[.int .i64 0] 3)) (fun W => Lst A l W ∧ GInv w.heap.size A' c' N r [] W ∧ w.heap.size + 4 ≤ W.heap.size)) := by
    have hb0 : Below w.heap.size w ((((w.alloc (.cells #[.slice A' r.length c'] 33)).alloc (.cells #[.int .i64 N] 3)).alloc (.cells #[.bool false] 4)).alloc (.cells #[.int .i64 0] 3)) := ((((Below.refl _ _).alloc (Nat.le_refl _) _).alloc (by simp) _).alloc (by simp; omega) _).alloc (by simp; omega) _
    have c0 := cellNew w (.slice A' r.length c') 33
    have c1 := cellNew (w.alloc (.cells #[.slice A' r.length c'] 33)) (.int .i64 N) 3
    have c2 := cellNew ((w.alloc (.cells #[.slice A' r.length c'] 33)).alloc (.cells #[.int .i64 N] 3)) (.bool false) 4
    have c3 := cellNew (((w.alloc (.cells #[.slice A' r.length c'] 33)).alloc (.cells #[.int .i64 N] 3)).alloc (.cells #[.bool false] 4)) (.int .i64 0) 3
    simp only [World.size_alloc] at c1 c2 c3
    have d0 := cellAlloc (.cells #[.int .i64 0] 3) (cellAlloc (.cells #[.bool false] 4) (cellAlloc (.cells #[.int .i64 N] 3) c0.1))
    have d1 := cellAlloc (.cells #[.int .i64 0] 3) (cellAlloc (.cells #[.bool false] 4) c1.1)
    have d2 := cellAlloc (.cells #[.int .i64 0] 3) c2.1
    have f2 := frozenAlloc (.cells #[.int .i64 0] 3) c2.1 c2.2
    exact Lib.hid ⟨fun W hW => ⟨h.below (below_to hb0 hW), ⟨(hW.cell (lt_of_cell d0)).trans d0, (hW.cell (lt_of_cell d1)).trans d1, (hW.cell (lt_of_cell d2)).trans d2, (hW.frozen (lt_of_cell d2)).trans f2, (hW.cell (lt_of_cell c3.1)).trans c3.1, (hW.frozen (lt_of_cell c3.1)).trans c3.2⟩, by have := hW.size; simp at this; omega⟩, hb0⟩
  have HR := Lib.hid hr
  have HS0 := Lib.hid h'
  clear h h' hr
  refine (callsIn_wide (n := 8)).1 ?_
  refine callsIn_of_wp_marks Try.func48 rfl trivial ?_ rfl
  refine wpIn_wide.2 ?_
  simp only [Try.ntmps48, List.size_toArray, List.length_cons, List.length_nil, Nat.reduceAdd, Nat.reduceSub, Array.replicate_succ, Array.replicate_zero, List.push_toArray, List.append_toArray, List.nil_append, List.cons_append]
  go_wp2_with fail
  refine (copied_st HK (fun _ h => h.1) _).mono ?_
  rintro e w1 ⟨A1, c1, rfl, HK⟩
  have HE := Lib.hid (Each_any A1 l.length c1 l r w1 HK.out.now.1.sp HK.out.now.1.wd (by omega) HR.out)
  go_wp2_with fail
  refine HE.out.mono ?_
  rintro e w2 ⟨B, g, c2, rfl, hbd, hcB, hsp, hb2⟩
  have HK2 := Lib.hid (HK.out.add hb2 (G := fun W => True) (fun _ _ => trivial))
  have hsz2 := HK2.out.now.2.2.2.2
  have hsz1 := HK.out.now.2.2.2
  have hnow := HK2.out.now.2.2.2.1
  have hno : ∀ k, OwnB w.heap.size (w.heap.size + 4) (w.heap.size + 1 + 1) w2 k ↔ (w.heap.size ≤ k ∧ k < w.heap.size + 4) := by
    intro k
    unfold OwnB
    rw [hnow.2.2.1]
    simp
  have HSQ := Lib.hid (each_stops Fence.wide 7 trivial rfl (by omega) w.heap.size (w.heap.size + 4) (w.heap.size + 1 + 1) B g c2 r HR.out.1 w2 (by omega) (fun k hk => by have := (hno k).1 hk; omega) (fun hk => by have := (hno g).1 hk; omega) hcB (by omega) hsp)
  have HNOW := Lib.hid hnow
  have HBEL := Lib.hid HK2.out.2
  clear hno hcB hsp hb2 HE hnow
  go_wp2_with fail
  refine wp_rangeFunc (gf := 84) (lb := #[.pointer (some ⟨B, 0, none⟩)]) rfl (enters_of Try.func84 (by kernel_rfl) rfl) HSQ.out kpB_t (kpB_b (by omega)) (fun _ => rfl)
    (fun pre W => GInv w.heap.size A' c' N r pre W ∧ ((GMat r pre ∧ pre.length < N) ∧ Below w.heap.size w W))
    (GX w.heap.size A' c' N r w)
    (OwnFrom.and (Own.from (GInv.own _ _ _ _ _) _) (OwnFrom.and (ownFrom_pure _ _) (ownFrom_below (by omega) (by omega))))
    (GX.own _ (Nat.le_refl _) (by omega))
    ⟨HNOW.out, ⟨fun j x hj => by simp at hj, by simp; omega⟩, HBEL.out⟩
    (fun x => { tmps := #[.slice A l.length c, .slice A' r.length c', .int .i64 N, undef, .pointer (some ⟨w.heap.size, 0, none⟩), .pointer (some ⟨w.heap.size + 1, 0, none⟩), .pointer (some ⟨w.heap.size + 1 + 1, 0, none⟩), .pointer (some ⟨w.heap.size + 1 + 1 + 1, 0, none⟩), .int .i64 x, undef, undef, .slice A l.length c, .slice A1 l.length c1, .func (.func 84) #[] #[.pointer (some ⟨B, 0, none⟩)], .int .i64 x, undef, undef, undef, undef, undef, undef, undef, undef, undef, undef, undef, undef, undef, undef, undef, undef, undef, undef, undef, undef, undef, undef, undef, undef], defers := [] }) ?assign ?body ?done ?stop
  case assign =>
    intro l x W K hK
    gi_wp2
    exact hK
  case body =>
    rintro l pre x W ⟨hG, ⟨hM, hlN⟩, hB⟩ hlen
    have HG := Lib.hid hG
    obtain ⟨h0, h1, h2, h2f, h3, h3f⟩ := hG
    have hsp := HS0.out.below hB
    have HM := Lib.hid hM
    have HBW := Lib.hid hB
    have HTH := Lib.hid (Nth_any A' r.length c' r (pre.length : Int) W hsp (by have := HR.out.1.len_le; omega) HR.out.1 (by omega))
    have e0 : nthI r (pre.length : Int) = nthS r (pre.length : Int) := if_neg (by omega)
    rw [e0] at HTH
    have hc2 := lt_of_cell h2
    have hc3 := lt_of_cell h3
    clear hsp hM hB e0
    rcases ho : nthS r (pre.length : Int) with _ | v
    · rw [ho] at HTH
      have HO := Lib.hid ho
      clear ho
      gi_wp2_with (refine ⟨trivial, ?_⟩; gi_at_call 74; refine (CallsIn.inRound l (callsIn_wide.2 HTH.out.out)).mono ?_; rintro e w' ⟨rfl, q, rfl⟩)
      exact ⟨(keepsDrewN _ _).trans (KeepsOthers.setCell _ _ _), .inr ⟨rfl, pre, x, rfl, by rw [HO.out]; simp⟩⟩
    · rw [ho] at HTH
      have HO := Lib.hid ho
      clear ho
      by_cases hxv : x = v
      · subst hxv
        have hne : (x != optD (some x)) = false := by simp [optD]
        have hdv : optD (some x) = x := rfl
        have HXV := Lib.hid (HM.out.snoc HO.out)
        by_cases hN : pre.length + 1 = N
        · have hq : ((pre.length : Int) + 1 == (N : Int)) = true := by simp; omega
          have HNN := Lib.hid hN
          clear hN
          gi_wp2_with (refine ⟨trivial, ?_⟩; gi_at_call 74; refine (CallsIn.inRound l (callsIn_wide.2 HTH.out.out)).mono ?_; rintro e w' ⟨rfl, q, rfl⟩)
          exact ⟨(keepsDrewN _ _).trans (KeepsOthers.setCell _ _ _), .inl ⟨rfl, HXV.out, by simp; exact HNN.out, HG.out.next x q, (below_drewN HBW.out q).setCell (p := ⟨w.heap.size + 1 + 1 + 1, 0, none⟩) (by simp; omega) _⟩⟩
        · have hq : ((pre.length : Int) + 1 == (N : Int)) = false := by simp; omega
          gi_wp2_with (refine ⟨trivial, ?_⟩; gi_at_call 74; refine (CallsIn.inRound l (callsIn_wide.2 HTH.out.out)).mono ?_; rintro e w' ⟨rfl, q, rfl⟩)
          exact ⟨(keepsDrewN _ _).trans (KeepsOthers.setCell _ _ _), KpB.store q _ _ (by omega) (by omega) (by omega), HG.out.next x q, ⟨HXV.out, by simp; omega⟩, (below_drewN HBW.out q).setCell (p := ⟨w.heap.size + 1 + 1 + 1, 0, none⟩) (by simp; omega) _⟩
      · have hne : (x != optD (some v)) = true := by simp [optD, hxv]
        have HXV := Lib.hid hxv
        clear hxv
        gi_wp2_with (refine ⟨trivial, ?_⟩; gi_at_call 74; refine (CallsIn.inRound l (callsIn_wide.2 HTH.out.out)).mono ?_; rintro e w' ⟨rfl, q, rfl⟩)
        exact ⟨(keepsDrewN _ _).trans (KeepsOthers.setCell _ _ _), .inr ⟨rfl, pre, x, rfl, by rw [HO.out]; intro e; cases e; exact HXV.out rfl⟩⟩
  case done =>
    rintro D xs W hD rfl ⟨hG, ⟨hM, hlN⟩, hB⟩ hKD
    obtain ⟨h0, h1, h2, h2f, h3, h3f⟩ := hG
    have hsp := HS0.out.below hB
    have HBW := Lib.hid hB
    have hcnt := nums_length HR.out.1
    rw [hcnt] at h3
    have hmin : min (N : Int) (cnt r) = cnt r := by omega
    have hlc := HR.out.len_le
    have HSF := Lib.hid (Rep.self HR.out.1)
    have hc0 := lt_of_cell h0
    have hc1 := lt_of_cell h1
    have hc2 := lt_of_cell h2
    have hc3 := lt_of_cell h3
    have hne0 : ¬ (w.heap.size + 1 + 1 = w.heap.size) := by omega
    have HKD := Lib.hid hKD
    clear hM hB hlN hcnt hKD
    go_wp2_with fail
    go_region_held3 (fun w' => w'.cell? ⟨w.heap.size + 1 + 1 + 1, 0, none⟩ = some (.int .i64 (cnt r)) ∧ w'.cell? ⟨w.heap.size + 1, 0, none⟩ = some (.int .i64 N) ∧ w'.cell? ⟨w.heap.size, 0, none⟩ = some (.slice A' r.length c'))
      (first | exact ⟨(hb3.cell hc3).trans h3, (hb3.cell hc1).trans h1, (hb3.cell hc0).trans h0⟩ | go_keep)
      ((go_at_call 56; refine (rCount_any A' r.length c' r r _ (by exact hsp) HR.out.1.spw (by omega) HSF.out).mono ?_; rintro e w3 ⟨rfl, hb3⟩; have hd2 := (hb3.cell hc2).trans h2; have hf2 := (hb3.frozen hc2).trans h2f))
    have HD2 := Lib.hid hd2
    have HB3 := Lib.hid hb3
    clear hd2 hf2 hb3 h0 h1 h2 h2f h3 h3f
    go_wp2_with fail
    have hK3 : w3.heap[D]? = some (.deferred (some [])) := (HB3.out.block D (Array.getElem?_eq_some_iff.1 HKD.out).1).trans HKD.out
    have hK' := (KeepsOthers.setCell w3 ⟨w.heap.size + 1 + 1, 0, none⟩ (.bool true)).same D _ hK3 rfl
    refine ⟨by simp, .inl ⟨_, _, rfl, run_takeDeferred hK', ?_⟩⟩
    have hc5 := cell_kept (World.cell?_setCell_same' w3 ⟨w.heap.size + 1 + 1, 0, none⟩ (.bool true) (by rw [HD2.out]; rfl)) (grownBy_putObj' _ D (.deferred none)) (fun r e => by cases e; exact ⟨_, hK', rfl⟩)
    refine ⟨.bool true, ?_, rfl, ((below_to (below_drewN HBW.out 1) HB3.out).setCell (p := ⟨w.heap.size + 1 + 1, 0, none⟩) (by simp; omega) _).trans (belowK_b (w := w) (Nat.le_refl _) _ D _ _ (by omega) hK' rfl rfl)⟩
    simp [results, Try.f48, go_sem, hc5]
  case stop =>
    rintro D cd pre W hD hpre hGX hKD
    rcases hGX with ⟨rfl, hM, hlN, hG, hB⟩ | ⟨rfl, pre', x, rfl, hbad⟩
    rotate_left
    · exact absurd (GMat.bad HR.out.1 hpre) hbad
    obtain ⟨h0, h1, h2, h2f, h3, h3f⟩ := hG
    have hsp := HS0.out.below hB
    have HBW := Lib.hid hB
    have hcnt := nums_length HR.out.1
    have hle := hpre.length_le
    rw [hlN] at h3
    have hmin : min (N : Int) (cnt r) = (N : Int) := by omega
    clear hpre hle
    have hlc := HR.out.len_le
    have HSF := Lib.hid (Rep.self HR.out.1)
    have hc0 := lt_of_cell h0
    have hc1 := lt_of_cell h1
    have hc2 := lt_of_cell h2
    have hc3 := lt_of_cell h3
    have hne0 : ¬ (w.heap.size + 1 + 1 = w.heap.size) := by omega
    have HKD := Lib.hid hKD
    clear hM hB hlN hcnt hKD
    go_wp2_with fail
    go_region_held3 (fun w' => w'.cell? ⟨w.heap.size + 1 + 1 + 1, 0, none⟩ = some (.int .i64 N) ∧ w'.cell? ⟨w.heap.size + 1, 0, none⟩ = some (.int .i64 N) ∧ w'.cell? ⟨w.heap.size, 0, none⟩ = some (.slice A' r.length c'))
      (first | exact ⟨(hb3.cell hc3).trans h3, (hb3.cell hc1).trans h1, (hb3.cell hc0).trans h0⟩ | go_keep)
      ((go_at_call 56; refine (rCount_any A' r.length c' r r _ (by exact hsp) HR.out.1.spw (by omega) HSF.out).mono ?_; rintro e w3 ⟨rfl, hb3⟩; have hd2 := (hb3.cell hc2).trans h2; have hf2 := (hb3.frozen hc2).trans h2f))
    have HD2 := Lib.hid hd2
    have HB3 := Lib.hid hb3
    clear hd2 hf2 hb3 h0 h1 h2 h2f h3 h3f
    go_wp2_with fail
    have hK3 : w3.heap[D]? = some (.deferred (some [])) := (HB3.out.block D (Array.getElem?_eq_some_iff.1 HKD.out).1).trans HKD.out
    have hK' := (KeepsOthers.setCell w3 ⟨w.heap.size + 1 + 1, 0, none⟩ (.bool true)).same D _ hK3 rfl
    refine ⟨by simp, .inl ⟨_, _, rfl, run_takeDeferred hK', ?_⟩⟩
    have hc5 := cell_kept (World.cell?_setCell_same' w3 ⟨w.heap.size + 1 + 1, 0, none⟩ (.bool true) (by rw [HD2.out]; rfl)) (grownBy_putObj' _ D (.deferred none)) (fun r e => by cases e; exact ⟨_, hK', rfl⟩)
    refine ⟨.bool true, ?_, rfl, ((below_to (below_drewN HBW.out 1) HB3.out).setCell (p := ⟨w.heap.size + 1 + 1, 0, none⟩) (by simp; omega) _).trans (belowK_b (w := w) (Nat.le_refl _) _ D _ _ (by omega) hK' rfl rfl)⟩
    simp [results, Try.f48, go_sem, hc5]
theorem gone_st {w0 w : World} {F : World → Prop} {A A' : Option Addr} {a r : List Sp} {N : Nat} (hK : Hid (St w0 w F)) (ha : ∀ W, F W → Lst A a W) (hb : ∀ W, F W → Lst A' r W) (hn : a.length < 65536) (h1 : 1 ≤ N) (h2 : N ≤ 1000) (c c' : Nat) (hr : Hid (Rep r (Mem a))) :
    Calls Try.prog 48 #[.slice A a.length c, .slice A' r.length c', .int .i64 N] w (RetV w0 (.bool true) F) :=
  retV_gives hK (gone_any A 0 c a r A' c' N h1 h2 w (ha w hK.out.now) hn (hb w hK.out.now).sp hr.out)
end Go.Proofs.Ytbllbifkckipdaa
