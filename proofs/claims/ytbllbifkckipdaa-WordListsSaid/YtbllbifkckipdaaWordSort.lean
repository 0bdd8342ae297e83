/- Contracts of slices.Clone of a word, slices.SortFunc and slices.CompactFunc of words, word.Sort. Condition: fewer than 2^20 words, each no longer than 2^40. -/
import Derived.Test.YtbllbifkckipdaaWords
import Derived.Test.YtbllbifkckipdaaShelf
import Derived.Test.YtbllbifkckipdaaRaw
import Derived.Lib.SliceRun
import Derived.Deep.RegionHeld
namespace Go.Proofs.Ytbllbifkckipdaa
open Go.RowKit Go.Sort Go.Lib
set_option linter.unusedVariables false

theorem ints_cells_one (k : IntKind) (xs : List Int) : ∀ u ∈ xs.map (Value.int k), u.oneCell' = true := by
  intro u hu
  obtain ⟨x, _, rfl⟩ := List.mem_map.1 hu
  rfl
/-- a word in memory of its own -/
def CloneOut (w : World) (x : List Int) (e : Ending) (w' : World) : Prop := ∃ A' c', e = .returned (.slice A' x.length c') ∧ Wd A' x w' ∧ (∀ g, A' = some g → w.heap.size ≤ g.block) ∧ Below w.heap.size w w'
set_option maxRecDepth 100000 in
set_option maxHeartbeats 4000000 in
theorem CloneW_any (A : Option Addr) (c : Nat) (x : List Int) (w : World) (h : Wd A x w) :
    Calls Try.prog 69 #[.slice A x.length c] w (CloneOut w x) := by
  obtain ⟨i0, hi, hz0, hz1, hz2⟩ := info_parts info21
  have HX := Lib.hid h
  have hl := h.2
  have hq := fun n' c' => Lib.run_eql_slice_nil w 23 21 A x.length c n' c' Try.underlying23
  clear h
  rcases A with _ | a
  · have h0 : x = [] := by
      rcases x with _ | ⟨y, ys⟩
      · rfl
      · obtain ⟨b, off, _, he, _⟩ := HX.out.1.at_ (j := 0) (by simp)
        cases he
    subst h0
    have hq0 := fun n' c' => Lib.run_eql_slice_nil w 23 21 none 0 c n' c' Try.underlying23
    clear hq
    go_enter Try.func69, Try.ntmps69
    go_wp2_with fail
    go_ret
    exact ⟨none, 0, rfl, HX.out, (fun g e => by cases e), Below.refl _ _⟩
  · have ho := World.ownsRow_lit (base := w.heap.size) (e := 21) (size := 1) w #[] 0 (Nat.le_refl _) (by simp) rfl
    have hsl : Sl (w.alloc (.cells #[] 21)) 1 (some a) x.length (x.map (Value.int .i32)) := Sl.alloc HX.out.1 _
    go_enter Try.func69, Try.ntmps69
    go_wp2_with (at_builtin; go_must (refine wpList_append_sl _ rfl _ _ 23 rfl w.heap.size 21 i0 _ 1 4 Try.underlying23 hi hz0 hz1 hz2 rfl (by decide) ho rfl hsl rfl (ints_cells_one _ _) (by unfold maxLen; omega) (by omega) (by simp) ?_); intro v' w2 hown2 hg2)
    have hb2 : Below w.heap.size w w2 := ((Below.refl _ _).alloc (Nat.le_refl _) (.cells #[] 21)).grown hg2 (by simp) (fun k hk => by simp [Value.ownBlock] at hk; omega)
    simp only [Nat.zero_add, List.nil_append] at hown2
    have HO := Lib.hid hown2
    have HB := Lib.hid hb2
    obtain ⟨A', c', rfl, _⟩ := own_slice hown2
    clear hown2 hg2 hb2 hsl ho
    go_wp2_with fail
    go_ret
    have ho2 := HO.out
    refine ⟨A', c', rfl, ⟨Sl.of_own ho2, hl⟩, fun g e => ?_, HB.out⟩
    subst e
    rcases ho2.2 with ⟨e, _⟩ | ⟨g', cap, cur, e, hb, _⟩
    · cases e
    · injection e with e1
      injection e1 with e1
      rw [e1]; exact hb

/-- an item that the sort may look at: what it holds lies elsewhere -/
def Far (w : World) (g : Nat) (i : Item Int) : Prop := ∀ W, (∀ (p : Addr) u, w.cell? p = some u → p.block ≠ g → W.cell? p = some u) → Wd i.1 i.2.2 W
theorem far_of {w : World} {g : Nat} {i : Item Int} (h : Wd i.1 i.2.2 w) (hg : ∀ b o, i.1 = some ⟨b, o, none⟩ → b ≠ g) : Far w g i := by
  intro W hW
  refine ⟨⟨h.1.1, fun hn => ?_⟩, h.2⟩
  obtain ⟨b, off, hA, hc⟩ := h.1.2 hn
  exact ⟨b, off, hA, fun j u hu => hW _ _ (hc j u hu) (hg _ _ hA)⟩
abbrev FarI (w : World) (g : Nat) : Type := {i : Item Int // Far w g i}
instance (w : World) (g : Nat) : Inhabited (FarI w g) := ⟨⟨(none, 0, []), fun W _ => ⟨Sl.nil_ _ _ _, by simp⟩⟩⟩
def encF {w : World} {g : Nat} (x : FarI w g) : Value := ival x.1
def cmpF {w : World} {g : Nat} (x y : FarI w g) : Int := cmpW x.1.2.2 y.1.2.2
theorem swoF (w : World) (g : Nat) : SWO (Proofs.ltOf (cmpF (w := w) (g := g))) where
  irrefl x := swoW.irrefl x.1.2.2
  trans x y z h1 h2 := swoW.trans x.1.2.2 y.1.2.2 z.1.2.2 h1 h2
  ntrans x y z h1 h2 := swoW.ntrans x.1.2.2 y.1.2.2 z.1.2.2 h1 h2
theorem grown_sorted1 {w : World} {g n : Nat} {os : Array Obj} {α : Type} [Inhabited α] (enc : α → Value) (d : Array α) : w.grownBy (Proofs.sortWorld enc w g 0 n d os) (some g) := by
  refine ⟨rfl, rfl, rfl, by simp [Proofs.sortWorld, putRow, mapBlock, Sort.ahead], fun k hk hne => ?_⟩
  unfold Proofs.sortWorld
  rw [heap_grow_old _ _ (by simpa [putRow, mapBlock, Sort.ahead] using hk)]
  have : g ≠ k := fun e => hne (by rw [e])
  simp [putRow, mapBlock, Sort.ahead, Array.getElem?_modify, this]
theorem take_put1 {α : Type} [Inhabited α] (enc : α → Value) (cur : Array Value) (l : List α) (h : l.length ≤ cur.size) : (putCells enc 0 l.toArray cur).toList.take l.length = l.map enc := by
  apply List.ext_getElem?
  intro j
  by_cases hj : j < l.length
  · rw [List.getElem?_take_of_lt hj, Array.getElem?_toList]
    simp [putCells, hj, show j < cur.size by omega]
  · rw [List.getElem?_take_eq_none (by omega), List.getElem?_eq_none (by simp; omega)]

theorem SortWords_any (base g cap : Nat) (L : List (Item Int)) (w : World) (h : w.ownsRow base 23 1 (.slice (some ⟨g, 0, none⟩) L.length cap) L.length (icells L)) (hf : ∀ i ∈ L, Far w g i) (hn : L.length < 1099511627776) :
    Calls Try.prog 70 #[.slice (some ⟨g, 0, none⟩) L.length cap, .func (.func 22) #[] #[]] w fun e w' => e = .returned (.tuple #[]) ∧
      ∃ L' : List (Item Int), L'.length = L.length ∧ L'.Perm L ∧ SrW (bodies L') ∧ w'.ownsRow base 23 1 (.slice (some ⟨g, 0, none⟩) L.length cap) L.length (icells L') ∧ w.grownBy w' (some g) := by
  have eg : ∀ args w, (callFunc 22 args).run Try.prog w = .ok (.enter 22 args) w := enters_of Try.func22 (by kernel_rfl) rfl
  have hsh : ∃ cur, base ≤ g ∧ w.heap[g]? = some (.cells cur 23 (0, 0)) ∧ L.length ≤ cap ∧ cap ≤ maxLen ∧ cur.size = cap * 1 ∧ cur.toList.take (L.length * 1) = icells L := by
    rcases h.2 with ⟨e0, _⟩ | ⟨g', cap', cur, e0, hb, hg, hn, hm, hs, ht⟩
    · cases e0
    · injection e0 with e1 _ e3
      injection e1 with e1
      injection e1 with e1
      subst e1; subst e3
      exact ⟨cur, hb, hg, hn, hm, hs, ht⟩
  obtain ⟨cur, hb, hg, hc, hm, hs, ht⟩ := hsh
  rw [Nat.mul_one] at hs ht
  have hlt : g < w.heap.size := (Array.getElem?_eq_some_iff.1 hg).1
  obtain ⟨l, hl⟩ : ∃ l : List (FarI w g), l.map (·.1) = L := ⟨L.attach.map (fun i => ⟨i.1, hf i.1 i.2⟩), by rw [List.map_map]; exact List.attach_map_subtype_val L⟩
  have hll : l.length = L.length := by rw [← hl]; simp
  have hic : icells L = l.map encF := by rw [← hl]; simp [icells, encF]
  have hH : Holds (encF (w := w) (g := g)) w g 0 l.toArray := by
    intro j hj
    have hj' : j < L.length := by simpa [hll] using hj
    refine ⟨?_, by simp [World.frozen?, hg]⟩
    have h1 : (cur.toList.take L.length)[j]? = (l.map encF)[j]? := by rw [ht, hic]
    rw [List.getElem?_take_of_lt hj', Array.getElem?_toList, List.getElem?_map] at h1
    simp only [World.cell?, hg, Nat.zero_add]
    simp only [Option.isSome_none, Bool.false_eq_true, if_false]
    rw [h1, List.getElem?_eq_getElem (by omega), getElem!_pos _ j hj]
    rfl
  have hcmp : Proofs.CmpLays1 Try.prog 22 #[] (encF (w := w) (g := g)) cmpF g 0 l.toArray.size w := by
    intro m os dk hdk x y
    have hcells : ∀ (p : Addr) u, w.cell? p = some u → p.block ≠ g → (Proofs.sortWorld encF w g 0 m dk os).cell? p = some u := fun p u hu hne => (grown_sorted1 encF dk).cell hu (fun e => hne (by injection e))
    have hx := x.2 _ hcells
    have hy := y.2 _ hcells
    refine Calls.mono (WCompare_any x.1.1 y.1.1 _ x.1.2.1 _ y.1.2.1 x.1.2.2 y.1.2.2 _ hx.1 hy.1 (by have := hx.2; omega) (by have := hy.2; omega)) fun e w' ⟨he, q, hq⟩ => ⟨he, q, #[], by rw [hq, grow_empty]⟩
  have hcon := Proofs.Any.slices_SortFunc Try.sortWord encF (fun x => rfl) cmpF (swoF w g) 22 #[] g 0 cap l.toArray w eg hcmp hH hlt (by simp; omega)
  rw [show l.toArray.size = L.length by simp [hll]] at hcon
  refine Calls.mono hcon ?_
  rintro e w' ⟨rfl, d', n, os, hp, hso, rfl⟩
  have hsz : d'.size = L.length := by simpa [hll] using hp.1
  refine ⟨rfl, d'.toList.map (·.1), by simpa using hsz, ?_, ?_, ?_, grown_sorted1 encF d'⟩
  · have := hp.2.2
    rw [show (l.toArray.extract 0 L.length).toList = l by simp [← hll]] at this
    rw [show (d'.extract 0 L.length).toList = d'.toList by simp [← hsz]] at this
    have h2 := this.map (fun x : FarI w g => x.1)
    rwa [hl] at h2
  · unfold SrW bodies
    rw [List.map_map, List.pairwise_iff_getElem]
    intro i j hi hj hij
    simp only [List.length_map, Array.length_toList] at hi hj
    have := hso i j (by omega) hij (by omega)
    rw [getElem!_pos d' i hi, getElem!_pos d' j hj] at this
    simp only [List.getElem_map, Array.getElem_toList, Function.comp]
    intro g1
    unfold Proofs.ltOf cmpF at this
    unfold ltW at g1
    rw [g1] at this
    simp at this
  · refine ⟨by rw [icells_length]; simp [hsz], .inr ⟨g, cap, putCells encF 0 d' cur, rfl, hb, ?_, hc, hm, ?_, ?_⟩⟩
    · unfold Proofs.sortWorld
      rw [heap_grow_old _ _ (by simpa [putRow, mapBlock, Sort.ahead] using hlt)]
      simp [putRow, mapBlock, Sort.ahead, Array.getElem?_modify, hg, onCells]
    · simpa [putCells] using hs
    · have := take_put1 encF cur d'.toList (by simp [hsz]; omega)
      rw [Nat.mul_one]
      have e : d'.toList.toArray = d' := by simp
      rw [e] at this
      simp only [Array.length_toList, hsz] at this
      rw [this]
      simp [icells, encF]

/-- nothing but block g has changed -/
def Keep (g : Nat) (w W : World) : Prop := ∀ (p : Addr) u, w.cell? p = some u → p.block ≠ g → W.cell? p = some u
theorem Keep.refl (g : Nat) (w : World) : Keep g w w := fun _ _ h _ => h
theorem Keep.set {g : Nat} {w W : World} (h : Keep g w W) (j : Nat) (v : Value) : Keep g w (W.setCell ⟨g, j, none⟩ v) := fun p u hu hne => by
  rw [World.cell?_setCell_far _ _ _ _ (fun e => hne e.symm)]; exact h p u hu hne
theorem own_setCells {base : Nat} {t : TypeId} {g n cap : Nat} {w0 : World} : ∀ (vs : List Value) (o : Nat) (w : World) (xs : List Value), w.ownsRow base t 1 (.slice (some ⟨g, 0, none⟩) n cap) n xs → Keep g w0 w →
    ∃ ys, (w.setCells g o vs).ownsRow base t 1 (.slice (some ⟨g, 0, none⟩) n cap) n ys ∧ ys.take o = xs.take o ∧ Keep g w0 (w.setCells g o vs) ∧ (∀ B W0, B ≤ g → Below B W0 w → Below B W0 (w.setCells g o vs))
  | [], o, w, xs, h, hk => ⟨xs, h, rfl, hk, fun _ _ _ hb => hb⟩
  | v :: vs, o, w, xs, h, hk => by
    obtain ⟨ys, h1, h2, h3, h4⟩ := own_setCells vs (o + 1) (w.setCell ⟨g, o, none⟩ v) (xs.set o v) (h.stored o v).1 (hk.set o v)
    refine ⟨ys, h1, ?_, h3, fun B W0 hB hb => h4 B W0 hB (hb.setCell (p := ⟨g, o, none⟩) hB v)⟩
    have := congrArg (List.take o) h2
    rw [List.take_take, List.take_take, Nat.min_eq_left (by omega)] at this
    rw [this, List.take_set_of_le (by omega)]
theorem own_cut1 {w : World} {base : Nat} {t : TypeId} {g n cap k : Nat} {xs ys : List Value} (h : w.ownsRow base t 1 (.slice (some ⟨g, 0, none⟩) n cap) n xs) (hk : k ≤ n) (ho : xs.take k = ys) : w.ownsRow base t 1 (.slice (some ⟨g, 0, none⟩) k cap) k ys := by
  subst ho
  rcases h.2 with ⟨e0, _⟩ | ⟨g', cap', cur, e0, hb, hg, hn, hm, hs, ht⟩
  · cases e0
  · injection e0 with e1 _ e3
    injection e1 with e1
    injection e1 with e1
    subst e1; subst e3
    have hl : xs.length = n := by have := h.1; omega
    refine ⟨by simp; omega, .inr ⟨g, cap, cur, rfl, hb, hg, by omega, hm, hs, ?_⟩⟩
    rw [← ht, List.take_take, Nat.mul_one, Nat.mul_one, Nat.min_eq_left hk]

/-- the words that the closure calls alike -/
theorem same_any (A B : Option Addr) (c d : Nat) (x y : List Int) (w : World) (h : Wd A x w) (h' : Wd B y w) : Drawn Try.prog 72 #[.slice A x.length c, .slice B y.length d] w (.bool (decide (x = y))) := by
  have HC := Lib.hid (WCompare_any A B x.length c y.length d x y w h.1 h'.1 (by have := h.2; omega) (by have := h'.2; omega))
  clear h h'
  unfold Drawn
  by_cases hxy : x = y
  · have hcv := (cmpW_eq x y).2 hxy
    rw [hcv] at HC
    have HE := Lib.hid hxy
    clear hxy hcv
    go_enter Try.func72, Try.ntmps72
    go_wp2_with (go_at_call 22; refine HC.out.out.mono ?_; rintro e w' ⟨rfl, q, rfl⟩)
    go_ret
    exact ⟨ret_bool (decide_eq_true HE.out).symm, q, rfl⟩
  · have hcv : (cmpW x y == 0) = false := by simp only [beq_eq_false_iff_ne, ne_eq, cmpW_eq]; exact hxy
    obtain ⟨cv, hcw⟩ : ∃ cv, cmpW x y = cv := ⟨_, rfl⟩
    rw [hcw] at hcv HC
    have HE := Lib.hid hxy
    clear hxy hcw
    go_enter Try.func72, Try.ntmps72
    go_wp2_with (go_at_call 22; refine HC.out.out.mono ?_; rintro e w' ⟨rfl, q, rfl⟩)
    go_ret
    exact ⟨ret_bool (decide_eq_false HE.out).symm, q, rfl⟩

theorem room_set {α : Type} (o J ls : List α) (i : Nat) (z x : α) (hi : ls[i]? = some z) (hl : o.length + J.length = i) : ∃ J', (o ++ J ++ ls.drop i).set o.length x = (o ++ [x]) ++ J' ++ ls.drop (i + 1) ∧ (o ++ [x]).length + J'.length = i + 1 := by
  cases J with
  | nil => exact ⟨[], by rw [drop_cons? hi]; simp, by simp at *; omega⟩
  | cons y J => exact ⟨J ++ [z], by rw [drop_cons? hi]; simp, by simp at *; omega⟩
theorem room_at {α : Type} (o J ls : List α) (i t : Nat) (hl : o.length + J.length = i) : (o ++ J ++ ls.drop i)[i + t]? = ls[i + t]? := by
  rw [List.getElem?_append_right (by simp; omega), List.getElem?_drop]
  congr 1; simp; omega

def CompOut (base g cap : Nat) (w : World) (L : List (Item Int)) (e : Ending) (w' : World) : Prop :=
  ∃ M : List (Item Int), e = .returned (.slice (some ⟨g, 0, none⟩) M.length cap) ∧ w'.ownsRow base 23 1 (.slice (some ⟨g, 0, none⟩) M.length cap) M.length (icells M) ∧ StW (bodies M) ∧ (∀ x, x ∈ bodies M ↔ x ∈ bodies L) ∧ (∀ i ∈ M, i ∈ L) ∧ Keep g w w' ∧ (∀ W0, Below base W0 w → Below base W0 w')

set_option maxRecDepth 100000 in
set_option maxHeartbeats 16000000 in
theorem CompactW_any (base g cap n : Nat) (L : List (Item Int)) (w : World) (h : w.ownsRow base 23 1 (.slice (some ⟨g, 0, none⟩) n cap) n (icells L)) (hf : ∀ i ∈ L, Far w g i) (hs : SrW (bodies L)) (hn : n < 1099511627776) :
    Calls Try.prog 71 #[.slice (some ⟨g, 0, none⟩) n cap, .func (.func 72) #[] #[]] w (CompOut base g cap w L) := by
  have hl : L.length = n := by have := h.1; rw [icells_length] at this; omega
  have HL := Lib.hid hl
  have HO := Lib.hid h
  have HF := Lib.hid hf
  have HS := Lib.hid hs
  have hcap : n ≤ cap ∧ cap ≤ maxLen ∧ base ≤ g := by
    rcases h.2 with ⟨e0, _⟩ | ⟨g', cap', cur, e0, hb, _, hn, hm, _⟩
    · cases e0
    · injection e0 with e1 _ e3
      injection e1 with e1
      injection e1 with e1
      subst e1; subst e3
      exact ⟨hn, hm, hb⟩
  obtain ⟨hc1, hc2, hbg⟩ := hcap
  unfold maxLen at hc2
  clear h hf hs hl
  by_cases h2 : n < 2
  · go_enter Try.func71, Try.ntmps71
    go_wp2_with fail
    go_ret
    refine ⟨L, by rw [HL.out]; rfl, by rw [HL.out]; exact HO.out, ?_, fun x => Iff.rfl, fun i hi => hi, Keep.refl _ _, fun _ hb => hb⟩
    have : (bodies L).length < 2 := by rw [bodies_length, HL.out]; exact h2
    unfold StW
    match hbb : bodies L, this with
    | [], _ => exact List.Pairwise.nil
    | [x], _ => exact List.pairwise_singleton _ _
  go_enter Try.func71, Try.ntmps71
  go_wp2_with fail
  go_loopw [5] (fun i wr => ∃ j q : Nat, j + 1 ≤ n ∧ i = .int .i64 ((j : Int) + 1) ∧ wr = w.drewN q ∧ Hid (CInv (bodies L) (j + 1) ((bodies L).take (j + 1)))) (fun i _ => n - (intOf i).toNat)
  case atStart =>
    refine ⟨0, 0, by omega, by simp, rfl, Lib.hid ?_⟩
    obtain ⟨x, hx⟩ : ∃ x, (bodies L)[0]? = some x := ⟨_, List.getElem?_eq_getElem (by rw [bodies_length, HL.out]; omega)⟩
    have := CInv.start hx
    rw [take_snoc? hx]
    simpa using this
  case round =>
  obtain ⟨j, q, hj, rfl, rfl, HI⟩ := hrel
  by_cases hlt : j + 1 < n
  · obtain ⟨i0, hi0⟩ : ∃ i, L[j]? = some i := ⟨_, List.getElem?_eq_getElem (by have := HL.out; omega)⟩
    obtain ⟨i1, hi1⟩ : ∃ i, L[j + 1]? = some i := ⟨_, List.getElem?_eq_getElem (by have := HL.out; omega)⟩
    have hw0 := HF.out _ (List.mem_of_getElem? hi0) w (Keep.refl g w)
    have hw1 := HF.out _ (List.mem_of_getElem? hi1) w (Keep.refl g w)
    have hd0 : w.cell? ⟨g, j, none⟩ = some (ival i0) := by rw [HO.out.cellAt _ (by omega)]; exact icells_at hi0
    have hd1 : w.cell? ⟨g, j + 1, none⟩ = some (ival i1) := by rw [HO.out.cellAt _ (by omega)]; exact icells_at hi1
    have hb0 : (bodies L)[j]? = some i0.2.2 := by unfold bodies; rw [List.getElem?_map, hi0]; rfl
    have hb1 : (bodies L)[j + 1]? = some i1.2.2 := by unfold bodies; rw [List.getElem?_map, hi1]; rfl
    obtain ⟨xa, xc, x⟩ := i0
    obtain ⟨ya, yc, y⟩ := i1
    simp only [ival] at hd0 hd1
    have HB0 := Lib.hid hb0
    have HB1 := Lib.hid hb1
    have HQ : Hid (DrawnAt Try.prog 72 #[.slice ya y.length yc, .slice xa x.length xc] w (.bool (decide (y = x)))) := Lib.hid fun q => same_any ya xa yc xc y x (w.drewN q) (hw1.drewN q) (hw0.drewN q)
    have hk0 : (0 : Int) ≤ (j : Int) := Int.natCast_nonneg _
    have hk1 : (j : Int) + 1 < (n : Int) := by omega
    have hk2 : (j : Int) < (n : Int) := by omega
    have hk3 : (0 : Int) ≤ (j : Int) + 1 := by omega
    have hw2 : IntKind.i64.wrap ((j : Int) + 1 - 1) = (j : Int) := by rw [Int.add_sub_cancel]; exact IntWalk.i64_in _ (by omega)
    have hw3 : ((j : Int) + 1).toNat = j + 1 := by omega
    clear hi0 hi1 hw0 hw1 hb0 hb1
    by_cases hxy : y = x
    · rw [decide_eq_true hxy] at HQ
      have HE := Lib.hid hxy
      clear hxy
      go_wp2_with fail
      go_quiet ((go_at_call 72; (first | exact DrawnAt.q2 HQ.out | exact DrawnAt.q3 HQ.out | exact DrawnAt.q1 HQ.out)))
      clear hw2
      go_wp2_with fail
      have hst : Hid (CInv (bodies L) (j + 1 + 0 + 1) (bodies (L.take (j + 1)))) := by
        have := HI.out.skip (x := x) (by rw [Nat.add_sub_cancel]; exact HB0.out) (by rw [← HE.out]; exact HB1.out)
        unfold bodies at this ⊢
        rw [List.map_take]
        exact this
      clear HQ HI HB0 HB1 HE
      go_loopw [5, 7] (fun k i wr => ∃ (m : Nat) (o J : List (Item Int)), j + 1 + (m + 1) ≤ n ∧ i = .int .i64 ((m : Int) + 1) ∧ k = .int .i64 o.length ∧ o.length < n ∧ wr.ownsRow base 23 1 (.slice (some ⟨g, 0, none⟩) n cap) n (icells (o ++ J ++ L.drop (j + 1 + m))) ∧ Hid (o.length + J.length = j + 1 + m) ∧ Hid (CInv (bodies L) (j + 1 + m + 1) (bodies o)) ∧ Hid (∀ i ∈ o, i ∈ L) ∧ Hid (Keep g w wr) ∧ Hid (∀ W0, Below base W0 w → Below base W0 wr)) (fun _ i _ => n - (intOf i).toNat)
      case atStart =>
        have hlt' : (L.take (j + 1)).length = j + 1 := by rw [List.length_take, HL.out]; omega
        exact ⟨0, L.take (j + 1), [], by omega, by simp, by rw [hlt']; simp, by omega, ownsRow_drewN (by simpa using HO.out) _, Lib.hid (by rw [hlt']; simp), hst, Lib.hid fun i hi => List.mem_of_mem_take hi, Lib.hid (Keep.refl g w), Lib.hid fun W0 hb => below_drewN hb _⟩
      case round =>
      obtain ⟨m, o, J, hm, rfl, rfl, hon, hown, HJ, HC, HSUB, HK, HBB⟩ := hrel
      have HR := Lib.hid hown
      clear hown
      by_cases hlt2 : j + 1 + (m + 1) < n
      · obtain ⟨i0, hi0⟩ : ∃ i, L[j + 1 + m]? = some i := ⟨_, List.getElem?_eq_getElem (by have := HL.out; omega)⟩
        obtain ⟨i1, hi1⟩ : ∃ i, L[j + 1 + (m + 1)]? = some i := ⟨_, List.getElem?_eq_getElem (by have := HL.out; omega)⟩
        have hw0 := HF.out _ (List.mem_of_getElem? hi0) wr HK.out
        have hw1 := HF.out _ (List.mem_of_getElem? hi1) wr HK.out
        have hd0 : wr.cell? ⟨g, j + 1 + m, none⟩ = some (ival i0) := by rw [HR.out.cellAt _ (by omega)]; exact icells_at ((room_at o J L (j + 1 + m) 0 HJ.out).trans hi0)
        have hd1 : wr.cell? ⟨g, j + 1 + (m + 1), none⟩ = some (ival i1) := by rw [HR.out.cellAt _ (by omega)]; exact icells_at (by rw [← Nat.add_assoc, room_at o J L (j + 1 + m) 1 HJ.out]; exact hi1)
        have hb0 : (bodies L)[j + 1 + m]? = some i0.2.2 := by unfold bodies; rw [List.getElem?_map, hi0]; rfl
        have hb1 : (bodies L)[j + 1 + (m + 1)]? = some i1.2.2 := by unfold bodies; rw [List.getElem?_map, hi1]; rfl
        have HI0 := Lib.hid hi0
        have HI1 := Lib.hid hi1
        obtain ⟨xa, xc, x⟩ := i0
        obtain ⟨ya, yc, y⟩ := i1
        simp only [ival] at hd0 hd1
        have HB0 := Lib.hid hb0
        have HB1 := Lib.hid hb1
        have HQ : Hid (DrawnAt Try.prog 72 #[.slice ya y.length yc, .slice xa x.length xc] wr (.bool (decide (y = x)))) := Lib.hid fun q => same_any ya xa yc xc y x (wr.drewN q) (hw1.drewN q) (hw0.drewN q)
        have hm0 : (0 : Int) ≤ (m : Int) := Int.natCast_nonneg _
        have hm1 : (m : Int) + 1 < ((n - (j + 1) : Nat) : Int) := by omega
        have hm2 : (m : Int) < ((n - (j + 1) : Nat) : Int) := by omega
        have hm3 : (0 : Int) ≤ (m : Int) + 1 := by omega
        have hw2 : IntKind.i64.wrap ((m : Int) + 1 - 1) = (m : Int) := by rw [Int.add_sub_cancel]; exact IntWalk.i64_in _ (by omega)
        have hw3 : ((m : Int) + 1).toNat = m + 1 := by omega
        clear hi0 hi1 hw0 hw1 hb0 hb1
        by_cases hxy : y = x
        · rw [decide_eq_true hxy] at HQ
          have HE := Lib.hid hxy
          clear hxy
          go_wp2_with fail
          go_quiet ((go_at_call 72; (first | exact DrawnAt.q2 HQ.out | exact DrawnAt.q3 HQ.out | exact DrawnAt.q1 HQ.out)))
          clear hw2
          go_wp2_with fail
          go_roundw
          case rel => exact ⟨m + 1, o, J ++ [(xa, xc, x)], by omega, by simp, rfl, hon, ownsRow_drewN (by have := HR.out; rw [drop_cons? HI0.out] at this; simpa [Nat.add_assoc] using this) _, Lib.hid (by have := HJ.out; simp; omega), Lib.hid (HC.out.skip (x := x) (show (bodies L)[j + 1 + m]? = some x from HB0.out) (by rw [← HE.out]; exact HB1.out)), HSUB, HK, Lib.hid fun W0 hb => below_drewN (HBB.out W0 hb) _⟩
          case measure => simp [intOf]; omega
        · rw [decide_eq_false hxy] at HQ
          have HE := Lib.hid hxy
          have hon2 : o.length < j + 1 + (m + 1) := by have := HJ.out; omega
          have hfz := HR.out.frozenAt o.length
          have hst := HR.out.stored o.length (.slice ya y.length yc)
          rw [icells_set (i := (ya, yc, y))] at hst
          have HST := Lib.hid hst.1
          clear hxy hst
          obtain ⟨u0, hu0⟩ : ∃ u, wr.cell? ⟨g, o.length, none⟩ = some u := by
            rw [HR.out.cellAt _ (by omega)]
            exact ⟨_, List.getElem?_eq_getElem (by have := HR.out.1; omega)⟩
          go_wp2_with fail
          go_quiet ((go_at_call 72; (first | exact DrawnAt.q2 HQ.out | exact DrawnAt.q3 HQ.out | exact DrawnAt.q1 HQ.out)))
          clear hw2
          go_wp2_with fail
          go_roundw
          case rel =>
            obtain ⟨J', e1, e2⟩ := room_set o J L (j + 1 + m) (xa, xc, x) (ya, yc, y) HI0.out HJ.out
            refine ⟨m + 1, o ++ [(ya, yc, y)], J', by omega, by simp, by simp, by simp; omega, ?_, Lib.hid e2, Lib.hid ?_, Lib.hid fun i hi => ?_, Lib.hid (HK.out.set _ _), Lib.hid fun W0 hb => (below_drewN (HBB.out W0 hb) _).setCell (p := ⟨g, o.length, none⟩) hbg _⟩
            · have := HST.out
              rw [e1] at this
              exact this
            · rw [bodies_append]
              exact HC.out.push HS.out (by omega) (show (bodies L)[j + 1 + m]? = some x from HB0.out) HB1.out HE.out
            · rcases List.mem_append.1 hi with hi | hi
              · exact HSUB.out i hi
              · simp at hi; subst hi; exact List.mem_of_getElem? HI1.out
          case measure => simp [intOf]; omega
      · obtain hme : j + 1 + (m + 1) = n := by omega
        have hcl := run_clear_slice (P := Try.prog) wr 49 23
        have hk1 : o.length ≤ n := by omega
        have hk2 : 0 < n - o.length := by omega
        have hzv := Try.zeroValue23
        have HCL : Hid (∀ ty, (Builtin.clear_ #[49] ty #[.slice (some ⟨g, o.length, none⟩) (n - o.length) (cap - o.length)]).run Try.prog wr = .ok (.tuple #[]) (wr.setCells g o.length (List.replicate (n - o.length) (.slice none 0 0)))) := by
          refine Lib.hid fun ty => hcl ty (.slice none 0 0) Try.underlying49 hzv rfl rfl g o.length (n - o.length) (cap - o.length) hk2 (fun i hi => ?_) (fun i hi => HR.out.frozenAt _)
          rw [HR.out.cellAt _ (by omega), List.getElem?_eq_getElem (by have := HR.out.1; omega)]; rfl
        obtain ⟨ys, hy1, hy2, hy3, hy4⟩ := own_setCells (w0 := w) (List.replicate (n - o.length) (.slice none 0 0)) o.length wr _ HR.out HK.out
        have HY1 := Lib.hid hy1
        have HY2 := Lib.hid hy2
        have HY3 := Lib.hid hy3
        have HY4 := Lib.hid hy4
        have HME := Lib.hid hme
        have hclr := HCL.out
        clear hcl hy1 hy2 hy3 hy4 hzv hme
        go_wp2_with fail
        go_ret
        have hic : (icells (o ++ J ++ L.drop (j + 1 + m))).take o.length = icells o := by
          rw [List.append_assoc, icells_append, List.take_left' (icells_length o)]
        have hrise := HC.out.rise
        have hsame := HC.out.same
        rw [show j + 1 + m + 1 = n from HME.out, List.take_of_length_le (by rw [bodies_length, HL.out]; exact Nat.le_refl _)] at hsame
        exact ⟨o, rfl, own_cut1 HY1.out hk1 (HY2.out.trans hic), hrise, hsame, HSUB.out, HY3.out, fun W0 hb => HY4.out _ W0 hbg (HBB.out W0 hb)⟩
    · rw [decide_eq_false hxy] at HQ
      have HE := Lib.hid hxy
      clear hxy
      go_wp2_with fail
      go_quiet ((go_at_call 72; (first | exact DrawnAt.q2 HQ.out | exact DrawnAt.q3 HQ.out | exact DrawnAt.q1 HQ.out)))
      clear hw2
      go_wp2_with fail
      go_roundw
      case rel =>
        refine ⟨j + 1, _, by omega, by simp, rfl, Lib.hid ?_⟩
        have := HI.out.push HS.out (by omega) (show (bodies L)[j + 1 - 1]? = some x from HB0.out) HB1.out HE.out
        rw [take_snoc? HB1.out]
        exact this
      case measure => simp [intOf]; omega
  · have hje : j + 1 = n := by omega
    have hd : decide ((j : Int) + 1 < (n : Int)) = false := by simp; omega
    have HJE := Lib.hid hje
    clear hje
    go_wp2_with fail
    go_ret
    have hrise := HI.out.rise
    rw [HJE.out, List.take_of_length_le (by rw [bodies_length, HL.out]; exact Nat.le_refl _)] at hrise
    exact ⟨L, by rw [HL.out]; rfl, by rw [HL.out]; exact ownsRow_drewN HO.out _, hrise, fun x => Iff.rfl, fun i hi => hi, Keep.refl _ _, fun W0 hb => below_drewN hb _⟩

theorem own_below {w w' : World} {base : Nat} {t : TypeId} {size n : Nat} {v : Value} {xs : List Value} (h : w.ownsRow base t size v n xs) (hb : Below w.heap.size w w') : w'.ownsRow base t size v n xs := by
  refine ⟨h.1, ?_⟩
  rcases h.2 with h0 | ⟨g, cap, cur, rfl, hbg, hg, rest⟩
  · exact .inl h0
  · exact .inr ⟨g, cap, cur, rfl, hbg, (hb.block g (Array.getElem?_eq_some_iff.1 hg).1).trans hg, rest⟩
/-- a call that returns the words of L, rising, each once -/
def SortOut (w : World) (L : List (Item Int)) (e : Ending) (w' : World) : Prop :=
  ∃ A c M, e = .returned (.slice A M.length c) ∧ Items Wd A M.length M w' ∧ StW (bodies M) ∧ (∀ x, x ∈ bodies M ↔ x ∈ bodies L) ∧ M.length < 1099511627776 ∧ Below w.heap.size w w'
set_option maxRecDepth 100000 in
set_option maxHeartbeats 16000000 in
theorem WSort_any (A : Option Addr) (n c : Nat) (L : List (Item Int)) (w : World) (h : Items Wd A n L w) (hn : n < 1048576) :
    Calls Try.prog 45 #[.slice A n c] w (SortOut w L) := by
  obtain ⟨i0, hi, hz0, hz1, hz2⟩ := info_parts info23
  have HL := Lib.hid h.len
  have HA := Lib.hid h
  clear h
  go_enter Try.func45, Try.ntmps45
  go_wp2_with (at_make; go_must (refine wpList_make_full _ rfl _ _ 49 rfl w.heap.size 23 i0 (.slice none 0 0) 1 Try.underlying49 hi hz0 hz1 _ _ _ _ n rfl rfl rfl rfl ?c1 ?c2 (Nat.le_refl _) ?c3))
  case c1 => rw [hz2]; omega
  case c2 => unfold maxLen; omega
  case c3 =>
  intro w1 hown hg
  have hb : Below w.heap.size w w1 := (Below.refl _ w).grown hg (Nat.le_refl _) (by intro k hk; cases hk)
  have HA1 := Lib.hid (HA.out.below Wd.lasts hb)
  clear hg
  go_wp2_with fail
  go_loopw [11] (fun i wr => ∃ (k : Nat) (V : List Value) (M : List (Item Int)), k ≤ n ∧ i = .int .i64 k ∧ wr.ownsRow w.heap.size 23 1 (.slice (some ⟨w.heap.size, 0, none⟩) n n) n V ∧ Below w.heap.size w wr ∧ Hid (V.take k = icells M) ∧ Hid (bodies M = (bodies L).take k) ∧ Hid (AllIt Wd M wr) ∧ Hid (∀ i ∈ M, ∀ b o, i.1 = some ⟨b, o, none⟩ → b ≠ w.heap.size)) (fun i _ => n - (intOf i).toNat)
  case atStart => exact ⟨0, _, [], Nat.zero_le _, rfl, hown, hb, rfl, rfl, Lib.hid fun i hi => (by cases hi), Lib.hid fun i hi => (by cases hi)⟩
  case round =>
  obtain ⟨k, V, M, hk, rfl, hown, hb, HV, HBM, HIT, HNE⟩ := hrel
  have HO := Lib.hid hown
  have HB := Lib.hid hb
  clear hown hb
  by_cases hlt : k < n
  · obtain ⟨b, off, za, zc, z, rfl, hz, hcz, hwz⟩ := HA.out.at_ hlt
    have hdz := (HB.out.cell (lt_of_cell hcz)).trans hcz
    have hzb : (bodies L)[k]? = some z := by unfold bodies; rw [List.getElem?_map, hz]; rfl
    have HZ := Lib.hid hzb
    have HC := Lib.hid (CloneW_any za zc z wr (Wd.lasts _ _ _ _ hwz HB.out))
    have hgw := (HO.out.lt w.heap.size rfl).2
    clear hz hcz hwz hzb
    go_wp2_with (
      go_at_call 69
      refine HC.out.mono ?_
      rintro e w2 ⟨A', c', rfl, hwd, hfar, hb2⟩
      have HWD := Lib.hid hwd
      have HFR := Lib.hid hfar
      have HB2 := Lib.hid hb2
      have ho2 := own_below HO.out hb2
      have hf := ho2.frozenAt k
      have HST := Lib.hid (ho2.stored k (.slice A' z.length c')).1
      have HLV : Hid (k < V.length) := Lib.hid (by have := HO.out.1; omega)
      obtain ⟨u0, hu0⟩ : ∃ u, w2.cell? ⟨w.heap.size, k, none⟩ = some u := by
        rw [ho2.cellAt _ (by omega)]
        exact ⟨_, List.getElem?_eq_getElem (by have := HO.out.1; omega)⟩
      clear hwd hfar hb2 ho2)
    go_roundw
    case rel =>
      have hbs : Below w.heap.size w (w2.setCell ⟨w.heap.size, k, none⟩ (.slice A' z.length c')) := (below_to HB.out HB2.out).setCell (Nat.le_refl _) _
      have hkp : Below wr.heap.size wr w2 := HB2.out
      have hwk : ∀ i : Item Int, Wd i.1 i.2.2 w2 → (∀ b o, i.1 = some ⟨b, o, none⟩ → b ≠ w.heap.size) → Wd i.1 i.2.2 (w2.setCell ⟨w.heap.size, k, none⟩ (.slice A' z.length c')) := fun i h1 h2 => far_of h1 h2 _ ((Keep.refl _ _).set k _)
      have hne2 : ∀ b o, A' = some ⟨b, o, none⟩ → b ≠ w.heap.size := fun b o e e2 => by
        have := HFR.out _ e
        simp only at this
        omega
      refine ⟨k + 1, _, M ++ [(A', c', z)], by omega, by go_num, HST.out, hbs, Lib.hid ?_, Lib.hid ?_, Lib.hid ?_, Lib.hid ?_⟩
      · rw [take_set_snoc _ _ _ HLV.out, HV.out, icells_append]; rfl
      · rw [bodies_append, HBM.out, take_snoc? HZ.out]; rfl
      · intro i hi
        rcases List.mem_append.1 hi with hi | hi
        · exact hwk i (Wd.lasts _ _ _ _ (HIT.out i hi) hkp) (HNE.out i hi)
        · simp at hi; subst hi; exact hwk _ HWD.out hne2
      · intro i hi
        rcases List.mem_append.1 hi with hi | hi
        · exact HNE.out i hi
        · simp at hi; subst hi; exact hne2
    case measure => simp [intOf]; omega
  · have hkn : k = n := by omega
    have hMl : M.length = n := by
      have := congrArg List.length HBM.out
      rw [bodies_length, List.length_take, bodies_length, HL.out] at this
      omega
    have hrow : wr.ownsRow w.heap.size 23 1 (.slice (some ⟨w.heap.size, 0, none⟩) M.length n) M.length (icells M) := by
      have := HV.out
      rw [hkn, List.take_of_length_le (by have := HO.out.1; omega)] at this
      rw [hMl, ← this]; exact HO.out
    have hfar : ∀ i ∈ M, Far wr w.heap.size i := fun i hi => far_of (HIT.out i hi) (HNE.out i hi)
    have HS := Lib.hid (SortWords_any w.heap.size w.heap.size n M wr hrow hfar (by omega))
    have HFAR := Lib.hid hfar
    have HKN := Lib.hid hkn
    have HML := Lib.hid hMl
    rw [hMl] at HS
    clear hkn hrow hfar hMl
    go_wp2_with (first
      | (go_at_call 70
         refine HS.out.mono ?_
         rintro e w3 ⟨rfl, L', hl', hp, hsr, ho3, hg3⟩
         have hkeep : Keep w.heap.size wr w3 := fun p u hu hne => hg3.cell hu (fun e => hne (by injection e))
         have HSUB := Lib.hid (show ∀ i ∈ L', Far w3 w.heap.size i from fun i hi W hW => HFAR.out i (hp.mem_iff.1 hi) W (fun p u hu hne => hW p u (hkeep p u hu hne) hne))
         have HCP := Lib.hid (CompactW_any w.heap.size w.heap.size n n L' w3 ho3 HSUB.out hsr (by omega))
         have HP := Lib.hid hp
         have HB3 := Lib.hid (HB.out.grown hg3 HB.out.size (fun j hj => by cases hj; exact Nat.le_refl _))
         clear hl' hp hsr ho3 hg3 hkeep)
      | (go_at_call 71
         refine HCP.out.mono ?_
         rintro e w4 ⟨M2, rfl, ho4, hrise, hsame, hsub, hk4, hb4⟩
         have HO4 := Lib.hid ho4
         have HR4 := Lib.hid hrise
         have HS4 := Lib.hid hsame
         have HU4 := Lib.hid hsub
         have HK4 := Lib.hid hk4
         have HB4 := Lib.hid hb4
         clear ho4 hrise hsame hsub hk4 hb4))
    go_ret
    refine ⟨some ⟨w.heap.size, 0, none⟩, n, M2, rfl, ⟨Sl.of_own HO4.out, fun i hi => HSUB.out i (HU4.out i hi) w4 HK4.out⟩, HR4.out, fun x => ?_, ?_, HB4.out w HB3.out⟩
    · rw [HS4.out]
      have e1 : List.Perm (bodies L') (bodies M) := HP.out.map _
      rw [e1.mem_iff, HBM.out, HKN.out, List.take_of_length_le (by rw [bodies_length, HL.out]; exact Nat.le_refl _)]
    · rcases HO4.out.2 with ⟨e0, _⟩ | ⟨g', cap', cur, e0, _, _, hn', _⟩
      · cases e0
      · injection e0 with _ _ e3; omega
end Go.Proofs.Ytbllbifkckipdaa
