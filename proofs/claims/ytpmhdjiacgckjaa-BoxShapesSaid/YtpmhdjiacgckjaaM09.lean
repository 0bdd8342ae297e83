/- Words for boxes and windows in memory; contract of box.In. Condition: the box and the window are known. Words for a row of records on its way: what else may have been written, what of memory it hangs on; one record more behind it. No function of the program in sight. Condition: none. Contract of box.Meet: what two boxes have in common, place by place, or that there is nothing. Condition: the boxes are known. Contracts of slices.Equal of spans and of box.alike: two lists of rows compared. Condition: the lists are known. Words for a finder in memory; contract of (*box.finder).rest. Condition: the finder is known. -/
import Derived.Test.YtpmhdjiacgckjaaM07
import Derived.Test.YtpmhdjiacgckjaaM05
import Derived.Test.YtpmhdjiacgckjaaM08
import Derived.Deep.RegionHeld3
import Derived.Deep.DeepCutAuto
section
namespace Go.Proofs.Ytpmhdjiacgckjaa
open Go.RowKit
set_option linter.unusedVariables false
set_option linter.unusedSimpArgs false
def LLx (A : Option Addr) (O : List (Item Sp)) (W : World) : Prop := Items Lst A O.length O W ∧ O.length ≤ 9223372036854775807
theorem Lst.lastsx : Lasts Lst := fun A l w w' h hb => h.below hb
theorem LLx.below {A : Option Addr} {O : List (Item Sp)} {w w' : World} (h : LLx A O w) (hb : Below w.heap.size w w') : LLx A O w' := ⟨Items.below h.1 Lst.lastsx hb, h.2⟩
theorem LLx.at_ {A : Option Addr} {L : List (Item Sp)} {W : World} (h : LLx A L W) {k : Nat} (hk : k < L.length) : ∃ gb off ba bc b, A = some ⟨gb, off, none⟩ ∧ L[k]? = some (ba, bc, b) ∧ (bodies L)[k]? = some b ∧ W.cell? ⟨gb, off + k, none⟩ = some (.slice ba b.length bc) ∧ Lst ba b W := by
  obtain ⟨gb, off, ba, bc, b, hA, hx, hc, hl⟩ := h.1.at_ hk
  exact ⟨gb, off, ba, bc, b, hA, hx, by unfold bodies; rw [List.getElem?_map, hx]; rfl, hc, hl⟩
def RuneW (x : Int) : Prop := -2147483648 ≤ x ∧ x ≤ 2147483647
def RunesAt (A : Option Addr) (l : List Int) (W : World) : Prop := RowsAt 1 (fun x => [Value.int .i32 x]) (fun x _ => RuneW x) A l W
theorem RunesAt.below {A : Option Addr} {l : List Int} {w w' : World} (h : RunesAt A l w) (hb : Below w.heap.size w w') : RunesAt A l w' := RowsAt.below h (fun _ _ _ h _ => h) hb
theorem RunesAt.at_ {A : Option Addr} {l : List Int} {W : World} (h : RunesAt A l W) {j : Nat} (hj : j < l.length) : ∃ b off x, A = some ⟨b, off, none⟩ ∧ l[j]? = some x ∧ RuneW x ∧ W.cell? ⟨b, off + j, none⟩ = some (.int .i32 x) := by
  obtain ⟨b, off, p, hA, hp, hc, hw⟩ := RowsAt.at_ h (fun _ => rfl) hj
  have := hc 0 _ rfl
  rw [Nat.mul_one, Nat.add_zero] at this
  exact ⟨b, off, p, hA, hp, hw, this⟩
/-- a window in a box -/
def hitM : List (List Sp) → List Int → Prop
  | [], [] => True
  | s :: r, x :: xs => Mem s x ∧ hitM r xs
  | _, _ => False
theorem hitM_len {L : List (List Sp)} {xs : List Int} (h : hitM L xs) : L.length = xs.length := by
  induction L generalizing xs with
  | nil => cases xs with
    | nil => rfl
    | cons => cases h
  | cons s L ih => cases xs with
    | nil => cases h
    | cons x xs => simp [ih h.2]
theorem hitM_iff (L : List (List Sp)) (xs : List Int) : hitM L xs ↔ (L.length = xs.length ∧ ∀ (k : Nat) s x, L[k]? = some s → xs[k]? = some x → Mem s x) := by
  induction L generalizing xs with
  | nil =>
    cases xs with
    | nil => simp [hitM]
    | cons x xs => simp [hitM]
  | cons s L ih =>
    cases xs with
    | nil => simp [hitM]
    | cons x xs =>
      simp only [hitM, ih, List.length_cons, Nat.add_right_cancel_iff]
      constructor
      · rintro ⟨h1, h2, h3⟩
        refine ⟨h2, fun k s' x' hs hx => ?_⟩
        cases k with
        | zero => simp at hs hx; subst hs; subst hx; exact h1
        | succ k => exact h3 k s' x' (by simpa using hs) (by simpa using hx)
      · rintro ⟨h2, h3⟩
        exact ⟨h3 0 s x rfl rfl, h2, fun k s' x' hs hx => h3 (k + 1) s' x' (by simpa using hs) (by simpa using hx)⟩
section
variable {w0 w : World} {F : World → Prop}
set_option maxRecDepth 100000 in
set_option maxHeartbeats 16000000 in
theorem In_st (hK : Hid (St w0 w F)) {A B : Option Addr} {O : List (Item Sp)} {xs : List Int} (ha : ∀ W, F W → LLx A O W) (hb : ∀ W, F W → RunesAt B xs W) (c d : Nat) (v : Bool) (hv : Hid (pB (hitM (bodies O) xs) = v)) :
    Calls Try.prog 13 #[.slice A O.length c, .slice B xs.length d] w (RetV w0 (.bool v) F) := by
  have HA := Lib.hid ha
  have HB := Lib.hid hb
  have hln := (ha _ hK.out.now).2
  have hlx := (hb _ hK.out.now).ln
  clear ha hb
  go_enter Try.func13, Try.ntmps13
  by_cases hlen : O.length = xs.length
  case neg =>
    have h1 : ((O.length : Int) != (xs.length : Int)) = true := by rw [bne_iff_ne]; omega
    obtain rfl := pB_f hv (fun h => hlen (by rw [← hitM_len h, bodies_length]))
    go_wp2_with fail
    go_ret
    exact ⟨rfl, hK⟩
  have h1 : ((O.length : Int) != (xs.length : Int)) = false := by rw [bne_eq_false_iff_eq]; omega
  have HLEN := Lib.hid hlen
  clear hlen
  go_wp2_with fail
  clear h1
  go_loopw [14] (fun i wr => ∃ k : Nat, k ≤ O.length ∧ i = .int .i64 k ∧ Hid (∀ (j : Nat) s x, j < k → (bodies O)[j]? = some s → xs[j]? = some x → Mem s x) ∧ Hid (St w0 wr F)) (fun i _ => O.length - (intOf i).toNat)
  case atStart => exact ⟨0, Nat.zero_le _, rfl, Lib.hid (fun j s x hj => by omega), hK⟩
  case round =>
  obtain ⟨k, hk, rfl, HR, HK⟩ := hrel
  by_cases hlt : k < O.length
  · obtain ⟨gb, off, ba, bc, b, rfl, _, hb, hc, hl⟩ := (HA.out _ HK.out.now).at_ hlt
    obtain ⟨xb, xo, x, rfl, hx, hrw, hxc⟩ := (HB.out _ HK.out.now).at_ (j := k) (by have := HLEN.out; omega)
    have HX := Lib.hid (And.intro hb hx)
    have HKi := Lib.hid (HK.out.add (Below.refl _ _) (G := Lst ba b) (fun W hW => hl.below hW))
    have hxi : (k : Int) < xs.length := by have := HLEN.out; omega
    have hwx : wrap64 x = x := by unfold wrap64; have := hrw.1; have := hrw.2; omega
    clear hb hx hl
    rcases hm : hasB b x with _ | _
    · have HM := Lib.hid hm
      obtain rfl := pB_f hv (fun h => by
        have := ((hitM_iff _ _).1 h).2 k b x HX.out.1 HX.out.2
        rw [← hasB_iff, HM.out] at this; cases this)
      clear hm
      go_wp2_with (go_at_call 24; refine (Has_st HKi (fun _ h => h.1) bc x HM.out).mono ?_; rintro e w3 ⟨rfl, HK3⟩)
      go_ret
      exact ⟨rfl, Lib.hid (HK3.out.weaken fun _ h => h.2)⟩
    · have HM := Lib.hid hm
      have HR2 : Hid (∀ (j : Nat) s x, j < k + 1 → (bodies O)[j]? = some s → xs[j]? = some x → Mem s x) := Lib.hid fun j s x' hj hs hx' => by
        by_cases e : j = k
        · subst e
          rw [HX.out.1] at hs; rw [HX.out.2] at hx'
          injection hs with hs; injection hx' with hx'
          subst hs; subst hx'
          exact (hasB_iff _ _).1 HM.out
        · exact HR.out j s x' (by omega) hs hx'
      clear hm
      go_wp2_with (go_at_call 24; refine (Has_st HKi (fun _ h => h.1) bc x HM.out).mono ?_; rintro e w3 ⟨rfl, HK3⟩)
      go_roundw
      case rel => exact ⟨k + 1, by omega, by go_num, HR2, Lib.hid (HK3.out.weaken fun _ h => h.2)⟩
      case measure => simp [intOf]; omega
  · obtain rfl : k = O.length := by omega
    have hd : decide (O.length < O.length) = false := by simp
    obtain rfl := pB_t hv ((hitM_iff _ _).2 ⟨by rw [bodies_length]; exact HLEN.out, fun j s x hs hx => HR.out j s x (by have := (List.getElem?_eq_some_iff.1 hs).1; rwa [bodies_length] at this) hs hx⟩)
    go_wp2_with fail
    go_ret
    exact ⟨rfl, HK⟩
end
end Go.Proofs.Ytpmhdjiacgckjaa
end
section
namespace Go.Proofs.Ytpmhdjiacgckjaa
open Go.RowKit
set_option linter.unusedVariables false
set_option linter.unusedSimpArgs false
/-- block pb and one row alone may have been written -/
structure Only (pb : Nat) (r : Option Nat) (w w' : World) : Prop where
  os : w'.os = w.os
  tape : w'.tape = w.tape
  output : w'.output = w.output
  size : w.heap.size ≤ w'.heap.size
  block : ∀ k, k < w.heap.size → k ≠ pb → some k ≠ r → w'.heap[k]? = w.heap[k]?
/-- a row that is the old one, or new -/
def Newer (r r' : Option Nat) (n : Nat) : Prop := r' = r ∨ ∃ g, r' = some g ∧ n ≤ g
theorem Newer.refl (r : Option Nat) (n : Nat) : Newer r r n := .inl rfl
theorem Newer.trans {r r1 r2 : Option Nat} {n m : Nat} (h : Newer r r1 n) (k : Newer r1 r2 m) (hm : n ≤ m) : Newer r r2 n := by
  rcases k with rfl | ⟨g, rfl, hg⟩
  · exact h
  · exact .inr ⟨g, rfl, Nat.le_trans hm hg⟩
theorem Only.refl (pb : Nat) (r : Option Nat) (w : World) : Only pb r w w := ⟨rfl, rfl, rfl, Nat.le_refl _, fun _ _ _ _ => rfl⟩
theorem Only.trans {pb : Nat} {r r1 : Option Nat} {a b c : World} (h : Only pb r a b) (k : Only pb r1 b c) (hr : Newer r r1 a.heap.size) : Only pb r a c :=
  ⟨k.os.trans h.os, k.tape.trans h.tape, k.output.trans h.output, Nat.le_trans h.size k.size, fun i hi h1 h2 => by
    refine (k.block i (Nat.lt_of_lt_of_le hi h.size) h1 ?_).trans (h.block i hi h1 h2)
    rcases hr with rfl | ⟨g, rfl, hg⟩
    · exact h2
    · intro e; injection e with e; omega⟩
theorem Only.alloc {pb : Nat} {r : Option Nat} {a b : World} (h : Only pb r a b) (o : Obj) : Only pb r a (b.alloc o) :=
  ⟨h.os, h.tape, h.output, Nat.le_trans h.size (by simp), fun k hk h1 h2 => (Below.heap_alloc _ _ _ (Nat.lt_of_lt_of_le hk h.size)).trans (h.block k hk h1 h2)⟩
theorem Only.drewN {pb : Nat} {r : Option Nat} {a b : World} (h : Only pb r a b) (n : Nat) : Only pb r a (b.drewN n) := ⟨h.os, h.tape, h.output, h.size, h.block⟩
theorem Only.setCell {pb : Nat} {r : Option Nat} {a b : World} (h : Only pb r a b) (i : Nat) (u : Value) : Only pb r a (b.setCell ⟨pb, i, none⟩ u) :=
  ⟨h.os, h.tape, h.output, Nat.le_trans h.size (by simp [World.setCell]), fun k hk h1 h2 => (Below.heap_setCell _ _ _ _ h1).trans (h.block k hk h1 h2)⟩
theorem Only.grown {pb : Nat} {r r1 : Option Nat} {a b c : World} (h : Only pb r a b) (hg : b.grownBy c r1) (hr : Newer r r1 a.heap.size) : Only pb r a c :=
  ⟨hg.os.trans h.os, hg.tape.trans h.tape, hg.output.trans h.output, Nat.le_trans h.size hg.size, fun k hk h1 h2 => by
    refine (hg.block k (Nat.lt_of_lt_of_le hk h.size) ?_).trans (h.block k hk h1 h2)
    rcases hr with rfl | ⟨g, rfl, hg2⟩
    · exact h2
    · intro e; injection e with e; omega⟩
theorem Only.of_below {pb : Nat} {r : Option Nat} {a b : World} (h : Below a.heap.size a b) : Only pb r a b := ⟨h.os, h.tape, h.output, h.size, fun k hk _ _ => h.block k hk⟩
theorem Only.below {pb B : Nat} {r : Option Nat} {a b : World} (h : Only pb r a b) (hp : B ≤ pb) (hr : ∀ g, r = some g → B ≤ g) (hB : B ≤ a.heap.size) : Below B a b :=
  ⟨h.os, h.tape, h.output, h.size, fun k hk => h.block k (by omega) (by omega) (fun e => by have := hr k e.symm; omega)⟩

def ownA (A : Option Addr) : Option Nat := A.map (·.block)
theorem own_ownA (A : Option Addr) (n c : Nat) : Value.ownBlock (.slice A n c) = ownA A := by cases A <;> rfl
/-- it holds, and holds wherever the blocks of P are as they are here -/
def Dep (P : Nat → Prop) (w : World) (G : World → Prop) : Prop := ∀ W, (∀ k, P k → k < w.heap.size → W.heap[k]? = w.heap[k]?) → G W
section
variable {P P' : Nat → Prop} {w w' : World} {G : World → Prop}
theorem Dep.now (h : Dep P w G) : G w := h w fun _ _ _ => rfl
theorem Dep.step (h : Dep P w G) (hk : ∀ k, P k → k < w.heap.size → w'.heap[k]? = w.heap[k]?) (hs : w.heap.size ≤ w'.heap.size) (hP : ∀ k, P k → k < w.heap.size → P' k) : Dep P' w' G :=
  fun W hW => h W fun k hp hl => (hW k (hP k hp hl) (Nat.lt_of_lt_of_le hl hs)).trans (hk k hp hl)
theorem Dep.mono (h : Dep P w G) (hP : ∀ k, P k → k < w.heap.size → P' k) : Dep P' w G := h.step (fun _ _ _ => rfl) (Nat.le_refl _) hP
theorem Dep.st (h : Dep P w G) : ∀ W, Below w.heap.size w W → G W := fun W hW => h W fun k _ hl => hW.block k hl
end
theorem own_keep {w w' : World} {base size : Nat} {t : TypeId} {A : Option Addr} {c n : Nat} {xs : List Value} (h : w.ownsRow base t size (.slice A n c) n xs) (hk : ∀ k, ownA A = some k → w'.heap[k]? = w.heap[k]?) : w'.ownsRow base t size (.slice A n c) n xs := by
  refine ⟨h.1, ?_⟩
  rcases h.2 with hn | ⟨g, cap, cur, h1, h2, h3, h4⟩
  · exact .inl hn
  · refine .inr ⟨g, cap, cur, h1, h2, (hk g ?_).trans h3, h4⟩
    rw [← own_ownA A n c, h1]; rfl
structure GoRow {α : Type} (n : Nat) (t : TypeId) (size : Nat) (f : α → List Value) (R : α → World → Prop) (A : Option Addr) (c : Nat) (L : List α) (W : World) : Prop where
  own : W.ownsRow n t size (.slice A L.length c) L.length (L.flatMap f)
  dep : ∀ x ∈ L, Dep (fun k => n ≤ k ∧ some k ≠ ownA A) W (R x)
section
variable {α : Type} {n : Nat} {t : TypeId} {size : Nat} {f : α → List Value} {R : α → World → Prop} {A : Option Addr} {c : Nat} {L : List α} {W W' : World}
theorem GoRow.rlt (h : GoRow n t size f R A c L W) : ∀ k, ownA A = some k → n ≤ k ∧ k < W.heap.size := fun k hk => h.own.lt k (by rw [own_ownA]; exact hk)
theorem GoRow.keep (h : GoRow n t size f R A c L W) (hs : W.heap.size ≤ W'.heap.size) (hk : ∀ k, n ≤ k → k < W.heap.size → W'.heap[k]? = W.heap[k]?) : GoRow n t size f R A c L W' :=
  ⟨own_keep h.own fun k hA => hk k (h.rlt k hA).1 (h.rlt k hA).2, fun x hx => (h.dep x hx).step (fun k hp hl => hk k hp.1 hl) hs fun k hp _ => hp⟩
theorem GoRow.alloc (h : GoRow n t size f R A c L W) (o : Obj) : GoRow n t size f R A c L (W.alloc o) := h.keep (by simp) fun k _ hl => Below.heap_alloc _ _ _ hl
theorem GoRow.drewN (h : GoRow n t size f R A c L W) (q : Nat) : GoRow n t size f R A c L (W.drewN q) := h.keep (Nat.le_refl _) fun k _ hl => rfl
theorem GoRow.only (h : GoRow n t size f R A c L W) {rb : Nat} (hr : rb < n) (ho : Only rb none W W') : GoRow n t size f R A c L W' :=
  h.keep ho.size fun k hk hl => ho.block k hl (by omega) (by simp)
theorem GoRow.only2 (h : GoRow n t size f R A c L W) {rb tb : Nat} (hr : rb < n) (ht : tb < n) (ho : Only rb (some tb) W W') : GoRow n t size f R A c L W' :=
  h.keep ho.size fun k hk hl => ho.block k hl (by omega) (by intro e; injection e with e; omega)
theorem GoRow.set (h : GoRow n t size f R A c L W) (b i : Nat) (v : Value) (hb : b < n) : GoRow n t size f R A c L (W.setCell ⟨b, i, none⟩ v) :=
  h.keep (by simp [World.setCell]) fun k hk _ => heap_setCell_other _ _ _ _ (fun e => by have e : k = b := e; omega)
theorem GoRow.nil_ (n : Nat) (t : TypeId) (size : Nat) (f : α → List Value) (R : α → World → Prop) (W : World) : GoRow n t size f R none 0 [] W :=
  ⟨⟨by simp, .inl ⟨rfl, rfl⟩⟩, fun x hx => by cases hx⟩
/-- one record more -/
theorem GoRow.push (h : GoRow n t size f R A c L W) {A' : Option Addr} {c' : Nat} {x : α} {o : Obj} (ho : W'.ownsRow n t size (.slice A' (L.length + 1) c') (L.length + 1) (L.flatMap f ++ f x))
    (hg : (W.alloc o).grownBy W' (ownA A)) (hn : Newer (ownA A) (ownA A') (W.heap.size + 1)) (hx : Dep (fun k => n ≤ k ∧ some k ≠ ownA A) W (R x)) : GoRow n t size f R A' c' (L ++ [x]) W' := by
  have hs : W.heap.size ≤ W'.heap.size := Nat.le_trans (by simp) hg.size
  have hd : ∀ G, Dep (fun k => n ≤ k ∧ some k ≠ ownA A) W G → Dep (fun k => n ≤ k ∧ some k ≠ ownA A') W' G := fun G hG => hG.step
    (fun k hp hl => (hg.block k (by simp; omega) hp.2).trans (Below.heap_alloc _ _ _ hl)) hs
    (fun k hp hl => ⟨hp.1, by
      rcases hn with e | ⟨g, e, hgl⟩
      · rw [e]; exact hp.2
      · rw [e]; intro e2; injection e2 with e2; omega⟩)
  refine ⟨?_, fun y hy => ?_⟩
  · rw [List.length_append, List.flatMap_append]
    simpa using ho
  · rcases List.mem_append.1 hy with hy | hy
    · exact hd _ (h.dep y hy)
    · rw [List.mem_singleton] at hy; subst hy; exact hd _ hx
/-- the row is done -/
theorem GoRow.rows (h : GoRow n t size f R A c L W) (hl : L.length ≤ 9223372036854775807) : Dep (fun k => n ≤ k) W (RowsAt size f R A L) := fun V hV =>
  ⟨Sl.of_own (own_keep h.own fun k hk => hV k (h.rlt k hk).1 (h.rlt k hk).2), fun x hx => h.dep x hx V fun k hp hk => hV k hp.1 hk, hl⟩
end
section
variable {P : Program} {w0 : World} {ops : Array Oper} {rest : List Oper} {o : Oper} {a : Act} {Q : Exit → Act → World → Prop}
theorem run_pushG (t ty : TypeId) (base : Nat) (e : TypeId) (i : TypeInfo) (z : Value) (size bytes : Nat) (ht : P.underlying t = some (.slice e)) (hi : P.info? e = some i) (hz : i.zero = some z)
    (hsize : i.size = size) (hby : i.bytes = bytes) (hzs : z.cells.size = size) (hsz : 0 < size)
    {A : Option Addr} {c n : Nat} {xs : List Value} (hown : w0.ownsRow base e size (.slice A n c) n xs) (news : List Value) (e' : TypeId) (hl : news.length = size) (h1 : ∀ u ∈ news, u.oneCell' = true)
    (hn : n < 1099511627776) (hb : bytes ≤ 128) (hbase : base ≤ w0.heap.size) :
    ∃ A' c' w', (Builtin.append_ #[t, t] ty #[.slice A n c, .slice (some ⟨w0.heap.size, 0, none⟩) 1 1]).run P (w0.alloc (.cells news.toArray e')) = .ok (.slice A' (n + 1) c') w' ∧
      Hid (w'.ownsRow base e size (.slice A' (n + 1) c') (n + 1) (xs ++ news)) ∧ Hid ((w0.alloc (.cells news.toArray e')).grownBy w' (ownA A)) ∧ Hid (Newer (ownA A) (ownA A') (w0.heap.size + 1)) := by
  obtain ⟨v', w', r1, r2, r3, _, r5⟩ := run_append_own_at (P := P) (w0.alloc (.cells news.toArray e')) base t ty e i z size bytes ht hi hz hsize hby hzs hsz (.slice A n c) n xs (hown.alloc _) ⟨w0.heap.size, 0, none⟩ 1 1 news (by omega)
    (by
      intro j u hu
      have e0 : (⟨w0.heap.size, 0, none⟩ : Addr).add j = ⟨w0.heap.size, 0 + j, none⟩ := by unfold Addr.add; split <;> simp_all
      rw [e0]
      have hb0 : (w0.alloc (.cells news.toArray e')).heap[w0.heap.size]? = some (.cells news.toArray e' (0, 0)) := heap_alloc_new w0 _
      simp only [World.cell?, hb0]
      simpa using hu)
    h1 (by unfold maxLen; omega) (by have : (n + 1) * bytes ≤ (n + 1) * 128 := Nat.mul_le_mul_left _ hb; omega) (by simp; omega)
  obtain ⟨A', c', rfl⟩ := own_shape r2
  rw [own_ownA] at r3 r5
  rw [own_ownA] at r5
  refine ⟨A', c', w', r1, Lib.hid r2, Lib.hid r3, Lib.hid ?_⟩
  rcases r5 with h | h
  · exact .inl h
  · exact .inr ⟨_, h, by simp⟩
theorem wpList_pushG (hgd : o.guard = none) (s x : Operand) (t : TypeId)
    (ho : o.op = .call { callee := .builtin .append, args := #[s, x], argTypes := #[t, t] })
    (base : Nat) (e : TypeId) (i : TypeInfo) (z : Value) (size bytes : Nat) (ht : P.underlying t = some (.slice e)) (hi : P.info? e = some i) (hz : i.zero = some z)
    (hsize : i.size = size) (hby : i.bytes = bytes) (hzs : z.cells.size = size) (hsz : 0 < size)
    {A : Option Addr} {c n : Nat} {xs : List Value} (hown : w0.ownsRow base e size (.slice A n c) n xs) (hs : a.eval s = .slice A n c)
    (news : List Value) (e' : TypeId) (hx : a.eval x = .slice (some ⟨w0.heap.size, 0, none⟩) 1 1) (hl : news.length = size) (h1 : ∀ u ∈ news, u.oneCell' = true)
    (hn : n < 1099511627776) (hb : bytes ≤ 128) (hbase : base ≤ w0.heap.size)
    (h : ∀ A' c' w', Hid (w'.ownsRow base e size (.slice A' (n + 1) c') (n + 1) (xs ++ news)) → Hid ((w0.alloc (.cells news.toArray e')).grownBy w' (ownA A)) → Hid (Newer (ownA A) (ownA A') (w0.heap.size + 1)) → wpList P ops Q rest (a.put o.dst (.slice A' (n + 1) c')) w') :
    wpList P ops Q (o :: rest) a (w0.alloc (.cells news.toArray e')) := by
  refine wpList_plain hgd fun K hK => ?_
  obtain ⟨A', c', w', hr, k1, k2, k3⟩ := run_pushG (P := P) t o.type base e i z size bytes ht hi hz hsize hby hzs hsz hown news e' hl h1 hn hb hbase
  unfold Oper.wp execOp
  simp only [ho, resolve, invoke, builtin, Sem.run_bind, Sem.run_pure, Result.andThen_ok, List.map_toArray, List.map_cons, List.map_nil, hs, hx, hr]
  exact hK _ _ (h A' c' w' k1 k2 k3)
/-- the same as a step of a region that draws its order -/
theorem step_pushG {K : Act → World → Prop} {E : Prop} (hgd : o.guard = none) (s x : Operand) (t : TypeId)
    (ho : o.op = .call { callee := .builtin .append, args := #[s, x], argTypes := #[t, t] })
    (base : Nat) (e : TypeId) (i : TypeInfo) (z : Value) (size bytes : Nat) (ht : P.underlying t = some (.slice e)) (hi : P.info? e = some i) (hz : i.zero = some z)
    (hsize : i.size = size) (hby : i.bytes = bytes) (hzs : z.cells.size = size) (hsz : 0 < size)
    {A : Option Addr} {c n : Nat} {xs : List Value} (hown : w0.ownsRow base e size (.slice A n c) n xs) (hs : a.eval s = .slice A n c)
    (news : List Value) (e' : TypeId) (hx : a.eval x = .slice (some ⟨w0.heap.size, 0, none⟩) 1 1) (hl : news.length = size) (h1 : ∀ u ∈ news, u.oneCell' = true)
    (hn : n < 1099511627776) (hb : bytes ≤ 128) (hbase : base ≤ w0.heap.size)
    (h : ∀ A' c' w', Hid (w'.ownsRow base e size (.slice A' (n + 1) c') (n + 1) (xs ++ news)) → Hid ((w0.alloc (.cells news.toArray e')).grownBy w' (ownA A)) → Hid (Newer (ownA A) (ownA A') (w0.heap.size + 1)) → K (a.put o.dst (.slice A' (n + 1) c')) w') :
    if Region.wanted o (yielded ops a.tmps) = true then Oper.wp P o a (w0.alloc (.cells news.toArray e')) K Q else E := by
  have hw : Region.wanted o (yielded ops a.tmps) = true := by simp [Region.wanted, hgd]
  rw [if_pos hw]
  obtain ⟨A', c', w', hr, k1, k2, k3⟩ := run_pushG (P := P) t o.type base e i z size bytes ht hi hz hsize hby hzs hsz hown news e' hl h1 hn hb hbase
  unfold Oper.wp execOp
  simp only [ho, resolve, invoke, builtin, Sem.run_bind, Sem.run_pure, Result.andThen_ok, List.map_toArray, List.map_cons, List.map_nil, hs, hx, hr]
  exact h A' c' w' k1 k2 k3
end
end Go.Proofs.Ytpmhdjiacgckjaa
end
section
namespace Go.Proofs.Ytpmhdjiacgckjaa
open Go.RowKit
set_option linter.unusedVariables false
set_option linter.unusedSimpArgs false
def hdC (i : Item Sp) : List Value := [ival i]
def hdR (i : Item Sp) (W : World) : Prop := Lst i.1 i.2.2 W
theorem infoHdx : (Try.prog.info? 26).map (fun i => (i.zero, i.size, i.bytes)) = some (some (.slice none 0 0), 1, 24) := by kernel_rfl
theorem hd_cells (L : List (Item Sp)) : L.flatMap hdC = icells L := by
  induction L with
  | nil => rfl
  | cons i L ih => rw [List.flatMap_cons, ih]; rfl
/-- a new list: where it hangs -/
def RetLD (w0 w : World) (r : List Sp) (F : World → Prop) (e : Ending) (w' : World) : Prop := ∃ A c, e = .returned (.slice A r.length c) ∧ Hid (Dep (fun k => w.heap.size ≤ k) w' (Lst A r)) ∧ Hid (St w0 w' (fun W => Lst A r W ∧ F W)) ∧ Hid (Below w.heap.size w w')
section
variable {w0 w : World} {F : World → Prop}
theorem retLD_own {r : List Sp} {e : Ending} {w' : World} (hK : Hid (St w0 w F)) (hp : Plain r) (ho : OwnList w w.heap.size r e w') : RetLD w0 w r F e w' := by
  obtain ⟨v, rfl, hown, hb⟩ := ho
  obtain ⟨A1, c1, rfl⟩ := own_shape hown
  have hd : Dep (fun k => w.heap.size ≤ k) w' (Lst A1 r) := fun V hV => hp.lst (Sl.of_own (own_keep hown fun g hg => by
    have h1 := hown.lt g (by rw [own_ownA]; exact hg)
    exact hV g h1.1 h1.2)) V (Below.refl _ _)
  exact ⟨A1, c1, rfl, Lib.hid hd, Lib.hid (hK.out.add hb hd.st), Lib.hid hb⟩
theorem Meet_stD {A B : Option Addr} {a b r : List Sp} (hK : Hid (St w0 w F)) (ha : ∀ W, F W → Lst A a W) (hb : ∀ W, F W → Lst B b W) (c d : Nat) (hr : Hid (Rep r (fun x => Mem a x ∧ Mem b x))) : Calls Try.prog 30 #[.slice A a.length c, .slice B b.length d] w (RetLD w0 w r F) := by
  have h1 := ha w hK.out.now
  have h2 := hb w hK.out.now
  refine (Meet_any A B _ c _ d a b w h1.sp h2.sp h1.wd h2.wd (by have := h1.len; omega) (by have := h2.len; omega)).mono ?_
  rintro e w1 ⟨r', ho, hr', _⟩
  obtain rfl := Rep.unique hr' hr.out (fun _ => Iff.rfl)
  exact retLD_own hK hr'.1 ho
/-- what two boxes have in common -/
noncomputable def meetL (a b : List (List Sp)) : List (List Sp) := List.zipWith (fun s t => plL fun x => Mem s x ∧ Mem t x) a b
def meetOk (a b : List (List Sp)) : Prop := a.length = b.length ∧ ∀ s ∈ meetL a b, s ≠ []
theorem meet_rep (a b : List Sp) : Rep (plL fun x => Mem a x ∧ Mem b x) (fun x => Mem a x ∧ Mem b x) := plL_rep (rep_all _ fun x hx => ⟨hx.1.1, hx.1.2.1⟩)
theorem meetL_at {a b : List (List Sp)} {k : Nat} {s t : List Sp} (hs : a[k]? = some s) (ht : b[k]? = some t) : (meetL a b)[k]? = some (plL fun x => Mem s x ∧ Mem t x) := by
  unfold meetL; rw [List.getElem?_zipWith, hs, ht]
def RetMeet (w0 : World) (a b : List (List Sp)) (F : World → Prop) (e : Ending) (w' : World) : Prop :=
  (¬ meetOk a b ∧ e = .returned (.tuple #[.slice none 0 0, .bool false]) ∧ Hid (St w0 w' F)) ∨
  (meetOk a b ∧ ∃ A O c, bodies O = meetL a b ∧ e = .returned (.tuple #[.slice A O.length c, .bool true]) ∧ Hid (St w0 w' (fun W => LLx A O W ∧ F W)))
set_option maxRecDepth 100000 in
set_option maxHeartbeats 16000000 in
theorem BMeet_st (hK : Hid (St w0 w F)) {A B : Option Addr} {O N : List (Item Sp)} (ha : ∀ W, F W → LLx A O W) (hb : ∀ W, F W → LLx B N W) (c d : Nat) (hlo : O.length ≤ 1048576) :
    Calls Try.prog 19 #[.slice A O.length c, .slice B N.length d] w (RetMeet w0 (bodies O) (bodies N) F) := by
  have HA := Lib.hid ha
  have HB := Lib.hid hb
  have hln := (ha _ hK.out.now).2
  have hlx := (hb _ hK.out.now).2
  clear ha hb
  go_enter Try.func19, Try.ntmps19
  by_cases hlen : O.length = N.length
  case neg =>
    have h1 : ((O.length : Int) != (N.length : Int)) = true := by rw [bne_iff_ne]; omega
    have HNO : Hid (¬ meetOk (bodies O) (bodies N)) := Lib.hid fun h => hlen (by have := h.1; rwa [bodies_length, bodies_length] at this)
    go_wp2_with fail
    go_ret2
    exact .inl ⟨HNO.out, rfl, hK⟩
  have h1 : ((O.length : Int) != (N.length : Int)) = false := by rw [bne_eq_false_iff_eq]; omega
  have HLEN := Lib.hid hlen
  clear hlen
  go_wp2_with fail
  clear h1
  obtain ⟨n, hn⟩ : ∃ n, w.heap.size = n := ⟨_, rfl⟩
  go_loopw [6, 16] (fun ov i wr => ∃ (k : Nat) (A2 : Option Addr) (c2 : Nat) (L : List (Item Sp)), k ≤ O.length ∧ i = .int .i64 k ∧ L.length = k ∧ ov = .slice A2 L.length c2 ∧ Hid (bodies L = (meetL (bodies O) (bodies N)).take k ∧ ∀ s ∈ bodies L, s ≠ []) ∧ Hid (GoRow n 26 1 hdC hdR A2 c2 L wr) ∧ Hid (Below n w wr)) (fun _ i _ => O.length - (intOf i).toNat)
  case atStart => exact ⟨0, none, 0, [], Nat.zero_le _, rfl, rfl, rfl, Lib.hid ⟨rfl, fun s hs => (by cases hs)⟩, Lib.hid (GoRow.nil_ _ _ _ _ _ _), Lib.hid (by rw [← hn]; exact Below.refl _ _)⟩
  case round =>
  obtain ⟨k, A2, c2, L, hk, rfl, hLk, rfl, HL, HG, HBL⟩ := hrel
  by_cases hlt : k < O.length
  · have HK : Hid (St w0 wr F) := Lib.hid (hK.out.step (by rw [hn]; exact HBL.out))
    obtain ⟨gb, off, ba, bc, b, rfl, _, hb, hc, hl⟩ := (HA.out _ HK.out.now).at_ hlt
    obtain ⟨xb, xo, xa, xc, x, rfl, _, hx, hxc, hxl⟩ := (HB.out _ HK.out.now).at_ (k := k) (by have := HLEN.out; omega)
    have HX := Lib.hid (meetL_at hb hx)
    have HKi := Lib.hid (HK.out.add (Below.refl _ _) (G := fun W => (W.cell? ⟨gb, off + k, none⟩ = some (.slice ba b.length bc) ∧ W.cell? ⟨xb, xo + k, none⟩ = some (.slice xa x.length xc)) ∧ Lst ba b W ∧ Lst xa x W)
      (fun W hW => ⟨⟨(hW.cell (p := ⟨gb, off + k, none⟩) (lt_of_cell hc)).trans hc, (hW.cell (p := ⟨xb, xo + k, none⟩) (lt_of_cell hxc)).trans hxc⟩, hl.below hW, hxl.below hW⟩))
    obtain ⟨r, hr⟩ : ∃ r, (plL fun y => Mem b y ∧ Mem x y) = r := ⟨_, rfl⟩
    have HR : Hid (Rep r (fun y => Mem b y ∧ Mem x y)) := Lib.hid (by rw [← hr]; exact meet_rep b x)
    rw [hr] at HX
    have hxi : (k : Int) < N.length := by have := HLEN.out; omega
    have hsz : n ≤ wr.heap.size := by have := HBL.out.size; omega
    clear hb hx hl hxl hc hxc hr
    go_wp2_with fail
    have HK1 := St.hdrewN HKi 1
    go_region_held3 (fun W => W.cell? ⟨gb, off + k, none⟩ = some (.slice ba b.length bc) ∧ W.cell? ⟨xb, xo + k, none⟩ = some (.slice xa x.length xc))
      (first | exact HK1.out.now.1.1 | exact HK2.out.now.2.1.1 | go_keep)
      ((go_at_call 30; refine (Meet_stD HK1 (fun _ h => h.1.2.1) (fun _ h => h.1.2.2) bc xc HR).mono ?_; rintro e5 w5 ⟨A5, c5, rfl, HD5, HK2, HB5⟩))
    by_cases hrn : r = []
    · subst hrn
      have HNO : Hid (¬ meetOk (bodies O) (bodies N)) := Lib.hid fun h => h.2 _ (List.mem_of_getElem? HX.out) rfl
      go_wp2_with fail
      go_ret2
      exact .inl ⟨HNO.out, rfl, Lib.hid (HK2.out.weaken fun _ h => h.2.2)⟩
    · have hrl : ((r.length : Int) == 0) = false := by
        rw [beq_eq_false_iff_ne]
        intro h
        exact hrn (List.eq_nil_of_length_eq_zero (by omega))
      have HRN := Lib.hid hrn
      have HB6 : Hid (Below wr.heap.size wr w5) := Lib.hid (below_to (below_drewN (Below.refl _ _) 1) (by simpa using HB5.out))
      have HG5 := Lib.hid (HG.out.keep HB6.out.size fun k _ hl => HB6.out.block k hl)
      have HD6 : Hid (Dep (fun k => n ≤ k ∧ some k ≠ ownA A2) w5 (hdR (A5, c5, r))) := Lib.hid (HD5.out.mono fun k hp hl => by
        have hp2 : wr.heap.size ≤ k := by simpa using hp
        exact ⟨Nat.le_trans hsz hp2, fun e => by have := (HG.out.rlt k e.symm).2; omega⟩)
      have hz5 : n ≤ w5.heap.size := Nat.le_trans hsz HB6.out.size
      obtain ⟨i0, hi, hz0, hz1, hz2⟩ := info_parts infoHdx
      have HO5 : Hid (w5.ownsRow n 26 1 (.slice A2 L.length c2) L.length (L.flatMap hdC)) := Lib.hid HG5.out.own
      have hl40 : L.length < 1099511627776 := by omega
      subst hLk
      clear hrn HKi HK1
      go_wp2_with (at_builtin; go_must (refine wpList_pushG rfl _ _ 25 rfl n 26 i0 _ 1 24 Try.underlying25 hi hz0 hz1 hz2 rfl (by decide) HO5.out rfl [.slice A5 r.length c5] 26 rfl rfl (by simp [Value.oneCell']) hl40 (by decide) hz5 ?_); intro A9 c9 w9 HO9 HG9 HN9)
      have HGN := Lib.hid (HG5.out.push (x := (A5, c5, r)) HO9.out HG9.out HN9.out HD6.out)
      have hbw : Below n wr w5 := by
        have := HB6.out
        exact ⟨this.os, this.tape, this.output, this.size, fun k hk => this.block k (by omega)⟩
      have HBN : Hid (Below n w w9) := Lib.hid (((HBL.out.trans hbw).alloc hz5 _).grown HG9.out (by simp; omega) fun k hk => (HG5.out.rlt k hk).1)
      go_roundw
      case rel => exact ⟨L.length + 1, A9, c9, L ++ [(A5, c5, r)], by omega, by go_num, by simp, by simp, Lib.hid ⟨by rw [bodies_append, HL.out.1, take_snoc? HX.out]; rfl, fun s hs => by
        rw [bodies_append] at hs
        rcases List.mem_append.1 hs with h | h
        · exact HL.out.2 s h
        · have : s = r := by simpa [bodies] using h
          rw [this]; exact HRN.out⟩, HGN, HBN⟩
      case measure => simp [intOf]; omega
  · obtain rfl : k = O.length := by omega
    have hd : decide (O.length < O.length) = false := by simp
    have hML : (meetL (bodies O) (bodies N)).length = O.length := by
      unfold meetL; rw [List.length_zipWith, bodies_length, bodies_length, HLEN.out, Nat.min_self]
    have HOK : Hid (bodies L = meetL (bodies O) (bodies N)) := Lib.hid (by rw [HL.out.1, List.take_of_length_le (by omega)])
    have HL2 : Hid (meetOk (bodies O) (bodies N)) := Lib.hid ⟨by rw [bodies_length, bodies_length]; exact HLEN.out, fun s hs => HL.out.2 s (by rw [HOK.out]; exact hs)⟩
    have HLL : Hid (∀ V, Below wr.heap.size wr V → LLx A2 L V) := Lib.hid fun V hV => by
      have h := HG.out.rows (by omega) V (fun k _ hl => hV.block k hl)
      have h1 := h.sl
      rw [hd_cells] at h1
      exact ⟨⟨h1, h.it⟩, by omega⟩
    have HKE : Hid (St w0 wr (fun W => LLx A2 L W ∧ F W)) := Lib.hid (hK.out.add (by rw [hn]; exact HBL.out) HLL.out)
    rw [← hLk] at hd ⊢
    clear hML
    go_wp2_with fail
    go_ret2
    exact .inr ⟨HL2.out, A2, L, c2, HOK.out, rfl, HKE⟩
end
end Go.Proofs.Ytpmhdjiacgckjaa
end
section
namespace Go.Proofs.Ytpmhdjiacgckjaa
open Go.RowKit
set_option linter.unusedVariables false
set_option linter.unusedSimpArgs false
def RowsX (A : Option Addr) (R : List (Item (Item Sp))) (W : World) : Prop := Items LLx A R.length R W ∧ R.length ≤ 9223372036854775807
theorem LLx.lasts : Lasts LLx := fun A l w w' h hb => h.below hb
theorem RowsX.below {A : Option Addr} {R : List (Item (Item Sp))} {w w' : World} (h : RowsX A R w) (hb : Below w.heap.size w w') : RowsX A R w' := ⟨Items.below h.1 LLx.lasts hb, h.2⟩
def bodies2 (R : List (Item (Item Sp))) : List Row := R.map fun i => bodies i.2.2
theorem bodies2_length (R : List (Item (Item Sp))) : (bodies2 R).length = R.length := by simp [bodies2]
theorem RowsX.at_ {A : Option Addr} {L : List (Item (Item Sp))} {W : World} (h : RowsX A L W) {k : Nat} (hk : k < L.length) : ∃ gb off ba bc b, A = some ⟨gb, off, none⟩ ∧ L[k]? = some (ba, bc, b) ∧ (bodies2 L)[k]? = some (bodies b) ∧ W.cell? ⟨gb, off + k, none⟩ = some (.slice ba b.length bc) ∧ LLx ba b W := by
  obtain ⟨gb, off, ba, bc, b, hA, hx, hc, hl⟩ := h.1.at_ hk
  exact ⟨gb, off, ba, bc, b, hA, hx, by unfold bodies2; rw [List.getElem?_map, hx]; rfl, hc, hl⟩
theorem take_all {α : Type} {l m : List α} {n : Nat} (hl : l.length = n) (hm : m.length = n) (h : l.take n = m.take n) : l = m := by
  rwa [List.take_of_length_le (by omega), List.take_of_length_le (by omega)] at h
section
variable {w0 w : World} {F : World → Prop}
set_option maxRecDepth 100000 in
set_option maxHeartbeats 16000000 in
theorem Equal_st (hK : Hid (St w0 w F)) {A B : Option Addr} {a b : List Sp} (ha : ∀ W, F W → Lst A a W) (hb : ∀ W, F W → Lst B b W) (c d : Nat) (v : Bool) (hv : Hid (pB (a = b) = v)) :
    Calls Try.prog 74 #[.slice A a.length c, .slice B b.length d] w (RetV w0 (.bool v) F) := by
  have HA := Lib.hid ha
  have HB := Lib.hid hb
  have hln := (ha _ hK.out.now).len
  have hlx := (hb _ hK.out.now).len
  have hg := guardSpan
  clear ha hb
  go_enter Try.func74, Try.ntmps74
  by_cases hlen : a.length = b.length
  case neg =>
    have h1 : ((a.length : Int) != (b.length : Int)) = true := by rw [bne_iff_ne]; omega
    obtain rfl := pB_f hv (fun h => hlen (by rw [h]))
    go_wp2_with fail
    go_ret
    exact ⟨rfl, hK⟩
  have h1 : ((a.length : Int) != (b.length : Int)) = false := by rw [bne_eq_false_iff_eq]; omega
  have HLEN := Lib.hid hlen
  clear hlen
  go_wp2_with fail
  clear h1
  go_loopw [13] (fun i wr => ∃ k : Nat, k ≤ a.length ∧ i = .int .i64 k ∧ Hid (a.take k = b.take k) ∧ Hid (St w0 wr F)) (fun i _ => a.length - (intOf i).toNat)
  case atStart => exact ⟨0, Nat.zero_le _, rfl, Lib.hid rfl, hK⟩
  case round =>
  obtain ⟨k, hk, rfl, HR, HK⟩ := hrel
  by_cases hlt : k < a.length
  · obtain ⟨gb, off, x, rfl, hx, hc1, hc2⟩ := (HA.out _ HK.out.now).sp.at_ hlt
    obtain ⟨xb, xo, y, rfl, hy, hd1, hd2⟩ := (HB.out _ HK.out.now).sp.at_ (j := k) (by have := HLEN.out; omega)
    have HX := Lib.hid hx
    have HY := Lib.hid hy
    have hxi : (k : Int) < b.length := by have := HLEN.out; omega
    clear hx hy
    by_cases hxy : x = y
    · have hne := neqSpan x y true (by simpa using hxy)
      have HE := Lib.hid hxy; clear hxy
      go_wp2_with (go_quiet (fail))
      go_roundw
      case rel => exact ⟨k + 1, by omega, by go_num, Lib.hid (by rw [take_snoc? HX.out, take_snoc? HY.out, HR.out, HE.out]), St.hdrewN HK _⟩
      case measure => simp [intOf]; omega
    · have hne := neqSpan x y false (by simpa using hxy)
      obtain rfl := pB_f hv (fun h => hxy (by have h1 := HX.out; rw [h, HY.out] at h1; exact (Option.some.inj h1).symm))
      clear hxy
      go_wp2_with (go_quiet (fail))
      go_ret
      exact ⟨rfl, St.hdrewN HK _⟩
  · obtain rfl : k = a.length := by omega
    have hd : decide (a.length < a.length) = false := by simp
    obtain rfl := pB_t hv (take_all rfl HLEN.out.symm HR.out)
    go_wp2_with fail
    go_ret
    exact ⟨rfl, HK⟩
set_option maxRecDepth 100000 in
set_option maxHeartbeats 16000000 in
theorem alike11_st (hK : Hid (St w0 w F)) {A B : Option Addr} {a b : List Sp} (ha : ∀ W, F W → Lst A a W) (hb : ∀ W, F W → Lst B b W) (c d : Nat) (v : Bool) (hv : Hid (pB (a = b) = v)) :
    Calls Try.prog 73 #[.slice A a.length c, .slice B b.length d] w (RetV w0 (.bool v) F) := by
  go_enter Try.func73, Try.ntmps73
  go_wp2_with (go_at_call 74; refine (Equal_st hK ha hb c d v hv).mono ?_; rintro e w1 ⟨rfl, HK1⟩)
  go_ret
  exact ⟨rfl, HK1⟩
set_option maxRecDepth 100000 in
set_option maxHeartbeats 16000000 in
theorem EqF1_st (hK : Hid (St w0 w F)) {A B : Option Addr} {O N : List (Item Sp)} (ha : ∀ W, F W → LLx A O W) (hb : ∀ W, F W → LLx B N W) (c d : Nat) (v : Bool) (hv : Hid (pB (bodies O = bodies N) = v)) :
    Calls Try.prog 72 #[.slice A O.length c, .slice B N.length d, .func (.func 73) #[] #[]] w (RetV w0 (.bool v) F) := by
  have HA := Lib.hid ha
  have HB := Lib.hid hb
  have hln := (ha _ hK.out.now).2
  have hlx := (hb _ hK.out.now).2
  clear ha hb
  go_enter Try.func72, Try.ntmps72
  by_cases hlen : O.length = N.length
  case neg =>
    have h1 : ((O.length : Int) != (N.length : Int)) = true := by rw [bne_iff_ne]; omega
    obtain rfl := pB_f hv (fun h => hlen (by have := congrArg List.length h; rwa [bodies_length, bodies_length] at this))
    go_wp2_with fail
    go_ret
    exact ⟨rfl, hK⟩
  have h1 : ((O.length : Int) != (N.length : Int)) = false := by rw [bne_eq_false_iff_eq]; omega
  have HLEN := Lib.hid hlen
  clear hlen
  go_wp2_with fail
  clear h1
  go_loopw [17] (fun i wr => ∃ k : Nat, k ≤ O.length ∧ i = .int .i64 k ∧ Hid ((bodies O).take k = (bodies N).take k) ∧ Hid (St w0 wr F)) (fun i _ => O.length - (intOf i).toNat)
  case atStart => exact ⟨0, Nat.zero_le _, rfl, Lib.hid rfl, hK⟩
  case round =>
  obtain ⟨k, hk, rfl, HR, HK⟩ := hrel
  by_cases hlt : k < O.length
  · obtain ⟨gb, off, ba, bc, b, rfl, _, hb, hc, hl⟩ := (HA.out _ HK.out.now).at_ hlt
    obtain ⟨xb, xo, xa, xc, x, rfl, _, hx, hxc, hxl⟩ := (HB.out _ HK.out.now).at_ (k := k) (by have := HLEN.out; omega)
    have HX := Lib.hid (And.intro hb hx)
    have HKi := Lib.hid (HK.out.add (Below.refl _ _) (G := fun W => Lst ba b W ∧ Lst xa x W) (fun W hW => ⟨hl.below hW, hxl.below hW⟩))
    have hxi : (k : Int) < N.length := by have := HLEN.out; omega
    clear hb hx hl hxl
    by_cases hbx : b = x
    · have HU := Lib.hid (pB_true hbx)
      have HN : Hid ((bodies O).take (k + 1) = (bodies N).take (k + 1)) := Lib.hid (by rw [take_snoc? HX.out.1, take_snoc? HX.out.2, HR.out, hbx])
      clear hbx
      go_wp2_with (go_at_call 73; refine (alike11_st HKi (fun _ h => h.1.1) (fun _ h => h.1.2) bc xc true HU).mono ?_; rintro e w3 ⟨rfl, HK3⟩)
      go_roundw
      case rel => exact ⟨k + 1, by omega, by go_num, HN, Lib.hid (HK3.out.weaken fun _ h => h.2)⟩
      case measure => simp [intOf]; omega
    · have HU := Lib.hid (pB_false hbx)
      obtain rfl := pB_f hv (fun h => hbx (by have h1 := HX.out.1; rw [h, HX.out.2] at h1; exact (Option.some.inj h1).symm))
      clear hbx
      go_wp2_with (go_at_call 73; refine (alike11_st HKi (fun _ h => h.1.1) (fun _ h => h.1.2) bc xc false HU).mono ?_; rintro e w3 ⟨rfl, HK3⟩)
      go_ret
      exact ⟨rfl, Lib.hid (HK3.out.weaken fun _ h => h.2)⟩
  · obtain rfl : k = O.length := by omega
    have hd : decide (O.length < O.length) = false := by simp
    have hEq : bodies O = bodies N := take_all (n := O.length) (bodies_length O) (by rw [bodies_length]; exact HLEN.out.symm) HR.out
    obtain rfl := pB_t hv hEq
    go_wp2_with fail
    go_ret
    exact ⟨rfl, HK⟩
set_option maxRecDepth 100000 in
set_option maxHeartbeats 16000000 in
theorem alike1_st (hK : Hid (St w0 w F)) {A B : Option Addr} {O N : List (Item Sp)} (ha : ∀ W, F W → LLx A O W) (hb : ∀ W, F W → LLx B N W) (c d : Nat) (v : Bool) (hv : Hid (pB (bodies O = bodies N) = v)) :
    Calls Try.prog 71 #[.slice A O.length c, .slice B N.length d] w (RetV w0 (.bool v) F) := by
  go_enter Try.func71, Try.ntmps71
  go_wp2_with (go_at_call 72; refine (EqF1_st hK ha hb c d v hv).mono ?_; rintro e w1 ⟨rfl, HK1⟩)
  go_ret
  exact ⟨rfl, HK1⟩
set_option maxRecDepth 100000 in
set_option maxHeartbeats 16000000 in
theorem EqF2_st (hK : Hid (St w0 w F)) {A B : Option Addr} {O N : List (Item (Item Sp))} (ha : ∀ W, F W → RowsX A O W) (hb : ∀ W, F W → RowsX B N W) (c d : Nat) (v : Bool) (hv : Hid (pB (bodies2 O = bodies2 N) = v)) :
    Calls Try.prog 70 #[.slice A O.length c, .slice B N.length d, .func (.func 71) #[] #[]] w (RetV w0 (.bool v) F) := by
  have HA := Lib.hid ha
  have HB := Lib.hid hb
  have hln := (ha _ hK.out.now).2
  have hlx := (hb _ hK.out.now).2
  clear ha hb
  go_enter Try.func70, Try.ntmps70
  by_cases hlen : O.length = N.length
  case neg =>
    have h1 : ((O.length : Int) != (N.length : Int)) = true := by rw [bne_iff_ne]; omega
    obtain rfl := pB_f hv (fun h => hlen (by have := congrArg List.length h; rwa [bodies2_length, bodies2_length] at this))
    go_wp2_with fail
    go_ret
    exact ⟨rfl, hK⟩
  have h1 : ((O.length : Int) != (N.length : Int)) = false := by rw [bne_eq_false_iff_eq]; omega
  have HLEN := Lib.hid hlen
  clear hlen
  go_wp2_with fail
  clear h1
  go_loopw [17] (fun i wr => ∃ k : Nat, k ≤ O.length ∧ i = .int .i64 k ∧ Hid ((bodies2 O).take k = (bodies2 N).take k) ∧ Hid (St w0 wr F)) (fun i _ => O.length - (intOf i).toNat)
  case atStart => exact ⟨0, Nat.zero_le _, rfl, Lib.hid rfl, hK⟩
  case round =>
  obtain ⟨k, hk, rfl, HR, HK⟩ := hrel
  by_cases hlt : k < O.length
  · obtain ⟨gb, off, ba, bc, b, rfl, _, hb, hc, hl⟩ := (HA.out _ HK.out.now).at_ hlt
    obtain ⟨xb, xo, xa, xc, x, rfl, _, hx, hxc, hxl⟩ := (HB.out _ HK.out.now).at_ (k := k) (by have := HLEN.out; omega)
    have HX := Lib.hid (And.intro hb hx)
    have HKi := Lib.hid (HK.out.add (Below.refl _ _) (G := fun W => LLx ba b W ∧ LLx xa x W) (fun W hW => ⟨hl.below hW, hxl.below hW⟩))
    have hxi : (k : Int) < N.length := by have := HLEN.out; omega
    clear hb hx hl hxl
    by_cases hbx : bodies b = bodies x
    · have HU := Lib.hid (pB_true (p := bodies b = bodies x) hbx)
      have HN : Hid ((bodies2 O).take (k + 1) = (bodies2 N).take (k + 1)) := Lib.hid (by rw [take_snoc? HX.out.1, take_snoc? HX.out.2, HR.out, hbx])
      clear hbx
      go_wp2_with (go_at_call 71; refine (alike1_st HKi (fun _ h => h.1.1) (fun _ h => h.1.2) bc xc true HU).mono ?_; rintro e w3 ⟨rfl, HK3⟩)
      go_roundw
      case rel => exact ⟨k + 1, by omega, by go_num, HN, Lib.hid (HK3.out.weaken fun _ h => h.2)⟩
      case measure => simp [intOf]; omega
    · have HU := Lib.hid (pB_false (p := bodies b = bodies x) hbx)
      obtain rfl := pB_f hv (fun h => hbx (by have h1 := HX.out.1; rw [h, HX.out.2] at h1; exact (Option.some.inj h1).symm))
      clear hbx
      go_wp2_with (go_at_call 71; refine (alike1_st HKi (fun _ h => h.1.1) (fun _ h => h.1.2) bc xc false HU).mono ?_; rintro e w3 ⟨rfl, HK3⟩)
      go_ret
      exact ⟨rfl, Lib.hid (HK3.out.weaken fun _ h => h.2)⟩
  · obtain rfl : k = O.length := by omega
    have hd : decide (O.length < O.length) = false := by simp
    have hEq : bodies2 O = bodies2 N := take_all (n := O.length) (bodies2_length O) (by rw [bodies2_length]; exact HLEN.out.symm) HR.out
    obtain rfl := pB_t hv hEq
    go_wp2_with fail
    go_ret
    exact ⟨rfl, HK⟩
set_option maxRecDepth 100000 in
set_option maxHeartbeats 16000000 in
theorem alike_st (hK : Hid (St w0 w F)) {A B : Option Addr} {O N : List (Item (Item Sp))} (ha : ∀ W, F W → RowsX A O W) (hb : ∀ W, F W → RowsX B N W) (c d : Nat) (v : Bool) (hv : Hid (pB (bodies2 O = bodies2 N) = v)) :
    Calls Try.prog 57 #[.slice A O.length c, .slice B N.length d] w (RetV w0 (.bool v) F) := by
  go_enter Try.func57, Try.ntmps57
  go_wp2_with (go_at_call 70; refine (EqF2_st hK ha hb c d v hv).mono ?_; rintro e w1 ⟨rfl, HK1⟩)
  go_ret
  exact ⟨rfl, HK1⟩
end
end Go.Proofs.Ytpmhdjiacgckjaa
end
section
namespace Go.Proofs.Ytpmhdjiacgckjaa
open Go.RowKit
set_option linter.unusedVariables false
set_option linter.unusedSimpArgs false
structure FdI where
  wa : Option Addr
  wc : Nat
  want : List Sp
  ga : Option Addr
  gc : Nat
  gs : List (Item Sp)
  pa : Option Addr
  pc : Nat
  pl : List Int
  qa : Option Addr
  qc : Nat
  qs : List (Item PartL)
  ma : Option Addr
  mc : Nat
  ms : List Int
def fdCells (f : FdI) (st : Int) : Array Value := #[.slice f.wa f.want.length f.wc, .slice f.ga f.gs.length f.gc, .slice f.pa f.pl.length f.pc, .slice f.qa f.qs.length f.qc, .slice f.ma f.ms.length f.mc, .int .i64 st]
def FdBox (fb : Nat) (f : FdI) (st : Int) (W : World) : Prop := W.heap[fb]? = some (.cells (fdCells f st) 61 (0, 0))
structure FdW (f : FdI) (W : World) : Prop where
  want : Lst f.wa f.want W
  gs : LLx f.ga f.gs W
  pl : IntsAt f.pa f.pl W
  qs : Items PartsAt f.qa f.qs.length f.qs W
  ms : IntsAt f.ma f.ms W
structure FdOk (f : FdI) : Prop where
  place : ∀ (k : Nat) x, f.pl[k]? = some x → 0 ≤ x ∧ x.toNat < f.gs.length
  qlen : f.qs.length = f.pl.length
  mlen : f.ms.length = f.pl.length + 1
  pcap : f.pl.length ≤ f.pc
  plen : f.pl.length ≤ 4
  glen : f.gs.length ≤ 1048576
  pmax : f.pc ≤ 9223372036854775807
theorem FdBox.cell {fb : Nat} {f : FdI} {st : Int} {W : World} (h : FdBox fb f st W) {i : Nat} {v : Value} (hv : (fdCells f st)[i]? = some v) : W.cell? ⟨fb, i, none⟩ = some v := by
  unfold FdBox at h; simp [World.cell?, h, hv]
/-- the guards of the places from one on -/
def restL (f : FdI) (k : Nat) : List (List Sp) := (f.pl.drop k).map fun x => (bodies f.gs).getD x.toNat []
def RetRest (w : World) (P : Nat → Prop) (r : List (List Sp)) (e : Ending) (w' : World) : Prop := ∃ A O c, e = .returned (.slice A O.length c) ∧ bodies O = r ∧ Hid (Dep (fun k => P k ∨ w.heap.size ≤ k) w' (LLx A O)) ∧ Hid (Below w.heap.size w w')
section
variable {w0 w : World} {F : World → Prop}
set_option maxRecDepth 100000 in
set_option maxHeartbeats 16000000 in
theorem rest_st {P : Nat → Prop} (hD : Hid (Dep P w F)) (f : FdI) (fb : Nat) (st : Int) (hF : ∀ W, F W → FdW f W) (hfb : Hid (FdBox fb f st w)) (hok : Hid (FdOk f)) (k : Nat) (hk : k ≤ f.pl.length) :
    Calls Try.prog 55 #[.pointer (some ⟨fb, 0, none⟩), .int .i64 k] w (RetRest w P (restL f k)) := by
  have HF := Lib.hid hF
  have c2 : w.cell? ⟨fb, 2, none⟩ = some (.slice f.pa f.pl.length f.pc) := hfb.out.cell (i := 2) rfl
  have HC1 : Hid (∀ W, Below w.heap.size w W → W.cell? ⟨fb, 1, none⟩ = some (.slice f.ga f.gs.length f.gc) ∧ FdW f W) := Lib.hid fun W hW => ⟨(hW.cell (p := ⟨fb, 1, none⟩) (lt_of_cell (hfb.out.cell (i := 1) rfl))).trans (hfb.out.cell (i := 1) rfl), hF _ (hD.out.st W hW)⟩
  have hpc := hok.out.pcap
  have hpm := hok.out.pmax
  have hpl := hok.out.plen
  have hk0 : (0 : Int) ≤ k := by omega
  have hkc : (k : Int) ≤ f.pc := by omega
  have hkl : (k : Int) ≤ f.pl.length := by omega
  clear hF
  go_enter Try.func55, Try.ntmps55
  by_cases hkk : k = f.pl.length
  · have hr : Hid (restL f k = []) := Lib.hid (by unfold restL; rw [hkk, List.drop_length]; rfl)
    have hz0 : decide ((0 : Int) < ((f.pl.length - k : Nat) : Int)) = false := by rw [decide_eq_false_iff_not]; omega
    have HE : Hid (RetRest w P (restL f k) (.returned (.slice none 0 0)) w) := Lib.hid ⟨none, [], 0, rfl, hr.out.symm, Lib.hid fun V _ => ⟨Items.nil_ _ _ _, by simp⟩, Lib.hid (Below.refl _ _)⟩
    by_cases hpk : f.pc = k
    · go_wp2_with fail
      go_loopw [5, 15] (fun o i wr => o = .slice none 0 0 ∧ i = .int .i64 0 ∧ wr = w) (fun _ _ _ => 0)
      case atStart => exact ⟨rfl, rfl, rfl⟩
      case round =>
      obtain ⟨rfl, rfl, rfl⟩ := hrel
      go_wp2_with fail
      go_ret
      exact HE.out
    · go_wp2_with fail
      go_loopw [5, 15] (fun o i wr => o = .slice none 0 0 ∧ i = .int .i64 0 ∧ wr = w) (fun _ _ _ => 0)
      case atStart => exact ⟨rfl, rfl, rfl⟩
      case round =>
      obtain ⟨rfl, rfl, rfl⟩ := hrel
      go_wp2_with fail
      go_ret
      exact HE.out
  · obtain ⟨pb, po, x0, hpa, _, _, _⟩ := (HF.out _ hD.out.now).pl.at_ (j := k) (by omega)
    have hne : ¬ f.pc = k := by omega
    rw [hpa] at c2
    have HPA := Lib.hid hpa
    clear hpa
    go_wp2_with fail
    clear hne c2
    obtain ⟨n, hn⟩ : ∃ n, w.heap.size = n := ⟨_, rfl⟩
    go_loopw [5, 15] (fun ov i wr => ∃ (j : Nat) (A2 : Option Addr) (c2 : Nat) (L : List (Item Sp)), j ≤ f.pl.length - k ∧ i = .int .i64 j ∧ L.length = j ∧ ov = .slice A2 L.length c2 ∧ Hid (bodies L = (restL f k).take j ∧ ∀ i ∈ L, ∀ W, F W → Lst i.1 i.2.2 W) ∧ Hid (GoRow n 26 1 hdC (fun _ _ => True) A2 c2 L wr) ∧ Hid (Below n w wr)) (fun _ i _ => (f.pl.length - k) - (intOf i).toNat)
    case atStart => exact ⟨0, none, 0, [], Nat.zero_le _, rfl, rfl, rfl, Lib.hid ⟨rfl, fun i hi => (by cases hi)⟩, Lib.hid (GoRow.nil_ _ _ _ _ _ _), Lib.hid (by rw [← hn]; exact Below.refl _ _)⟩
    case round =>
    obtain ⟨j, A2, c2, L, hj, rfl, hLj, rfl, HL, HG, HBL⟩ := hrel
    have HBw : Hid (Below w.heap.size w wr) := Lib.hid (by rw [hn]; exact HBL.out)
    by_cases hlt : j < f.pl.length - k
    · obtain ⟨q1, hfw⟩ := HC1.out _ HBw.out
      obtain ⟨pb', po', x, hA', hx, _, hxc⟩ := hfw.pl.at_ (j := k + j) (by omega)
      rw [HPA.out] at hA'
      injection hA' with hA'
      injection hA' with e1 e2
      subst e1; subst e2
      obtain ⟨hx0, hxl⟩ := hok.out.place _ _ hx
      obtain ⟨xi, rfl⟩ := Int.eq_ofNat_of_zero_le hx0
      rw [Int.toNat_natCast] at hxl
      obtain ⟨gb, go, ba, bc, b, hga, hO, hb, hc, hl⟩ := hfw.gs.at_ hxl
      rw [hga] at q1
      rw [show po + (k + j) = po + k + j by omega] at hxc
      have hji : (j : Int) < ((f.pl.length - k : Nat) : Int) := by omega
      have hxi : (xi : Int) < (f.gs.length : Int) := by omega
      have HX := Lib.hid hx
      have HB := Lib.hid hb
      have HGX := Lib.hid (fun W (h : F W) => (HF.out W h).gs.1.it.at_ hO)
      have hsz : n ≤ wr.heap.size := by have := HBL.out.size; omega
      obtain ⟨i0, hi, hz0, hz1, hz2⟩ := info_parts infoHdx
      have HO5 : Hid (wr.ownsRow n 26 1 (.slice A2 L.length c2) L.length (L.flatMap hdC)) := Lib.hid HG.out.own
      have hl40 : L.length < 1099511627776 := by omega
      subst hLj
      clear hx hb hO hl hga hfw
      go_wp2_with (at_builtin; go_must (refine wpList_pushG rfl _ _ 25 rfl n 26 i0 _ 1 24 Try.underlying25 hi hz0 hz1 hz2 rfl (by decide) HO5.out rfl [.slice ba b.length bc] 26 rfl rfl (by simp [Value.oneCell']) hl40 (by decide) hsz ?_); intro A9 c9 w9 HO9 HG9 HN9)
      have hat : (restL f k)[L.length]? = some b := by
        unfold restL
        rw [List.getElem?_map, List.getElem?_drop, HX.out]
        simp [List.getD_eq_getElem?_getD, HB.out]
      have HGN := Lib.hid (HG.out.push (x := (ba, bc, b)) HO9.out HG9.out HN9.out (fun _ _ => trivial))
      have HBN : Hid (Below n w w9) := Lib.hid ((HBL.out.alloc hsz _).grown HG9.out (by simp; omega) fun k hk => (HG.out.rlt k hk).1)
      go_roundw
      case rel => exact ⟨L.length + 1, A9, c9, L ++ [(ba, bc, b)], by omega, by go_num, by simp, by simp, Lib.hid ⟨by rw [bodies_append, HL.out.1, take_snoc? hat]; rfl, fun i hi W hW => by
        rcases List.mem_append.1 hi with h | h
        · exact HL.out.2 i h W hW
        · obtain rfl := List.mem_singleton.1 h
          exact HGX.out W hW⟩, HGN, HBN⟩
      case measure => simp [intOf]; omega
    · obtain rfl : j = f.pl.length - k := by omega
      have hd : decide (((f.pl.length - k : Nat) : Int) < ((f.pl.length - k : Nat) : Int)) = false := by simp
      have hrl : (restL f k).length = f.pl.length - k := by unfold restL; rw [List.length_map, List.length_drop]
      have HBO : Hid (bodies L = restL f k) := Lib.hid (by rw [HL.out.1, List.take_of_length_le (by omega)])
      have HDE : Hid (Dep (fun k => P k ∨ n ≤ k) wr (LLx A2 L)) := Lib.hid fun V hV => by
        have hFV : F V := hD.out V fun k hp hl => (hV k (.inl hp) (Nat.lt_of_lt_of_le hl HBL.out.size)).trans (HBw.out.block k hl)
        have h1 := Sl.of_own (own_keep HG.out.own fun k hk => hV k (.inr (HG.out.rlt k hk).1) (HG.out.rlt k hk).2)
        rw [hd_cells] at h1
        exact ⟨⟨h1, fun i hi => HL.out.2 i hi V hFV⟩, by omega⟩
      rw [← hLj] at hd ⊢
      clear hrl
      go_wp2_with fail
      go_ret
      exact ⟨A2, L, c2, rfl, HBO.out, by rw [hn]; exact HDE, HBw⟩
end
end Go.Proofs.Ytpmhdjiacgckjaa
end
