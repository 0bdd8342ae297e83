/- Contract of (*pack.reader).terms. Condition: the bytes lie below the reader's block; fewer than 2^30 bytes. -/
import Derived.Test.YticfbbigljgjdaaReadPush
import Derived.Deep.RegionLaw
namespace Go.Proofs.Yticfbbigljgjdaa
open Go.RowKit
set_option linter.unusedVariables false
set_option linter.unusedSimpArgs false
theorem rNum_i32 {s : RdL} (h : U8s s.1) : I32 (rNum s).1 := by
  obtain ⟨l, b⟩ := s
  rcases l with _ | ⟨x0, _ | ⟨x1, _ | ⟨x2, _ | ⟨x3, l⟩⟩⟩⟩
  · exact ⟨by show -2147483648 ≤ (0 : Int); decide, by show (0 : Int) ≤ 2147483647; decide⟩
  · exact ⟨by show -2147483648 ≤ (0 : Int); decide, by show (0 : Int) ≤ 2147483647; decide⟩
  · exact ⟨by show -2147483648 ≤ (0 : Int); decide, by show (0 : Int) ≤ 2147483647; decide⟩
  · exact ⟨by show -2147483648 ≤ (0 : Int); decide, by show (0 : Int) ≤ 2147483647; decide⟩
  · exact (num_unB (h x0 (by simp)) (h x1 (by simp)) (h x2 (by simp)) (h x3 (by simp))).2
theorem I32.i64 {x : Int} (h : I32 x) : I64 x := ⟨by have := h.1; omega, by have := h.2; omega⟩
theorem rNum_le (s : RdL) : (rNum s).2.1.length ≤ s.1.length := by
  obtain ⟨l, b⟩ := s
  rcases l with _ | ⟨x0, _ | ⟨x1, _ | ⟨x2, _ | ⟨x3, l⟩⟩⟩⟩ <;> simp [rNum] <;> omega
theorem rList_le {α : Type} {f : RdL → α × RdL} (h : ∀ s, (f s).2.1.length ≤ s.1.length) (n : Nat) (s : RdL) : (rList f n s).2.1.length ≤ s.1.length := by
  induction n generalizing s with
  | zero => exact Nat.le_refl _
  | succ n ih => exact Nat.le_trans (ih (f s).2) (h s)
theorem rPart_le (s : RdL) : (rPart s).2.1.length ≤ s.1.length := Nat.le_trans (rNum_le _) (Nat.le_trans (rNum_le _) (Nat.le_trans (rNum_le _) (rNum_le _)))
theorem r5_le (s : RdL) : (r5 s).1.length ≤ s.1.length := Nat.le_trans (rNum_le _) (Nat.le_trans (rNum_le _) (Nat.le_trans (rNum_le _) (Nat.le_trans (rNum_le _) (rNum_le _))))
theorem rCount_le (size most : Nat) (s : RdL) : (rCount size most s).2.1.length ≤ s.1.length := by
  unfold rCount
  split
  · exact rNum_le s
  · exact rNum_le s
theorem rTerm_le (s : RdL) : (rTerm s).2.1.length ≤ s.1.length := Nat.le_trans (rList_le rPart_le _ _) (Nat.le_trans (rCount_le _ _ _) (r5_le s))
/-- a count is a number from 0 to its bound -/
theorem rCount_range (size most : Nat) (s : RdL) : 0 ≤ (rCount size most s).1 ∧ (rCount size most s).1 ≤ most := by
  unfold rCount
  split
  · simp
  · omega
theorem Rd.u8 {W : World} {base rb : Nat} {A : Option Addr} {c : Nat} {s : RdL} (h : Rd W base rb A c s) : U8s s.1 := h.by_.it
/-- what the first steps of a list read -/
theorem rList_snoc {α : Type} (f : RdL → α × RdL) (n : Nat) (s : RdL) : rList f (n + 1) s = ((rList f n s).1 ++ [(f (rList f n s).2).1], (f (rList f n s).2).2) := by
  induction n generalizing s with
  | zero => rfl
  | succ n ih =>
    have h := ih (f s).2
    show ((f s).1 :: (rList f (n + 1) (f s).2).1, (rList f (n + 1) (f s).2).2) = _
    rw [h]
    rfl
theorem rList_len {α : Type} (f : RdL → α × RdL) (n : Nat) (s : RdL) : (rList f n s).1.length = n := by
  induction n generalizing s with
  | zero => rfl
  | succ n ih => show ((f s).1 :: (rList f n (f s).2).1).length = _; rw [List.length_cons, ih]
theorem Only.grownN {pb : Nat} {r r1 : Option Nat} {a b c : World} (h : Only pb r a b) (hg : b.grownBy c r1) (hr : ∀ g, r1 = some g → a.heap.size ≤ g) : Only pb r a c :=
  ⟨hg.os.trans h.os, hg.tape.trans h.tape, hg.output.trans h.output, Nat.le_trans h.size hg.size, fun k hk h1 h2 =>
    (hg.block k (Nat.lt_of_lt_of_le hk h.size) (fun e => by have := hr k e.symm; omega)).trans (h.block k hk h1 h2)⟩
theorem Only.setR {pb bb : Nat} {a b : World} (h : Only pb (some bb) a b) (i : Nat) (u : Value) : Only pb (some bb) a (b.setCell ⟨bb, i, none⟩ u) :=
  ⟨h.os, h.tape, h.output, Nat.le_trans h.size (by simp [World.setCell]), fun k hk h1 h2 => (Below.heap_setCell _ _ _ _ (fun e => h2 (congrArg some e))).trans (h.block k hk h1 h2)⟩
theorem Only.trans2 {pb bb : Nat} {r : Option Nat} {a b c : World} (h : Only pb r a b) (k : Only pb (some bb) b c) (hb : a.heap.size ≤ bb) : Only pb r a c :=
  ⟨k.os.trans h.os, k.tape.trans h.tape, k.output.trans h.output, Nat.le_trans h.size k.size, fun i hi h1 h2 =>
    (k.block i (Nat.lt_of_lt_of_le hi h.size) h1 (fun e => by injection e with e; omega)).trans (h.block i hi h1 h2)⟩
theorem Rd.grown {W W' : World} {base rb : Nat} {A : Option Addr} {c : Nat} {s : RdL} {r : Option Nat} {o : Obj} (h : Rd W base rb A c s) (hg : (W.alloc o).grownBy W' r) (hr : ∀ g, r = some g → rb < g) : Rd W' base rb A c s := by
  have hl := h.rlt
  have hb := h.bp
  refine h.keep ?_ fun g hgb => ?_
  · rw [hg.block rb (by simp; omega) (fun e => by have := hr rb e.symm; omega)]; exact Below.heap_alloc _ _ _ hl
  · rw [hg.block g (by simp; omega) (fun e => by have := hr g e.symm; omega)]; exact Below.heap_alloc _ _ _ (by omega)
/-- a record under way in a box, one of whose cells holds a row under way: the reader, the box, the row -/
structure PSt (W : World) (base rb : Nat) (A : Option Addr) (c : Nat) (s : RdL) (bb : Nat) (cs : Array Value) (bt : TypeId) (n2 : Nat) (t : TypeId) (size : Nat) (An : Option Addr) (cn k : Nat) (xs : List Value) : Prop where
  rd : Rd W base rb A c s
  box : W.heap[bb]? = some (.cells cs bt (0, 0))
  own : W.ownsRow n2 t size (.slice An k cn) k xs
  l1 : rb < bb
  l2 : bb < n2
  l3 : n2 ≤ W.heap.size
section
variable {W W' : World} {base rb : Nat} {A : Option Addr} {c : Nat} {s : RdL} {bb : Nat} {cs : Array Value} {bt : TypeId} {n2 : Nat} {t : TypeId} {size : Nat} {An : Option Addr} {cn k : Nat} {xs : List Value}
theorem PSt.only (h : PSt W base rb A c s bb cs bt n2 t size An cn k xs) (ho : Only rb none W W') {A' : Option Addr} {c' : Nat} {s' : RdL} (hr : Rd W' base rb A' c' s') : PSt W' base rb A' c' s' bb cs bt n2 t size An cn k xs := by
  have h1 := h.l1; have h2 := h.l2; have h3 := h.l3
  refine ⟨hr, ?_, own_keep h.own fun g hg => ?_, h1, h2, Nat.le_trans h3 ho.size⟩
  · rw [ho.block bb (by omega) (by omega) (by simp)]; exact h.box
  · have := h.own.lt g (by rw [own_ownA]; exact hg)
    exact ho.block g this.2 (by omega) (by simp)
theorem PSt.drewN (h : PSt W base rb A c s bb cs bt n2 t size An cn k xs) (q : Nat) : PSt (W.drewN q) base rb A c s bb cs bt n2 t size An cn k xs := ⟨h.rd.drewN q, h.box, h.own, h.l1, h.l2, h.l3⟩
theorem PSt.cell (h : PSt W base rb A c s bb cs bt n2 t size An cn k xs) {i : Nat} {v : Value} (hi : cs[i]? = some v) : W.cell? ⟨bb, i, none⟩ = some v := by
  have hb := h.box
  simp [World.cell?, hb, hi]
theorem PSt.cellA (h : PSt W base rb A c s bb cs bt n2 t size An cn k xs) {i : Nat} {v : Value} (hi : cs[i]? = some v) (o : Obj) : (W.alloc o).cell? ⟨bb, i, none⟩ = some v := by
  have h2 := h.l2; have h3 := h.l3
  have hb : (W.alloc o).heap[bb]? = some (.cells cs bt (0, 0)) := by rw [Below.heap_alloc _ _ _ (by omega)]; exact h.box
  simp [World.cell?, hb, hi]
theorem PSt.fr (h : PSt W base rb A c s bb cs bt n2 t size An cn k xs) (i : Nat) : W.frozen? ⟨bb, i, none⟩ = false := frozen_of_row _ _ _ _ _ h.box
theorem PSt.boxG (h : PSt W base rb A c s bb cs bt n2 t size An cn k xs) {o : Obj} (hg : (W.alloc o).grownBy W' (ownA An)) {i : Nat} {v : Value} (hi : cs[i]? = some v) : W'.cell? ⟨bb, i, none⟩ = some v := by
  have hb : W'.heap[bb]? = some (.cells cs bt (0, 0)) := by
    have h2 := h.l2; have h3 := h.l3
    rw [hg.block bb (by simp; omega) (fun e => by have := (h.own.lt bb (by rw [own_ownA]; exact e.symm)).1; omega), Below.heap_alloc _ _ _ (by omega)]; exact h.box
  simp [World.cell?, hb, hi]
theorem PSt.frG (h : PSt W base rb A c s bb cs bt n2 t size An cn k xs) {o : Obj} (hg : (W.alloc o).grownBy W' (ownA An)) (i : Nat) : W'.frozen? ⟨bb, i, none⟩ = false := by
  have hb : W'.heap[bb]? = some (.cells cs bt (0, 0)) := by
    have h2 := h.l2; have h3 := h.l3
    rw [hg.block bb (by simp; omega) (fun e => by have := (h.own.lt bb (by rw [own_ownA]; exact e.symm)).1; omega), Below.heap_alloc _ _ _ (by omega)]; exact h.box
  exact frozen_of_row _ _ _ _ _ hb
theorem num_pst (h : Hid (PSt W base rb A c s bb cs bt n2 t size An cn k xs)) :
    Calls Try.prog 26 #[.pointer (some ⟨rb, 0, none⟩)] W (fun e w' => e = .returned (.int .i64 (rNum s).1) ∧ ∃ A' c', Hid (PSt w' base rb A' c' (rNum s).2 bb cs bt n2 t size An cn k xs) ∧ Hid (Only rb none W w')) :=
  (rd_num base rb A c s W (Lib.hid h.out.rd)).mono fun e w' ⟨h1, A', c', h2, h3⟩ => ⟨h1, A', c', Lib.hid (h.out.only h3.out h2.out), h3⟩
theorem PSt.push (h : PSt W base rb A c s bb cs bt n2 t size An cn k xs) {A' : Option Addr} {c' : Nat} {news : List Value} {o : Obj} {W1 : World} (ho : W1.ownsRow n2 t size (.slice A' (k + 1) c') (k + 1) (xs ++ news))
    (hg : (W.alloc o).grownBy W1 (ownA An)) (i : Nat) : PSt (W1.setCell ⟨bb, i, none⟩ (.slice A' (k + 1) c')) base rb A c s bb (cs.setIfInBounds i (.slice A' (k + 1) c')) bt n2 t size A' c' (k + 1) (xs ++ news) := by
  have h1 := h.l1; have h2 := h.l2; have h3 := h.l3
  have hlt : ∀ g, ownA An = some g → n2 ≤ g := fun g hg => (h.own.lt g (by rw [own_ownA]; exact hg)).1
  have hr := h.rd.grown hg fun g hg => by have := hlt g hg; omega
  have hb : W1.heap[bb]? = some (.cells cs bt (0, 0)) := by
    rw [hg.block bb (by simp; omega) (fun e => by have := hlt bb e.symm; omega), Below.heap_alloc _ _ _ (by omega)]; exact h.box
  have hs : n2 ≤ W1.heap.size := Nat.le_trans h3 (Nat.le_trans (by simp) hg.size)
  refine ⟨hr.keep (heap_setCell_other _ _ _ _ (fun e => by have e : rb = bb := e; omega)) fun g hgb => heap_setCell_other _ _ _ _ (fun e => by have e : g = bb := e; have := h.rd.bp; omega), ?_, own_keep ho fun g hg => ?_, h1, h2, by simpa [World.setCell] using hs⟩
  · rw [heap_setCell_same W1 bb i _ _ _ hb]
  · have := (ho.lt g (by rw [own_ownA]; exact hg)).1
    exact heap_setCell_other _ _ _ _ (fun e => by have e : g = bb := e; omega)
end
theorem rPart_w {s : RdL} (h : U8s s.1) : PartW (rPart s).1 := by
  have u1 := rNum_u8 h
  have u2 := rNum_u8 u1
  have u3 := rNum_u8 u2
  exact ⟨(rNum_i32 h).i64, (rNum_i32 u1).i64, (rNum_i32 u2).i64, (rNum_i32 u3).i64⟩
theorem rParts_w (n : Nat) {s : RdL} (h : U8s s.1) : ∀ p ∈ (rList rPart n s).1, PartW p := by
  induction n generalizing s with
  | zero => intro p hp; cases hp
  | succ n ih =>
    intro p hp
    rcases List.mem_cons.1 hp with rfl | hp
    · exact rPart_w h
    · exact ih (rNum_u8 (rNum_u8 (rNum_u8 (rNum_u8 h)))) p hp
theorem info_part : (Try.prog.info? 76).map (fun i => (i.zero, i.size, i.bytes)) = some (some (.agg #[.int .i64 0, .int .i64 0, .int .i64 0, .int .i64 0]), 4, 32) := by kernel_rfl
theorem info_term : (Try.prog.info? 74).map (fun i => (i.zero, i.size, i.bytes)) = some (some (.agg #[.int .i64 0, .int .i64 0, .int .i64 0, .int .i64 0, .int .i64 0, .slice none 0 0]), 6, 64) := by kernel_rfl
theorem Only.any {pb : Nat} {r : Option Nat} {a b : World} (h : Only pb none a b) : Only pb r a b := ⟨h.os, h.tape, h.output, h.size, fun k h1 h2 _ => h.block k h1 h2 (by simp)⟩
def RetTerms (w : World) (base rb : Nat) (s : RdL) (e : Ending) (w' : World) : Prop :=
  ∃ A c L, e = .returned (.slice A L.length c) ∧ Hid (L.map TermI.L = (rTerms s).1) ∧ Hid (Dep (fun k => w.heap.size ≤ k) w' (TermsAt A L)) ∧ Hid (Only rb none w w') ∧ ∃ A' c', Hid (Rd w' base rb A' c' (rTerms s).2)
set_option maxRecDepth 100000 in
set_option maxHeartbeats 16000000 in
theorem rd_terms (base rb : Nat) (A : Option Addr) (c : Nat) (s : RdL) (w : World) (hR : Hid (Rd w base rb A c s)) (hlen : s.1.length ≤ 1073741824) :
    Calls Try.prog 27 #[.pointer (some ⟨rb, 0, none⟩)] w (RetTerms w base rb s) := by
  go_enter Try.func27, Try.ntmps27
  go_wp2_with (go_at_call 36; refine (rd_count base rb A c s w hR 24 64 ⟨by decide, by decide⟩ (by decide)).mono ?_; rintro e w1 ⟨rfl, A1, c1, HR1, HO1⟩)
  obtain ⟨hn0, hn1⟩ := rCount_range 24 64 s
  have hl1 := rCount_le 24 64 s
  have HT : Hid (rTerms s = rList rTerm (rCount 24 64 s).1.toNat (rCount 24 64 s).2) := Lib.hid rfl
  obtain ⟨⟨n', s1⟩, hns⟩ : ∃ z, rCount 24 64 s = z := ⟨_, rfl⟩
  rw [hns] at HR1 HT hn0 hn1 hl1 ⊢
  clear hns
  simp only at HR1 HT hn0 hn1 hl1 ⊢
  obtain ⟨n, rfl⟩ := Int.eq_ofNat_of_zero_le hn0
  rw [Int.toNat_natCast] at HT
  have hrl := hR.out.rlt
  go_loopw [3, 7] (fun lv i wq => ∃ (k : Nat) (A2 : Option Addr) (c2 : Nat) (L : List TermI) (A3 : Option Addr) (c3 : Nat), k ≤ n ∧ i = .int .i64 k ∧ lv = .slice A2 L.length c2 ∧ L.length ≤ 64 ∧ Hid (L.map TermI.L = (rList rTerm k s1).1) ∧ Hid (GoRow w.heap.size 74 6 termC TermW A2 c2 L wq) ∧ Hid (Only rb none w wq) ∧ Hid (Rd wq base rb A3 c3 (rList rTerm k s1).2)) (fun _ i _ => n - (intOf i).toNat)
  case atStart => exact ⟨0, none, 0, [], A1, c1, Nat.zero_le _, rfl, rfl, by simp, Lib.hid rfl, Lib.hid (GoRow.nil_ _ _ _ _ _ _), HO1, HR1⟩
  case round =>
  clear HR1 HO1
  obtain ⟨k, A2, c2, L, A3, c3, hk, rfl, rfl, hL64, HL, HG, HO, HR⟩ := hrel
  by_cases hlt : k < n
  · obtain ⟨s2, hs2⟩ : ∃ z, (rList rTerm k s1).2 = z := ⟨_, rfl⟩
    rw [hs2] at HR
    have hs2l : s2.1.length ≤ s1.1.length := by rw [← hs2]; exact rList_le rTerm_le k s1
    have hr5 := r5_le s2
    have HU2 : Hid (U8s s2.1) := Lib.hid HR.out.u8
    have HOq := Lib.hid (Only.refl rb none wr)
    have q0 := HR.out.c0.1
    have ql := HR.out.rlt
    go_wp2_with (first
      | (go_at_call 26; refine (rd_num base rb _ _ _ _ HR).mono ?_; rintro e w5 ⟨rfl, A3, c3, HR, HO5⟩; have HOq := Lib.hid (HOq.out.trans HO5.out (Newer.refl _ _)); clear HO5; clear q0 ql; have q0 := HR.out.c0.1; have ql := HR.out.rlt)
      | (go_at_call 36; refine (rd_count base rb _ _ _ _ (Lib.hid (HR.out.alloc _)) 16 _ ⟨by decide, by decide⟩ (by have := HR.out.bytes_ln; omega)).mono ?_; rintro e w6 ⟨rfl, A4, c4, HR6, HO6⟩))
    have HST : Hid ((rTerm s2).1 = ⟨(rNum s2).1, (rNum (rNum s2).2).1, (rNum (rNum (rNum s2).2).2).1, (rNum (rNum (rNum (rNum s2).2).2).2).1, (rNum (rNum (rNum (rNum (rNum s2).2).2).2).2).1, (rList rPart (rCount 16 (r5 s2).1.length (r5 s2)).1.toNat (rCount 16 (r5 s2).1.length (r5 s2)).2).1⟩ ∧ (rTerm s2).2 = (rList rPart (rCount 16 (r5 s2).1.length (r5 s2)).1.toNat (rCount 16 (r5 s2).1.length (r5 s2)).2).2) := Lib.hid ⟨rfl, rfl⟩
    have h5 : (rNum (rNum (rNum (rNum (rNum s2).2).2).2).2).2 = r5 s2 := rfl
    rw [h5] at HR6 HR ⊢
    obtain ⟨hn0', hn1'⟩ := rCount_range 16 (r5 s2).1.length (r5 s2)
    obtain ⟨⟨n3, s3⟩, hs3⟩ : ∃ z, rCount 16 (r5 s2).1.length (r5 s2) = z := ⟨_, rfl⟩
    rw [hs3] at HR6 HST hn0' hn1' ⊢
    simp only at HR6 HST hn0' hn1' ⊢
    clear hs3 h5
    obtain ⟨m3, rfl⟩ := Int.eq_ofNat_of_zero_le hn0'
    have HI5 : Hid (I64 (rNum s2).1 ∧ I64 (rNum (rNum s2).2).1 ∧ I64 (rNum (rNum (rNum s2).2).2).1 ∧ I64 (rNum (rNum (rNum (rNum s2).2).2).2).1 ∧ I64 (rNum (rNum (rNum (rNum (rNum s2).2).2).2).2).1) := Lib.hid (by
      have u0 := HU2.out
      have u1 := rNum_u8 u0
      have u2 := rNum_u8 u1
      have u3 := rNum_u8 u2
      have u4 := rNum_u8 u3
      exact ⟨(rNum_i32 u0).i64, (rNum_i32 u1).i64, (rNum_i32 u2).i64, (rNum_i32 u3).i64, (rNum_i32 u4).i64⟩)
    generalize (rNum s2).1 = y0 at HST HI5 HO6 HR6 ⊢
    generalize (rNum (rNum s2).2).1 = y1 at HST HI5 HO6 HR6 ⊢
    generalize (rNum (rNum (rNum s2).2).2).1 = y2 at HST HI5 HO6 HR6 ⊢
    generalize (rNum (rNum (rNum (rNum s2).2).2).2).1 = y3 at HST HI5 HO6 HR6 ⊢
    generalize (rNum (rNum (rNum (rNum (rNum s2).2).2).2).2).1 = y4 at HST HI5 HO6 HR6 ⊢
    have hq5 := Nat.le_trans HOq.out.size (Nat.le_succ _)
    have hbx6 : w6.heap[w5.heap.size]? = some (.cells #[.int .i64 y0, .int .i64 y1, .int .i64 y2, .int .i64 y3, .int .i64 y4, .slice none 0 0] 74 (0, 0)) := by
      rw [HO6.out.block _ (by simp) (by omega) (by simp)]; exact heap_alloc_new w5 _
    have hs6 : w5.heap.size + 1 ≤ w6.heap.size := by have := HO6.out.size; simpa using this
    have HP0 : Hid (PSt w6 base rb A4 c4 s3 w5.heap.size #[.int .i64 y0, .int .i64 y1, .int .i64 y2, .int .i64 y3, .int .i64 y4, .slice none 0 0] 74 w6.heap.size 76 4 none 0 0 []) :=
      Lib.hid ⟨HR6.out, hbx6, ⟨rfl, .inl ⟨rfl, rfl⟩⟩, ql, by omega, Nat.le_refl _⟩
    have HO66 := Lib.hid (Only.refl rb (some w5.heap.size) w6)
    have HU3 : Hid (U8s s3.1) := Lib.hid HP0.out.rd.u8
    have HG5 := Lib.hid (HG.out.only hrl HOq.out)
    have HA2 : Hid (∀ g, ownA A2 = some g → g < w5.heap.size) := Lib.hid fun g hg => (HG5.out.rlt g hg).2
    have HOw6 : Hid (Only rb none w w6) := Lib.hid (((HO.out.trans HOq.out (Newer.refl _ _)).alloc _).trans HO6.out (Newer.refl _ _))
    have hw5 : w.heap.size ≤ w5.heap.size := Nat.le_trans HO.out.size HOq.out.size
    clear HG
    obtain ⟨bb, hbb⟩ : ∃ z, w5.heap.size = z := ⟨_, rfl⟩
    rw [hbb] at HP0 hs6 HO66 hw5 HA2 ⊢
    clear hbx6 hq5 q0 ql HR6
    go_loopw [27] (fun i2 wq => ∃ (m : Nat) (An : Option Addr) (cn : Nat) (l : List PartL) (A5 : Option Addr) (c5 : Nat), m ≤ m3 ∧ i2 = .int .i64 m ∧ Hid (l.length = m) ∧ Hid (l = (rList rPart m s3).1) ∧ Hid (PSt wq base rb A5 c5 (rList rPart m s3).2 bb #[.int .i64 y0, .int .i64 y1, .int .i64 y2, .int .i64 y3, .int .i64 y4, .slice An m cn] 74 w6.heap.size 76 4 An cn m (l.flatMap partC)) ∧ Hid (Only rb (some bb) w6 wq)) (fun i2 _ => m3 - (intOf i2).toNat)
    case atStart => exact ⟨0, none, 0, [], A4, c4, Nat.zero_le _, rfl, Lib.hid rfl, Lib.hid rfl, HP0, HO66⟩
    case round =>
    obtain ⟨m, An, cn, l, A5, c5, hm, rfl, hlm, HL2, HP, HO7⟩ := hrel
    by_cases hlt2 : m < m3
    · obtain ⟨s4, hs4⟩ : ∃ z, (rList rPart m s3).2 = z := ⟨_, rfl⟩
      rw [hs4] at HP
      have HPD := Lib.hid (HP.out.drewN 1)
      obtain ⟨i0, hi, hz0, hz1, hz2⟩ := info_parts info_part
      have hl1024 : m < 1099511627776 := by omega
      have HOD := Lib.hid (HO7.out.drewN 1)
      have s5 := HP.out.cell (i := 5) rfl
      have s6 := HP.out.cellA (i := 5) rfl
      go_wp2_with fail
      go_region_law ((first
          | (go_simp; go_at_call 26; refine (num_pst HPD).mono ?_; rintro e w7 ⟨rfl, A5, c5, HPD, HO8⟩; (have HOD := Lib.hid (HOD.out.trans HO8.out.any (Newer.refl _ _))); clear HO8; clear s5 s6; (have s5 := HPD.out.cell (i := 5) rfl); (have s6 := HPD.out.cellA (i := 5) rfl))
          | (refine step_pushG (by rfl) _ _ 72 (by rfl) w6.heap.size 76 i0 _ 4 32 Try.underlying72 hi hz0 hz1 hz2 rfl (by decide) HPD.out.own (by rfl) [.int .i64 (rNum s4).1, .int .i64 (rNum (rNum s4).2).1, .int .i64 (rNum (rNum (rNum s4).2).2).1, .int .i64 (rNum (rNum (rNum (rNum s4).2).2).2).1] 76 (by rfl) (by rfl) (by simp [Value.oneCell']) (by omega) (by decide) HPD.out.l3 ?_; intro A9 c9 w9 HO9 HG9 HN9; (have s9 := HPD.out.boxG HG9.out (i := 5) rfl); (have f9 := HPD.out.frG HG9.out 5))))
      all_goals
        have HPN := Lib.hid (HPD.out.push HO9.out HG9.out 5)
        have HON := Lib.hid ((HOD.out.alloc _).grownN HG9.out (fun g hg => (HPD.out.own.lt g (by rw [own_ownA]; exact hg)).1)).setR 5 (.slice A9 (m + 1) c9)
        go_wp2_with fail
        go_roundw
        case rel => exact ⟨m + 1, A9, c9, l ++ [(rPart s4).1], _, _, by omega, by go_num, Lib.hid (by rw [List.length_append, hlm.out]; rfl), Lib.hid (by rw [rList_snoc, hs4, HL2.out]), Lib.hid (by rw [rList_snoc, hs4, List.flatMap_append]; exact HPN.out), HON⟩
        case measure => simp [intOf]; omega
    · obtain rfl : m = m3 := by omega
      have hd : decide (m < m) = false := by simp
      have t0 := HP.out.cell (i := 0) rfl
      have t1 := HP.out.cell (i := 1) rfl
      have t2 := HP.out.cell (i := 2) rfl
      have t3 := HP.out.cell (i := 3) rfl
      have t4 := HP.out.cell (i := 4) rfl
      have t5 := HP.out.cell (i := 5) rfl
      obtain rfl := hlm.out
      obtain ⟨j0, kj, kz0, kz1, kz2⟩ := info_parts info_term
      have h26 := HO7.out.size
      have HGr : Hid (GoRow w.heap.size 74 6 termC TermW A2 c2 L wr) := Lib.hid (HG5.out.keep (by omega) fun k hk hl => by
        rw [HO7.out.block k (by omega) (by omega) (fun e => by injection e with e; omega), HO6.out.block k (by simp; omega) (by omega) (by simp), Below.heap_alloc _ _ _ hl])
      have HX : Hid (Dep (fun k => w.heap.size ≤ k ∧ some k ≠ ownA A2) wr (TermW ⟨y0, y1, y2, y3, y4, An, cn, l⟩)) := Lib.hid fun V hV => ⟨HI5.out, Sl.of_own (own_keep HP.out.own fun g hg => by
          have h1 := HP.out.own.lt g (by rw [own_ownA]; exact hg)
          exact hV g ⟨by omega, fun e => by have := HA2.out g e.symm; omega⟩ h1.2), fun p hp => by rw [HL2.out] at hp; exact rParts_w _ HU3.out p hp, by show l.length ≤ 9223372036854775807; omega⟩
      have HOr := Lib.hid (HOw6.out.trans2 HO7.out hw5)
      have hbase : w.heap.size ≤ wr.heap.size := by omega
      have hLk : L.length = k := by rw [← List.length_map (f := TermI.L), HL.out, rList_len]
      have HLK := Lib.hid hLk
      clear hLk
      go_wp2_with (at_builtin; go_must (refine wpList_pushG rfl _ _ 49 rfl w.heap.size 74 j0 _ 6 64 Try.underlying49 kj kz0 kz1 kz2 rfl (by decide) HGr.out.own rfl [.int .i64 y0, .int .i64 y1, .int .i64 y2, .int .i64 y3, .int .i64 y4, .slice An l.length cn] _ rfl rfl (by simp [Value.oneCell']) (by omega) (by decide) hbase ?_); intro A9 c9 w9 HO9 HG9 HN9)
      have HGN := Lib.hid (HGr.out.push (x := ⟨y0, y1, y2, y3, y4, An, cn, l⟩) HO9.out HG9.out HN9.out HX.out)
      have HON := Lib.hid ((HOr.out.alloc _).grownN HG9.out (fun g hg => (HGr.out.rlt g hg).1))
      have HRN := Lib.hid (HP.out.rd.grown HG9.out (fun g hg => by have := (HGr.out.rlt g hg).1; omega))
      exact ⟨⟨k + 1, A9, c9, L ++ [⟨y0, y1, y2, y3, y4, An, cn, l⟩], _, _, by omega, by go_num, by simp, by rw [List.length_append, HLK.out]; simp; omega,
        Lib.hid (by rw [rList_snoc, List.map_append, HL.out, hs2, HST.out.1, Int.toNat_natCast, ← HL2.out]; rfl), HGN, HON, by rw [rList_snoc, hs2, HST.out.2]; exact HRN⟩, by simp [intOf]; omega⟩
  · obtain rfl : k = n := by omega
    have hd : decide (k < k) = false := by simp
    go_wp2_with fail
    go_ret
    exact ⟨A2, c2, L, rfl, by rw [HT.out]; exact HL, Lib.hid (HG.out.rows (by omega)), HO, by rw [HT.out]; exact ⟨_, _, HR⟩⟩
end Go.Proofs.Yticfbbigljgjdaa
