/- Words for a reader behind a pointer; contracts of (*pack.reader).num and count. Condition: the bytes lie below the reader's block. -/
import Derived.Test.YticfbbigljgjdaaWriter
import Derived.Test.YticfbbigljgjdaaPackSum
namespace Go.Proofs.Yticfbbigljgjdaa
open Go.RowKit
set_option linter.unusedVariables false
set_option linter.unusedSimpArgs false
structure Rd (W : World) (base rb : Nat) (A : Option Addr) (c : Nat) (s : RdL) : Prop where
  box : W.heap[rb]? = some (.cells #[.slice A s.1.length c, .bool s.2] 64 (0, 0))
  by_ : BytesAt A s.1 W
  cap : s.1.length ≤ c
  bp : base ≤ rb
  lt : ∀ g, ownA A = some g → g < base
section
variable {W W' : World} {base rb : Nat} {A : Option Addr} {c : Nat} {s : RdL}
theorem Rd.rlt (h : Rd W base rb A c s) : rb < W.heap.size := (Array.getElem?_eq_some_iff.1 h.box).1
theorem Rd.c0 (h : Rd W base rb A c s) : W.cell? ⟨rb, 0, none⟩ = some (.slice A s.1.length c) ∧ W.cell? ⟨rb, 1, none⟩ = some (.bool s.2) := by
  have := h.box; constructor <;> simp [World.cell?, this]
theorem Rd.fr (h : Rd W base rb A c s) (i : Nat) : W.frozen? ⟨rb, i, none⟩ = false := frozen_of_row _ _ _ _ _ h.box
theorem bytes_keep {l : List Int} (h : BytesAt A l W) (hl : ∀ g, ownA A = some g → W'.heap[g]? = W.heap[g]?) : BytesAt A l W' := by
  refine ⟨⟨h.sl.1, fun hn => ?_⟩, h.it, h.ln⟩
  obtain ⟨b, off, hA, hc⟩ := h.sl.2 hn
  exact ⟨b, off, hA, fun j u hu => (World.cell?_of_block (hl b (by rw [hA]; rfl))).trans (hc j u hu)⟩
/-- what writes neither the reader nor the bytes -/
theorem Rd.keep (h : Rd W base rb A c s) (h1 : W'.heap[rb]? = W.heap[rb]?) (h2 : ∀ g, g < base → W'.heap[g]? = W.heap[g]?) : Rd W' base rb A c s :=
  ⟨h1.trans h.box, bytes_keep h.by_ fun g hg => h2 g (h.lt g hg), h.cap, h.bp, h.lt⟩
theorem Rd.alloc (h : Rd W base rb A c s) (o : Obj) : Rd (W.alloc o) base rb A c s :=
  h.keep (Below.heap_alloc _ _ _ h.rlt) fun g hg => Below.heap_alloc _ _ _ (by have := h.rlt; have := h.bp; omega)
theorem Rd.drewN (h : Rd W base rb A c s) (n : Nat) : Rd (W.drewN n) base rb A c s := h.keep rfl fun g hg => rfl
theorem Rd.setBad (h : Rd W base rb A c s) : Rd (W.setCell ⟨rb, 1, none⟩ (.bool true)) base rb A c (s.1, true) := by
  refine ⟨?_, bytes_keep h.by_ fun g hg => heap_setCell_other _ _ _ _ (fun e => by have e : g = rb := e; have := h.lt g hg; have := h.bp; omega), h.cap, h.bp, h.lt⟩
  rw [heap_setCell_same W rb 1 _ _ (.bool true) h.box]; rfl
theorem Rd.setCut (h : Rd W base rb A c s) {A' : Option Addr} {c' : Nat} {l : List Int} (hb : BytesAt A' l W) (hc : l.length ≤ c') (hA : ∀ g, ownA A' = some g → g < base) : Rd (W.setCell ⟨rb, 0, none⟩ (.slice A' l.length c')) base rb A' c' (l, s.2) := by
  refine ⟨?_, bytes_keep hb fun g hg => heap_setCell_other _ _ _ _ (fun e => by have e : g = rb := e; have := hA g hg; have := h.bp; omega), hc, h.bp, hA⟩
  rw [heap_setCell_same W rb 0 _ _ _ h.box]; rfl
end
/-- what a method of the reader leaves -/
def RetRd (w : World) (base rb : Nat) (v : Value) (s : RdL) (e : Ending) (w' : World) : Prop :=
  e = .returned v ∧ ∃ A' c', Hid (Rd w' base rb A' c' s) ∧ Hid (Only rb none w w')
theorem or32 (a b k : Nat) (hb : b < 2 ^ k) (hk : a * 2 ^ k + b < 4294967296) : bits .or .u32 ((a * 2 ^ k : Nat) : Int) (b : Int) = ((a * 2 ^ k + b : Nat) : Int) := by
  have h1 : a * 2 ^ k < 4294967296 := by omega
  have h2 : b < 4294967296 := by omega
  have e1 : (BitVec.ofInt 32 ((a * 2 ^ k : Nat) : Int)).toNat = a * 2 ^ k := by
    rw [BitVec.ofInt_natCast, BitVec.toNat_ofNat]; exact Nat.mod_eq_of_lt (by omega)
  have e2 : (BitVec.ofInt 32 (b : Int)).toNat = b := by
    rw [BitVec.ofInt_natCast, BitVec.toNat_ofNat]; exact Nat.mod_eq_of_lt (by omega)
  show IntKind.u32.wrap ((BitVec.ofInt 32 ((a * 2 ^ k : Nat) : Int) ||| BitVec.ofInt 32 (b : Int)).toNat : Int) = _
  rw [BitVec.toNat_or, e1, e2]
  have e3 : a * 2 ^ k ||| b = a * 2 ^ k + b := by
    rw [← Nat.shiftLeft_eq]; exact (Nat.shiftLeft_add_eq_or_of_lt hb a).symm
  rw [e3]
  show ((a * 2 ^ k + b : Nat) : Int) % 4294967296 = _
  omega
theorem or32i (x y : Int) (a b k : Nat) (hx : x = ((a * 2 ^ k : Nat) : Int)) (hy : y = (b : Int)) (hb : b < 2 ^ k) (hk : a * 2 ^ k + b < 4294967296) : bits .or .u32 x y = x + y := by
  rw [hx, hy, or32 a b k hb hk]; omega
theorem orA {a b : Int} (ha : 0 ≤ a ∧ a < 256) (hb : 0 ≤ b ∧ b < 256) : bits .or .u32 (a * 16777216) (b * 65536) = a * 16777216 + b * 65536 :=
  or32i _ _ a.toNat (b.toNat * 65536) 24 (by omega) (by omega) (by omega) (by omega)
theorem orB {a b c : Int} (ha : 0 ≤ a ∧ a < 256) (hb : 0 ≤ b ∧ b < 256) (hc : 0 ≤ c ∧ c < 256) : bits .or .u32 (a * 16777216 + b * 65536) (c * 256) = a * 16777216 + b * 65536 + c * 256 :=
  or32i _ _ (a.toNat * 256 + b.toNat) (c.toNat * 256) 16 (by omega) (by omega) (by omega) (by omega)
theorem orC {a b c d : Int} (ha : 0 ≤ a ∧ a < 256) (hb : 0 ≤ b ∧ b < 256) (hc : 0 ≤ c ∧ c < 256) (hd : 0 ≤ d ∧ d < 256) : bits .or .u32 (a * 16777216 + b * 65536 + c * 256) d = a * 16777216 + b * 65536 + c * 256 + d :=
  or32i _ _ (a.toNat * 65536 + b.toNat * 256 + c.toNat) d.toNat 8 (by omega) (by omega) (by omega) (by omega)
theorem bytes_drop {W : World} {b off k : Nat} {L : List Int} (h : BytesAt (some ⟨b, off, none⟩) L W) (hk : k ≤ L.length) : BytesAt (some ⟨b, off + k, none⟩) (L.drop k) W := by
  refine ⟨⟨?_, fun hn => ?_⟩, fun x hx => h.it x (List.mem_of_mem_drop hx), by have := h.ln; rw [List.length_drop]; omega⟩
  · rw [bytes_cells, List.length_map]; omega
  · obtain ⟨b', off', hA, hc⟩ := h.sl.2 (by rw [List.length_drop] at hn; omega)
    obtain ⟨rfl, rfl⟩ : b = b' ∧ off = off' := by injection hA with hA; injection hA with h1 h2; exact ⟨h1, h2⟩
    refine ⟨_, _, rfl, fun j u hu => ?_⟩
    rw [Nat.add_assoc]
    refine hc (k + j) u ?_
    rw [bytes_cells] at hu ⊢
    rw [List.getElem?_map, List.getElem?_drop] at hu
    rw [List.getElem?_map]; exact hu
theorem wrap_unB {a b c d : Int} (ha : 0 ≤ a ∧ a < 256) (hb : 0 ≤ b ∧ b < 256) (hc : 0 ≤ c ∧ c < 256) (hd : 0 ≤ d ∧ d < 256) : wrap32 (a * 16777216 + b * 65536 + c * 256 + d) = unB a b c d := by
  unfold wrap32 unB
  split <;> omega
set_option maxRecDepth 100000 in
set_option maxHeartbeats 4000000 in
theorem rd_num (base rb : Nat) (A : Option Addr) (c : Nat) (s : RdL) (w : World) (hR : Hid (Rd w base rb A c s)) :
    Calls Try.prog 26 #[.pointer (some ⟨rb, 0, none⟩)] w (RetRd w base rb (.int .i64 (rNum s).1) (rNum s).2) := by
  obtain ⟨l, bad⟩ := s
  obtain ⟨q0, q1⟩ := hR.out.c0
  have f0 := hR.out.fr 0
  have f1 := hR.out.fr 1
  have hcap := hR.out.cap
  have hln := hR.out.by_.ln
  simp only at q0 q1 hcap hln
  by_cases h4 : l.length < 4
  · have h4' : (l.length : Int) < 4 := by omega
    have HE : Hid (rNum (l, bad) = (0, (l, true))) := Lib.hid (by
      unfold rNum
      rcases l with _ | ⟨a, _ | ⟨c, _ | ⟨d, _ | ⟨e, l⟩⟩⟩⟩
      · rfl
      · rfl
      · rfl
      · rfl
      · simp at h4; omega)
    have HB := Lib.hid hR.out.setBad
    have HO : Hid (Only rb none w (w.setCell ⟨rb, 1, none⟩ (.bool true))) := Lib.hid ((Only.refl rb none w).setCell 1 (.bool true))
    go_enter Try.func26, Try.ntmps26
    go_wp2_with fail
    go_ret
    rw [HE.out]
    exact ⟨rfl, A, c, HB, HO⟩
  · have h4' : ¬ (l.length : Int) < 4 := by omega
    rcases l with _ | ⟨x0, _ | ⟨x1, _ | ⟨x2, _ | ⟨x3, l⟩⟩⟩⟩
    · simp at h4
    · simp at h4
    · simp at h4
    · simp at h4
    have HBY := Lib.hid hR.out.by_
    obtain ⟨b, off, y, hA, hy, a0, a1, r0⟩ := HBY.out.at_ (j := 0) (by simp)
    obtain rfl : x0 = y := by simpa using hy
    subst hA
    obtain ⟨b', off', y, hA, hy, b0, b1, r1⟩ := HBY.out.at_ (j := 1) (by simp)
    obtain rfl : x1 = y := by simpa using hy
    obtain ⟨rfl, rfl⟩ : b = b' ∧ off = off' := by injection hA with hA; injection hA with h1 h2; exact ⟨h1, h2⟩
    clear hA hy
    obtain ⟨b', off', y, hA, hy, c0, c1, r2⟩ := HBY.out.at_ (j := 2) (by simp)
    obtain rfl : x2 = y := by simpa using hy
    obtain ⟨rfl, rfl⟩ : b = b' ∧ off = off' := by injection hA with hA; injection hA with h1 h2; exact ⟨h1, h2⟩
    clear hA hy
    obtain ⟨b', off', y, hA, hy, d0, d1, r3⟩ := HBY.out.at_ (j := 3) (by simp)
    obtain rfl : x3 = y := by simpa using hy
    obtain ⟨rfl, rfl⟩ : b = b' ∧ off = off' := by injection hA with hA; injection hA with h1 h2; exact ⟨h1, h2⟩
    clear hA hy
    have oA := orA ⟨a0, a1⟩ ⟨b0, b1⟩
    have oB := orB ⟨a0, a1⟩ ⟨b0, b1⟩ ⟨c0, c1⟩
    have oC := orC ⟨a0, a1⟩ ⟨b0, b1⟩ ⟨c0, c1⟩ ⟨d0, d1⟩
    have hl : (x0 :: x1 :: x2 :: x3 :: l).length = l.length + 4 := by simp
    rw [hl] at q0 h4 h4' hcap hln
    have i0 : (0 : Int) < l.length + 4 := by omega
    have i1 : (1 : Int) < l.length + 4 := by omega
    have i2 : (2 : Int) < l.length + 4 := by omega
    have i3 : (3 : Int) < l.length + 4 := by omega
    rw [Nat.add_zero] at r0
    clear hl h4
    go_enter Try.func26, Try.ntmps26
    go_wp2_with fail
    go_quiet (fail)
    have HA := Lib.hid (And.intro (And.intro a0 a1) (And.intro (And.intro b0 b1) (And.intro (And.intro c0 c1) (And.intro d0 d1))))
    have HWU := Lib.hid (wrap_unB ⟨a0, a1⟩ ⟨b0, b1⟩ ⟨c0, c1⟩ ⟨d0, d1⟩)
    clear oA oB oC a0 a1 b0 b1 c0 c1 d0 d1 r0 r1 r2 r3 i0 i1 i2 i3
    have HRQ := Lib.hid (hR.out.drewN nq)
    have HE : Hid (rNum (x0 :: x1 :: x2 :: x3 :: l, bad) = (unB x0 x1 x2 x3, (l, bad))) := Lib.hid rfl
    have HW : Hid (wrap64 (wrap32 (x0 * 16777216 + x1 * 65536 + x2 * 256 + x3)) = unB x0 x1 x2 x3) := Lib.hid (by
      rw [HWU.out]
      have := (num_unB HA.out.1 HA.out.2.1 HA.out.2.2.1 HA.out.2.2.2).2
      unfold I32 at this
      unfold wrap64
      omega)
    have HBD : Hid (BytesAt (some ⟨b, off + 4, none⟩) l (w.drewN nq)) := Lib.hid (bytes_keep (bytes_drop (k := 4) HBY.out (by simp)) (fun _ _ => rfl))
    have HLT := Lib.hid hR.out.lt
    by_cases hc4 : c = 4
    · subst hc4
      obtain rfl : l = [] := List.eq_nil_of_length_eq_zero (by omega)
      have HS := Lib.hid (HRQ.out.setCut (A' := some ⟨b, off, none⟩) (c' := 0) (l := []) ⟨Sl.nil_ _ _ _, fun x hx => (by cases hx), by simp⟩ (by simp) HLT.out)
      have HO := Lib.hid (((Only.refl rb none w).drewN nq).setCell 0 (.slice (some ⟨b, off, none⟩) 0 0))
      go_wp2_with fail
      go_ret
      exact ⟨by rw [HE.out, HW.out]; rfl, _, _, by rw [HE.out]; exact HS, HO⟩
    · have HS := Lib.hid (HRQ.out.setCut (A' := some ⟨b, off + 4, none⟩) (c' := c - 4) (l := l) HBD.out (by omega) HLT.out)
      have HO := Lib.hid (((Only.refl rb none w).drewN nq).setCell 0 (.slice (some ⟨b, off + 4, none⟩) l.length (c - 4)))
      go_wp2_with fail
      go_ret
      exact ⟨by rw [HE.out, HW.out]; rfl, _, _, by rw [HE.out]; exact HS, HO⟩
theorem Rd.bytes_ln {W : World} {base rb : Nat} {A : Option Addr} {c : Nat} {s : RdL} (h : Rd W base rb A c s) : s.1.length ≤ 9223372036854775807 := h.by_.ln
theorem rCount_ifs (size most : Nat) (s : RdL) (n : Int) (l : List Int) (b : Bool) (h : rNum s = (n, (l, b))) :
    rCount size most s = if n < 0 ∨ (most : Int) < n ∨ ((l.length / size : Nat) : Int) < n then (0, (l, true)) else (n, (l, b)) := by
  unfold rCount; rw [h]
set_option maxRecDepth 100000 in
set_option maxHeartbeats 4000000 in
theorem rd_count (base rb : Nat) (A : Option Addr) (c : Nat) (s : RdL) (w : World) (hR : Hid (Rd w base rb A c s)) (size most : Nat) (hs : 1 ≤ size ∧ size ≤ 1000) (hm : most ≤ 9223372036854775807) :
    Calls Try.prog 36 #[.pointer (some ⟨rb, 0, none⟩), .int .i64 size, .int .i64 most] w (RetRd w base rb (.int .i64 (rCount size most s).1) (rCount size most s).2) := by
  go_enter Try.func36, Try.ntmps36
  go_wp2_with fail
  refine (rd_num base rb A c s w hR).mono ?_
  rintro e w1 ⟨rfl, A1, c1, HR1, HO1⟩
  obtain ⟨⟨n, l, b⟩, hns⟩ : ∃ z, rNum s = z := ⟨_, rfl⟩
  have HC := Lib.hid (rCount_ifs size most s n l b hns)
  rw [hns] at HR1
  rw [hns]
  simp only at HR1 ⊢
  clear hns
  obtain ⟨q0, q1⟩ := HR1.out.c0
  have f1 := HR1.out.fr 1
  have hln := HR1.out.bytes_ln
  have HQ : Hid (wrap64 ((l.length : Int) / (size : Int)) = ((l.length / size : Nat) : Int)) := Lib.hid (by
    rw [← Int.natCast_ediv]
    have h1 := Nat.div_le_self l.length size
    have h2 : l.length ≤ 9223372036854775807 := hln
    generalize l.length / size = z at h1 ⊢
    unfold wrap64
    omega)
  have hz : ¬ size = 0 := by omega
  have HB := Lib.hid HR1.out.setBad
  have HO := Lib.hid (HO1.out.setCell 1 (.bool true))
  by_cases h1 : n < 0
  · have HC2 : Hid (rCount size most s = (0, (l, true))) := Lib.hid (by rw [HC.out, if_pos (by omega)])
    go_wp2_with fail
    go_ret
    rw [HC2.out]
    exact ⟨rfl, _, _, HB, HO⟩
  by_cases h2 : (most : Int) < n
  · have HC2 : Hid (rCount size most s = (0, (l, true))) := Lib.hid (by rw [HC.out, if_pos (by omega)])
    go_wp2_with fail
    go_ret
    rw [HC2.out]
    exact ⟨rfl, _, _, HB, HO⟩
  by_cases h3 : wrap64 ((l.length : Int) / (size : Int)) < n
  · have HC2 : Hid (rCount size most s = (0, (l, true))) := Lib.hid (by rw [HC.out, if_pos (by have := HQ.out; omega)])
    go_wp2_with fail
    go_ret
    rw [HC2.out]
    exact ⟨rfl, _, _, HB, HO⟩
  · have HC2 : Hid (rCount size most s = (n, (l, b))) := Lib.hid (by rw [HC.out, if_neg (by have := HQ.out; omega)])
    go_wp2_with fail
    go_ret
    rw [HC2.out]
    exact ⟨rfl, _, _, HR1, HO1⟩
end Go.Proofs.Yticfbbigljgjdaa
