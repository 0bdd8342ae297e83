/- Contract of table's (*maker).classes, first part: what its two loops keep. Condition: the maker is new. Contract of minterm.Least, once more: the row is the call's own. Condition: the lists at hand are known. Contract of table's (*maker).classes. Condition: the maker is new, the description right. Contract of desc.cycle where no rule is an epsilon rule. Condition: the rules are known, the states are few. A queue in memory: a slice of the call's own that may begin anywhere in its block; one more behind it. No function of the program in sight. Condition: none. Contract of desc.cycle. Condition: the rules are known, their states are there, the states are few. Contracts of desc.Where, desc.Check and desc.Free. Condition: the description is known. Contracts of sole.meet and sole.clash. Condition: the options are known. Contracts of sole.Clash and sole.Sole. Condition: the description is known, its rules and finals are few. Contract of desc.Free. Condition: the description is known. The zero table: its cells, its allocation; the result of a function that returns a struct's cells and a number. No function of the program in sight. Condition: none. What table.Compile answers, in plain words. Condition: none. Plain law of a table that goes, byte by byte: chunks one behind the other, what a right table keeps, how much is written. No program in sight. Condition: none. Plain law: a right table is a machine that goes (chapter 19): where its numbers lead, what its acts eat and write. No program in sight. Condition: none. Plain law: the table of chapter 17's example: it is right, and what it does with "a" and "b". No program in sight. Condition: none. Plain law: what table.Compile answers to chapter 17's example. No program in sight. Condition: none. Chapter 17's example in memory: the two laws' own 'held'. Condition: none. -/
import Derived.Test.YtlmkokeapbleoaaR08
import Derived.Test.YtlmkokeapbleoaaR09
import Derived.Test.YtlmkokeapbleoaaR05
import Derived.Deep.AppendSrc
import Derived.Test.YtlmkokeapbleoaaR07
import Derived.OwnWalk
import Derived.Test.YtlmkokeapbleoaaR01
import Derived.Great.Walk
import Derived.Laws.BytesArg
import Derived.Laws.CopyOwn
import Derived.Test.YtlmkokeapbleoaaR04
set_option maxRecDepth 100000
set_option maxHeartbeats 64000000
set_option linter.unusedVariables false
set_option linter.unusedSimpArgs false
section
namespace Go.Proofs.Ytlmkokeapbleoaa
open Go.RowKit
structure Cl (W wr : World) (n m rb : Nat) (A0 A : Option Addr) (c : Nat) (O : List (Item Sp)) (R : List (Item Int)) : Prop where
  bel : Below n W wr
  blk : ∀ j, j < W.heap.size → j ≠ rb → ownA A0 ≠ some j → wr.heap[j]? = W.heap[j]?
  fam : wr.ownsRow m 36 1 (.slice A O.length c) O.length (icells O)
  new : ∀ g, ownA A = some g → ownA A0 = some g ∨ W.heap.size ≤ g
  rw : RwI rb W.heap.size R wr
theorem tyHI : (36 : TypeId) ≠ 3 := by decide
theorem tyHR : (36 : TypeId) ≠ 45 := by decide
theorem Cl.step {W wr w2 w4 : World} {n m rb : Nat} {A0 A A2 a' : Option Addr} {c c2 c' : Nat} {O : List (Item Sp)} {R : List (Item Int)} {news : List (Item Sp)} {ob o : Obj} {q : Nat} {a : Option Addr} {ca : Nat} {l : List Int} {x : Int} {nq : Nat}
    (h : Cl W wr n m rb A0 A c O R) (hnm : n ≤ m) (hmW : m ≤ W.heap.size) (hnr : n ≤ rb) (hrW : rb < W.heap.size)
    (ho2 : w2.ownsRow m 36 1 (.slice A2 (O.length + news.length) c2) (O.length + news.length) (icells O ++ icells news)) (hg2 : (wr.alloc ob).grownBy w2 (ownA A)) (hn2 : Newer (ownA A) (ownA A2) (wr.heap.size + 1))
    (hx : R[q]? = some (a, ca, l)) (hx64 : I64 x)
    (ho4 : w4.ownsRow W.heap.size 3 1 (.slice a' (l.length + 1) c') (l.length + 1) (l.map (Value.int .i64) ++ [.int .i64 x])) (hg4 : ((w2.drewN nq).alloc o).grownBy w4 (ownA a)) (hn4 : Newer (ownA a) (ownA a') (w2.heap.size + 1)) :
    Cl W (w4.setCell ⟨rb, q, none⟩ (.slice a' (l.length + 1) c')) n m rb A0 A2 c2 (O ++ news) (R.set q (a', c', l ++ [x])) := by
  have hWr := h.bel.size
  have hs2 := hg2.size
  simp at hs2
  have hs4 := hg4.size
  simp at hs4
  have hAr : ownA A ≠ some rb := own_ne_cells h.fam h.rw.blk tyHR
  have hAi : ∀ (i : Nat) y, R[i]? = some y → ∀ k, ownA y.1 = some k → ownA A ≠ some k := fun i y hy k hk => own_apart (h.rw.own i y hy) h.fam (fun e => tyHI e.symm) k hk
  have h2 : ∀ k, k < wr.heap.size → ownA A ≠ some k → w2.heap[k]? = wr.heap[k]? := fun k hk hne => (hg2.block k (by simp; omega) (fun e => hne e.symm)).trans (Below.heap_alloc _ _ _ hk)
  have hR2 : RwI rb W.heap.size R w2 := ⟨(h2 rb (by omega) hAr).trans h.rw.blk, fun i y hy => own_keep (h.rw.own i y hy) fun k hk => h2 k (own_ty (h.rw.own i y hy) hk).2.1 (hAi i y hy k hk), h.rw.dis, h.rw.rng⟩
  have hR3 : RwI rb W.heap.size R (w2.drewN nq) := hR2.keep rfl fun _ _ _ _ => rfl
  have hR := hR3.push hrW (by show W.heap.size ≤ w2.heap.size; omega) hx hx64 ho4 hg4 hn4
  have har : ∀ k, ownA a = some k → W.heap.size ≤ k := fun k hk => (own_ty (h.rw.own q _ hx) hk).1
  have h4 : ∀ k, k < w2.heap.size → ownA a ≠ some k → w4.heap[k]? = w2.heap[k]? := fun k hk hne => (hg4.block k (by simp; omega) (fun e => hne e.symm)).trans (Below.heap_alloc _ _ _ (by simpa using hk))
  have hst : ∀ k, k ≠ rb → (w4.setCell ⟨rb, q, none⟩ (.slice a' (l.length + 1) c')).heap[k]? = w4.heap[k]? := fun k hk => heap_setCell_other _ _ _ _ hk
  have hA2r : ownA A2 ≠ some rb := own_ne_cells ho2 (cs := (icells R).toArray) hR2.blk tyHR
  refine ⟨?_, fun j hj h1 h3 => ?_, ?_, fun g hg => ?_, hR⟩
  · have b1 : Below n W w2 := (h.bel.alloc (by omega) ob).grown hg2 (by simp; omega) (fun k hk => by have := (own_ty h.fam hk).1; omega)
    have b2 : Below n W w4 := ((below_drewN b1 nq).alloc (by simp; omega) o).grown hg4 (by simp; omega) (fun k hk => by have := har k hk; omega)
    exact b2.setCell (p := ⟨rb, q, none⟩) hnr _
  · refine (hst j h1).trans ((h4 j (by omega) (fun e => by have := har j e; omega)).trans ((h2 j (by omega) (fun e => ?_)).trans (h.blk j hj h1 h3)))
    rcases h.new j e with e | e
    · exact h3 e
    · omega
  · have hl : (O ++ news).length = O.length + news.length := by simp
    rw [hl, icells_append]
    refine own_keep ho2 fun k hk => ?_
    refine (hst k (fun e => hA2r (e ▸ hk))).trans (h4 k (own_ty ho2 hk).2.1 (fun e => ?_))
    exact own_apart (hR2.own q _ hx) ho2 (fun e => tyHI e.symm) k e hk
  · rcases hn2 with e | ⟨g2, e, hg2⟩
    · rw [e] at hg; exact h.new g hg
    · rw [e] at hg; injection hg with hg; right; omega
end Go.Proofs.Ytlmkokeapbleoaa
end
section
namespace Go.Proofs.Ytlmkokeapbleoaa
open Go.RowKit
section
variable {w0 w : World} {F : World → Prop} {A : Option Addr} {L : List (Item Sp)}
theorem Least_own (hK : Hid (St w0 w F)) (hb : ∀ W, F W → LL A L W) (hn : L.length < 1048576) (c : Nat) : Calls Try.prog 8 #[.slice A L.length c] w (fun e w' => ∃ B c', e = .returned (.slice B L.length c') ∧ Hid (w'.ownsRow w.heap.size 3 1 (.slice B L.length c') L.length (((bodies L).map leastI).map (Value.int .i64))) ∧ Hid (Below w.heap.size w w')) := by
  obtain ⟨i0, hi, hz0, hz1, hz2⟩ := info_parts infoI64
  go_enter Try.func8, Try.ntmps8
  go_wp2_with fail
  go_loopw [3, 10] (fun ov iv wr => ∃ (k : Nat) (Ao : Option Addr) (co : Nat), k ≤ L.length ∧ iv = .int .i64 k ∧ ov = .slice Ao k co ∧ Hid (wr.ownsRow w.heap.size 3 1 (.slice Ao k co) k ((((bodies L).take k).map leastI).map (Value.int .i64))) ∧ Hid (Below w.heap.size w wr)) (fun _ iv _ => L.length - (intOf iv).toNat)
  case atStart => exact ⟨0, none, 0, Nat.zero_le _, rfl, rfl, Lib.hid (World.ownsRow_nil _ _ _ _), Lib.hid (Below.refl _ _)⟩
  case round =>
  obtain ⟨k, Ao, co, hk, rfl, rfl, HO, HB⟩ := hrel
  have HS := Lib.hid (hK.out.step HB.out)
  by_cases hlt : k < L.length
  · obtain ⟨gb, off, ba, bc, b, hA, hx, hc, hwd⟩ := (hb _ HS.out.now).at_ hlt
    have hbk : (bodies L)[k]? = some b := by unfold bodies; rw [List.getElem?_map, hx]; rfl
    have HBK := Lib.hid hbk
    have HWD := Lib.hid hwd
    have HF := Lib.hid (First_any ba b.length bc b (normL b) wr hwd.sp hwd.wd hwd.len (normL_rep b).out)
    obtain ⟨x, hx'⟩ : ∃ x, optD (nthS (normL b) 0) = x := ⟨_, rfl⟩
    subst hA
    clear hx hwd hbk
    rcases hB : optB (nthS (normL b) 0) with _ | _
    · rw [hB, hx'] at HF
      have HLE : Hid (leastI b = -1) := by unfold Hid leastI; rw [hB]; rfl
      clear hB hx'
      go_wp2_with (first
        | (go_at_call 19
           refine HF.out.out.mono ?_
           rintro e w1 ⟨rfl, hb1⟩
           have HB1 := Lib.hid (below_to HB.out hb1)
           have HO1 := Lib.hid (own_below HO.out hb1))
        | (at_builtin; go_must (refine wpList_push rfl _ _ 45 rfl w.heap.size 3 i0 _ 1 8 Try.underlying45 hi hz0 hz1 hz2 rfl (by decide) HO1.out rfl [.int .i64 (-1)] _ (by first | rfl | (simp; rfl) | simp) rfl (by intro u hu; simp at hu; subst hu; rfl) (by omega) (by omega) HB1.out.size ?_); intro v' w2 hown2 hg2 _))
      obtain ⟨A2, c2, hv2⟩ := own_shape hown2
      subst hv2
      have HB2 := Lib.hid (below_pushed HB1.out HO1.out (Nat.le_refl _) HB1.out.size hg2)
      have HO2 : Hid (w2.ownsRow w.heap.size 3 1 (.slice A2 (k + 1) c2) (k + 1) ((((bodies L).take (k + 1)).map leastI).map (Value.int .i64))) := by
        unfold Hid
        rw [take_snoc? HBK.out, List.map_append, List.map_append]
        simp only [List.map_cons, List.map_nil, HLE.out]
        exact hown2
      clear hown2 hg2
      go_wp2_with fail
      exact ⟨⟨k + 1, A2, c2, by omega, by go_num, rfl, HO2, HB2⟩, by simp [intOf]; omega⟩
    · rw [hB, hx'] at HF
      have HLE : Hid (leastI b = x) := by unfold Hid leastI; rw [hB, hx']; rfl
      clear hB hx'
      go_wp2_with (first
        | (go_at_call 19
           refine HF.out.out.mono ?_
           rintro e w1 ⟨rfl, hb1⟩
           have HB1 := Lib.hid (below_to HB.out hb1)
           have HO1 := Lib.hid (own_below HO.out hb1))
        | (at_builtin; go_must (refine wpList_push rfl _ _ 45 rfl w.heap.size 3 i0 _ 1 8 Try.underlying45 hi hz0 hz1 hz2 rfl (by decide) HO1.out rfl [.int .i64 x] _ (by first | rfl | (simp; rfl) | simp) rfl (by intro u hu; simp at hu; subst hu; rfl) (by omega) (by omega) HB1.out.size ?_); intro v' w2 hown2 hg2 _))
      obtain ⟨A2, c2, hv2⟩ := own_shape hown2
      subst hv2
      have HB2 := Lib.hid (below_pushed HB1.out HO1.out (Nat.le_refl _) HB1.out.size hg2)
      have HO2 : Hid (w2.ownsRow w.heap.size 3 1 (.slice A2 (k + 1) c2) (k + 1) ((((bodies L).take (k + 1)).map leastI).map (Value.int .i64))) := by
        unfold Hid
        rw [take_snoc? HBK.out, List.map_append, List.map_append]
        simp only [List.map_cons, List.map_nil, HLE.out]
        exact hown2
      clear hown2 hg2
      go_wp2_with fail
      exact ⟨⟨k + 1, A2, c2, by omega, by go_num, rfl, HO2, HB2⟩, by simp [intOf]; omega⟩
  · obtain rfl : k = L.length := by omega
    have hd : decide (L.length < L.length) = false := by simp
    go_wp2_with fail
    go_ret
    have h := HO.out
    rw [← bodies_length (L := L), List.take_length, bodies_length] at h
    exact ⟨Ao, co, rfl, Lib.hid h, HB⟩
end
end Go.Proofs.Ytlmkokeapbleoaa
end
section
namespace Go.Proofs.Ytlmkokeapbleoaa
open Go.RowKit
def RowsF (N : Nat) (l : List Int) (R : List (Item Int)) : Prop := R.length = N ∧ ∀ q : Nat, q < N → ∃ a c, R[q]? = some (a, c, rowF l q)
theorem RowsF.start (N : Nat) : RowsF N [] (List.replicate N (none, 0, [])) := ⟨by simp, fun q hq => ⟨none, 0, by rw [List.getElem?_replicate, if_pos hq]; rfl⟩⟩
theorem RowsF.step {N : Nat} {l : List Int} {R : List (Item Int)} (h : RowsF N l R) {q : Nat} {a : Option Addr} {c : Nat} (hq : q < N) : RowsF N (l ++ [(q : Int)]) (R.set q (a, c, rowF l q ++ [(l.length : Int)])) := by
  refine ⟨by rw [List.length_set]; exact h.1, fun p hp => ?_⟩
  rw [rowF_snoc]
  by_cases e : p = q
  · subst e
    rw [if_pos rfl, List.getElem?_set_self (by rw [h.1]; exact hp)]
    exact ⟨_, _, rfl⟩
  · rw [if_neg (by omega), List.getElem?_set_ne (fun h => e h.symm)]
    exact h.2 p hp
end Go.Proofs.Ytlmkokeapbleoaa
end
section
namespace Go.Proofs.Ytlmkokeapbleoaa
open Go.RowKit
theorem infoRowI : (Try.prog.info? 45).map (fun i => (i.zero, i.size, i.bytes)) = some (some (.slice none 0 0), 1, 24) := by kernel_rfl
theorem St.made (w : World) (n : Nat) (z : Value) (t : TypeId) : BoxC w.heap.size (List.replicate n z) (w.alloc (.cells (madeCells #[z] n) t)) := fun i v hv => by
  rw [World.cell?_alloc_new, ← Array.getElem?_toList, toList_madeCells_one]
  simpa using hv
section
variable {w0 w : World} {F : World → Prop}
end
end Go.Proofs.Ytlmkokeapbleoaa
end
section
namespace Go.Proofs.Ytlmkokeapbleoaa
open Go.RowKit
structure QOwn (W : World) (base : Nat) (e : TypeId) (A : Option Addr) (n c : Nat) (xs : List Value) : Prop where
  len : xs.length = n
  sh : (A = none ∧ n = 0 ∧ c = 0) ∨ ∃ g p cur, A = some ⟨g, p, none⟩ ∧ base ≤ g ∧ W.heap[g]? = some (.cells cur e (0, 0)) ∧ n ≤ c ∧ c ≤ maxLen ∧ p + c ≤ cur.size ∧ (cur.toList.drop p).take n = xs
section
variable {W W' : World} {base : Nat} {e : TypeId} {A : Option Addr} {n c : Nat} {xs : List Value}
theorem QOwn.of_own (h : W.ownsRow base e 1 (.slice A n c) n xs) : QOwn W base e A n c xs := by
  refine ⟨by simpa using h.1, ?_⟩
  rcases h.2 with ⟨e1, e2⟩ | ⟨g, cap, cur, e1, h1, h2, h3, h4, h5, h6⟩
  · injection e1 with e1 _ e3
    exact .inl ⟨e1, e2, e3⟩
  · injection e1 with e1 _ e3
    subst e3
    exact .inr ⟨g, 0, cur, e1, h1, h2, h3, h4, by omega, by simpa using h6⟩
theorem QOwn.cap (h : QOwn W base e A n c xs) : n ≤ c ∧ c ≤ 9223372036854775807 := by
  rcases h.sh with ⟨_, h1, h2⟩ | ⟨g, p, cur, _, _, _, h3, h4, _⟩
  · omega
  · unfold maxLen at h4; omega
theorem QOwn.ty (h : QOwn W base e A n c xs) {k : Nat} (hk : ownA A = some k) : base ≤ k ∧ k < W.heap.size ∧ ∃ cur, W.heap[k]? = some (.cells cur e (0, 0)) := by
  rcases h.sh with ⟨rfl, _⟩ | ⟨g, p, cur, rfl, h1, h2, _⟩
  · cases hk
  · injection hk with hk; simp only at hk; subst hk
    exact ⟨h1, (Array.getElem?_eq_some_iff.1 h2).1, cur, h2⟩
theorem QOwn.keep (h : QOwn W base e A n c xs) (hk : ∀ k, ownA A = some k → W'.heap[k]? = W.heap[k]?) : QOwn W' base e A n c xs := by
  refine ⟨h.len, ?_⟩
  rcases h.sh with h1 | ⟨g, p, cur, rfl, h1, h2, h3⟩
  · exact .inl h1
  · exact .inr ⟨g, p, cur, rfl, h1, (hk g rfl).trans h2, h3⟩
theorem QOwn.cell {g p : Nat} (h : QOwn W base e (some ⟨g, p, none⟩) n c xs) {j : Nat} (hj : j < n) : W.cell? ⟨g, p + j, none⟩ = xs[j]? := by
  rcases h.sh with ⟨h1, _⟩ | ⟨g', p', cur, e1, h1, h2, h3, h4, h5, h6⟩
  · cases h1
  · injection e1 with e1; injection e1 with e1 e2; subst e1; subst e2
    rw [← h6, List.getElem?_take, if_pos hj, List.getElem?_drop]
    simp [World.cell?, h2]
theorem QOwn.some_ (h : QOwn W base e A n c xs) (hn : 0 < n) : ∃ g p, A = some ⟨g, p, none⟩ := by
  rcases h.sh with ⟨_, h1, _⟩ | ⟨g, p, cur, rfl, _⟩
  · omega
  · exact ⟨g, p, rfl⟩
theorem QOwn.tail {g p : Nat} {x : Value} {n : Nat} {xs : List Value} (h : QOwn W base e (some ⟨g, p, none⟩) (n + 1) c (x :: xs)) : QOwn W base e (some ⟨g, p + 1, none⟩) n (c - 1) xs := by
  rcases h.sh with ⟨h1, _⟩ | ⟨g', p', cur, e1, h1, h2, h3, h4, h5, h6⟩
  · cases h1
  · injection e1 with e1; injection e1 with e1 e2; subst e1; subst e2
    have hl := h.len
    refine ⟨by simpa using hl, .inr ⟨g, p + 1, cur, rfl, h1, h2, by omega, by omega, by omega, ?_⟩⟩
    have h7 : (cur.toList.drop p).tail.take n = xs := by
      rcases hd : cur.toList.drop p with _ | ⟨y, l⟩
      · rw [hd] at h6; simp at h6
      · rw [hd] at h6; simp at h6 ⊢; exact h6.2
    rw [← h7, List.tail_drop]
theorem QOwn.tail0 {g p : Nat} {x : Value} {xs : List Value} (h : QOwn W base e (some ⟨g, p, none⟩) 1 1 (x :: xs)) (q : Nat) (hq : q = p ∨ q = p + 1) : QOwn W base e (some ⟨g, q, none⟩) 0 0 xs := by
  have hl := h.len
  have hx : xs = [] := List.eq_nil_of_length_eq_zero (by simpa using hl)
  subst hx
  rcases h.sh with ⟨h1, _⟩ | ⟨g', p', cur, e1, h1, h2, h3, h4, h5, h6⟩
  · cases h1
  · injection e1 with e1; injection e1 with e1 e2; subst e1; subst e2
    exact ⟨rfl, .inr ⟨g, q, cur, rfl, h1, h2, Nat.le_refl _, by simp, by omega, by simp⟩⟩
end
theorem setCells_one (w : World) (b o : Nat) (v : Value) : w.setCells b o [v] = w.setCell ⟨b, o, none⟩ v := rfl
theorem run_append_q {P : Program} (w : World) (base : Nat) (t ty e : TypeId) (i : TypeInfo) (z : Value) (bytes : Nat) (ht : P.underlying t = some (.slice e)) (hi : P.info? e = some i) (hz : i.zero = some z)
    (hsize : i.size = 1) (hby : i.bytes = bytes) (hzs : z.cells.size = 1) {A : Option Addr} {n c : Nat} {xs : List Value} (h : QOwn w base e A n c xs)
    (nb : Nat) (cc : Nat) (v : Value) (hv : w.cell? ⟨nb, 0, none⟩ = some v) (h1 : v.oneCell' = true) (h63 : n + 1 ≤ maxLen) (hbytes : (n + 1) * bytes ≤ 140737488355328) (hbase : base ≤ w.heap.size) :
    ∃ A' c' w', (Builtin.append_ #[t, t] ty #[.slice A n c, .slice (some ⟨nb, 0, none⟩) 1 cc]).run P w = .ok (.slice A' (n + 1) c') w' ∧ QOwn w' base e A' (n + 1) c' (xs ++ [v]) ∧ w.grownBy w' (ownA A) ∧ Newer (ownA A) (ownA A') w.heap.size := by
  subst hby
  have hsmall : n + 1 ≤ 9223372036854775807 := by simp only [maxLen] at h63; omega
  have hnews : ∀ j u, ([v] : List Value)[j]? = some u → w.cell? ((⟨nb, 0, none⟩ : Addr).add j) = some u := by
    intro j u hu
    rcases j with _ | j
    · simp at hu; subst hu; rw [add_plain]; exact hv
    · simp at hu
  have hl : ([v] : List Value).length = 1 * i.size := by rw [hsize]; rfl
  have grown : ∀ (old : Nat), old < n + 1 → ∀ (row : Option Nat),
      QOwn (w.drew.alloc (.cells (xs.toArray ++ [v].toArray ++ Builtin.zeroCells z.cells (grownCap w (n + 1) old e - (n + 1))) e)) base e (some ⟨w.heap.size, 0, none⟩) (n + 1) (grownCap w (n + 1) old e) (xs ++ [v]) ∧
      w.grownBy (w.drew.alloc (.cells (xs.toArray ++ [v].toArray ++ Builtin.zeroCells z.cells (grownCap w (n + 1) old e - (n + 1))) e)) row := by
    intro old ho row
    have hge := grownCap_ge w (n + 1) old e
    have hcm : grownCap w (n + 1) old e ≤ maxLen := grownCap_le_maxLen w (n + 1) old e h63
    have hx := h.len
    refine ⟨⟨by simp [hx], .inr ⟨w.heap.size, 0, _, rfl, hbase, heap_alloc_new w.drew _, hge, hcm, ?_, ?_⟩⟩, ⟨rfl, rfl, rfl, by simp, fun k hk _ => Below.heap_alloc w.drew _ _ hk⟩⟩
    · simp only [Array.size_append, List.size_toArray, size_zeroCells, hzs, hx, List.length_cons, List.length_nil]
      omega
    · simp only [Array.toList_append, List.drop_zero]
      have : (xs ++ [v]).length = n + 1 := by simp [hx]
      rw [← this]
      exact List.take_left
  rcases h.sh with ⟨rfl, rfl, rfl⟩ | ⟨g, p, cur, rfl, hbg, hg, hnc, hcm, hcs, htake⟩
  · have hx : xs = [] := List.eq_nil_of_length_eq_zero h.len
    subst hx
    have hr := run_append_nil (P := P) w t ty e i z ht hi hz ⟨nb, 0, none⟩ 1 cc [v] hl hnews (by omega) (by omega) (by have hb := hbytes; simp only [Nat.zero_add] at hb; omega)
    have hgr := grown 0 (by omega) none
    simp only [Nat.zero_add, List.nil_append, Array.empty_append] at hgr ⊢
    exact ⟨_, _, _, hr, hgr.1, hgr.2, .inr ⟨_, rfl, Nat.le_refl _⟩⟩
  · by_cases hroom : n + 1 ≤ c
    · have hp : p + n < cur.size := by omega
      have hsrc : Src P i.size t (.slice (some ⟨nb, 0, none⟩) 1 cc) 1 [v] w := Src.ofSlice w ht ⟨nb, 0, none⟩ 1 cc [v] hl hnews (by simpa using h1)
      have hr := run_append_room_src (P := P) w t t ty e i ht hi g p n c (.slice (some ⟨nb, 0, none⟩) 1 cc) 1 [v] hsrc hroom (by
        intro j hj
        have : j = 0 := by simpa using hj
        subst this
        rw [hsize]
        simp [World.cell?, hg, hp]) (by
        intro j hj
        simp [World.frozen?, hg])
      rw [hsize, Nat.mul_one, setCells_one] at hr
      refine ⟨_, _, _, hr, ⟨by simp [h.len], .inr ⟨g, p, cur.setIfInBounds (p + n) v, rfl, hbg, heap_setCell_same w g (p + n) cur e v hg, hroom, hcm, by simpa using hcs, ?_⟩⟩, ⟨rfl, rfl, rfl, by simp, fun k _ hk => heap_setCell_other w ⟨g, p + n, none⟩ k v (fun e => hk (by simp [ownA, e]))⟩, .inl rfl⟩
      rw [Array.toList_setIfInBounds, List.drop_set, if_neg (by omega), show p + n - p = n by omega, ← htake]
      rw [List.take_set, List.take_add_one, List.getElem?_drop, List.getElem?_eq_getElem (by simpa using hp)]
      simp only [Option.toList_some]
      have hl2 : ((cur.toList.drop p).take n).length = n := by rw [htake]; exact h.len
      rw [List.set_append_right _ _ (by omega), hl2, Nat.sub_self, List.set_cons_zero]
    · have holds : ∀ j u, xs[j]? = some u → w.cell? ((⟨g, p, none⟩ : Addr).add j) = some u := by
        intro j u hu
        have hj : j < n := by rw [← h.len]; exact (List.getElem?_eq_some_iff.1 hu).1
        rw [add_plain, h.cell hj]; exact hu
      have hr := run_append_grow (P := P) w t ty e i z ht hi hz ⟨g, p, none⟩ n c xs (by rw [hsize, h.len]; omega) holds ⟨nb, 0, none⟩ 1 cc [v] hl hnews (by omega) (by omega) (growslice_fits (by omega) hbytes)
      have hgr := grown c (by omega) (some g)
      exact ⟨_, _, _, hr, hgr.1, hgr.2, .inr ⟨_, rfl, Nat.le_refl _⟩⟩
theorem wpList_pushQ {P : Program} {w0 : World} {ops : Array Oper} {rest : List Oper} {o : Oper} {a : Act} {Q : Exit → Act → World → Prop} (hgd : o.guard = none) (s x : Operand) (t : TypeId)
    (ho : o.op = .call { callee := .builtin .append, args := #[s, x], argTypes := #[t, t] })
    (base : Nat) (e : TypeId) (i : TypeInfo) (z : Value) (bytes : Nat) (ht : P.underlying t = some (.slice e)) (hi : P.info? e = some i) (hz : i.zero = some z)
    (hsize : i.size = 1) (hby : i.bytes = bytes) (hzs : z.cells.size = 1)
    {A : Option Addr} {c n : Nat} {xs : List Value} (hown : QOwn w0 base e A n c xs) (hs : a.eval s = .slice A n c)
    (v : Value) (e' : TypeId) (hx : a.eval x = .slice (some ⟨w0.heap.size, 0, none⟩) 1 1) (h1 : v.oneCell' = true)
    (hn : n < 1099511627776) (hb : bytes ≤ 128) (hbase : base ≤ w0.heap.size)
    (h : ∀ A' c' w', Hid (QOwn w' base e A' (n + 1) c' (xs ++ [v])) → Hid ((w0.alloc (.cells #[v] e')).grownBy w' (ownA A)) → Hid (Newer (ownA A) (ownA A') (w0.heap.size + 1)) → wpList P ops Q rest (a.put o.dst (.slice A' (n + 1) c')) w') :
    wpList P ops Q (o :: rest) a (w0.alloc (.cells #[v] e')) := by
  refine wpList_plain hgd fun _ hK => ?_
  have hs0 : (w0.alloc (.cells #[v] e')).heap.size = w0.heap.size + 1 := by simp
  have hq : QOwn (w0.alloc (.cells #[v] e')) base e A n c xs := hown.keep fun k hk => Below.heap_alloc _ _ _ (hown.ty hk).2.1
  obtain ⟨A', c', w', hrun, h2, h3, h4⟩ := run_append_q (P := P) (w0.alloc (.cells #[v] e')) base t o.type e i z bytes ht hi hz hsize hby hzs hq w0.heap.size 1 v (by
    have hbk := heap_alloc_new w0 (.cells #[v] e')
    simp only [World.cell?, hbk]; rfl) h1 (by unfold maxLen; omega) (by have : (n + 1) * bytes ≤ 1099511627776 * 128 := Nat.mul_le_mul (by omega) hb; omega) (by rw [hs0]; omega)
  unfold Oper.wp execOp
  simp only [ho, resolve, invoke, builtin, Sem.run_bind, Sem.run_pure, Result.andThen_ok, List.map_toArray, List.map_cons, List.map_nil, hs, hx, hrun]
  rw [hs0] at h4
  exact hK _ _ (h A' c' w' (Lib.hid h2) (Lib.hid h3) (Lib.hid h4))
end Go.Proofs.Ytlmkokeapbleoaa
end
section
namespace Go.Proofs.Ytlmkokeapbleoaa
open Go.RowKit
def natC (l : List Nat) : List Value := l.map fun t : Nat => .int .i64 (t : Int)
theorem natC_snoc (l : List Nat) (t : Nat) : natC (l ++ [t]) = natC l ++ [.int .i64 (t : Int)] := by simp [natC]
def inC (m : Nat) (D : Nat → Nat) : List Value := (List.range m).map fun t => .int .i64 (D t : Int)
theorem inC_len (m : Nat) (D : Nat → Nat) : (inC m D).length = m := by simp [inC]
theorem inC_at {m : Nat} (D : Nat → Nat) {t : Nat} (h : t < m) : (inC m D)[t]? = some (.int .i64 (D t : Int)) := by simp [inC, List.getElem?_range h]
theorem inC_set (m : Nat) (D : Nat → Nat) (t v : Nat) : (inC m D).set t (.int .i64 (v : Int)) = inC m (Kahn.upd D t v) := by
  apply List.ext_getElem?
  intro j
  by_cases hj : j < m
  · rw [inC_at _ hj]
    by_cases e : t = j
    · subst e; rw [List.getElem?_set_self (by rw [inC_len]; exact hj)]; simp [Kahn.upd]
    · rw [List.getElem?_set_ne e, inC_at _ hj]; simp [Kahn.upd, show ¬ j = t from fun h => e h.symm]
  · rw [List.getElem?_eq_none (by rw [List.length_set, inC_len]; omega), List.getElem?_eq_none (by rw [inC_len]; omega)]
theorem inC_arr (m : Nat) (D : Nat → Nat) (t v : Nat) : (inC m D).toArray.setIfInBounds t (.int .i64 (v : Int)) = (inC m (Kahn.upd D t v)).toArray := by
  rw [List.setIfInBounds_toArray, inC_set]
theorem inC_congr {m : Nat} {D D' : Nat → Nat} (h : ∀ t, t < m → D t = D' t) : inC m D = inC m D' := by
  unfold inC
  refine List.map_congr_left fun t ht => ?_
  rw [h t (List.mem_range.1 ht)]
def toF (E : List Kahn.Edge) (s : Nat) : List Int := (Kahn.outs E s).map fun e => (e.2 : Int)
theorem toF_snoc (E : List Kahn.Edge) (f t s : Nat) : toF (E ++ [(f, t)]) s = if s = f then toF E f ++ [(t : Int)] else toF E s := by
  unfold toF Kahn.outs
  rw [List.filter_append, List.map_append]
  by_cases h : s = f
  · subst h; simp
  · rw [if_neg h, List.filter_cons_of_neg (by simp; omega)]; simp
theorem toF_len (E : List Kahn.Edge) (s : Nat) : (toF E s).length ≤ E.length := by
  unfold toF Kahn.outs; rw [List.length_map]; exact List.length_filter_le ..
theorem cnt_snoc (E : List Kahn.Edge) (f t s : Nat) : Kahn.cnt (E ++ [(f, t)]) s = Kahn.upd (Kahn.cnt E) t (Kahn.cnt E t + 1) s := by
  unfold Kahn.cnt Kahn.upd
  rw [List.countP_append]
  by_cases h : s = t
  · subst h; simp
  · rw [if_neg h]
    have : ¬ t = s := fun e => h e.symm
    simp [this]
theorem epsE_snoc (l : List RuleL) (r : RuleL) : epsE (l ++ [r]) = epsE l ++ if r.gs = [] then [(r.fr.toNat, r.dst.toNat)] else [] := by
  unfold epsE
  rw [List.filter_append, List.map_append]
  congr 1
  by_cases h : r.gs = []
  · rw [if_pos h, List.filter_cons_of_pos (by simp [h])]; rfl
  · rw [if_neg h, List.filter_cons_of_neg (by simpa using h)]; rfl
theorem epsE_len (l : List RuleL) : (epsE l).length ≤ l.length := by
  unfold epsE; rw [List.length_map]; exact List.length_filter_le ..
theorem rows_set {R : List (Item Int)} {m : Nat} {f g : Nat → List Int} (h : R.map (·.2.2) = (List.range m).map f) {i : Nat} (x : Item Int) (hi : i < m) (hx : x.2.2 = g i) (hg : ∀ j, j ≠ i → g j = f j) : (R.set i x).map (·.2.2) = (List.range m).map g := by
  have hl : R.length = m := by have := congrArg List.length h; simpa using this
  rw [List.map_set, h]
  apply List.ext_getElem?
  intro j
  by_cases hj : j < m
  · by_cases e : i = j
    · subst e
      rw [List.getElem?_set_self (by simpa using hj)]; simp [List.getElem?_range hj, hx]
    · rw [List.getElem?_set_ne e]; simp [List.getElem?_range hj, hg j (fun h => e h.symm)]
  · rw [List.getElem?_eq_none (by simp; omega), List.getElem?_eq_none (by simp; omega)]
theorem rows_at {R : List (Item Int)} {m : Nat} {f : Nat → List Int} (h : R.map (·.2.2) = (List.range m).map f) {i : Nat} (hi : i < m) : ∃ a c, R[i]? = some (a, c, f i) := by
  have h1 : (R.map (·.2.2))[i]? = some (f i) := by rw [h]; simp [List.getElem?_range hi]
  rw [List.getElem?_map] at h1
  rcases hr : R[i]? with _ | ⟨a, c, l⟩
  · rw [hr] at h1; cases h1
  · rw [hr] at h1; simp at h1; subst h1; exact ⟨a, c, rfl⟩
section
variable {w0 w : World} {F : World → Prop}
theorem cycle_st (hK : Hid (St w0 w F)) (i o s : Int) (n : Nat) (h1 : 1 ≤ n) (h2 : n ≤ 1024) {ra fa : Option Addr} {rs : List RuleI} (rc fl fc : Nat) (hr : ∀ W, F W → RulesAt Lst ra rs W) (hrl : rs.length ≤ 4096) (hso : Hid (∀ r ∈ rs, StateOk n r.fr ∧ StateOk n r.dst)) (v : Bool) (hv : Hid (Kahn.cyc (epsE (rs.map RuleI.L)) n = v)) :
    Calls Try.prog 35 #[.agg #[.int .i64 i, .int .i64 o, .int .i64 n, .int .i64 s, .slice ra rs.length rc, .slice fa fl fc]] w (RetV w0 (.bool v) F) := by
  have HR := Lib.hid hr
  have HK := St.box hK [.int .i64 i, .int .i64 o, .int .i64 n, .int .i64 s, .slice ra rs.length rc, .slice fa fl fc] 26
  have hmk1 : ∀ w : World, (Instr.makeSlice 69 (.int .i64 (n : Int)) (.int .i64 (n : Int))).run Try.prog w = .ok (.slice (some ⟨w.heap.size, 0, none⟩) n n) (w.alloc (.cells (madeCells #[.slice none 0 0] n) 45)) := fun w => run_make_row' 69 45 (.slice none 0 0) 24 Try.underlying69 infoRowI rfl .i64 .i64 n (by omega) (by omega) w
  have hmk2 : ∀ w : World, (Instr.makeSlice 45 (.int .i64 (n : Int)) (.int .i64 (n : Int))).run Try.prog w = .ok (.slice (some ⟨w.heap.size, 0, none⟩) n n) (w.alloc (.cells (madeCells #[.int .i64 0] n) 3)) := fun w => run_make_row' 45 3 (.int .i64 0) 8 Try.underlying45 infoIy rfl .i64 .i64 n (by omega) (by omega) w
  obtain ⟨b0, hb0⟩ : ∃ z, w.heap.size = z := ⟨_, rfl⟩
  obtain ⟨w1, hw1⟩ : ∃ z, w.alloc (.cells [.int .i64 i, .int .i64 o, .int .i64 n, .int .i64 s, .slice ra rs.length rc, .slice fa fl fc].toArray 26) = z := ⟨_, rfl⟩
  have hs1 : w1.heap.size = b0 + 1 := by rw [← hw1]; simp [hb0]
  rw [hw1, hb0] at HK
  obtain ⟨q0, q1, q2, q3, q4, q5⟩ := HK.out.now.1.c6
  have HRW0 := Lib.hid (RwI.start w1 n (b0 + 3))
  obtain ⟨w2, hw2⟩ : ∃ z, w1.alloc (.cells (madeCells #[.slice none 0 0] n) 45) = z := ⟨_, rfl⟩
  have hs2 : w2.heap.size = b0 + 2 := by rw [← hw2]; simp; omega
  obtain ⟨w3, hw3⟩ : ∃ z, w2.alloc (.cells (madeCells #[.int .i64 0] n) 3) = z := ⟨_, rfl⟩
  have hs3 : w3.heap.size = b0 + 3 := by rw [← hw3]; simp; omega
  rw [hw2, hs1] at HRW0
  have HB13 : Hid (Below (b0 + 1) w1 w3) := Lib.hid (by rw [← hw3, ← hw2, ← hs1]; exact ((Below.refl _ _).alloc (Nat.le_refl _) _).alloc (by simp) _)
  have HRW3 : Hid (RwI (b0 + 1) (b0 + 3) (List.replicate n (none, 0, [])) w3) := Lib.hid (by rw [← hw3]; exact HRW0.out.below ((Below.refl _ _).alloc (Nat.le_refl _) _))
  have HIN3 : Hid (w3.heap[b0 + 2]? = some (.cells (inC n (Kahn.cnt [])).toArray 3 (0, 0))) := Lib.hid (by
    rw [← hw3, ← hs2, heap_alloc_new]
    congr 2
    apply Array.ext'
    rw [toList_madeCells_one]
    unfold inC Kahn.cnt
    simp [List.map_const'])
  have q2b : w2.cell? ⟨b0, 2, none⟩ = some (.int .i64 n) := by rw [← hw2]; exact cellAl _ q2
  have q2' := (HB13.out.cell (p := ⟨b0, 2, none⟩) (by show b0 < b0 + 1; omega)).trans q2
  have q4' := (HB13.out.cell (p := ⟨b0, 4, none⟩) (by show b0 < b0 + 1; omega)).trans (HK.out.now.1 4 _ rfl)
  have HS1 := Lib.hid hs1
  have HS3 := Lib.hid hs3
  have hib : b0 + 2 < b0 + 3 := by omega
  clear hr HRW0
  go_enter Try.func35, Try.ntmps35
  go_wp2_with fail
  (try rw [hs1]); (try rw [hs2]); (try rw [hw3])
  clear q0 q1 q2 q3 q4 q5 q2b q2' q4' hmk1 hmk2 hw1 hw2 hw3
  obtain ⟨j0, ji, jz0, jz1, jz2⟩ := info_parts infoIy
  go_loopw [23] (fun iv wr => ∃ (k : Nat) (R : List (Item Int)), k ≤ rs.length ∧ iv = .int .i64 k ∧ Hid (RwI (b0 + 1) (b0 + 3) R wr) ∧ Hid (R.map (·.2.2) = (List.range n).map (toF (epsE ((rs.take k).map RuleI.L)))) ∧
      Hid (wr.heap[b0 + 2]? = some (.cells (inC n (Kahn.cnt (epsE ((rs.take k).map RuleI.L)))).toArray 3 (0, 0))) ∧ Hid (w3.heap.size ≤ wr.heap.size ∧ Below (b0 + 1) w1 wr)) (fun iv _ => rs.length - (intOf iv).toNat)
  case atStart =>
    refine ⟨0, List.replicate n (none, 0, []), Nat.zero_le _, rfl, HRW3, Lib.hid ?_, HIN3, Lib.hid ⟨Nat.le_refl _, HB13.out⟩⟩
    rw [List.take_zero, List.map_nil, List.map_replicate]
    apply List.ext_getElem?
    intro j
    by_cases hj : j < n
    · simp [List.getElem?_replicate, hj, toF, epsE, Kahn.outs]
    · rw [List.getElem?_eq_none (by simp; omega), List.getElem?_eq_none (by simp; omega)]
  case round =>
  obtain ⟨k, R, hk, rfl, HRW, HRF, HIN, HFR⟩ := hrel
  have HKr := Lib.hid (HK.out.step (by rw [HS1.out]; exact HFR.out.2))
  have hbs := HFR.out.1
  rw [HS3.out] at hbs
  by_cases hlt : k < rs.length
  case pos =>
    obtain ⟨rb, off, r, rfl, hx, hw, hd0, hd1, hd2, hd3, hd4⟩ := (HR.out _ HKr.out.now.2).at_ hlt
    obtain ⟨⟨hf0, hf1⟩, ⟨ht0, ht1⟩⟩ := hso.out r (List.mem_of_getElem? hx)
    have HX := Lib.hid hx
    have hE : epsE ((rs.take (k + 1)).map RuleI.L) = epsE ((rs.take k).map RuleI.L) ++ if r.gs.length = 0 then [(r.fr.toNat, r.dst.toNat)] else [] := by
      rw [take_snoc? hx, List.map_append, List.map_cons, List.map_nil, epsE_snoc]
      congr 1
      have e : (r.L.gs = []) ↔ r.gs.length = 0 := by
        unfold RuleI.L bodies
        rw [List.map_eq_nil_iff, List.length_eq_zero_iff]
      by_cases h : r.gs.length = 0
      · rw [if_pos h, if_pos (e.2 h)]; rfl
      · rw [if_neg h, if_neg (fun q => h (e.1 q))]
    obtain ⟨fr, dst, ga, gc, gs, ea, oo⟩ := r
    simp only at hd0 hd1 hd2 hd3 hd4 hf0 hf1 ht0 ht1 hE
    obtain ⟨f, rfl⟩ := Int.eq_ofNat_of_zero_le hf0
    obtain ⟨t, rfl⟩ := Int.eq_ofNat_of_zero_le ht0
    simp only [Int.toNat_natCast] at hE
    have hBX := heap_alloc_new wr (.cells #[.int .i64 (f : Int), .int .i64 (t : Int), .slice ga gs.length gc, .int .i64 ea, .slice oo.a oo.l.length oo.c] 42)
    have HBX := Lib.hid hBX
    have hfn : f < n := by omega
    have htn : t < n := by omega
    clear hx hw hf0 ht0 hBX
    by_cases hg : gs.length = 0
    case neg =>
      rw [if_neg hg, List.append_nil] at hE
      have hg0 : ((gs.length : Int) == 0) = false := by rw [beq_eq_false_iff_ne]; omega
      have HRW2 := Lib.hid (HRW.out.below ((Below.refl wr.heap.size wr).alloc (Nat.le_refl _) (.cells #[.int .i64 (f : Int), .int .i64 (t : Int), .slice ga gs.length gc, .int .i64 ea, .slice oo.a oo.l.length oo.c] 42)))
      have HIN2 := Lib.hid ((Below.heap_alloc wr (.cells #[.int .i64 (f : Int), .int .i64 (t : Int), .slice ga gs.length gc, .int .i64 ea, .slice oo.a oo.l.length oo.c] 42) (b0 + 2) (by omega)).trans HIN.out)
      have HFR2 : Hid (w3.heap.size ≤ (wr.alloc (.cells #[.int .i64 (f : Int), .int .i64 (t : Int), .slice ga gs.length gc, .int .i64 ea, .slice oo.a oo.l.length oo.c] 42)).heap.size ∧ Below (b0 + 1) w1 (wr.alloc (.cells #[.int .i64 (f : Int), .int .i64 (t : Int), .slice ga gs.length gc, .int .i64 ea, .slice oo.a oo.l.length oo.c] 42))) := Lib.hid ⟨by have := HFR.out.1; simp; omega, HFR.out.2.alloc (by omega) _⟩
      have HE := Lib.hid hE
      clear hE hg
      go_wp2_with fail
      go_roundw
      case rel => exact ⟨k + 1, R, by omega, by go_num, HRW2, by rw [HE.out]; exact HRF, by rw [HE.out]; exact HIN2, HFR2⟩
      case measure => simp [intOf]; omega
    rw [if_pos hg] at hE
    have hg0 : ((gs.length : Int) == 0) = true := by simpa using hg
    have HE := Lib.hid hE
    obtain ⟨a, ca, hRq⟩ := rows_at HRF.out hfn
    obtain ⟨l, hl⟩ : ∃ z, toF (epsE ((rs.take k).map RuleI.L)) f = z := ⟨_, rfl⟩
    rw [hl] at hRq
    have hll : l.length ≤ 4096 := by
      rw [← hl]
      have h5 := toF_len (epsE ((rs.take k).map RuleI.L)) f
      have h6 := epsE_len ((rs.take k).map RuleI.L)
      rw [List.length_map, List.length_take] at h6
      omega
    obtain ⟨D, hD⟩ : ∃ z, Kahn.cnt (epsE ((rs.take k).map RuleI.L)) t = z := ⟨_, rfl⟩
    have hDl : D ≤ 4096 := by
      rw [← hD]
      unfold Kahn.cnt
      have h5 := List.countP_le_length (p := fun e : Kahn.Edge => e.2 == t) (l := epsE ((rs.take k).map RuleI.L))
      have h6 := epsE_len ((rs.take k).map RuleI.L)
      rw [List.length_map, List.length_take] at h6
      omega
    have HL := Lib.hid hl
    have HRQ := Lib.hid hRq
    have HDE := Lib.hid hD
    have HG := Lib.hid hg
    clear hE hl hRq hD hg
    go_wp2_with fail
    rw [HG.out] at HBX ⊢
    obtain ⟨wA, hwA⟩ : ∃ z, (wr.alloc (.cells #[.int .i64 (f : Int), .int .i64 (t : Int), .slice ga 0 gc, .int .i64 ea, .slice oo.a oo.l.length oo.c] 42)).drew = z := ⟨_, rfl⟩
    have hbA : Below wr.heap.size wr wA := by rw [← hwA]; exact ((Below.refl _ wr).alloc (Nat.le_refl _) _).drew
    have hAs : wA.heap.size = wr.heap.size + 1 := by rw [← hwA]; simp
    have hxA : wA.heap[wr.heap.size]? = some (.cells #[.int .i64 (f : Int), .int .i64 (t : Int), .slice ga 0 gc, .int .i64 ea, .slice oo.a oo.l.length oo.c] 42 (0, 0)) := by rw [← hwA]; exact HBX.out
    have hx01 : ∀ V : World, V.heap[wr.heap.size]? = wA.heap[wr.heap.size]? → V.cell? ⟨wr.heap.size, 0, none⟩ = some (.int .i64 (f : Int)) ∧ V.cell? ⟨wr.heap.size, 1, none⟩ = some (.int .i64 (t : Int)) := fun V h => by
      rw [hxA] at h
      simp [World.cell?, h]
    have HX01 := Lib.hid hx01
    have HRWA := Lib.hid (HRW.out.below hbA)
    have hrA := HRWA.out.cell HRQ.out
    have hA01 := hx01 wA rfl
    have HBA := Lib.hid hbA
    have HAS := Lib.hid hAs
    have hA3 : b0 + 3 ≤ wA.heap.size := by omega
    clear hx01 hAs
    refine wp_region_Z 13 (by kernel_rfl) (fun V' => (V'.cell? ⟨wr.heap.size, 0, none⟩ = some (.int .i64 (f : Int)) ∧ V'.cell? ⟨wr.heap.size, 1, none⟩ = some (.int .i64 (t : Int))) ∧ V'.cell? ⟨b0 + 1, f, none⟩ = some (.slice a l.length ca)) (by rw [hwA]; exact ⟨hA01, hrA.1⟩) (fun hHeld => ?_)
    refine wpAnyZ_take (i := 0) (v := ?_) rfl (by kernel_rfl) (by kernel_rfl) (by kernel_rfl) (by kernel_rfl) (fun _ _ _ h => h) (Or.inl ⟨by first | kernel_rfl | rfl, ?_⟩) (by assumption) ?_
    rotate_left
    · intro w hSw; (try dsimp only at hSw); go_simp; (try with_reducible rfl)
    (try simp only [Act.put, List.getElem_toArray, List.getElem_cons_succ, List.getElem_cons_zero, List.setIfInBounds_toArray, List.set_cons_zero, List.set_cons_succ])
    refine wpAnyZ_take (i := 1) (v := ?_) rfl (by kernel_rfl) (by kernel_rfl) (by kernel_rfl) (by kernel_rfl) (fun _ _ _ h => h) (Or.inl ⟨by first | kernel_rfl | rfl, ?_⟩) (by assumption) ?_
    rotate_left
    · intro w hSw; (try dsimp only at hSw); go_simp; (try with_reducible rfl)
    (try simp only [Act.put, List.getElem_toArray, List.getElem_cons_succ, List.getElem_cons_zero, List.setIfInBounds_toArray, List.set_cons_zero, List.set_cons_succ])
    refine wpAnyZ_take (i := 2) (v := ?_) rfl (by kernel_rfl) (by kernel_rfl) (by kernel_rfl) (by kernel_rfl) (fun _ _ _ h => h) (Or.inl ⟨by first | kernel_rfl | rfl, ?_⟩) (by assumption) ?_
    rotate_left
    · intro w hSw; (try dsimp only at hSw); go_simp; (try with_reducible rfl)
    (try simp only [Act.put, List.getElem_toArray, List.getElem_cons_succ, List.getElem_cons_zero, List.setIfInBounds_toArray, List.set_cons_zero, List.set_cons_succ])
    refine wpAnyZ_take (i := 3) (v := ?_) rfl (by kernel_rfl) (by kernel_rfl) (by kernel_rfl) (by kernel_rfl) (fun _ _ _ h => h) (Or.inl ⟨by first | kernel_rfl | rfl, ?_⟩) (by assumption) ?_
    rotate_left
    · intro w hSw; (try dsimp only at hSw); go_simp; (try with_reducible rfl)
    (try simp only [Act.put, List.getElem_toArray, List.getElem_cons_succ, List.getElem_cons_zero, List.setIfInBounds_toArray, List.set_cons_zero, List.set_cons_succ])
    refine wpAnyZ_take (i := 4) (v := ?_) rfl (by kernel_rfl) (by kernel_rfl) (by kernel_rfl) (by kernel_rfl) (fun _ _ _ h => h) (Or.inl ⟨by first | kernel_rfl | rfl, ?_⟩) (by assumption) ?_
    rotate_left
    · intro w hSw; (try dsimp only at hSw); go_simp; (try with_reducible rfl)
    (try simp only [Act.put, List.getElem_toArray, List.getElem_cons_succ, List.getElem_cons_zero, List.setIfInBounds_toArray, List.set_cons_zero, List.set_cons_succ])
    refine wpAnyZ_take (i := 5) (v := ?_) rfl (by kernel_rfl) (by kernel_rfl) (by kernel_rfl) (by kernel_rfl) (fun _ _ _ h => h) (Or.inl ⟨by first | kernel_rfl | rfl, ?_⟩) (by assumption) ?_
    rotate_left
    · intro w hSw; (try dsimp only at hSw); go_simp; (try with_reducible rfl)
    (try simp only [Act.put, List.getElem_toArray, List.getElem_cons_succ, List.getElem_cons_zero, List.setIfInBounds_toArray, List.set_cons_zero, List.set_cons_succ])
    refine wpAnyZ_take (i := 6) (v := ?_) rfl (by kernel_rfl) (by kernel_rfl) (by kernel_rfl) (by kernel_rfl) (fun _ _ _ h => h) (Or.inl ⟨by first | kernel_rfl | rfl, ?_⟩) (by assumption) ?_
    rotate_left
    · intro w hSw; (try dsimp only at hSw); go_simp; (try with_reducible rfl)
    (try simp only [Act.put, List.getElem_toArray, List.getElem_cons_succ, List.getElem_cons_zero, List.setIfInBounds_toArray, List.set_cons_zero, List.set_cons_succ])
    refine wpAnyZ_take (i := 7) (v := ?_) rfl (by kernel_rfl) (by kernel_rfl) (by kernel_rfl) (by kernel_rfl) (fun _ _ _ h => h) (Or.inl ⟨by first | kernel_rfl | rfl, ?_⟩) (by assumption) ?_
    rotate_left
    · intro w hSw; (try dsimp only at hSw); go_simp; (try with_reducible rfl)
    (try simp only [Act.put, List.getElem_toArray, List.getElem_cons_succ, List.getElem_cons_zero, List.setIfInBounds_toArray, List.set_cons_zero, List.set_cons_succ])
    refine wpAnyZ_take (i := 8) (v := ?_) rfl (by kernel_rfl) (by kernel_rfl) (by kernel_rfl) (by kernel_rfl) (fun _ _ _ h => h) (Or.inl ⟨by first | kernel_rfl | rfl, ?_⟩) (by assumption) ?_
    rotate_left
    · intro w hSw; (try dsimp only at hSw); go_simp; (try with_reducible rfl)
    (try simp only [Act.put, List.getElem_toArray, List.getElem_cons_succ, List.getElem_cons_zero, List.setIfInBounds_toArray, List.set_cons_zero, List.set_cons_succ])
    refine wpAnyZ_take (i := 9) (v := ?_) rfl (by kernel_rfl) (by kernel_rfl) (by kernel_rfl) (by kernel_rfl) (fun _ _ _ h => h) (Or.inl ⟨by first | kernel_rfl | rfl, ?_⟩) (by assumption) ?_
    rotate_left
    · intro w hSw; (try dsimp only at hSw); go_simp; (try with_reducible rfl)
    (try simp only [Act.put, List.getElem_toArray, List.getElem_cons_succ, List.getElem_cons_zero, List.setIfInBounds_toArray, List.set_cons_zero, List.set_cons_succ])
    rw [hwA]
    refine wpAnyZ_ready (i := 10) (by kernel_rfl) rfl (fun K hK => ?_)
    go_simp
    refine hK.out _ _ (⟨⟨cellAl _ hA01.1, cellAl _ hA01.2⟩, cellAl _ hrA.1⟩) (fun hHeld => ?_)
    clear hK K
    (try simp only [Act.put, List.getElem_toArray, List.getElem_cons_succ, List.getElem_cons_zero, List.setIfInBounds_toArray, List.set_cons_zero, List.set_cons_succ])
    have HOR : Hid (wA.ownsRow (b0 + 3) 3 1 (.slice a l.length ca) l.length (l.map (Value.int .i64))) := Lib.hid (HRWA.out.own f _ HRQ.out)
    have hl40 : l.length < 1099511627776 := by omega
    refine wpAnyZ_ready (i := 11) (by kernel_rfl) rfl (fun K hK => ?_)
    refine step_pushG rfl _ _ 45 rfl (b0 + 3) 3 j0 _ 1 8 Try.underlying45 ji jz0 jz1 jz2 rfl (by decide) HOR.out rfl [.int .i64 (t : Int)] 3 rfl rfl (by simp [Value.oneCell']) hl40 (by decide) hA3 ?_
    intro A9 c9 w9 HO9 HG9 HN9
    have hAs := HAS.out
    have hge : ∀ j, ownA a = some j → b0 + 3 ≤ j ∧ j < wr.heap.size := fun j hj => let t := own_ty (HRW.out.own f _ HRQ.out) hj; ⟨t.1, t.2.1⟩
    have hgo : ∀ j, j < wA.heap.size → ownA a ≠ some j → w9.heap[j]? = wA.heap[j]? := fun j hj hne => (HG9.out.block _ (by simp; omega) (fun e => hne e.symm)).trans (Below.heap_alloc _ _ _ hj)
    have h9r := hgo (b0 + 1) (by omega) (fun e => by have := (hge _ e).1; omega)
    have h9x := hgo wr.heap.size (by omega) (fun e => by have := (hge _ e).2; omega)
    have h9i := (hgo (b0 + 2) (by omega) (fun e => by have := (hge _ e).1; omega)).trans ((HBA.out.block _ (by omega)).trans HIN.out)
    have h9a := HX01.out w9 h9x
    have h9c : w9.cell? ⟨b0 + 1, f, none⟩ = some (.slice a l.length ca) := (World.cell?_of_block (w := wA) (a := ⟨b0 + 1, f, none⟩) h9r).trans hrA.1
    have h9f : w9.frozen? ⟨b0 + 1, f, none⟩ = false := by
      have h := h9r.trans HRWA.out.blk
      simp [World.frozen?, h]
    refine hK.out _ _ (⟨h9a, h9c⟩) (fun hHeld => ?_)
    clear hK K
    (try simp only [Act.put, List.getElem_toArray, List.getElem_cons_succ, List.getElem_cons_zero, List.setIfInBounds_toArray, List.set_cons_zero, List.set_cons_succ])
    refine wpAnyZ_take (i := 12) (v := ?_) rfl (by kernel_rfl) (by kernel_rfl) (by kernel_rfl) (by kernel_rfl) (fun _ _ _ h => h) (Or.inl ⟨by first | kernel_rfl | rfl, ?_⟩) (by assumption) ?_
    rotate_left
    · intro w hSw; (try dsimp only at hSw); go_simp; (try with_reducible rfl)
    (try simp only [Act.put, List.getElem_toArray, List.getElem_cons_succ, List.getElem_cons_zero, List.setIfInBounds_toArray, List.set_cons_zero, List.set_cons_succ])
    refine wpAnyZ_last (i := 13) rfl (by kernel_rfl) (by kernel_rfl) rfl (fun K hK => ?_)
    go_simp
    refine hK.out _ _ ?_
    have HRWN : Hid (RwI (b0 + 1) (b0 + 3) (R.set f (A9, c9, l ++ [(t : Int)])) (w9.setCell ⟨b0 + 1, f, none⟩ (.slice A9 (l.length + 1) c9))) := Lib.hid (HRWA.out.push (by omega) hA3 HRQ.out (by unfold I64; omega) HO9.out HG9.out HN9.out)
    have HRFN : Hid ((R.set f (A9, c9, l ++ [(t : Int)])).map (·.2.2) = (List.range n).map (toF (epsE ((rs.take (k + 1)).map RuleI.L)))) := Lib.hid (rows_set HRF.out _ hfn (by rw [HE.out, toF_snoc, if_pos rfl, HL.out]) fun j hj => by rw [HE.out, toF_snoc, if_neg hj])
    obtain ⟨wX, hwX⟩ : ∃ z, w9.setCell ⟨b0 + 1, f, none⟩ (.slice A9 (l.length + 1) c9) = z := ⟨_, rfl⟩
    rw [hwX] at HRWN
    have hst : ∀ j, j ≠ b0 + 1 → wX.heap[j]? = w9.heap[j]? := fun j hj => by rw [← hwX]; exact heap_setCell_other _ _ _ _ hj
    have hsX : wX.heap.size = w9.heap.size := by rw [← hwX]; simp
    have hs9 := HG9.out.size
    simp at hs9
    have hxX := (HX01.out wX ((hst _ (by omega)).trans h9x)).2
    have hiX := (hst (b0 + 2) (by omega)).trans h9i
    have hiC : wX.cell? ⟨b0 + 2, t, none⟩ = some (.int .i64 (D : Int)) := by
      have h := inC_at (Kahn.cnt (epsE ((rs.take k).map RuleI.L))) htn
      rw [HDE.out] at h
      simp only [World.cell?, hiX]
      rw [List.getElem?_toArray]; exact h
    have hiF : wX.frozen? ⟨b0 + 2, t, none⟩ = false := by simp [World.frozen?, hiX]
    have HFRX : Hid (w3.heap.size ≤ wX.heap.size ∧ Below (b0 + 1) w1 wX) := Lib.hid ⟨by rw [HS3.out]; omega, by
      have h5 := ((HFR.out.2.trans (HBA.out.mono (by omega))).alloc (by omega) (.cells [.int .i64 (t : Int)].toArray 3)).grown HG9.out (by simp; omega) (fun j hj => by have := (hge j hj).1; omega)
      rw [← hwX]; exact h5.setCell (p := ⟨b0 + 1, f, none⟩) (Nat.le_refl _) _⟩
    have HIX := Lib.hid hiX
    have HSX : Hid (b0 + 3 ≤ wX.heap.size) := Lib.hid (by omega)
    have htn1 : (t : Int) < (n : Int) := by omega
    have hD1 : (D : Int) ≤ 4096 := by omega
    rw [hwX]
    clear hHeld hK K h9a h9c h9f h9x h9r h9i hgo hge hwX hst hsX hs9 hiX hA01 hrA hbA hAs hxA hwA HO9 HG9 HN9
    (try simp only [Act.put, List.getElem_toArray, List.getElem_cons_succ, List.getElem_cons_zero, List.setIfInBounds_toArray, List.set_cons_zero, List.set_cons_succ])
    have HRWZ : Hid (RwI (b0 + 1) (b0 + 3) (R.set f (A9, c9, l ++ [(t : Int)])) (wX.setCell ⟨b0 + 2, t, none⟩ (.int .i64 ((D : Int) + 1)))) := Lib.hid (HRWN.out.keep (heap_setCell_other _ _ _ _ (by show b0 + 1 ≠ b0 + 2; omega)) fun j h1 _ _ => heap_setCell_other _ _ _ _ (by show j ≠ b0 + 2; omega))
    have HINZ : Hid ((wX.setCell ⟨b0 + 2, t, none⟩ (.int .i64 ((D : Int) + 1))).heap[b0 + 2]? = some (.cells (inC n (Kahn.cnt (epsE ((rs.take (k + 1)).map RuleI.L)))).toArray 3 (0, 0))) := Lib.hid (by
      rw [heap_setCell_same wX (b0 + 2) t _ _ _ HIX.out, show ((D : Int) + 1) = ((D + 1 : Nat) : Int) by omega, inC_arr]
      congr 2
      refine congrArg List.toArray (inC_congr fun j hj => ?_)
      rw [HE.out, cnt_snoc, HDE.out])
    have HFRZ : Hid (w3.heap.size ≤ (wX.setCell ⟨b0 + 2, t, none⟩ (.int .i64 ((D : Int) + 1))).heap.size ∧ Below (b0 + 1) w1 (wX.setCell ⟨b0 + 2, t, none⟩ (.int .i64 ((D : Int) + 1)))) := Lib.hid ⟨by simpa using HFRX.out.1, HFRX.out.2.setCell (by show b0 + 1 ≤ b0 + 2; omega) _⟩
    have HLT := Lib.hid hlt
    clear hlt
    go_wp2_with fail
    go_roundw
    case rel => exact ⟨k + 1, R.set f (A9, c9, l ++ [(t : Int)]), by have := HLT.out; omega, by go_num, HRWZ, HRFN, HINZ, HFRZ⟩
    case measure => have := HLT.out; simp [intOf]; omega
  obtain rfl : k = rs.length := by omega
  have hd : decide (rs.length < rs.length) = false := by simp
  rw [List.take_length] at HRF HIN
  obtain ⟨E, hE⟩ : ∃ z, epsE (rs.map RuleI.L) = z := ⟨_, rfl⟩
  rw [hE] at HRF HIN
  have HVE : Hid (Kahn.cyc E n = v) := Lib.hid (by rw [← hE]; exact hv.out)
  have HEE : Hid (∀ e ∈ E, e.1 < n ∧ e.2 < n) := Lib.hid fun e he => by
    rw [← hE] at he
    unfold epsE at he
    obtain ⟨r, hr, rfl⟩ := List.mem_map.1 he
    obtain ⟨r', hr', rfl⟩ := List.mem_map.1 (List.mem_filter.1 hr).1
    obtain ⟨⟨g1, g2⟩, ⟨g3, g4⟩⟩ := hso.out r' hr'
    simp only [RuleI.L]
    omega
  have hEl : E.length ≤ 4096 := by
    rw [← hE]
    have h6 := epsE_len (rs.map RuleI.L)
    rw [List.length_map] at h6
    omega
  have HDB : Hid (∀ t, Kahn.cnt E t ≤ 4096) := Lib.hid fun t => by
    unfold Kahn.cnt
    exact Nat.le_trans List.countP_le_length hEl
  clear hE hlt
  go_wp2_with fail
  clear hd
  obtain ⟨w4, hw4⟩ : ∃ z, z = wr := ⟨_, rfl⟩
  subst hw4
  go_loopw [7, 54] (fun tv iv wr => ∃ (k : Nat) (A : Option Addr) (c : Nat), k ≤ n ∧ iv = .int .i64 k ∧ tv = .slice A ((List.range k).filter fun t => Kahn.cnt E t == 0).length c ∧ Hid (wr.ownsRow w4.heap.size 3 1 (.slice A ((List.range k).filter fun t => Kahn.cnt E t == 0).length c) ((List.range k).filter fun t => Kahn.cnt E t == 0).length (natC ((List.range k).filter fun t => Kahn.cnt E t == 0))) ∧ Hid (Below w4.heap.size w4 wr)) (fun _ iv _ => n - (intOf iv).toNat)
  case atStart => exact ⟨0, none, 0, Nat.zero_le _, rfl, rfl, Lib.hid (World.ownsRow_nil _ _ _ _), Lib.hid (Below.refl _ _)⟩
  case round =>
  obtain ⟨k, A, c, hk2, rfl, rfl, HO, HBL⟩ := hrel
  by_cases hlt : k < n
  · have hc0 : wr.cell? ⟨b0 + 2, k, none⟩ = some (.int .i64 (Kahn.cnt E k : Int)) := by
      have h := (HBL.out.block (b0 + 2) (by omega)).trans HIN.out
      simp only [World.cell?, h]
      rw [List.getElem?_toArray]; exact inC_at _ hlt
    have hs3 := HBL.out.size
    have hkn : (k : Int) < (n : Int) := by omega
    have HLT := Lib.hid hlt
    have hrange : (List.range (k + 1)).filter (fun t => Kahn.cnt E t == 0) = (List.range k).filter (fun t => Kahn.cnt E t == 0) ++ if Kahn.cnt E k = 0 then [k] else [] := by
      rw [List.range_succ, List.filter_append]
      congr 1
      by_cases h : Kahn.cnt E k = 0
      · rw [if_pos h, List.filter_cons_of_pos (by simpa using h)]; rfl
      · rw [if_neg h, List.filter_cons_of_neg (by simpa using h)]; rfl
    have hfl : ((List.range k).filter fun t => Kahn.cnt E t == 0).length ≤ k := by
      have := List.length_filter_le (fun t => Kahn.cnt E t == 0) (List.range k)
      rwa [List.length_range] at this
    obtain ⟨D, hD⟩ : ∃ z, Kahn.cnt E k = z := ⟨_, rfl⟩
    have hD4 := HDB.out k
    rw [hD] at hc0 hrange hD4
    obtain ⟨Q, hQ⟩ : ∃ z, (List.range k).filter (fun t => Kahn.cnt E t == 0) = z := ⟨_, rfl⟩
    rw [hQ] at HO hrange hfl
    rw [hQ]
    have HRG := Lib.hid hrange
    clear hlt hrange hQ hD
    by_cases h0 : D = 0
    · subst h0
      have hl40 : Q.length < 1099511627776 := by omega
      go_wp2_with (at_builtin; go_must (refine wpList_pushG rfl _ _ 45 rfl w4.heap.size 3 j0 _ 1 8 Try.underlying45 ji jz0 jz1 jz2 rfl (by decide) HO.out rfl [.int .i64 (k : Int)] 3 rfl rfl (by simp [Value.oneCell']) hl40 (by decide) hs3 ?_); intro A9 c9 w9 HO9 HG9 HN9)
      have HBN : Hid (Below w4.heap.size w4 w9) := Lib.hid ((HBL.out.alloc hs3 _).grown HG9.out (by simp; omega) fun g hg => (HO.out.lt g (by rw [own_ownA]; exact hg)).1)
      have e : Q.length + 1 = ((List.range (k + 1)).filter fun t => Kahn.cnt E t == 0).length := by rw [HRG.out]; simp
      rw [e]
      go_roundw
      case rel => exact ⟨k + 1, A9, c9, by have := HLT.out; omega, by go_num, rfl, Lib.hid (by rw [HRG.out, if_pos rfl, natC_snoc, List.length_append]; exact HO9.out), HBN⟩
      case measure => have := HLT.out; simp [intOf]; omega
    · have hne : ((D : Int) == 0) = false := by rw [beq_eq_false_iff_ne]; omega
      have HE2 : Hid ((List.range (k + 1)).filter (fun t => Kahn.cnt E t == 0) = Q) := Lib.hid (by rw [HRG.out, if_neg h0, List.append_nil])
      clear h0
      go_wp2_with fail
      go_roundw
      case rel => exact ⟨k + 1, A, c, by have := HLT.out; omega, by go_num, by rw [HE2.out], by rw [HE2.out]; exact HO, HBL⟩
      case measure => have := HLT.out; simp [intOf]; omega
  obtain rfl : k = n := by omega
  have hd : decide (k < k) = false := by simp
  have HQ0 := Lib.hid (QOwn.of_own HO.out)
  have HIN4 : Hid (wr.heap[b0 + 2]? = some (.cells (inC k (Kahn.cnt E)).toArray 3 (0, 0))) := Lib.hid ((HBL.out.block (b0 + 2) (by omega)).trans HIN.out)
  have HF0 : Hid ((∀ j, j < w4.heap.size → j ≠ b0 + 2 → wr.heap[j]? = w4.heap[j]?) ∧ w4.heap.size ≤ wr.heap.size ∧ Below (b0 + 1) w1 wr) := Lib.hid ⟨fun j hj _ => HBL.out.block j hj, HBL.out.size, HFR.out.2.trans (HBL.out.mono (by omega))⟩
  obtain ⟨W0, hW0⟩ : ∃ z, (List.range k).filter (fun t => Kahn.cnt E t == 0) = z := ⟨_, rfl⟩
  have HKI0 : Hid (Kahn.KI E k W0 [] (Kahn.cnt E)) := Lib.hid (by rw [← hW0]; exact Kahn.KI.start)
  rw [hW0] at HQ0
  rw [hW0]
  have HR4 := HRW
  clear HO hW0 hlt HIN
  go_wp2_with fail
  clear hd
  go_loopw [7, 10] (fun tv dv wr => ∃ (d m : Nat) (A : Option Addr) (c : Nat) (Q : List Nat) (X : List Kahn.Edge) (D : Nat → Nat), Hid (Q.length = d + m) ∧ d ≤ k ∧ tv = .slice A m c ∧ dv = .int .i64 d ∧ Hid (QOwn wr w4.heap.size 3 A m c (natC (Q.drop d))) ∧ Hid (Kahn.KI E k Q X D) ∧ Hid (Kahn.Gone E Q d X) ∧
      Hid (wr.heap[b0 + 2]? = some (.cells (inC k D).toArray 3 (0, 0))) ∧ Hid ((∀ j, j < w4.heap.size → j ≠ b0 + 2 → wr.heap[j]? = w4.heap[j]?) ∧ w4.heap.size ≤ wr.heap.size ∧ Below (b0 + 1) w1 wr)) (fun _ dv _ => k - (intOf dv).toNat)
  case atStart =>
    exact ⟨0, W0.length, A, c, W0, [], Kahn.cnt E, Lib.hid (by omega), Nat.zero_le _, rfl, rfl, by rw [List.drop_zero]; exact HQ0, HKI0, Lib.hid (Kahn.Gone.start E W0), HIN4, HF0⟩
  case round =>
  clear HQ0 HKI0 HIN4 HF0
  obtain ⟨d, m, A, c, Q, X, D, HQL, hdk, rfl, rfl, HQ, HKI, HGO, HIN, HF⟩ := hrel
  rcases m with _ | m
  · have HQE : Hid (Q.length = d) := Lib.hid (by have := HQL.out; omega)
    have HFIN := Lib.hid (HKI.out.fin HEE.out (by rw [HQE.out]; exact HGO.out))
    have hfin : decide (d < k) = v := by rw [← HQE.out, HFIN.out]; exact HVE.out
    have HFI := Lib.hid hfin
    have HKr := Lib.hid (HK.out.step (by rw [HS1.out]; exact HF.out.2.2))
    have q2 := HKr.out.now.1 2 _ rfl
    have hd0 : decide (0 < 0) = false := by simp
    clear hfin
    go_wp2_with fail
    go_ret
    exact ⟨congrArg (fun b => Ending.returned (.bool b)) HFI.out, Lib.hid ⟨fun W hW => (HKr.out.1 W hW).2, HKr.out.2⟩⟩
  · have hdl : d < Q.length := by have := HQL.out; omega
    obtain ⟨s, hs⟩ : ∃ s, Q[d]? = some s := ⟨_, List.getElem?_eq_getElem hdl⟩
    have hsk := HKI.out.lt s (List.mem_of_getElem? hs)
    have hdk2 : d < k := by have := Kahn.few HKI.out.nod HKI.out.lt; omega
    have hdrop : natC (Q.drop d) = .int .i64 (s : Int) :: natC (Q.drop (d + 1)) := by
      rw [List.drop_eq_getElem_cons hdl, List.getElem?_eq_getElem hdl] at *
      injection hs with hs
      rw [hs]; rfl
    obtain ⟨g, p, rfl⟩ := HQ.out.some_ (by omega)
    rw [hdrop] at HQ
    have hq0 := HQ.out.cell (j := 0) (by omega)
    simp only [Nat.add_zero, List.getElem?_cons_zero] at hq0
    have hrow : ∃ a ca, wr.cell? ⟨b0 + 1, s, none⟩ = some (.slice a (toF E s).length ca) ∧ ∀ V, (∀ j, j < w4.heap.size → j ≠ b0 + 2 → V.heap[j]? = w4.heap[j]?) → IntsAt a (toF E s) V := by
      obtain ⟨a, ca, hR⟩ := rows_at HRF.out hsk
      refine ⟨a, ca, ?_, fun V hV => ?_⟩
      · have h := (HR4.out.cell hR).1
        rw [← h]
        exact World.cell?_of_block (w := w4) (a := ⟨b0 + 1, s, none⟩) (HF.out.1 _ (by show b0 + 1 < _; omega) (by show b0 + 1 ≠ _; omega))
      · have h := HR4.out.own s _ hR
        have h2 : V.ownsRow (b0 + 3) 3 1 (.slice a (toF E s).length ca) (toF E s).length ((toF E s).map (Value.int .i64)) := own_keep h fun j hj => hV j (own_ty h hj).2.1 (by have := (own_ty h hj).1; omega)
        refine ⟨?_, HR4.out.rng _ (List.mem_of_getElem? hR), by have := toF_len E s; omega⟩
        have h3 := Sl.of_own h2
        rwa [List.map_eq_flatMap] at h3
    obtain ⟨a, ca, hca, hIA⟩ := hrow
    have hcap := HQ.out.cap
    have hs1 : (s : Int) < (k : Int) := by omega
    have HHS := Lib.hid hs
    have HIA := Lib.hid hIA
    have HCAP := Lib.hid hcap
    have hm1 : 1 ≤ m + 1 := by omega
    have hc1 : 1 ≤ c := by omega
    have hmp : decide (0 < m + 1) = true := by simp
    clear hs hdrop hIA hdl
    by_cases hc : c = 1
    · subst hc
      obtain rfl : m = 0 := by omega
      have HQ1 : Hid (∀ q, (q = p ∨ q = p + 1) → QOwn wr w4.heap.size 3 (some ⟨g, q, none⟩) 0 0 (natC (Q.drop (d + 1)))) := Lib.hid fun q hq => HQ.out.tail0 q hq
      go_wp2_with fail
      clear hq0 hca
      go_loopw [7, 81] (fun tv iv wr => ∃ (j m' : Nat) (A : Option Addr) (c : Nat) (V : List Nat) (D : Nat → Nat), Hid ((Q ++ V).length = d + 1 + m') ∧ j ≤ (toF E s).length ∧ tv = .slice A m' c ∧ iv = .int .i64 j ∧ Hid (QOwn wr w4.heap.size 3 A m' c (natC ((Q ++ V).drop (d + 1)))) ∧ Hid (Kahn.KI E k (Q ++ V) (X ++ (Kahn.outs E s).take j) D) ∧
          Hid (wr.heap[b0 + 2]? = some (.cells (inC k D).toArray 3 (0, 0))) ∧ Hid ((∀ j, j < w4.heap.size → j ≠ b0 + 2 → wr.heap[j]? = w4.heap[j]?) ∧ w4.heap.size ≤ wr.heap.size ∧ Below (b0 + 1) w1 wr)) (fun _ iv _ => (toF E s).length - (intOf iv).toNat)
      case atStart => exact ⟨0, 0, (some ⟨g, _, none⟩), 0, [], D, Lib.hid (by have := HQL.out; simp; omega), Nat.zero_le _, rfl, rfl, by rw [List.append_nil]; exact (Lib.hid (HQ1.out _ (by omega))), by rw [List.append_nil, List.take_zero, List.append_nil]; exact HKI, HIN, HF⟩
      case round =>
      obtain ⟨j, m', A', c', V, D', HVL, hj, rfl, rfl, HQV, HKV, HIN', HF'⟩ := hrel
      have htl4 : (toF E s).length ≤ 4096 := Nat.le_trans (toF_len E s) hEl
      by_cases hlt : j < (toF E s).length
      · obtain ⟨ab, ao, x, rfl, hx, _, hxc⟩ := (HIA.out wr HF'.out.1).at_ hlt
        obtain ⟨e, hoe, rfl⟩ : ∃ e, (Kahn.outs E s)[j]? = some e ∧ x = (e.2 : Int) := by
          unfold toF at hx
          rw [List.getElem?_map] at hx
          rcases ho : (Kahn.outs E s)[j]? with _ | e
          · rw [ho] at hx; cases hx
          · rw [ho] at hx; simp at hx; exact ⟨e, rfl, hx.symm⟩
        have hem := List.mem_filter.1 (List.mem_of_getElem? hoe)
        have hes : e.1 = s := by simpa using hem.2
        have hek := HEE.out e hem.1
        have hedge := HKV.out.edge (e := e) hek.2 (by rw [hes]; exact List.mem_append_left _ (List.mem_of_getElem? HHS.out)) (by
          rw [List.append_assoc X, ← take_snoc? hoe]
          exact HGO.out.le HKI.out.nod HHS.out (List.take_prefix _ _))
        have hsum := HKV.out.sum e.2 hek.2
        have hdb := HDB.out e.2
        obtain ⟨hd1, hedge⟩ := hedge
        rw [List.append_assoc X, ← take_snoc? hoe] at hedge
        obtain ⟨tt, htt⟩ : ∃ z, e.2 = z := ⟨_, rfl⟩
        rw [htt] at hedge hsum hdb hd1 hxc hek
        obtain ⟨z, hz⟩ : ∃ z, D' tt = z + 1 := ⟨D' tt - 1, by omega⟩
        rw [hz] at hedge hsum
        rw [Nat.add_sub_cancel] at hedge
        have hcz : wr.cell? ⟨b0 + 2, tt, none⟩ = some (.int .i64 ((z : Int) + 1)) := by
          have h := inC_at D' hek.2
          rw [hz] at h
          simp only [World.cell?, HIN'.out]
          rw [List.getElem?_toArray]; exact h
        have hfz : wr.frozen? ⟨b0 + 2, tt, none⟩ = false := by
          have h := HIN'.out
          simp [World.frozen?, h]
        have hcs : (wr.setCell ⟨b0 + 2, tt, none⟩ (.int .i64 (z : Int))).cell? ⟨b0 + 2, tt, none⟩ = some (.int .i64 (z : Int)) := World.cell?_setCell_same _ _ _ hcz
        have HNI : Hid ((wr.setCell ⟨b0 + 2, tt, none⟩ (.int .i64 (z : Int))).heap[b0 + 2]? = some (.cells (inC k (Kahn.upd D' tt z)).toArray 3 (0, 0))) := Lib.hid (by
          rw [heap_setCell_same wr (b0 + 2) tt _ _ _ HIN'.out, inC_arr])
        have HST : Hid (∀ i, i ≠ b0 + 2 → (wr.setCell ⟨b0 + 2, tt, none⟩ (.int .i64 (z : Int))).heap[i]? = wr.heap[i]?) := Lib.hid fun i hi => heap_setCell_other _ _ _ _ hi
        have HSZ : Hid ((wr.setCell ⟨b0 + 2, tt, none⟩ (.int .i64 (z : Int))).heap.size = wr.heap.size) := Lib.hid (by simp)
        have HQS : Hid (QOwn (wr.setCell ⟨b0 + 2, tt, none⟩ (.int .i64 (z : Int))) w4.heap.size 3 A' m' c' (natC ((Q ++ V).drop (d + 1)))) := Lib.hid (HQV.out.keep fun i hi => HST.out i (by have := (HQV.out.ty hi).1; omega))
        have HFS : Hid ((∀ j, j < w4.heap.size → j ≠ b0 + 2 → (wr.setCell ⟨b0 + 2, tt, none⟩ (.int .i64 (z : Int))).heap[j]? = w4.heap[j]?) ∧ w4.heap.size ≤ (wr.setCell ⟨b0 + 2, tt, none⟩ (.int .i64 (z : Int))).heap.size ∧ Below (b0 + 1) w1 (wr.setCell ⟨b0 + 2, tt, none⟩ (.int .i64 (z : Int)))) := Lib.hid ⟨fun i h1 h2 => (HST.out i h2).trans (HF'.out.1 i h1 h2), by rw [HSZ.out]; exact HF'.out.2.1, HF'.out.2.2.setCell (by show b0 + 1 ≤ b0 + 2; omega) _⟩
        have htk : (tt : Int) < (k : Int) := by have := hek.2; omega
        have hz4 : (z : Int) ≤ 4096 := by omega
        have hji : (j : Int) < ((toF E s).length : Int) := by omega
        have HED := Lib.hid hedge
        have HLT := Lib.hid hlt
        have hml : m' ≤ 1024 := by
          have h3 := Kahn.few HKV.out.nod HKV.out.lt
          have h4 := HVL.out
          omega
        clear hoe hem hes hek hedge hsum hdb hd1 htt hz hlt hx
        by_cases h0 : z = 0
        · subst h0
          have hS4 : w4.heap.size ≤ (wr.setCell ⟨b0 + 2, tt, none⟩ (.int .i64 ((0 : Nat) : Int))).heap.size := HFS.out.2.1
          have hl40 : m' < 1099511627776 := by omega
          go_wp2_with (at_builtin; go_must (refine wpList_pushQ rfl _ _ 45 rfl w4.heap.size 3 j0 _ 8 Try.underlying45 ji jz0 jz1 jz2 rfl HQS.out rfl (.int .i64 (tt : Int)) 3 (by first | rfl | (simp; rfl) | simp) rfl hl40 (by decide) hS4 ?_); intro A9 c9 w9 HO9 HG9 HN9)
          have hge : ∀ i, ownA A' = some i → w4.heap.size ≤ i := fun i hi => (HQS.out.ty hi).1
          have hgo : ∀ i, i < (wr.setCell ⟨b0 + 2, tt, none⟩ (.int .i64 ((0 : Nat) : Int))).heap.size → ownA A' ≠ some i → w9.heap[i]? = (wr.setCell ⟨b0 + 2, tt, none⟩ (.int .i64 ((0 : Nat) : Int))).heap[i]? := fun i hi hne => (HG9.out.block _ (by simp at hi ⊢; omega) (fun e => hne e.symm)).trans (Below.heap_alloc _ _ _ hi)
          have hs9 := HG9.out.size
          simp at hs9
          have hsz := HSZ.out
          have hf2 := HF'.out.2.1
          have HFN : Hid ((∀ j, j < w4.heap.size → j ≠ b0 + 2 → w9.heap[j]? = w4.heap[j]?) ∧ w4.heap.size ≤ w9.heap.size ∧ Below (b0 + 1) w1 w9) := Lib.hid ⟨fun i h1 h2 => (hgo i (by omega) (fun e => by have := hge i e; omega)).trans (HFS.out.1 i h1 h2), by omega, (HFS.out.2.2.alloc (by omega) _).grown HG9.out (by simp; omega) (fun i hi => by have := hge i hi; omega)⟩
          have HNI9 := Lib.hid ((hgo (b0 + 2) (by omega) (fun e => by have := hge _ e; omega)).trans HNI.out)
          have HKN : Hid (Kahn.KI E k (Q ++ (V ++ [tt])) (X ++ (Kahn.outs E s).take (j + 1)) (Kahn.upd D' tt 0)) := Lib.hid (by
            have h := HED.out
            first | rw [if_pos trivial, List.append_assoc] at h | rw [if_pos rfl, List.append_assoc] at h
            exact h)
          have HVN : Hid ((Q ++ (V ++ [tt])).length = d + 1 + (m' + 1)) := Lib.hid (by have h := HVL.out; simp at h ⊢; omega)
          have HQN : Hid (QOwn w9 w4.heap.size 3 A9 (m' + 1) c9 (natC ((Q ++ (V ++ [tt])).drop (d + 1)))) := Lib.hid (by
            rw [← List.append_assoc, List.drop_append_of_le_length (by have h := HVL.out; omega), natC_snoc]; exact HO9.out)
          first
          | (go_roundw
             case rel => exact ⟨j + 1, m' + 1, A9, c9, V ++ [tt], Kahn.upd D' tt 0, HVN, by have := HLT.out; omega, rfl, by go_num, HQN, HKN, HNI9, HFN⟩
             case measure => have := HLT.out; simp [intOf]; omega)
          | (refine ⟨⟨_, _, _, ⟨j + 1, m' + 1, A9, c9, V ++ [tt], Lib.hid (by have h := HVN.out; simpa using h), by have := HLT.out; omega, rfl, rfl, HQN, _, HKN, HNI9, HFN⟩, rfl, rfl, by go_num⟩, ?_⟩
             have := HLT.out; simp [intOf]; omega)
        · have hne : ((z : Int) == 0) = false := by rw [beq_eq_false_iff_ne]; omega
          have HKN : Hid (Kahn.KI E k (Q ++ V) (X ++ (Kahn.outs E s).take (j + 1)) (Kahn.upd D' tt z)) := Lib.hid (by
            have h := HED.out
            rw [if_neg h0] at h
            exact h)
          clear h0
          go_wp2_with fail
          go_roundw
          case rel => exact ⟨j + 1, m', A', c', V, Kahn.upd D' tt z, HVL, by have := HLT.out; omega, rfl, by go_num, HQS, HKN, HNI, HFS⟩
          case measure => have := HLT.out; simp [intOf]; omega
      · obtain rfl : j = (toF E s).length := by omega
        have hd9 : decide ((toF E s).length < (toF E s).length) = false := by simp
        have htl : (Kahn.outs E s).take (toF E s).length = Kahn.outs E s := List.take_of_length_le (by unfold toF; rw [List.length_map]; exact Nat.le_refl _)
        rw [htl] at HKV
        have HGN := Lib.hid (HGO.out.next HKI.out.nod HHS.out V)
        clear hlt htl
        go_wp2_with fail
        go_roundw
        case rel => exact ⟨d + 1, m', A', c', Q ++ V, X ++ Kahn.outs E s, D', HVL, by omega, rfl, by go_num, HQV, HKV, HGN, HIN', HF'⟩
        case measure => simp [intOf]; omega
    · have HQ1 := Lib.hid HQ.out.tail
      go_wp2_with fail
      clear hq0 hca
      go_loopw [7, 81] (fun tv iv wr => ∃ (j m' : Nat) (A : Option Addr) (c : Nat) (V : List Nat) (D : Nat → Nat), Hid ((Q ++ V).length = d + 1 + m') ∧ j ≤ (toF E s).length ∧ tv = .slice A m' c ∧ iv = .int .i64 j ∧ Hid (QOwn wr w4.heap.size 3 A m' c (natC ((Q ++ V).drop (d + 1)))) ∧ Hid (Kahn.KI E k (Q ++ V) (X ++ (Kahn.outs E s).take j) D) ∧
          Hid (wr.heap[b0 + 2]? = some (.cells (inC k D).toArray 3 (0, 0))) ∧ Hid ((∀ j, j < w4.heap.size → j ≠ b0 + 2 → wr.heap[j]? = w4.heap[j]?) ∧ w4.heap.size ≤ wr.heap.size ∧ Below (b0 + 1) w1 wr)) (fun _ iv _ => (toF E s).length - (intOf iv).toNat)
      case atStart => exact ⟨0, m, (some ⟨g, p + 1, none⟩), (c - 1), [], D, Lib.hid (by have := HQL.out; simp; omega), Nat.zero_le _, rfl, rfl, by rw [List.append_nil]; exact HQ1, by rw [List.append_nil, List.take_zero, List.append_nil]; exact HKI, HIN, HF⟩
      case round =>
      obtain ⟨j, m', A', c', V, D', HVL, hj, rfl, rfl, HQV, HKV, HIN', HF'⟩ := hrel
      have htl4 : (toF E s).length ≤ 4096 := Nat.le_trans (toF_len E s) hEl
      by_cases hlt : j < (toF E s).length
      · obtain ⟨ab, ao, x, rfl, hx, _, hxc⟩ := (HIA.out wr HF'.out.1).at_ hlt
        obtain ⟨e, hoe, rfl⟩ : ∃ e, (Kahn.outs E s)[j]? = some e ∧ x = (e.2 : Int) := by
          unfold toF at hx
          rw [List.getElem?_map] at hx
          rcases ho : (Kahn.outs E s)[j]? with _ | e
          · rw [ho] at hx; cases hx
          · rw [ho] at hx; simp at hx; exact ⟨e, rfl, hx.symm⟩
        have hem := List.mem_filter.1 (List.mem_of_getElem? hoe)
        have hes : e.1 = s := by simpa using hem.2
        have hek := HEE.out e hem.1
        have hedge := HKV.out.edge (e := e) hek.2 (by rw [hes]; exact List.mem_append_left _ (List.mem_of_getElem? HHS.out)) (by
          rw [List.append_assoc X, ← take_snoc? hoe]
          exact HGO.out.le HKI.out.nod HHS.out (List.take_prefix _ _))
        have hsum := HKV.out.sum e.2 hek.2
        have hdb := HDB.out e.2
        obtain ⟨hd1, hedge⟩ := hedge
        rw [List.append_assoc X, ← take_snoc? hoe] at hedge
        obtain ⟨tt, htt⟩ : ∃ z, e.2 = z := ⟨_, rfl⟩
        rw [htt] at hedge hsum hdb hd1 hxc hek
        obtain ⟨z, hz⟩ : ∃ z, D' tt = z + 1 := ⟨D' tt - 1, by omega⟩
        rw [hz] at hedge hsum
        rw [Nat.add_sub_cancel] at hedge
        have hcz : wr.cell? ⟨b0 + 2, tt, none⟩ = some (.int .i64 ((z : Int) + 1)) := by
          have h := inC_at D' hek.2
          rw [hz] at h
          simp only [World.cell?, HIN'.out]
          rw [List.getElem?_toArray]; exact h
        have hfz : wr.frozen? ⟨b0 + 2, tt, none⟩ = false := by
          have h := HIN'.out
          simp [World.frozen?, h]
        have hcs : (wr.setCell ⟨b0 + 2, tt, none⟩ (.int .i64 (z : Int))).cell? ⟨b0 + 2, tt, none⟩ = some (.int .i64 (z : Int)) := World.cell?_setCell_same _ _ _ hcz
        have HNI : Hid ((wr.setCell ⟨b0 + 2, tt, none⟩ (.int .i64 (z : Int))).heap[b0 + 2]? = some (.cells (inC k (Kahn.upd D' tt z)).toArray 3 (0, 0))) := Lib.hid (by
          rw [heap_setCell_same wr (b0 + 2) tt _ _ _ HIN'.out, inC_arr])
        have HST : Hid (∀ i, i ≠ b0 + 2 → (wr.setCell ⟨b0 + 2, tt, none⟩ (.int .i64 (z : Int))).heap[i]? = wr.heap[i]?) := Lib.hid fun i hi => heap_setCell_other _ _ _ _ hi
        have HSZ : Hid ((wr.setCell ⟨b0 + 2, tt, none⟩ (.int .i64 (z : Int))).heap.size = wr.heap.size) := Lib.hid (by simp)
        have HQS : Hid (QOwn (wr.setCell ⟨b0 + 2, tt, none⟩ (.int .i64 (z : Int))) w4.heap.size 3 A' m' c' (natC ((Q ++ V).drop (d + 1)))) := Lib.hid (HQV.out.keep fun i hi => HST.out i (by have := (HQV.out.ty hi).1; omega))
        have HFS : Hid ((∀ j, j < w4.heap.size → j ≠ b0 + 2 → (wr.setCell ⟨b0 + 2, tt, none⟩ (.int .i64 (z : Int))).heap[j]? = w4.heap[j]?) ∧ w4.heap.size ≤ (wr.setCell ⟨b0 + 2, tt, none⟩ (.int .i64 (z : Int))).heap.size ∧ Below (b0 + 1) w1 (wr.setCell ⟨b0 + 2, tt, none⟩ (.int .i64 (z : Int)))) := Lib.hid ⟨fun i h1 h2 => (HST.out i h2).trans (HF'.out.1 i h1 h2), by rw [HSZ.out]; exact HF'.out.2.1, HF'.out.2.2.setCell (by show b0 + 1 ≤ b0 + 2; omega) _⟩
        have htk : (tt : Int) < (k : Int) := by have := hek.2; omega
        have hz4 : (z : Int) ≤ 4096 := by omega
        have hji : (j : Int) < ((toF E s).length : Int) := by omega
        have HED := Lib.hid hedge
        have HLT := Lib.hid hlt
        have hml : m' ≤ 1024 := by
          have h3 := Kahn.few HKV.out.nod HKV.out.lt
          have h4 := HVL.out
          omega
        clear hoe hem hes hek hedge hsum hdb hd1 htt hz hlt hx
        by_cases h0 : z = 0
        · subst h0
          have hS4 : w4.heap.size ≤ (wr.setCell ⟨b0 + 2, tt, none⟩ (.int .i64 ((0 : Nat) : Int))).heap.size := HFS.out.2.1
          have hl40 : m' < 1099511627776 := by omega
          go_wp2_with (at_builtin; go_must (refine wpList_pushQ rfl _ _ 45 rfl w4.heap.size 3 j0 _ 8 Try.underlying45 ji jz0 jz1 jz2 rfl HQS.out rfl (.int .i64 (tt : Int)) 3 (by first | rfl | (simp; rfl) | simp) rfl hl40 (by decide) hS4 ?_); intro A9 c9 w9 HO9 HG9 HN9)
          have hge : ∀ i, ownA A' = some i → w4.heap.size ≤ i := fun i hi => (HQS.out.ty hi).1
          have hgo : ∀ i, i < (wr.setCell ⟨b0 + 2, tt, none⟩ (.int .i64 ((0 : Nat) : Int))).heap.size → ownA A' ≠ some i → w9.heap[i]? = (wr.setCell ⟨b0 + 2, tt, none⟩ (.int .i64 ((0 : Nat) : Int))).heap[i]? := fun i hi hne => (HG9.out.block _ (by simp at hi ⊢; omega) (fun e => hne e.symm)).trans (Below.heap_alloc _ _ _ hi)
          have hs9 := HG9.out.size
          simp at hs9
          have hsz := HSZ.out
          have hf2 := HF'.out.2.1
          have HFN : Hid ((∀ j, j < w4.heap.size → j ≠ b0 + 2 → w9.heap[j]? = w4.heap[j]?) ∧ w4.heap.size ≤ w9.heap.size ∧ Below (b0 + 1) w1 w9) := Lib.hid ⟨fun i h1 h2 => (hgo i (by omega) (fun e => by have := hge i e; omega)).trans (HFS.out.1 i h1 h2), by omega, (HFS.out.2.2.alloc (by omega) _).grown HG9.out (by simp; omega) (fun i hi => by have := hge i hi; omega)⟩
          have HNI9 := Lib.hid ((hgo (b0 + 2) (by omega) (fun e => by have := hge _ e; omega)).trans HNI.out)
          have HKN : Hid (Kahn.KI E k (Q ++ (V ++ [tt])) (X ++ (Kahn.outs E s).take (j + 1)) (Kahn.upd D' tt 0)) := Lib.hid (by
            have h := HED.out
            first | rw [if_pos trivial, List.append_assoc] at h | rw [if_pos rfl, List.append_assoc] at h
            exact h)
          have HVN : Hid ((Q ++ (V ++ [tt])).length = d + 1 + (m' + 1)) := Lib.hid (by have h := HVL.out; simp at h ⊢; omega)
          have HQN : Hid (QOwn w9 w4.heap.size 3 A9 (m' + 1) c9 (natC ((Q ++ (V ++ [tt])).drop (d + 1)))) := Lib.hid (by
            rw [← List.append_assoc, List.drop_append_of_le_length (by have h := HVL.out; omega), natC_snoc]; exact HO9.out)
          first
          | (go_roundw
             case rel => exact ⟨j + 1, m' + 1, A9, c9, V ++ [tt], Kahn.upd D' tt 0, HVN, by have := HLT.out; omega, rfl, by go_num, HQN, HKN, HNI9, HFN⟩
             case measure => have := HLT.out; simp [intOf]; omega)
          | (refine ⟨⟨_, _, _, ⟨j + 1, m' + 1, A9, c9, V ++ [tt], Lib.hid (by have h := HVN.out; simpa using h), by have := HLT.out; omega, rfl, rfl, HQN, _, HKN, HNI9, HFN⟩, rfl, rfl, by go_num⟩, ?_⟩
             have := HLT.out; simp [intOf]; omega)
        · have hne : ((z : Int) == 0) = false := by rw [beq_eq_false_iff_ne]; omega
          have HKN : Hid (Kahn.KI E k (Q ++ V) (X ++ (Kahn.outs E s).take (j + 1)) (Kahn.upd D' tt z)) := Lib.hid (by
            have h := HED.out
            rw [if_neg h0] at h
            exact h)
          clear h0
          go_wp2_with fail
          go_roundw
          case rel => exact ⟨j + 1, m', A', c', V, Kahn.upd D' tt z, HVL, by have := HLT.out; omega, rfl, by go_num, HQS, HKN, HNI, HFS⟩
          case measure => have := HLT.out; simp [intOf]; omega
      · obtain rfl : j = (toF E s).length := by omega
        have hd9 : decide ((toF E s).length < (toF E s).length) = false := by simp
        have htl : (Kahn.outs E s).take (toF E s).length = Kahn.outs E s := List.take_of_length_le (by unfold toF; rw [List.length_map]; exact Nat.le_refl _)
        rw [htl] at HKV
        have HGN := Lib.hid (HGO.out.next HKI.out.nod HHS.out V)
        clear hlt htl
        go_wp2_with fail
        go_roundw
        case rel => exact ⟨d + 1, m', A', c', Q ++ V, X ++ Kahn.outs E s, D', HVL, by omega, rfl, by go_num, HQV, HKV, HGN, HIN', HF'⟩
        case measure => simp [intOf]; omega
end
end Go.Proofs.Ytlmkokeapbleoaa
end
section
namespace Go.Proofs.Ytlmkokeapbleoaa
open Go.RowKit
structure StageD (d : DescI) : Prop where
  rp : ∀ r ∈ d.rs, ∀ t ∈ r.o.l, StageP t.ps
  fp : ∀ f ∈ d.fs, ∀ t ∈ f.o.l, StageP t.ps
theorem stageD (d : DescI) : StageD d := ⟨fun _ _ _ _ => trivial, fun _ _ _ _ => trivial⟩
theorem eps_none {l : List RuleL} (h : ∀ r ∈ l, r.gs ≠ []) : epsE l = [] := by
  unfold epsE
  rw [List.map_eq_nil_iff, List.filter_eq_nil_iff]
  intro r hr
  simpa using h r hr
theorem cyc_none {d : DescL} (h : ∀ r ∈ d.rules, r.gs ≠ []) : ¬ CycP d := by
  unfold CycP Kahn.cyc
  rw [eps_none h]
  simp [Kahn.rounds]
def RulesTo (d : DescI) (k : Nat) : Prop := ∀ r ∈ d.rs.take k, RuleOk d.L r.L
def RetWh (w0 : World) (v : Bool) (F : World → Prop) (e : Ending) (w' : World) : Prop := ∃ kind j : Int, e = .returned (.tuple #[.int .i64 kind, .int .i64 j]) ∧ ((v = true ∧ kind = 0) ∨ (v = false ∧ kind ≠ 0)) ∧ Hid (St w0 w' F)
section
variable {w0 w : World} {F : World → Prop}
theorem Where_st (hK : Hid (St w0 w F)) (d : DescI) (hd : ∀ W, F W → DescW d W) (v : Bool) (hv : Hid (pB (DescOk d.L) = v)) (hst : StageD d) :
    Calls Try.prog 22 #[.agg #[.int .i64 d.i, .int .i64 d.o, .int .i64 d.n, .int .i64 d.s, .slice d.ra d.rs.length d.rc, .slice d.fa d.fs.length d.fc]] w (RetWh w0 v F) := by
  have HRU : Hid (∀ W, F W → RulesAt Lst d.ra d.rs W) := Lib.hid fun W h => (hd W h).rules
  have HFI : Hid (∀ W, F W → FinsAt Lst d.fa d.fs W) := Lib.hid fun W h => (hd W h).fins
  have HST := Lib.hid hst
  have hln := (hd _ hK.out.now).rules.ln
  have hlf := (hd _ hK.out.now).fins.ln
  have HBOK := Lib.hid (fun (h : ¬ DescOk d.L) => pB_f hv h)
  have HGOK := Lib.hid (fun (h : DescOk d.L) => pB_t hv h)
  clear hd hst hv
  obtain ⟨i, o, n, s, ra, rc, rs, fa, fc, fs⟩ := d
  have HRT : ∀ k, RulesTo ⟨i, o, n, s, ra, rc, rs, fa, fc, fs⟩ k = ∀ r ∈ rs.take k, RuleP i o n r.L := fun k => rfl
  simp only at HRU HFI hln hlf ⊢
  have HSR : Hid (∀ r ∈ rs, ∀ t ∈ r.o.l, StageP t.ps) := Lib.hid HST.out.rp
  have HSF : Hid (∀ r ∈ fs, ∀ t ∈ r.o.l, StageP t.ps) := Lib.hid HST.out.fp
  have HK := St.box hK [.int .i64 i, .int .i64 o, .int .i64 n, .int .i64 s, .slice ra rs.length rc, .slice fa fs.length fc] 26
  obtain ⟨q0, q1, q2, q3, q4, q5⟩ := HK.out.now.1.c6
  clear HST HRT
  go_enter Try.func22, Try.ntmps22
  go_wp2_with fail
  obtain ⟨vh, HVH⟩ : ∃ vh, Hid (pB (HeadP i o n s rs.length fs.length) = vh) := ⟨_, rfl⟩
  refine (head_st HK i o n s ra fa rs.length rc fs.length fc vh HVH).mono ?_
  rintro e w1 ⟨rfl, HK1⟩
  clear q0 q1 q2 q3 q4 q5
  rcases vh with _ | _
  · obtain rfl := HBOK.out (fun h => by
      have h1 := h.head
      have := pB_true (p := HeadP i o n s rs.length fs.length) ⟨h1.1, h1.2.1, h1.2.2.1, h1.2.2.2.1, h1.2.2.2.2.1, by have := h1.2.2.2.2.2.1; rwa [show (DescI.L ⟨i, o, n, s, ra, rc, rs, fa, fc, fs⟩).rules = rs.map RuleI.L from rfl, List.length_map] at this, by have := h1.2.2.2.2.2.2; rwa [show (DescI.L ⟨i, o, n, s, ra, rc, rs, fa, fc, fs⟩).fins = fs.map FinI.L from rfl, List.length_map] at this⟩
      rw [HVH.out] at this; cases this)
    go_wp2_with fail
    go_ret2
    exact ⟨1, 0, rfl, .inr ⟨rfl, by decide⟩, Lib.hid (HK1.out.weaken fun _ h => h.2)⟩
  have HH : Hid (HeadP i o n s rs.length fs.length) := Lib.hid (pB_iff.1 HVH.out)
  have hr4 : rs.length ≤ 4096 := HH.out.2.2.2.2.2.1
  have hf4 : fs.length ≤ 4096 := HH.out.2.2.2.2.2.2
  have q4 := HK1.out.now.1 4 _ rfl
  clear HK
  go_wp2_with fail
  clear q4
  go_loopw [14] (fun iv wr => ∃ k : Nat, k ≤ rs.length ∧ iv = .int .i64 k ∧ Hid (∀ r ∈ rs.take k, RuleP i o n r.L) ∧ Hid (St w0 wr (fun W => BoxC w.heap.size [.int .i64 i, .int .i64 o, .int .i64 n, .int .i64 s, .slice ra rs.length rc, .slice fa fs.length fc] W ∧ F W))) (fun iv _ => rs.length - (intOf iv).toNat)
  case atStart => exact ⟨0, Nat.zero_le _, rfl, Lib.hid (fun g hg => by simp at hg), HK1⟩
  case round =>
  clear HK1
  obtain ⟨k, hk, rfl, HR, HK⟩ := hrel
  by_cases hlt : k < rs.length
  · obtain ⟨rb, off, r, rfl, hx, hw, hd0, hd1, hd2, hd3, hd4⟩ := (HRU.out _ HK.out.now.2).at_ hlt
    have HX := Lib.hid hx
    have HKr := Lib.hid (HK.out.add (Below.refl _ _) (G := RuleW r) (fun W hW => RuleR.below Lst.lastsx hw hW))
    have HKp := St.box HKr (ruleC r) 42
    simp only [ruleC] at HKp
    obtain ⟨q0, q1, q2, q3, q4, q5⟩ := HKp.out.now.2.2.1.c6
    obtain ⟨vr, HVR⟩ : ∃ vr, Hid (pB (RuleP i o n r.L) = vr) := ⟨_, rfl⟩
    have HSRr := Lib.hid (HSR.out r (List.mem_of_getElem? hx))
    clear hx hw
    go_wp2_with fail
    refine (rule_st HKp i o n s _ fa rs.length rc fs.length fc r (fun _ h => h.2.1) vr HVR HSRr.out).mono ?_
    rintro e w3 ⟨rfl, HK3⟩
    clear q0 q1 q2 q3 q4 q5
    rcases vr with _ | _
    · obtain rfl := HBOK.out (fun h => by
        have := pB_true (p := RuleP i o n r.L) (h.rules _ (List.mem_map.2 ⟨r, List.mem_of_getElem? HX.out, rfl⟩))
        rw [HVR.out] at this; cases this)
      go_wp2_with fail
      go_ret2
      exact ⟨2, k, rfl, .inr ⟨rfl, by decide⟩, Lib.hid (HK3.out.weaken fun _ h => h.2.2.2)⟩
    · have HN : Hid (∀ r ∈ rs.take (k + 1), RuleP i o n r.L) := Lib.hid fun q hq => by
        rw [take_snoc? HX.out] at hq
        rcases List.mem_append.1 hq with hq | hq
        · exact HR.out q hq
        · simp at hq; subst hq; exact pB_iff.1 HVR.out
      go_wp2_with fail
      go_roundw
      case rel => exact ⟨k + 1, by omega, by go_num, HN, Lib.hid (HK3.out.weaken fun _ h => h.2.2)⟩
      case measure => simp [intOf]; omega
  obtain rfl : k = rs.length := by omega
  have hd : decide (rs.length < rs.length) = false := by simp
  have HRA : Hid (∀ r ∈ rs, RuleP i o n r.L) := Lib.hid (by have := HR.out; rwa [List.take_length] at this)
  have q5 := HK.out.now.1 5 _ rfl
  go_wp2_with fail
  clear q5 hd hlt HR
  go_loopw [28] (fun iv wr => ∃ k : Nat, k ≤ fs.length ∧ iv = .int .i64 k ∧ Hid (∀ r ∈ fs.take k, StateOk n r.fr ∧ GuardsOk i r.L.gs ∧ WritesOk i o r.L.gs r.L.out) ∧ Hid (St w0 wr (fun W => BoxC w.heap.size [.int .i64 i, .int .i64 o, .int .i64 n, .int .i64 s, .slice ra rs.length rc, .slice fa fs.length fc] W ∧ F W))) (fun iv _ => fs.length - (intOf iv).toNat)
  case atStart => exact ⟨0, Nat.zero_le _, rfl, Lib.hid (fun g hg => by simp at hg), HK⟩
  case round =>
  clear HK
  obtain ⟨k, hk, rfl, HR, HK⟩ := hrel
  by_cases hlt : k < fs.length
  · obtain ⟨rb, off, r, rfl, hx, hw, hd0, hd1, hd2⟩ := (HFI.out _ HK.out.now.2).at_ hlt
    have HX := Lib.hid hx
    have HKr := Lib.hid (HK.out.add (Below.refl _ _) (G := FinW r) (fun W hW => FinR.below Lst.lastsx hw hW))
    have HKp := St.box HKr (finC r) 40
    have HSFr := Lib.hid (HSF.out r (List.mem_of_getElem? hx))
    have HBADF := Lib.hid (fun (h : ¬ (StateOk n r.fr ∧ GuardsOk i (bodies r.gs) ∧ WritesOk i o (bodies r.gs) (r.o.l.map TermI.L))) => HBOK.out fun g => h (by
      have := g.fins _ (List.mem_map.2 ⟨r, List.mem_of_getElem? HX.out, rfl⟩)
      exact this))
    have HNX : Hid ((StateOk n r.fr ∧ GuardsOk i (bodies r.gs) ∧ WritesOk i o (bodies r.gs) (r.o.l.map TermI.L)) → ∀ r ∈ fs.take (k + 1), StateOk n r.fr ∧ GuardsOk i r.L.gs ∧ WritesOk i o r.L.gs r.L.out) := Lib.hid fun g q hq => by
      rw [take_snoc? HX.out] at hq
      rcases List.mem_append.1 hq with hq | hq
      · exact HR.out q hq
      · simp at hq; subst hq; exact g
    obtain ⟨fr, ga, gc, gs, oa, oc, ol⟩ := r
    simp only [finC] at HKp hd0 hd1 hd2 HSFr HBADF HNX
    obtain ⟨q0, q1, q2, q3, q4, q5⟩ := HKp.out.now.2.2.1.c6
    obtain ⟨p0, p1, p2⟩ := HKp.out.now.1.c3
    obtain ⟨v1, HV1⟩ : ∃ vr, Hid (pB (StateOk n fr) = vr) := ⟨_, rfl⟩
    obtain ⟨v2, HV2⟩ : ∃ vr, Hid (pB (GuardsOk i (bodies gs)) = vr) := ⟨_, rfl⟩
    obtain ⟨v3, HV3⟩ : ∃ vr, Hid (pB (WritesOk i o (bodies gs) (ol.map TermI.L)) = vr) := ⟨_, rfl⟩
    clear hx hw
    go_wp2_with fail
    refine (state_st HKp i o n s ra _ rs.length rc fs.length fc fr v1 HV1).mono ?_
    rintro e w3 ⟨rfl, HK3⟩
    clear q0 q1 q2 q3 q4 q5 p0 p1 p2
    obtain ⟨q0, q1, q2, q3, q4, q5⟩ := HK3.out.now.2.2.1.c6
    obtain ⟨p0, p1, p2⟩ := HK3.out.now.1.c3
    rcases v1 with _ | _
    · obtain rfl := HBADF.out (fun h => by have := pB_true h.1; rw [HV1.out] at this; cases this)
      go_wp2_with fail
      go_ret2
      exact ⟨3, k, rfl, .inr ⟨rfl, by decide⟩, Lib.hid (HK3.out.weaken fun _ h => h.2.2.2)⟩
    go_wp2_with fail
    refine (guards_st HK3 i (fun _ h => h.2.1.2.1.llx) gc v2 HV2).mono ?_
    rintro e w4 ⟨rfl, HK4⟩
    clear q0 q1 q2 q3 q4 q5 p0 p1 p2
    obtain ⟨q0, q1, q2, q3, q4, q5⟩ := HK4.out.now.2.2.1.c6
    obtain ⟨p0, p1, p2⟩ := HK4.out.now.1.c3
    rcases v2 with _ | _
    · obtain rfl := HBADF.out (fun h => by have := pB_true h.2.1; rw [HV2.out] at this; cases this)
      go_wp2_with fail
      go_ret2
      exact ⟨3, k, rfl, .inr ⟨rfl, by decide⟩, Lib.hid (HK4.out.weaken fun _ h => h.2.2.2)⟩
    have hg4 : gs.length ≤ 4 := by have := (pB_iff.1 HV2.out).1; rwa [bodies_length] at this
    go_wp2_with fail
    refine (writes_st HK4 i o n s ra _ rs.length rc fs.length fc (fun _ h => h.2.1.2.2) oc (fun _ h => h.2.1.2.1.llx) gc hg4 v3 HV3 HSFr.out).mono ?_
    rintro e w5 ⟨rfl, HK5⟩
    clear q0 q1 q2 q3 q4 q5 p0 p1 p2
    rcases v3 with _ | _
    · obtain rfl := HBADF.out (fun h => by have := pB_true h.2.2; rw [HV3.out] at this; cases this)
      go_wp2_with fail
      go_ret2
      exact ⟨3, k, rfl, .inr ⟨rfl, by decide⟩, Lib.hid (HK5.out.weaken fun _ h => h.2.2.2)⟩
    have HN := Lib.hid (HNX.out ⟨pB_iff.1 HV1.out, pB_iff.1 HV2.out, pB_iff.1 HV3.out⟩)
    go_wp2_with fail
    go_roundw
    case rel => exact ⟨k + 1, by omega, by go_num, HN, Lib.hid (HK5.out.weaken fun _ h => h.2.2)⟩
    case measure => simp [intOf]; omega
  obtain rfl : k = fs.length := by omega
  have hd : decide (fs.length < fs.length) = false := by simp
  obtain ⟨q0, q1, q2, q3, q4, q5⟩ := HK.out.now.1.c6
  obtain ⟨m, hm⟩ := Int.eq_ofNat_of_zero_le (show 0 ≤ n by have := HH.out.2.2.1; omega)
  subst hm
  have hm1 : 1 ≤ m := by have := HH.out.2.2.1; omega
  have hm2 : m ≤ 1024 := by have := HH.out.2.2.2.1; omega
  obtain ⟨vc, HVC⟩ : ∃ vc, Hid (Kahn.cyc (epsE (rs.map RuleI.L)) m = vc) := ⟨_, rfl⟩
  have HSO : Hid (∀ r ∈ rs, StateOk (m : Int) r.fr ∧ StateOk (m : Int) r.dst) := Lib.hid fun r hr => by
    have h := HRA.out r hr
    exact ⟨h.1, h.2.1⟩
  have HCYB : Hid (vc = true → ¬ DescOk (DescI.L ⟨i, o, m, s, ra, rc, rs, fa, fc, fs⟩)) := Lib.hid fun h g => g.cyc (by
    unfold CycP
    rw [h] at HVC
    exact HVC.out)
  have HCYG : Hid (vc = false → DescOk (DescI.L ⟨i, o, m, s, ra, rc, rs, fa, fc, fs⟩)) := Lib.hid fun h => ⟨by
      have h1 := HH.out
      exact ⟨h1.1, h1.2.1, h1.2.2.1, h1.2.2.2.1, h1.2.2.2.2.1, by rw [show (DescI.L ⟨i, o, m, s, ra, rc, rs, fa, fc, fs⟩).rules = rs.map RuleI.L from rfl, List.length_map]; exact hr4, by rw [show (DescI.L ⟨i, o, m, s, ra, rc, rs, fa, fc, fs⟩).fins = fs.map FinI.L from rfl, List.length_map]; exact hf4⟩,
    fun r hr => by
      obtain ⟨q, hq, rfl⟩ := List.mem_map.1 hr
      exact HRA.out q hq,
    fun r hr => by
      obtain ⟨q, hq, rfl⟩ := List.mem_map.1 hr
      exact HR.out q (by rwa [List.take_length]), fun g => by
      unfold CycP at g
      have h2 : Kahn.cyc (epsE (rs.map RuleI.L)) m = true := g
      rw [HVC.out, h] at h2; cases h2⟩
  clear hlt HR
  go_wp2_with fail
  refine (cycle_st HK i o s m hm1 hm2 rc fs.length fc (fun _ h => HRU.out _ h.2) hr4 HSO vc HVC).mono ?_
  rintro e w6 ⟨rfl, HK6⟩
  rcases vc with _ | _
  · obtain rfl := HGOK.out (HCYG.out rfl)
    clear HBOK HGOK
    go_wp2_with fail
    go_ret2
    exact ⟨0, 0, rfl, .inl ⟨rfl, rfl⟩, Lib.hid (HK6.out.weaken fun _ h => h.2)⟩
  · obtain rfl := HBOK.out (HCYB.out rfl)
    clear HBOK HGOK
    go_wp2_with fail
    go_ret2
    exact ⟨4, 0, rfl, .inr ⟨rfl, by decide⟩, Lib.hid (HK6.out.weaken fun _ h => h.2)⟩
theorem dCheck_st (hK : Hid (St w0 w F)) (d : DescI) (hd : ∀ W, F W → DescW d W) (v : Bool) (hv : Hid (pB (DescOk d.L) = v)) (hst : StageD d) :
    Calls Try.prog 14 #[.agg #[.int .i64 d.i, .int .i64 d.o, .int .i64 d.n, .int .i64 d.s, .slice d.ra d.rs.length d.rc, .slice d.fa d.fs.length d.fc]] w (fun e w' => if v = true then RetV w0 (.int .i64 0) F e w' else RetV w0 (.int .i64 2) F e w') := by
  have HK := St.box hK [.int .i64 d.i, .int .i64 d.o, .int .i64 d.n, .int .i64 d.s, .slice d.ra d.rs.length d.rc, .slice d.fa d.fs.length d.fc] 26
  obtain ⟨q0, q1, q2, q3, q4, q5⟩ := HK.out.now.1.c6
  go_enter Try.func14, Try.ntmps14
  go_wp2_with fail
  refine (Where_st HK d (fun _ h => hd _ h.2) v hv hst).mono ?_
  rintro e w1 ⟨kind, j, rfl, hk, HK1⟩
  clear q0 q1 q2 q3 q4 q5
  rcases hk with ⟨rfl, rfl⟩ | ⟨rfl, hk⟩
  · go_wp2_with fail
    go_ret
    exact ⟨rfl, Lib.hid (HK1.out.weaken fun _ h => h.2)⟩
  · have hk1 : (kind != 0) = true := by simpa using hk
    clear hk
    go_wp2_with fail
    go_ret
    exact ⟨rfl, Lib.hid (HK1.out.weaken fun _ h => h.2)⟩
end
end Go.Proofs.Ytlmkokeapbleoaa
end
section
namespace Go.Proofs.Ytlmkokeapbleoaa
open Go.RowKit
structure OptL where
  fr : Int
  gs : List (List Sp)
  fin : Bool
structure OptI where
  fr : Int
  ga : Option Addr
  gc : Nat
  gs : List (Item Sp)
  fin : Bool
def OptI.L (o : OptI) : OptL := ⟨o.fr, bodies o.gs, o.fin⟩
def OptW (o : OptI) (W : World) : Prop := I64 o.fr ∧ LLx o.ga o.gs W
theorem OptW.stays : Stays OptW := fun o w w' h hb => ⟨h.1, h.2.below hb⟩
section
variable {w0 w : World} {F : World → Prop}
end
end Go.Proofs.Ytlmkokeapbleoaa
end
section
namespace Go.Proofs.Ytlmkokeapbleoaa
open Go.RowKit
section
variable {w0 w : World} {F : World → Prop}
end
end Go.Proofs.Ytlmkokeapbleoaa
end
section
namespace Go.Proofs.Ytlmkokeapbleoaa
open Go.RowKit
section
variable {w0 w : World} {F : World → Prop}
def RetIx2 (w0 : World) (v : Bool) (F : World → Prop) (e : Ending) (w' : World) : Prop := ∃ r : Int, e = .returned (.int .i64 r) ∧ ((v = true ∧ r = -1) ∨ (v = false ∧ 0 ≤ r)) ∧ Hid (St w0 w' F)
end
end Go.Proofs.Ytlmkokeapbleoaa
end
section
namespace Go.Proofs.Ytlmkokeapbleoaa
open Go.RowKit
section
variable {P : Program} {w : World} {ops : Array Oper} {rest : List Oper} {o : Oper} {a : Act} {Q : Exit → Act → World → Prop}
end
section
variable {P : Program} {w : World} {ops : Array Oper} {rest : List Oper} {o : Oper} {a : Act} {Q : Exit → Act → World → Prop}
end
end Go.Proofs.Ytlmkokeapbleoaa
end
section
namespace Go.Proofs.Ytlmkokeapbleoaa
open Go.RowKit
end Go.Proofs.Ytlmkokeapbleoaa
end
section
namespace Go.Proofs.Ytlmkokeapbleoaa
namespace Drv
structure M where
  nxt : Nat → Int → Int
  eat : Nat → Nat
  dst : Nat → Nat
  wr : Nat → List Int → List Int
structure S where
  node : Nat
  held : List Int
  rej : Bool
def rejd : S := ⟨0, [], true⟩
def step (m : M) (s : S) (x : Int) : S × List Int × List Int :=
  if 0 ≤ m.nxt s.node x then (⟨(m.nxt s.node x).toNat, s.held ++ [x], false⟩, [], [])
  else if m.nxt s.node x = -1 then (rejd, [], [])
  else (⟨m.dst (-2 - m.nxt s.node x).toNat, [], false⟩, m.wr (-2 - m.nxt s.node x).toNat (s.held ++ [x]),
    (s.held ++ [x]).drop (max 1 (m.eat (-2 - m.nxt s.node x).toNat)))
theorem step_dec (m : M) (s : S) (x : Int) (r : List Int) :
    (step m s x).1.held.length + ((step m s x).2.2 ++ r).length < s.held.length + (r.length + 1) ∨
    ((step m s x).1.held.length + ((step m s x).2.2 ++ r).length = s.held.length + (r.length + 1) ∧
      ((step m s x).2.2 ++ r).length < r.length + 1) := by
  unfold step
  split
  · right; simp; omega
  · split
    · left; simp [rejd]; omega
    · left; simp; omega
def go (m : M) (s : S) : List Int → S × List Int
  | [] => (s, [])
  | x :: r =>
    if s.rej then (s, []) else
    ((go m (step m s x).1 ((step m s x).2.2 ++ r)).1,
      (step m s x).2.1 ++ (go m (step m s x).1 ((step m s x).2.2 ++ r)).2)
termination_by t => (s.held.length + t.length, t.length)
decreasing_by
  all_goals
    have h := step_dec m s x r
    simp only [List.length_cons]
    rcases h with h | ⟨h, h'⟩
    · exact Prod.Lex.left _ _ h
    · rw [h]; exact Prod.Lex.right _ h'
theorem go_nil (m : M) (s : S) : go m s [] = (s, []) := by rw [go]
theorem go_rej (m : M) (s : S) (h : s.rej = true) (t : List Int) : go m s t = (s, []) := by
  cases t with
  | nil => rw [go]
  | cons x r => rw [go, if_pos h]
theorem go_cons (m : M) (s : S) (h : s.rej = false) (x : Int) (r : List Int) :
    go m s (x :: r) = ((go m (step m s x).1 ((step m s x).2.2 ++ r)).1,
      (step m s x).2.1 ++ (go m (step m s x).1 ((step m s x).2.2 ++ r)).2) := by
  rw [go, if_neg (by simp [h])]
structure Right (m : M) (H : Nat → Nat) (N A most : Nat) : Prop where
  zero : H 0 = 0
  pos : 0 < N
  next : ∀ k x, k < N → 0 ≤ m.nxt k x → (m.nxt k x).toNat < N ∧ H (m.nxt k x).toNat = H k + 1
  act : ∀ k x, k < N → m.nxt k x < -1 → (-2 - m.nxt k x).toNat < A ∧ m.eat (-2 - m.nxt k x).toNat ≤ H k + 1
  eat : ∀ a, a < A → 1 ≤ m.eat a
  dst : ∀ a, a < A → m.dst a < N ∧ H (m.dst a) = 0
  wr : ∀ a w, a < A → (m.wr a w).length ≤ most
structure Ok (H : Nat → Nat) (N : Nat) (s : S) : Prop where
  lt : s.node < N
  held : s.held.length = H s.node
  rej : s.rej = true → s = rejd
theorem Ok.step {m : M} {H : Nat → Nat} {N A most : Nat} (hr : Right m H N A most) {s : S} (h : Ok H N s) (x : Int) :
    Ok H N (step m s x).1 := by
  unfold Drv.step
  split
  · rename_i h0
    have := hr.next s.node x h.lt h0
    exact ⟨this.1, by simp [this.2, h.held], by simp⟩
  · split
    · exact ⟨hr.pos, by simp [rejd, hr.zero], fun _ => rfl⟩
    · rename_i h0 h1
      have := hr.act s.node x h.lt (by omega)
      have h2 := hr.dst _ this.1
      exact ⟨h2.1, by simp [h2.2], by simp⟩
theorem Ok.go {m : M} {H : Nat → Nat} {N A most : Nat} (hr : Right m H N A most) : ∀ (s : S) (xs : List Int),
    Ok H N s → Ok H N (go m s xs).1 := by
  intro s xs
  induction s, xs using go.induct (m := m) with
  | case1 s => intro h; rw [go_nil]; exact h
  | case2 s x r hq => intro h; rw [go_rej m s hq]; exact h
  | case3 s x r hq ih =>
    intro h
    rw [go_cons m s (by simpa using hq)]
    exact ih (h.step hr x)
theorem bound_step {m : M} {H : Nat → Nat} {N A most : Nat} (hr : Right m H N A most) {s : S} (h : Ok H N s) (x : Int) :
    (step m s x).2.1.length + most * ((step m s x).1.held.length + (step m s x).2.2.length) ≤ most * (s.held.length + 1) := by
  unfold step
  split
  · simp
  · split
    · simp [rejd]
    · rename_i h0 h1
      have ha := hr.act s.node x h.lt (by omega)
      have hw := hr.wr _ (s.held ++ [x]) ha.1
      have he := hr.eat _ ha.1
      generalize (-2 - m.nxt s.node x).toNat = a at *
      have hm : max 1 (m.eat a) = m.eat a := by omega
      simp only [hm, List.length_nil, List.length_drop, List.length_append, List.length_cons, Nat.zero_add]
      have : most * (s.held.length + 1 - m.eat a) ≤ most * s.held.length := Nat.mul_le_mul_left _ (by omega)
      rw [Nat.mul_add, Nat.mul_one]; omega
theorem bound {m : M} {H : Nat → Nat} {N A most : Nat} (hr : Right m H N A most) : ∀ (s : S) (xs : List Int),
    Ok H N s → (go m s xs).2.length + most * (go m s xs).1.held.length ≤ most * (s.held.length + xs.length) := by
  intro s xs
  induction s, xs using go.induct (m := m) with
  | case1 s => intro _; rw [go_nil]; simp
  | case2 s x r hq => intro h; rw [go_rej m s hq]; simp; exact Nat.mul_le_mul_left _ (by omega)
  | case3 s x r hq ih =>
    intro h
    rw [go_cons m s (by simpa using hq)]
    have h1 := ih (h.step hr x)
    have h2 := bound_step hr h x
    simp only [List.length_append, List.length_cons] at h1 ⊢
    rw [Nat.mul_add] at *
    rw [Nat.mul_add] at h1 h2 ⊢
    rw [Nat.mul_one] at *
    omega
end Drv
end Go.Proofs.Ytlmkokeapbleoaa
end
section
namespace Go.Proofs.Ytlmkokeapbleoaa
end Go.Proofs.Ytlmkokeapbleoaa
end
section
namespace Go.Proofs.Ytlmkokeapbleoaa
end Go.Proofs.Ytlmkokeapbleoaa
end
section
namespace Go.Proofs.Ytlmkokeapbleoaa
open Go.RowKit
end Go.Proofs.Ytlmkokeapbleoaa
end
section
namespace Go.Proofs.Ytlmkokeapbleoaa
open Go.RowKit
theorem infoDescS : (Try.prog.info? 26).map (·.size) = some 6 := by kernel_rfl
def allocL : World → List Obj → World
  | w, [] => w
  | w, o :: l => allocL (w.alloc o) l
theorem allocL_size (l : List Obj) : ∀ w : World, (allocL w l).heap.size = w.heap.size + l.length := by
  induction l with
  | nil => intro w; rfl
  | cons o l ih => intro w; rw [allocL, ih, List.length_cons]; simp; omega
theorem allocL_old (l : List Obj) : ∀ (w : World) (k : Nat), k < w.heap.size → (allocL w l).heap[k]? = w.heap[k]? := by
  induction l with
  | nil => intro w k _; rfl
  | cons o l ih => intro w k hk; rw [allocL, ih _ _ (by simp; omega), Below.heap_alloc _ _ _ hk]
theorem allocL_at (l : List Obj) : ∀ (w : World) (i : Nat) (o : Obj), l[i]? = some o → (allocL w l).heap[w.heap.size + i]? = some o := by
  induction l with
  | nil => intro w i o h; cases h
  | cons x l ih =>
    intro w i o h
    rw [allocL]
    cases i with
    | zero =>
      injection h with h
      subst h
      rw [allocL_old _ _ _ (by simp)]
      exact heap_alloc_new w x
    | succ i =>
      have h2 := ih (w.alloc x) i o h
      rw [show (w.alloc x).heap.size + i = w.heap.size + (i + 1) by simp; omega] at h2
      exact h2
theorem allocL_below (l : List Obj) : ∀ (w w0 : World) (n : Nat), Below n w0 w → n ≤ w.heap.size → Below n w0 (allocL w l) := by
  induction l with
  | nil => intro w w0 n h _; exact h
  | cons o l ih => intro w w0 n h hn; exact ih _ _ _ (h.alloc hn o) (by simp; omega)
theorem blk_sl {W : World} {size b n : Nat} {cs : Array Value} {t : TypeId} {fr : Nat × Nat} (h : W.heap[b]? = some (.cells cs t fr)) (hn : cs.toList.length = n * size) : Sl W size (some ⟨b, 0, none⟩) n cs.toList := by
  refine ⟨hn, fun _ => ⟨_, _, rfl, fun j u hu => ?_⟩⟩
  simp only [World.cell?, h]
  simpa using hu
theorem spw_all {l : List Sp} (h : ∀ p ∈ l, -1073741824 ≤ p.1 ∧ p.1 ≤ 1073741824 ∧ -1073741824 ≤ p.2 ∧ p.2 ≤ 1073741824) : SpW l := by
  intro p hp
  have h2 := h p hp
  omega
section
variable {w0 w : World} {F : World → Prop}
end
end Go.Proofs.Ytlmkokeapbleoaa
end
