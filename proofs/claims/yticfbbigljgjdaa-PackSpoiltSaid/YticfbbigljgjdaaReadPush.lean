/- Appending one record to a row: what is known of the row's block. No function of the program in sight. Condition: none. -/
import Derived.Test.YticfbbigljgjdaaReadRow
namespace Go.Proofs.Yticfbbigljgjdaa
open Go.RowKit
set_option linter.unusedVariables false
set_option linter.unusedSimpArgs false
section
variable {P : Program} {w0 : World} {ops : Array Oper} {rest : List Oper} {o : Oper} {a : Act} {Q : Exit → Act → World → Prop}
theorem run_pushG (t ty : TypeId) (base : Nat) (e : TypeId) (i : TypeInfo) (z : Value) (size bytes : Nat) (ht : P.underlying t = some (.slice e)) (hi : P.info? e = some i) (hz : i.zero = some z)
    (hsize : i.size = size) (hby : i.bytes = bytes) (hzs : z.cells.size = size) (hsz : 0 < size)
    {A : Option Addr} {c n : Nat} {xs : List Value} (hown : w0.ownsRow base e size (.slice A n c) n xs) (news : List Value) (e' : TypeId) (hl : news.length = size) (h1 : ∀ u ∈ news, u.oneCell' = true)
    (hn : n < 1099511627776) (hb : bytes ≤ 128) (hbase : base ≤ w0.heap.size) :
    ∃ A' c' w', (Builtin.append_ #[t, t] ty #[.slice A n c, .slice (some ⟨w0.heap.size, 0, none⟩) 1 1]).run P (w0.alloc (.cells news.toArray e')) = .ok (.slice A' (n + 1) c') w' ∧
      Hid (w'.ownsRow base e size (.slice A' (n + 1) c') (n + 1) (xs ++ news)) ∧ Hid ((w0.alloc (.cells news.toArray e')).grownBy w' (ownA A)) ∧ Hid (Newer (ownA A) (ownA A') (w0.heap.size + 1)) := by
  obtain ⟨v', w', r1, r2, r3, _, r5⟩ := run_append_own_at (P := P) (w0.alloc (.cells news.toArray e')) base t ty e i z size bytes ht hi hz hsize hby hzs hsz (.slice A n c) n xs (hown.alloc _) ⟨w0.heap.size, 0, none⟩ 1 1 news (by omega)
    (by
      intro j u hu
      have e0 : (⟨w0.heap.size, 0, none⟩ : Addr).add j = ⟨w0.heap.size, 0 + j, none⟩ := by unfold Addr.add; split <;> simp_all
      rw [e0]
      have hb0 : (w0.alloc (.cells news.toArray e')).heap[w0.heap.size]? = some (.cells news.toArray e' (0, 0)) := heap_alloc_new w0 _
      simp only [World.cell?, hb0]
      simpa using hu)
    h1 (by unfold maxLen; omega) (by have : (n + 1) * bytes ≤ (n + 1) * 128 := Nat.mul_le_mul_left _ hb; omega) (by simp; omega)
  obtain ⟨A', c', rfl⟩ := own_shape r2
  rw [own_ownA] at r3 r5
  rw [own_ownA] at r5
  refine ⟨A', c', w', r1, Lib.hid r2, Lib.hid r3, Lib.hid ?_⟩
  rcases r5 with h | h
  · exact .inl h
  · exact .inr ⟨_, h, by simp⟩
theorem wpList_pushG (hgd : o.guard = none) (s x : Operand) (t : TypeId)
    (ho : o.op = .call { callee := .builtin .append, args := #[s, x], argTypes := #[t, t] })
    (base : Nat) (e : TypeId) (i : TypeInfo) (z : Value) (size bytes : Nat) (ht : P.underlying t = some (.slice e)) (hi : P.info? e = some i) (hz : i.zero = some z)
    (hsize : i.size = size) (hby : i.bytes = bytes) (hzs : z.cells.size = size) (hsz : 0 < size)
    {A : Option Addr} {c n : Nat} {xs : List Value} (hown : w0.ownsRow base e size (.slice A n c) n xs) (hs : a.eval s = .slice A n c)
    (news : List Value) (e' : TypeId) (hx : a.eval x = .slice (some ⟨w0.heap.size, 0, none⟩) 1 1) (hl : news.length = size) (h1 : ∀ u ∈ news, u.oneCell' = true)
    (hn : n < 1099511627776) (hb : bytes ≤ 128) (hbase : base ≤ w0.heap.size)
    (h : ∀ A' c' w', Hid (w'.ownsRow base e size (.slice A' (n + 1) c') (n + 1) (xs ++ news)) → Hid ((w0.alloc (.cells news.toArray e')).grownBy w' (ownA A)) → Hid (Newer (ownA A) (ownA A') (w0.heap.size + 1)) → wpList P ops Q rest (a.put o.dst (.slice A' (n + 1) c')) w') :
    wpList P ops Q (o :: rest) a (w0.alloc (.cells news.toArray e')) := by
  refine wpList_plain hgd fun K hK => ?_
  obtain ⟨A', c', w', hr, k1, k2, k3⟩ := run_pushG (P := P) t o.type base e i z size bytes ht hi hz hsize hby hzs hsz hown news e' hl h1 hn hb hbase
  unfold Oper.wp execOp
  simp only [ho, resolve, invoke, builtin, Sem.run_bind, Sem.run_pure, Result.andThen_ok, List.map_toArray, List.map_cons, List.map_nil, hs, hx, hr]
  exact hK _ _ (h A' c' w' k1 k2 k3)
/-- the same as a step of a region that draws its order -/
theorem step_pushG {K : Act → World → Prop} {E : Prop} (hgd : o.guard = none) (s x : Operand) (t : TypeId)
    (ho : o.op = .call { callee := .builtin .append, args := #[s, x], argTypes := #[t, t] })
    (base : Nat) (e : TypeId) (i : TypeInfo) (z : Value) (size bytes : Nat) (ht : P.underlying t = some (.slice e)) (hi : P.info? e = some i) (hz : i.zero = some z)
    (hsize : i.size = size) (hby : i.bytes = bytes) (hzs : z.cells.size = size) (hsz : 0 < size)
    {A : Option Addr} {c n : Nat} {xs : List Value} (hown : w0.ownsRow base e size (.slice A n c) n xs) (hs : a.eval s = .slice A n c)
    (news : List Value) (e' : TypeId) (hx : a.eval x = .slice (some ⟨w0.heap.size, 0, none⟩) 1 1) (hl : news.length = size) (h1 : ∀ u ∈ news, u.oneCell' = true)
    (hn : n < 1099511627776) (hb : bytes ≤ 128) (hbase : base ≤ w0.heap.size)
    (h : ∀ A' c' w', Hid (w'.ownsRow base e size (.slice A' (n + 1) c') (n + 1) (xs ++ news)) → Hid ((w0.alloc (.cells news.toArray e')).grownBy w' (ownA A)) → Hid (Newer (ownA A) (ownA A') (w0.heap.size + 1)) → K (a.put o.dst (.slice A' (n + 1) c')) w') :
    if Region.wanted o (yielded ops a.tmps) = true then Oper.wp P o a (w0.alloc (.cells news.toArray e')) K Q else E := by
  have hw : Region.wanted o (yielded ops a.tmps) = true := by simp [Region.wanted, hgd]
  rw [if_pos hw]
  obtain ⟨A', c', w', hr, k1, k2, k3⟩ := run_pushG (P := P) t o.type base e i z size bytes ht hi hz hsize hby hzs hsz hown news e' hl h1 hn hb hbase
  unfold Oper.wp execOp
  simp only [ho, resolve, invoke, builtin, Sem.run_bind, Sem.run_pure, Result.andThen_ok, List.map_toArray, List.map_cons, List.map_nil, hs, hx, hr]
  exact h A' c' w' k1 k2 k3
end
end Go.Proofs.Yticfbbigljgjdaa
