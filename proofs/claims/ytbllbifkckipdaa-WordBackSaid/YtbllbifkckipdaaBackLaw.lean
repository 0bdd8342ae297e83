/- The plain law of WordBack: scalars that became bytes are read as they were. No program in sight. Condition: none. -/
import Derived.Test.YtbllbifkckipdaaText
namespace Go.Proofs.Ytbllbifkckipdaa
open Go.RowKit
set_option linter.unusedVariables false

theorem dec_enc (x : Nat) (hx : inB 2 (x : Int) = true) (n b0 b1 b2 b3 : Nat) (hn : (rbytes x).length ≤ n) (h : rbytes (x : Int) = ([(b0 : Int), b1, b2, b3]).take (rbytes (x : Int)).length) : Lib.decodeN n b0 b1 b2 b3 = (x, (rbytes (x : Int)).length) := by
  rw [inB2_iff] at hx
  by_cases g1 : (x : Int) < 128
  · rw [rbytes1 (by omega) g1] at *
    simp at h hn ⊢
    have e0 : b0 = x := by omega
    subst e0
    unfold Lib.decodeN
    rw [if_pos (by omega)]
  by_cases g2 : (x : Int) < 2048
  · rw [rbytes2 (by omega) g2] at *
    simp at h hn ⊢
    obtain ⟨h0, h1⟩ := h
    unfold Lib.decodeN
    rw [if_neg (by omega), if_pos (by omega), if_pos (by omega), Prod.mk.injEq]
    exact ⟨by omega, rfl⟩
  by_cases g3 : (x : Int) < 65536
  · rw [rbytes3 (by omega) g3 (by omega)] at *
    simp at h hn ⊢
    obtain ⟨h0, h1, h2⟩ := h
    unfold Lib.decodeN
    rw [if_neg (by omega), if_neg (by omega), if_pos (by omega), if_pos (by omega), Prod.mk.injEq]
    exact ⟨by omega, rfl⟩
  · rw [rbytes4 (by omega) (by omega)] at *
    simp at h hn ⊢
    obtain ⟨h0, h1, h2, h3⟩ := h
    unfold Lib.decodeN
    rw [if_neg (by omega), if_neg (by omega), if_neg (by omega), if_pos (by omega), if_pos (by omega), Prod.mk.injEq]
    exact ⟨by omega, rfl⟩
theorem rbytes_pos (x : Int) (h : inB 2 x = true) : 1 ≤ (rbytes x).length := by
  rcases rbytes_inv x _ rfl with ⟨_, e⟩ | ⟨e, _⟩ | ⟨e, _⟩ | ⟨e, _⟩ | ⟨e, _⟩
  · rw [e] at h; cases h
  all_goals rw [e]; simp
theorem get_nums (zs : List Int) (hz : ∀ z ∈ zs, 0 ≤ z ∧ z ≤ 255) (i : Nat) (hi : i < zs.length) : (((strOfNums zs).get! i).toNat : Int) = zs[i] := by
  have hs : i < (strOfNums zs).size := by rw [strOfNums_size]; exact hi
  have e : (strOfNums zs).get! i = (strOfNums zs)[i] := by have := get_at (strOfNums zs) i hs; simpa using this
  rw [e]
  have e2 : (strOfNums zs)[i] = UInt8.ofNat (zs[i]).toNat := by
    show (strOfNums zs).data[i]'_ = _
    simp [strOfNums]
  rw [e2, UInt8.toNat_ofNat']
  have := hz _ (List.getElem_mem hi)
  omega
theorem take_get! (zs : List Int) (hz : ∀ z ∈ zs, 0 ≤ z ∧ z ≤ 255) (p n : Nat) (hn : n ≤ 4) (h : p + n ≤ zs.length) : (zs.drop p).take n = ([(((strOfNums zs).get! p).toNat : Int), ((strOfNums zs).get! (p + 1)).toNat, ((strOfNums zs).get! (p + 2)).toNat, ((strOfNums zs).get! (p + 3)).toNat]).take n := by
  have e : ∀ i, i < n → (zs.drop p)[i]? = some (((strOfNums zs).get! (p + i)).toNat : Int) := fun i hi => by
    rw [List.getElem?_drop, get_nums zs hz (p + i) (by omega)]
    exact List.getElem?_eq_getElem (by omega)
  apply List.ext_getElem?
  intro i
  rw [List.getElem?_take, List.getElem?_take]
  split
  · rename_i hi
    rw [e i hi]
    match i, (show i < 4 by omega) with
    | 0, _ => rfl
    | 1, _ => rfl
    | 2, _ => rfl
    | 3, _ => rfl
  · rfl
theorem runes_back (pre xs : List Int) (hp : ∀ z ∈ pre, 0 ≤ z ∧ z ≤ 255) (hx : ∀ x ∈ xs, inB 2 x = true) : (runesAt (strOfNums (pre ++ encW xs)) pre.length).map (fun d => (d.1 : Int)) = xs := by
  induction xs generalizing pre with
  | nil =>
    rw [runesAt_end _ _ (by rw [strOfNums_size]; simp [encW])]
    rfl
  | cons x xs ih =>
    have hx0 := hx x (by simp)
    have hp0 := rbytes_pos x hx0
    have hl4 := rbytes_len x
    have hsm : ∀ z ∈ pre ++ encW (x :: xs), 0 ≤ z ∧ z ≤ 255 := by
      intro z hz
      rcases List.mem_append.1 hz with hz | hz
      · exact hp z hz
      · exact encW_small _ z hz
    have hlen : pre.length + (rbytes x).length ≤ (pre ++ encW (x :: xs)).length := by simp [encW]
    have ht := take_get! _ hsm pre.length (rbytes x).length hl4 hlen
    have ht2 : ((pre ++ encW (x :: xs)).drop pre.length).take (rbytes x).length = rbytes x := by
      rw [List.drop_left]
      simp [encW]
    rw [ht2] at ht
    obtain ⟨m, rfl⟩ : ∃ m : Nat, x = m := ⟨x.toNat, by have := (inB2_iff x).1 hx0; omega⟩
    have hd := dec_enc m hx0 ((strOfNums (pre ++ encW ((m : Int) :: xs))).size - pre.length) _ _ _ _ (by rw [strOfNums_size]; omega) ht
    rw [← Lib.decode_at] at hd
    rw [runesAt_step _ _ (by rw [strOfNums_size]; omega), hd]
    simp only [List.map_cons]
    congr 1
    have e : pre ++ encW ((m : Int) :: xs) = (pre ++ rbytes m) ++ encW xs := by simp [encW]
    rw [e]
    have := ih (pre ++ rbytes m) (by
      intro z hz
      rcases List.mem_append.1 hz with hz | hz
      · exact hp z hz
      · exact rbytes_small _ z hz) (fun y hy => hx y (by simp [hy]))
    rw [List.length_append] at this
    exact this
theorem runes_text (xs : List Int) (hx : xs.all (inB 2) = true) : runes (strOfNums (encW xs)) = xs := by
  have := runes_back [] xs (by simp) (fun x h => List.all_eq_true.1 hx x h)
  simpa [runes] using this
theorem front_more (xs : List Int) (x : Int) : front xs (xs ++ [x]) = xs.length := by
  induction xs with
  | nil => exact front_nil_left _
  | cons y ys ih => rw [List.cons_append, front_cons, if_pos rfl, ih]; simp
theorem cmpW_more (xs : List Int) (x : Int) : cmpW xs (xs ++ [x]) = -1 := by
  induction xs with
  | nil => rfl
  | cons y ys ih => rw [List.cons_append, cmpW, if_pos rfl, ih]
theorem cmpW_self (xs : List Int) : cmpW xs xs = 0 := by
  induction xs with
  | nil => rfl
  | cons y ys ih => rw [cmpW, if_pos rfl, ih]

/-- 'append(out, xs...)': the source nil, empty or not -/
theorem run_append_of_nil {P : Program} (w : World) (base : Nat) (t ty e : TypeId) (i : TypeInfo) (size : Nat) (ht : P.underlying t = some (.slice e)) (hi : P.info? e = some i)
    (v : Value) (n : Nat) (xs : List Value) (hown : w.ownsRow base e size v n xs) (c : Nat) : (Builtin.append_ #[t, t] ty #[v, .slice none 0 c]).run P w = .ok v w := by
  rcases hown.2 with ⟨rfl, rfl⟩ | ⟨g, cap, cur, rfl, _, _, hnc, _⟩
  · simp [Builtin.append_, run_underlying ht, sizeOf, typeInfo, hi, Builtin.lenOf, Builtin.firstCells]
  · simp [Builtin.append_, run_underlying ht, sizeOf, typeInfo, hi, Builtin.lenOf, Builtin.firstCells, hnc, storeCells]
theorem add_plain (b off j : Nat) : (⟨b, off, none⟩ : Addr).add j = ⟨b, off + j, none⟩ := by unfold Addr.add; split <;> simp_all
theorem run_append_sl {P : Program} (w : World) (base : Nat) (t ty e : TypeId) (i : TypeInfo) (z : Value) (size bytes : Nat) (ht : P.underlying t = some (.slice e)) (hi : P.info? e = some i) (hz : i.zero = some z)
    (hsize : i.size = size) (hby : i.bytes = bytes) (hzs : z.cells.size = size) (hsz : 0 < size)
    (v : Value) (n : Nat) (xs : List Value) (hown : w.ownsRow base e size v n xs)
    (A : Option Addr) (m c : Nat) (news : List Value) (hr : Sl w size A m news) (h1 : ∀ u ∈ news, u.oneCell' = true)
    (h63 : n + m ≤ maxLen) (hbytes : (n + m) * bytes ≤ 140737488355328) (hbase : base ≤ w.heap.size) :
    ∃ v' w', (Builtin.append_ #[t, t] ty #[v, .slice A m c]).run P w = .ok v' w' ∧ w'.ownsRow base e size v' (n + m) (xs ++ news) ∧ w.grownBy w' v.ownBlock := by
  rcases A with _ | ad
  · have hm : m = 0 := by
      rcases Nat.eq_zero_or_pos m with h0 | h0
      · exact h0
      · obtain ⟨b, off, h, _⟩ := hr.2 h0
        cases h
    subst hm
    have hn : news = [] := List.eq_nil_of_length_eq_zero (by simpa using hr.1)
    subst hn
    exact ⟨v, w, run_append_of_nil w base t ty e i size ht hi v n xs hown c, by simpa using hown, World.grownBy.refl w _⟩
  · have hcells : ∀ j u, news[j]? = some u → w.cell? (ad.add j) = some u := by
      intro j u hu
      rcases Nat.eq_zero_or_pos m with h0 | h0
      · subst h0
        have hn : news = [] := List.eq_nil_of_length_eq_zero (by simpa using hr.1)
        subst hn
        simp at hu
      · obtain ⟨b, off, h, hc⟩ := hr.2 h0
        cases h
        rw [add_plain]
        exact hc j u hu
    obtain ⟨v', w', hrun, h2, h3, _⟩ := run_append_own_at (P := P) w base t ty e i z size bytes ht hi hz hsize hby hzs hsz v n xs hown ad m c news hr.1 hcells h1 h63 hbytes hbase
    exact ⟨v', w', hrun, h2, h3⟩
theorem wpList_append_sl {P : Program} (w : World) {ops : Array Oper} {rest : List Oper} {o : Oper} {a : Act} {Q : Exit → Act → World → Prop} (hgd : o.guard = none) (s x : Operand) (t : TypeId)
    (ho : o.op = .call { callee := .builtin .append, args := #[s, x], argTypes := #[t, t] })
    (base : Nat) (e : TypeId) (i : TypeInfo) (z : Value) (size bytes : Nat) (ht : P.underlying t = some (.slice e)) (hi : P.info? e = some i) (hz : i.zero = some z)
    (hsize : i.size = size) (hby : i.bytes = bytes) (hzs : z.cells.size = size) (hsz : 0 < size)
    {v : Value} {n : Nat} {xs : List Value} (hown : w.ownsRow base e size v n xs) (hs : a.eval s = v)
    {A : Option Addr} {m c : Nat} {news : List Value} (hr : Sl w size A m news) (hx : a.eval x = .slice A m c) (h1 : ∀ u ∈ news, u.oneCell' = true)
    (h63 : n + m ≤ maxLen) (hbytes : (n + m) * bytes ≤ 140737488355328) (hbase : base ≤ w.heap.size)
    (h : ∀ v' w', w'.ownsRow base e size v' (n + m) (xs ++ news) → w.grownBy w' v.ownBlock → wpList P ops Q rest (a.put o.dst v') w') : wpList P ops Q (o :: rest) a w := by
  refine wpList_plain hgd fun _ hK => ?_
  obtain ⟨v', w', hrun, h2, h3⟩ := run_append_sl (P := P) w base t o.type e i z size bytes ht hi hz hsize hby hzs hsz v n xs hown A m c news hr h1 h63 hbytes hbase
  unfold Oper.wp execOp
  simp only [ho, resolve, invoke, builtin, Sem.run_bind, Sem.run_pure, Result.andThen_ok, List.map_toArray, List.map_cons, List.map_nil, hs, hx, hrun]
  exact hK _ _ (h v' w' h2 h3)
end Go.Proofs.Ytbllbifkckipdaa
