/- Bytes behind bytes in a row of one's own; contract of umlautlaw18.behind. Condition: the bytes are known. -/
import Derived.Test.YticfbbigljgjdaaStr18
import Derived.Test.YticfbbigljgjdaaAppend
namespace Go.Proofs.Yticfbbigljgjdaa
open Go.RowKit
set_option linter.unusedVariables false
set_option linter.unusedSimpArgs false
theorem wpList_appB {w : World} {ops : Array Oper} {rest : List Oper} {o : Oper} {a : Act} {Q : Exit → Act → World → Prop} (hgd : o.guard = none) (s x : Operand)
    (ho : o.op = .call { callee := .builtin .append, args := #[s, x], argTypes := #[30, 30] }) {base : Nat} {A : Option Addr} {n c : Nat} {xs : List Int} (hown : w.ownsRow base 5 1 (.slice A n c) n (xs.map (Value.int .u8)))
    (hs : a.eval s = .slice A n c) {B : Option Addr} {d m : Nat} {ys : List Int} (hr : BytesAt B ys w) (hm : m = ys.length) (hx : a.eval x = .slice B m d) (hb : n + m ≤ 1073741824) (hbase : base ≤ w.heap.size)
    (h : ∀ A' c' w', Hid (w'.ownsRow base 5 1 (.slice A' (n + m) c') (n + m) ((xs ++ ys).map (Value.int .u8))) → Hid (Below base w w') → wpList Try.prog ops Q rest (a.put o.dst (.slice A' (n + m) c')) w') : wpList Try.prog ops Q (o :: rest) a w := by
  subst hm
  obtain ⟨i, hi, hz0, hz1, hz2⟩ := info_parts info_u8
  have hsl := hr.sl
  rw [bytes_cells] at hsl
  refine wpList_append_sl w hgd s x 30 ho base 5 i _ 1 1 Try.underlying30 hi hz0 hz1 hz2 rfl (by decide) hown hs hsl hx (fun u hu => by obtain ⟨y, _, rfl⟩ := List.mem_map.1 hu; rfl) (by unfold maxLen; omega) (by omega) hbase ?_
  intro v' w' ho' hg'
  obtain ⟨A', c', rfl⟩ := own_shape ho'
  refine h A' c' w' (Lib.hid (by rw [List.map_append]; exact ho')) (Lib.hid ((Below.refl _ _).grown hg' hbase (fun k hk => (hown.lt k hk).1) |> fun q => q))
/-- bytes that are a table's: that table may be packed, and gives them again -/
theorem unpack_pack2 {l : List Int} (hu : U8s l) (h : UnpackOk l) (hl : l.length ≤ 16777216) : packB (tabOf l) = l ∧ (bodyB (tabOf l)).length ≤ 16777216 ∧ RPackOk (tabOf l) := by
  obtain ⟨h1, h2⟩ := pack_good hu h.1
  have hb : (bodyB (tabOf l)).length ≤ 16777216 := by have := pack_len (tabOf l); rw [h1] at this; omega
  have tf : ∀ t : TermL, TermFits t → FitsM t := fun t ⟨a, b, c, d, e, _, f⟩ => ⟨⟨a, b, c, d, e⟩, f⟩
  exact ⟨h1, hb, h.2, fun a ha t ht => tf t ((h2.af a ha).2.2.2 t ht), fun l hl t ht => tf t ((h2.ef l hl).2 t ht)⟩
section
variable {w0 w : World} {F : World → Prop}
set_option maxRecDepth 100000 in
set_option maxHeartbeats 16000000 in
theorem behind_st (hK : Hid (St w0 w F)) (A : Option Addr) (c : Nat) (l : List Int) (B : Option Addr) (d : Nat) (m : List Int) (hl : ∀ W, F W → BytesAt A l W) (hm : ∀ W, F W → BytesAt B m W) (hb : l.length + m.length ≤ 16777216) :
    Calls Try.prog 17 #[.slice A l.length c, .slice B m.length d] w (RetV w0 (.bool true) F) := by
  obtain ⟨z, hz⟩ : ∃ z, z = zeroT := ⟨_, rfl⟩
  have HZ : Hid ((Try.prog.info? 27).map (fun i => i.zero) = some (some (.agg z))) := Lib.hid (by rw [hz]; exact info_tabZ)
  have HZS : Hid (z.size = 259) := Lib.hid (by rw [hz]; exact zeroT_size)
  clear hz
  have HL : Hid (∀ W, Below w.heap.size w W → BytesAt A l W ∧ BytesAt B m W) := Lib.hid fun W hW => ⟨hl _ (hK.out.1 W hW), hm _ (hK.out.1 W hW)⟩
  clear hl hm
  have hln : l.length ≤ 16777216 := by omega
  have HB1 : Hid (Below w.heap.size w (w.alloc (.cells #[] 5))) := Lib.hid ((Below.refl _ _).alloc (Nat.le_refl _) _)
  have HO1 : Hid ((w.alloc (.cells #[] 5)).ownsRow w.heap.size 5 1 (.slice (some ⟨w.heap.size, 0, none⟩) 0 0) 0 (([] : List Int).map (Value.int .u8))) := Lib.hid (World.ownsRow_lit w #[] 0 (Nat.le_refl _) (by unfold maxLen; omega) rfl)
  have hs1 : w.heap.size ≤ (w.alloc (.cells #[] 5)).heap.size := by simp
  go_enter Try.func17, Try.ntmps17
  go_wp2_with (first
    | (at_builtin; refine wpList_appB rfl _ _ rfl HO1.out rfl (HL.out _ HB1.out).1 rfl rfl (by omega) hs1 ?_; intro A2 c2 w2 HO2 HB2; (rw [Nat.zero_add] at HO2 ⊢); (have HB3 := Lib.hid (HB1.out.trans HB2.out)))
    | (at_builtin; refine wpList_appB rfl _ _ rfl HO2.out rfl (HL.out _ HB3.out).2 rfl rfl (by omega) HB3.out.size ?_; intro A4 c4 w4 HO4 HB4; (have HB5 := Lib.hid (HB3.out.trans HB4.out))))
  obtain ⟨bs, hbs⟩ : ∃ bs, l ++ m = bs := ⟨_, rfl⟩
  obtain ⟨n, hn⟩ : ∃ n, l.length + m.length = n := ⟨_, rfl⟩
  have hbl : bs.length = n := by rw [← hbs, List.length_append, hn]
  rw [List.nil_append, hbs, hn] at HO4
  rw [hn]
  subst hbl
  have HU : Hid (U8s bs) := Lib.hid (by
    obtain ⟨g1, g2⟩ := HL.out _ (Below.refl _ _)
    rw [← hbs]; exact U8s.append g1.u8 g2.u8)
  have hcap := own_cap HO4.out
  have HBY : Hid (BytesAt A4 bs w4) := Lib.hid (BytesAt.of_own HO4.out HU.out (by omega))
  have HK4 : Hid (St w0 w4 (fun W => BytesAt A4 bs W ∧ F W)) := Lib.hid ((hK.out.step HB5.out).add (Below.refl _ _) fun W hW => HBY.out.below hW)
  clear hbs HO4 HB4 HO2 HB2 HO1 HB1 HB3 HB5 HBY hln hs1
  refine (Unpack_st HK4 A4 c4 bs (fun _ h => h.1) hcap (by omega)).mono ?_
  rintro e w5 ⟨ds, U, v, rfl, HDC, HK5, HSD⟩
  have HDS : Hid ((Try.prog.info? 27).map (·.size) = some ds.size) := Lib.hid (by rw [HDC.out.size]; exact info_tabS)
  have HD1 := Lib.hid (cells_one HDC.out)
  have HZD : Hid (z.size = ds.size) := Lib.hid (by rw [HZS.out, HDC.out.size])
  have HK6 := tab_box (cs := ds) HK5 z
  rcases HSD.out with ⟨rfl, hok, hul⟩ | ⟨rfl, hno, hzt⟩
  · obtain ⟨q1, q2, q3⟩ := unpack_pack2 HU.out hok (by omega)
    rw [← hul] at q1 q2 q3
    have HQ := Lib.hid (And.intro q1 (And.intro q2 q3))
    clear q1 q2 q3 HSD hok hul
    go_wp2_with (first
      | (refine wpList_allocZ rfl 27 rfl z HZ.out ?_)
      | (refine wpList_store_row rfl 27 _ _ rfl w5.heap.size ds rfl rfl 27 z (heap_alloc_new w5 _) HDS.out HZD.out HD1.out ?_)
      | (refine wpList_load_row rfl 27 _ rfl w5.heap.size rfl _ ds _ _ HK6.out.now.1 Try.underlying27 rfl HDS.out ?_))
    refine (rPack_st HK6 ds U HDC.out (fun _ h => h.2.1) HQ.out.2.1).mono ?_
    rintro e w7 (⟨hno2, _⟩ | ⟨_, A7, c7, rfl, HK7⟩)
    · exact absurd HQ.out.2.2 hno2
    have e1 := bytes_str c4 HK7.out.now.2.2.2.1
    have e2 := bytes_str c7 HK7.out.now.1
    rw [HQ.out.1] at e2 ⊢
    go_wp2_with fail
    go_ret
    exact ⟨rfl, Lib.hid (HK7.out.weaken fun _ h => h.2.2.2.2)⟩
  · clear HSD
    go_wp2_with (first
      | (refine wpList_allocZ rfl 27 rfl z HZ.out ?_)
      | (refine wpList_store_row rfl 27 _ _ rfl w5.heap.size ds rfl rfl 27 z (heap_alloc_new w5 _) HDS.out HZD.out HD1.out ?_))
    go_ret
    exact ⟨rfl, Lib.hid (HK6.out.weaken fun _ h => h.2.2.2)⟩
end
end Go.Proofs.Yticfbbigljgjdaa
