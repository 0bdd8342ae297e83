/- Contract of minterm.Split; the law's awake. Condition: the lists at hand are known, the family has fewer than 2^20 sets. -/
import Derived.Test.YtdaagdohhnhbdaaMinHelp
namespace Go.Proofs.Ytdaagdohhnhbdaa
open Go.RowKit
set_option linter.unusedVariables false
set_option linter.unusedSimpArgs false

noncomputable def stabS (P : List (List Sp)) : List (List Sp) := open Classical in if h : ∃ Q, StabRel P Q then Classical.choose h else []
theorem stabS_eq {P Q : List (List Sp)} (h : StabRel P Q) : stabS P = Q := by
  unfold stabS
  rw [dif_pos ⟨Q, h⟩]
  exact StabRel.unique (Classical.choose_spec (⟨Q, h⟩ : ∃ Q, StabRel P Q)) h
/-- parted by one set after another; none: there are too many -/
noncomputable def splitF : List (List Sp) → List (List Sp) → Option (List (List Sp))
  | out, [] => some out
  | out, s :: fam => if 1024 < (parts s [] out).length then none else splitF (stabS (parts s [] out)) fam
noncomputable def splitL (r : List Sp) (fam : List (List Sp)) : Option (List (List Sp)) := if r = [] then some [] else splitF [r] fam
theorem splitF_append (L M : List (List Sp)) (out : List (List Sp)) : splitF out (L ++ M) = (splitF out L).bind fun P => splitF P M := by
  induction L generalizing out with
  | nil => rfl
  | cons s L ih =>
    simp only [splitF, List.cons_append]
    split
    · rfl
    · exact ih _
theorem splitF_next {L : List (List Sp)} {k : Nat} {s : List Sp} {out P : List (List Sp)} (h : L[k]? = some s) (hP : splitF out (L.take k) = some P) :
    splitF out (L.take (k + 1)) = if 1024 < (parts s [] P).length then none else some (stabS (parts s [] P)) := by
  rw [take_snoc? h, splitF_append, hP]
  rfl
theorem splitF_none {L : List (List Sp)} {k : Nat} {out : List (List Sp)} (h : splitF out (L.take k) = none) : splitF out L = none := by
  have := splitF_append (L.take k) (L.drop k) out
  rw [List.take_append_drop, h] at this
  exact this
def RetSplit (w0 : World) (S : Option (List (List Sp))) (F : World → Prop) (e : Ending) (w' : World) : Prop :=
  (S = none ∧ e = .returned (.tuple #[.slice none 0 0, .int .i64 4]) ∧ Hid (St w0 w' F)) ∨
  (∃ A c O, S = some (bodies O) ∧ O.length ≤ 1024 ∧ e = .returned (.tuple #[.slice A O.length c, .int .i64 0]) ∧ Hid (St w0 w' (fun W => LL A O W ∧ F W)))

theorem St.litL {w0 w : World} {F : World → Prop} (hK : Hid (St w0 w F)) (its : List (Item Sp)) (h : ∀ W, F W → AllIt Lst its W) (cs : Array Value) (hcs : cs = (icells its).toArray) :
    Hid (St w0 (w.alloc (.cells cs 24)) (fun W => LL (some ⟨w.heap.size, 0, none⟩) its W ∧ F W)) := by
  subst hcs
  have hb : Below w.heap.size w (w.alloc (.cells (icells its).toArray 24)) := (Below.refl _ _).alloc (Nat.le_refl _) _
  refine Lib.hid (hK.out.add hb (fun W hW => ⟨⟨by rw [icells_length]; simp, fun hn => ⟨_, 0, rfl, fun j u hu => ?_⟩⟩, h W (hK.out.1 W (below_to hb hW))⟩))
  have hbk := heap_alloc_new w (.cells (icells its).toArray 24)
  rw [hW.cell (p := ⟨w.heap.size, 0 + j, none⟩) (by simp)]
  simp only [World.cell?, hbk]
  simpa using hu

section
variable {w0 w : World} {F : World → Prop} {A B : Option Addr} {L : List (Item Sp)} {a r : List Sp}
set_option maxRecDepth 100000 in
set_option maxHeartbeats 16000000 in
theorem Split_st (hK : Hid (St w0 w F)) (ha : ∀ W, F W → Lst A a W) (hb : ∀ W, F W → LL B L W) (hn : L.length < 1048576) (c d : Nat) (hr : Hid (Rep r (Mem a))) :
    Calls Try.prog 40 #[.slice A a.length c, .slice B L.length d] w (RetSplit w0 (splitL r (bodies L)) F) := by
  go_enter Try.func40, Try.ntmps40
  go_wp2_with fail
  refine (Norm_st hK (fun _ h => ha _ h) _ hr).mono ?_
  rintro e w1 ⟨A1, c1, rfl, HK⟩
  have HK := St.litL HK [(A1, c1, r)] (fun W h i hi => by simp at hi; subst hi; exact h.1) #[.slice A1 r.length c1] rfl
  obtain ⟨gb, off, xa, xc, x, hA, hx, hc, _⟩ := HK.out.now.1.at_ (j := 0) (by simp)
  injection hA with hA
  injection hA with h1 h2 h3
  subst h1; subst h2
  simp at hx
  obtain ⟨rfl, rfl, rfl⟩ := hx
  by_cases hre : r = []
  · subst hre
    have HK2 : Hid (St w0 (w1.alloc (.cells #[.slice A1 ([] : List Sp).length c1] 24)) F) := Lib.hid (HK.out.weaken fun W h => h.2.2)
    clear HK
    go_wp2_with fail
    go_ret2
    exact .inr ⟨none, 0, [], by unfold splitL; rw [if_pos rfl]; rfl, by simp, rfl, Lib.hid (HK2.out.add (Below.refl _ _) (fun W hW => Items.nil_ _ _ _))⟩
  have hrl : ((r.length : Int) == 0) = false := by
    rw [beq_eq_false_iff_ne]
    have := List.length_pos_iff.2 hre
    omega
  have HS0 : Hid (splitL r (bodies L) = splitF [r] (bodies L)) := by unfold Hid splitL; rw [if_neg hre]
  clear hre
  go_wp2_with fail
  go_loopw [6, 20] (fun ov iv wr => ∃ (k : Nat) (O : List (Item Sp)) (Ao : Option Addr) (co : Nat), k ≤ L.length ∧ iv = .int .i64 k ∧ ov = .slice Ao O.length co ∧ O.length ≤ 1024 ∧ Hid (splitF [r] ((bodies L).take k) = some (bodies O)) ∧ Hid (St w0 wr (fun W => LL Ao O W ∧ F W))) (fun _ iv _ => L.length - (intOf iv).toNat)
  case atStart => exact ⟨0, [(A1, c1, r)], _, 1, Nat.zero_le _, rfl, rfl, by simp, Lib.hid rfl, Lib.hid (HK.out.weaken fun W h => ⟨h.1, h.2.2⟩)⟩
  case round =>
  obtain ⟨k, O, Ao, co, hk, rfl, rfl, hol, HP, HK⟩ := hrel
  by_cases hlt : k < L.length
  · obtain ⟨gs, offs, sa, sc, s, hS, hx, hcs, hwd⟩ := (hb _ HK.out.now.2).at_ hlt
    have hbk : (bodies L)[k]? = some s := by unfold bodies; rw [List.getElem?_map, hx]; rfl
    have HBK := Lib.hid hbk
    have HK2 := Lib.hid (HK.out.add (Below.refl _ _) (G := Lst sa s) (fun W hW => hwd.below hW))
    have HN := Lib.hid (splitF_next hbk HP.out)
    subst hS
    clear hx hbk hwd hc
    go_wp2_with fail
    refine (Refine_st HK2 (fun _ h => h.2.1) (fun _ h => h.1) (by omega) _ _).mono ?_
    rintro e w2 hR
    rcases hR with ⟨hbig, rfl, HK3⟩ | ⟨hsm, A3, c3, O3, rfl, HST, HK3⟩
    · have HNN : Hid (splitL r (bodies L) = none) := by
        unfold Hid
        rw [HS0.out]
        exact splitF_none (k := k + 1) (by rw [HN.out, if_pos hbig])
      go_wp2_with fail
      go_ret2
      exact .inl ⟨HNN.out, rfl, Lib.hid (HK3.out.weaken fun W h => h.2.2)⟩
    · have HNN : Hid (splitF [r] ((bodies L).take (k + 1)) = some (bodies O3)) := by
        unfold Hid
        rw [HN.out, if_neg (by omega), stabS_eq HST.out]
      have hl3 : O3.length ≤ 1024 := by
        have := HST.out.len
        rw [bodies_length] at this
        omega
      go_wp2_with fail
      exact ⟨⟨k + 1, O3, A3, c3, by omega, by go_num, rfl, hl3, HNN, Lib.hid (HK3.out.weaken fun W h => ⟨h.1, h.2.2.2⟩)⟩, by simp [intOf]; omega⟩
  · obtain rfl : k = L.length := by omega
    have hd : decide (L.length < L.length) = false := by simp
    have HPA : Hid (splitL r (bodies L) = some (bodies O)) := by
      unfold Hid
      rw [HS0.out, ← HP.out, ← bodies_length (L := L), List.take_length]
    go_wp2_with fail
    go_ret2
    exact .inr ⟨Ao, co, O, HPA.out, hol, rfl, HK⟩
end

theorem meetL_eq {a b r : List Sp} (h : Rep r (fun x => Mem a x ∧ Mem b x)) : meetL a b = r := Rep.unique (meetL_rep a b).out h (fun _ => Iff.rfl)
theorem minusL_eq {a b r : List Sp} (h : Rep r (fun x => Mem a x ∧ ¬ Mem b x)) : minusL a b = r := Rep.unique (minusL_rep a b).out h (fun _ => Iff.rfl)
theorem awake_split : splitL [(0, 9)] [[(2, 5)], [(4, 7)]] = some [[(0, 1), (8, 9)], [(2, 3)], [(4, 5)], [(6, 7)]] := by
  have m1 : meetL [(0, 9)] [(2, 5)] = [(2, 5)] := meetL_eq ⟨by simp [Plain, PlainF], fun x => by simp only [InS, Mem, or_false]; omega⟩
  have d1 : minusL [(0, 9)] [(2, 5)] = [(0, 1), (6, 9)] := minusL_eq ⟨by simp [Plain, PlainF], fun x => by simp only [InS, Mem, or_false]; omega⟩
  have m2 : meetL [(0, 1), (6, 9)] [(4, 7)] = [(6, 7)] := meetL_eq ⟨by simp [Plain, PlainF], fun x => by simp only [InS, Mem, or_false]; omega⟩
  have d2 : minusL [(0, 1), (6, 9)] [(4, 7)] = [(0, 1), (8, 9)] := minusL_eq ⟨by simp [Plain, PlainF], fun x => by simp only [InS, Mem, or_false]; omega⟩
  have m3 : meetL [(2, 5)] [(4, 7)] = [(4, 5)] := meetL_eq ⟨by simp [Plain, PlainF], fun x => by simp only [InS, Mem, or_false]; omega⟩
  have d3 : minusL [(2, 5)] [(4, 7)] = [(2, 3)] := minusL_eq ⟨by simp [Plain, PlainF], fun x => by simp only [InS, Mem, or_false]; omega⟩
  have p1 : parts [(2, 5)] [] [[(0, 9)]] = [[(2, 5)], [(0, 1), (6, 9)]] := by simp [parts, m1, d1, addL]
  have s1 : stabS [[(2, 5)], [(0, 1), (6, 9)]] = [[(0, 1), (6, 9)], [(2, 5)]] := stabS_eq ⟨[1, 0], by decide, by simp, by simp [keyS]⟩
  have p2 : parts [(4, 7)] [] [[(0, 1), (6, 9)], [(2, 5)]] = [[(6, 7)], [(0, 1), (8, 9)], [(4, 5)], [(2, 3)]] := by simp [parts, m2, d2, m3, d3, addL]
  have s2 : stabS [[(6, 7)], [(0, 1), (8, 9)], [(4, 5)], [(2, 3)]] = [[(0, 1), (8, 9)], [(2, 3)], [(4, 5)], [(6, 7)]] := stabS_eq ⟨[1, 3, 2, 0], by decide, by simp, by simp [keyS]⟩
  unfold splitL
  rw [if_neg (by simp)]
  simp only [splitF]
  rw [p1, if_neg (by simp), s1, p2, if_neg (by simp), s2]
theorem rep_aw5 : Rep [(0, 9)] (Mem [(0, 9)]) := Rep.self (by simp [Plain, PlainF])
theorem class_aw5 : classI [[(0, 1), (8, 9)], [(2, 3)], [(4, 5)], [(6, 7)]] 6 = 3 := by decide
set_option maxRecDepth 100000 in
set_option maxHeartbeats 8000000 in
theorem awake05_st {w0 w : World} {F : World → Prop} (hK : Hid (St w0 w F)) : Calls Try.prog 39 #[] w (RetV w0 (.bool true) F) := by
  have HR := Lib.hid rep_aw5
  have HA := Lib.hid awake_split
  have HCL := Lib.hid class_aw5
  have HK1 := St.lit hK (0, 9) (by intro p hp; simp at hp; subst hp; simp)
  have HK2 := St.lit HK1 (2, 5) (by intro p hp; simp at hp; subst hp; simp)
  have z1 : (w.alloc (.cells #[.int .i64 (0, 9).1, .int .i64 (0, 9).2] 34)).heap.size = w.heap.size + 1 := by simp
  have z2 : ((w.alloc (.cells #[.int .i64 (0, 9).1, .int .i64 (0, 9).2] 34)).alloc (.cells #[.int .i64 (2, 5).1, .int .i64 (2, 5).2] 34)).heap.size = w.heap.size + 1 + 1 := by simp
  have z3 : (((w.alloc (.cells #[.int .i64 (0, 9).1, .int .i64 (0, 9).2] 34)).alloc (.cells #[.int .i64 (2, 5).1, .int .i64 (2, 5).2] 34)).alloc (.cells #[.int .i64 (4, 7).1, .int .i64 (4, 7).2] 34)).heap.size = w.heap.size + 1 + 1 + 1 := by simp
  have HK3 := St.lit HK2 (4, 7) (by intro p hp; simp at hp; subst hp; simp)
  rw [z1, z2] at HK3
  have HK4 := St.litL HK3 [(some ⟨w.heap.size + 1, 0, none⟩, 1, [(2, 5)]), (some ⟨w.heap.size + 1 + 1, 0, none⟩, 1, [(4, 7)])] (fun W h i hi => by
    simp at hi
    rcases hi with rfl | rfl
    · exact h.2.1
    · exact h.1) #[.slice (some ⟨w.heap.size + 1, 0, none⟩) 1 1, .slice (some ⟨w.heap.size + 1 + 1, 0, none⟩) 1 1] rfl
  rw [z3] at HK4
  clear HK1 HK2 HK3 z1 z2 z3
  go_enter Try.func39, Try.ntmps39
  go_wp2_with fail
  refine (Split_st HK4 (fun _ h => h.2.2.2.1) (fun _ h => h.1) (by simp) _ _ HR).mono ?_
  rintro e w1 hS
  rcases hS with ⟨hs, _⟩ | ⟨A, c, O, hs, hol, rfl, HK⟩
  · rw [show bodies [((some ⟨w.heap.size + 1, 0, none⟩, 1, [(2, 5)]) : Item Sp), (some ⟨w.heap.size + 1 + 1, 0, none⟩, 1, [(4, 7)])] = [[(2, 5)], [(4, 7)]] from rfl, HA.out] at hs
    cases hs
  rw [show bodies [((some ⟨w.heap.size + 1, 0, none⟩, 1, [(2, 5)]) : Item Sp), (some ⟨w.heap.size + 1 + 1, 0, none⟩, 1, [(4, 7)])] = [[(2, 5)], [(4, 7)]] from rfl, HA.out] at hs
  injection hs with hs
  have hl4 : O.length = 4 := by rw [← bodies_length, ← hs]; rfl
  have HBO := Lib.hid hs
  have HL := HK.out.now.1
  obtain ⟨b, off, a0, c0, l0, rfl, hx, hc, hw⟩ := HL.at_ (j := 0) (by omega)
  have hb0 : (bodies O)[0]? = some l0 := by unfold bodies; rw [List.getElem?_map, hx]; rfl
  rw [← hs] at hb0
  simp at hb0
  subst hb0
  obtain ⟨b1, off1, p, rfl, hp, hd1, hd2⟩ := hw.sp.at_ (j := 1) (by simp)
  simp at hp
  subst hp
  simp only [Nat.one_mul] at hd1 hd2
  rw [Nat.add_zero] at hc
  simp only [List.length_cons, List.length_nil] at hc
  have hq := eqlSpan (8, 9) (8, 9) true rfl
  have HC6 : Hid (classI (bodies O) 6 = 3) := by unfold Hid; rw [← hs]; exact HCL.out
  clear hx hw HL hs
  have HCC := Class_st HK (fun _ h => h.1) (by omega) c 6 HC6.out
  rw [hl4] at HCC ⊢
  have HCD := Lib.hid HCC
  clear HCC
  go_wp2_with fail
  refine HCD.out.mono ?_
  rintro e w2 ⟨rfl, HK5⟩
  go_wp2_with fail
  go_ret
  exact ⟨rfl, Lib.hid (HK5.out.weaken fun W h => h.2.2.2.2.2)⟩
end Go.Proofs.Ytdaagdohhnhbdaa
