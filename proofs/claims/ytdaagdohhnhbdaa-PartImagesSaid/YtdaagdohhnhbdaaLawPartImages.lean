/- umlautlaw03.PartImages: the walk. The values of all numbers of any set, and whether they are one, are the document's. Condition: none beyond the row's own. -/
import Derived.Test.YtdaagdohhnhbdaaLift03
namespace Go.Proofs.Ytdaagdohhnhbdaa
open Go.RowKit Go.Shelf
set_option linter.unusedVariables false
set_option linter.unusedSimpArgs false

/-- the values of a short list's numbers make a list that isn't long -/
theorem img_len {d t u : Int} {l r : List Sp} (hr : Rep r (ImgS d t u l)) (hl : l.length ≤ 50) : r.length < 1048576 := by
  by_cases hb : bitsB d t u = true
  · obtain ⟨b1, b2, b3, b4, b5, b6, b7⟩ := (bitsB_iff _ _ _).1 hb
    have hT := pw_pos t
    have hD := pw_pos d
    by_cases hu : u = 0
    · subst hu
      have e0 : ∀ x, pval d t 0 x = x / pw d % pw t := fun x => by show x / pw d % pw t * 1 = _; rw [Int.mul_one]
      by_cases hc : t = 21 ∧ d = 0
      · obtain ⟨rfl, rfl⟩ := hc
        have e1 : ∀ x, 0 ≤ x → x ≤ 2097151 → pval 0 21 0 x = x := fun x h0 h1 => by rw [e0]; show x / 1 % 2097152 = x; omega
        have := Rep.len_le (l := l.map fun p => (max p.1 0, min p.2 2097151)) (hr.congr (T := Mem (l.map fun p => (max p.1 0, min p.2 2097151))) fun y => by
          unfold ImgS
          rw [hb]
          have q : InS (l.map fun p => (max p.1 0, min p.2 2097151)) y ↔ (InS l y ∧ 0 ≤ y ∧ y ≤ 2097151) := by
            rw [InS_iff, InS_iff]
            constructor
            · rintro ⟨p, hp, g1, g2⟩
              obtain ⟨q, hq, rfl⟩ := List.mem_map.1 hp
              simp only at g1 g2
              exact ⟨⟨q, hq, by omega, by omega⟩, by omega, by omega⟩
            · rintro ⟨⟨p, hp, g1, g2⟩, g3, g4⟩
              exact ⟨_, List.mem_map.2 ⟨p, hp, rfl⟩, by simp only; omega, by simp only; omega⟩
          unfold Mem
          rw [q]
          constructor
          · rintro ⟨_, x, ⟨g1, g2, g3⟩, g4, g5, rfl⟩
            rw [e1 x g4 g5]
            exact ⟨g1, g2, g3, g4, g5⟩
          · rintro ⟨g1, g2, g3, g4, g5⟩
            exact ⟨rfl, y, ⟨g1, g2, g3⟩, g4, g5, e1 y g4 g5⟩)
        rw [List.length_map] at this
        omega
      · have hv : ∀ x, 0 ≤ x → x ≤ 2097151 → pval d t 0 x ≤ 1048575 ∧ 0 ≤ pval d t 0 x := fun x h0 h1 => by
          rw [e0]
          have m0 := Int.emod_nonneg (x / pw d) (b := pw t) (by omega)
          have m1 := Int.emod_lt_of_pos (x / pw d) (b := pw t) (by omega)
          refine ⟨?_, m0⟩
          by_cases ht : t = 21
          · have hd : 1 ≤ d := by omega
            have hd2 : 2 ≤ pw d := pw_mono (m := 1) (by omega) hd
            have q0 : 0 ≤ x / pw d := Int.ediv_nonneg h0 (by omega)
            have q1 : x / pw d ≤ 1048575 := by
              have h2 : x / pw d * pw d ≤ x := Int.ediv_mul_le x (by omega)
              have h3 : x / pw d * 2 ≤ x / pw d * pw d := Int.mul_le_mul_of_nonneg_left hd2 q0
              omega
            by_cases hq : x / pw d < pw t
            · rw [Int.emod_eq_of_lt q0 hq]; exact q1
            · omega
          · have : pw t ≤ 1048576 := pw_mono (n := 20) (by omega) (by omega)
            omega
        have := PlainF.len_in hr.1 (lo := 0) (hi := 1048575) (fun y hy => by
          obtain ⟨_, x, _, g1, g2, rfl⟩ := (hr.2 y).1 hy; exact (hv x g1 g2).2) (fun y hy => by
          obtain ⟨_, x, _, g1, g2, rfl⟩ := (hr.2 y).1 hy; exact (hv x g1 g2).1) (by omega)
        omega
    · have ht6 : t ≤ 6 := by rcases b7 with h | h; exact absurd h hu; exact h
      have hT6 := pw_le6 (n := t) (by omega) ht6
      classical
      have := Rep.len_le (l := (((List.range 64).filter fun z : Nat => decide (ImgS d t u l ((z : Int) * pw u))).map fun z : Nat => ((z : Int) * pw u, (z : Int) * pw u))) (hr.congr (T := Mem (((List.range 64).filter fun z : Nat => decide (ImgS d t u l ((z : Int) * pw u))).map fun z : Nat => ((z : Int) * pw u, (z : Int) * pw u))) fun y => by
        constructor
        · intro hy
          have hy' := hy
          obtain ⟨_, x, _, g1, g2, rfl⟩ := hy
          have m0 := Int.emod_nonneg (x / pw d) (b := pw t) (by omega)
          have m1 := Int.emod_lt_of_pos (x / pw d) (b := pw t) (by omega)
          have hbd := pval_bd hb x
          refine ⟨by omega, by omega, (InS_iff _ _).2 ⟨(pval d t u x, pval d t u x), List.mem_map.2 ⟨(x / pw d % pw t).toNat, List.mem_filter.2 ⟨List.mem_range.2 (by omega), ?_⟩, ?_⟩, Int.le_refl _, Int.le_refl _⟩⟩
          · rw [decide_eq_true_eq, Int.toNat_of_nonneg m0]; exact hy'
          · rw [Int.toNat_of_nonneg m0]; rfl
        · rintro ⟨_, _, hy⟩
          obtain ⟨p, hp, g1, g2⟩ := (InS_iff _ _).1 hy
          obtain ⟨z, hz, rfl⟩ := List.mem_map.1 hp
          have := (List.mem_filter.1 hz).2
          rw [decide_eq_true_eq] at this
          simp only at g1 g2
          obtain rfl : y = (z : Int) * pw u := by omega
          exact this)
      rw [List.length_map] at this
      have h2 := List.length_filter_le (fun z : Nat => decide (ImgS d t u l ((z : Int) * pw u))) (List.range 64)
      rw [List.length_range] at h2
      omega
  · have : r = [] := rep_none hr fun x h => hb h.1
    subst this; simp

set_option maxRecDepth 100000 in
set_option maxHeartbeats 16000000 in
theorem PartImages_walk (p0 p1 p2 p3 : Int) (As : Option Addr) (ns cs : Nat) (s : List Sp) (w : World)
    (wp : (Lit.int .i64 p0).wf = true ∧ (Lit.int .i64 p1).wf = true ∧ (Lit.int .i64 p2).wf = true ∧ (Lit.int .i64 p3).wf = true)
    (hss : Spans w As ns s) (hws : SpW s) (hns : ns ≤ 9223372036854775807) :
    Calls Try.prog 7 #[.agg #[.int .i64 p0, .int .i64 p1, .int .i64 p2, .int .i64 p3], .slice As ns cs] w fun e w' => e = .returned (.bool true) ∧ Below w.heap.size w w' := by
  obtain rfl := hss.len
  clear wp
  rcases hbig : big3 s.length 0 with _ | _
  · obtain ⟨h50, h8⟩ := big3_no hbig
    have HBG := Lib.hid hbig
    have HK : Hid (St w w (fun W => Lst As s W ∧ True)) := Lib.hid (St.start (fun W hW => ⟨⟨hss.below hW, hws, by omega⟩, trivial⟩))
    have HK := St.pbox HK p0 p1 p2 p3
    obtain ⟨r, Rr⟩ := rep_img p1 p2 p3 s
    have hrl := img_len Rr.out h50
    have RS : Hid (Rep r (Mem r)) := Lib.hid (Rep.self Rr.out.1)
    obtain ⟨cc, hcc⟩ : ∃ c, cnt r = c := ⟨_, rfl⟩
    have HCC := Lib.hid hcc
    clear hbig hss hns hcc
    go_enter Try.func7, Try.ntmps7
    go_wp2_with fail
    refine (great03_st HK s.length 0 _ _ HBG.out).mono ?_
    rintro e w1 ⟨rfl, HK⟩
    obtain ⟨hp0, hp1, hp2, hp3⟩ := HK.out.now.1
    go_wp2_with fail
    refine (rImage_st HK (fun _ h => h.2.1) (by omega) _ p0 p1 p2 p3 Rr).mono ?_
    rintro e w2 ⟨A2, c2, rfl, HK⟩
    clear hp0 hp1 hp2 hp3
    obtain ⟨hp0, hp1, hp2, hp3⟩ := HK.out.now.2.1
    go_wp2_with fail
    refine (Image_st HK (fun _ h => h.2.2.1) _ p0 p1 p2 p3 Rr).mono ?_
    rintro e w3 ⟨A3, c3, rfl, HK⟩
    clear hp0 hp1 hp2 hp3
    go_wp2_with fail
    refine (Same_st HK (fun _ h => h.1) (fun _ h => h.2.1) _ _ (decide_eq_true rfl)).mono ?_
    rintro e w4 ⟨rfl, HK⟩
    obtain ⟨hp0, hp1, hp2, hp3⟩ := HK.out.now.2.2.1
    go_wp2_with fail
    refine (PSame_st HK (fun _ h => h.2.2.2.1) _ p0 p1 p2 p3 Rr (v := decide (cc ≤ 1)) (by rw [HCC.out])).mono ?_
    rintro e w5 ⟨rfl, HK⟩
    clear hp0 hp1 hp2 hp3
    go_wp2_with fail
    refine (rCount_st HK (fun _ h => h.2.1) hrl _ RS).mono ?_
    rintro e w6 ⟨rfl, HK⟩
    rw [HCC.out]
    go_wp2_with fail
    refine (awake03_st HK).mono ?_
    rintro e w7 ⟨rfl, HK⟩
    go_wp2_with fail
    go_ret
    exact ⟨rfl, HK.out.2⟩
  · have HBG := Lib.hid hbig
    have HK : Hid (St w w (fun W => True)) := Lib.hid (St.start (fun W hW => trivial))
    have HK := St.pbox HK p0 p1 p2 p3
    clear hbig hss hns
    go_enter Try.func7, Try.ntmps7
    go_wp2_with fail
    refine (great03_st HK s.length 0 _ _ HBG.out).mono ?_
    rintro e w1 ⟨rfl, HK⟩
    go_wp2_with fail
    refine (awake03_st HK).mono ?_
    rintro e w2 ⟨rfl, HK⟩
    go_wp2_with fail
    go_ret
    exact ⟨rfl, HK.out.2⟩
end Go.Proofs.Ytdaagdohhnhbdaa
