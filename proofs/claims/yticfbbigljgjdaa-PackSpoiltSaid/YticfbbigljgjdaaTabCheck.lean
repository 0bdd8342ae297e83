/- Contract of table.Check. Condition: the table is known. -/
import Derived.Test.YticfbbigljgjdaaTabNode
import Derived.Lib.MinMax
namespace Go.Proofs.Yticfbbigljgjdaa
open Go.RowKit
set_option linter.unusedVariables false
set_option linter.unusedSimpArgs false

def NodesTo (T : TabL) (k : Nat) (l : List NodeI) (m : Nat) : Prop := ∀ i ∈ l.take m, NodeOk T k i.L
theorem NodesTo.all {T : TabL} {k : Nat} {l : List NodeI} (h : NodesTo T k l l.length) : ∀ n ∈ l.map NodeI.L, NodeOk T k n := fun t ht => by
  obtain ⟨i, hi, rfl⟩ := List.mem_map.1 ht
  exact h i (by rwa [List.take_length])
theorem NodesTo.next {T : TabL} {k : Nat} {l : List NodeI} {m : Nat} {i : NodeI} (h : NodesTo T k l m) (hx : l[m]? = some i) (hi : NodeOk T k i.L) : NodesTo T k l (m + 1) := fun q hq => by
  rw [take_snoc? hx] at hq
  rcases List.mem_append.1 hq with hq | hq
  · exact h q hq
  · simp at hq; subst hq; exact hi
theorem NodeW.below {n : NodeI} {w w' : World} (h : NodeW n w) (hb : Below w.heap.size w w') : NodeW n w' := NodeW.stays _ _ _ h hb
/-- all nodes are right -/
def NodesOk (T : TabL) (k : Nat) : Prop := ∀ n ∈ T.nodes, NodeOk T k n
section
variable {w0 w : World} {F : World → Prop}
set_option maxRecDepth 100000 in
set_option maxHeartbeats 16000000 in
theorem check1_st (hK : Hid (St w0 w F)) (cs : Array Value) (T : TabI) (hC : TabC cs T) (ht : ∀ W, F W → TabW T W) (n : NodeI) (hn : ∀ W, F W → NodeW n W) (tb kb : Nat) (k : Nat)
    (htb : ∀ W, F W → TabBox tb cs W) (hkb : ∀ W, F W → BoxC kb [.int .i64 (k : Int)] W) (v : Bool) (hv : Hid (pB (NodeOk T.L k n.L) = v))
    (hl1 : T.ns.length ≤ 4096) (hl2 : T.acts.length ≤ 4096) (hl3 : T.es.length ≤ 4096) (hl4 : k ≤ 256) :
    Calls Try.prog 31 #[.agg #[.int .i64 n.h, .slice n.na n.nx.length n.nc, .int .i64 n.e], .pointer (some ⟨tb, 0, none⟩), .pointer (some ⟨kb, 0, none⟩)] w (RetV w0 (.bool (!v)) F) := by
  have HK := St.box hK [.int .i64 n.h, .slice n.na n.nx.length n.nc, .int .i64 n.e] 47
  have HN := Lib.hid hn
  have HT := Lib.hid ht
  have hc := hkb _ HK.out.now.2 0 _ rfl
  have hh := htb _ HK.out.now.2
  have hin : (Try.prog.info? 27).map (·.size) = some cs.size := by rw [hC.size]; kernel_rfl
  have HH := Lib.hid hh
  have HI := Lib.hid hin
  clear hn ht hkb htb hh hin
  go_enter Try.func31, Try.ntmps31
  go_wp2_with (refine wpList_load_row rfl 27 _ rfl tb rfl _ cs _ _ HH.out Try.underlying27 rfl HI.out ?_)
  refine (node_st HK cs T hC (fun _ h => HT.out _ h.2) n (fun _ h => HN.out _ h.2) k v hv hl1 hl2 hl3 hl4).mono ?_
  rintro e w1 ⟨rfl, HK1⟩
  cases v
  all_goals
    go_wp2_with fail
    go_ret
    exact ⟨rfl, Lib.hid (HK1.out.weaken fun _ h => h.2)⟩
set_option maxRecDepth 100000 in
set_option maxHeartbeats 16000000 in
theorem indexN_st (hK : Hid (St w0 w F)) (cs : Array Value) (T : TabI) (hC : TabC cs T) (ht : ∀ W, F W → TabW T W) (tb kb : Nat) (k : Nat)
    (htb : ∀ W, F W → TabBox tb cs W) (hkb : ∀ W, F W → BoxC kb [.int .i64 (k : Int)] W) (v : Bool) (hv : Hid (pB (NodesOk T.L k) = v))
    (hl1 : T.ns.length ≤ 4096) (hl2 : T.acts.length ≤ 4096) (hl3 : T.es.length ≤ 4096) (hl4 : k ≤ 256) :
    Calls Try.prog 38 #[.slice T.na T.ns.length T.nc, .func (.func 31) #[] #[.pointer (some ⟨tb, 0, none⟩), .pointer (some ⟨kb, 0, none⟩)]] w (RetIx w0 v F) := by
  have HT := Lib.hid ht
  have HTB := Lib.hid htb
  have HKB := Lib.hid hkb
  clear ht htb hkb
  go_enter Try.func38, Try.ntmps38
  go_wp2_with fail
  go_loopw [8] (fun i wr => ∃ m : Nat, m ≤ T.ns.length ∧ i = .int .i64 m ∧ Hid (NodesTo T.L k T.ns m) ∧ Hid (St w0 wr F)) (fun i _ => T.ns.length - (intOf i).toNat)
  case atStart => exact ⟨0, Nat.zero_le _, rfl, Lib.hid (fun i hi => by simp at hi), hK⟩
  case round =>
  obtain ⟨m, hm, rfl, HR, HK⟩ := hrel
  by_cases hlt : m < T.ns.length
  · obtain ⟨pb, off, n, hA, hx, hw, hd0, hd1, hd2⟩ := (HT.out _ HK.out.now).nodes.at_ hlt
    have HX := Lib.hid hx
    have HKi := Lib.hid (HK.out.add (Below.refl _ _) (G := NodeW n) (fun W hW => hw.below hW))
    rw [hA]
    clear hx hw
    by_cases a2 : NodeOk T.L k n.L
    · have H2 := Lib.hid (pB_true a2)
      have HR2 := Lib.hid (HR.out.next HX.out a2)
      clear a2
      go_wp2_with fail
      refine (check1_st HKi cs T hC (fun _ h => HT.out _ h.2) n (fun _ h => h.1) tb kb k (fun _ h => HTB.out _ h.2) (fun _ h => HKB.out _ h.2) true H2 hl1 hl2 hl3 hl4).mono ?_
      rintro e w1 ⟨rfl, HK1⟩
      go_wp2_with fail
      exact ⟨⟨m + 1, by omega, by go_num, HR2, Lib.hid (HK1.out.weaken fun _ h => h.2)⟩, by simp [intOf]; omega⟩
    · have H2 := Lib.hid (pB_false a2)
      obtain rfl := pB_f hv (fun h => a2 (h _ (List.mem_map.2 ⟨n, List.mem_of_getElem? HX.out, rfl⟩)))
      clear a2
      go_wp2_with fail
      refine (check1_st HKi cs T hC (fun _ h => HT.out _ h.2) n (fun _ h => h.1) tb kb k (fun _ h => HTB.out _ h.2) (fun _ h => HKB.out _ h.2) false H2 hl1 hl2 hl3 hl4).mono ?_
      rintro e w1 ⟨rfl, HK1⟩
      go_wp2_with fail
      go_ret
      exact ⟨m, rfl, .inr ⟨rfl, by omega⟩, Lib.hid (HK1.out.weaken fun _ h => h.2)⟩
  · obtain rfl : m = T.ns.length := by omega
    have hd : decide (T.ns.length < T.ns.length) = false := by simp
    obtain rfl := pB_t hv HR.out.all
    go_wp2_with fail
    go_ret
    exact ⟨-1, rfl, .inl ⟨rfl, rfl⟩, HK⟩
set_option maxHeartbeats 16000000 in
theorem containsN_st (hK : Hid (St w0 w F)) (cs : Array Value) (T : TabI) (hC : TabC cs T) (ht : ∀ W, F W → TabW T W) (tb kb : Nat) (k : Nat)
    (htb : ∀ W, F W → TabBox tb cs W) (hkb : ∀ W, F W → BoxC kb [.int .i64 (k : Int)] W) (v : Bool) (hv : Hid (pB (NodesOk T.L k) = v))
    (hl1 : T.ns.length ≤ 4096) (hl2 : T.acts.length ≤ 4096) (hl3 : T.es.length ≤ 4096) (hl4 : k ≤ 256) :
    Calls Try.prog 30 #[.slice T.na T.ns.length T.nc, .func (.func 31) #[] #[.pointer (some ⟨tb, 0, none⟩), .pointer (some ⟨kb, 0, none⟩)]] w (RetV w0 (.bool (!v)) F) := by
  have HT := Lib.hid ht
  have HTB := Lib.hid htb
  have HKB := Lib.hid hkb
  clear ht htb hkb
  go_enter Try.func30, Try.ntmps30
  go_wp2_with fail
  refine (indexN_st hK cs T hC HT.out tb kb k HTB.out HKB.out v hv hl1 hl2 hl3 hl4).mono ?_
  rintro e w1 ⟨r, rfl, hr, HK1⟩
  rcases hr with ⟨rfl, rfl⟩ | ⟨rfl, hr⟩
  all_goals
    go_wp2_with fail
    go_ret
    exact ⟨rfl, HK1⟩

/-- the greatest of some numbers from 0 on -/
def maxL (l : List Int) : Int := l.foldl max 0
theorem maxL_snoc (l : List Int) (x : Int) : maxL (l ++ [x]) = max (maxL l) x := by unfold maxL; rw [List.foldl_append]; rfl
theorem maxL_bd {l : List Int} (h : U8s l) : 0 ≤ maxL l ∧ maxL l < 256 := by
  have : ∀ (l : List Int) (a : Int), U8s l → 0 ≤ a ∧ a < 256 → 0 ≤ l.foldl max a ∧ l.foldl max a < 256 := by
    intro l
    induction l with
    | nil => intro a _ ha; exact ha
    | cons x l ih => intro a hl ha; have := hl x (by simp); exact ih _ (fun y hy => hl y (by simp [hy])) (by omega)
  exact this l 0 h (by omega)
theorem maxL_lt (l : List Int) (k : Int) (hk : 0 < k) : maxL l < k ↔ ∀ c ∈ l, c < k := by
  have : ∀ (l : List Int) (a : Int), l.foldl max a < k ↔ a < k ∧ ∀ c ∈ l, c < k := by
    intro l
    induction l with
    | nil => intro a; simp
    | cons x l ih =>
      intro a
      rw [List.foldl_cons, ih]
      simp only [List.mem_cons, forall_eq_or_imp]
      constructor
      · rintro ⟨h1, h2⟩; exact ⟨by omega, by omega, h2⟩
      · rintro ⟨h1, h2, h3⟩; exact ⟨by omega, h3⟩
  unfold maxL
  rw [this]
  exact ⟨fun h => h.2, fun h => ⟨hk, h⟩⟩
set_option maxRecDepth 100000 in
set_option maxHeartbeats 16000000 in
theorem maxU8_any (tb : Nat) (l : List Int) (hu : U8s l) (hl : l.length = 256) (w : World) (hc : ∀ (i : Nat) (x : Int), l[i]? = some x → w.cell? ⟨tb, i, none⟩ = some (.int .u8 x)) :
    Calls Try.prog 29 #[.slice (some ⟨tb, 0, none⟩) 256 256] w fun e w' => e = .returned (.int .u8 (maxL l)) ∧ w = w' := by
  have HC := Lib.hid hc
  have HU := Lib.hid hu
  have HL := Lib.hid hl
  obtain ⟨x0, hx0⟩ : ∃ x, l[0]? = some x := ⟨_, List.getElem?_eq_getElem (by omega)⟩
  have h0 := hc 0 _ hx0
  have HX0 := Lib.hid hx0
  clear hc hu hl hx0
  go_enter Try.func29, Try.ntmps29
  go_wp2_with fail
  go_loop [3, 4] (fun mv iv => ∃ (k : Nat) (m : Int), 1 ≤ k ∧ k ≤ 256 ∧ iv = .int .i64 k ∧ mv = .int .u8 m ∧ Hid (m = maxL (l.take k))) (fun _ iv => 256 - (intOf iv).toNat)
  case atStart => exact ⟨1, x0, Nat.le_refl _, by omega, rfl, rfl, Lib.hid (by
    rw [take_snoc? HX0.out, maxL_snoc]
    have := HU.out x0 (List.mem_of_getElem? HX0.out)
    simp only [List.take_zero, maxL, List.foldl_nil]; omega)⟩
  case round =>
  clear h0
  obtain ⟨k, m, hk1, hk, rfl, rfl, HM⟩ := hrel
  by_cases hlt : k < 256
  · obtain ⟨x, hx⟩ : ∃ x, l[k]? = some x := ⟨_, List.getElem?_eq_getElem (by rw [HL.out]; exact hlt)⟩
    have hcx := HC.out k _ hx
    have HN : Hid (max m x = maxL (l.take (k + 1))) := Lib.hid (by rw [take_snoc? hx, maxL_snoc, HM.out])
    clear hx
    go_wp2_with fail
    go_round
    case rel => exact ⟨k + 1, max m x, by omega, by omega, by go_num, rfl, HN⟩
    case measure => simp [intOf]; omega
  · obtain rfl : k = 256 := by omega
    have HE : Hid (m = maxL l) := Lib.hid (by rw [HM.out, ← HL.out, List.take_length])
    go_wp2_with fail
    go_ret
    exact ⟨congrArg (fun u => Ending.returned (.int .u8 u)) HE.out, rfl⟩
end
end Go.Proofs.Yticfbbigljgjdaa
