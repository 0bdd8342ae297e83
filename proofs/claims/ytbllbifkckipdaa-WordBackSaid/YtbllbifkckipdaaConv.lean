/- Conversions between bytes and strings in the walk's spelling. Condition: none. -/
import Derived.Test.YtbllbifkckipdaaRaw
import Derived.Laws.BytesArg
namespace Go.Proofs.Ytbllbifkckipdaa
open Go.RowKit
set_option linter.unusedVariables false

theorem run_conv_str {P : Program} (w : World) (src e : TypeId) (hs : P.underlying src = some (.slice e)) (he : P.underlying e = some (.int .u8)) (A : Option Addr) (n c : Nat) (xs : List Int) (h : Ints .u8 w A n xs) (dst : TypeId) (hd : P.underlying dst = some .string) :
    (convert src dst (.slice A n c)).run P w = .ok (.string (strOfNums xs)) w := by
  rcases Nat.eq_zero_or_pos n with h0 | h0
  · subst h0
    have hx : xs = [] := List.eq_nil_of_length_eq_zero h.len
    subst hx
    cases A with
    | none =>
      rw [run_convert_bytes_nil w src e hs he 0 c dst hd]
      rfl
    | some a =>
      have hl : (loadCells a 0).run P w = .ok (([] : List Int).map (Value.int .u8)).toArray w := by
        have := run_loadCells_list (P := P) w a [] (fun j v hj => by simp at hj)
        simpa using this
      rw [run_convert_bytes_string w src dst e _ 0 c hs he hd, run_bytesToString w _ 0 c [] hl, foldl_push_bytes]
      rfl
  · obtain ⟨b, off, x0, rfl, _, _⟩ := h.at_ h0
    refine run_convert_bytes_arg w src e hs he b off n c xs h.len (fun i hi => ?_) dst hd
    obtain ⟨b', off', x, hA, hx, hc⟩ := h.at_ hi
    cases hA
    rw [hc, List.getD_eq_getElem?_getD, hx]; rfl
end Go.Proofs.Ytbllbifkckipdaa
