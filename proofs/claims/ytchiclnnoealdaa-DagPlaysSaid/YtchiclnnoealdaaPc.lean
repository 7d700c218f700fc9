/- Pairs of integers as cells. -/
import Derived.Test.YtchiclnnoealdaaMem
namespace Go.Proofs.Ytchiclnnoealdaa
open Go.RowKit
def prc (ps : List (Int × Int)) : List Value := ps.flatMap fun p => [.int .i64 p.1, .int .i64 p.2]
theorem prc_len (ps : List (Int × Int)) : (prc ps).length = 2 * ps.length := by
  induction ps with
  | nil => rfl
  | cons p ps ih => simp only [prc, List.flatMap_cons, List.length_append, List.length_cons, List.length_nil] at ih ⊢; omega
theorem prc_at (ps : List (Int × Int)) (i : Nat) (hi : i < ps.length) : (prc ps)[i * 2]? = some (.int .i64 (ps[i]).1) ∧ (prc ps)[i * 2 + 1]? = some (.int .i64 (ps[i]).2) := by
  induction ps generalizing i with
  | nil => simp at hi
  | cons p ps ih =>
    cases i with
    | zero => simp [prc]
    | succ i =>
      have := ih i (by simpa using hi)
      simp only [prc, List.flatMap_cons] at this ⊢
      rw [List.getElem?_append_right (by simp; omega), List.getElem?_append_right (by simp; omega)]
      simp only [List.length_cons, List.length_nil, List.getElem_cons_succ]
      rw [show (i + 1) * 2 - (0 + 1 + 1) = i * 2 by omega, show (i + 1) * 2 + 1 - (0 + 1 + 1) = i * 2 + 1 by omega]
      exact this
end Go.Proofs.Ytchiclnnoealdaa
