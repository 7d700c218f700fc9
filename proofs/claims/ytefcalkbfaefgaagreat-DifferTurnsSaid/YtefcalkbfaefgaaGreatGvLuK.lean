/- Contract: grove's Undone. -/
import Derived.Test.YtefcalkbfaefgaaGreatGvQK
namespace Go.Proofs.YtefcalkbfaefgaaGreat
open Go.RowKit Go.Shelf
set_option linter.unusedVariables false
set_option linter.unusedSimpArgs false
attribute [local go_sem] Oper.semAt_some

set_option maxRecDepth 100000 in
theorem gvUndone_any {base : Nat} {w : World} {b : Nat} {t : TrW} {L : List Opn} (h : GvS base w b t L) : Calls Tryz.prog 12 #[.pointer (some ⟨b, 0, none⟩)] w (Gives w (.int .i64 t.u)) := by
  have u := h.tr.u
  clear h
  go_enter Tryz.func12, Tryz.ntmps12
  go_wp2_with fail
  go_ret
  exact ⟨rfl, Fr.refl _ _⟩
end Go.Proofs.YtefcalkbfaefgaaGreat
