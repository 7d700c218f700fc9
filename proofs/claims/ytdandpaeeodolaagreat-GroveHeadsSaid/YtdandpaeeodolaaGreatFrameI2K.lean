/- Arguments [][]int opened: rows of ints. -/
import Derived.Test.YtdandpaeeodolaaGreatFrameOK
import Derived.Test.YtdandpaeeodolaaGreatLawGHeK
namespace Go.Proofs.YtdandpaeeodolaaGreat
open Go.ChangeShapes Go.WideShapes Go.ChangeAt Go.RowKit Go.Deep
set_option linter.unusedVariables false
section
variable {H : Type} {enc : TypeId × Value → H} {W : World}
theorem td_ints {fuel : Nat} {cs : List Value} {x : DataW H × List MemPlace} (h : Td enc W fuel 51 cs x) : ∃ r : SvW, cs = codV.cs r ∧ ∃ l : List Int, l.length = r.n ∧ Sl W r.A (codJ.row l) ∧ r.n ≤ 140737488355328 := by
  obtain ⟨A, l, c, e, h1, h2, h3, _⟩ := td_sl codJ (R := fun _ => True) Tryz.underlying51 (by kernel_rfl) (of_decide_eq_true (by kernel_rfl)) (fun n cs x h => by obtain ⟨a, ha⟩ := td_int Tryz.underlying3 h; exact ⟨a, ha, trivial⟩) h
  exact ⟨⟨A, l.length, c⟩, e, l, rfl, h1, h2⟩
set_option maxRecDepth 100000 in
theorem open_intss {base : Nat} {v : Value} {d : DataW H} {p : List MemPlace}
    (hv : Value.okWide Tryz.prog W .any base 48 v) (h : DataW.Trod enc Tryz.prog W 0 (fun _ => true) true 48 v d p) (hw : ∀ n ∈ d.weights Tryz.prog 48, n ≤ reachBytes) :
    ∃ (A : Option Addr) (rs : List SvW) (c : Nat), v = .slice A rs.length c ∧ Sl W A (codV.row rs) ∧ rs.length ≤ 140737488355328 ∧ rs.length ≤ c ∧ ∃ xs, IsIn W rs xs := by
  obtain ⟨a0, len, cap, rfl⟩ := okWide_slice Tryz.underlying48 hv
  obtain ⟨fuel, hf⟩ := h
  obtain ⟨A, rs, c, e, h1, h2, h3, h4⟩ := td_sl codV (R := fun r => ∃ l : List Int, l.length = r.n ∧ Sl W r.A (codJ.row l) ∧ r.n ≤ 140737488355328) Tryz.underlying48 (by kernel_rfl) (of_decide_eq_true (by kernel_rfl)) (fun n cs x h => td_ints h) (x := (d, p)) ⟨hf, hw⟩
  obtain ⟨xs, h5, h6⟩ := list_R (R := fun (r : SvW) (l : List Int) => l.length = r.n ∧ Sl W r.A (codJ.row l) ∧ r.n ≤ 140737488355328) h4
  refine ⟨A, rs, c, ?_, h1, h2, h3, xs, h5, h6⟩
  simpa [Value.cells] using e
end
end Go.Proofs.YtdandpaeeodolaaGreat
