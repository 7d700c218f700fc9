/- Equality of stamps as values. -/
import Derived.Test.YtnkdnbjmhoegkaaGreatCodsKq
import Derived.Laws.StructEq
set_option linter.unusedVariables false
set_option linter.unusedSimpArgs false
namespace Go.Proofs.YtnkdnbjmhoegkaaGreat
open Go.RowKit
theorem neq_of_eql {P:Program} {t:TypeId} {xs ys:Array Value} {w:World} {b:Bool} (h:(binOp .eql t (.agg xs) (.agg ys)).run P w = .ok (.bool b) w):(binOp .neq t (.agg xs) (.agg ys)).run P w = .ok (.bool (!b)) w:=by
 rw [run_eql_struct] at h
 rw [run_neq_struct]
 generalize (Op.equalIn 10000 t (.agg xs) (.agg ys)).run P w = r at h
 cases r with
 | ok c w' =>
  simp only [Result.andThen_ok] at h ⊢
  injection h with h1 h2
  injection h1 with h1
  rw [h1,h2]
 | halt x w'=>cases h
theorem decS (x y:St):decide (x = y) = ((x.T == y.T) && (x.R == y.R)):=by
 obtain ⟨a,b⟩:=x;obtain ⟨c,d⟩:=y
 rw [Bool.eq_iff_iff];simp
theorem A_S (x:St):codS.A x = #[.int .i64 x.T,.int .i64 x.R]:=Cod.A_eq codS x
theorem eqS_raw (w:World) (a b c d:Int):(binOp .eql 24 (.agg #[.int .i64 a,.int .i64 b]) (.agg #[.int .i64 c,.int .i64 d])).run Tryz.prog w = .ok (.bool ((a == c) && (b == d))) w:=by
 go_simp
 by_cases h1:a = c <;> by_cases h2:b = d <;> simp [h1,h2]
@[simp] theorem eq_S (w:World) (x y:St):(binOp .eql 24 (.agg (codS.A x)) (.agg (codS.A y))).run Tryz.prog w = .ok (.bool (decide (x = y))) w:=by
 rw [A_S,A_S,eqS_raw,decS]
@[simp] theorem neq_S (w:World) (x y:St):(binOp .neq 24 (.agg (codS.A x)) (.agg (codS.A y))).run Tryz.prog w = .ok (.bool (!decide (x = y))) w:=neq_of_eql (eq_S w x y)
end Go.Proofs.YtnkdnbjmhoegkaaGreat
