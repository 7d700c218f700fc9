/- Contracts: cmp.Compare, cmp.Or; stamps: Right, fixed, Cmp. -/
import Derived.Test.YtahllkifmmjbdaaDagQKp
import Derived.Test.YtahllkifmmjbdaaRegMKp
import Derived.Deep.Cut
set_option linter.unusedVariables false
set_option linter.unusedSimpArgs false
namespace Go.Proofs.Ytahllkifmmjbdaa
open Go.RowKit
def Gives (w:World) (v:Value) (e:Ending) (w':World):Prop:=e = .returned v ∧ Fr noB w w'
@[irreducible] def orI (a b:Int):Int:=if a = 0 then b else a
theorem cell_fr0 {w w':World} {b o:Nat} {v:Value} (h:w.cell? ⟨b,o,none⟩ = some v) (f:Fr noB w w'):w'.cell? ⟨b,o,none⟩ = some v :=
 (World.cell?_of_block (a:=⟨b,o,none⟩) (f.block b (World.block_lt_of_cell? _ _ h) (by simp [noB]))).trans h
end Go.Proofs.Ytahllkifmmjbdaa
