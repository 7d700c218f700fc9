/- The frame of a law's proof: what the library's variable holds; nil slices. -/
import Derived.Test.YtifgaejmhaepoaaFrame
import Derived.Test.YtifgaejmhaepoaaLawMake
import Derived.HandedShaped
import Derived.Shelf.Vars
namespace Go.Proofs.Ytifgaejmhaepoaa
open Go.ChangeShapes Go.WideShapes Go.ChangeAt Go.RowKit
set_option linter.unusedVariables false

theorem hasM {W : World} (h : W.ShapedOpen Try.prog) : HasM W := by
  obtain ⟨m, hm⟩ := cell_of_shapedOpen_int (P := Try.prog) (g := 0) (t := 3) (zero := #[.int .i64 0]) (k := .i64) h (of_decide_eq_true (by kernel_rfl)) (by kernel_rfl) rfl (by kernel_rfl) (by kernel_rfl) Try.underlying3
  exact ⟨⟨m, hm⟩, World.block_lt_of_cell? _ _ hm⟩
theorem bytes_nil {H : Type} {enc : TypeId × Value → H} {W : World} {base : Nat} {A : Option Addr} {n c : Nat} {d : DataW H} {p : List MemPlace}
    (hv : Value.okWide Try.prog W .any base 22 (.slice A n c)) (h : DataW.Trod enc Try.prog W 0 (fun _ => true) true 22 (.slice A n c) d p) : A = none → c = 0 := by
  rintro rfl
  obtain ⟨fuel, hf⟩ := h
  rcases open_ints Try.underlying22 Try.underlying5 (by kernel_rfl) hf with ⟨hcs, hx⟩ | ⟨x, l, c, zs, hcs, _⟩
  · simp [Value.cells] at hcs
    exact hcs.2
  · simp [Value.cells] at hcs
end Go.Proofs.Ytifgaejmhaepoaa
