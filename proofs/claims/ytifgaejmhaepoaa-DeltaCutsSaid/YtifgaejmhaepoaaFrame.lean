/- The frame of a law's proof: arguments opened. -/
import Derived.Test.YtifgaejmhaepoaaRows
import Derived.Test.YtifgaejmhaepoaaMem
import Derived.WalkKit
import Derived.ProofKit
import Derived.OpenShut
import Derived.ShutString
import Derived.ChangeOld
import Derived.Below
import Derived.SizedLaws
namespace Go.Proofs.Ytifgaejmhaepoaa
open Go.ChangeShapes Go.WideShapes Go.ChangeAt Go.RowKit
set_option linter.unusedVariables false

theorem own : ownKnob Try.prog.godebug = none := by kernel_rfl
theorem laidOut : laidOutB Try.prog = true := by kernel_rfl
theorem bytesU8 : Try.prog.bytesOf 5 = 1 := by kernel_rfl

theorem wf_u8 {n : Int} (h : (Lit.int .u8 n).wf = true) : 0 ≤ n ∧ n < 256 := by
  have := bounds_u8 h; omega

theorem open_bytes {H : Type} {enc : TypeId × Value → H} {W : World} {base : Nat} {v : Value} {d : DataW H} {p : List MemPlace}
    (hv : Value.okWide Try.prog W .any base 22 v) (h : DataW.Trod enc Try.prog W 0 (fun _ => true) true 22 v d p) :
    ∃ A n c l, v = .slice A n c ∧ l.length = n ∧ n ≤ c ∧ Sl W A (bv l) ∧ ((d = .nil ∧ c = 0) ∨ ∃ elems spare, d = .slice elems spare ∧ elems.length + spare.length = c) := by
  obtain ⟨a0, len, cap, rfl⟩ := okWide_slice Try.underlying22 hv
  obtain ⟨fuel, hf⟩ := h
  rcases open_ints Try.underlying22 Try.underlying5 (by kernel_rfl) hf with ⟨hcs, hx⟩ | ⟨x, l, c, zs, hcs, _, hl, hm, hz, hx, hcell, hwz⟩
  · simp [Value.cells] at hcs
    obtain ⟨rfl, rfl, rfl⟩ := hcs
    simp only [Prod.mk.injEq] at hx
    exact ⟨none, 0, 0, [], rfl, rfl, Nat.le_refl _, Sl.nil _ _, .inl ⟨hx.1, rfl⟩⟩
  · simp [Value.cells] at hcs
    obtain ⟨rfl, rfl, rfl⟩ := hcs
    simp only [Prod.mk.injEq] at hx
    simp only [if_true] at hz
    refine ⟨some x, len, cap, (zs.take len).map (fun n => UInt8.ofNat n.toNat), rfl, by simp; omega, hl, ?_, .inr ⟨_, _, hx.1, by simp [lits]; omega⟩⟩
    intro hne
    obtain ⟨g, off, spot⟩ := x
    have hpos : 0 < zs.length := by
      rcases Nat.eq_zero_or_pos zs.length with h0 | h0
      · have : zs = [] := List.eq_nil_of_length_eq_zero h0
        subst this; simp [bv] at hne
      · exact h0
    have hspot : spot = none := by simpa [Addr.add] using World.cell?_spot (hcell 0 hpos)
    subst hspot
    have hadd : ∀ j, (⟨g, off, none⟩ : Addr).add j = ⟨g, off + j, none⟩ := by intro j; unfold Addr.add; split <;> simp_all
    refine ⟨g, off, rfl, ?_, fun j u hu => ?_⟩
    · have := hcell 0 hpos
      rw [hadd] at this
      exact World.block_lt_of_cell? _ _ this
    · simp only [bv, List.map_map, List.getElem?_map, List.getElem?_take] at hu
      split at hu
      · rename_i hjl
        have hjz : j < zs.length := by omega
        rw [List.getElem?_eq_getElem hjz] at hu
        simp only [Option.map_some, Option.some.injEq, Function.comp_apply] at hu
        have hc := hcell j hjz
        rw [hadd] at hc
        rw [hc, ← hu]
        have hw := wf_u8 (hwz zs[j] (List.getElem_mem hjz))
        have hgd : zs.getD j 0 = zs[j] := by simp [List.getD, hjz]
        rw [hgd]
        simp only [u8v, Option.some.injEq, Value.int.injEq, true_and]
        have : (UInt8.ofNat zs[j].toNat).toNat = zs[j].toNat := by
          rw [UInt8.toNat_ofNat']; omega
        rw [this]; omega
      · cases hu
end Go.Proofs.Ytifgaejmhaepoaa
