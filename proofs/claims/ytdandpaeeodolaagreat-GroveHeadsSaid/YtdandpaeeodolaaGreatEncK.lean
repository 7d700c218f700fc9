/- Contracts: readers and numbers of package enc. -/
import Derived.Test.YtdandpaeeodolaaGreatProg
import Derived.Test.YtdandpaeeodolaaGreatMemK
import Derived.Test.YtdandpaeeodolaaGreatNumBK
import Derived.WalkSpells
import Derived.Outline
namespace Go.Proofs.YtdandpaeeodolaaGreat
open Go.RowKit
set_option linter.unusedVariables false
set_option linter.unusedSimpArgs false

theorem ET.mk' {P : Program} {t e : TypeId} {z : Value} {size bytes : Nat} (ht : P.underlying t = some (.slice e))
    (h : (P.info? e).map (fun i => (i.zero, i.size, i.bytes)) = some (some z, size, bytes)) (hz : z.cells.size = size) (hs : 0 < size) (hb : 0 < bytes) : ET P t e size bytes := by
  obtain ⟨i, h1, h2, h3, h4⟩ := info_parts h
  exact ⟨ht, ⟨i, z, h1, h2, h3, h4, hz⟩, hs, hb⟩
section
variable (w : World) (a : Option Addr) (n c : Nat)
end

/-- A new row of bytes is handed back, nothing that was there has turned. -/
def NewBytes (w : World) (l : List UInt8) (e : Ending) (w' : World) : Prop :=
  ∃ A c, e = .returned (.slice A l.length c) ∧ w'.ownsRow w.heap.size 5 1 (.slice A l.length c) l.length (bv l) ∧ Fr noB w w'

theorem NewBytes.mk {w w' : World} {v : Value} {n : Nat} {l : List UInt8} (ho : w'.ownsRow w.heap.size 5 1 v n (bv l)) (hf : Fr noB w w') : NewBytes w l (.returned v) w' := by
  have hn : n = l.length := by have := ho.1; simp at this; omega
  subst hn
  obtain ⟨A, c, rfl, _, _⟩ := own_form ho
  exact ⟨A, c, rfl, ho, hf⟩

/-- the loop of a reader's number, from the i-th byte on -/
def rn (most i u : Nat) (s : RS) : Option (Nat × List UInt8) := if s.2 then none else gnAux most i u s.1

theorem rdNum_rn (most : Nat) (s : RS) : rdNum most s = match rn most 0 0 s with | none => (0, ([], true)) | some (n, t) => (n, (t, false)) := by
  unfold rdNum rn getN
  cases s.2 <;> rfl

theorem rn_bad {most i u : Nat} {s : RS} (h : s.2 = true ∨ s.1 = []) : rn most i u s = none := by
  unfold rn
  rcases h with h | h
  · simp [h]
  · rw [h]; simp [gnAux]
theorem rn_cons (most i u : Nat) (b : UInt8) (t : List UInt8) (hi : i < 9) :
    rn most i u (b :: t, false) = if 128 ≤ b.toNat then rn most (i + 1) (u + b.toNat % 128 * 128 ^ i) (t, false)
      else if 4611686018427387904 < u + b.toNat % 128 * 128 ^ i ∨ most < u + b.toNat % 128 * 128 ^ i ∨ (b.toNat = 0 ∧ 0 < i) then none else some (u + b.toNat % 128 * 128 ^ i, t) := by
  unfold rn
  simp only [gnAux, Bool.false_eq_true, if_false, if_neg (show ¬ 9 ≤ i by omega)]
theorem rn_nine (most u : Nat) (s : RS) : rn most 9 u s = none := by
  unfold rn
  split
  · rfl
  · cases s.1 <;> simp [gnAux]

theorem rdNum_none {most : Nat} {s : RS} (h : rn most 0 0 s = none) : rdNum most s = (0, ([], true)) := by rw [rdNum_rn, h]
theorem rdNum_some {most : Nat} {s : RS} {n : Nat} {t : List UInt8} (h : rn most 0 0 s = some (n, t)) : rdNum most s = (n, (t, false)) := by rw [rdNum_rn, h]

end Go.Proofs.YtdandpaeeodolaaGreat
