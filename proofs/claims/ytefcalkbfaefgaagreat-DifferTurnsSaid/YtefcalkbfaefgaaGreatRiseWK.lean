/- Contract: obj.rise of IDs. -/
import Derived.Test.YtefcalkbfaefgaaGreatStWK
import Derived.Test.YtefcalkbfaefgaaGreatBoxOK
namespace Go.Proofs.YtefcalkbfaefgaaGreat
open Go.RowKit
set_option linter.unusedVariables false
set_option linter.unusedSimpArgs false

/-- made new memory, and drew, alone (as in the order by closures) -/
theorem Sl.ad {w : World} {A : Option Addr} {l : List ID} (h : Sl w A (idc l)) (hl : 0 < l.length) : ∃ g off, A = some ⟨g, off, none⟩ := by
  obtain ⟨g, off, e, _⟩ := h (by intro h0; have := idc_length l; rw [h0] at this; simp at this; omega)
  exact ⟨g, off, e⟩
theorem grow_fr {w w' : World} (h : ∃ q os, w' = Go.Sort.grow (w.drewN q) os) : Fr noB w w' := by
  obtain ⟨q, os, rfl⟩ := h
  refine ⟨rfl, rfl, rfl, by simp [Go.Sort.grow, World.drewN], fun k hk _ => ?_⟩
  simp [Go.Sort.grow, World.drewN, Array.getElem?_append_left hk]
theorem riseB_iff {α : Type} (cf : α → α → Int) : ∀ l : List α, riseB cf l = true ↔ ∀ j (h : j + 1 < l.length), cf (l[j]'(by omega)) l[j + 1] < 0
  | [] => by simp [riseB]
  | [x] => by simp [riseB]
  | x :: y :: l => by
    unfold riseB
    rw [Bool.and_eq_true, decide_eq_true_eq, riseB_iff cf (y :: l)]
    constructor
    · rintro ⟨h1, h2⟩ j hj
      cases j with
      | zero => exact h1
      | succ j => exact h2 j (by simpa using hj)
    · intro h
      exact ⟨h 0 (by simp), fun j hj => h (j + 1) (by simpa using hj)⟩
def RisR (W : World) (n : Nat) (cf : Nat → Nat → Int) (gk : Nat) (iv : Value) (wr : World) : Prop := ∃ k : Nat, iv = .int .i64 (k : Int) ∧ gk = n + 1 - k ∧ 1 ≤ k ∧ (k ≤ n ∨ k = 1) ∧ (∀ j, j + 1 < k → cf j (j + 1) < 0) ∧ Fr noB W wr
end Go.Proofs.YtefcalkbfaefgaaGreat
