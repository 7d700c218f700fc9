/- Contract: obj.rise of IDs. -/
import Derived.Test.YtnkdnbjmhoegkaaGreatStWKq
import Derived.Test.YtnkdnbjmhoegkaaGreatIdRowKq
set_option linter.unusedVariables false
set_option linter.unusedSimpArgs false
namespace Go.Proofs.YtnkdnbjmhoegkaaGreat
open Go.RowKit
theorem riseB_iff {α:Type} (cf:α → α → Int):∀ l:List α,riseB cf l = true ↔ ∀ j (h:j + 1 < l.length),cf (l[j]'(by omega)) l[j + 1] < 0
 | []=>by simp [riseB]
 | [x]=>by simp [riseB]
 | x :: y :: l=>by
  unfold riseB
  rw [Bool.and_eq_true,decide_eq_true_eq,riseB_iff cf (y :: l)]
  constructor
  ·rintro ⟨h1,h2⟩ j hj
   cases j with
   | zero=>exact h1
   | succ j=>exact h2 j (by simpa using hj)
  ·intro h
   exact ⟨h 0 (by simp),fun j hj=>h (j + 1) (by simpa using hj)⟩
def RisR (W:World) (n:Nat) (cf:Nat → Nat → Int) (gk:Nat) (iv:Value) (wr:World):Prop:=∃ k:Nat,iv = .int .i64 (k:Int) ∧ gk = n + 1 - k ∧ 1 ≤ k ∧ (k ≤ n ∨ k = 1) ∧ (∀ j,j + 1 < k → cf j (j + 1) < 0) ∧ Fr noB W wr
end Go.Proofs.YtnkdnbjmhoegkaaGreat
