/- Contracts: enc.Id, enc.Text. Contracts: the reader's take, Done, Text. -/
import Derived.Test.YtdandpaeeodolaaGreatNumWK
import Derived.Test.YtdandpaeeodolaaGreatStWK
import Derived.Test.YtdandpaeeodolaaGreatIdRowK
import Derived.Test.YtdandpaeeodolaaGreatStrsK
import Derived.Lib.AppendStr
namespace Go.Proofs.YtdandpaeeodolaaGreat
open Go.RowKit
set_option linter.unusedVariables false
set_option linter.unusedSimpArgs false

abbrev OwnB (w0 w : World) (A : Option Addr) (c : Nat) (l : List UInt8) : Prop := w.ownsRow w0.heap.size 5 1 (.slice A l.length c) l.length (bv l)
theorem ownBlock_slice (A : Option Addr) (n c : Nat) : (Value.slice A n c).ownBlock = A.map (·.block) := by cases A <;> rfl
theorem sl_arr (w : World) (x : ID) : Sl (w.alloc (ido x)) (some ⟨w.heap.size, 0, none⟩) (bv x.1) := by
  have := Sl.new w 30 (bv x.1)
  rw [← idA_eq] at this
  exact this
theorem str_cells (t : List UInt8) : Lib.strCells (str t) = bv t := by simp [Lib.strCells, str, bv, u8v]
theorem str_size (t : List UInt8) : (str t).size = t.length := rfl
end Go.Proofs.YtdandpaeeodolaaGreat
namespace Go.Proofs.YtdandpaeeodolaaGreat
open Go.RowKit
set_option linter.unusedVariables false
set_option linter.unusedSimpArgs false

theorem rdNum_bd (most : Nat) (s : RS) : (rdNum most s).1 ≤ most ∧ (rdNum most s).2.1.length ≤ s.1.length := by
  rcases rdNum_or (most := most) (s := s) (n := (rdNum most s).1) (s' := (rdNum most s).2) rfl with ⟨h1, h2, _⟩ | ⟨_, _, _, h1, h2, _⟩
  · rw [h1, h2]; exact ⟨Nat.zero_le _, Nat.zero_le _⟩
  · exact ⟨h1, Nat.le_of_lt h2⟩
theorem rdTake_len (n : Nat) (s : RS) : (rdTake n s).2.1.length ≤ s.1.length := by
  unfold rdTake
  split
  · exact Nat.zero_le _
  · simp
theorem rdText_len (most : Nat) (s : RS) : (rdText most s).2.1.length ≤ s.1.length := Nat.le_trans (rdTake_len _ _) (rdNum_bd most s).2
end Go.Proofs.YtdandpaeeodolaaGreat
