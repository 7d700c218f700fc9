/- Contracts: differ.trash, snap.last, snap.fixed; tables: of, depth, place; sameData. (ex_ldS_at) -/
import Derived.Test.YtdandpaeeodolaaGreatTreeSK
import Derived.Test.YtdandpaeeodolaaGreatPathPK
import Derived.Test.YtdandpaeeodolaaGreatRdCK
import Derived.Test.YtdandpaeeodolaaGreatDiffPK
import Derived.Deep.LoopGhost
namespace Go.Proofs.YtdandpaeeodolaaGreat
open Go.RowKit
set_option linter.unusedVariables false
set_option linter.unusedSimpArgs false

theorem Cod.bxd_box {α : Type} {C : Cod α} (w : World) (x : α) : C.bxd (w.alloc (.cells (C.A x) C.t)) w.heap.size = some x := by
  have h := Cod.bxd_new (C := C) w x
  rwa [show C.o x = .cells (C.A x) C.t from by unfold Cod.o; rfl] at h
theorem bxS_box (w : World) (x : St) : codS.bxd (w.alloc (.cells (codS.A x) 28)) w.heap.size = some x := Cod.bxd_box w x
@[simp] theorem fldR_1 (w : World) (r : RwW) : (Instr.field 40 (.agg (codR.A r)) 1).run Tryz.prog w = .ok (.agg (codS.A r.Parent)) w := by
  rw [Cod.A_eq, Cod.A_eq]
  kernel_rfl
@[simp] theorem fldR_3 (w : World) (r : RwW) : (Instr.field 40 (.agg (codR.A r)) 3).run Tryz.prog w = .ok (.string (str r.Name)) w := by
  rw [Cod.A_eq]
  kernel_rfl
theorem bldS_1 (w : World) (b : Int) : (Instr.build 28 #[(1, .int .i64 b)]).run Tryz.prog w = .ok (.agg (codS.A ⟨0, b⟩)) w := by
  rw [Cod.A_eq]
  kernel_rfl
theorem bldS_2 (w : World) (a b : Int) : (Instr.build 28 #[(0, .int .i64 a), (1, .int .i64 b)]).run Tryz.prog w = .ok (.agg (codS.A ⟨a, b⟩)) w := by
  rw [Cod.A_eq]
  kernel_rfl
@[simp] theorem bldS_tr (w : World) : (Instr.build 28 #[(1, .int .i64 1)]).run Tryz.prog w = .ok (.agg (codS.A trS)) w := bldS_1 w 1
@[simp] theorem bldS_la (w : World) : (Instr.build 28 #[(0, .int .i64 1099511627776), (1, .int .i64 65536)]).run Tryz.prog w = .ok (.agg (codS.A lastS)) w := bldS_2 w _ _
theorem stCell {w : World} {b : Nat} {s : St} (h : codS.rd w b 0 = some s) : w.cell? ⟨b, 0, none⟩ = some (.int .i64 s.T) ∧ w.cell? ⟨b, 1, none⟩ = some (.int .i64 s.R) :=
  ⟨by simpa using Cod.rd_cell h 0 (v := .int .i64 s.T) rfl, by simpa using Cod.rd_cell h 1 (v := .int .i64 s.R) rfl⟩
/-! tables -/
def TabTo (w : World) (rs : List RwW) (e : Ending) (w' : World) : Prop := ∃ t, e = .returned (.map (some t)) ∧ mpT w' t = some (tab rs) ∧ w.heap.size ≤ t ∧ Fr noB w w'
def OfR (w : World) (rs : List RwW) (t : Nat) (gk : Nat) (iv : Value) (wr : World) : Prop := ∃ k : Nat, iv = .int .i64 (k : Int) ∧ gk = rs.length - k ∧ k ≤ rs.length ∧ mpT wr t = some (tab (rs.take k)) ∧ Fr noB w wr
theorem nd_take {rs : List RwW} (hn : (rs.map (·.Node)).Nodup) {k : Nat} (hk : k < rs.length) : ∀ x ∈ rs.take k, x.Node ≠ rs[k].Node := by
  intro x hx e
  obtain ⟨i, hi, rfl⟩ := List.getElem_of_mem hx
  rw [List.length_take] at hi
  rw [List.getElem_take] at e
  have hi' : i < k := by omega
  have := (List.pairwise_iff_getElem.1 hn) i k (by simp; omega) (by simp; omega) hi'
  simp only [List.getElem_map] at this
  exact this e
def DepR (w : World) (P : Nat) (xs : List RwP) (D : Nat) (gk : Nat) (nv : Value) (wr : World) : Prop := ∃ (n : Nat) (s : St), nv = .int .i64 (n : Int) ∧ codS.bxd wr P = some s ∧ wfS s = true ∧ reach xs gk s = true ∧ D = n + depthN xs gk s ∧ Fr noB w wr
/-- the place's stamp, and is there one? -/
def PlTo (w : World) (o : Option St) (e : Ending) (w' : World) : Prop := e = .returned (.tuple #[.agg (codS.A (o.getD zSt)), .bool o.isSome]) ∧ Fr noB w w'
def PlaR (w : World) (P R : Nat) (xs : List RwP) (L : Nat) (o : Option St) (gk : Nat) (iv : Value) (wr : World) : Prop :=
  ∃ (i : Nat) (s : St), iv = .int .i64 (i : Int) ∧ gk = L - i ∧ i ≤ L ∧ codS.bxd wr P = some s ∧ codS.bxd wr R = some zSt ∧ wfS s = true ∧ placeN xs (L - i) s = o ∧ Fr noB w wr
theorem place_step {xs : List RwP} {k : Nat} {s : St} : placeN xs (k + 1) s = if s.T = 0 then some s else match findR xs s with
    | none => none
    | some r => placeN xs k r.Parent := rfl
end Go.Proofs.YtdandpaeeodolaaGreat
