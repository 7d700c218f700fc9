/- Words for the law DagPlays. -/
import Derived.Test.YtchiclnnoealdaaRefA
import Derived.Test.YtchiclnnoealdaaRefB
import Derived.Test.YtchiclnnoealdaaRefAdd
import Derived.Test.YtchiclnnoealdaaRegT
import Derived.Test.YtchiclnnoealdaaGrownW
namespace Go.Proofs.Ytchiclnnoealdaa
open Go.RowKit Go.Maps Go.Sort Go.Shelf
set_option linter.unusedVariables false
set_option linter.unusedSimpArgs false

theorem bsR_2 (w : World) (x y : ID) : (Instr.buildSlice 36 2 #[(0, encI x), (1, encI y)]).run Try.prog w = .ok (.slice (some ⟨w.heap.size, 0, none⟩) 2 2) (w.alloc (rowr [x, y])) := by
  have h1 : Instr.fill (fun i => some (i * 32, 32)) ([] ++ z32 ++ z32).toArray [(0, encI x), (1, encI y)] = some (idc [x, y]).toArray := by
    refine (fill_one (fun i => some (i * 32, 32)) [] z32 z32 (bv x.1) 0 (encI x) [(1, encI y)] (cellsI x) (by simp [x.2]) (by simp [x.2, z32_len])).trans ?_
    have := fill_one (fun i => some (i * 32, 32)) (bv x.1) z32 [] (bv y.1) 1 (encI y) [] (cellsI y) (by simp [x.2, y.2]) (by simp [y.2, z32_len])
    rw [List.append_nil] at this
    refine this.trans (by simp [Instr.fill, idc])
  simp only [Instr.buildSlice, Sem.run_bind, run_underlying Try.underlying36, Result.andThen_ok, sizeArr, zeroArr]
  simp only [show (2 * 32 > 2 ^ 24) = False from by simp, show (2 * 32 = 0) = False from by simp, if_false, Sem.run_bind, zeroArr, Result.andThen_ok, Sem.run_pure, zs2, h1]
  simp [newRow, newObj, rowr, idR_eq, Sem.run, Result.andThen]
theorem ex_bsR1_at {ρ : Operand → Value} {o : Oper} {a : Operand} {w : World} {x : ID} (ho : o.op = .buildSlice 36 1 #[(0, a)]) (ha : ρ a = encI x) : (execOp ρ o).run Try.prog w = .ok (.value (.slice (some ⟨w.heap.size, 0, none⟩) 1 1)) (w.alloc (rowr [x])) := by
  obtain ⟨d, op, t, p, f, g⟩ := o
  simp only at ho
  subst ho
  rw [ex_bsR1, ha, bsR1_at]
theorem ex_bsR2_at {ρ : Operand → Value} {o : Oper} {a b : Operand} {w : World} {x y : ID} (ho : o.op = .buildSlice 36 2 #[(0, a), (1, b)]) (ha : ρ a = encI x) (hb : ρ b = encI y) : (execOp ρ o).run Try.prog w = .ok (.value (.slice (some ⟨w.heap.size, 0, none⟩) 2 2)) (w.alloc (rowr [x, y])) := by
  unfold execOp
  simp only [ho, List.map_toArray, List.map_cons, List.map_nil, ha, hb, Sem.run_bind, bsR_2, Result.andThen_ok, Sem.run_pure]
theorem ex_bldR_at {ρ : Operand → Value} {o : Oper} {a b : Operand} {w : World} {x : ID} {B : Option Addr} {n c : Nat} (ho : o.op = .build 39 #[(0, a), (1, b)]) (ha : ρ a = encI x) (hb : ρ b = .slice B n c) : (execOp ρ o).run Try.prog w = .ok (.value (lnV (x, .slice B n c))) w := by
  obtain ⟨d, op, t, p, f, g⟩ := o
  simp only at ho
  subst ho
  rw [ex_bldR, ha, hb, bldR_at]
theorem al_rn (w : World) : (Instr.alloc 39 true (.tuple #[])).run Try.prog w = .ok (.pointer (some ⟨w.heap.size, 0, none⟩)) (w.alloc (rno zN)) := by
  simp only [Instr.alloc, Sem.run_bind, zeroRN, Result.andThen_ok]
  exact bx_rn w zN
@[simp ↓] theorem ex_alRN (ρ : Operand → Value) (d : Option Nat) (t : TypeId) (p : String) (f : Array Edge) (g : Option (Nat × Bool)) (w : World) :
    (execOp ρ { dst := d, op := .alloc 39, type := t, pos := p, after := f, guard := g }).run Try.prog w = .ok (.value (.pointer (some ⟨w.heap.size, 0, none⟩))) (w.alloc (rno zN)) := by
  unfold execOp
  simp only [Sem.run_bind, al_rn, Result.andThen_ok, Sem.run_pure]
@[irreducible] noncomputable def stRN (w : World) (v u : Value) : Result Next := ((Instr.storeAt 39 v u).run Try.prog w).andThen (fun _ w => .ok .skip w)
@[simp ↓] theorem ex_stRN (ρ : Operand → Value) (a x : Operand) (d : Option Nat) (t : TypeId) (p : String) (f : Array Edge) (g : Option (Nat × Bool)) (w : World) :
    (execOp ρ { dst := d, op := .store 39 a x, type := t, pos := p, after := f, guard := g }).run Try.prog w = stRN w (ρ a) (ρ x) := by
  unfold execOp stRN
  simp only [Sem.run_bind, Sem.run_pure]
@[simp] theorem stRN_sl (w : World) (x : ID) (B : Option Addr) (n c : Nat) (q : ID × Value) : stRN (w.alloc (rno q)) (.pointer (some ⟨w.heap.size, 0, none⟩)) (lnV (x, .slice B n c)) = .ok .skip (w.alloc (rno (x, .slice B n c))) := by
  unfold stRN
  simp only [lnV, rno, lnA_eq]
  rw [run_storeAt_new w 39 _ _ (by rw [List.size_toArray, lnC_len]; exact infoRN) (by simp [lnC_len]) (all_oneCell_toArray (lnC_one (x, .slice B n c) (isSl_one rfl)))]
  rfl
theorem find_geq (m : Md) (x : ID) : hasG m.reverse x = decide (findN m x < m.length) := by
  rw [Bool.eq_iff_iff, decide_eq_true_eq]; exact (findN_has m x).symm
/-- the nodes' slices lie in S -/
def NvO (nv : List (ID × Value)) (S : Nat → Prop) : Prop := ∀ p ∈ nv, ∀ B n c, p.2 = .slice B n c → Off B S
theorem Sl.frO {M S : Nat → Prop} {w w' : World} {A : Option Addr} {xs : List Value} (h : Sl w A xs) (f : Fr M w w') (hA : Off A S) (hM : ∀ b, S b → ¬ M b) : Sl w' A xs :=
  h.fr f (fun a ha => hM _ (hA a ha))
theorem NdV.frO {M S : Nat → Prop} {w w' : World} {nv : List (ID × Value)} {m : Md} (h : NdV w nv m) (f : Fr M w w') (hA : NvO nv S) (hM : ∀ b, S b → ¬ M b) : NdV w' nv m := by
  induction h with
  | nil => exact .nil
  | @cons p q nv m h _ ih =>
    obtain ⟨e, B, c, e2, hs⟩ := h
    exact .cons ⟨e, B, c, e2, hs.frO f (hA p (by simp) B _ c e2) hM⟩ (ih (fun q hq => hA q (by simp [hq])))
theorem NvO.mono {nv : List (ID × Value)} {S S' : Nat → Prop} (h : NvO nv S) (hs : ∀ b, S b → S' b) : NvO nv S' := fun p hp B n c e => (h p hp B n c e).mono hs
end Go.Proofs.Ytchiclnnoealdaa
