/- Words for the laws of dag. -/
import Derived.Test.YtchiclnnoealdaaAlive
namespace Go.Proofs.Ytchiclnnoealdaa
open Go.RowKit Go.Maps Go.Sort Go.Shelf
set_option linter.unusedVariables false
set_option linter.unusedSimpArgs false

theorem ex_bld0_at {ρ : Operand → Value} {o : Oper} {w : World} (ho : o.op = .build 24 #[]) : (execOp ρ o).run Try.prog w = .ok (.value (encI zID)) w := by
  obtain ⟨d, op, t, p, f, g⟩ := o
  simp only at ho
  subst ho
  rw [ex_bld0]
def lawPost (w : World) (e : Ending) (w' : World) : Prop := e = .returned (.bool true) ∧ Below w.heap.size w w'
theorem and_mask (x : Int) (m : Nat) (hm : m ≤ 1023) : ∃ r : Nat, bits BinOp.and IntKind.i64 x (m : Int) = (r : Int) ∧ r ≤ m := by
  refine ⟨(BitVec.ofInt 64 x &&& BitVec.ofInt 64 (m : Int)).toNat, ?_, ?_⟩
  · have hle : (BitVec.ofInt 64 x &&& BitVec.ofInt 64 (m : Int)).toNat ≤ 1023 := by
      rw [BitVec.toNat_and]
      refine Nat.le_trans Nat.and_le_right ?_
      rw [BitVec.toNat_ofInt]
      omega
    show IntKind.i64.wrap (((BitVec.ofInt 64 x &&& BitVec.ofInt 64 (m : Int)).toNat : Nat) : Int) = _
    rw [IntKind.wrap_i64]
    omega
  · rw [BitVec.toNat_and]
    refine Nat.le_trans Nat.and_le_right ?_
    rw [BitVec.toNat_ofInt]
    omega
theorem ex_bs2_at {ρ : Operand → Value} {o : Oper} {a b : Operand} {w : World} {x y : ID} (ho : o.op = .buildSlice 29 2 #[(0, a), (1, b)]) (ha : ρ a = encI x) (hb : ρ b = encI y) : (execOp ρ o).run Try.prog w = .ok (.value (.slice (some ⟨w.heap.size, 0, none⟩) 2 2)) (w.alloc (rowo [x, y])) := by
  obtain ⟨d, op, t, p, f, g⟩ := o
  simp only at ho
  subst ho
  rw [ex_bs2, ha, hb, bsI2_at]
theorem step_skipW {P : Program} {w : World} {o : Oper} {a : Act} {K : Act → World → Prop} {Q : Exit → Act → World → Prop} (w' : World)
    (hr : (execOp a.eval o).run P w = .ok .skip w') (h : K (a.put o.dst undef) w') : Oper.wp P o a w K Q := by
  unfold Oper.wp
  rw [hr]
  exact h
theorem ex_st_at {ρ : Operand → Value} {o : Oper} {a b : Operand} {w : World} {k : Nat} {x y : ID} (ho : o.op = .store 24 a b) (ha : ρ a = .pointer (some ⟨k, 0, none⟩)) (hb : ρ b = encI x) (hk : bxI w k = some y) : (execOp ρ o).run Try.prog w = .ok .skip (putB w k x) := by
  obtain ⟨d, op, t, p, f, g⟩ := o
  simp only at ho
  subst ho
  rw [ex_st, ha, hb]
  exact stI_box hk x
/-- a step that turns the law's own blocks and makes new ones -/
theorem DagL.grow {w0 w w' : World} {D : Nat} {G : Dg} {S M : Nat → Prop} (h : DagL w0 w D G S) (f : Fr M w w') (hM : ∀ b, M b → S b ∧ w0.heap.size ≤ b) : DagL w0 w' D G (fun b => S b ∨ (w.heap.size ≤ b ∧ b < w'.heap.size)) := by
  obtain ⟨F, h⟩ := h
  refine ⟨F, h.at_.fr f (fun b hb hm => (h.own b (hM b hm).1).1 hb), h.up, fun b hb => ?_, h.fr.step f (fun b hb => .inl (hM b hb).2)⟩
  rcases hb with hb | hb
  · exact ⟨(h.own b hb).1, Nat.lt_of_lt_of_le (h.own b hb).2 f.size⟩
  · refine ⟨fun hF => ?_, hb.2⟩
    obtain ⟨_, _, _, _, hA⟩ := h.at_
    have := hA.lt b hF
    omega
theorem Off.ownN {A : Option Addr} {Q : Nat → Prop} {n c : Nat} (h : Off A (fun b => ¬ Q b)) : ∀ g, (Value.slice A n c).ownBlock = some g → ¬ Q g := by
  intro g hg
  cases A with
  | none => cases hg
  | some a => simp [Value.ownBlock] at hg; rw [← hg]; exact h _ rfl
end Go.Proofs.Ytchiclnnoealdaa
