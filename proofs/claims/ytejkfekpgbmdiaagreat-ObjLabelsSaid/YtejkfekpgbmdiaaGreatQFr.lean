/- Drawn regions whose operations read, and whose callees make new memory alone and hand back one value: one walk in the text's order. -/
import Derived.Test.YtejkfekpgbmdiaaGreatStV
import Derived.Deep.Quiet
namespace Go.Proofs.YtejkfekpgbmdiaaGreat
open Go.RowKit
set_option linter.unusedVariables false

/-- what lies in old blocks is read as before -/
structure Same (n : Nat) (w w' : World) : Prop where
  cell : ∀ b o, b < n → w'.cell? ⟨b, o, none⟩ = w.cell? ⟨b, o, none⟩
  st : ∀ b o, b < n → codS.rd w' b o = codS.rd w b o
  id : ∀ b o, b < n → rdI w' b o = rdI w b o
  hd : ∀ b o, b < n → codH.rd w' b o = codH.rd w b o
  op : ∀ b o, b < n → codO.rd w' b o = codO.rd w b o
  it : ∀ b o, b < n → codT.rd w' b o = codT.rd w b o
theorem Fr.same {w w' : World} (f : Fr noB w w') : Same w.heap.size w w' :=
  ⟨fun b o h => World.cell?_of_block (a := ⟨b, o, none⟩) (f.block b h (by simp [noB])), fun b o h => Cod.rd_keep (f.block b h (by simp [noB])), fun b o h => rdI_keep (f.block b h (by simp [noB])),
   fun b o h => Cod.rd_keep (f.block b h (by simp [noB])), fun b o h => Cod.rd_keep (f.block b h (by simp [noB])), fun b o h => Cod.rd_keep (f.block b h (by simp [noB]))⟩
/-- closed: else the elaborator looks through all that are off at once -/
@[irreducible] def wpQ (P : Program) (ops : Array Oper) (C : World → Prop) (Q : Act → Prop) (l : List Oper) (a : Act) : Prop := wpQuiet P ops C Q l a
section
variable {P : Program} {ops : Array Oper} {C : World → Prop} {Q : Act → Prop} {o : Oper} {rest : List Oper} {a : Act} {v : Value}
theorem wpQ_take (hw : Region.wanted o (yielded ops a.tmps) = true) (h : ∀ w, C w → (execOp a.eval o).run P w = .ok (.value v) w) (k : wpQ P ops C Q rest (a.put o.dst v)) : wpQ P ops C Q (o :: rest) a := by
  unfold wpQ at k ⊢
  unfold wpQuiet
  rw [if_pos hw]
  refine ⟨v, fun w hC => ?_, k⟩
  unfold Oper.quietAt
  rw [h w hC]
  exact ⟨rfl, rfl⟩
theorem wpQ_call (hw : Region.wanted o (yielded ops a.tmps) = true) (h : ∀ w, C w → ∃ f args, (execOp a.eval o).run P w = .ok (.enter f args) w ∧ Calls P f args w (fun e w'' => e = .returned v ∧ C w'')) (k : wpQ P ops C Q rest (a.put o.dst v)) : wpQ P ops C Q (o :: rest) a := by
  unfold wpQ at k ⊢
  unfold wpQuiet
  rw [if_pos hw]
  refine ⟨v, fun w hC => ?_, k⟩
  obtain ⟨f, args, h1, h2⟩ := h w hC
  unfold Oper.quietAt
  rw [h1]
  exact ⟨rfl, h2⟩
theorem wpQ_off (hw : Region.wanted o (yielded ops a.tmps) = false) (k : wpQ P ops C Q rest (a.put o.dst undef)) : wpQ P ops C Q (o :: rest) a := by
  unfold wpQ at k ⊢
  unfold wpQuiet
  rw [if_neg (by rw [hw]; exact Bool.false_ne_true)]
  exact k
theorem wpQ_nil (h : Q a) : wpQ P ops C Q [] a := by
  unfold wpQ
  exact h
/-- a contract in a world of the class -/
theorem Calls.fr {f : FuncId} {args : Array Value} {W w : World} (hC : Fr noB W w) (h : Calls P f args w (Gives w v)) : Calls P f args w (fun e w'' => e = .returned v ∧ Fr noB W w'') :=
  h.mono fun _ _ ⟨h1, h2⟩ => ⟨h1, hC.step0 h2⟩
theorem Gives.val {u : Value} {f : FuncId} {args : Array Value} {w : World} (h : Calls P f args w (Gives w v)) (e : v = u) : Calls P f args w (Gives w u) := e ▸ h
/-- the region at the class 'new memory alone' -/
theorem wp_region_fr {id : Nat} {Q : Exit → Act → World → Prop} {a : Act} {w : World} {l : List Oper} (hm : P.follows .mixedOrders = true) (hB : Region.lexB .any l.toArray = true)
    (h : wpQ P l.toArray (Fr noB w) (fun a' => ∀ w', Fr noB w w' → Q .normal a' w') l a) : (Code.region id l.toArray true).wp P Q a w := by
  unfold wpQ at h
  exact wp_region_quiet (C := Fr noB w) hm hB (Fr.refl noB w).drew (by simpa using h)
end
end Go.Proofs.YtejkfekpgbmdiaaGreat
