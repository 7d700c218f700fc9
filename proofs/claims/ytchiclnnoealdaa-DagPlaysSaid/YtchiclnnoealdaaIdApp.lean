/- Appends to rows of IDs, and rows made shorter. -/
import Derived.Test.YtchiclnnoealdaaDagW3
namespace Go.Proofs.Ytchiclnnoealdaa
open Go.RowKit
set_option linter.unusedVariables false
set_option linter.unusedSimpArgs false

theorem own_idc {w : World} {base : Nat} {n : Nat} {v : Value} {l : List ID} (h : w.ownsRow base 24 32 v n (idc l)) : w.ownsRow base 24 32 v l.length (idc l) := by
  have hn : n = l.length := by have := h.1; rw [idc_length] at this; omega
  subst hn; exact h
theorem ownBlock_sl (A : Option Addr) (n c : Nat) : (Value.slice A n c).ownBlock = A.map (·.block) := by cases A <;> rfl
/-- the row without its last ID -/
theorem own_init {w : World} {base : Nat} {A : Option Addr} {c : Nat} {l : List ID} {x : ID} (h : w.ownsRow base 24 32 (.slice A (l ++ [x]).length c) (l ++ [x]).length (idc (l ++ [x]))) :
    w.ownsRow base 24 32 (.slice A l.length c) l.length (idc l) := by
  refine ⟨idc_length l, ?_⟩
  rcases h.2 with ⟨_, h0⟩ | ⟨g, cap, cur, hv, hb, hg, hnc, hm, hs, ht⟩
  · simp at h0
  · injection hv with h1 h2 h3
    subst h1; subst h3
    refine .inr ⟨g, c, cur, rfl, hb, hg, by simp at hnc; omega, hm, hs, ?_⟩
    rw [idc_append] at ht
    have e := congrArg (List.take (l.length * 32)) ht
    rw [List.take_take, List.take_left' (idc_length l)] at e
    rw [← e]
    congr 1
    simp
/-- an operation of a drawn region whose outcome is known -/
theorem step_run {P : Program} {w : World} {ops : Array Oper} {o : Oper} {a : Act} {K : Act → World → Prop} {Q : Exit → Act → World → Prop} {E : Prop} (hgd : o.guard = none) (v : Value) (w' : World)
    (hr : (execOp a.eval o).run P w = .ok (.value v) w') (h : K (a.put o.dst v) w') : if Region.wanted o (yielded ops a.tmps) = true then Oper.wp P o a w K Q else E := by
  have hw : Region.wanted o (yielded ops a.tmps) = true := by simp [Region.wanted, hgd]
  rw [if_pos hw]
  unfold Oper.wp
  rw [hr]
  exact h
theorem ex_bs1_at {ρ : Operand → Value} {o : Oper} {a : Operand} {w : World} {x : ID} (ho : o.op = .buildSlice 29 1 #[(0, a)]) (ha : ρ a = encI x) : (execOp ρ o).run Try.prog w = .ok (.value (.slice (some ⟨w.heap.size, 0, none⟩) 1 1)) (w.alloc (rowo [x])) := by
  obtain ⟨d, op, t, p, f, g⟩ := o
  simp only at ho
  subst ho
  rw [ex_bs1, ha, bsI1_at]
section
variable (w0 w : World)
theorem wpList_appD {ops : Array Oper} {rest : List Oper} {o : Oper} {a : Act} {Q : Exit → Act → World → Prop} (hgd : o.guard = none) (s x : Operand)
    (ho : o.op = .call { callee := .builtin .append, args := #[s, x], argTypes := #[29, 29] })
    (As : Option Addr) (ns cs : Nat) (lo : List ID) (hs : a.eval s = .slice As ns cs) (hns : lo.length = ns) (hown : OwnD w0 w As cs lo)
    (A : Option Addr) (m c : Nat) (news : List ID) (hx : a.eval x = .slice A m c) (hr : Sl w A (idc news)) (hl : news.length = m)
    (hbytes : lo.length + news.length ≤ 1000000000000) (hbase : w0.heap.size ≤ w.heap.size)
    (h : ∀ A' c' w', (lo ++ news).length ≤ c' → c' ≤ maxLen → OwnD w0 w' A' c' (lo ++ news) → w.grownBy w' (As.map (·.block)) →
      (A'.map (·.block) = As.map (·.block) ∨ A'.map (·.block) = some w.heap.size) → wpList Try.prog ops Q rest (a.put o.dst (.slice A' (lo ++ news).length c')) w') :
    wpList Try.prog ops Q (o :: rest) a w := by
  subst hns
  refine wpList_app w etIDs hgd s x ho w0.heap.size _ lo.length (idc lo) hs hown A m c (idc news) hx hr (by rw [idc_length, hl]) (idc_one _) (by rw [← hl]; omega) hbase ?_
  intro v' w' h1 h2 h3
  rw [← idc_append] at h1
  have h1' := own_idc h1
  obtain ⟨A', c', rfl, hc1, hc2⟩ := own_form h1'
  rw [ownBlock_sl, ownBlock_sl] at h3
  rw [ownBlock_sl] at h2
  exact h A' c' w' hc1 hc2 h1' h2 h3
theorem step_appD {ops : Array Oper} {o : Oper} {a : Act} {K : Act → World → Prop} {Q : Exit → Act → World → Prop} {E : Prop} (hgd : o.guard = none) (s x : Operand)
    (ho : o.op = .call { callee := .builtin .append, args := #[s, x], argTypes := #[29, 29] })
    (As : Option Addr) (ns cs : Nat) (lo : List ID) (hs : a.eval s = .slice As ns cs) (hns : lo.length = ns) (hown : OwnD w0 w As cs lo)
    (A : Option Addr) (m c : Nat) (news : List ID) (hx : a.eval x = .slice A m c) (hr : Sl w A (idc news)) (hl : news.length = m)
    (hbytes : lo.length + news.length ≤ 1000000000000) (hbase : w0.heap.size ≤ w.heap.size)
    (h : ∀ A' c' w', (lo ++ news).length ≤ c' → c' ≤ maxLen → OwnD w0 w' A' c' (lo ++ news) → w.grownBy w' (As.map (·.block)) →
      (A'.map (·.block) = As.map (·.block) ∨ A'.map (·.block) = some w.heap.size) → K (a.put o.dst (.slice A' (lo ++ news).length c')) w') :
    if Region.wanted o (yielded ops a.tmps) = true then Oper.wp Try.prog o a w K Q else E := by
  have hw : Region.wanted o (yielded ops a.tmps) = true := by simp [Region.wanted, hgd]
  rw [if_pos hw]
  subst hns
  refine wp_app w etIDs s x ho w0.heap.size _ lo.length (idc lo) hs hown A m c (idc news) hx hr (by rw [idc_length, hl]) (idc_one _) (by rw [← hl]; omega) hbase ?_
  intro v' w' h1 h2 h3
  rw [← idc_append] at h1
  have h1' := own_idc h1
  obtain ⟨A', c', rfl, hc1, hc2⟩ := own_form h1'
  rw [ownBlock_sl, ownBlock_sl] at h3
  rw [ownBlock_sl] at h2
  exact h A' c' w' hc1 hc2 h1' h2 h3
end
end Go.Proofs.Ytchiclnnoealdaa
