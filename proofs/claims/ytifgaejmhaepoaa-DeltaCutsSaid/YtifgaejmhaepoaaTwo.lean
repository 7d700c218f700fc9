/- Two rows of bytes of a call's own, apart from each other; append laws with lengths as variables. -/
import Derived.Test.YtifgaejmhaepoaaEnc
namespace Go.Proofs.Ytifgaejmhaepoaa
open Go.RowKit
set_option linter.unusedVariables false
set_option linter.unusedSimpArgs false

abbrev OwnB (w0 w : World) (A : Option Addr) (c : Nat) (l : List UInt8) : Prop := w.ownsRow w0.heap.size 5 1 (.slice A l.length c) l.length (bv l)

theorem ownBlock_slice (A : Option Addr) (n c : Nat) : (Value.slice A n c).ownBlock = A.map (·.block) := by cases A <;> rfl

/-- 'append(out, src...)' on bytes: out a row of the call's own; lengths are variables. -/
theorem wpList_appC (w0 w : World) {ops : Array Oper} {rest : List Oper} {o : Oper} {a : Act} {Q : Exit → Act → World → Prop} (hgd : o.guard = none) (s x : Operand)
    (ho : o.op = .call { callee := .builtin .append, args := #[s, x], argTypes := #[22, 22] })
    (As : Option Addr) (ns cs : Nat) (lo : List UInt8) (hs : a.eval s = .slice As ns cs) (hns : lo.length = ns) (hown : OwnB w0 w As cs lo)
    (A : Option Addr) (m c : Nat) (news : List UInt8) (hx : a.eval x = .slice A m c) (hr : Sl w A (bv news)) (hl : news.length = m)
    (hbytes : lo.length + news.length ≤ 140737488355328) (hbase : w0.heap.size ≤ w.heap.size)
    (h : ∀ A' c' w', (lo ++ news).length ≤ c' → c' ≤ maxLen → OwnB w0 w' A' c' (lo ++ news) → w.grownBy w' (As.map (·.block)) →
      (A'.map (·.block) = As.map (·.block) ∨ A'.map (·.block) = some w.heap.size) → wpList Try.prog ops Q rest (a.put o.dst (.slice A' (lo ++ news).length c')) w') : wpList Try.prog ops Q (o :: rest) a w := by
  subst hns
  refine wpList_appB w etBytes hgd s x ho w0.heap.size _ _ lo hs hown A m c news hx hr hl hbytes hbase ?_
  intro A' c' w' h1 h2 h3 h4 h5
  rw [ownBlock_slice] at h4 h5
  exact h A' c' w' h1 h2 h3 h4 h5

structure Two (w0 w : World) (As : Option Addr) (cs : Nat) (ls : List UInt8) (At : Option Addr) (ct : Nat) (lt : List UInt8) : Prop where
  os : OwnB w0 w As cs ls
  ot : OwnB w0 w At ct lt
  ap : ∀ g, As.map (·.block) = some g → At.map (·.block) ≠ some g
  fr : Fr noB w0 w

section
variable {w0 w w' : World} {As At : Option Addr} {cs ct : Nat} {ls lt : List UInt8}
theorem Two.symm (h : Two w0 w As cs ls At ct lt) : Two w0 w At ct lt As cs ls := ⟨h.ot, h.os, fun g h1 h2 => h.ap g h2 h1, h.fr⟩
theorem Two.step0 (h : Two w0 w As cs ls At ct lt) (f : Fr noB w w') : Two w0 w' As cs ls At ct lt :=
  ⟨own_fr h.os f (fun _ _ => by simp [noB]), own_fr h.ot f (fun _ _ => by simp [noB]), h.ap, h.fr.step0 f⟩
theorem Two.size (h : Two w0 w As cs ls At ct lt) : w0.heap.size ≤ w.heap.size := h.fr.size
theorem Two.app (h : Two w0 w As cs ls At ct lt) {A' : Option Addr} {c' : Nat} {l' : List UInt8} (ho : OwnB w0 w' A' c' l') (hg : w.grownBy w' (As.map (·.block)))
    (h3 : A'.map (·.block) = As.map (·.block) ∨ A'.map (·.block) = some w.heap.size) : Two w0 w' A' c' l' At ct lt := by
  refine ⟨ho, ?_, ?_, h.fr.stepG hg (fun g hg' => (h.os.lt g (by rw [ownBlock_slice]; exact hg')).1)⟩
  · exact own_fr h.ot (Fr.ofGrown (M := fun b => As.map (·.block) = some b) hg (fun _ h => h)) (fun g hg' hx => h.ap g hx (by rw [ownBlock_slice] at hg'; exact hg'))
  · intro g h1 h2
    rcases h3 with h3 | h3
    · exact h.ap g (h3.symm.trans h1) h2
    · have := (h.ot.lt g (by rw [ownBlock_slice]; exact h2)).2
      rw [h3] at h1
      injection h1 with h1
      omega
/-- what stands in one of the two is not touched by an append to the other one -/
theorem Two.slT (h : Two w0 w As cs ls At ct lt) : Sl w At (bv lt) := Sl.own h.ot
theorem Two.slS (h : Two w0 w As cs ls At ct lt) : Sl w As (bv ls) := Sl.own h.os
end
theorem own_grow {w0 w w' : World} {A : Option Addr} {c : Nat} {l : List UInt8} (ho : OwnB w0 w A c l) (hf : Fr noB w0 w) (hg : w.grownBy w' (A.map (·.block))) : Fr noB w0 w' :=
  hf.stepG hg (fun g h => (ho.lt g (by rw [ownBlock_slice]; exact h)).1)
end Go.Proofs.Ytifgaejmhaepoaa
