/- Values of several cells (structs, arrays) by value: the walk never looks into one. One text for all types. -/
import Derived.Test.YtejkfekpgbmdiaaGreatProg
import Derived.Test.YtejkfekpgbmdiaaGreatMem
import Derived.Deep.MidRow
import Derived.Deep.WholeRow
import Derived.WalkSpells
import Derived.Outline
namespace Go.Proofs.YtejkfekpgbmdiaaGreat
open Go.RowKit
set_option linter.unusedVariables false
set_option linter.unusedSimpArgs false

/-- A type of n cells. -/
structure Cod (α : Type) where
  t : TypeId
  n : Nat
  cs : α → List Value
  z : α
  len : ∀ x, (cs x).length = n
  pos : 0 < n
  one : ∀ x, ∀ u ∈ cs x, u.oneCell' = true
  inj : ∀ x y, cs x = cs y → x = y
/-- .. as the program's table has it -/
structure CodOk {α : Type} (P : Program) (C : Cod α) : Prop where
  und : ∃ d, P.underlying C.t = some d ∧ d.isRow = true
  info : (P.info? C.t).map (·.size) = some C.n
  zero : ∀ w, (zeroValue C.t).run P w = .ok (.agg (C.cs C.z).toArray) w

section
variable {α : Type} (C : Cod α)
@[irreducible] def Cod.A (x : α) : Array Value := (C.cs x).toArray
theorem Cod.A_eq (x : α) : C.A x = (C.cs x).toArray := by unfold Cod.A; rfl
abbrev Cod.v (x : α) : Value := .agg (C.A x)
theorem Cod.v_cells (x : α) : (C.v x).cells = (C.cs x).toArray := by simp [Value.cells, C.A_eq]
theorem Cod.A_inj {x y : α} (h : C.A x = C.A y) : x = y := by
  rw [C.A_eq, C.A_eq] at h
  exact C.inj _ _ (by simpa using congrArg Array.toList h)
theorem Cod.v_inj {x y : α} (h : C.v x = C.v y) : x = y := by injection h with h; exact C.A_inj h
theorem Cod.ne (x : α) : C.cs x ≠ [] := by
  intro h
  have h1 := C.len x
  rw [h, List.length_nil] at h1
  have := C.pos
  omega

/-- such a value lies in block b from offset o on -/
def Cod.Rd (w : World) (b o : Nat) (x : α) : Prop := w.rangeAt b o (C.cs x)
open Classical in
noncomputable def Cod.rd (w : World) (b o : Nat) : Option α := if h : ∃ x, C.Rd w b o x then some h.choose else none
variable {C}
theorem Cod.Rd.uniq {w : World} {b o : Nat} {x y : α} (hx : C.Rd w b o x) (hy : C.Rd w b o y) : x = y := by
  refine C.inj _ _ (List.ext_getElem? fun j => ?_)
  by_cases hj : j < C.n
  · have ex : (C.cs x)[j]? = some ((C.cs x)[j]'(by rw [C.len]; exact hj)) := List.getElem?_eq_getElem _
    have ey : (C.cs y)[j]? = some ((C.cs y)[j]'(by rw [C.len]; exact hj)) := List.getElem?_eq_getElem _
    have := (hx j _ ex).symm.trans (hy j _ ey)
    rw [ex, ey, this]
  · rw [List.getElem?_eq_none (by rw [C.len]; omega), List.getElem?_eq_none (by rw [C.len]; omega)]
theorem Cod.Rd.rd {w : World} {b o : Nat} {x : α} (h : C.Rd w b o x) : C.rd w b o = some x := by
  unfold Cod.rd
  have hx : ∃ x, C.Rd w b o x := ⟨x, h⟩
  rw [dif_pos hx]
  exact congrArg some (hx.choose_spec.uniq h)
theorem Cod.rd_rd {w : World} {b o : Nat} {x : α} (h : C.rd w b o = some x) : C.Rd w b o x := by
  unfold Cod.rd at h
  split at h
  · rename_i hx
    injection h with h
    rw [← h]; exact hx.choose_spec
  · cases h
theorem Cod.rd_congr {w w' : World} {b o o' : Nat} (h : ∀ x, C.Rd w b o x ↔ C.Rd w' b o' x) : C.rd w b o = C.rd w' b o' := by
  cases hx : C.rd w b o with
  | some x => exact ((h x).1 (Cod.rd_rd hx)).rd.symm
  | none =>
    cases hy : C.rd w' b o' with
    | none => rfl
    | some y => rw [((h y).2 (Cod.rd_rd hy)).rd] at hx; cases hx
theorem Cod.Rd.keep {w w' : World} {b o : Nat} {x : α} (h : C.Rd w b o x) (hb : w'.heap[b]? = w.heap[b]?) : C.Rd w' b o x := fun j v hv => (World.cell?_of_block (a := ⟨b, o + j, none⟩) hb).trans (h j v hv)
theorem Cod.rd_keep {w w' : World} {b o : Nat} (hb : w'.heap[b]? = w.heap[b]?) : C.rd w' b o = C.rd w b o := Cod.rd_congr fun x => ⟨fun h => h.keep hb.symm, fun h => h.keep hb⟩
theorem Cod.Rd.lt {w : World} {b o : Nat} {x : α} (h : C.Rd w b o x) : b < w.heap.size := by
  have hl : 0 < (C.cs x).length := by rw [C.len]; exact C.pos
  exact World.block_lt_of_cell? _ _ (h 0 _ (List.getElem?_eq_getElem hl))
theorem Cod.rd_lt {w : World} {b o : Nat} {x : α} (h : C.rd w b o = some x) : b < w.heap.size := (Cod.rd_rd h).lt
theorem Cod.rd_fr {M : Nat → Prop} {w w' : World} {b o : Nat} {x : α} (h : C.rd w b o = some x) (f : Fr M w w') (hM : ¬ M b) : C.rd w' b o = some x := (Cod.rd_keep (f.block b (Cod.rd_lt h) hM)).trans h
theorem Cod.rd_fr0 {w w' : World} {b o : Nat} {x : α} (h : C.rd w b o = some x) (f : Fr noB w w') : C.rd w' b o = some x := Cod.rd_fr h f (by simp [noB])
@[simp] theorem Cod.rd_drew (w : World) (b o : Nat) : C.rd w.drew b o = C.rd w b o := Cod.rd_keep rfl
@[simp] theorem Cod.rd_drewN (w : World) (n b o : Nat) : C.rd (w.drewN n) b o = C.rd w b o := Cod.rd_keep rfl
theorem Cod.Rd.new (w : World) (t : TypeId) (x : α) : C.Rd (w.alloc (.cells (C.A x) t)) w.heap.size 0 x := by
  intro j v hv
  have hh : (w.alloc (.cells (C.A x) t)).heap[w.heap.size]? = some (.cells (C.A x) t) := heap_alloc_new w _
  simp only [C.A_eq] at hh ⊢
  rw [Nat.zero_add, cell_of_row _ _ j (C.cs x).toArray t (0, 0) hh]
  simpa using hv
@[simp] theorem Cod.rd_new (w : World) (t : TypeId) (x : α) : C.rd (w.alloc (.cells (C.A x) t)) w.heap.size 0 = some x := (Cod.Rd.new w t x).rd
@[simp] theorem Cod.rd_old (w : World) (ob : Obj) (b o : Nat) (h : b < w.heap.size) : C.rd (w.alloc ob) b o = C.rd w b o := Cod.rd_keep (heap_alloc_old w ob h)
/-- a part of a value -/
theorem Cod.Rd.part {β : Type} {C' : Cod β} {w : World} {b o : Nat} {x : α} {y : β} (h : C.Rd w b o x) (k : Nat) (hs : ∀ j v, (C'.cs y)[j]? = some v → (C.cs x)[k + j]? = some v) : C'.Rd w b (o + k) y :=
  fun j v hv => by rw [Nat.add_assoc]; exact h _ _ (hs j v hv)
theorem Cod.rd_part {β : Type} {C' : Cod β} {w : World} {b o : Nat} {x : α} {y : β} (h : C.rd w b o = some x) (k : Nat) (hs : ∀ j v, (C'.cs y)[j]? = some v → (C.cs x)[k + j]? = some v) : C'.rd w b (o + k) = some y := ((Cod.rd_rd h).part k hs).rd
theorem Cod.rd_cell {w : World} {b o : Nat} {x : α} (h : C.rd w b o = some x) (k : Nat) {v : Value} (hv : (C.cs x)[k]? = some v) : w.cell? ⟨b, o + k, none⟩ = some v := Cod.rd_rd h k v hv
end

section
variable {α : Type} {C : Cod α} {P : Program} (H : CodOk P C)
include H
theorem CodOk.ld {w : World} {b o : Nat} {x : α} (h : C.rd w b o = some x) : (Instr.loadAt C.t (.pointer (some ⟨b, o, none⟩))).run P w = .ok (C.v x) w := by
  obtain ⟨d, h1, h2⟩ := H.und
  simp only [Cod.v, C.A_eq]
  exact run_loadAt_mid w b o C.t (C.cs x) d (Cod.rd_rd h) h1 h2 (by rw [C.len]; exact H.info)
theorem CodOk.ex_ld {ρ : Operand → Value} {o : Oper} {a : Operand} {w : World} {b off : Nat} {x : α} (ho : o.op = .load C.t a) (ha : ρ a = .pointer (some ⟨b, off, none⟩)) (hr : C.rd w b off = some x) :
    (execOp ρ o).run P w = .ok (.value (C.v x)) w := by
  unfold execOp
  simp only [ho, ha, Sem.run_bind, H.ld hr, Result.andThen_ok, Sem.run_pure]
omit H in
theorem Cod.bx (w : World) (x : α) : (Instr.box C.t (C.v x)).run P w = .ok (.pointer (some ⟨w.heap.size, 0, none⟩)) (w.alloc (.cells (C.A x) C.t)) := by
  simp [Instr.box, newVar, newRow, newObj, Value.cells, Sem.run, Result.andThen]
theorem CodOk.zv (w : World) : (zeroValue C.t).run P w = .ok (C.v C.z) w := by
  simp only [Cod.v, C.A_eq]; exact H.zero w
theorem CodOk.al (w : World) : (Instr.alloc C.t true (.tuple #[])).run P w = .ok (.pointer (some ⟨w.heap.size, 0, none⟩)) (w.alloc (.cells (C.A C.z) C.t)) := by
  have := Cod.bx (C := C) (P := P) w C.z
  simp only [Instr.alloc, Sem.run_bind, H.zv, Result.andThen_ok]
  exact this
theorem CodOk.ex_al {ρ : Operand → Value} {o : Oper} (ho : o.op = .alloc C.t) (w : World) : (execOp ρ o).run P w = .ok (.value (.pointer (some ⟨w.heap.size, 0, none⟩))) (w.alloc (.cells (C.A C.z) C.t)) := by
  unfold execOp
  simp only [ho, Sem.run_bind, H.al, Result.andThen_ok, Sem.run_pure]
theorem CodOk.st_new (w : World) (x y : α) : (Instr.storeAt C.t (.pointer (some ⟨w.heap.size, 0, none⟩)) (C.v x)).run P (w.alloc (.cells (C.A y) C.t)) = .ok () (w.alloc (.cells (C.A x) C.t)) := by
  simp only [Cod.v, C.A_eq]
  exact run_storeAt_new w C.t _ _ (by rw [List.size_toArray, C.len]; exact H.info) (by simp [C.len]) (all_oneCell_toArray (C.one _))
end

/-! rows -/
section
variable {α : Type} (C : Cod α)
def Cod.row (l : List α) : List Value := l.flatMap C.cs
variable {C}
theorem Cod.row_len (l : List α) : (C.row l).length = l.length * C.n := by
  induction l with
  | nil => simp [Cod.row]
  | cons x l ih => simp only [Cod.row, List.flatMap_cons, List.length_append, C.len, List.length_cons, Nat.add_mul, Nat.one_mul] at ih ⊢; omega
theorem Cod.row_append (l m : List α) : C.row (l ++ m) = C.row l ++ C.row m := by simp [Cod.row]
theorem Cod.row_one (l : List α) : ∀ u ∈ C.row l, u.oneCell' = true := by
  intro u hu
  simp only [Cod.row, List.mem_flatMap] at hu
  obtain ⟨x, _, hu⟩ := hu
  exact C.one x u hu
theorem Cod.row_ne {l : List α} (h : l ≠ []) : C.row l ≠ [] := by
  intro h0
  have := Cod.row_len (C := C) l
  rw [h0] at this
  have h1 := List.length_pos_iff.2 h
  have := Nat.mul_pos h1 C.pos
  simp at *; omega
theorem Cod.row_get (l : List α) (i j : Nat) (hi : i < l.length) (v : Value) (hv : (C.cs l[i])[j]? = some v) : (C.row l)[i * C.n + j]? = some v := by
  induction l generalizing i with
  | nil => simp at hi
  | cons x l ih =>
    have hj : j < C.n := by have := (List.getElem?_eq_some_iff.1 hv).1; rw [C.len] at this; exact this
    simp only [Cod.row, List.flatMap_cons]
    cases i with
    | zero =>
      rw [List.getElem?_append_left (by rw [C.len]; omega)]
      simpa using hv
    | succ i =>
      rw [List.getElem?_append_right (by rw [C.len, Nat.add_mul]; omega), C.len]
      have := ih i (by simpa using hi) (by simpa using hv)
      rw [show (i + 1) * C.n + j - C.n = i * C.n + j by rw [Nat.add_mul]; omega]
      exact this
theorem Sl.rd {w : World} {g off : Nat} {l : List α} (h : Sl w (some ⟨g, off, none⟩) (C.row l)) (i : Nat) (hi : i < l.length) : C.rd w g (off + i * C.n) = some l[i] := by
  refine Cod.Rd.rd fun j v hv => ?_
  have hne : C.row l ≠ [] := Cod.row_ne (by intro h0; subst h0; simp at hi)
  obtain ⟨g', off', e, _, hc⟩ := h hne
  injection e with e
  injection e with e1 e2
  subst e1; subst e2
  have := hc _ v (Cod.row_get l i j hi v hv)
  rwa [← Nat.add_assoc] at this
theorem Sl.addr {w : World} {A : Option Addr} {l : List α} (h : Sl w A (C.row l)) (hl : 0 < l.length) : ∃ g off, A = some ⟨g, off, none⟩ ∧ g < w.heap.size := by
  obtain ⟨g, off, e, hg, _⟩ := h (Cod.row_ne (by intro h0; subst h0; simp at hl))
  exact ⟨g, off, e, hg⟩
theorem own_row {w : World} {base : Nat} {e : TypeId} {n : Nat} {v : Value} {l : List α} (h : w.ownsRow base e C.n v n (C.row l)) : w.ownsRow base e C.n v l.length (C.row l) := by
  have hn : n = l.length := by
    have := h.1
    rw [Cod.row_len] at this
    exact Nat.eq_of_mul_eq_mul_right C.pos this.symm
  subst hn; exact h
end
/-- a slice value with the row of the call's own behind it -/
abbrev OwnC {α : Type} (C : Cod α) (w0 w : World) (A : Option Addr) (c : Nat) (l : List α) : Prop := w.ownsRow w0.heap.size C.t C.n (.slice A l.length c) l.length (C.row l)
theorem ownBlock_sl' (A : Option Addr) (n c : Nat) : (Value.slice A n c).ownBlock = A.map (·.block) := by cases A <;> rfl
section
variable {α : Type} {C : Cod α} {P : Program} {t bytes : Nat} (H : ET P t C.t C.n bytes) (w0 w : World)
include H
/-- 'append(out, src...)' on rows of such values: out a row of the call's own -/
theorem wpList_appC' {ops : Array Oper} {rest : List Oper} {o : Oper} {a : Act} {Q : Exit → Act → World → Prop} (hgd : o.guard = none) (s x : Operand)
    (ho : o.op = .call { callee := .builtin .append, args := #[s, x], argTypes := #[t, t] })
    (As : Option Addr) (ns cs : Nat) (lo : List α) (hs : a.eval s = .slice As ns cs) (hns : lo.length = ns) (hown : OwnC C w0 w As cs lo)
    (A : Option Addr) (m c : Nat) (news : List α) (hx : a.eval x = .slice A m c) (hr : Sl w A (C.row news)) (hl : news.length = m)
    (hbytes : (lo.length + news.length) * bytes ≤ 140737488355328) (hbase : w0.heap.size ≤ w.heap.size)
    (h : ∀ A' c' w', (lo ++ news).length ≤ c' → c' ≤ maxLen → OwnC C w0 w' A' c' (lo ++ news) → w.grownBy w' (As.map (·.block)) →
      (A'.map (·.block) = As.map (·.block) ∨ A'.map (·.block) = some w.heap.size) → wpList P ops Q rest (a.put o.dst (.slice A' (lo ++ news).length c')) w') :
    wpList P ops Q (o :: rest) a w := by
  subst hns
  refine wpList_app w H hgd s x ho w0.heap.size _ lo.length (C.row lo) hs hown A m c (C.row news) hx hr (by rw [Cod.row_len, hl]) (Cod.row_one _) (by rw [← hl]; exact hbytes) hbase ?_
  intro v' w' h1 h2 h3
  rw [← Cod.row_append] at h1
  have h1' := own_row h1
  obtain ⟨A', c', rfl, hc1, hc2⟩ := own_form h1'
  rw [ownBlock_sl', ownBlock_sl'] at h3
  rw [ownBlock_sl'] at h2
  exact h A' c' w' hc1 hc2 h1' h2 h3
theorem step_appC' {ops : Array Oper} {o : Oper} {a : Act} {K : Act → World → Prop} {Q : Exit → Act → World → Prop} {E : Prop} (hgd : o.guard = none) (s x : Operand)
    (ho : o.op = .call { callee := .builtin .append, args := #[s, x], argTypes := #[t, t] })
    (As : Option Addr) (ns cs : Nat) (lo : List α) (hs : a.eval s = .slice As ns cs) (hns : lo.length = ns) (hown : OwnC C w0 w As cs lo)
    (A : Option Addr) (m c : Nat) (news : List α) (hx : a.eval x = .slice A m c) (hr : Sl w A (C.row news)) (hl : news.length = m)
    (hbytes : (lo.length + news.length) * bytes ≤ 140737488355328) (hbase : w0.heap.size ≤ w.heap.size)
    (h : ∀ A' c' w', (lo ++ news).length ≤ c' → c' ≤ maxLen → OwnC C w0 w' A' c' (lo ++ news) → w.grownBy w' (As.map (·.block)) →
      (A'.map (·.block) = As.map (·.block) ∨ A'.map (·.block) = some w.heap.size) → K (a.put o.dst (.slice A' (lo ++ news).length c')) w') :
    if Region.wanted o (yielded ops a.tmps) = true then Oper.wp P o a w K Q else E := by
  have hw : Region.wanted o (yielded ops a.tmps) = true := by simp [Region.wanted, hgd]
  rw [if_pos hw]
  subst hns
  refine wp_app w H s x ho w0.heap.size _ lo.length (C.row lo) hs hown A m c (C.row news) hx hr (by rw [Cod.row_len, hl]) (Cod.row_one _) (by rw [← hl]; exact hbytes) hbase ?_
  intro v' w' h1 h2 h3
  rw [← Cod.row_append] at h1
  have h1' := own_row h1
  obtain ⟨A', c', rfl, hc1, hc2⟩ := own_form h1'
  rw [ownBlock_sl', ownBlock_sl'] at h3
  rw [ownBlock_sl'] at h2
  exact h A' c' w' hc1 hc2 h1' h2 h3
end
end Go.Proofs.YtejkfekpgbmdiaaGreat
