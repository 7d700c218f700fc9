/- The reference's nodes: rows of them, and what they hold. -/
import Derived.Test.YtchiclnnoealdaaRefW
import Derived.Deep.OwnRows
import Derived.Deep.CutRange
import Derived.Laws.OwnMore
namespace Go.Proofs.Ytchiclnnoealdaa
open Go.RowKit Go.Maps Go.Sort Go.Shelf
set_option linter.unusedVariables false
set_option linter.unusedSimpArgs false

abbrev rno (p : ID × Value) : Obj := .cells (lnA p) 39
theorem infoRN : (Try.prog.info? 39).map (·.size) = some 33 := by kernel_rfl
theorem ld_rn {w : World} {b o : Nat} {p : ID × Value} (h : RdN w b o p) : (Instr.loadAt 39 (.pointer (some ⟨b, o, none⟩))).run Try.prog w = .ok (lnV p) w := by
  simp only [lnV, lnA_eq]
  exact run_loadAt_mid w b o 39 (lnC p) _ h Try.underlying39 rfl (by rw [lnC_len]; exact infoRN)
theorem RdN.newR (w : World) (p : ID × Value) : RdN (w.alloc (rno p)) w.heap.size 0 p := by
  intro j v hv
  have hh : (w.alloc (rno p)).heap[w.heap.size]? = some (rno p) := heap_alloc_new w _
  simp only [rno, lnA_eq] at hh ⊢
  rw [Nat.zero_add, cell_of_row _ _ j (lnC p).toArray 39 (0, 0) hh]
  simpa using hv
@[simp] theorem bx_rn (w : World) (p : ID × Value) : (Instr.box 39 (lnV p)).run Try.prog w = .ok (.pointer (some ⟨w.heap.size, 0, none⟩)) (w.alloc (rno p)) := by
  simp [Instr.box, newVar, newRow, newObj, Value.cells, Sem.run, Result.andThen]
@[irreducible] noncomputable def ldR (w : World) (v : Value) : Result Next := ((Instr.loadAt 39 v).run Try.prog w).andThen (fun v w => .ok (.value v) w)
@[simp ↓] theorem ex_ldR (ρ : Operand → Value) (a : Operand) (d : Option Nat) (t : TypeId) (p : String) (f : Array Edge) (g : Option (Nat × Bool)) (w : World) :
    (execOp ρ { dst := d, op := .load 39 a, type := t, pos := p, after := f, guard := g }).run Try.prog w = ldR w (ρ a) := by
  unfold execOp ldR
  simp only [Sem.run_bind, Sem.run_pure]
theorem ldR_at {w : World} {b o : Nat} {p : ID × Value} (h : RdN w b o p) : ldR w (.pointer (some ⟨b, o, none⟩)) = .ok (.value (lnV p)) w := by
  unfold ldR; rw [ld_rn h]; rfl
theorem zeroRN (w : World) : (zeroValue 39).run Try.prog w = .ok (lnV zN) w := by
  simp only [lnV, lnA_eq]
  exact (zero_of_info (P := Try.prog) (t := 39) (v := .agg (lnC zN).toArray) (n := 33) (by kernel_rfl)).1 w
/-- 'pollardref11.Node{id, parents}' -/
@[irreducible] noncomputable def bldR (w : World) (v u : Value) : Result Next := ((Instr.build 39 #[(0, v), (1, u)]).run Try.prog w).andThen (fun v w => .ok (.value v) w)
@[simp ↓] theorem ex_bldR (ρ : Operand → Value) (a b : Operand) (d : Option Nat) (t : TypeId) (p : String) (f : Array Edge) (g : Option (Nat × Bool)) (w : World) :
    (execOp ρ { dst := d, op := .build 39 #[(0, a), (1, b)], type := t, pos := p, after := f, guard := g }).run Try.prog w = bldR w (ρ a) (ρ b) := by
  unfold execOp bldR
  simp only [List.map_toArray, List.map_cons, List.map_nil, Sem.run_bind, Sem.run_pure]
@[simp] theorem bldR_at (w : World) (x : ID) (B : Option Addr) (n c : Nat) : bldR w (encI x) (.slice B n c) = .ok (.value (lnV (x, .slice B n c))) w := by
  unfold bldR
  have h1 : ∀ place : Nat → Option (Nat × Nat), place 0 = some (0, 32) → place 1 = some (32, 1) → Instr.fill place ([] ++ bv zID.1 ++ [Value.slice none 0 0]).toArray [(0, encI x), (1, .slice B n c)] = some (lnC (x, .slice B n c)).toArray := by
    intro place p0 p1
    refine (fill_one place [] (bv zID.1) [.slice none 0 0] (bv x.1) 0 (encI x) [(1, .slice B n c)] (cellsI x) (by simp [x.2, p0]) (by simp [x.2, zID])).trans ?_
    have := fill_one place (bv x.1) [.slice none 0 0] [] [.slice B n c] 1 (.slice B n c) [] rfl (by simp [x.2, p1]) rfl
    rw [List.append_nil] at this
    exact this.trans (by simp [Instr.fill, lnC])
  have hc : (lnV zN).cells = ([] ++ bv zID.1 ++ [Value.slice none 0 0]).toArray := by rw [lnV_cells]; rfl
  have hs29 : (sizeOf 36).run Try.prog w = .ok 1 w := Try.sizeOf36 w
  simp only [Instr.build, Sem.run_bind, zeroRN, Result.andThen_ok, run_underlying Try.underlying39, hc]
  simp only [List.mapM_toArray, List.mapM_cons, List.mapM_nil, Sem.run_bind, sizeArr, hs29, Result.andThen_ok, Sem.run_pure, Sem.run_map, map_pure, bind_pure_comp]
  rw [h1 _ rfl rfl]
  simp [lnV, lnA_eq]
theorem zsR1 : (Array.range (1 * 33)).map ((lnV zN).cells[· % (lnV zN).cells.size]!) = ([] ++ lnR [zN]).toArray := by rw [lnV_cells]; kernel_rfl
/-- '[]Node{n}' -/
theorem bsRN_1 (w : World) (p : ID × Value) : (Instr.buildSlice 28 1 #[(0, lnV p)]).run Try.prog w = .ok (.slice (some ⟨w.heap.size, 0, none⟩) 1 1) (w.alloc (.cells (lnRA [p]) 39)) := by
  have hs : (sizeOf 39).run Try.prog w = .ok 33 w := Try.sizeOf39 w
  have h1 := fill_row 33 ([p].map fun p => (lnV p, lnC p)) 0 [] (lnR [zN]) (by simp) (by simp [lnR_len]) (by
    intro q hq
    obtain ⟨p, _, rfl⟩ := List.mem_map.1 hq
    exact ⟨lnV_cells p, lnC_len p⟩)
  simp only [List.map_cons, List.map_nil, List.zipIdx_cons, List.zipIdx_nil, Nat.zero_add] at h1
  simp only [Instr.buildSlice, Sem.run_bind, run_underlying Try.underlying28, Result.andThen_ok, hs]
  simp only [show (1 * 33 > 2 ^ 24) = False from by simp, show (1 * 33 = 0) = False from by simp, if_false, Sem.run_bind, zeroRN, Result.andThen_ok, Sem.run_pure, zsR1]
  rw [h1]
  simp [newRow, newObj, lnRA_eq, lnR, Sem.run, Result.andThen]
@[irreducible] noncomputable def bsRN (w : World) (v0 : Value) : Result Next := ((Instr.buildSlice 28 1 #[(0, v0)]).run Try.prog w).andThen (fun v w => .ok (.value v) w)
@[simp ↓] theorem ex_bsRN (ρ : Operand → Value) (a : Operand) (d : Option Nat) (t : TypeId) (p : String) (f : Array Edge) (g : Option (Nat × Bool)) (w : World) :
    (execOp ρ { dst := d, op := .buildSlice 28 1 #[(0, a)], type := t, pos := p, after := f, guard := g }).run Try.prog w = bsRN w (ρ a) := by
  unfold execOp bsRN
  simp only [List.map_toArray, List.map_cons, List.map_nil, Sem.run_bind, Sem.run_pure]
@[simp] theorem bsRN_at (w : World) (p : ID × Value) : bsRN w (lnV p) = .ok (.value (.slice (some ⟨w.heap.size, 0, none⟩) 1 1)) (w.alloc (.cells (lnRA [p]) 39)) := by
  unfold bsRN; rw [bsRN_1]; rfl
theorem rnR_new (w : World) (l : List (ID × Value)) : Sl (w.alloc (.cells (lnRA l) 39)) (some ⟨w.heap.size, 0, none⟩) (lnR l) := by
  rw [lnRA_eq]; exact Sl.new w 39 (lnR l)
theorem etRN : ET Try.prog 28 39 33 56 := ET.mk' (z := .agg (lnC zN).toArray) Try.underlying28 (by kernel_rfl) (by simp [Value.cells, lnC_len]) (by decide) (by decide)

@[simp] theorem eq_arr (w : World) (x y : ID) : (binOp .eql 23 (encI x) (encI y)).run Try.prog w = .ok (.bool (decide (x = y))) w := by
  simp only [encI, idA_eq]
  have := run_eql_bytes (P := Try.prog) (w := w) 23 5 32 Try.underlying23 Try.underlying5 (by intro w; kernel_rfl) x.1 y.1 x.2 y.2
  have e : (x.1 == y.1) = decide (x = y) := by
    rw [Bool.eq_iff_iff]
    simp only [beq_iff_eq, decide_eq_true_eq]
    exact ⟨fun h => Subtype.ext h, fun h => congrArg Subtype.val h⟩
  rw [e] at this
  exact this
set_option maxRecDepth 100000 in
@[simp] theorem neq_arr (w : World) (x y : ID) : (binOp .neq 23 (encI x) (encI y)).run Try.prog w = .ok (.bool (!decide (x = y))) w := by
  have h := eq_arr w x y
  rw [run_eql_struct] at h
  rw [run_neq_struct]
  cases hr : (Op.equalIn 10000 23 (encI x) (encI y)).run Try.prog w with
  | ok b w' =>
    rw [hr] at h
    simp only [Result.andThen_ok] at h ⊢
    injection h with h1 h2
    injection h1 with h1
    rw [h1, h2]
  | _ => rw [hr] at h; cases h

theorem ex_ldA_op (ρ : Operand → Value) (o : Oper) (a : Operand) (ho : o.op = .load 23 a) (w : World) : (execOp ρ o).run Try.prog w = ldI w (ρ a) (exElse ρ o w) := by
  have he : exElse ρ o w = (execOp ρ o).run Try.prog w := by unfold exElse; rfl
  rw [he]
  unfold ldI
  split
  · rename_i b off hv
    cases h : rdI w b off with
    | none => rfl
    | some x => exact ex_ld_arr ho hv h
  · rfl
@[simp ↓] theorem ex_ldA (ρ : Operand → Value) (d : Option Nat) (a : Operand) (t : TypeId) (p : String) (f : Array Edge) (g : Option (Nat × Bool)) (w : World) :
    (execOp ρ { dst := d, op := .load 23 a, type := t, pos := p, after := f, guard := g }).run Try.prog w = ldI w (ρ a) (exElse ρ { dst := d, op := .load 23 a, type := t, pos := p, after := f, guard := g } w) := ex_ldA_op ρ _ a rfl w

/-! rows of one-cell values that are stored into -/
abbrev OwnC (base : Nat) (w : World) (t : TypeId) (g n : Nat) (xs : List Value) : Prop := w.ownsRow base t 1 (.slice (some ⟨g, 0, none⟩) n n) n xs
theorem OwnC.cell {base : Nat} {w : World} {t : TypeId} {g n : Nat} {xs : List Value} (h : OwnC base w t g n xs) {i : Nat} (hi : i < n) {v : Value} (hv : xs[i]? = some v) : w.cell? ⟨g, i, none⟩ = some v :=
  (World.ownsRow.cellAt h i (by omega)).trans hv
theorem OwnC.froz {base : Nat} {w : World} {t : TypeId} {g n : Nat} {xs : List Value} (h : OwnC base w t g n xs) (i : Nat) : w.frozen? ⟨g, i, none⟩ = false := World.ownsRow.frozenAt h i
theorem OwnC.put {base : Nat} {w : World} {t : TypeId} {g n : Nat} {xs : List Value} (h : OwnC base w t g n xs) (i : Nat) (v : Value) :
    OwnC base (w.setCell ⟨g, i, none⟩ v) t g n (xs.set i v) ∧ Fr (oneB g) w (w.setCell ⟨g, i, none⟩ v) := by
  obtain ⟨h1, h2⟩ := World.ownsRow.stored h i v
  exact ⟨h1, Fr.ofGrown h2 (fun k hk => by injection hk with hk; exact hk.symm)⟩
theorem OwnC.frX {M : Nat → Prop} {base : Nat} {w w' : World} {t : TypeId} {g n : Nat} {xs : List Value} (h : OwnC base w t g n xs) (f : Fr M w w') (hM : ¬ M g) : OwnC base w' t g n xs :=
  own_fr h f (fun k hk => by simp [Value.ownBlock] at hk; subst hk; exact hM)
theorem OwnC.lo {base : Nat} {w : World} {t : TypeId} {g n : Nat} {xs : List Value} (h : OwnC base w t g n xs) : base ≤ g ∧ g < w.heap.size := World.ownsRow.lt h g (by simp [Value.ownBlock])
theorem OwnC.mk0 (w : World) (t : TypeId) (z : Value) (n : Nat) (hn : n ≤ 1000000000) : OwnC w.heap.size (w.alloc (.cells (madeCells #[z] n) t)) t w.heap.size n (List.replicate n z) := by
  have h := World.ownsRow_lit (base := w.heap.size) (e := t) (size := 1) w (madeCells #[z] n) n (Nat.le_refl _) (by unfold maxLen; omega) (by simp [madeCells])
  have e : (madeCells #[z] n).toList = List.replicate n z := by
    apply List.ext_getElem?
    intro j
    simp [madeCells, List.getElem?_replicate]
    by_cases hj : j < n <;> simp [hj, Nat.mod_one]
  rwa [e] at h
theorem set_map {α β : Type} (m : List α) (f f' : α → β) (i : Nat) (hi : i < m.length) (v : β) (h1 : f' m[i] = v) (h2 : ∀ j (hj : j < m.length), j ≠ i → f' m[j] = f m[j]) : (m.map f).set i v = m.map f' := by
  apply List.ext_getElem
  · simp
  · intro j hj hj'
    rw [List.getElem_set]
    split
    · rename_i e; subst e; simp [h1]
    · rename_i e
      simp only [List.getElem_map]
      exact (h2 j (by simpa using hj') (fun h => e h.symm)).symm

/-! what a row of nodes holds -/
abbrev Md := List (ID × List ID)
def PsV (w : World) (v : Value) (ps : List ID) : Prop := ∃ B c, v = .slice B ps.length c ∧ Sl w B (idc ps)
theorem PsV.fr0 {w w' : World} {v : Value} {ps : List ID} (h : PsV w v ps) (f : Fr noB w w') : PsV w' v ps := by
  obtain ⟨B, c, e, h⟩ := h
  exact ⟨B, c, e, h.fr0 f⟩
inductive NdV (w : World) : List (ID × Value) → Md → Prop
  | nil : NdV w [] []
  | cons {p : ID × Value} {q : ID × List ID} {nv : List (ID × Value)} {m : Md} : (p.1 = q.1 ∧ PsV w p.2 q.2) → NdV w nv m → NdV w (p :: nv) (q :: m)
theorem NdV.fr0 {w w' : World} {nv : List (ID × Value)} {m : Md} (h : NdV w nv m) (f : Fr noB w w') : NdV w' nv m := by
  induction h with
  | nil => exact .nil
  | cons h _ ih => exact .cons ⟨h.1, h.2.fr0 f⟩ ih
theorem NdV.len {w : World} {nv : List (ID × Value)} {m : Md} (h : NdV w nv m) : nv.length = m.length := by
  induction h with
  | nil => rfl
  | cons _ _ ih => simp [ih]
theorem NdV.at {w : World} {nv : List (ID × Value)} {m : Md} (h : NdV w nv m) : ∀ (i : Nat) (hi : i < m.length) (hi' : i < nv.length), (nv[i]).1 = (m[i]).1 ∧ PsV w (nv[i]).2 (m[i]).2 := by
  induction h with
  | nil => intro i hi; simp at hi
  | cons h _ ih =>
    intro i hi hi'
    cases i with
    | zero => exact h
    | succ i => exact ih i (by simpa using hi) (by simpa using hi')
theorem NdV.app {w : World} {nv nv' : List (ID × Value)} {m m' : Md} (h : NdV w nv m) (h' : NdV w nv' m') : NdV w (nv ++ nv') (m ++ m') := by
  induction h with
  | nil => exact h'
  | cons h _ ih => exact .cons h ih
theorem NdV.take {w : World} {nv : List (ID × Value)} {m : Md} (h : NdV w nv m) : ∀ k, NdV w (nv.take k) (m.take k) := by
  induction h with
  | nil => intro k; simp; exact .nil
  | cons h _ ih =>
    intro k
    cases k with
    | zero => exact .nil
    | succ k => exact .cons h (ih k)
/-- the slice at A holds the nodes m -/
def RfA (w : World) (A : Option Addr) (m : Md) : Prop := ∃ nv, Sl w A (lnR nv) ∧ NdV w nv m
theorem RfA.fr0 {w w' : World} {A : Option Addr} {m : Md} (h : RfA w A m) (f : Fr noB w w') : RfA w' A m := by
  obtain ⟨nv, h1, h2⟩ := h
  exact ⟨nv, h1.fr0 f, h2.fr0 f⟩
theorem RfA.ad {w : World} {A : Option Addr} {m : Md} (h : RfA w A m) (h0 : 0 < m.length) : ∃ g off, A = some ⟨g, off, none⟩ := by
  obtain ⟨nv, h1, h2⟩ := h
  have := h2.len
  obtain ⟨g, off, e, _⟩ := h1 (by intro hn; have hl := lnR_len nv; rw [hn] at hl; simp at hl; omega)
  exact ⟨g, off, e⟩
/-- .. one of them -/
theorem RfA.at {w : World} {g off : Nat} {m : Md} (h : RfA w (some ⟨g, off, none⟩) m) (i : Nat) (hi : i < m.length) :
    ∃ B c, RdN w g (off + i * 33) ((m[i]).1, .slice B (m[i]).2.length c) ∧ Sl w B (idc (m[i]).2) := by
  obtain ⟨nv, h1, h2⟩ := h
  have hl := h2.len
  have h3 := h1.ln i (by omega)
  obtain ⟨e1, B, c, e2, h4⟩ := h2.at i hi (by omega)
  refine ⟨B, c, ?_, h4⟩
  have : nv[i] = ((m[i]).1, .slice B (m[i]).2.length c) := Prod.ext e1 e2
  rwa [this] at h3
end Go.Proofs.Ytchiclnnoealdaa
