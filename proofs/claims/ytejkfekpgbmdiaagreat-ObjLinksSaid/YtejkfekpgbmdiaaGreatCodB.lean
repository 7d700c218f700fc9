/- Boxes that hold a value of several cells; rules for the operations on such values. -/
import Derived.Test.YtejkfekpgbmdiaaGreatCod
import Derived.Test.YtejkfekpgbmdiaaGreatBoxO
import Derived.Test.YtejkfekpgbmdiaaGreatObjP
import Derived.Test.YtejkfekpgbmdiaaGreatStrs
namespace Go.Proofs.YtejkfekpgbmdiaaGreat
open Go.RowKit
set_option linter.unusedVariables false
set_option linter.unusedSimpArgs false

theorem setCells_row (b : Nat) (t : TypeId) : ∀ (vs : List Value) (w : World) (c : List Value) (o : Nat), w.heap[b]? = some (.cells c.toArray t (0, 0)) → o + vs.length ≤ c.length → w.setCells b o vs = ChangeMaps.setBlock w b (.cells (c.take o ++ vs ++ c.drop (o + vs.length)).toArray t (0, 0)) := by
  have hw : ∀ (vs : List Value) (w : World) (c : List Value) (o : Nat), w.heap[b]? = some (.cells c.toArray t (0, 0)) → o + vs.length ≤ c.length → (w.setCells b o vs).heap = w.heap.setIfInBounds b (.cells (c.take o ++ vs ++ c.drop (o + vs.length)).toArray t (0, 0)) ∧ (w.setCells b o vs) = { w with heap := (w.setCells b o vs).heap } := by
    intro vs
    induction vs with
    | nil =>
      intro w c o hc ho
      refine ⟨?_, rfl⟩
      simp only [World.setCells, List.append_nil, List.length_nil, Nat.add_zero, List.take_append_drop]
      apply Array.ext_getElem?
      intro k
      rw [Array.getElem?_setIfInBounds]
      split
      · rename_i e; subst e; rw [if_pos (Array.getElem?_eq_some_iff.1 hc).1]; exact hc
      · rfl
    | cons v vs ih =>
      intro w c o hc ho
      simp only [List.length_cons] at ho
      have h1 : (w.setCell ⟨b, o, none⟩ v).heap[b]? = some (.cells (c.set o v).toArray t (0, 0)) := Blk.set (cs := c) hc o v
      obtain ⟨e1, e2⟩ := ih (w.setCell ⟨b, o, none⟩ v) (c.set o v) (o + 1) h1 (by simp; omega)
      rw [World.setCells]
      refine ⟨?_, ?_⟩
      · rw [e1]
        have e3 : (c.set o v).take (o + 1) ++ vs ++ (c.set o v).drop (o + 1 + vs.length) = c.take o ++ (v :: vs) ++ c.drop (o + (v :: vs).length) := by
          rw [List.take_add_one, List.take_set_of_le (Nat.le_refl _), List.getElem?_set_self (by omega), List.drop_set_of_lt (by omega)]
          simp [Nat.add_comm, Nat.add_left_comm]
        rw [e3]
        apply Array.ext_getElem?
        intro k
        rw [Array.getElem?_setIfInBounds, Array.getElem?_setIfInBounds]
        have es : (w.setCell ⟨b, o, none⟩ v).heap.size = w.heap.size := by simp [World.setCell]
        rw [es]
        split
        · rfl
        · rename_i hne
          exact Below.heap_setCell w ⟨b, o, none⟩ v k (fun e => hne e.symm)
      · rw [e2]; rfl
  intro vs w c o h ho
  obtain ⟨e1, e2⟩ := hw vs w c o h ho
  rw [e2, e1]
  rfl

section
variable {α : Type} (C : Cod α)
@[irreducible] def Cod.o (x : α) : Obj := .cells (C.A x) C.t
theorem Cod.o_eq (x : α) : C.o x = .cells (C.cs x).toArray C.t (0, 0) := by unfold Cod.o; rw [C.A_eq]
theorem Cod.o_inj {x y : α} (h : C.o x = C.o y) : x = y := by
  unfold Cod.o at h
  injection h with h
  exact C.A_inj h
open Classical in
/-- the value that block b holds, and nothing else -/
noncomputable def Cod.bxd (w : World) (b : Nat) : Option α := if h : ∃ x, w.heap[b]? = some (C.o x) then some h.choose else none
variable {C}
theorem Cod.bxd_of {w : World} {b : Nat} {x : α} (h : w.heap[b]? = some (C.o x)) : C.bxd w b = some x := by
  unfold Cod.bxd
  have hx : ∃ x, w.heap[b]? = some (C.o x) := ⟨x, h⟩
  rw [dif_pos hx]
  have := h.symm.trans hx.choose_spec
  injection this with this
  exact congrArg some (C.o_inj this).symm
theorem Cod.bxd_at {w : World} {b : Nat} {x : α} (h : C.bxd w b = some x) : w.heap[b]? = some (C.o x) := by
  unfold Cod.bxd at h
  split at h
  · rename_i hx
    injection h with h
    rw [← h]; exact hx.choose_spec
  · cases h
theorem Cod.bxd_blk {w : World} {b : Nat} {x : α} (h : C.bxd w b = some x) : Blk w b C.t (C.cs x) := by
  have := Cod.bxd_at h
  rw [C.o_eq] at this
  exact this
theorem Cod.bxd_lt {w : World} {b : Nat} {x : α} (h : C.bxd w b = some x) : b < w.heap.size := (Array.getElem?_eq_some_iff.1 (Cod.bxd_at h)).1
theorem Cod.bxd_rd {w : World} {b : Nat} {x : α} (h : C.bxd w b = some x) : C.rd w b 0 = some x := by
  refine Cod.Rd.rd fun j v hv => ?_
  rw [Nat.zero_add, (Cod.bxd_blk h).cell j]
  exact hv
theorem Cod.bxd_keep {w w' : World} {b : Nat} (hb : w'.heap[b]? = w.heap[b]?) : C.bxd w' b = C.bxd w b := by
  cases hx : C.bxd w b with
  | some x => exact Cod.bxd_of (hb.trans (Cod.bxd_at hx))
  | none =>
    cases hy : C.bxd w' b with
    | none => rfl
    | some y => rw [Cod.bxd_of (hb.symm.trans (Cod.bxd_at hy))] at hx; cases hx
theorem Cod.bxd_fr {M : Nat → Prop} {w w' : World} {b : Nat} {x : α} (h : C.bxd w b = some x) (f : Fr M w w') (hM : ¬ M b) : C.bxd w' b = some x := (Cod.bxd_keep (f.block b (Cod.bxd_lt h) hM)).trans h
theorem Cod.bxd_fr0 {w w' : World} {b : Nat} {x : α} (h : C.bxd w b = some x) (f : Fr noB w w') : C.bxd w' b = some x := Cod.bxd_fr h f (by simp [noB])
@[simp] theorem Cod.bxd_drew (w : World) (b : Nat) : C.bxd w.drew b = C.bxd w b := Cod.bxd_keep rfl
@[simp] theorem Cod.bxd_new (w : World) (x : α) : C.bxd (w.alloc (C.o x)) w.heap.size = some x := Cod.bxd_of (heap_alloc_new w _)
theorem Cod.bxd_old (w : World) (ob : Obj) (b : Nat) (h : b < w.heap.size) : C.bxd (w.alloc ob) b = C.bxd w b := Cod.bxd_keep (heap_alloc_old w ob h)
theorem Cod.rd_new' (w : World) (x : α) : C.rd (w.alloc (C.o x)) w.heap.size 0 = some x := Cod.bxd_rd (Cod.bxd_new w x)
/-- part of a box as an ID -/
theorem Cod.rdI_part {w : World} {b o : Nat} {x : α} {y : ID} (h : C.rd w b o = some x) (k : Nat) (hs : ∀ j v, (bv y.1)[j]? = some v → (C.cs x)[k + j]? = some v) : rdI w b (o + k) = some y :=
  Rd.rdI fun j v hv => by rw [Nat.add_assoc]; exact Cod.rd_rd h _ _ (hs j v hv)
variable (C) in
def Cod.put (w : World) (b : Nat) (x : α) : World := ChangeMaps.setBlock w b (C.o x)
theorem Cod.put_fr {w : World} {b : Nat} {y : α} (h : C.bxd w b = some y) (x : α) : Fr (oneB b) w (C.put w b x) ∧ (C.put w b x).heap.size = w.heap.size ∧ C.bxd (C.put w b x) b = some x := by
  obtain ⟨h1, h2, h3⟩ := frameMap (Cod.bxd_lt h) (C.o x)
  exact ⟨h1, h2, Cod.bxd_of h3⟩
/-- a store of cells into a part of a box -/
theorem Cod.store_part {w : World} {b : Nat} {y : α} (h : C.bxd w b = some y) (t : TypeId) (xs : List Value) (o : Nat) (y' : α) (hi : (Tryz.prog.info? t).map (·.size) = some xs.length) (h1 : ∀ u ∈ xs, u.oneCell' = true)
    (ho : o + xs.length ≤ C.n) (hs : (C.cs y).take o ++ xs ++ (C.cs y).drop (o + xs.length) = C.cs y') : (Instr.storeAt t (.pointer (some ⟨b, o, none⟩)) (.agg xs.toArray)).run Tryz.prog w = .ok () (C.put w b y') := by
  have hh := Cod.bxd_blk h
  have hrun := run_storeAt_mid (P := Tryz.prog) w b o t xs.toArray (fun j hj => by
    rw [List.size_toArray] at hj
    refine ⟨?_, hh.frozen _⟩
    rw [hh.cell]
    have : o + j < (C.cs y).length := by rw [C.len]; omega
    simp [this]) (by rw [List.size_toArray]; exact hi) (all_oneCell_toArray h1)
  rw [setCells_row b C.t xs w (C.cs y) o hh (by rw [C.len]; exact ho), hs] at hrun
  unfold Cod.put
  rw [C.o_eq]
  exact hrun
/-- a store of one cell into a box -/
theorem Cod.bxd_set {w : World} {b : Nat} {y : α} (h : C.bxd w b = some y) (o : Nat) (v : Value) (y' : α) (hs : (C.cs y).set o v = C.cs y') : C.bxd (w.setCell ⟨b, o, none⟩ v) b = some y' := by
  refine Cod.bxd_of ?_
  have := (Cod.bxd_blk h).set o v
  rw [hs] at this
  rw [C.o_eq]
  exact this
theorem Cod.set_fr (w : World) (b o : Nat) (v : Value) : Fr (oneB b) w (w.setCell ⟨b, o, none⟩ v) := (Fr.refl (oneB b) w).setCell (p := ⟨b, o, none⟩) (fun _ => rfl) _
variable (C) in
/-- what a load of such a value gives -/
noncomputable def Cod.ldR (w : World) (v : Value) (r : Result Next) : Result Next := match v with
  | .pointer (some ⟨b, off, none⟩) => (match C.rd w b off with | some x => .ok (.value (C.v x)) w | none => r)
  | _ => r
@[simp] theorem Cod.ldR_at (w : World) (b off : Nat) (r : Result Next) : C.ldR w (.pointer (some ⟨b, off, none⟩)) r = match C.rd w b off with | some x => .ok (.value (C.v x)) w | none => r := rfl
variable (C) in
@[irreducible] noncomputable def Cod.stR (w : World) (v u : Value) : Result Next := ((Instr.storeAt C.t v u).run Tryz.prog w).andThen (fun _ w => .ok .skip w)
variable (H : CodOk Tryz.prog C)
include H
theorem CodOk.ldOp (ρ : Operand → Value) (o : Oper) (a : Operand) (ho : o.op = .load C.t a) (w : World) : (execOp ρ o).run Tryz.prog w = C.ldR w (ρ a) (exElse ρ o w) := by
  have he : exElse ρ o w = (execOp ρ o).run Tryz.prog w := by unfold exElse; rfl
  rw [he]
  unfold Cod.ldR
  split
  · rename_i b off hv
    cases h : C.rd w b off with
    | none => rfl
    | some x => exact H.ex_ld ho hv h
  · rfl
theorem CodOk.alOp (ρ : Operand → Value) (o : Oper) (ho : o.op = .alloc C.t) (w : World) : (execOp ρ o).run Tryz.prog w = .ok (.value (.pointer (some ⟨w.heap.size, 0, none⟩))) (w.alloc (C.o C.z)) := by
  rw [H.ex_al ho w]
  unfold Cod.o
  rfl
omit H in
theorem Cod.stOp (ρ : Operand → Value) (o : Oper) (a x : Operand) (ho : o.op = .store C.t a x) (w : World) : (execOp ρ o).run Tryz.prog w = C.stR w (ρ a) (ρ x) := by
  unfold execOp Cod.stR
  simp only [ho, Sem.run_bind, Sem.run_pure]
omit H in
theorem Cod.bxO (w : World) (x : α) : (Instr.box C.t (C.v x)).run Tryz.prog w = .ok (.pointer (some ⟨w.heap.size, 0, none⟩)) (w.alloc (C.o x)) := by
  rw [Cod.bx w x]
  unfold Cod.o
  rfl
theorem CodOk.stR_new (w : World) (x y : α) : C.stR (w.alloc (C.o y)) (.pointer (some ⟨w.heap.size, 0, none⟩)) (C.v x) = .ok .skip (w.alloc (C.o x)) := by
  unfold Cod.stR Cod.o
  rw [H.st_new w x y]
  rfl
/-- into a box of another kind -/
theorem CodOk.stR_part {β : Type} {D : Cod β} {w : World} {b : Nat} {y : β} (h : D.bxd w b = some y) (x : α) (o : Nat) (y' : β) (ho : o + C.n ≤ D.n) (hs : (D.cs y).take o ++ C.cs x ++ (D.cs y).drop (o + C.n) = D.cs y') :
    C.stR w (.pointer (some ⟨b, o, none⟩)) (C.v x) = .ok .skip (D.put w b y') := by
  unfold Cod.stR Cod.v
  rw [C.A_eq, Cod.store_part h C.t (C.cs x) o y' (by rw [C.len]; exact H.info) (C.one x) (by rw [C.len]; exact ho) (by rw [C.len]; exact hs)]
  rfl
theorem CodOk.stR_box {w : World} {b : Nat} {y : α} (h : C.bxd w b = some y) (x : α) : C.stR w (.pointer (some ⟨b, 0, none⟩)) (C.v x) = .ok .skip (C.put w b x) := by
  refine H.stR_part h x 0 x (by omega) ?_
  rw [List.take_zero, List.nil_append, Nat.zero_add, List.drop_eq_nil_of_le (by rw [C.len]; exact Nat.le_refl _), List.append_nil]
omit H in
/-- an ID into a box -/
theorem Cod.stI_part {w : World} {b : Nat} {y : α} (h : C.bxd w b = some y) (x : ID) (o : Nat) (y' : α) (ho : o + 32 ≤ C.n) (hs : (C.cs y).take o ++ bv x.1 ++ (C.cs y).drop (o + 32) = C.cs y') :
    stI w (.pointer (some ⟨b, o, none⟩)) (encI x) = .ok .skip (C.put w b y') := by
  unfold stI
  have hl : (bv x.1).length = 32 := by rw [bv_length, x.2]
  simp only [encI, idA_eq]
  rw [Cod.store_part h 45 (bv x.1) o y' (by rw [hl]; exact infoID) (bv_one _) (by rw [hl]; exact ho) (by rw [hl]; exact hs)]
  rfl
end

/-! '[]T{x}' -/
section
variable {α : Type} (C : Cod α)
@[irreducible] def Cod.ro (l : List α) : Obj := .cells (C.row l).toArray C.t
variable {C}
theorem Cod.ro_eq (l : List α) : C.ro l = .cells (C.row l).toArray C.t (0, 0) := by unfold Cod.ro; rfl
theorem Cod.sl_new (w : World) (l : List α) : Sl (w.alloc (C.ro l)) (some ⟨w.heap.size, 0, none⟩) (C.row l) := by
  rw [C.ro_eq]; exact Sl.new w C.t (C.row l)
theorem Cod.own_new (w : World) (l : List α) (hl : l.length ≤ maxLen) : (w.alloc (C.ro l)).ownsRow w.heap.size C.t C.n (.slice (some ⟨w.heap.size, 0, none⟩) l.length l.length) l.length (C.row l) := by
  have := World.ownsRow_lit (base := w.heap.size) (e := C.t) (size := C.n) w (C.row l).toArray l.length (Nat.le_refl _) hl (by rw [List.size_toArray, Cod.row_len])
  rw [C.ro_eq]
  simpa using this
theorem CodOk.bs1 (H : CodOk Tryz.prog C) (ts : TypeId) (hu : Tryz.prog.underlying ts = some (.slice C.t)) (hsz : ∀ w, (sizeOf C.t).run Tryz.prog w = .ok C.n w) (hn : C.n ≤ 2 ^ 24) (w : World) (x : α) :
    (Instr.buildSlice ts 1 #[(0, C.v x)]).run Tryz.prog w = .ok (.slice (some ⟨w.heap.size, 0, none⟩) 1 1) (w.alloc (C.ro [x])) := by
  have hzs : (Array.range (1 * C.n)).map ((C.v C.z).cells[· % (C.v C.z).cells.size]!) = ([] ++ C.cs C.z ++ []).toArray := by
    rw [C.v_cells]
    apply Array.ext_getElem?
    intro i
    rw [List.nil_append, List.append_nil, Array.getElem?_map, Nat.one_mul]
    by_cases hi : i < C.n
    · have hi2 : i < (C.cs C.z).length := by rw [C.len]; exact hi
      rw [Array.getElem?_range, if_pos hi, List.getElem?_toArray]
      simp only [Option.map_some, List.size_toArray, C.len, Nat.mod_eq_of_lt hi]
      rw [List.getElem?_eq_getElem hi2, getElem!_pos _ _ (by simpa using hi2)]
      simp
    · rw [Array.getElem?_range, if_neg hi, List.getElem?_toArray, List.getElem?_eq_none (by rw [C.len]; omega)]
      rfl
  have h1 : Instr.fill (fun i => some (i * C.n, C.n)) ([] ++ C.cs C.z ++ []).toArray [(0, C.v x)] = some (C.row [x]).toArray :=
    (fill_one (fun i => some (i * C.n, C.n)) [] (C.cs C.z) [] (C.cs x) 0 (C.v x) [] (C.v_cells x) (by simp [C.len]) (by simp [C.len])).trans (by simp [Instr.fill, Cod.row])
  have hpos := C.pos
  simp only [Instr.buildSlice, Sem.run_bind, run_underlying hu, Result.andThen_ok, hsz, H.zv]
  have a1 : ¬ (1 * C.n > 2 ^ 24) := by omega
  have a2 : ¬ (1 * C.n = 0) := by omega
  simp only [a1, a2, if_false, Sem.run_bind, H.zv, Result.andThen_ok, Sem.run_pure, hzs, h1]
  simp [newRow, newObj, C.ro_eq, Sem.run, Result.andThen]
@[irreducible] noncomputable def bsR (ts : TypeId) (w : World) (v : Value) : Result Next := ((Instr.buildSlice ts 1 #[(0, v)]).run Tryz.prog w).andThen (fun v w => .ok (.value v) w)
theorem bsOp (ts : TypeId) (ρ : Operand → Value) (o : Oper) (a : Operand) (ho : o.op = .buildSlice ts 1 #[(0, a)]) (w : World) : (execOp ρ o).run Tryz.prog w = bsR ts w (ρ a) := by
  unfold execOp bsR
  simp only [ho, List.map_toArray, List.map_cons, List.map_nil, Sem.run_bind, Sem.run_pure]
end
end Go.Proofs.YtejkfekpgbmdiaaGreat
