/- Contract: the reference's Cmp. (ex_ld_arr: loads of arrays are met by that rule.) Arrays of 32 bytes by value and in variables (as the reference's functions have IDs). Contracts: the reference's order of stamps, Right, Name, zero. Contract: the reference's Good. Contracts: the reference's RightLabel, rightItem, RightDir. Contract: the reference's RightChange. Contract: the reference's SameHeads, of equal heads. (rdI, ex_ldH_at) -/
import Derived.Test.YtefcalkbfaefgaaGreatDifIK
import Derived.Test.YtefcalkbfaefgaaGreatCptK
import Derived.Test.YtefcalkbfaefgaaGreatGvKK
import Derived.Test.YtefcalkbfaefgaaGreatRegMK
namespace Go.Proofs.YtefcalkbfaefgaaGreat
open Go.RowKit Go.Maps Go.Sort Go.Shelf
set_option linter.unusedVariables false
set_option linter.unusedSimpArgs false

abbrev aro (x : ID) : Obj := .cells (idA x) 38
@[simp] theorem bx_arr (w : World) (x : ID) : (Instr.box 38 (encI x)).run Tryz.prog w = .ok (.pointer (some ⟨w.heap.size, 0, none⟩)) (w.alloc (aro x)) := by
  simp [Instr.box, newVar, newRow, newObj, Value.cells, Sem.run, Result.andThen]
theorem ex_ld_arr {ρ : Operand → Value} {o : Oper} {a : Operand} {w : World} {b off : Nat} {x : ID} (ho : o.op = .load 38 a) (ha : ρ a = .pointer (some ⟨b, off, none⟩)) (hr : rdI w b off = some x) :
    (execOp ρ o).run Tryz.prog w = .ok (.value (encI x)) w := by
  have h := ld_arr w b off
  rw [hr] at h
  unfold execOp
  simp only [ho, ha, Sem.run_bind, h, Result.andThen_ok, Sem.run_pure]
theorem blk_arr (w : World) (x : ID) : Blk (w.alloc (aro x)) w.heap.size 38 (bv x.1) := by
  have := Blk.new w 38 (bv x.1)
  rw [← idA_eq] at this
  exact this
theorem bv_at (x : ID) (k : Nat) (hk : k < 32) : (bv x.1)[k]? = some (.int .u8 ((x.1[k]'(by rw [x.2]; exact hk)).toNat : Int)) := bv_get _ _ _
theorem cb_take : ∀ (k : Nat) (a b : List UInt8), a.take k = b.take k → Lib.compareBytes a b = Lib.compareBytes (a.drop k) (b.drop k)
  | 0, a, b, _ => by simp
  | k + 1, [], [], _ => by simp
  | k + 1, [], y :: b, h => by simp at h
  | k + 1, x :: a, [], h => by simp at h
  | k + 1, x :: a, y :: b, h => by
    simp only [List.take_succ_cons, List.cons.injEq] at h
    obtain ⟨rfl, h⟩ := h
    simp only [Lib.compareBytes, List.drop_succ_cons]
    rw [if_neg (by simp), if_neg (by simp)]
    exact cb_take k a b h
theorem cmpI_at (x y : ID) (k : Nat) (hk : k < 32) (h : x.1.take k = y.1.take k) : cmpI x y = (if (x.1[k]'(by rw [x.2]; exact hk)).toNat < (y.1[k]'(by rw [y.2]; exact hk)).toNat then -1 else if (y.1[k]'(by rw [y.2]; exact hk)).toNat < (x.1[k]'(by rw [x.2]; exact hk)).toNat then 1 else Lib.compareBytes (x.1.drop (k + 1)) (y.1.drop (k + 1))) := by
  have hx : k < x.1.length := by rw [x.2]; exact hk
  have hy : k < y.1.length := by rw [y.2]; exact hk
  unfold cmpI
  rw [cb_take k _ _ h, List.drop_eq_getElem_cons hx, List.drop_eq_getElem_cons hy]
  simp only [Lib.compareBytes, UInt8.lt_iff_toNat_lt]
def RcR (x y : ID) (W : World) (gk : Nat) (iv : Value) (wr : World) : Prop := ∃ k : Nat, iv = .int .i64 (k : Int) ∧ gk = 32 - k ∧ k ≤ 32 ∧ x.1.take k = y.1.take k ∧ Fr noB W wr

end Go.Proofs.YtefcalkbfaefgaaGreat
namespace Go.Proofs.YtefcalkbfaefgaaGreat
open Go.RowKit Go.Maps Go.Sort Go.Shelf
set_option linter.unusedVariables false
set_option linter.unusedSimpArgs false

theorem sizeArr (w : World) : (sizeOf 38).run Tryz.prog w = .ok 32 w := Tryz.sizeOf38 w
theorem zeroArr (w : World) : (zeroValue 38).run Tryz.prog w = .ok (encI zID) w := by
  simp only [encI, idA_eq]
  exact (zero_of_info (P := Tryz.prog) (t := 38) (v := .agg (bv zID.1).toArray) (n := 32) (by kernel_rfl)).1 w
@[simp] theorem eq_arr (w : World) (x y : ID) : (binOp .eql 38 (encI x) (encI y)).run Tryz.prog w = .ok (.bool (decide (x = y))) w := by
  simp only [encI, idA_eq]
  have := run_eql_bytes (P := Tryz.prog) (w := w) 38 5 32 Tryz.underlying38 Tryz.underlying5 (by intro w; kernel_rfl) x.1 y.1 x.2 y.2
  have e : (x.1 == y.1) = decide (x = y) := by
    rw [Bool.eq_iff_iff]
    simp only [beq_iff_eq, decide_eq_true_eq]
    exact ⟨fun h => Subtype.ext h, fun h => congrArg Subtype.val h⟩
  rw [e] at this
  exact this
set_option maxRecDepth 100000 in
@[simp] theorem neq_arr (w : World) (x y : ID) : (binOp .neq 38 (encI x) (encI y)).run Tryz.prog w = .ok (.bool (!decide (x = y))) w := by
  have h := eq_arr w x y
  rw [run_eql_struct] at h
  rw [run_neq_struct]
  cases hr : (Op.equalIn 10000 38 (encI x) (encI y)).run Tryz.prog w with
  | ok b w' =>
    rw [hr] at h
    simp only [Result.andThen_ok] at h ⊢
    injection h with h1 h2
    injection h1 with h1
    rw [h1, h2]
  | _ => rw [hr] at h; cases h

@[simp] theorem al_ar (w : World) : (Instr.alloc 38 true (.tuple #[])).run Tryz.prog w = .ok (.pointer (some ⟨w.heap.size, 0, none⟩)) (w.alloc (aro zID)) := by
  have := bx_arr w zID
  simp only [Instr.alloc, Sem.run_bind, zeroArr, Result.andThen_ok]
  exact this
@[simp] theorem st_nwA (w : World) (x y : ID) : (Instr.storeAt 38 (.pointer (some ⟨w.heap.size, 0, none⟩)) (encI x)).run Tryz.prog (w.alloc (aro y)) = .ok () (w.alloc (aro x)) := by
  simp only [encI, aro, idA_eq]
  exact run_storeAt_new w 38 _ _ (by rw [List.size_toArray, bv_length, x.2]; exact infoArr) (by simp [x.2, y.2]) (all_oneCell_toArray (bv_one _))
@[simp ↓] theorem ex_alA (ρ : Operand → Value) (d : Option Nat) (t : TypeId) (p : String) (f : Array Edge) (g : Option (Nat × Bool)) (w : World) :
    (execOp ρ { dst := d, op := .alloc 38, type := t, pos := p, after := f, guard := g }).run Tryz.prog w = .ok (.value (.pointer (some ⟨w.heap.size, 0, none⟩))) (w.alloc (aro zID)) := by
  unfold execOp
  simp only [Sem.run_bind, al_ar, Result.andThen_ok, Sem.run_pure]
/-- a store of an ID -/
@[irreducible] noncomputable def stC (w : World) (v u : Value) : Result Next := ((Instr.storeAt 38 v u).run Tryz.prog w).andThen (fun _ w => .ok .skip w)
@[simp ↓] theorem ex_stA (ρ : Operand → Value) (a x : Operand) (d : Option Nat) (t : TypeId) (p : String) (f : Array Edge) (g : Option (Nat × Bool)) (w : World) :
    (execOp ρ { dst := d, op := .store 38 a x, type := t, pos := p, after := f, guard := g }).run Tryz.prog w = stC w (ρ a) (ρ x) := by
  unfold execOp stC
  simp only [Sem.run_bind, Sem.run_pure]
@[simp] theorem stC_new (w : World) (x y : ID) : stC (w.alloc (aro y)) (.pointer (some ⟨w.heap.size, 0, none⟩)) (encI x) = .ok .skip (w.alloc (aro x)) := by
  unfold stC
  rw [st_nwA]
  rfl
open Classical in
/-- the ID that block b holds, and nothing else -/
noncomputable def bxA (w : World) (b : Nat) : Option ID := if h : ∃ x, w.heap[b]? = some (aro x) then some h.choose else none
theorem bxA_of {w : World} {b : Nat} {x : ID} (h : w.heap[b]? = some (aro x)) : bxA w b = some x := by
  unfold bxA
  have hx : ∃ x, w.heap[b]? = some (aro x) := ⟨x, h⟩
  rw [dif_pos hx]
  have := h.symm.trans hx.choose_spec
  injection this with this
  injection this with this
  exact congrArg some (idA_inj this).symm
theorem bxA_at {w : World} {b : Nat} {x : ID} (h : bxA w b = some x) : w.heap[b]? = some (aro x) := by
  unfold bxA at h
  split at h
  · rename_i hx
    injection h with h
    rw [← h]; exact hx.choose_spec
  · cases h
theorem bxA_lt {w : World} {b : Nat} {x : ID} (h : bxA w b = some x) : b < w.heap.size := (Array.getElem?_eq_some_iff.1 (bxA_at h)).1
theorem bxA_rd {w : World} {b : Nat} {x : ID} (h : bxA w b = some x) : rdI w b 0 = some x := by
  refine Rd.rdI fun j v hv => ?_
  have hh := bxA_at h
  simp only [aro, idA_eq] at hh
  rw [Nat.zero_add, cell_of_row _ _ j (bv x.1).toArray 38 (0, 0) hh]
  simpa using hv
theorem bxA_keep {w w' : World} {b : Nat} (hb : w'.heap[b]? = w.heap[b]?) : bxA w' b = bxA w b := by
  cases hx : bxA w b with
  | some x => exact bxA_of (hb.trans (bxA_at hx))
  | none =>
    cases hy : bxA w' b with
    | none => rfl
    | some y => rw [bxA_of (hb.symm.trans (bxA_at hy))] at hx; cases hx
theorem bxA_fr {M : Nat → Prop} {w w' : World} {b : Nat} {x : ID} (h : bxA w b = some x) (f : Fr M w w') (hM : ¬ M b) : bxA w' b = some x := (bxA_keep (f.block b (bxA_lt h) hM)).trans h
@[simp] theorem bxA_drew (w : World) (b : Nat) : bxA w.drew b = bxA w b := bxA_keep rfl
@[simp] theorem bxA_new (w : World) (x : ID) : bxA (w.alloc (aro x)) w.heap.size = some x := bxA_of (heap_alloc_new w _)
theorem bxA_new' (w : World) (x : ID) (b : Nat) (hb : b = w.heap.size) : bxA (w.alloc (aro x)) b = some x := by subst hb; exact bxA_new w x
theorem bxA_old (w : World) (o : Obj) (b : Nat) (h : b < w.heap.size) : bxA (w.alloc o) b = bxA w b := bxA_keep (heap_alloc_old w o h)
abbrev putC (w : World) (b : Nat) (x : ID) : World := ChangeMaps.setBlock w b (aro x)
theorem putC_fr {w : World} {b : Nat} {y : ID} (h : bxA w b = some y) (x : ID) : Fr (oneB b) w (putC w b x) ∧ (putC w b x).heap.size = w.heap.size ∧ bxA (putC w b x) b = some x := by
  obtain ⟨g1, g2, g3⟩ := frameMap (bxA_lt h) (aro x)
  exact ⟨g1, g2, bxA_of g3⟩
theorem stC_box {w : World} {b : Nat} {y : ID} (h : bxA w b = some y) (x : ID) : stC w (.pointer (some ⟨b, 0, none⟩)) (encI x) = .ok .skip (putC w b x) := by
  have hh := bxA_at h
  unfold stC
  simp only [encI, aro, idA_eq] at hh ⊢
  have hl : (bv x.1).toArray.size = 32 := by simp [x.2]
  have hly : (bv y.1).length = 32 := by simp [y.2]
  rw [run_storeAt_mid (P := Tryz.prog) w b 0 38 (bv x.1).toArray (fun j hj => ?_) (by rw [hl]; exact infoArr) (all_oneCell_toArray (bv_one _))]
  · simp only [Result.andThen_ok, List.toList_toArray]
    congr 1
    have hw : ∀ (w : World) (c : List Value) (vs : List Value) (o : Nat), w.heap[b]? = some (.cells c.toArray 38 (0, 0)) → o + vs.length ≤ c.length → (w.setCells b o vs).heap = w.heap.setIfInBounds b (.cells (c.take o ++ vs ++ c.drop (o + vs.length)).toArray 38 (0, 0)) ∧ (w.setCells b o vs) = { w with heap := (w.setCells b o vs).heap } := by
      intro w c vs
      induction vs generalizing w c with
      | nil =>
        intro o hc ho
        refine ⟨?_, rfl⟩
        simp only [World.setCells, List.append_nil, List.length_nil, Nat.add_zero, List.take_append_drop]
        apply Array.ext_getElem?
        intro k
        rw [Array.getElem?_setIfInBounds]
        split
        · rename_i e; subst e; rw [if_pos (Array.getElem?_eq_some_iff.1 hc).1]; exact hc
        · rfl
      | cons v vs ih =>
        intro o hc ho
        simp only [List.length_cons] at ho
        have h1 : (w.setCell ⟨b, o, none⟩ v).heap[b]? = some (.cells (c.set o v).toArray 38 (0, 0)) := Blk.set (cs := c) hc o v
        obtain ⟨e1, e2⟩ := ih (w.setCell ⟨b, o, none⟩ v) (c.set o v) (o + 1) h1 (by simp; omega)
        rw [World.setCells]
        refine ⟨?_, ?_⟩
        · rw [e1]
          have e3 : (c.set o v).take (o + 1) ++ vs ++ (c.set o v).drop (o + 1 + vs.length) = c.take o ++ (v :: vs) ++ c.drop (o + (v :: vs).length) := by
            rw [List.take_add_one, List.take_set_of_le (Nat.le_refl _), List.getElem?_set_self (by omega), List.drop_set_of_lt (by omega)]
            simp [Nat.add_comm, Nat.add_left_comm]
          rw [e3]
          apply Array.ext_getElem?
          intro k
          rw [Array.getElem?_setIfInBounds, Array.getElem?_setIfInBounds]
          have es : (w.setCell ⟨b, o, none⟩ v).heap.size = w.heap.size := by simp [World.setCell]
          rw [es]
          split
          · rfl
          · rename_i hne
            exact Below.heap_setCell w ⟨b, o, none⟩ v k (fun e => hne e.symm)
        · rw [e2]; rfl
    obtain ⟨e1, e2⟩ := hw w (bv y.1) (bv x.1) 0 hh (by simp [x.2, y.2])
    have hdr : (bv y.1).drop 32 = [] := List.drop_eq_nil_of_le (by simp [y.2])
    rw [e2, e1]
    simp [putC, ChangeMaps.setBlock, aro, idA_eq, x.2, hdr]
  · rw [hl] at hj
    rw [Nat.zero_add]
    refine ⟨?_, by simp [World.frozen?, hh]⟩
    rw [cell_of_row w b j (bv y.1).toArray 38 (0, 0) hh]
    simp [y.2, hj]
@[simp] theorem stC_bx (w : World) (b : Nat) (x : ID) : stC w (.pointer (some ⟨b, 0, none⟩)) (encI x) = match bxA w b with | some _ => .ok .skip (putC w b x) | none => elseR (stC w (.pointer (some ⟨b, 0, none⟩)) (encI x)) := by
  cases h : bxA w b with
  | none => exact elseR_eq _
  | some y => exact stC_box h x

theorem ex_al_arr {ρ : Operand → Value} {o : Oper} (ho : o.op = .alloc 38) (w : World) : (execOp ρ o).run Tryz.prog w = .ok (.value (.pointer (some ⟨w.heap.size, 0, none⟩))) (w.alloc (aro zID)) := by
  obtain ⟨d, op, t, p, f, g⟩ := o
  simp only at ho
  subst ho
  rw [ex_alA]
@[simp] theorem bldA_0 (w : World) : (Instr.build 38 #[]).run Tryz.prog w = .ok (encI zID) w := by
  simp only [Instr.build, Sem.run_bind, zeroArr, Result.andThen_ok, run_underlying Tryz.underlying38, Tryz.sizeOf5, Instr.fill, Sem.run_pure]
  simp [Value.cells]
@[simp ↓] theorem ex_bldA0 (ρ : Operand → Value) (d : Option Nat) (t : TypeId) (p : String) (f : Array Edge) (g : Option (Nat × Bool)) (w : World) :
    (execOp ρ { dst := d, op := .build 38 #[], type := t, pos := p, after := f, guard := g }).run Tryz.prog w = .ok (.value (encI zID)) w := by
  unfold execOp
  simp only [List.map_toArray, List.map_nil, Sem.run_bind, bldA_0, Result.andThen_ok, Sem.run_pure]
theorem ex_bldA0_at {ρ : Operand → Value} {o : Oper} {w : World} (ho : o.op = .build 38 #[]) : (execOp ρ o).run Tryz.prog w = .ok (.value (encI zID)) w := by
  obtain ⟨d, op, t, p, f, g⟩ := o
  simp only at ho
  subst ho
  rw [ex_bldA0]
theorem ex_ldA_op (ρ : Operand → Value) (o : Oper) (a : Operand) (ho : o.op = .load 38 a) (w : World) : (execOp ρ o).run Tryz.prog w = ldI w (ρ a) (exElse ρ o w) := by
  have he : exElse ρ o w = (execOp ρ o).run Tryz.prog w := by unfold exElse; rfl
  rw [he]
  unfold ldI
  split
  · rename_i b off hv
    cases h : rdI w b off with
    | none => rfl
    | some x => exact ex_ld_arr ho hv h
  · rfl
@[simp ↓] theorem ex_ldA (ρ : Operand → Value) (d : Option Nat) (a : Operand) (t : TypeId) (p : String) (f : Array Edge) (g : Option (Nat × Bool)) (w : World) :
    (execOp ρ { dst := d, op := .load 38 a, type := t, pos := p, after := f, guard := g }).run Tryz.prog w = ldI w (ρ a) (exElse ρ { dst := d, op := .load 38 a, type := t, pos := p, after := f, guard := g } w) := ex_ldA_op ρ _ a rfl w
end Go.Proofs.YtefcalkbfaefgaaGreat
namespace Go.Proofs.YtefcalkbfaefgaaGreat
open Go.RowKit
set_option linter.unusedVariables false
set_option linter.unusedSimpArgs false

def NaR (W : World) (l : List UInt8) (gk : Nat) (iv : Value) (wr : World) : Prop :=
  ∃ k : Nat, iv = .int .i64 (k : Int) ∧ gk = l.length - k ∧ k ≤ l.length ∧ wr = W ∧ (l.take k).all (fun b => decide (b ≠ 0) && decide (b ≠ 47) && decide (b ≠ 10)) = true
theorem str_get (l : List UInt8) (k : Nat) (h : k < (str l).size) (h' : k < l.length) : (str l)[k]'h = l[k] := rfl
def okB (b : UInt8) : Bool := decide (b ≠ 0) && decide (b ≠ 47) && decide (b ≠ 10)
theorem okB_sp (x : UInt8) : (okB x = true ∧ ((x.toNat : Int) == 0) = false ∧ ((x.toNat : Int) == 47) = false ∧ ((x.toNat : Int) == 10) = false) ∨
    (okB x = false ∧ (((x.toNat : Int) == 0) = true ∨ (((x.toNat : Int) == 0) = false ∧ ((x.toNat : Int) == 47) = true) ∨ (((x.toNat : Int) == 0) = false ∧ ((x.toNat : Int) == 47) = false ∧ ((x.toNat : Int) == 10) = true))) := by
  have h : ∀ n, n < 256 → (okB (UInt8.ofNat n) = true ∧ ((n : Int) == 0) = false ∧ ((n : Int) == 47) = false ∧ ((n : Int) == 10) = false) ∨
    (okB (UInt8.ofNat n) = false ∧ (((n : Int) == 0) = true ∨ (((n : Int) == 0) = false ∧ ((n : Int) == 47) = true) ∨ (((n : Int) == 0) = false ∧ ((n : Int) == 47) = false ∧ ((n : Int) == 10) = true))) := by decide +kernel
  have := h x.toNat x.toNat_lt
  rwa [UInt8.ofNat_toNat] at this
theorem u8_beq (x : UInt8) (n : Nat) (hn : n < 256) : ((x.toNat : Int) == (n : Int)) = decide (x = UInt8.ofNat n) := by
  rw [Bool.eq_iff_iff, beq_iff_eq, decide_eq_true_eq]
  constructor
  · intro h
    have : x.toNat = n := by omega
    rw [← this]; simp
  · rintro rfl
    rw [UInt8.toNat_ofNat']; omega
theorem beq_str (l m : List UInt8) : ((str l).toList == m) = decide (l = m) := by rw [str_toList, Bool.eq_iff_iff]; simp
end Go.Proofs.YtefcalkbfaefgaaGreat
namespace Go.Proofs.YtefcalkbfaefgaaGreat
open Go.RowKit
set_option linter.unusedVariables false
set_option linter.unusedSimpArgs false

theorem cmpS_cases (a b : St) : cmpS a b = -1 ∨ cmpS a b = 0 ∨ cmpS a b = 1 := by
  unfold cmpS
  split
  · exact .inl rfl
  · split
    · exact .inr (.inr rfl)
    · split
      · exact .inl rfl
      · split
        · exact .inr (.inr rfl)
        · exact .inr (.inl rfl)
theorem cmpS_z0 (a b : St) : cmpS a b = 0 ↔ a = b := by
  obtain ⟨t, r⟩ := a
  obtain ⟨t', r'⟩ := b
  unfold cmpS
  simp only [St.mk.injEq]
  split
  · simp; omega
  · split
    · simp; omega
    · split
      · simp; omega
      · split
        · simp; omega
        · simp; omega
theorem cmpS_neg {a b : St} (h : cmpS a b < 0) : cmpS a b = -1 := by
  rcases cmpS_cases a b with h1 | h1 | h1 <;> omega
theorem beq_Z (a b : Int) : (a == b) = decide (a = b) := rfl
theorem ne_m1 {z : Int} (h : ¬ z < 0) : (z == -1) = false ∧ (z != -1) = true := by
  constructor
  · rw [beq_eq_false_iff_ne]; omega
  · rw [bne_iff_ne]; omega
end Go.Proofs.YtefcalkbfaefgaaGreat
namespace Go.Proofs.YtefcalkbfaefgaaGreat
open Go.RowKit
set_option linter.unusedVariables false
set_option linter.unusedSimpArgs false

def LpR {α : Type} (W : World) (p : α → Bool) (cf : α → α → Int) (l : List α) (gk : Nat) (iv : Value) (wr : World) : Prop := ∃ k : Nat, iv = .int .i64 (k : Int) ∧ gk = l.length - k ∧ k ≤ l.length ∧ Fr noB W wr ∧ (l.take k).all p = true ∧ riseB cf (l.take k) = true
theorem cmpS_pos {a b : St} (h : 0 < cmpS a b) : cmpS a b = 1 := by
  rcases cmpS_cases a b with h1 | h1 | h1 <;> omega
theorem ne_1 {z : Int} (hz : z = -1 ∨ z = 0 ∨ z = 1) (h : ¬ 0 < z) : (z == 1) = false ∧ (z != 1) = true := by
  constructor
  · rw [beq_eq_false_iff_ne]; omega
  · rw [bne_iff_ne]; omega
theorem hdS {w : World} {b o : Nat} {x : Hd} (h : codH.rd w b o = some x) : codS.rd w b o = some x.At := by
  have := Cod.rd_part (C' := codS) h 0 (y := x.At) (fun j v hv => by
    match j with
    | 0 => simpa [codS, csS, codH, csH] using hv
    | 1 => simpa [codS, csS, codH, csH] using hv
    | j + 2 => simp [codS, csS] at hv)
  simpa using this
theorem itS {w : World} {b o : Nat} {x : ItW} (h : codT.rd w b o = some x) : codS.rd w b o = some x.Node := by
  have := Cod.rd_part (C' := codS) h 0 (y := x.Node) (fun j v hv => by
    match j with
    | 0 => simpa [codS, csS, codT, csT] using hv
    | 1 => simpa [codS, csS, codT, csT] using hv
    | j + 2 => simp [codS, csS] at hv)
  simpa using this
end Go.Proofs.YtefcalkbfaefgaaGreat
namespace Go.Proofs.YtefcalkbfaefgaaGreat
open Go.RowKit
set_option linter.unusedVariables false
set_option linter.unusedSimpArgs false

theorem cmpI_neg {a b : ID} (h : cmpI a b < 0) : cmpI a b = -1 := by
  rcases cb_range a.1 b.1 with h1 | h1 | h1
  · exact h1
  · have : cmpI a b = 0 := h1
    omega
  · have : cmpI a b = 1 := h1
    omega
theorem opS {w : World} {b o : Nat} {x : OpW} (h : codO.rd w b o = some x) : codS.rd w b (o + 1) = some x.At := by
  exact Cod.rd_part (C' := codS) h 1 (y := x.At) (fun j v hv => by
    match j with
    | 0 => simpa [codS, csS, codO, csO] using hv
    | 1 => simpa [codS, csS, codO, csO] using hv
    | j + 2 => simp [codS, csS] at hv)
end Go.Proofs.YtefcalkbfaefgaaGreat
namespace Go.Proofs.YtefcalkbfaefgaaGreat
open Go.RowKit
set_option linter.unusedVariables false
set_option linter.unusedSimpArgs false

theorem A_H (x : Hd) : codH.A x = (.int .i64 x.At.T :: .int .i64 x.At.R :: bv x.Data.1).toArray := Cod.A_eq codH x
theorem eqIn_S (w : World) (d : Nat) (a b : Int) : (Op.equalIn (d + 2) 30 (.agg #[.int .i64 a, .int .i64 b]) (.agg #[.int .i64 a, .int .i64 b])).run Tryz.prog w = .ok true w := by
  rw [run_equalIn_struct w (d + 1) 30 _ _ (by kernel_rfl) (by kernel_rfl)]
  go_simp
theorem eqIn_I (w : World) (d : Nat) (x : ID) : (Op.equalIn (d + 2) 39 (encI x) (encI x)).run Tryz.prog w = .ok true w := by
  simp only [encI, idA_eq]
  have := run_equalIn_bytes (P := Tryz.prog) w d 39 5 32 Tryz.underlying39 Tryz.underlying5 (by intro w; kernel_rfl) x.1 x.1 x.2 x.2
  rw [beq_self_eq_true] at this
  exact this
theorem eqIn_T (w : World) (d : Nat) (l : List UInt8) : (Op.equalIn (d + 1) 9 (.string (str l)) (.string (str l))).run Tryz.prog w = .ok true w := by
  rw [run_equalIn_string w d 9 _ _ Tryz.underlying9, beq_self_eq_true]
theorem sizeI' (w : World) : (sizeOf 39).run Tryz.prog w = .ok 32 w := Tryz.sizeOf39 w
theorem eq_Hr (w : World) (x : Hd) : (binOp .eql 93 (.agg (codH.A x)) (.agg (codH.A x))).run Tryz.prog w = .ok (.bool true) w := by
  have p1 : ∀ w, (part 30 (codH.A x) 0).run Tryz.prog w = .ok (.agg #[.int .i64 x.At.T, .int .i64 x.At.R]) w := fun w => by
    rw [A_H]
    simp [part, isAgg, run_underlying Tryz.underlying30, Tryz.sizeOf30]
  have p2 : ∀ w, (part 39 (codH.A x) 2).run Tryz.prog w = .ok (encI x.Data) w := fun w => by
    rw [A_H]
    simp only [part, isAgg, Sem.run_bind, run_underlying Tryz.underlying39, Result.andThen_ok, sizeI', Sem.run_pure, if_true, encI, idA_eq]
    congr 2
    have : (Value.int IntKind.i64 x.At.T :: Value.int IntKind.i64 x.At.R :: bv x.Data.1).length = 34 := by simp [x.Data.2]
    apply Array.ext'
    simp only [Array.toList_extract, List.extract_eq_take_drop, List.drop_succ_cons, List.drop_zero]
    rw [List.take_of_length_le (by simp [x.Data.2])]
  rw [run_eql_struct, run_equalIn_struct w 9999 93 _ _ (by kernel_rfl) (by kernel_rfl)]
  have hf : (Tryz.prog.fieldsOf 93).toList.map (fun f => (f.name, f.type, f.offset)) = [("At", 30, 0), ("Data", 39, 2)] := by kernel_rfl
  generalize (Tryz.prog.fieldsOf 93).toList = fs at hf ⊢
  rcases fs with _ | ⟨a, _ | ⟨b, _ | ⟨c, r⟩⟩⟩
  · simp at hf
  · simp at hf
  · simp only [List.map_cons, List.map_nil, List.cons.injEq, Prod.mk.injEq, and_true] at hf
    obtain ⟨⟨n1, t1, o1⟩, n2, t2, o2⟩ := hf
    simp only [Op.eqFields, n1, n2, t1, t2, o1, o2, Sem.run_ite, Sem.run_bind, p1, p2, Result.andThen_ok, eqIn_S w 9997, eqIn_I w 9997]
    simp
  · simp at hf
@[simp] theorem neq_Hr (w : World) (x : Hd) : (binOp .neq 93 (.agg (codH.A x)) (.agg (codH.A x))).run Tryz.prog w = .ok (.bool false) w := neq_of_eql (eq_Hr w x)
def SmR (W : World) (n : Nat) (gk : Nat) (iv : Value) (wr : World) : Prop := ∃ k : Nat, iv = .int .i64 (k : Int) ∧ gk = n - k ∧ k ≤ n ∧ Fr noB W wr
set_option maxRecDepth 100000 in
set_option maxHeartbeats 1000000 in
theorem same_heads (w : World) (A B : Option Addr) (c d n n' : Nat) (l : List Hd) (hn : l.length = n) (hn' : l.length = n') (hl : Sl w A (codH.row l)) (hm : Sl w B (codH.row l)) (hb : l.length ≤ 140737488355328) :
    Calls Tryz.prog 39 #[.slice A n c, .slice B n' d] w (Gives w (.bool true)) := by
  subst hn
  subst hn'
  have e1 : ((l.length : Int) != (l.length : Int)) = false := by simp
  go_enter Tryz.func39, Tryz.ntmps39
  go_upto_region 4 with fail
  go_loopg [5] l.length (fun gk iv wr => SmR w l.length gk iv wr)
  case atStart => exact ⟨0, rfl, rfl, by omega, Fr.refl _ _⟩
  case round =>
    obtain ⟨k, rfl, rfl, hk, hf⟩ := hrel
    by_cases hlt : k < l.length
    · have i1 : (k : Int) < (l.length : Int) := by omega
      have i0 : (0 : Int) ≤ (k : Int) := by omega
      obtain ⟨g, off, rfl⟩ : ∃ g off, A = some ⟨g, off, none⟩ := by
        obtain ⟨g, off, h, _⟩ := hl (Cod.row_ne (by intro h0; subst h0; simp at hlt))
        exact ⟨g, off, h⟩
      obtain ⟨g', off', rfl⟩ : ∃ g off, B = some ⟨g, off, none⟩ := by
        obtain ⟨g, off, h, _⟩ := hm (Cod.row_ne (by intro h0; subst h0; simp at hlt))
        exact ⟨g, off, h⟩
      have r0 := (hl.fr0 hf.drew).rd k hlt
      have r1 := (hm.fr0 hf.drew).rd k hlt
      generalize l[k] = x at r0 r1
      go_upto_region 6 with fail
      refine wp_region_H (fun w' => codH.rd w' g (off + k * 34) = some x ∧ codH.rd w' g' (off' + k * 34) = some x) (by kernel_rfl) ⟨r0, r1⟩ (fun hF => ?_)
      refine wpAnyH_take (i := 0) (v := ?_) rfl (by kernel_rfl) (by kernel_rfl) (by kernel_rfl) (fun _ _ _ h => h) (Or.inl ⟨by rfl, ?_⟩) hF ?_
      rotate_left
      · intro wS hSw; (try dsimp only at hSw); obtain ⟨s1, s2⟩ := hSw; first | (apply Eq.trans; apply ex_ld_id; exact rfl; exact rfl; assumption; with_reducible rfl) | (apply Eq.trans; apply ex_ldH_at; exact rfl; exact rfl; assumption; with_reducible rfl) | (go_simp; try with_reducible rfl)
      try simp only [List.getElem_toArray, List.getElem_cons_zero, List.getElem_cons_succ, Act.put, List.setIfInBounds_toArray, List.set_cons_zero, List.set_cons_succ]
      refine wpAnyH_take (i := 1) (v := ?_) rfl (by kernel_rfl) (by kernel_rfl) (by kernel_rfl) (fun _ _ _ h => h) (Or.inl ⟨by rfl, ?_⟩) hF ?_
      rotate_left
      · intro wS hSw; (try dsimp only at hSw); obtain ⟨s1, s2⟩ := hSw; first | (apply Eq.trans; apply ex_ld_id; exact rfl; exact rfl; assumption; with_reducible rfl) | (apply Eq.trans; apply ex_ldH_at; exact rfl; exact rfl; assumption; with_reducible rfl) | (go_simp; try with_reducible rfl)
      try simp only [List.getElem_toArray, List.getElem_cons_zero, List.getElem_cons_succ, Act.put, List.setIfInBounds_toArray, List.set_cons_zero, List.set_cons_succ]
      refine wpAnyH_take (i := 2) (v := ?_) rfl (by kernel_rfl) (by kernel_rfl) (by kernel_rfl) (fun _ _ _ h => h) (Or.inl ⟨by rfl, ?_⟩) hF ?_
      rotate_left
      · intro wS hSw; (try dsimp only at hSw); obtain ⟨s1, s2⟩ := hSw; first | (apply Eq.trans; apply ex_ld_id; exact rfl; exact rfl; assumption; with_reducible rfl) | (apply Eq.trans; apply ex_ldH_at; exact rfl; exact rfl; assumption; with_reducible rfl) | (go_simp; try with_reducible rfl)
      try simp only [List.getElem_toArray, List.getElem_cons_zero, List.getElem_cons_succ, Act.put, List.setIfInBounds_toArray, List.set_cons_zero, List.set_cons_succ]
      refine wpAnyH_take (i := 3) (v := ?_) rfl (by kernel_rfl) (by kernel_rfl) (by kernel_rfl) (fun _ _ _ h => h) (Or.inl ⟨by rfl, ?_⟩) hF ?_
      rotate_left
      · intro wS hSw; (try dsimp only at hSw); obtain ⟨s1, s2⟩ := hSw; first | (apply Eq.trans; apply ex_ld_id; exact rfl; exact rfl; assumption; with_reducible rfl) | (apply Eq.trans; apply ex_ldH_at; exact rfl; exact rfl; assumption; with_reducible rfl) | (go_simp; try with_reducible rfl)
      try simp only [List.getElem_toArray, List.getElem_cons_zero, List.getElem_cons_succ, Act.put, List.setIfInBounds_toArray, List.set_cons_zero, List.set_cons_succ]
      refine wpAnyH_take (i := 4) (v := ?_) rfl (by kernel_rfl) (by kernel_rfl) (by kernel_rfl) (fun _ _ _ h => h) (Or.inl ⟨by rfl, ?_⟩) hF ?_
      rotate_left
      · intro wS hSw; (try dsimp only at hSw); obtain ⟨s1, s2⟩ := hSw; first | (apply Eq.trans; apply ex_ld_id; exact rfl; exact rfl; assumption; with_reducible rfl) | (apply Eq.trans; apply ex_ldH_at; exact rfl; exact rfl; assumption; with_reducible rfl) | (go_simp; try with_reducible rfl)
      try simp only [List.getElem_toArray, List.getElem_cons_zero, List.getElem_cons_succ, Act.put, List.setIfInBounds_toArray, List.set_cons_zero, List.set_cons_succ]
      refine wpAnyH_take (i := 5) (v := ?_) rfl (by kernel_rfl) (by kernel_rfl) (by kernel_rfl) (fun _ _ _ h => h) (Or.inl ⟨by rfl, ?_⟩) hF ?_
      rotate_left
      · intro wS hSw; (try dsimp only at hSw); obtain ⟨s1, s2⟩ := hSw; first | (apply Eq.trans; apply ex_ld_id; exact rfl; exact rfl; assumption; with_reducible rfl) | (apply Eq.trans; apply ex_ldH_at; exact rfl; exact rfl; assumption; with_reducible rfl) | (go_simp; try with_reducible rfl)
      try simp only [List.getElem_toArray, List.getElem_cons_zero, List.getElem_cons_succ, Act.put, List.setIfInBounds_toArray, List.set_cons_zero, List.set_cons_succ]
      refine wpAnyH_take (i := 6) (v := ?_) rfl (by kernel_rfl) (by kernel_rfl) (by kernel_rfl) (fun _ _ _ h => h) (Or.inl ⟨by rfl, ?_⟩) hF ?_
      rotate_left
      · intro wS hSw; (try dsimp only at hSw); obtain ⟨s1, s2⟩ := hSw; first | (apply Eq.trans; apply ex_ld_id; exact rfl; exact rfl; assumption; with_reducible rfl) | (apply Eq.trans; apply ex_ldH_at; exact rfl; exact rfl; assumption; with_reducible rfl) | (go_simp; try with_reducible rfl)
      try simp only [List.getElem_toArray, List.getElem_cons_zero, List.getElem_cons_succ, Act.put, List.setIfInBounds_toArray, List.set_cons_zero, List.set_cons_succ]
      refine wpAnyH_take (i := 7) (v := ?_) rfl (by kernel_rfl) (by kernel_rfl) (by kernel_rfl) (fun _ _ _ h => h) (Or.inl ⟨by rfl, ?_⟩) hF ?_
      rotate_left
      · intro wS hSw; (try dsimp only at hSw); obtain ⟨s1, s2⟩ := hSw; first | (apply Eq.trans; apply ex_ld_id; exact rfl; exact rfl; assumption; with_reducible rfl) | (apply Eq.trans; apply ex_ldH_at; exact rfl; exact rfl; assumption; with_reducible rfl) | (go_simp; try with_reducible rfl)
      try simp only [List.getElem_toArray, List.getElem_cons_zero, List.getElem_cons_succ, Act.put, List.setIfInBounds_toArray, List.set_cons_zero, List.set_cons_succ]
      refine wpAnyH_take (i := 8) (v := ?_) rfl (by kernel_rfl) (by kernel_rfl) (by kernel_rfl) (fun _ _ _ h => h) (Or.inl ⟨by rfl, ?_⟩) hF ?_
      rotate_left
      · intro wS hSw; (try dsimp only at hSw); obtain ⟨s1, s2⟩ := hSw; first | (apply Eq.trans; apply ex_ld_id; exact rfl; exact rfl; assumption; with_reducible rfl) | (apply Eq.trans; apply ex_ldH_at; exact rfl; exact rfl; assumption; with_reducible rfl) | (go_simp; try with_reducible rfl)
      try simp only [List.getElem_toArray, List.getElem_cons_zero, List.getElem_cons_succ, Act.put, List.setIfInBounds_toArray, List.set_cons_zero, List.set_cons_succ]
      refine wpAnyH_done (by kernel_rfl) ?_ _
      clear hF
      go_wp2_with fail
      go_roundg (l.length - (k + 1))
      case measure => omega
      case rel => exact ⟨k + 1, by simp, rfl, by omega, hf.drew⟩
    · have hkn : k = l.length := by omega
      subst hkn
      have i1 : ¬ (l.length : Int) < (l.length : Int) := by omega
      go_wp2_with fail
      go_ret
      exact ⟨rfl, hf⟩
end Go.Proofs.YtefcalkbfaefgaaGreat
