/- Contract: the reference's Cmp. (ex_ld_arr: loads of arrays are met by that rule.) Arrays of 32 bytes by value and in variables (as the reference's functions have IDs). Contracts: the reference's order of stamps, Right, Name, zero. Contract: the reference's Good. Contracts: the reference's RightLabel, rightItem, RightDir. Contract: the reference's RightChange. Contract: the reference's SameHeads, of equal heads. (rdI, ex_ldH_at) -/
import Derived.Test.YtdandpaeeodolaaGreatGvEK
import Derived.Test.YtdandpaeeodolaaGreatCptK
import Derived.Test.YtdandpaeeodolaaGreatRegMK
namespace Go.Proofs.YtdandpaeeodolaaGreat
open Go.RowKit Go.Maps Go.Sort Go.Shelf
set_option linter.unusedVariables false
set_option linter.unusedSimpArgs false

abbrev aro (x : ID) : Obj := .cells (idA x) 29
@[simp] theorem bx_arr (w : World) (x : ID) : (Instr.box 29 (encI x)).run Tryz.prog w = .ok (.pointer (some ⟨w.heap.size, 0, none⟩)) (w.alloc (aro x)) := by
  simp [Instr.box, newVar, newRow, newObj, Value.cells, Sem.run, Result.andThen]
theorem ex_ld_arr {ρ : Operand → Value} {o : Oper} {a : Operand} {w : World} {b off : Nat} {x : ID} (ho : o.op = .load 29 a) (ha : ρ a = .pointer (some ⟨b, off, none⟩)) (hr : rdI w b off = some x) :
    (execOp ρ o).run Tryz.prog w = .ok (.value (encI x)) w := by
  have h := ld_arr w b off
  rw [hr] at h
  unfold execOp
  simp only [ho, ha, Sem.run_bind, h, Result.andThen_ok, Sem.run_pure]
theorem blk_arr (w : World) (x : ID) : Blk (w.alloc (aro x)) w.heap.size 29 (bv x.1) := by
  have := Blk.new w 29 (bv x.1)
  rw [← idA_eq] at this
  exact this
theorem bv_at (x : ID) (k : Nat) (hk : k < 32) : (bv x.1)[k]? = some (.int .u8 ((x.1[k]'(by rw [x.2]; exact hk)).toNat : Int)) := bv_get _ _ _
theorem cb_take : ∀ (k : Nat) (a b : List UInt8), a.take k = b.take k → Lib.compareBytes a b = Lib.compareBytes (a.drop k) (b.drop k)
  | 0, a, b, _ => by simp
  | k + 1, [], [], _ => by simp
  | k + 1, [], y :: b, h => by simp at h
  | k + 1, x :: a, [], h => by simp at h
  | k + 1, x :: a, y :: b, h => by
    simp only [List.take_succ_cons, List.cons.injEq] at h
    obtain ⟨rfl, h⟩ := h
    simp only [Lib.compareBytes, List.drop_succ_cons]
    rw [if_neg (by simp), if_neg (by simp)]
    exact cb_take k a b h
theorem cmpI_at (x y : ID) (k : Nat) (hk : k < 32) (h : x.1.take k = y.1.take k) : cmpI x y = (if (x.1[k]'(by rw [x.2]; exact hk)).toNat < (y.1[k]'(by rw [y.2]; exact hk)).toNat then -1 else if (y.1[k]'(by rw [y.2]; exact hk)).toNat < (x.1[k]'(by rw [x.2]; exact hk)).toNat then 1 else Lib.compareBytes (x.1.drop (k + 1)) (y.1.drop (k + 1))) := by
  have hx : k < x.1.length := by rw [x.2]; exact hk
  have hy : k < y.1.length := by rw [y.2]; exact hk
  unfold cmpI
  rw [cb_take k _ _ h, List.drop_eq_getElem_cons hx, List.drop_eq_getElem_cons hy]
  simp only [Lib.compareBytes, UInt8.lt_iff_toNat_lt]
def RcR (x y : ID) (W : World) (gk : Nat) (iv : Value) (wr : World) : Prop := ∃ k : Nat, iv = .int .i64 (k : Int) ∧ gk = 32 - k ∧ k ≤ 32 ∧ x.1.take k = y.1.take k ∧ Fr noB W wr

end Go.Proofs.YtdandpaeeodolaaGreat
namespace Go.Proofs.YtdandpaeeodolaaGreat
open Go.RowKit Go.Maps Go.Sort Go.Shelf
set_option linter.unusedVariables false
set_option linter.unusedSimpArgs false

theorem sizeArr (w : World) : (sizeOf 29).run Tryz.prog w = .ok 32 w := Tryz.sizeOf29 w
theorem zeroArr (w : World) : (zeroValue 29).run Tryz.prog w = .ok (encI zID) w := by
  simp only [encI, idA_eq]
  exact (zero_of_info (P := Tryz.prog) (t := 29) (v := .agg (bv zID.1).toArray) (n := 32) (by kernel_rfl)).1 w
@[simp] theorem eq_arr (w : World) (x y : ID) : (binOp .eql 29 (encI x) (encI y)).run Tryz.prog w = .ok (.bool (decide (x = y))) w := by
  simp only [encI, idA_eq]
  have := run_eql_bytes (P := Tryz.prog) (w := w) 29 5 32 Tryz.underlying29 Tryz.underlying5 (by intro w; kernel_rfl) x.1 y.1 x.2 y.2
  have e : (x.1 == y.1) = decide (x = y) := by
    rw [Bool.eq_iff_iff]
    simp only [beq_iff_eq, decide_eq_true_eq]
    exact ⟨fun h => Subtype.ext h, fun h => congrArg Subtype.val h⟩
  rw [e] at this
  exact this
set_option maxRecDepth 100000 in
@[simp] theorem neq_arr (w : World) (x y : ID) : (binOp .neq 29 (encI x) (encI y)).run Tryz.prog w = .ok (.bool (!decide (x = y))) w := by
  have h := eq_arr w x y
  rw [run_eql_struct] at h
  rw [run_neq_struct]
  cases hr : (Op.equalIn 10000 29 (encI x) (encI y)).run Tryz.prog w with
  | ok b w' =>
    rw [hr] at h
    simp only [Result.andThen_ok] at h ⊢
    injection h with h1 h2
    injection h1 with h1
    rw [h1, h2]
  | _ => rw [hr] at h; cases h

@[simp] theorem al_ar (w : World) : (Instr.alloc 29 true (.tuple #[])).run Tryz.prog w = .ok (.pointer (some ⟨w.heap.size, 0, none⟩)) (w.alloc (aro zID)) := by
  have := bx_arr w zID
  simp only [Instr.alloc, Sem.run_bind, zeroArr, Result.andThen_ok]
  exact this
@[simp] theorem st_nwA (w : World) (x y : ID) : (Instr.storeAt 29 (.pointer (some ⟨w.heap.size, 0, none⟩)) (encI x)).run Tryz.prog (w.alloc (aro y)) = .ok () (w.alloc (aro x)) := by
  simp only [encI, aro, idA_eq]
  exact run_storeAt_new w 29 _ _ (by rw [List.size_toArray, bv_length, x.2]; exact infoArr) (by simp [x.2, y.2]) (all_oneCell_toArray (bv_one _))
@[simp ↓] theorem ex_alA (ρ : Operand → Value) (d : Option Nat) (t : TypeId) (p : String) (f : Array Edge) (g : Option (Nat × Bool)) (w : World) :
    (execOp ρ { dst := d, op := .alloc 29, type := t, pos := p, after := f, guard := g }).run Tryz.prog w = .ok (.value (.pointer (some ⟨w.heap.size, 0, none⟩))) (w.alloc (aro zID)) := by
  unfold execOp
  simp only [Sem.run_bind, al_ar, Result.andThen_ok, Sem.run_pure]
/-- a store of an ID -/
@[irreducible] noncomputable def stC (w : World) (v u : Value) : Result Next := ((Instr.storeAt 29 v u).run Tryz.prog w).andThen (fun _ w => .ok .skip w)
@[simp ↓] theorem ex_stA (ρ : Operand → Value) (a x : Operand) (d : Option Nat) (t : TypeId) (p : String) (f : Array Edge) (g : Option (Nat × Bool)) (w : World) :
    (execOp ρ { dst := d, op := .store 29 a x, type := t, pos := p, after := f, guard := g }).run Tryz.prog w = stC w (ρ a) (ρ x) := by
  unfold execOp stC
  simp only [Sem.run_bind, Sem.run_pure]
@[simp] theorem stC_new (w : World) (x y : ID) : stC (w.alloc (aro y)) (.pointer (some ⟨w.heap.size, 0, none⟩)) (encI x) = .ok .skip (w.alloc (aro x)) := by
  unfold stC
  rw [st_nwA]
  rfl
open Classical in
/-- the ID that block b holds, and nothing else -/
noncomputable def bxA (w : World) (b : Nat) : Option ID := if h : ∃ x, w.heap[b]? = some (aro x) then some h.choose else none
theorem bxA_of {w : World} {b : Nat} {x : ID} (h : w.heap[b]? = some (aro x)) : bxA w b = some x := by
  unfold bxA
  have hx : ∃ x, w.heap[b]? = some (aro x) := ⟨x, h⟩
  rw [dif_pos hx]
  have := h.symm.trans hx.choose_spec
  injection this with this
  injection this with this
  exact congrArg some (idA_inj this).symm
theorem bxA_at {w : World} {b : Nat} {x : ID} (h : bxA w b = some x) : w.heap[b]? = some (aro x) := by
  unfold bxA at h
  split at h
  · rename_i hx
    injection h with h
    rw [← h]; exact hx.choose_spec
  · cases h
theorem bxA_lt {w : World} {b : Nat} {x : ID} (h : bxA w b = some x) : b < w.heap.size := (Array.getElem?_eq_some_iff.1 (bxA_at h)).1
theorem bxA_rd {w : World} {b : Nat} {x : ID} (h : bxA w b = some x) : rdI w b 0 = some x := by
  refine Rd.rdI fun j v hv => ?_
  have hh := bxA_at h
  simp only [aro, idA_eq] at hh
  rw [Nat.zero_add, cell_of_row _ _ j (bv x.1).toArray 29 (0, 0) hh]
  simpa using hv
theorem bxA_keep {w w' : World} {b : Nat} (hb : w'.heap[b]? = w.heap[b]?) : bxA w' b = bxA w b := by
  cases hx : bxA w b with
  | some x => exact bxA_of (hb.trans (bxA_at hx))
  | none =>
    cases hy : bxA w' b with
    | none => rfl
    | some y => rw [bxA_of (hb.symm.trans (bxA_at hy))] at hx; cases hx
theorem bxA_fr {M : Nat → Prop} {w w' : World} {b : Nat} {x : ID} (h : bxA w b = some x) (f : Fr M w w') (hM : ¬ M b) : bxA w' b = some x := (bxA_keep (f.block b (bxA_lt h) hM)).trans h
@[simp] theorem bxA_drew (w : World) (b : Nat) : bxA w.drew b = bxA w b := bxA_keep rfl
@[simp] theorem bxA_new (w : World) (x : ID) : bxA (w.alloc (aro x)) w.heap.size = some x := bxA_of (heap_alloc_new w _)
theorem bxA_new' (w : World) (x : ID) (b : Nat) (hb : b = w.heap.size) : bxA (w.alloc (aro x)) b = some x := by subst hb; exact bxA_new w x
theorem bxA_old (w : World) (o : Obj) (b : Nat) (h : b < w.heap.size) : bxA (w.alloc o) b = bxA w b := bxA_keep (heap_alloc_old w o h)
abbrev putC (w : World) (b : Nat) (x : ID) : World := ChangeMaps.setBlock w b (aro x)
theorem putC_fr {w : World} {b : Nat} {y : ID} (h : bxA w b = some y) (x : ID) : Fr (oneB b) w (putC w b x) ∧ (putC w b x).heap.size = w.heap.size ∧ bxA (putC w b x) b = some x := by
  obtain ⟨g1, g2, g3⟩ := frameMap (bxA_lt h) (aro x)
  exact ⟨g1, g2, bxA_of g3⟩
theorem stC_box {w : World} {b : Nat} {y : ID} (h : bxA w b = some y) (x : ID) : stC w (.pointer (some ⟨b, 0, none⟩)) (encI x) = .ok .skip (putC w b x) := by
  have hh := bxA_at h
  unfold stC
  simp only [encI, aro, idA_eq] at hh ⊢
  have hl : (bv x.1).toArray.size = 32 := by simp [x.2]
  have hly : (bv y.1).length = 32 := by simp [y.2]
  rw [run_storeAt_mid (P := Tryz.prog) w b 0 29 (bv x.1).toArray (fun j hj => ?_) (by rw [hl]; exact infoArr) (all_oneCell_toArray (bv_one _))]
  · simp only [Result.andThen_ok, List.toList_toArray]
    congr 1
    have hw : ∀ (w : World) (c : List Value) (vs : List Value) (o : Nat), w.heap[b]? = some (.cells c.toArray 29 (0, 0)) → o + vs.length ≤ c.length → (w.setCells b o vs).heap = w.heap.setIfInBounds b (.cells (c.take o ++ vs ++ c.drop (o + vs.length)).toArray 29 (0, 0)) ∧ (w.setCells b o vs) = { w with heap := (w.setCells b o vs).heap } := by
      intro w c vs
      induction vs generalizing w c with
      | nil =>
        intro o hc ho
        refine ⟨?_, rfl⟩
        simp only [World.setCells, List.append_nil, List.length_nil, Nat.add_zero, List.take_append_drop]
        apply Array.ext_getElem?
        intro k
        rw [Array.getElem?_setIfInBounds]
        split
        · rename_i e; subst e; rw [if_pos (Array.getElem?_eq_some_iff.1 hc).1]; exact hc
        · rfl
      | cons v vs ih =>
        intro o hc ho
        simp only [List.length_cons] at ho
        have h1 : (w.setCell ⟨b, o, none⟩ v).heap[b]? = some (.cells (c.set o v).toArray 29 (0, 0)) := Blk.set (cs := c) hc o v
        obtain ⟨e1, e2⟩ := ih (w.setCell ⟨b, o, none⟩ v) (c.set o v) (o + 1) h1 (by simp; omega)
        rw [World.setCells]
        refine ⟨?_, ?_⟩
        · rw [e1]
          have e3 : (c.set o v).take (o + 1) ++ vs ++ (c.set o v).drop (o + 1 + vs.length) = c.take o ++ (v :: vs) ++ c.drop (o + (v :: vs).length) := by
            rw [List.take_add_one, List.take_set_of_le (Nat.le_refl _), List.getElem?_set_self (by omega), List.drop_set_of_lt (by omega)]
            simp [Nat.add_comm, Nat.add_left_comm]
          rw [e3]
          apply Array.ext_getElem?
          intro k
          rw [Array.getElem?_setIfInBounds, Array.getElem?_setIfInBounds]
          have es : (w.setCell ⟨b, o, none⟩ v).heap.size = w.heap.size := by simp [World.setCell]
          rw [es]
          split
          · rfl
          · rename_i hne
            exact Below.heap_setCell w ⟨b, o, none⟩ v k (fun e => hne e.symm)
        · rw [e2]; rfl
    obtain ⟨e1, e2⟩ := hw w (bv y.1) (bv x.1) 0 hh (by simp [x.2, y.2])
    have hdr : (bv y.1).drop 32 = [] := List.drop_eq_nil_of_le (by simp [y.2])
    rw [e2, e1]
    simp [putC, ChangeMaps.setBlock, aro, idA_eq, x.2, hdr]
  · rw [hl] at hj
    rw [Nat.zero_add]
    refine ⟨?_, by simp [World.frozen?, hh]⟩
    rw [cell_of_row w b j (bv y.1).toArray 29 (0, 0) hh]
    simp [y.2, hj]
@[simp] theorem stC_bx (w : World) (b : Nat) (x : ID) : stC w (.pointer (some ⟨b, 0, none⟩)) (encI x) = match bxA w b with | some _ => .ok .skip (putC w b x) | none => elseR (stC w (.pointer (some ⟨b, 0, none⟩)) (encI x)) := by
  cases h : bxA w b with
  | none => exact elseR_eq _
  | some y => exact stC_box h x

theorem ex_al_arr {ρ : Operand → Value} {o : Oper} (ho : o.op = .alloc 29) (w : World) : (execOp ρ o).run Tryz.prog w = .ok (.value (.pointer (some ⟨w.heap.size, 0, none⟩))) (w.alloc (aro zID)) := by
  obtain ⟨d, op, t, p, f, g⟩ := o
  simp only at ho
  subst ho
  rw [ex_alA]
@[simp] theorem bldA_0 (w : World) : (Instr.build 29 #[]).run Tryz.prog w = .ok (encI zID) w := by
  simp only [Instr.build, Sem.run_bind, zeroArr, Result.andThen_ok, run_underlying Tryz.underlying29, Tryz.sizeOf5, Instr.fill, Sem.run_pure]
  simp [Value.cells]
@[simp ↓] theorem ex_bldA0 (ρ : Operand → Value) (d : Option Nat) (t : TypeId) (p : String) (f : Array Edge) (g : Option (Nat × Bool)) (w : World) :
    (execOp ρ { dst := d, op := .build 29 #[], type := t, pos := p, after := f, guard := g }).run Tryz.prog w = .ok (.value (encI zID)) w := by
  unfold execOp
  simp only [List.map_toArray, List.map_nil, Sem.run_bind, bldA_0, Result.andThen_ok, Sem.run_pure]
theorem ex_bldA0_at {ρ : Operand → Value} {o : Oper} {w : World} (ho : o.op = .build 29 #[]) : (execOp ρ o).run Tryz.prog w = .ok (.value (encI zID)) w := by
  obtain ⟨d, op, t, p, f, g⟩ := o
  simp only at ho
  subst ho
  rw [ex_bldA0]
theorem ex_ldA_op (ρ : Operand → Value) (o : Oper) (a : Operand) (ho : o.op = .load 29 a) (w : World) : (execOp ρ o).run Tryz.prog w = ldI w (ρ a) (exElse ρ o w) := by
  have he : exElse ρ o w = (execOp ρ o).run Tryz.prog w := by unfold exElse; rfl
  rw [he]
  unfold ldI
  split
  · rename_i b off hv
    cases h : rdI w b off with
    | none => rfl
    | some x => exact ex_ld_arr ho hv h
  · rfl
@[simp ↓] theorem ex_ldA (ρ : Operand → Value) (d : Option Nat) (a : Operand) (t : TypeId) (p : String) (f : Array Edge) (g : Option (Nat × Bool)) (w : World) :
    (execOp ρ { dst := d, op := .load 29 a, type := t, pos := p, after := f, guard := g }).run Tryz.prog w = ldI w (ρ a) (exElse ρ { dst := d, op := .load 29 a, type := t, pos := p, after := f, guard := g } w) := ex_ldA_op ρ _ a rfl w
end Go.Proofs.YtdandpaeeodolaaGreat
namespace Go.Proofs.YtdandpaeeodolaaGreat
open Go.RowKit
set_option linter.unusedVariables false
set_option linter.unusedSimpArgs false

set_option maxRecDepth 100000 in
theorem r3cmp_any (w : World) (x y : St) : Calls Tryz.prog 48 #[.agg (codS.A x), .agg (codS.A y)] w (Gives w (.int .i64 (cmpS x y))) := by
  have f0 : Fr noB w ((w.alloc (.cells (codS.A x) 28)).alloc (.cells (codS.A y) 28)) := ((Fr.refl noB w).alloc _).alloc _
  have q1 := Cod.rd_fr0 (Cod.rd_new (C := codS) w 28 x) ((Fr.refl noB _).alloc (.cells (codS.A y) 28))
  have q2 := Cod.rd_new (C := codS) (w.alloc (.cells (codS.A x) 28)) 28 y
  have hz : (w.alloc (.cells (codS.A x) 28)).heap.size = w.heap.size + 1 := by simp
  rw [hz] at q2
  have a1 := Cod.rd_cell q1 0 (v := .int .i64 x.T) rfl
  have a2 := Cod.rd_cell q1 1 (v := .int .i64 x.R) rfl
  have b1 := Cod.rd_cell q2 0 (v := .int .i64 y.T) rfl
  have b2 := Cod.rd_cell q2 1 (v := .int .i64 y.R) rfl
  simp only [Nat.zero_add] at a1 a2 b1 b2
  clear hz q1 q2
  go_enter Tryz.func48, Tryz.ntmps48
  go_upto_region 1 with fail
  generalize (w.alloc (.cells (codS.A x) 28)).alloc (.cells (codS.A y) 28) = W0 at f0 a1 a2 b1 b2 ⊢
  generalize w.heap.size = P at a1 a2 b1 b2 ⊢
  by_cases h1 : x.T < y.T
  · have E := Lib.hid (show cmpS x y = -1 by simp [cmpS, h1])
    go_wp2_with fail
    go_ret
    exact ⟨by rw [E.out]; rfl, f0⟩
  · by_cases h2 : x.T = y.T
    · have h2b : (x.T == y.T) = true := by simp [h2]
      by_cases h3 : x.R < y.R
      · have E := Lib.hid (show cmpS x y = -1 by simp [cmpS, h2, h3])
        clear h2
        go_wp2_with fail
        go_ret
        exact ⟨by rw [E.out]; rfl, f0⟩
      · by_cases h4 : x.R = y.R
        · have h4b : (x.R == y.R) = true := by simp [h4]
          have E := Lib.hid (show cmpS x y = 0 by simp [cmpS, h2, h4])
          clear h2 h4
          go_wp2_with fail
          go_ret
          exact ⟨by rw [E.out]; rfl, f0⟩
        · have h4b : (x.R == y.R) = false := by rw [beq_eq_false_iff_ne]; exact h4
          have h5 : y.R < x.R := by omega
          have E := Lib.hid (show cmpS x y = 1 by simp [cmpS, h2, h3, h5])
          clear h2 h4 h5
          go_wp2_with fail
          go_ret
          exact ⟨by rw [E.out]; rfl, f0⟩
    · have h2b : (x.T == y.T) = false := by rw [beq_eq_false_iff_ne]; exact h2
      have h5 : y.T < x.T := by omega
      have E := Lib.hid (show cmpS x y = 1 by simp [cmpS, h1, h5])
      clear h2 h5
      go_wp2_with fail
      go_ret
      exact ⟨by rw [E.out]; rfl, f0⟩
set_option maxRecDepth 100000 in
theorem r3right_any (w : World) (s : St) : Calls Tryz.prog 47 #[.agg (codS.A s)] w (Gives w (.bool (rightS s))) := by
  have f0 : Fr noB w (w.alloc (.cells (codS.A s) 28)) := (Fr.refl noB w).alloc _
  have q1 := Cod.rd_new (C := codS) w 28 s
  have a1 := Cod.rd_cell q1 0 (v := .int .i64 s.T) rfl
  have a2 := Cod.rd_cell q1 1 (v := .int .i64 s.R) rfl
  simp only [Nat.zero_add] at a1 a2
  clear q1
  have E := Lib.hid (show rightS s = (decide (0 < s.T) && decide (s.T ≤ 1099511627776) && decide (0 < s.R) && decide (s.R ≤ 65536)) from rfl)
  go_enter Tryz.func47, Tryz.ntmps47
  go_upto_region 1 with fail
  generalize w.alloc (.cells (codS.A s) 28) = W0 at f0 a1 a2 ⊢
  generalize w.heap.size = P at a1 a2 ⊢
  go_wp2_with fail
  all_goals
    go_ret
    refine ⟨?_, f0⟩
    rw [E.out]
    first
    | (simp [*]; done)
    | (simp_all; done)
    | (simp_all; omega)
def NaR (W : World) (l : List UInt8) (gk : Nat) (iv : Value) (wr : World) : Prop :=
  ∃ k : Nat, iv = .int .i64 (k : Int) ∧ gk = l.length - k ∧ k ≤ l.length ∧ wr = W ∧ (l.take k).all (fun b => decide (b ≠ 0) && decide (b ≠ 47) && decide (b ≠ 10)) = true
theorem str_get (l : List UInt8) (k : Nat) (h : k < (str l).size) (h' : k < l.length) : (str l)[k]'h = l[k] := rfl
def okB (b : UInt8) : Bool := decide (b ≠ 0) && decide (b ≠ 47) && decide (b ≠ 10)
theorem okB_sp (x : UInt8) : (okB x = true ∧ ((x.toNat : Int) == 0) = false ∧ ((x.toNat : Int) == 47) = false ∧ ((x.toNat : Int) == 10) = false) ∨
    (okB x = false ∧ (((x.toNat : Int) == 0) = true ∨ (((x.toNat : Int) == 0) = false ∧ ((x.toNat : Int) == 47) = true) ∨ (((x.toNat : Int) == 0) = false ∧ ((x.toNat : Int) == 47) = false ∧ ((x.toNat : Int) == 10) = true))) := by
  have h : ∀ n, n < 256 → (okB (UInt8.ofNat n) = true ∧ ((n : Int) == 0) = false ∧ ((n : Int) == 47) = false ∧ ((n : Int) == 10) = false) ∨
    (okB (UInt8.ofNat n) = false ∧ (((n : Int) == 0) = true ∨ (((n : Int) == 0) = false ∧ ((n : Int) == 47) = true) ∨ (((n : Int) == 0) = false ∧ ((n : Int) == 47) = false ∧ ((n : Int) == 10) = true))) := by decide +kernel
  have := h x.toNat x.toNat_lt
  rwa [UInt8.ofNat_toNat] at this
theorem u8_beq (x : UInt8) (n : Nat) (hn : n < 256) : ((x.toNat : Int) == (n : Int)) = decide (x = UInt8.ofNat n) := by
  rw [Bool.eq_iff_iff, beq_iff_eq, decide_eq_true_eq]
  constructor
  · intro h
    have : x.toNat = n := by omega
    rw [← this]; simp
  · rintro rfl
    rw [UInt8.toNat_ofNat']; omega
theorem beq_str (l m : List UInt8) : ((str l).toList == m) = decide (l = m) := by rw [str_toList, Bool.eq_iff_iff]; simp
set_option maxRecDepth 100000 in
theorem r3name_any (w : World) (l : List UInt8) (hb : l.length ≤ 140737488355328) : Calls Tryz.prog 49 #[.string (str l)] w (Gives w (.bool (nameOk l))) := by
  have hz := str_size l
  have hT : (str l).toList = l := str_toList l
  have HT := Lib.hid hT
  have HB := Lib.hid (show nameOk l = (decide (1 ≤ l.length) && decide (l.length ≤ 60) && decide (l ≠ [46]) && decide (l ≠ [46, 46]) && l.all okB) from rfl)
  clear hT
  go_enter Tryz.func49, Tryz.ntmps49
  go_wp2_with fail
  go_loopg [3] l.length (fun gk iv wr => NaR w l gk iv wr)
  case atStart => exact ⟨0, rfl, by omega, by omega, rfl, rfl⟩
  case round =>
    obtain ⟨k, rfl, rfl, hk, rfl, ha⟩ := hrel
    have HA := Lib.hid ha
    clear ha
    by_cases hlt : k < l.length
    · have i1 : (k : Int) < (l.length : Int) := by omega
      have i0 : (0 : Int) ≤ (k : Int) := by omega
      have ht : (l.take (k + 1)).all okB = ((l.take k).all okB && okB l[k]) := by rw [List.take_succ_eq_append_getElem hlt, List.all_append]; simp
      have hbad : okB l[k] = false → l.all okB = false := fun h => by
        rw [List.all_eq_false]
        exact ⟨l[k], List.getElem_mem hlt, by rw [h]; simp⟩
      have hks : k < (str l).size := by rw [hz]; exact hlt
      have hsp := okB_sp ((str l)[k]'hks)
      have HT2 := Lib.hid ht
      have HBAD := Lib.hid hbad
      clear ht hbad
      rcases hsp with ⟨hx, d1, d2, d3⟩ | ⟨hx, hd⟩
      · have HX := Lib.hid hx
        clear hx
        go_wp2_with fail
        go_roundg (l.length - (k + 1))
        case measure => omega
        case rel => exact ⟨k + 1, by simp, rfl, by omega, rfl, by
          have := HT2.out
          rw [show okB l[k] = true from HX.out, Bool.and_true] at this
          exact this.trans HA.out⟩
      · have HF := Lib.hid (HBAD.out hx)
        have HFIN := Lib.hid (show nameOk l = false by rw [HB.out, HF.out]; simp)
        clear hx
        rcases hd with d1 | ⟨d1, d2⟩ | ⟨d1, d2, d3⟩
        all_goals
          go_wp2_with fail
          go_ret
          exact ⟨by rw [HFIN.out]; rfl, Fr.refl _ _⟩
    · have hkl : k = l.length := by omega
      subst hkl
      have i1 : ¬ (l.length : Int) < (l.length : Int) := by omega
      have hal := HA.out
      rw [List.take_length] at hal
      have hM : nameOk l = (decide (1 ≤ l.length) && decide (l.length ≤ 60) && decide (l ≠ [46]) && decide (l ≠ [46, 46])) := by rw [HB.out, show l.all okB = true from hal, Bool.and_true]
      have HM := Lib.hid hM
      clear hal hM hlt hk
      have e0 := beq_str l []
      have e1 := beq_str l [46]
      have e2 := beq_str l [46, 46]
      by_cases h0 : l = []
      · have E := Lib.hid (show nameOk l = false by rw [HM.out, h0]; rfl)
        rw [show decide (l = []) = true by simp [h0]] at e0
        clear h0 e1 e2
        clear HM
        go_wp2_with fail
        go_ret
        exact ⟨by rw [E.out]; rfl, Fr.refl _ _⟩
      · rw [show decide (l = []) = false by simp [h0]] at e0
        have hp : 1 ≤ l.length := List.length_pos_iff.2 h0
        by_cases h2 : l.length ≤ 60
        · have i2 : (l.length : Int) ≤ 60 := by omega
          by_cases h3 : l = [46]
          · have E := Lib.hid (show nameOk l = false by rw [HM.out, h3]; rfl)
            rw [show decide (l = [46]) = true by simp [h3]] at e1
            clear h0 h3 e2 hp
            clear HM
            go_wp2_with fail
            go_ret
            exact ⟨by rw [E.out]; rfl, Fr.refl _ _⟩
          · rw [show decide (l = [46]) = false by simp [h3]] at e1
            by_cases h4 : l = [46, 46]
            · have E := Lib.hid (show nameOk l = false by rw [HM.out, h4]; rfl)
              rw [show decide (l = [46, 46]) = true by simp [h4]] at e2
              clear h0 h3 h4 hp
              clear HM
              go_wp2_with fail
              go_ret
              exact ⟨by rw [E.out]; rfl, Fr.refl _ _⟩
            · have E := Lib.hid (show nameOk l = true by rw [HM.out]; simp [hp, h2, h3, h4])
              rw [show decide (l = [46, 46]) = false by simp [h4]] at e2
              clear h0 h3 h4 hp
              clear HM
              go_wp2_with fail
              go_ret
              exact ⟨by rw [E.out]; rfl, Fr.refl _ _⟩
        · have i2 : ¬ (l.length : Int) ≤ 60 := by omega
          have E := Lib.hid (show nameOk l = false by rw [HM.out]; simp [h2])
          clear h0 e1 e2 hp
          clear HM
          go_wp2_with fail
          go_ret
          exact ⟨by rw [E.out]; rfl, Fr.refl _ _⟩
end Go.Proofs.YtdandpaeeodolaaGreat
namespace Go.Proofs.YtdandpaeeodolaaGreat
open Go.RowKit
set_option linter.unusedVariables false
set_option linter.unusedSimpArgs false

theorem cmpS_cases (a b : St) : cmpS a b = -1 ∨ cmpS a b = 0 ∨ cmpS a b = 1 := by
  unfold cmpS
  split
  · exact .inl rfl
  · split
    · exact .inr (.inr rfl)
    · split
      · exact .inl rfl
      · split
        · exact .inr (.inr rfl)
        · exact .inr (.inl rfl)
theorem cmpS_z0 (a b : St) : cmpS a b = 0 ↔ a = b := by
  obtain ⟨t, r⟩ := a
  obtain ⟨t', r'⟩ := b
  unfold cmpS
  simp only [St.mk.injEq]
  split
  · simp; omega
  · split
    · simp; omega
    · split
      · simp; omega
      · split
        · simp; omega
        · simp; omega
theorem cmpS_neg {a b : St} (h : cmpS a b < 0) : cmpS a b = -1 := by
  rcases cmpS_cases a b with h1 | h1 | h1 <;> omega
theorem beq_Z (a b : Int) : (a == b) = decide (a = b) := rfl
theorem ne_m1 {z : Int} (h : ¬ z < 0) : (z == -1) = false ∧ (z != -1) = true := by
  constructor
  · rw [beq_eq_false_iff_ne]; omega
  · rw [bne_iff_ne]; omega
set_option maxRecDepth 100000 in
set_option maxHeartbeats 4000000 in
theorem r3good_any (w : World) (r : OpW) (o : Opn) (h : OpIn w r o) : Calls Tryz.prog 23 #[.agg (codO.A r)] w (Gives w (.bool (goodOp o))) := by
  obtain ⟨he, hlen, hs, hbd, hnm⟩ := h
  generalize o.Over = ov at he hlen hs hbd
  subst he
  have f0 : Fr noB w (w.alloc (.cells (codO.A r) 33)) := (Fr.refl noB w).alloc _
  have q := Cod.rd_new (C := codO) w 33 r
  have q5 := Cod.rd_cell q 5 (v := .int .i64 r.Parent.T) rfl
  have q6 := Cod.rd_cell q 6 (v := .int .i64 r.Parent.R) rfl
  simp only [Nat.zero_add] at q5 q6
  have hq := opAt q
  have q1 := hq.kind
  have q2 := hq.At
  have q3 := hq.node
  have q4 := hq.parent
  have q7 := hq.name
  have q8 := hq.data
  have q9 := hq.over
  have hP : w.heap.size < (w.alloc (.cells (codO.A r) 33)).heap.size := by simp
  generalize hpp : (fun s => rightS s && decide (cmpS s r.At < 0)) = pp
  have hM : goodOp (opOf r ov) = (rightS r.At && rightS r.Node && (if r.Kind = 1 then (decide (cmpS r.Node r.At ≤ 0) && (rightS r.Parent || fixedS r.Parent) && nameOk r.Name && decide (r.Data = zID) && decide (r.n = 0)) else if r.Kind = 2 then (decide (cmpS r.Node r.At < 0) && decide (r.Parent = zSt) && decide (r.Name = []) && decide (r.Data ≠ zID) && decide (r.n ≤ 64) && (ov.all pp) && riseB cmpS ov) else false)) := by
    subst hpp
    unfold goodOp moveOk editOk opOf
    rw [hlen]
  have HM := Lib.hid hM
  have HL := Lib.hid hlen
  have HPP := Lib.hid hpp
  replace hs := hs.fr0 f0
  clear hM hlen q hq hpp
  go_enter Tryz.func23, Tryz.ntmps23
  go_upto_region 1 with fail
  generalize w.alloc (.cells (codO.A r) 33) = W0 at f0 hs q1 q2 q3 q4 q5 q6 q7 q8 q9 hP ⊢
  generalize w.heap.size = P at q1 q2 q3 q4 q5 q6 q7 q8 q9 hP ⊢
  have f1 : Fr noB W0 W0 := Fr.refl _ _
  obtain ⟨L1, L2, L3, L4, L5, L6⟩ := f1.same
  by_cases hA : rightS r.At = true
  · by_cases hN : rightS r.Node = true
    · by_cases hC : cmpS r.Node r.At ≤ 0
      · have hC1 : ¬ 0 < cmpS r.Node r.At := by omega
        go_upto_region 4 with (first
          | (go_at_call 47; refine (r3right_any _ _).mono ?_; rintro e w2 ⟨rfl, f2⟩; replace f1 := f1.step0 f2; clear L1 L2 L3 L4 L5 L6; obtain ⟨L1, L2, L3, L4, L5, L6⟩ := f1.same)
          | (go_at_call 48; refine (r3cmp_any _ _ _).mono ?_; rintro e w2 ⟨rfl, f2⟩; replace f1 := f1.step0 f2; clear L1 L2 L3 L4 L5 L6; obtain ⟨L1, L2, L3, L4, L5, L6⟩ := f1.same))
        obtain ⟨pf1, pf2, pf3⟩ := putC_fr (bxA_new w2 zID) zID
        have fA : Fr noB w2 (putC (w2.alloc (aro zID)) w2.heap.size zID) := ((Fr.refl noB w2).alloc (aro zID)).step1 pf1 (Nat.le_refl _)
        replace f1 := f1.step0 fA
        have n1 := bxA_rd pf3
        have n2 := rdI_lt n1
        clear pf1 pf2 pf3 fA L1 L2 L3 L4 L5 L6
        generalize putC (w2.alloc (aro zID)) w2.heap.size zID = W1 at f1 n1 n2 ⊢
        generalize w2.heap.size = N at n1 n2 ⊢
        obtain ⟨L1, L2, L3, L4, L5, L6⟩ := f1.same
        replace q1 := (L1 _ 0 hP).trans q1
        replace q2 := (L2 _ 1 hP).trans q2
        replace q3 := (L2 _ 3 hP).trans q3
        replace q4 := (L2 _ 5 hP).trans q4
        replace q5 := (L1 _ 5 hP).trans q5
        replace q6 := (L1 _ 6 hP).trans q6
        replace q7 := (L1 _ 7 hP).trans q7
        replace q8 := (L3 _ 8 hP).trans q8
        replace q9 := (L1 _ 40 hP).trans q9
        replace hP := Nat.lt_of_lt_of_le hP f1.size
        replace f0 := f0.step0 f1
        replace hs := hs.fr0 f1
        clear L1 L2 L3 L4 L5 L6 f1
        have f1 : Fr noB W1 W1 := Fr.refl _ _
        obtain ⟨L1, L2, L3, L4, L5, L6⟩ := f1.same
        have HM2 : Hid (goodOp (opOf r ov) = (if r.Kind = 1 then ((rightS r.Parent || fixedS r.Parent) && nameOk r.Name && decide (r.Data = zID) && decide (r.n = 0)) else if r.Kind = 2 then (decide (r.Node ≠ r.At) && decide (r.Parent = zSt) && decide (r.Name = []) && decide (r.Data ≠ zID) && decide (r.n ≤ 64) && (ov.all pp) && riseB cmpS ov) else false)) := Lib.hid (by
          rw [HM.out, hA, hN]
          have e : decide (cmpS r.Node r.At < 0) = decide (r.Node ≠ r.At) := by
            rw [decide_eq_decide]
            have := cmpS_z0 r.Node r.At
            constructor
            · intro h e
              have := this.2 e
              omega
            · intro h
              have h2 : cmpS r.Node r.At ≠ 0 := fun e => h (this.1 e)
              omega
          simp [hC, e])
        clear HM hA hN hC hC1
        by_cases hk1 : r.Kind = 1
        · have k1 : (r.Kind == 1) = true := by simp [hk1]
          have HM3 : Hid (goodOp (opOf r ov) = ((rightS r.Parent || fixedS r.Parent) && nameOk r.Name && decide (r.Data = zID) && decide (r.n = 0))) := Lib.hid (by rw [HM2.out, if_pos hk1])
          clear hk1 HM2 q2 q3
          have hn0 : ((r.n : Int) == 0) = decide (r.n = 0) := by rw [Bool.eq_iff_iff]; simp
          go_wp2_with (first
            | (go_at_call 47; refine (r3right_any _ _).mono ?_; rintro e w2 ⟨rfl, f2⟩; replace f1 := f1.step0 f2; clear L1 L2 L3 L4 L5 L6; obtain ⟨L1, L2, L3, L4, L5, L6⟩ := f1.same)
            | (go_at_call 49; refine (r3name_any _ _ hnm).mono ?_; rintro e w2 ⟨rfl, f2⟩; replace f1 := f1.step0 f2; clear L1 L2 L3 L4 L5 L6; obtain ⟨L1, L2, L3, L4, L5, L6⟩ := f1.same))
          all_goals clear L1 L2 L3 L4 L5 L6 q1 q4 q5 q6 q7 q8 q9 hP n1 n2
          all_goals
            go_ret
            refine ⟨?_, f0.step0 f1⟩
            rw [HM3.out]
            unfold fixedS
            first
            | (simp [*]; done)
            | (simp_all; done)
        · have k1 : (r.Kind == 1) = false := by simp [hk1]
          by_cases hk2 : r.Kind = 2
          · have k2 : (r.Kind == 2) = true := by simp [hk2]
            have k2' : (r.Kind != 2) = false := by simp [hk2]
            have HM3 : Hid (goodOp (opOf r ov) = (decide (r.Node ≠ r.At) && decide (r.Parent = zSt) && decide (r.Name = []) && decide (r.Data ≠ zID) && decide (r.n ≤ 64) && (ov.all pp) && riseB cmpS ov)) := Lib.hid (by rw [HM2.out, if_neg hk1, if_pos hk2])
            have hPz : r.Parent = zSt ↔ r.Parent.T = 0 ∧ r.Parent.R = 0 := by
              constructor
              · intro h; rw [h]; exact ⟨rfl, rfl⟩
              · rintro ⟨h1, h2⟩
                generalize r.Parent = s at h1 h2
                obtain ⟨a, b⟩ := s
                simp only at h1 h2
                subst h1 h2; rfl
            have HPZ := Lib.hid hPz
            have b0 := beq_str r.Name []
            clear hk1 hk2 HM2 q4 hPz
            go_wp2_with fail
            all_goals first
              | (go_ret
                 refine ⟨?_, f0.step0 f1⟩
                 rw [HM3.out]
                 have := HPZ.out
                 first
                 | (simp_all; done)
                 | (simp_all; omega))
              | skip
            have HM4 : Hid (goodOp (opOf r ov) = ((ov.all pp) && riseB cmpS ov)) := Lib.hid (by
              rw [HM3.out]
              have := HPZ.out
              first
              | (simp_all; done)
              | (have h6 : r.n ≤ 64 := by omega
                 simp_all; done))
            clear HM3 L1 L2 L3 L4 L5 L6 f1 q1 q3 q5 q6 q7 q8 b0 n1 n2
            have r2 := q2
            have r9 := q9
            clear q2 q9
            rw [← HL.out] at r9
            generalize r.A = A at hs r9
            clear HPZ
            go_loopg [5] ov.length (fun gk iv wr => EdR W1 pp ov gk iv wr)
            case atStart => exact ⟨0, rfl, by omega, by omega, Fr.refl _ _, by simp, rise_zero _ _⟩
            case round =>
              obtain ⟨k, rfl, rfl, hk, hf, ha, hri⟩ := hrel
              have HA := Lib.hid ha
              have HRI := Lib.hid hri
              clear ha hri
              have e2 := (hf.same.st _ 1 hP).trans r2
              have e9 := (hf.same.cell _ 40 hP).trans r9
              have hPw := Nat.lt_of_lt_of_le hP hf.size
              by_cases hlt : k < ov.length
              · have i1 : (k : Int) < (ov.length : Int) := by omega
                have i0 : (0 : Int) ≤ (k : Int) := by omega
                obtain ⟨g, off, rfl, hg⟩ := hs.adC (by omega)
                have e1 : codS.rd wr g (off + k * 2) = some ov[k] := (hs.fr0 hf).rd k hlt
                have hgw : g < wr.heap.size := Nat.lt_of_lt_of_le hg hf.size
                have hpx : pp ov[k] = (rightS ov[k] && decide (cmpS ov[k] r.At < 0)) := by rw [← HPP.out]
                have bad1 : pp ov[k] = false → goodOp (opOf r ov) = false := fun h => by
                  have h1 := all_take_succ pp ov k hlt
                  rw [h, Bool.and_false] at h1
                  rw [HM4.out, all_take_false h1]; rfl
                have good1 : pp ov[k] = true → (ov.take (k + 1)).all pp = true := fun h => by rw [all_take_succ pp ov k hlt, HA.out, h]; rfl
                have pv : ∀ (h : 0 < k), ∃ p, codS.rd wr g (off + (k - 1) * 2) = some p ∧ (¬ cmpS p ov[k] < 0 → goodOp (opOf r ov) = false) ∧ (cmpS p ov[k] < 0 → riseB cmpS (ov.take (k + 1)) = true) := fun h =>
                  ⟨ov[k - 1]'(by omega), (hs.fr0 hf).rd (k - 1) (by omega), fun h1 => by rw [HM4.out, rise_false cmpS ov k hlt h h1, Bool.and_false], fun h1 => rise_take_succ cmpS ov k hlt HRI.out (fun _ => h1)⟩
                have pz : k = 0 → riseB cmpS (ov.take (k + 1)) = true := fun h => rise_take_succ cmpS ov k hlt HRI.out (fun h' => absurd h' (by omega))
                generalize ov[k] = x at e1 hpx bad1 good1 pv
                have BAD1 := Lib.hid bad1
                have PV := Lib.hid pv
                have GOOD1 := Lib.hid good1
                have PZ := Lib.hid pz
                have HPX := Lib.hid hpx
                clear bad1 good1 hpx pv pz
                go_upto_region 12 with fail
                by_cases hr : rightS x = true
                · have C1 : ∀ w, Calls Tryz.prog 47 #[.agg (codS.A x)] w (Gives w (.bool true)) := fun w => Gives.val (r3right_any w x) (by rw [hr])
                  by_cases hc : cmpS x r.At < 0
                  · have GP : pp x = true := by rw [HPX.out, hr]; simp [hc]
                    have C2 : ∀ w, Calls Tryz.prog 48 #[.agg (codS.A x), .agg (codS.A r.At)] w (Gives w (.int .i64 (-1))) := fun w => Gives.val (r3cmp_any w x r.At) (by rw [cmpS_neg hc])
                    clear hr hc
                    by_cases hk0 : k = 0
                    · have G1 := Lib.hid (GOOD1.out GP)
                      have G2 := Lib.hid (PZ.out hk0)
                      have j0 : ¬ (0 : Int) < (k : Int) := by omega
                      have j9 : ¬ 0 < k := by omega
                      clear GP hk0
                      refine wp_region_fr (by kernel_rfl) (by kernel_rfl) ?_
                      iterate 5
                        refine wpQ_take (v := ?_) (by rfl) (fun wS hS => ?_) ?_
                        rotate_left
                        · obtain ⟨L1, L2, L3, L4, L5, L6⟩ := Fr.same hS; go_simp; try with_reducible rfl
                        try simp only [List.getElem_toArray, List.getElem_cons_zero, List.getElem_cons_succ, Act.put, List.setIfInBounds_toArray, List.set_cons_zero, List.set_cons_succ]
                      refine wpQ_call (by rfl) (fun wS hS => ⟨_, _, ?qh615, Calls.fr hS (C1 _)⟩) ?qk615
                      case qh615 => obtain ⟨L1, L2, L3, L4, L5, L6⟩ := Fr.same hS; go_simp; try with_reducible rfl
                      try simp only [List.getElem_toArray, List.getElem_cons_zero, List.getElem_cons_succ, Act.put, List.setIfInBounds_toArray, List.set_cons_zero, List.set_cons_succ]
                      iterate 9
                        refine wpQ_take (v := ?_) (by rfl) (fun wS hS => ?_) ?_
                        rotate_left
                        · obtain ⟨L1, L2, L3, L4, L5, L6⟩ := Fr.same hS; go_simp; try with_reducible rfl
                        try simp only [List.getElem_toArray, List.getElem_cons_zero, List.getElem_cons_succ, Act.put, List.setIfInBounds_toArray, List.set_cons_zero, List.set_cons_succ]
                      refine wpQ_call (by rfl) (fun wS hS => ⟨_, _, ?qh623, Calls.fr hS (C2 _)⟩) ?qk623
                      case qh623 => obtain ⟨L1, L2, L3, L4, L5, L6⟩ := Fr.same hS; go_simp; try with_reducible rfl
                      try simp only [List.getElem_toArray, List.getElem_cons_zero, List.getElem_cons_succ, Act.put, List.setIfInBounds_toArray, List.set_cons_zero, List.set_cons_succ]
                      iterate 6
                        refine wpQ_take (v := ?_) (by rfl) (fun wS hS => ?_) ?_
                        rotate_left
                        · obtain ⟨L1, L2, L3, L4, L5, L6⟩ := Fr.same hS; go_simp; try with_reducible rfl
                        try simp only [List.getElem_toArray, List.getElem_cons_zero, List.getElem_cons_succ, Act.put, List.setIfInBounds_toArray, List.set_cons_zero, List.set_cons_succ]
                      iterate 13
                        refine wpQ_off (by rfl) ?_
                        try simp only [List.getElem_toArray, List.getElem_cons_zero, List.getElem_cons_succ, Act.put, List.setIfInBounds_toArray, List.set_cons_zero, List.set_cons_succ]
                      iterate 2
                        refine wpQ_take (v := ?_) (by rfl) (fun wS hS => ?_) ?_
                        rotate_left
                        · obtain ⟨L1, L2, L3, L4, L5, L6⟩ := Fr.same hS; go_simp; try with_reducible rfl
                        try simp only [List.getElem_toArray, List.getElem_cons_zero, List.getElem_cons_succ, Act.put, List.setIfInBounds_toArray, List.set_cons_zero, List.set_cons_succ]
                      refine wpQ_nil ?_
                      intro w1 f1
                      go_wp2_with fail
                      go_roundg (ov.length - (k + 1))
                      case measure => omega
                      case rel => exact ⟨k + 1, by simp, rfl, by omega, hf.step0 f1, G1.out, G2.out⟩
                    · have hk1 : 0 < k := by omega
                      have j0 : (0 : Int) < (k : Int) := by omega
                      have m1 : IntKind.i64.wrap ((k : Int) - 1) = ((k - 1 : Nat) : Int) := by rw [IntKind.wrap_i64]; omega
                      obtain ⟨p, e3, B2, G2⟩ := PV.out hk1
                      have GG2 := Lib.hid G2
                      have BB2 := Lib.hid B2
                      have q2 : k - 1 < ov.length := by omega
                      clear G2 B2
                      generalize hqe : k - 1 = q at m1 e3 q2
                      have j1 : (0 : Int) ≤ (q : Int) := by omega
                      have j2 : (q : Int) < (ov.length : Int) := by omega
                      by_cases hpc : cmpS p x < 0
                      · have C3 : ∀ w, Calls Tryz.prog 48 #[.agg (codS.A p), .agg (codS.A x)] w (Gives w (.int .i64 (-1))) := fun w => Gives.val (r3cmp_any w p x) (by rw [cmpS_neg hpc])
                        have G1 := Lib.hid (GOOD1.out GP)
                        have G2 := Lib.hid (GG2.out hpc)
                        clear GP hqe hk0 hpc
                        refine wp_region_fr (by kernel_rfl) (by kernel_rfl) ?_
                        iterate 5
                          refine wpQ_take (v := ?_) (by rfl) (fun wS hS => ?_) ?_
                          rotate_left
                          · obtain ⟨L1, L2, L3, L4, L5, L6⟩ := Fr.same hS; go_simp; try with_reducible rfl
                          try simp only [List.getElem_toArray, List.getElem_cons_zero, List.getElem_cons_succ, Act.put, List.setIfInBounds_toArray, List.set_cons_zero, List.set_cons_succ]
                        refine wpQ_call (by rfl) (fun wS hS => ⟨_, _, ?qh667, Calls.fr hS (C1 _)⟩) ?qk667
                        case qh667 => obtain ⟨L1, L2, L3, L4, L5, L6⟩ := Fr.same hS; go_simp; try with_reducible rfl
                        try simp only [List.getElem_toArray, List.getElem_cons_zero, List.getElem_cons_succ, Act.put, List.setIfInBounds_toArray, List.set_cons_zero, List.set_cons_succ]
                        iterate 9
                          refine wpQ_take (v := ?_) (by rfl) (fun wS hS => ?_) ?_
                          rotate_left
                          · obtain ⟨L1, L2, L3, L4, L5, L6⟩ := Fr.same hS; go_simp; try with_reducible rfl
                          try simp only [List.getElem_toArray, List.getElem_cons_zero, List.getElem_cons_succ, Act.put, List.setIfInBounds_toArray, List.set_cons_zero, List.set_cons_succ]
                        refine wpQ_call (by rfl) (fun wS hS => ⟨_, _, ?qh675, Calls.fr hS (C2 _)⟩) ?qk675
                        case qh675 => obtain ⟨L1, L2, L3, L4, L5, L6⟩ := Fr.same hS; go_simp; try with_reducible rfl
                        try simp only [List.getElem_toArray, List.getElem_cons_zero, List.getElem_cons_succ, Act.put, List.setIfInBounds_toArray, List.set_cons_zero, List.set_cons_succ]
                        iterate 17
                          refine wpQ_take (v := ?_) (by rfl) (fun wS hS => ?_) ?_
                          rotate_left
                          · obtain ⟨L1, L2, L3, L4, L5, L6⟩ := Fr.same hS; go_simp; try with_reducible rfl
                          try simp only [List.getElem_toArray, List.getElem_cons_zero, List.getElem_cons_succ, Act.put, List.setIfInBounds_toArray, List.set_cons_zero, List.set_cons_succ]
                        refine wpQ_call (by rfl) (fun wS hS => ⟨_, _, ?qh683, Calls.fr hS (C3 _)⟩) ?qk683
                        case qh683 => obtain ⟨L1, L2, L3, L4, L5, L6⟩ := Fr.same hS; go_simp; try with_reducible rfl
                        try simp only [List.getElem_toArray, List.getElem_cons_zero, List.getElem_cons_succ, Act.put, List.setIfInBounds_toArray, List.set_cons_zero, List.set_cons_succ]
                        iterate 3
                          refine wpQ_take (v := ?_) (by rfl) (fun wS hS => ?_) ?_
                          rotate_left
                          · obtain ⟨L1, L2, L3, L4, L5, L6⟩ := Fr.same hS; go_simp; try with_reducible rfl
                          try simp only [List.getElem_toArray, List.getElem_cons_zero, List.getElem_cons_succ, Act.put, List.setIfInBounds_toArray, List.set_cons_zero, List.set_cons_succ]
                        refine wpQ_nil ?_
                        intro w1 f1
                        go_wp2_with fail
                        go_roundg (ov.length - (k + 1))
                        case measure => omega
                        case rel => exact ⟨k + 1, by simp, rfl, by omega, hf.step0 f1, G1.out, G2.out⟩
                      · have C3 : ∀ w, Calls Tryz.prog 48 #[.agg (codS.A p), .agg (codS.A x)] w (Gives w (.int .i64 (cmpS p x))) := fun w => r3cmp_any w p x
                        have E0 := BB2.out hpc
                        obtain ⟨z1, z2⟩ := ne_m1 hpc
                        generalize cmpS p x = z at C3 z1 z2
                        clear GP hqe hk0 hpc
                        have E := Lib.hid E0
                        clear E0
                        refine wp_region_fr (by kernel_rfl) (by kernel_rfl) ?_
                        iterate 5
                          refine wpQ_take (v := ?_) (by rfl) (fun wS hS => ?_) ?_
                          rotate_left
                          · obtain ⟨L1, L2, L3, L4, L5, L6⟩ := Fr.same hS; go_simp; try with_reducible rfl
                          try simp only [List.getElem_toArray, List.getElem_cons_zero, List.getElem_cons_succ, Act.put, List.setIfInBounds_toArray, List.set_cons_zero, List.set_cons_succ]
                        refine wpQ_call (by rfl) (fun wS hS => ⟨_, _, ?qh710, Calls.fr hS (C1 _)⟩) ?qk710
                        case qh710 => obtain ⟨L1, L2, L3, L4, L5, L6⟩ := Fr.same hS; go_simp; try with_reducible rfl
                        try simp only [List.getElem_toArray, List.getElem_cons_zero, List.getElem_cons_succ, Act.put, List.setIfInBounds_toArray, List.set_cons_zero, List.set_cons_succ]
                        iterate 9
                          refine wpQ_take (v := ?_) (by rfl) (fun wS hS => ?_) ?_
                          rotate_left
                          · obtain ⟨L1, L2, L3, L4, L5, L6⟩ := Fr.same hS; go_simp; try with_reducible rfl
                          try simp only [List.getElem_toArray, List.getElem_cons_zero, List.getElem_cons_succ, Act.put, List.setIfInBounds_toArray, List.set_cons_zero, List.set_cons_succ]
                        refine wpQ_call (by rfl) (fun wS hS => ⟨_, _, ?qh718, Calls.fr hS (C2 _)⟩) ?qk718
                        case qh718 => obtain ⟨L1, L2, L3, L4, L5, L6⟩ := Fr.same hS; go_simp; try with_reducible rfl
                        try simp only [List.getElem_toArray, List.getElem_cons_zero, List.getElem_cons_succ, Act.put, List.setIfInBounds_toArray, List.set_cons_zero, List.set_cons_succ]
                        iterate 17
                          refine wpQ_take (v := ?_) (by rfl) (fun wS hS => ?_) ?_
                          rotate_left
                          · obtain ⟨L1, L2, L3, L4, L5, L6⟩ := Fr.same hS; go_simp; try with_reducible rfl
                          try simp only [List.getElem_toArray, List.getElem_cons_zero, List.getElem_cons_succ, Act.put, List.setIfInBounds_toArray, List.set_cons_zero, List.set_cons_succ]
                        refine wpQ_call (by rfl) (fun wS hS => ⟨_, _, ?qh726, Calls.fr hS (C3 _)⟩) ?qk726
                        case qh726 => obtain ⟨L1, L2, L3, L4, L5, L6⟩ := Fr.same hS; go_simp; try with_reducible rfl
                        try simp only [List.getElem_toArray, List.getElem_cons_zero, List.getElem_cons_succ, Act.put, List.setIfInBounds_toArray, List.set_cons_zero, List.set_cons_succ]
                        iterate 3
                          refine wpQ_take (v := ?_) (by rfl) (fun wS hS => ?_) ?_
                          rotate_left
                          · obtain ⟨L1, L2, L3, L4, L5, L6⟩ := Fr.same hS; go_simp; try with_reducible rfl
                          try simp only [List.getElem_toArray, List.getElem_cons_zero, List.getElem_cons_succ, Act.put, List.setIfInBounds_toArray, List.set_cons_zero, List.set_cons_succ]
                        refine wpQ_nil ?_
                        intro w1 f1
                        go_wp2_with fail
                        go_ret
                        exact ⟨by rw [E.out]; rfl, (f0.step0 hf).step0 f1⟩
                  · have C2 : ∀ w, Calls Tryz.prog 48 #[.agg (codS.A x), .agg (codS.A r.At)] w (Gives w (.int .i64 (cmpS x r.At))) := fun w => r3cmp_any w x r.At
                    have E0 := BAD1.out (by rw [HPX.out]; simp [hc])
                    obtain ⟨z1, z2⟩ := ne_m1 hc
                    generalize cmpS x r.At = z at C2 z1 z2
                    clear hc hr
                    have E := Lib.hid E0
                    clear E0
                    refine wp_region_fr (by kernel_rfl) (by kernel_rfl) ?_
                    iterate 5
                      refine wpQ_take (v := ?_) (by rfl) (fun wS hS => ?_) ?_
                      rotate_left
                      · obtain ⟨L1, L2, L3, L4, L5, L6⟩ := Fr.same hS; go_simp; try with_reducible rfl
                      try simp only [List.getElem_toArray, List.getElem_cons_zero, List.getElem_cons_succ, Act.put, List.setIfInBounds_toArray, List.set_cons_zero, List.set_cons_succ]
                    refine wpQ_call (by rfl) (fun wS hS => ⟨_, _, ?qh752, Calls.fr hS (C1 _)⟩) ?qk752
                    case qh752 => obtain ⟨L1, L2, L3, L4, L5, L6⟩ := Fr.same hS; go_simp; try with_reducible rfl
                    try simp only [List.getElem_toArray, List.getElem_cons_zero, List.getElem_cons_succ, Act.put, List.setIfInBounds_toArray, List.set_cons_zero, List.set_cons_succ]
                    iterate 9
                      refine wpQ_take (v := ?_) (by rfl) (fun wS hS => ?_) ?_
                      rotate_left
                      · obtain ⟨L1, L2, L3, L4, L5, L6⟩ := Fr.same hS; go_simp; try with_reducible rfl
                      try simp only [List.getElem_toArray, List.getElem_cons_zero, List.getElem_cons_succ, Act.put, List.setIfInBounds_toArray, List.set_cons_zero, List.set_cons_succ]
                    refine wpQ_call (by rfl) (fun wS hS => ⟨_, _, ?qh760, Calls.fr hS (C2 _)⟩) ?qk760
                    case qh760 => obtain ⟨L1, L2, L3, L4, L5, L6⟩ := Fr.same hS; go_simp; try with_reducible rfl
                    try simp only [List.getElem_toArray, List.getElem_cons_zero, List.getElem_cons_succ, Act.put, List.setIfInBounds_toArray, List.set_cons_zero, List.set_cons_succ]
                    iterate 3
                      refine wpQ_take (v := ?_) (by rfl) (fun wS hS => ?_) ?_
                      rotate_left
                      · obtain ⟨L1, L2, L3, L4, L5, L6⟩ := Fr.same hS; go_simp; try with_reducible rfl
                      try simp only [List.getElem_toArray, List.getElem_cons_zero, List.getElem_cons_succ, Act.put, List.setIfInBounds_toArray, List.set_cons_zero, List.set_cons_succ]
                    iterate 17
                      refine wpQ_off (by rfl) ?_
                      try simp only [List.getElem_toArray, List.getElem_cons_zero, List.getElem_cons_succ, Act.put, List.setIfInBounds_toArray, List.set_cons_zero, List.set_cons_succ]
                    refine wpQ_take (v := ?_) (by rfl) (fun wS hS => ?_) ?_
                    rotate_left
                    · obtain ⟨L1, L2, L3, L4, L5, L6⟩ := Fr.same hS; go_simp; try with_reducible rfl
                    try simp only [List.getElem_toArray, List.getElem_cons_zero, List.getElem_cons_succ, Act.put, List.setIfInBounds_toArray, List.set_cons_zero, List.set_cons_succ]
                    refine wpQ_nil ?_
                    intro w1 f1
                    go_wp2_with fail
                    go_ret
                    exact ⟨by rw [E.out]; rfl, (f0.step0 hf).step0 f1⟩
                · have hr' : rightS x = false := by simpa using hr
                  have C1 : ∀ w, Calls Tryz.prog 47 #[.agg (codS.A x)] w (Gives w (.bool false)) := fun w => Gives.val (r3right_any w x) (by rw [hr'])
                  have E0 := BAD1.out (by rw [HPX.out]; simp [hr'])
                  clear hr hr'
                  have E := Lib.hid E0
                  clear E0
                  refine wp_region_fr (by kernel_rfl) (by kernel_rfl) ?_
                  iterate 5
                    refine wpQ_take (v := ?_) (by rfl) (fun wS hS => ?_) ?_
                    rotate_left
                    · obtain ⟨L1, L2, L3, L4, L5, L6⟩ := Fr.same hS; go_simp; try with_reducible rfl
                    try simp only [List.getElem_toArray, List.getElem_cons_zero, List.getElem_cons_succ, Act.put, List.setIfInBounds_toArray, List.set_cons_zero, List.set_cons_succ]
                  refine wpQ_call (by rfl) (fun wS hS => ⟨_, _, ?qh792, Calls.fr hS (C1 _)⟩) ?qk792
                  case qh792 => obtain ⟨L1, L2, L3, L4, L5, L6⟩ := Fr.same hS; go_simp; try with_reducible rfl
                  try simp only [List.getElem_toArray, List.getElem_cons_zero, List.getElem_cons_succ, Act.put, List.setIfInBounds_toArray, List.set_cons_zero, List.set_cons_succ]
                  iterate 2
                    refine wpQ_take (v := ?_) (by rfl) (fun wS hS => ?_) ?_
                    rotate_left
                    · obtain ⟨L1, L2, L3, L4, L5, L6⟩ := Fr.same hS; go_simp; try with_reducible rfl
                    try simp only [List.getElem_toArray, List.getElem_cons_zero, List.getElem_cons_succ, Act.put, List.setIfInBounds_toArray, List.set_cons_zero, List.set_cons_succ]
                  iterate 9
                    refine wpQ_off (by rfl) ?_
                    try simp only [List.getElem_toArray, List.getElem_cons_zero, List.getElem_cons_succ, Act.put, List.setIfInBounds_toArray, List.set_cons_zero, List.set_cons_succ]
                  iterate 2
                    refine wpQ_take (v := ?_) (by rfl) (fun wS hS => ?_) ?_
                    rotate_left
                    · obtain ⟨L1, L2, L3, L4, L5, L6⟩ := Fr.same hS; go_simp; try with_reducible rfl
                    try simp only [List.getElem_toArray, List.getElem_cons_zero, List.getElem_cons_succ, Act.put, List.setIfInBounds_toArray, List.set_cons_zero, List.set_cons_succ]
                  iterate 17
                    refine wpQ_off (by rfl) ?_
                    try simp only [List.getElem_toArray, List.getElem_cons_zero, List.getElem_cons_succ, Act.put, List.setIfInBounds_toArray, List.set_cons_zero, List.set_cons_succ]
                  refine wpQ_take (v := ?_) (by rfl) (fun wS hS => ?_) ?_
                  rotate_left
                  · obtain ⟨L1, L2, L3, L4, L5, L6⟩ := Fr.same hS; go_simp; try with_reducible rfl
                  try simp only [List.getElem_toArray, List.getElem_cons_zero, List.getElem_cons_succ, Act.put, List.setIfInBounds_toArray, List.set_cons_zero, List.set_cons_succ]
                  refine wpQ_nil ?_
                  intro w1 f1
                  go_wp2_with fail
                  go_ret
                  exact ⟨by rw [E.out]; rfl, (f0.step0 hf).step0 f1⟩
              · have hkl : k = ov.length := by omega
                subst hkl
                have i1 : ¬ (ov.length : Int) < (ov.length : Int) := by omega
                have E := Lib.hid (show goodOp (opOf r ov) = true by
                  have h1 := HA.out
                  have h2 := HRI.out
                  rw [List.take_length] at h1 h2
                  rw [HM4.out, h1, h2]; rfl)
                clear hlt hk
                go_wp2_with fail
                go_ret
                exact ⟨by rw [E.out]; rfl, f0.step0 hf⟩
          · have k2 : (r.Kind == 2) = false := by simp [hk2]
            have k2' : (r.Kind != 2) = true := by simp [hk2]
            have E := Lib.hid (show goodOp (opOf r ov) = false by rw [HM2.out, if_neg hk1, if_neg hk2])
            clear hk1 hk2
            clear HM2
            go_wp2_with fail
            go_ret
            exact ⟨by rw [E.out]; rfl, f0.step0 f1⟩
      · have hC1 : 0 < cmpS r.Node r.At := by omega
        have E := Lib.hid (show goodOp (opOf r ov) = false by
          rw [HM.out]
          have h2 : ¬ cmpS r.Node r.At < 0 := by omega
          simp [hC, h2])
        go_wp2_with (first
          | (go_at_call 47; refine (r3right_any _ _).mono ?_; rintro e w2 ⟨rfl, f2⟩; replace f1 := f1.step0 f2; clear L1 L2 L3 L4 L5 L6; obtain ⟨L1, L2, L3, L4, L5, L6⟩ := f1.same)
          | (go_at_call 48; refine (r3cmp_any _ _ _).mono ?_; rintro e w2 ⟨rfl, f2⟩; replace f1 := f1.step0 f2; clear L1 L2 L3 L4 L5 L6; obtain ⟨L1, L2, L3, L4, L5, L6⟩ := f1.same)
          | (go_at_call 49; refine (r3name_any _ _ hnm).mono ?_; rintro e w2 ⟨rfl, f2⟩; replace f1 := f1.step0 f2; clear L1 L2 L3 L4 L5 L6; obtain ⟨L1, L2, L3, L4, L5, L6⟩ := f1.same))
        go_ret
        exact ⟨by rw [E.out]; rfl, f0.step0 f1⟩
    · have E := Lib.hid (show goodOp (opOf r ov) = false by rw [HM.out]; simp [hN])
      have hN' : rightS r.Node = false := by simpa using hN
      clear hN
      go_wp2_with (first
        | (go_at_call 47; refine (r3right_any _ _).mono ?_; rintro e w2 ⟨rfl, f2⟩; replace f1 := f1.step0 f2; clear L1 L2 L3 L4 L5 L6; obtain ⟨L1, L2, L3, L4, L5, L6⟩ := f1.same)
        | (go_at_call 48; refine (r3cmp_any _ _ _).mono ?_; rintro e w2 ⟨rfl, f2⟩; replace f1 := f1.step0 f2; clear L1 L2 L3 L4 L5 L6; obtain ⟨L1, L2, L3, L4, L5, L6⟩ := f1.same)
        | (go_at_call 49; refine (r3name_any _ _ hnm).mono ?_; rintro e w2 ⟨rfl, f2⟩; replace f1 := f1.step0 f2; clear L1 L2 L3 L4 L5 L6; obtain ⟨L1, L2, L3, L4, L5, L6⟩ := f1.same))
      go_ret
      exact ⟨by rw [E.out]; rfl, f0.step0 f1⟩
  · have E := Lib.hid (show goodOp (opOf r ov) = false by rw [HM.out]; simp [hA])
    have hA' : rightS r.At = false := by simpa using hA
    clear hA
    go_wp2_with (first
      | (go_at_call 47; refine (r3right_any _ _).mono ?_; rintro e w2 ⟨rfl, f2⟩; replace f1 := f1.step0 f2; clear L1 L2 L3 L4 L5 L6; obtain ⟨L1, L2, L3, L4, L5, L6⟩ := f1.same)
      | (go_at_call 48; refine (r3cmp_any _ _ _).mono ?_; rintro e w2 ⟨rfl, f2⟩; replace f1 := f1.step0 f2; clear L1 L2 L3 L4 L5 L6; obtain ⟨L1, L2, L3, L4, L5, L6⟩ := f1.same)
      | (go_at_call 49; refine (r3name_any _ _ hnm).mono ?_; rintro e w2 ⟨rfl, f2⟩; replace f1 := f1.step0 f2; clear L1 L2 L3 L4 L5 L6; obtain ⟨L1, L2, L3, L4, L5, L6⟩ := f1.same))
    go_ret
    exact ⟨by rw [E.out]; rfl, f0.step0 f1⟩
end Go.Proofs.YtdandpaeeodolaaGreat
namespace Go.Proofs.YtdandpaeeodolaaGreat
open Go.RowKit
set_option linter.unusedVariables false
set_option linter.unusedSimpArgs false

def LpR {α : Type} (W : World) (p : α → Bool) (cf : α → α → Int) (l : List α) (gk : Nat) (iv : Value) (wr : World) : Prop := ∃ k : Nat, iv = .int .i64 (k : Int) ∧ gk = l.length - k ∧ k ≤ l.length ∧ Fr noB W wr ∧ (l.take k).all p = true ∧ riseB cf (l.take k) = true
theorem cmpS_pos {a b : St} (h : 0 < cmpS a b) : cmpS a b = 1 := by
  rcases cmpS_cases a b with h1 | h1 | h1 <;> omega
theorem ne_1 {z : Int} (hz : z = -1 ∨ z = 0 ∨ z = 1) (h : ¬ 0 < z) : (z == 1) = false ∧ (z != 1) = true := by
  constructor
  · rw [beq_eq_false_iff_ne]; omega
  · rw [bne_iff_ne]; omega
theorem hdS {w : World} {b o : Nat} {x : Hd} (h : codH.rd w b o = some x) : codS.rd w b o = some x.At := by
  have := Cod.rd_part (C' := codS) h 0 (y := x.At) (fun j v hv => by
    match j with
    | 0 => simpa [codS, csS, codH, csH] using hv
    | 1 => simpa [codS, csS, codH, csH] using hv
    | j + 2 => simp [codS, csS] at hv)
  simpa using this
end Go.Proofs.YtdandpaeeodolaaGreat
namespace Go.Proofs.YtdandpaeeodolaaGreat
open Go.RowKit
set_option linter.unusedVariables false
set_option linter.unusedSimpArgs false

theorem cmpI_neg {a b : ID} (h : cmpI a b < 0) : cmpI a b = -1 := by
  rcases cb_range a.1 b.1 with h1 | h1 | h1
  · exact h1
  · have : cmpI a b = 0 := h1
    omega
  · have : cmpI a b = 1 := h1
    omega
theorem opS {w : World} {b o : Nat} {x : OpW} (h : codO.rd w b o = some x) : codS.rd w b (o + 1) = some x.At := by
  exact Cod.rd_part (C' := codS) h 1 (y := x.At) (fun j v hv => by
    match j with
    | 0 => simpa [codS, csS, codO, csO] using hv
    | 1 => simpa [codS, csS, codO, csO] using hv
    | j + 2 => simp [codS, csS] at hv)
end Go.Proofs.YtdandpaeeodolaaGreat
namespace Go.Proofs.YtdandpaeeodolaaGreat
open Go.RowKit
set_option linter.unusedVariables false
set_option linter.unusedSimpArgs false

theorem A_H (x : Hd) : codH.A x = (.int .i64 x.At.T :: .int .i64 x.At.R :: bv x.Data.1).toArray := Cod.A_eq codH x
theorem eqIn_S (w : World) (d : Nat) (a b : Int) : (Op.equalIn (d + 2) 28 (.agg #[.int .i64 a, .int .i64 b]) (.agg #[.int .i64 a, .int .i64 b])).run Tryz.prog w = .ok true w := by
  rw [run_equalIn_struct w (d + 1) 28 _ _ (by kernel_rfl) (by kernel_rfl)]
  go_simp
theorem eqIn_I (w : World) (d : Nat) (x : ID) : (Op.equalIn (d + 2) 30 (encI x) (encI x)).run Tryz.prog w = .ok true w := by
  simp only [encI, idA_eq]
  have := run_equalIn_bytes (P := Tryz.prog) w d 30 5 32 Tryz.underlying30 Tryz.underlying5 (by intro w; kernel_rfl) x.1 x.1 x.2 x.2
  rw [beq_self_eq_true] at this
  exact this
theorem eqIn_T (w : World) (d : Nat) (l : List UInt8) : (Op.equalIn (d + 1) 9 (.string (str l)) (.string (str l))).run Tryz.prog w = .ok true w := by
  rw [run_equalIn_string w d 9 _ _ Tryz.underlying9, beq_self_eq_true]
theorem sizeI' (w : World) : (sizeOf 30).run Tryz.prog w = .ok 32 w := Tryz.sizeOf30 w
theorem eq_Hr (w : World) (x : Hd) : (binOp .eql 45 (.agg (codH.A x)) (.agg (codH.A x))).run Tryz.prog w = .ok (.bool true) w := by
  have p1 : ∀ w, (part 28 (codH.A x) 0).run Tryz.prog w = .ok (.agg #[.int .i64 x.At.T, .int .i64 x.At.R]) w := fun w => by
    rw [A_H]
    simp [part, isAgg, run_underlying Tryz.underlying28, Tryz.sizeOf28]
  have p2 : ∀ w, (part 30 (codH.A x) 2).run Tryz.prog w = .ok (encI x.Data) w := fun w => by
    rw [A_H]
    simp only [part, isAgg, Sem.run_bind, run_underlying Tryz.underlying30, Result.andThen_ok, sizeI', Sem.run_pure, if_true, encI, idA_eq]
    congr 2
    have : (Value.int IntKind.i64 x.At.T :: Value.int IntKind.i64 x.At.R :: bv x.Data.1).length = 34 := by simp [x.Data.2]
    apply Array.ext'
    simp only [Array.toList_extract, List.extract_eq_take_drop, List.drop_succ_cons, List.drop_zero]
    rw [List.take_of_length_le (by simp [x.Data.2])]
  rw [run_eql_struct, run_equalIn_struct w 9999 45 _ _ (by kernel_rfl) (by kernel_rfl)]
  have hf : (Tryz.prog.fieldsOf 45).toList.map (fun f => (f.name, f.type, f.offset)) = [("At", 28, 0), ("Data", 30, 2)] := by kernel_rfl
  generalize (Tryz.prog.fieldsOf 45).toList = fs at hf ⊢
  rcases fs with _ | ⟨a, _ | ⟨b, _ | ⟨c, r⟩⟩⟩
  · simp at hf
  · simp at hf
  · simp only [List.map_cons, List.map_nil, List.cons.injEq, Prod.mk.injEq, and_true] at hf
    obtain ⟨⟨n1, t1, o1⟩, n2, t2, o2⟩ := hf
    simp only [Op.eqFields, n1, n2, t1, t2, o1, o2, Sem.run_ite, Sem.run_bind, p1, p2, Result.andThen_ok, eqIn_S w 9997, eqIn_I w 9997]
    simp
  · simp at hf
@[simp] theorem neq_Hr (w : World) (x : Hd) : (binOp .neq 45 (.agg (codH.A x)) (.agg (codH.A x))).run Tryz.prog w = .ok (.bool false) w := neq_of_eql (eq_Hr w x)
def SmR (W : World) (n : Nat) (gk : Nat) (iv : Value) (wr : World) : Prop := ∃ k : Nat, iv = .int .i64 (k : Int) ∧ gk = n - k ∧ k ≤ n ∧ Fr noB W wr
set_option maxRecDepth 100000 in
set_option maxHeartbeats 1000000 in
theorem same_heads (w : World) (A B : Option Addr) (c d n n' : Nat) (l : List Hd) (hn : l.length = n) (hn' : l.length = n') (hl : Sl w A (codH.row l)) (hm : Sl w B (codH.row l)) (hb : l.length ≤ 140737488355328) :
    Calls Tryz.prog 45 #[.slice A n c, .slice B n' d] w (Gives w (.bool true)) := by
  subst hn
  subst hn'
  have e1 : ((l.length : Int) != (l.length : Int)) = false := by simp
  go_enter Tryz.func45, Tryz.ntmps45
  go_upto_region 4 with fail
  go_loopg [5] l.length (fun gk iv wr => SmR w l.length gk iv wr)
  case atStart => exact ⟨0, rfl, rfl, by omega, Fr.refl _ _⟩
  case round =>
    obtain ⟨k, rfl, rfl, hk, hf⟩ := hrel
    by_cases hlt : k < l.length
    · have i1 : (k : Int) < (l.length : Int) := by omega
      have i0 : (0 : Int) ≤ (k : Int) := by omega
      obtain ⟨g, off, rfl⟩ : ∃ g off, A = some ⟨g, off, none⟩ := by
        obtain ⟨g, off, h, _⟩ := hl (Cod.row_ne (by intro h0; subst h0; simp at hlt))
        exact ⟨g, off, h⟩
      obtain ⟨g', off', rfl⟩ : ∃ g off, B = some ⟨g, off, none⟩ := by
        obtain ⟨g, off, h, _⟩ := hm (Cod.row_ne (by intro h0; subst h0; simp at hlt))
        exact ⟨g, off, h⟩
      have r0 := (hl.fr0 hf.drew).rd k hlt
      have r1 := (hm.fr0 hf.drew).rd k hlt
      generalize l[k] = x at r0 r1
      go_upto_region 6 with fail
      refine wp_region_H (fun w' => codH.rd w' g (off + k * 34) = some x ∧ codH.rd w' g' (off' + k * 34) = some x) (by kernel_rfl) ⟨r0, r1⟩ (fun hF => ?_)
      refine wpAnyH_take (i := 0) (v := ?_) rfl (by kernel_rfl) (by kernel_rfl) (by kernel_rfl) (fun _ _ _ h => h) (Or.inl ⟨by rfl, ?_⟩) hF ?_
      rotate_left
      · intro wS hSw; (try dsimp only at hSw); obtain ⟨s1, s2⟩ := hSw; first | (apply Eq.trans; apply ex_ld_id; exact rfl; exact rfl; assumption; with_reducible rfl) | (apply Eq.trans; apply ex_ldH_at; exact rfl; exact rfl; assumption; with_reducible rfl) | (go_simp; try with_reducible rfl)
      try simp only [List.getElem_toArray, List.getElem_cons_zero, List.getElem_cons_succ, Act.put, List.setIfInBounds_toArray, List.set_cons_zero, List.set_cons_succ]
      refine wpAnyH_take (i := 1) (v := ?_) rfl (by kernel_rfl) (by kernel_rfl) (by kernel_rfl) (fun _ _ _ h => h) (Or.inl ⟨by rfl, ?_⟩) hF ?_
      rotate_left
      · intro wS hSw; (try dsimp only at hSw); obtain ⟨s1, s2⟩ := hSw; first | (apply Eq.trans; apply ex_ld_id; exact rfl; exact rfl; assumption; with_reducible rfl) | (apply Eq.trans; apply ex_ldH_at; exact rfl; exact rfl; assumption; with_reducible rfl) | (go_simp; try with_reducible rfl)
      try simp only [List.getElem_toArray, List.getElem_cons_zero, List.getElem_cons_succ, Act.put, List.setIfInBounds_toArray, List.set_cons_zero, List.set_cons_succ]
      refine wpAnyH_take (i := 2) (v := ?_) rfl (by kernel_rfl) (by kernel_rfl) (by kernel_rfl) (fun _ _ _ h => h) (Or.inl ⟨by rfl, ?_⟩) hF ?_
      rotate_left
      · intro wS hSw; (try dsimp only at hSw); obtain ⟨s1, s2⟩ := hSw; first | (apply Eq.trans; apply ex_ld_id; exact rfl; exact rfl; assumption; with_reducible rfl) | (apply Eq.trans; apply ex_ldH_at; exact rfl; exact rfl; assumption; with_reducible rfl) | (go_simp; try with_reducible rfl)
      try simp only [List.getElem_toArray, List.getElem_cons_zero, List.getElem_cons_succ, Act.put, List.setIfInBounds_toArray, List.set_cons_zero, List.set_cons_succ]
      refine wpAnyH_take (i := 3) (v := ?_) rfl (by kernel_rfl) (by kernel_rfl) (by kernel_rfl) (fun _ _ _ h => h) (Or.inl ⟨by rfl, ?_⟩) hF ?_
      rotate_left
      · intro wS hSw; (try dsimp only at hSw); obtain ⟨s1, s2⟩ := hSw; first | (apply Eq.trans; apply ex_ld_id; exact rfl; exact rfl; assumption; with_reducible rfl) | (apply Eq.trans; apply ex_ldH_at; exact rfl; exact rfl; assumption; with_reducible rfl) | (go_simp; try with_reducible rfl)
      try simp only [List.getElem_toArray, List.getElem_cons_zero, List.getElem_cons_succ, Act.put, List.setIfInBounds_toArray, List.set_cons_zero, List.set_cons_succ]
      refine wpAnyH_take (i := 4) (v := ?_) rfl (by kernel_rfl) (by kernel_rfl) (by kernel_rfl) (fun _ _ _ h => h) (Or.inl ⟨by rfl, ?_⟩) hF ?_
      rotate_left
      · intro wS hSw; (try dsimp only at hSw); obtain ⟨s1, s2⟩ := hSw; first | (apply Eq.trans; apply ex_ld_id; exact rfl; exact rfl; assumption; with_reducible rfl) | (apply Eq.trans; apply ex_ldH_at; exact rfl; exact rfl; assumption; with_reducible rfl) | (go_simp; try with_reducible rfl)
      try simp only [List.getElem_toArray, List.getElem_cons_zero, List.getElem_cons_succ, Act.put, List.setIfInBounds_toArray, List.set_cons_zero, List.set_cons_succ]
      refine wpAnyH_take (i := 5) (v := ?_) rfl (by kernel_rfl) (by kernel_rfl) (by kernel_rfl) (fun _ _ _ h => h) (Or.inl ⟨by rfl, ?_⟩) hF ?_
      rotate_left
      · intro wS hSw; (try dsimp only at hSw); obtain ⟨s1, s2⟩ := hSw; first | (apply Eq.trans; apply ex_ld_id; exact rfl; exact rfl; assumption; with_reducible rfl) | (apply Eq.trans; apply ex_ldH_at; exact rfl; exact rfl; assumption; with_reducible rfl) | (go_simp; try with_reducible rfl)
      try simp only [List.getElem_toArray, List.getElem_cons_zero, List.getElem_cons_succ, Act.put, List.setIfInBounds_toArray, List.set_cons_zero, List.set_cons_succ]
      refine wpAnyH_take (i := 6) (v := ?_) rfl (by kernel_rfl) (by kernel_rfl) (by kernel_rfl) (fun _ _ _ h => h) (Or.inl ⟨by rfl, ?_⟩) hF ?_
      rotate_left
      · intro wS hSw; (try dsimp only at hSw); obtain ⟨s1, s2⟩ := hSw; first | (apply Eq.trans; apply ex_ld_id; exact rfl; exact rfl; assumption; with_reducible rfl) | (apply Eq.trans; apply ex_ldH_at; exact rfl; exact rfl; assumption; with_reducible rfl) | (go_simp; try with_reducible rfl)
      try simp only [List.getElem_toArray, List.getElem_cons_zero, List.getElem_cons_succ, Act.put, List.setIfInBounds_toArray, List.set_cons_zero, List.set_cons_succ]
      refine wpAnyH_take (i := 7) (v := ?_) rfl (by kernel_rfl) (by kernel_rfl) (by kernel_rfl) (fun _ _ _ h => h) (Or.inl ⟨by rfl, ?_⟩) hF ?_
      rotate_left
      · intro wS hSw; (try dsimp only at hSw); obtain ⟨s1, s2⟩ := hSw; first | (apply Eq.trans; apply ex_ld_id; exact rfl; exact rfl; assumption; with_reducible rfl) | (apply Eq.trans; apply ex_ldH_at; exact rfl; exact rfl; assumption; with_reducible rfl) | (go_simp; try with_reducible rfl)
      try simp only [List.getElem_toArray, List.getElem_cons_zero, List.getElem_cons_succ, Act.put, List.setIfInBounds_toArray, List.set_cons_zero, List.set_cons_succ]
      refine wpAnyH_take (i := 8) (v := ?_) rfl (by kernel_rfl) (by kernel_rfl) (by kernel_rfl) (fun _ _ _ h => h) (Or.inl ⟨by rfl, ?_⟩) hF ?_
      rotate_left
      · intro wS hSw; (try dsimp only at hSw); obtain ⟨s1, s2⟩ := hSw; first | (apply Eq.trans; apply ex_ld_id; exact rfl; exact rfl; assumption; with_reducible rfl) | (apply Eq.trans; apply ex_ldH_at; exact rfl; exact rfl; assumption; with_reducible rfl) | (go_simp; try with_reducible rfl)
      try simp only [List.getElem_toArray, List.getElem_cons_zero, List.getElem_cons_succ, Act.put, List.setIfInBounds_toArray, List.set_cons_zero, List.set_cons_succ]
      refine wpAnyH_done (by kernel_rfl) ?_ _
      clear hF
      go_wp2_with fail
      go_roundg (l.length - (k + 1))
      case measure => omega
      case rel => exact ⟨k + 1, by simp, rfl, by omega, hf.drew⟩
    · have hkn : k = l.length := by omega
      subst hkn
      have i1 : ¬ (l.length : Int) < (l.length : Int) := by omega
      go_wp2_with fail
      go_ret
      exact ⟨rfl, hf⟩
end Go.Proofs.YtdandpaeeodolaaGreat
