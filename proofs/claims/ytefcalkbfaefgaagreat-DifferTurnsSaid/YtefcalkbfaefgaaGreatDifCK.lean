/- Values built of parts: an item of a row, operations of moves and edits. Contracts: slices.Clone of heads, snap.item, snap.right; slices.EqualFunc of heads, differ.sameData. (ex_ldS_at ex_bldT5_at) Contracts: snap.right; slices.EqualFunc of heads, differ.sameData. (ex_ldS_at) -/
import Derived.Test.YtefcalkbfaefgaaGreatDifAK
import Derived.Test.YtefcalkbfaefgaaGreatPutDK
import Derived.Test.YtefcalkbfaefgaaGreatQFrK
import Derived.Test.YtefcalkbfaefgaaGreatEqsK
namespace Go.Proofs.YtefcalkbfaefgaaGreat
open Go.RowKit
set_option linter.unusedVariables false
set_option linter.unusedSimpArgs false

@[irreducible] noncomputable def mkB (t : TypeId) (w : World) (fs : List (Nat × Value)) : Result Next := ((Instr.build t fs.toArray).run Tryz.prog w).andThen (fun v w => .ok (.value v) w)
theorem mkB_ok {t : TypeId} {w : World} {fs : List (Nat × Value)} {v : Value} (h : (Instr.build t fs.toArray).run Tryz.prog w = .ok v w) : mkB t w fs = .ok (.value v) w := by
  unfold mkB
  rw [h]
  rfl
theorem exB (ρ : Operand → Value) (o : Oper) (t : TypeId) (fs : Array (Nat × Operand)) (ho : o.op = .build t fs) (w : World) : (execOp ρ o).run Tryz.prog w = mkB t w (fs.map fun (i, x) => (i, ρ x)).toList := by
  unfold execOp mkB
  simp only [ho, Sem.run_bind, Sem.run_pure, Array.toArray_toList]
theorem bldT_5 (w : World) (s t : St) (m : List UInt8) (x : ID) (A : Option Addr) (n c : Nat) : (Instr.build 140 #[(0, .agg (codS.A s)), (1, .agg (codS.A t)), (2, .string (str m)), (3, encI x), (4, .slice A n c)]).run Tryz.prog w = .ok (.agg (codT.A ⟨s, t, m, x, A, n, c⟩)) w := by
  have h1 : ∀ place : Nat → Option (Nat × Nat), place 0 = some (0, 2) → place 1 = some (2, 2) → place 2 = some (4, 1) → place 3 = some (5, 32) → place 4 = some (37, 1) → Instr.fill place ([] ++ [Value.int .i64 0, Value.int .i64 0] ++ ([Value.int .i64 0, Value.int .i64 0, Value.string (str [])] ++ bv zID.1 ++ [Value.slice none 0 0])).toArray [(0, .agg (codS.A s)), (1, .agg (codS.A t)), (2, .string (str m)), (3, encI x), (4, .slice A n c)] = some (codT.cs ⟨s, t, m, x, A, n, c⟩).toArray := by
    intro place p0 p1 p2 p3 p4
    refine (fill_one place [] [.int .i64 0, .int .i64 0] ([Value.int .i64 0, Value.int .i64 0, Value.string (str [])] ++ bv zID.1 ++ [Value.slice none 0 0]) [.int .i64 s.T, .int .i64 s.R] 0 (.agg (codS.A s)) _ (by rw [A_SS]; rfl) (by simpa using p0) rfl).trans ?_
    have e1 := fill_one place [.int .i64 s.T, .int .i64 s.R] [.int .i64 0, .int .i64 0] ([Value.string (str [])] ++ bv zID.1 ++ [Value.slice none 0 0]) [.int .i64 t.T, .int .i64 t.R] 1 (.agg (codS.A t)) [(2, .string (str m)), (3, encI x), (4, .slice A n c)] (by rw [A_SS]; rfl) (by simpa using p1) rfl
    refine Eq.trans ?_ (e1.trans ?_)
    · simp
    have e2 := fill_one place [.int .i64 s.T, .int .i64 s.R, .int .i64 t.T, .int .i64 t.R] [Value.string (str [])] (bv zID.1 ++ [Value.slice none 0 0]) [.string (str m)] 2 (.string (str m)) [(3, encI x), (4, .slice A n c)] rfl (by simpa using p2) rfl
    refine Eq.trans ?_ (e2.trans ?_)
    · simp
    have e3 := fill_one place [.int .i64 s.T, .int .i64 s.R, .int .i64 t.T, .int .i64 t.R, .string (str m)] (bv zID.1) [Value.slice none 0 0] (bv x.1) 3 (encI x) [(4, .slice A n c)] (cellsI x) (by simpa [x.2] using p3) (by simp [x.2, zID])
    refine Eq.trans ?_ (e3.trans ?_)
    · simp
    have e4 := fill_one place ([.int .i64 s.T, .int .i64 s.R, .int .i64 t.T, .int .i64 t.R, .string (str m)] ++ bv x.1) [Value.slice none 0 0] [] [.slice A n c] 4 (.slice A n c) [] rfl (by simpa [x.2] using p4) rfl
    refine Eq.trans ?_ (e4.trans ?_)
    · simp
    · simp [Instr.fill, codT, csT]
  have hz : (zeroValue 140).run Tryz.prog w = .ok (.agg (codT.cs codT.z).toArray) w := okT.zero w
  have hc : (Value.agg (codT.cs codT.z).toArray).cells = ([] ++ [Value.int .i64 0, Value.int .i64 0] ++ ([Value.int .i64 0, Value.int .i64 0, Value.string (str [])] ++ bv zID.1 ++ [Value.slice none 0 0])).toArray := rfl
  have hsI : ∀ w, (sizeOf 39).run Tryz.prog w = .ok 32 w := fun w => Tryz.sizeOf39 w
  simp only [Instr.build, Sem.run_bind, hz, Result.andThen_ok, run_underlying Tryz.underlying140, hc]
  simp only [List.mapM_toArray, List.mapM_cons, List.mapM_nil, Sem.run_bind, hsI, Tryz.sizeOf9, Tryz.sizeOf34, Tryz.sizeOf30, Result.andThen_ok, Sem.run_pure, Sem.run_map, map_pure, bind_pure_comp]
  rw [h1 _ rfl rfl rfl rfl rfl]
  simp [Cod.A_eq]
theorem zO_form : (Value.agg (codO.cs codO.z).toArray).cells = ([] ++ [Value.int .i64 0] ++ ([Value.int .i64 0, Value.int .i64 0, Value.int .i64 0, Value.int .i64 0, Value.int .i64 0, Value.int .i64 0, Value.string (str [])] ++ bv zID.1 ++ [Value.slice none 0 0])).toArray := rfl
theorem bldO_mv (w : World) (k : Int) (s t : St) (m : List UInt8) : (Instr.build 42 #[(0, .int .i64 k), (2, .agg (codS.A s)), (3, .agg (codS.A t)), (4, .string (str m))]).run Tryz.prog w = .ok (.agg (codO.A { zOpW with Kind := k, Node := s, Parent := t, Name := m })) w := by
  have h1 : ∀ place : Nat → Option (Nat × Nat), place 0 = some (0, 1) → place 2 = some (3, 2) → place 3 = some (5, 2) → place 4 = some (7, 1) → Instr.fill place ([] ++ [Value.int .i64 0] ++ ([Value.int .i64 0, Value.int .i64 0, Value.int .i64 0, Value.int .i64 0, Value.int .i64 0, Value.int .i64 0, Value.string (str [])] ++ bv zID.1 ++ [Value.slice none 0 0])).toArray [(0, .int .i64 k), (2, .agg (codS.A s)), (3, .agg (codS.A t)), (4, .string (str m))] = some (codO.cs { zOpW with Kind := k, Node := s, Parent := t, Name := m }).toArray := by
    intro place p0 p2 p3 p4
    refine (fill_one place [] [.int .i64 0] ([Value.int .i64 0, Value.int .i64 0, Value.int .i64 0, Value.int .i64 0, Value.int .i64 0, Value.int .i64 0, Value.string (str [])] ++ bv zID.1 ++ [Value.slice none 0 0]) [.int .i64 k] 0 (.int .i64 k) _ rfl (by simpa using p0) rfl).trans ?_
    have e1 := fill_one place [.int .i64 k, .int .i64 0, .int .i64 0] [.int .i64 0, .int .i64 0] ([.int .i64 0, .int .i64 0, Value.string (str [])] ++ bv zID.1 ++ [Value.slice none 0 0]) [.int .i64 s.T, .int .i64 s.R] 2 (.agg (codS.A s)) [(3, .agg (codS.A t)), (4, .string (str m))] (by rw [A_SS]; rfl) (by simpa using p2) rfl
    refine Eq.trans ?_ (e1.trans ?_)
    · simp
    have e2 := fill_one place [.int .i64 k, .int .i64 0, .int .i64 0, .int .i64 s.T, .int .i64 s.R] [.int .i64 0, .int .i64 0] ([Value.string (str [])] ++ bv zID.1 ++ [Value.slice none 0 0]) [.int .i64 t.T, .int .i64 t.R] 3 (.agg (codS.A t)) [(4, .string (str m))] (by rw [A_SS]; rfl) (by simpa using p3) rfl
    refine Eq.trans ?_ (e2.trans ?_)
    · simp
    have e3 := fill_one place [.int .i64 k, .int .i64 0, .int .i64 0, .int .i64 s.T, .int .i64 s.R, .int .i64 t.T, .int .i64 t.R] [Value.string (str [])] (bv zID.1 ++ [Value.slice none 0 0]) [.string (str m)] 4 (.string (str m)) [] rfl (by simpa using p4) rfl
    refine Eq.trans ?_ (e3.trans ?_)
    · simp
    · simp [Instr.fill, codO, csO, zOpW, zSt]
  have hz : (zeroValue 42).run Tryz.prog w = .ok (.agg (codO.cs codO.z).toArray) w := okO.zero w
  simp only [Instr.build, Sem.run_bind, hz, Result.andThen_ok, run_underlying Tryz.underlying42, zO_form]
  simp only [List.mapM_toArray, List.mapM_cons, List.mapM_nil, Sem.run_bind, Tryz.sizeOf3, Tryz.sizeOf39, Tryz.sizeOf40, Tryz.sizeOf9, Tryz.sizeOf30, Result.andThen_ok, Sem.run_pure, Sem.run_map, map_pure, bind_pure_comp]
  rw [h1 _ rfl rfl rfl rfl]
  simp [Cod.A_eq]
theorem bldO_ed (w : World) (k : Int) (s : St) (x : ID) : (Instr.build 42 #[(0, .int .i64 k), (2, .agg (codS.A s)), (5, encI x)]).run Tryz.prog w = .ok (.agg (codO.A { zOpW with Kind := k, Node := s, Data := x })) w := by
  have h1 : ∀ place : Nat → Option (Nat × Nat), place 0 = some (0, 1) → place 2 = some (3, 2) → place 5 = some (8, 32) → Instr.fill place ([] ++ [Value.int .i64 0] ++ ([Value.int .i64 0, Value.int .i64 0, Value.int .i64 0, Value.int .i64 0, Value.int .i64 0, Value.int .i64 0, Value.string (str [])] ++ bv zID.1 ++ [Value.slice none 0 0])).toArray [(0, .int .i64 k), (2, .agg (codS.A s)), (5, encI x)] = some (codO.cs { zOpW with Kind := k, Node := s, Data := x }).toArray := by
    intro place p0 p2 p3
    refine (fill_one place [] [.int .i64 0] ([Value.int .i64 0, Value.int .i64 0, Value.int .i64 0, Value.int .i64 0, Value.int .i64 0, Value.int .i64 0, Value.string (str [])] ++ bv zID.1 ++ [Value.slice none 0 0]) [.int .i64 k] 0 (.int .i64 k) _ rfl (by simpa using p0) rfl).trans ?_
    have e1 := fill_one place [.int .i64 k, .int .i64 0, .int .i64 0] [.int .i64 0, .int .i64 0] ([.int .i64 0, .int .i64 0, Value.string (str [])] ++ bv zID.1 ++ [Value.slice none 0 0]) [.int .i64 s.T, .int .i64 s.R] 2 (.agg (codS.A s)) [(5, encI x)] (by rw [A_SS]; rfl) (by simpa using p2) rfl
    refine Eq.trans ?_ (e1.trans ?_)
    · simp
    have e2 := fill_one place [.int .i64 k, .int .i64 0, .int .i64 0, .int .i64 s.T, .int .i64 s.R, .int .i64 0, .int .i64 0, Value.string (str [])] (bv zID.1) [Value.slice none 0 0] (bv x.1) 5 (encI x) [] (cellsI x) (by simpa [x.2] using p3) (by simp [x.2, zID])
    refine Eq.trans ?_ (e2.trans ?_)
    · simp
    · simp [Instr.fill, codO, csO, zOpW, zSt]
  have hz : (zeroValue 42).run Tryz.prog w = .ok (.agg (codO.cs codO.z).toArray) w := okO.zero w
  simp only [Instr.build, Sem.run_bind, hz, Result.andThen_ok, run_underlying Tryz.underlying42, zO_form]
  simp only [List.mapM_toArray, List.mapM_cons, List.mapM_nil, Sem.run_bind, Tryz.sizeOf3, Tryz.sizeOf39, Tryz.sizeOf40, Tryz.sizeOf9, Tryz.sizeOf30, Result.andThen_ok, Sem.run_pure, Sem.run_map, map_pure, bind_pure_comp]
  rw [h1 _ rfl rfl rfl]
  simp [Cod.A_eq]
/-! the rules of the walk -/
@[simp ↓] theorem ex_bldT5 (ρ : Operand → Value) (x0 x1 x2 x3 x4 : Operand) (d : Option Nat) (t : TypeId) (p : String) (f : Array Edge) (g : Option (Nat × Bool)) (w : World) :
    (execOp ρ { dst := d, op := .build 140 #[(0, x0), (1, x1), (2, x2), (3, x3), (4, x4)], type := t, pos := p, after := f, guard := g }).run Tryz.prog w = mkB 140 w [(0, ρ x0), (1, ρ x1), (2, ρ x2), (3, ρ x3), (4, ρ x4)] := (exB ρ _ _ _ rfl w).trans (by simp only [List.map_toArray, List.map_cons, List.map_nil])
@[simp] theorem mkB_T5 (w : World) (s t : St) (m : List UInt8) (x : ID) (A : Option Addr) (n c : Nat) : mkB 140 w [(0, .agg (codS.A s)), (1, .agg (codS.A t)), (2, .string (str m)), (3, encI x), (4, .slice A n c)] = .ok (.value (.agg (codT.A ⟨s, t, m, x, A, n, c⟩))) w := mkB_ok (bldT_5 w s t m x A n c)
@[simp ↓] theorem ex_bldOm (ρ : Operand → Value) (x0 x2 x3 x4 : Operand) (d : Option Nat) (t : TypeId) (p : String) (f : Array Edge) (g : Option (Nat × Bool)) (w : World) :
    (execOp ρ { dst := d, op := .build 42 #[(0, x0), (2, x2), (3, x3), (4, x4)], type := t, pos := p, after := f, guard := g }).run Tryz.prog w = mkB 42 w [(0, ρ x0), (2, ρ x2), (3, ρ x3), (4, ρ x4)] := (exB ρ _ _ _ rfl w).trans (by simp only [List.map_toArray, List.map_cons, List.map_nil])
@[simp] theorem mkB_Om (w : World) (k : Int) (s t : St) (m : List UInt8) : mkB 42 w [(0, .int .i64 k), (2, .agg (codS.A s)), (3, .agg (codS.A t)), (4, .string (str m))] = .ok (.value (.agg (codO.A { zOpW with Kind := k, Node := s, Parent := t, Name := m }))) w := mkB_ok (bldO_mv w k s t m)
@[simp ↓] theorem ex_bldOe (ρ : Operand → Value) (x0 x2 x5 : Operand) (d : Option Nat) (t : TypeId) (p : String) (f : Array Edge) (g : Option (Nat × Bool)) (w : World) :
    (execOp ρ { dst := d, op := .build 42 #[(0, x0), (2, x2), (5, x5)], type := t, pos := p, after := f, guard := g }).run Tryz.prog w = mkB 42 w [(0, ρ x0), (2, ρ x2), (5, ρ x5)] := (exB ρ _ _ _ rfl w).trans (by simp only [List.map_toArray, List.map_cons, List.map_nil])
@[simp] theorem mkB_Oe (w : World) (k : Int) (s : St) (x : ID) : mkB 42 w [(0, .int .i64 k), (2, .agg (codS.A s)), (5, encI x)] = .ok (.value (.agg (codO.A { zOpW with Kind := k, Node := s, Data := x }))) w := mkB_ok (bldO_ed w k s x)
theorem ex_bldT5_at {ρ : Operand → Value} {o : Oper} {x0 x1 x2 x3 x4 : Operand} {w : World} {s t : St} {m : List UInt8} {x : ID} {A : Option Addr} {n c : Nat} (ho : o.op = .build 140 #[(0, x0), (1, x1), (2, x2), (3, x3), (4, x4)]) (h0 : ρ x0 = .agg (codS.A s)) (h1 : ρ x1 = .agg (codS.A t)) (h2 : ρ x2 = .string (str m)) (h3 : ρ x3 = encI x) (h4 : ρ x4 = .slice A n c) :
    (execOp ρ o).run Tryz.prog w = .ok (.value (.agg (codT.A ⟨s, t, m, x, A, n, c⟩))) w := by
  rw [exB ρ o _ _ ho w]
  simp only [List.map_toArray, List.map_cons, List.map_nil, h0, h1, h2, h3, h4]
  exact mkB_T5 w s t m x A n c
theorem ex_bldOm_at {ρ : Operand → Value} {o : Oper} {x0 x2 x3 x4 : Operand} {w : World} {k : Int} {s t : St} {m : List UInt8} (ho : o.op = .build 42 #[(0, x0), (2, x2), (3, x3), (4, x4)]) (h0 : ρ x0 = .int .i64 k) (h2 : ρ x2 = .agg (codS.A s)) (h3 : ρ x3 = .agg (codS.A t)) (h4 : ρ x4 = .string (str m)) :
    (execOp ρ o).run Tryz.prog w = .ok (.value (.agg (codO.A { zOpW with Kind := k, Node := s, Parent := t, Name := m }))) w := by
  rw [exB ρ o _ _ ho w]
  simp only [List.map_toArray, List.map_cons, List.map_nil, h0, h2, h3, h4]
  exact mkB_Om w k s t m
theorem ex_bldOe_at {ρ : Operand → Value} {o : Oper} {x0 x2 x5 : Operand} {w : World} {k : Int} {s : St} {x : ID} (ho : o.op = .build 42 #[(0, x0), (2, x2), (5, x5)]) (h0 : ρ x0 = .int .i64 k) (h2 : ρ x2 = .agg (codS.A s)) (h5 : ρ x5 = encI x) :
    (execOp ρ o).run Tryz.prog w = .ok (.value (.agg (codO.A { zOpW with Kind := k, Node := s, Data := x }))) w := by
  rw [exB ρ o _ _ ho w]
  simp only [List.map_toArray, List.map_cons, List.map_nil, h0, h2, h5]
  exact mkB_Oe w k s x
end Go.Proofs.YtefcalkbfaefgaaGreat
namespace Go.Proofs.YtefcalkbfaefgaaGreat
open Go.RowKit
set_option linter.unusedVariables false
set_option linter.unusedSimpArgs false

@[go_sem] theorem hs_eq_nil (w : World) (a : Option Addr) (n c : Nat) : (binOp .eql 34 (.slice a n c) (.slice none 0 0)).run Tryz.prog w = .ok (.bool a.isNone) w :=
  Lib.run_eql_slice_nil w _ _ a n c 0 0 Tryz.underlying34
def NewHs (w : World) (l : List Hd) (e : Ending) (w' : World) : Prop := ∃ A c, e = .returned (.slice A l.length c) ∧ OwnC codH w w' A c l ∧ Fr noB w w'
set_option maxRecDepth 100000 in
theorem clHeads_any (w : World) (A : Option Addr) (c : Nat) (l : List Hd) (n : Nat) (hn : l.length = n) (hs : Sl w A (codH.row l)) (hb : l.length ≤ 2932031007402) :
    Calls Tryz.prog 47 #[.slice A n c] w (NewHs w l) := by
  subst hn
  rcases A with _ | ad
  · have hl : l = [] := by
      cases l with
      | nil => rfl
      | cons b t => obtain ⟨g, off, h, _⟩ := hs (Cod.row_ne (by simp)); cases h
    subst hl
    go_enter Tryz.func47, Tryz.ntmps47
    go_wp2
    go_ret
    exact ⟨none, 0, rfl, World.ownsRow_nil _ _ _ _, Fr.refl _ _⟩
  · have hown := World.ownsRow_lit (base := w.heap.size) (e := 93) (size := 34) w #[] 0 (Nat.le_refl _) (by simp [maxLen]) rfl
    have hs1 : Sl (w.alloc (.cells #[] 93)) (some ad) (codH.row l) := hs.fr0 ((Fr.refl noB w).alloc _)
    go_enter Tryz.func47, Tryz.ntmps47
    go_wp2_with (at_builtin; refine wpList_app _ etH rfl _ _ rfl w.heap.size _ _ _ rfl hown (some ad) l.length c (codH.row l) rfl hs1 (Cod.row_len l) (Cod.row_one l) (by omega) (by simp) ?_; intro v' w1 h1 h2 h3)
    go_ret
    obtain ⟨A', c', rfl, _, _⟩ := own_form h1
    simp only [Nat.zero_add, List.nil_append] at h1
    exact ⟨A', c', by simp, h1, ((Fr.refl noB w).alloc _).stepG (r := some w.heap.size) h2 (by intro g hg; injection hg with hg; omega)⟩
/-- a row as an item -/
def ItTo (w : World) (r : RwW) (sub : ID) (hs : List Hd) (e : Ending) (w' : World) : Prop := ∃ A c, e = .returned (.agg (codT.A ⟨r.Node, r.At, r.Name, sub, A, r.n, c⟩)) ∧ Sl w' A (codH.row hs) ∧ Fr noB w w'
set_option maxRecDepth 100000 in
set_option maxHeartbeats 1000000 in
theorem nitem_any (w : World) (r : RwW) (sub : ID) (hs : List Hd) (hn : hs.length = r.n) (hl : Sl w r.A (codH.row hs)) (hb : hs.length ≤ 2932031007402) : Calls Tryz.prog 86 #[.agg (codR.A r), encI sub] w (ItTo w r sub hs) := by
  have fa : Fr noB w (w.alloc (.cells (codR.A r) 36)) := (Fr.refl noB w).alloc _
  have fb : Fr noB (w.alloc (.cells (codR.A r) 36)) ((w.alloc (.cells (codR.A r) 36)).alloc (ido sub)) := (Fr.refl noB _).alloc _
  have fc : Fr noB ((w.alloc (.cells (codR.A r) 36)).alloc (ido sub)) (((w.alloc (.cells (codR.A r) 36)).alloc (ido sub)).alloc (codT.o zItW)) := (Fr.refl noB _).alloc _
  have q := rwAt (Cod.rd_fr0 (Cod.rd_new (C := codR) w 36 r) (fb.step0 fc))
  have z1 : (w.alloc (.cells (codR.A r) 36)).heap.size = w.heap.size + 1 := by simp
  have z2 : ((w.alloc (.cells (codR.A r) 36)).alloc (ido sub)).heap.size = w.heap.size + 2 := by simp
  have i1 : rdI (((w.alloc (.cells (codR.A r) 36)).alloc (ido sub)).alloc (codT.o zItW)) (w.heap.size + 1) 0 = some sub := by
    have := rdI_new (w.alloc (.cells (codR.A r) 36)) sub
    rw [z1] at this
    exact rdI_fr this (rdI_lt this) fc (by simp [noB])
  have b1 := Cod.bxd_new (C := codT) ((w.alloc (.cells (codR.A r) 36)).alloc (ido sub)) zItW
  rw [z2] at b1
  have f0 := (fa.step0 fb).step0 fc
  clear fa fb fc z1 z2
  have HN := Lib.hid hn
  clear hn
  go_enter Tryz.func86, Tryz.ntmps86
  go_upto_region 1 with fail
  generalize ((w.alloc (.cells (codR.A r) 36)).alloc (ido sub)).alloc (codT.o zItW) = W0 at q i1 b1 f0 ⊢
  obtain ⟨P, hP⟩ : ∃ x, x = w.heap.size := ⟨_, rfl⟩
  rw [← hP] at q i1 b1 ⊢
  have HP := Lib.hid hP
  clear hP
  obtain ⟨q1, q2, q3, q4, q5, q6⟩ := q
  clear q2 q6
  replace hl := hl.fr0 f0
  have hk : ∀ w' w'' : World, Fr noB w' w'' → (codS.rd w' P 0 = some r.Node ∧ codS.rd w' P 4 = some r.At ∧ w'.cell? ⟨P, 6, none⟩ = some (.string (str r.Name)) ∧ w'.cell? ⟨P, 7, none⟩ = some (.slice r.A r.n r.c) ∧ rdI w' (P + 1) 0 = some sub) → (codS.rd w'' P 0 = some r.Node ∧ codS.rd w'' P 4 = some r.At ∧ w''.cell? ⟨P, 6, none⟩ = some (.string (str r.Name)) ∧ w''.cell? ⟨P, 7, none⟩ = some (.slice r.A r.n r.c) ∧ rdI w'' (P + 1) 0 = some sub) :=
    fun w' w'' f h => ⟨Cod.rd_fr0 h.1 f, Cod.rd_fr0 h.2.1 f, cell_fr0 h.2.2.1 f, cell_fr0 h.2.2.2.1 f, rdI_fr h.2.2.2.2 (rdI_lt h.2.2.2.2) f (by simp [noB])⟩
  refine wp_region_M 11 12 [⟨32, 4, 0⟩, ⟨64, 32, 1⟩, ⟨128, 4, 0⟩, ⟨256, 128, 4⟩, ⟨512, 4, 0⟩, ⟨1024, 512, 16⟩, ⟨2048, 8, 0⟩, ⟨4096, 4, 0⟩, ⟨8192, 4096, 128⟩, ⟨16384, 8192, 256⟩, ⟨32768, 19776, 618⟩, ⟨0, 32784, 2047⟩] [(true, 0), (true, 1), (true, 2), (true, 3), (true, 4), (true, 5), (true, 6), (true, 7), (true, 8), (false, 9), (true, 10)] (fun w' => codS.rd w' P 0 = some r.Node ∧ codS.rd w' P 4 = some r.At ∧ w'.cell? ⟨P, 6, none⟩ = some (.string (str r.Name)) ∧ w'.cell? ⟨P, 7, none⟩ = some (.slice r.A r.n r.c) ∧ rdI w' (P + 1) 0 = some sub) (by kernel_rfl) rfl (by kernel_rfl) (by kernel_rfl) (by kernel_rfl) (hk _ _ ((Fr.refl noB W0).drew) ⟨q1, q3, q4, q5, i1⟩) (fun hA hF => ?_)
  iterate 9
    refine wpAnyS_take (v := ?_) hA rfl (fun _ _ _ h => h) (Or.inl ⟨by rfl, ?_⟩) hF (fun hA => ?_)
    rotate_left
    · intro wS hSw; (try dsimp only at hSw); obtain ⟨s1, s2, s3, s4, s5⟩ := hSw; first | (apply Eq.trans; apply ex_ld_id; exact rfl; exact rfl; assumption; with_reducible rfl) | (apply Eq.trans; apply ex_ldS_at; exact rfl; exact rfl; assumption; with_reducible rfl) | (apply Eq.trans; apply ex_bldT5_at; exact rfl; exact rfl; exact rfl; exact rfl; exact rfl; exact rfl; with_reducible rfl) | (go_simp; try with_reducible rfl)
    try simp only [List.getElem_toArray, List.getElem_cons_zero, List.getElem_cons_succ, Act.put, List.setIfInBounds_toArray, List.set_cons_zero, List.set_cons_succ]
  refine wpAnyS_one hA rfl (fun K' hK => ?_)
  go_simp
  go_at_call 47
  refine (clHeads_any _ r.A r.c hs r.n HN.out (hl.fr0 ((Fr.refl noB W0).drew)) hb).mono ?_
  rintro e w2 ⟨A2, c2, rfl, ho2, f2⟩
  have sl2 := Sl.own ho2
  have hlen := HN.out
  rw [hlen]
  replace hF := hk _ _ f2 hF
  refine hK.out _ _ hF (fun hA => ?_)
  clear hK K'
  as_aux_lemma =>
  refine wpAnyS_take (v := ?_) hA rfl (fun _ _ _ h => h) (Or.inl ⟨by rfl, ?_⟩) hF (fun hA => ?_)
  rotate_left
  · intro wS hSw; (try dsimp only at hSw); obtain ⟨s1, s2, s3, s4, s5⟩ := hSw; first | (apply Eq.trans; apply ex_ld_id; exact rfl; exact rfl; assumption; with_reducible rfl) | (apply Eq.trans; apply ex_ldS_at; exact rfl; exact rfl; assumption; with_reducible rfl) | (apply Eq.trans; apply ex_bldT5_at; exact rfl; exact rfl; exact rfl; exact rfl; exact rfl; exact rfl; with_reducible rfl) | (go_simp; try with_reducible rfl)
  try simp only [List.getElem_toArray, List.getElem_cons_zero, List.getElem_cons_succ, Act.put, List.setIfInBounds_toArray, List.set_cons_zero, List.set_cons_succ]
  refine wpAnyS_end hA rfl ?_
  simp only [List.drop_succ_cons, List.drop_zero]
  clear hF hk
  have b2 := Cod.bxd_fr0 (Cod.bxd_fr0 b1 ((Fr.refl noB W0).drew)) f2
  have hst := okT.stR_box b2 ⟨r.Node, r.At, r.Name, sub, A2, r.n, c2⟩
  obtain ⟨p1, p2, p3⟩ := Cod.put_fr b2 ⟨r.Node, r.At, r.Name, sub, A2, r.n, c2⟩
  have gz := (f0.step0 ((Fr.refl noB W0).drew)).step0 f2
  have sl3 : Sl (codT.put w2 (P + 2) ⟨r.Node, r.At, r.Name, sub, A2, r.n, c2⟩) A2 (codH.row hs) := Sl.own (own_box (Cod.bxd_blk b2) ho2 (by decide) p1)
  go_wp2_with fail
  refine bodyPost_ret (ret_row okT rfl _ _ (P + 2) ⟨r.Node, r.At, r.Name, sub, A2, r.n, c2⟩ (by rfl) p3) rfl ?_
  exact ⟨A2, c2, rfl, sl3, gz.step1 p1 (by have := HP.out; omega)⟩
end Go.Proofs.YtefcalkbfaefgaaGreat
namespace Go.Proofs.YtefcalkbfaefgaaGreat
open Go.RowKit
set_option linter.unusedVariables false
set_option linter.unusedSimpArgs false

theorem RwIn.item {w : World} {r : RwW} {x : RwP} (h : RwIn w r x) {A : Option Addr} {c : Nat} {w' : World} (hs : Sl w' A (codH.row x.Heads)) : ItsIn w' [⟨r.Node, r.At, r.Name, zID, A, r.n, c⟩] [itR x zID] :=
  ⟨rfl, fun i h1 h2 => by
    have hi : i = 0 := by simp at h1; omega
    subst hi
    refine ⟨?_, h.len, hs, h.bd, h.nm⟩
    show itR x zID = itOf _ x.Heads
    unfold itR itOf
    simp only [h.node, h.at_, h.name]
    rfl⟩
set_option maxRecDepth 100000 in
set_option maxHeartbeats 2000000 in
theorem nrow_any (w : World) (r : RwW) (x : RwP) (h : RwIn w r x) (hb : x.Heads.length ≤ 2932031007402) : Calls Tryz.prog 53 #[.agg (codR.A r)] w (Gives w (.bool (rightR x))) := by
  have f0 : Fr noB w (w.alloc (.cells (codR.A r) 36)) := (Fr.refl noB w).alloc _
  have q := rwAt (Cod.rd_new (C := codR) w 36 r)
  have hP : w.heap.size < (w.alloc (.cells (codR.A r) 36)).heap.size := by simp
  have H := Lib.hid (h.fr f0)
  have HM := Lib.hid (show rightR x = (rightDr [itR x zID] && decide (x.Node ≠ lastS)) from rfl)
  have HND := Lib.hid h.node
  clear h
  go_enter Tryz.func53, Tryz.ntmps53
  go_upto_region 1 with fail
  generalize w.alloc (.cells (codR.A r) 36) = W0 at f0 q H hP ⊢
  obtain ⟨P, hP'⟩ : ∃ x, x = w.heap.size := ⟨_, rfl⟩
  rw [← hP'] at q hP ⊢
  clear hP'
  obtain ⟨q1, q2, q3, q4, q5, q6⟩ := q
  clear q2 q3 q4 q5
  go_upto_region 2 with (first
    | (go_at_call 86; refine (nitem_any W0 r zID x.Heads H.out.len H.out.sl hb).mono ?_; rintro e w2 ⟨A2, c2, rfl, sl2, f2⟩)
    | (go_at_call 85; refine (putDir_any _ (some ⟨w2.heap.size, 0, none⟩) 1 1 [⟨r.Node, r.At, r.Name, zID, A2, r.n, c2⟩] [itR x zID] rfl (Cod.sl_new (C := codT) w2 [⟨r.Node, r.At, r.Name, zID, A2, r.n, c2⟩]) (by simp) (H.out.item (sl2.fr0 ((Fr.refl noB w2).alloc _)))).mono ?_; rintro e w3 ⟨A3, c3, rfl, ho3, f3, hc3⟩))
  have f4 : Fr noB W0 w3 := (f2.alloc _).step0 f3
  clear ho3 hc3 sl2
  replace q1 := Cod.rd_fr0 q1 f4
  have hPs : P < w3.heap.size := Cod.rd_lt q1
  by_cases hr : rightDr [itR x zID] = true
  · have hs : (putDr [itR x zID]).isSome = true := by unfold putDr; rw [if_pos hr]; rfl
    rw [if_pos hs]
    clear hs
    have C1 := fun wS : World => last_any wS
    by_cases hl : r.Node = lastS
    · have HE := Lib.hid (show rightR x = false by rw [HM.out, HND.out, hl]; simp)
      have hl' : (decide (r.Node = lastS)) = true := by simp [hl]
      clear hr HM hl
      refine wp_region_fr (by kernel_rfl) (by kernel_rfl) ?_
      iterate 5
        refine wpQ_take (v := ?_) (by rfl) (fun wS hS => ?_) ?_
        rotate_left
        · obtain ⟨L1, L2, L3, L4, L5, L6⟩ := Fr.same hS; go_simp; try with_reducible rfl
        try simp only [List.getElem_toArray, List.getElem_cons_zero, List.getElem_cons_succ, Act.put, List.setIfInBounds_toArray, List.set_cons_zero, List.set_cons_succ]
      refine wpQ_call (by rfl) (fun wS hS => ⟨_, _, ?qh58, Calls.fr hS (C1 _)⟩) ?qk58
      case qh58 => obtain ⟨L1, L2, L3, L4, L5, L6⟩ := Fr.same hS; go_simp; try with_reducible rfl
      try simp only [List.getElem_toArray, List.getElem_cons_zero, List.getElem_cons_succ, Act.put, List.setIfInBounds_toArray, List.set_cons_zero, List.set_cons_succ]
      iterate 3
        refine wpQ_take (v := ?_) (by rfl) (fun wS hS => ?_) ?_
        rotate_left
        · obtain ⟨L1, L2, L3, L4, L5, L6⟩ := Fr.same hS; go_simp; try with_reducible rfl
        try simp only [List.getElem_toArray, List.getElem_cons_zero, List.getElem_cons_succ, Act.put, List.setIfInBounds_toArray, List.set_cons_zero, List.set_cons_succ]
      refine wpQ_nil ?_
      intro w1 f1
      go_wp2_with fail
      go_ret
      exact ⟨by rw [HE.out]; rfl, (f0.step0 f4).step0 f1⟩
    · have HE := Lib.hid (show rightR x = true by rw [HM.out, HND.out, hr]; simp [hl])
      clear hr HM
      refine wp_region_fr (by kernel_rfl) (by kernel_rfl) ?_
      iterate 5
        refine wpQ_take (v := ?_) (by rfl) (fun wS hS => ?_) ?_
        rotate_left
        · obtain ⟨L1, L2, L3, L4, L5, L6⟩ := Fr.same hS; go_simp; try with_reducible rfl
        try simp only [List.getElem_toArray, List.getElem_cons_zero, List.getElem_cons_succ, Act.put, List.setIfInBounds_toArray, List.set_cons_zero, List.set_cons_succ]
      refine wpQ_call (by rfl) (fun wS hS => ⟨_, _, ?qh79, Calls.fr hS (C1 _)⟩) ?qk79
      case qh79 => obtain ⟨L1, L2, L3, L4, L5, L6⟩ := Fr.same hS; go_simp; try with_reducible rfl
      try simp only [List.getElem_toArray, List.getElem_cons_zero, List.getElem_cons_succ, Act.put, List.setIfInBounds_toArray, List.set_cons_zero, List.set_cons_succ]
      iterate 3
        refine wpQ_take (v := ?_) (by rfl) (fun wS hS => ?_) ?_
        rotate_left
        · obtain ⟨L1, L2, L3, L4, L5, L6⟩ := Fr.same hS; go_simp; try with_reducible rfl
        try simp only [List.getElem_toArray, List.getElem_cons_zero, List.getElem_cons_succ, Act.put, List.setIfInBounds_toArray, List.set_cons_zero, List.set_cons_succ]
      refine wpQ_nil ?_
      intro w1 f1
      go_wp2_with fail
      go_ret
      exact ⟨by rw [HE.out]; rfl, (f0.step0 f4).step0 f1⟩
  · have hs : ¬ (putDr [itR x zID]).isSome = true := by unfold putDr; rw [if_neg hr]; decide
    rw [if_neg hs]
    clear hs
    have HE := Lib.hid (show rightR x = false by rw [HM.out]; simp [hr])
    clear hr HM
    refine wp_region_fr (by kernel_rfl) (by kernel_rfl) ?_
    iterate 3
      refine wpQ_take (v := ?_) (by rfl) (fun wS hS => ?_) ?_
      rotate_left
      · obtain ⟨L1, L2, L3, L4, L5, L6⟩ := Fr.same hS; go_simp; try with_reducible rfl
      try simp only [List.getElem_toArray, List.getElem_cons_zero, List.getElem_cons_succ, Act.put, List.setIfInBounds_toArray, List.set_cons_zero, List.set_cons_succ]
    iterate 4
      refine wpQ_off (by rfl) ?_
      try simp only [List.getElem_toArray, List.getElem_cons_zero, List.getElem_cons_succ, Act.put, List.setIfInBounds_toArray, List.set_cons_zero, List.set_cons_succ]
    iterate 2
      refine wpQ_take (v := ?_) (by rfl) (fun wS hS => ?_) ?_
      rotate_left
      · obtain ⟨L1, L2, L3, L4, L5, L6⟩ := Fr.same hS; go_simp; try with_reducible rfl
      try simp only [List.getElem_toArray, List.getElem_cons_zero, List.getElem_cons_succ, Act.put, List.setIfInBounds_toArray, List.set_cons_zero, List.set_cons_succ]
    refine wpQ_nil ?_
    intro w1 f1
    go_wp2_with fail
    go_ret
    exact ⟨by rw [HE.out]; rfl, (f0.step0 f4).step0 f1⟩
/-- a variable made behind another new one -/
theorem CodOk.stR_new1 {α : Type} {C : Cod α} (H : CodOk Tryz.prog C) (w : World) (ob : Obj) (x y : α) : C.stR ((w.alloc ob).alloc (C.o y)) (.pointer (some ⟨w.heap.size + 1, 0, none⟩)) (.agg (C.A x)) = .ok .skip ((w.alloc ob).alloc (C.o x)) := by
  have h := H.stR_new (w.alloc ob) x y
  rwa [World.size_alloc] at h
@[simp] theorem st_new1H (w : World) (ob : Obj) (x y : Hd) : codH.stR ((w.alloc ob).alloc (codH.o y)) (.pointer (some ⟨w.heap.size + 1, 0, none⟩)) (.agg (codH.A x)) = .ok .skip ((w.alloc ob).alloc (codH.o x)) := okH.stR_new1 w ob x y
@[simp] theorem st_new1R (w : World) (ob : Obj) (x y : RwW) : codR.stR ((w.alloc ob).alloc (codR.o y)) (.pointer (some ⟨w.heap.size + 1, 0, none⟩)) (.agg (codR.A x)) = .ok .skip ((w.alloc ob).alloc (codR.o x)) := okR.stR_new1 w ob x y
/-! sameData -/
def EqhR (w : World) (xs ys : List Hd) (gk : Nat) (iv : Value) (wr : World) : Prop := ∃ k : Nat, iv = .int .i64 (k : Int) ∧ gk = xs.length - k ∧ k ≤ xs.length ∧ (∀ j (h1 : j < xs.length) (h2 : j < ys.length), j < k → xs[j].Data = ys[j].Data) ∧ Fr noB w wr
theorem sameDt_len {a b : List Hd} (h : a.length ≠ b.length) : sameDt a b = false := by
  unfold sameDt
  rw [decide_eq_false_iff_not]
  intro e
  exact h (by simpa using congrArg List.length e)
theorem sameDt_ne {a b : List Hd} {i : Nat} (h1 : i < a.length) (h2 : i < b.length) (h : a[i].Data ≠ b[i].Data) : sameDt a b = false := by
  unfold sameDt
  rw [decide_eq_false_iff_not]
  intro e
  have : (a.map (·.Data))[i]? = (b.map (·.Data))[i]? := by rw [e]
  simp only [List.getElem?_map, List.getElem?_eq_getElem h1, List.getElem?_eq_getElem h2, Option.map_some, Option.some.injEq] at this
  exact h this
theorem sameDt_all {a b : List Hd} (hl : a.length = b.length) (h : ∀ j (h1 : j < a.length) (h2 : j < b.length), j < a.length → a[j].Data = b[j].Data) : sameDt a b = true := by
  unfold sameDt
  rw [decide_eq_true_eq]
  refine List.ext_getElem (by simp [hl]) fun i h1 h2 => ?_
  simp only [List.getElem_map]
  exact h i (by simpa using h1) (by simpa using h2) (by simpa using h1)
set_option maxRecDepth 100000 in
theorem same1_any (w : World) (x y : Hd) : Calls Tryz.prog 60 #[.agg (codH.A x), .agg (codH.A y)] w (Gives w (.bool (decide (x.Data = y.Data)))) := by
  have f0 : Fr noB w ((w.alloc (.cells (codH.A x) 93)).alloc (.cells (codH.A y) 93)) := ((Fr.refl noB w).alloc _).alloc _
  have q1 := (hdAt (Cod.rd_fr0 (Cod.rd_new (C := codH) w 93 x) ((Fr.refl noB _).alloc (.cells (codH.A y) 93)))).data
  have q2 := (hdAt (Cod.rd_new (C := codH) (w.alloc (.cells (codH.A x) 93)) 93 y)).data
  have hz : (w.alloc (.cells (codH.A x) 93)).heap.size = w.heap.size + 1 := by simp
  rw [hz] at q2
  clear hz
  go_enter Tryz.func60, Tryz.ntmps60
  go_wp2_with fail
  go_ret
  exact ⟨rfl, f0⟩
set_option maxRecDepth 100000 in
set_option maxHeartbeats 1000000 in
theorem eqfH_any (w : World) (A B : Option Addr) (c d n m : Nat) (xs ys : List Hd) (hn : xs.length = n) (hm : ys.length = m) (hA : Sl w A (codH.row xs)) (hB : Sl w B (codH.row ys)) (hb : xs.length ≤ 140737488355328) (hb2 : ys.length ≤ 140737488355328) :
    Calls Tryz.prog 59 #[.slice A n c, .slice B m d, .func (.func 60) #[] #[]] w (Gives w (.bool (sameDt xs ys))) := by
  subst hn hm
  by_cases hl : xs.length = ys.length
  · have HL := Lib.hid hl
    rw [← hl]
    clear hl
    go_enter Tryz.func59, Tryz.ntmps59
    go_wp2_with fail
    go_loopg [17] xs.length (fun gk iv wr => EqhR w xs ys gk iv wr)
    case atStart => exact ⟨0, rfl, by omega, by omega, fun j h1 h2 h3 => by omega, Fr.refl _ _⟩
    case round =>
      obtain ⟨k, rfl, rfl, hk, hj, hf⟩ := hrel
      have HJ := Lib.hid hj
      clear hj
      by_cases hlt : k < xs.length
      · have hlt2 : k < ys.length := by rw [← HL.out]; exact hlt
        have i1 : (k : Int) < (xs.length : Int) := by omega
        have i0 : (0 : Int) ≤ (k : Int) := by omega
        obtain ⟨g, off, rfl, hg⟩ := hA.adC (by omega)
        obtain ⟨g2, off2, rfl, hg2⟩ := hB.adC (by omega)
        have e1 : codH.rd wr g (off + k * 34) = some xs[k] := (hA.fr0 hf).rd k hlt
        have fx : Fr noB wr (wr.alloc (codH.o xs[k])) := (Fr.refl noB wr).alloc _
        have e2 : codH.rd (wr.alloc (codH.o xs[k])) g2 (off2 + k * 34) = some ys[k] := ((hB.fr0 hf).fr0 fx).rd k hlt2
        have fy : Fr noB (wr.alloc (codH.o xs[k])) ((wr.alloc (codH.o xs[k])).alloc (codH.o ys[k])) := (Fr.refl noB _).alloc _
        have n1 := Cod.rd_fr0 (Cod.rd_new' (C := codH) wr xs[k]) fy
        have n2 := Cod.rd_new' (C := codH) (wr.alloc (codH.o xs[k])) ys[k]
        have hz : (wr.alloc (codH.o xs[k])).heap.size = wr.heap.size + 1 := by simp
        rw [hz] at n2
        have HC := Lib.hid (fun wS : World => same1_any wS xs[k] ys[k])
        have hne : xs[k].Data ≠ ys[k].Data → sameDt xs ys = false := fun h => sameDt_ne hlt hlt2 h
        have heq : xs[k].Data = ys[k].Data → ∀ j (h1 : j < xs.length) (h2 : j < ys.length), j < k + 1 → xs[j].Data = ys[j].Data := fun h j h1 h2 h3 => by
          by_cases e : j = k
          · subst e; exact h
          · exact HJ.out j h1 h2 (by omega)
        have HNE := Lib.hid hne
        have HEQ := Lib.hid heq
        clear hz hne heq
        generalize xs[k] = x at e1 e2 fx fy n1 n2 HC HNE HEQ
        generalize ys[k] = y at e2 fy n1 n2 HC HNE HEQ
        by_cases hxy : x.Data = y.Data
        · have HE := Lib.hid (HEQ.out hxy)
          have hd : decide (x.Data = y.Data) = true := by simp [hxy]
          rw [hd] at HC
          clear hxy hd HNE HEQ
          go_wp2_with (go_at_call 60; refine (HC.out _).mono ?_; rintro e w5 ⟨rfl, f5⟩)
          go_roundg (xs.length - (k + 1))
          case measure => omega
          case rel => exact ⟨k + 1, by simp, rfl, by omega, HE.out, ((hf.step0 fx).step0 fy).step0 f5⟩
        · have HE := Lib.hid (HNE.out hxy)
          have hd : decide (x.Data = y.Data) = false := by simp [hxy]
          rw [hd] at HC
          clear hxy hd HNE HEQ
          go_wp2_with (go_at_call 60; refine (HC.out _).mono ?_; rintro e w5 ⟨rfl, f5⟩)
          go_ret
          exact ⟨by rw [HE.out]; rfl, ((hf.step0 fx).step0 fy).step0 f5⟩
      · have hkn : k = xs.length := by omega
        subst hkn
        have i1 : ¬ (xs.length : Int) < (xs.length : Int) := by omega
        have HE := Lib.hid (sameDt_all HL.out HJ.out)
        go_wp2_with fail
        go_ret
        exact ⟨by rw [HE.out]; rfl, hf⟩
  · have HE := Lib.hid (sameDt_len hl)
    have hl' : ¬ (xs.length : Int) = (ys.length : Int) := by omega
    go_enter Tryz.func59, Tryz.ntmps59
    go_wp2_with fail
    go_ret
    exact ⟨by rw [HE.out]; rfl, Fr.refl _ _⟩
set_option maxRecDepth 100000 in
theorem sameData_any (w : World) (r s : RwW) (xs ys : List Hd) (h1 : xs.length = r.n) (h2 : ys.length = s.n) (hA : Sl w r.A (codH.row xs)) (hB : Sl w s.A (codH.row ys)) (hb : xs.length ≤ 140737488355328) (hb2 : ys.length ≤ 140737488355328) :
    Calls Tryz.prog 29 #[.agg (codR.A r), .agg (codR.A s)] w (Gives w (.bool (sameDt xs ys))) := by
  have f0 : Fr noB w ((w.alloc (.cells (codR.A r) 36)).alloc (.cells (codR.A s) 36)) := ((Fr.refl noB w).alloc _).alloc _
  have q1 := (rwAt (Cod.rd_fr0 (Cod.rd_new (C := codR) w 36 r) ((Fr.refl noB _).alloc (.cells (codR.A s) 36)))).heads
  have q2 := (rwAt (Cod.rd_new (C := codR) (w.alloc (.cells (codR.A r) 36)) 36 s)).heads
  have hz : (w.alloc (.cells (codR.A r) 36)).heap.size = w.heap.size + 1 := by simp
  rw [hz] at q2
  have HC := Lib.hid (eqfH_any _ r.A s.A r.c s.c r.n s.n xs ys h1 h2 (hA.fr0 f0) (hB.fr0 f0) hb hb2)
  clear hz h1 h2
  go_enter Tryz.func29, Tryz.ntmps29
  go_wp2_with (go_at_call 59; refine HC.out.mono ?_; rintro e w5 ⟨rfl, f5⟩)
  go_ret
  exact ⟨rfl, f0.step0 f5⟩
end Go.Proofs.YtefcalkbfaefgaaGreat
