/- Values built of parts: an item of a row, operations of moves and edits. Contracts: slices.Clone of heads, snap.item, snap.right; slices.EqualFunc of heads, differ.sameData. (ex_ldS_at ex_bldT5_at) Contracts: snap.right; slices.EqualFunc of heads, differ.sameData. (ex_ldS_at) -/
import Derived.Test.YtdandpaeeodolaaGreatDifAK
import Derived.Test.YtdandpaeeodolaaGreatPutDK
import Derived.Test.YtdandpaeeodolaaGreatQFrK
import Derived.Test.YtdandpaeeodolaaGreatEqsK
namespace Go.Proofs.YtdandpaeeodolaaGreat
open Go.RowKit
set_option linter.unusedVariables false
set_option linter.unusedSimpArgs false

@[irreducible] noncomputable def mkB (t : TypeId) (w : World) (fs : List (Nat × Value)) : Result Next := ((Instr.build t fs.toArray).run Tryz.prog w).andThen (fun v w => .ok (.value v) w)
theorem mkB_ok {t : TypeId} {w : World} {fs : List (Nat × Value)} {v : Value} (h : (Instr.build t fs.toArray).run Tryz.prog w = .ok v w) : mkB t w fs = .ok (.value v) w := by
  unfold mkB
  rw [h]
  rfl
theorem exB (ρ : Operand → Value) (o : Oper) (t : TypeId) (fs : Array (Nat × Operand)) (ho : o.op = .build t fs) (w : World) : (execOp ρ o).run Tryz.prog w = mkB t w (fs.map fun (i, x) => (i, ρ x)).toList := by
  unfold execOp mkB
  simp only [ho, Sem.run_bind, Sem.run_pure, Array.toArray_toList]
theorem zO_form : (Value.agg (codO.cs codO.z).toArray).cells = ([] ++ [Value.int .i64 0] ++ ([Value.int .i64 0, Value.int .i64 0, Value.int .i64 0, Value.int .i64 0, Value.int .i64 0, Value.int .i64 0, Value.string (str [])] ++ bv zID.1 ++ [Value.slice none 0 0])).toArray := rfl
theorem bldO_mv (w : World) (k : Int) (s t : St) (m : List UInt8) : (Instr.build 33 #[(0, .int .i64 k), (2, .agg (codS.A s)), (3, .agg (codS.A t)), (4, .string (str m))]).run Tryz.prog w = .ok (.agg (codO.A { zOpW with Kind := k, Node := s, Parent := t, Name := m })) w := by
  have h1 : ∀ place : Nat → Option (Nat × Nat), place 0 = some (0, 1) → place 2 = some (3, 2) → place 3 = some (5, 2) → place 4 = some (7, 1) → Instr.fill place ([] ++ [Value.int .i64 0] ++ ([Value.int .i64 0, Value.int .i64 0, Value.int .i64 0, Value.int .i64 0, Value.int .i64 0, Value.int .i64 0, Value.string (str [])] ++ bv zID.1 ++ [Value.slice none 0 0])).toArray [(0, .int .i64 k), (2, .agg (codS.A s)), (3, .agg (codS.A t)), (4, .string (str m))] = some (codO.cs { zOpW with Kind := k, Node := s, Parent := t, Name := m }).toArray := by
    intro place p0 p2 p3 p4
    refine (fill_one place [] [.int .i64 0] ([Value.int .i64 0, Value.int .i64 0, Value.int .i64 0, Value.int .i64 0, Value.int .i64 0, Value.int .i64 0, Value.string (str [])] ++ bv zID.1 ++ [Value.slice none 0 0]) [.int .i64 k] 0 (.int .i64 k) _ rfl (by simpa using p0) rfl).trans ?_
    have e1 := fill_one place [.int .i64 k, .int .i64 0, .int .i64 0] [.int .i64 0, .int .i64 0] ([.int .i64 0, .int .i64 0, Value.string (str [])] ++ bv zID.1 ++ [Value.slice none 0 0]) [.int .i64 s.T, .int .i64 s.R] 2 (.agg (codS.A s)) [(3, .agg (codS.A t)), (4, .string (str m))] (by rw [A_SS]; rfl) (by simpa using p2) rfl
    refine Eq.trans ?_ (e1.trans ?_)
    · simp
    have e2 := fill_one place [.int .i64 k, .int .i64 0, .int .i64 0, .int .i64 s.T, .int .i64 s.R] [.int .i64 0, .int .i64 0] ([Value.string (str [])] ++ bv zID.1 ++ [Value.slice none 0 0]) [.int .i64 t.T, .int .i64 t.R] 3 (.agg (codS.A t)) [(4, .string (str m))] (by rw [A_SS]; rfl) (by simpa using p3) rfl
    refine Eq.trans ?_ (e2.trans ?_)
    · simp
    have e3 := fill_one place [.int .i64 k, .int .i64 0, .int .i64 0, .int .i64 s.T, .int .i64 s.R, .int .i64 t.T, .int .i64 t.R] [Value.string (str [])] (bv zID.1 ++ [Value.slice none 0 0]) [.string (str m)] 4 (.string (str m)) [] rfl (by simpa using p4) rfl
    refine Eq.trans ?_ (e3.trans ?_)
    · simp
    · simp [Instr.fill, codO, csO, zOpW, zSt]
  have hz : (zeroValue 33).run Tryz.prog w = .ok (.agg (codO.cs codO.z).toArray) w := okO.zero w
  simp only [Instr.build, Sem.run_bind, hz, Result.andThen_ok, run_underlying Tryz.underlying33, zO_form]
  simp only [List.mapM_toArray, List.mapM_cons, List.mapM_nil, Sem.run_bind, Tryz.sizeOf3, Tryz.sizeOf30, Tryz.sizeOf31, Tryz.sizeOf9, Tryz.sizeOf28, Result.andThen_ok, Sem.run_pure, Sem.run_map, map_pure, bind_pure_comp]
  rw [h1 _ rfl rfl rfl rfl]
  simp [Cod.A_eq]
theorem bldO_ed (w : World) (k : Int) (s : St) (x : ID) : (Instr.build 33 #[(0, .int .i64 k), (2, .agg (codS.A s)), (5, encI x)]).run Tryz.prog w = .ok (.agg (codO.A { zOpW with Kind := k, Node := s, Data := x })) w := by
  have h1 : ∀ place : Nat → Option (Nat × Nat), place 0 = some (0, 1) → place 2 = some (3, 2) → place 5 = some (8, 32) → Instr.fill place ([] ++ [Value.int .i64 0] ++ ([Value.int .i64 0, Value.int .i64 0, Value.int .i64 0, Value.int .i64 0, Value.int .i64 0, Value.int .i64 0, Value.string (str [])] ++ bv zID.1 ++ [Value.slice none 0 0])).toArray [(0, .int .i64 k), (2, .agg (codS.A s)), (5, encI x)] = some (codO.cs { zOpW with Kind := k, Node := s, Data := x }).toArray := by
    intro place p0 p2 p3
    refine (fill_one place [] [.int .i64 0] ([Value.int .i64 0, Value.int .i64 0, Value.int .i64 0, Value.int .i64 0, Value.int .i64 0, Value.int .i64 0, Value.string (str [])] ++ bv zID.1 ++ [Value.slice none 0 0]) [.int .i64 k] 0 (.int .i64 k) _ rfl (by simpa using p0) rfl).trans ?_
    have e1 := fill_one place [.int .i64 k, .int .i64 0, .int .i64 0] [.int .i64 0, .int .i64 0] ([.int .i64 0, .int .i64 0, Value.string (str [])] ++ bv zID.1 ++ [Value.slice none 0 0]) [.int .i64 s.T, .int .i64 s.R] 2 (.agg (codS.A s)) [(5, encI x)] (by rw [A_SS]; rfl) (by simpa using p2) rfl
    refine Eq.trans ?_ (e1.trans ?_)
    · simp
    have e2 := fill_one place [.int .i64 k, .int .i64 0, .int .i64 0, .int .i64 s.T, .int .i64 s.R, .int .i64 0, .int .i64 0, Value.string (str [])] (bv zID.1) [Value.slice none 0 0] (bv x.1) 5 (encI x) [] (cellsI x) (by simpa [x.2] using p3) (by simp [x.2, zID])
    refine Eq.trans ?_ (e2.trans ?_)
    · simp
    · simp [Instr.fill, codO, csO, zOpW, zSt]
  have hz : (zeroValue 33).run Tryz.prog w = .ok (.agg (codO.cs codO.z).toArray) w := okO.zero w
  simp only [Instr.build, Sem.run_bind, hz, Result.andThen_ok, run_underlying Tryz.underlying33, zO_form]
  simp only [List.mapM_toArray, List.mapM_cons, List.mapM_nil, Sem.run_bind, Tryz.sizeOf3, Tryz.sizeOf30, Tryz.sizeOf31, Tryz.sizeOf9, Tryz.sizeOf28, Result.andThen_ok, Sem.run_pure, Sem.run_map, map_pure, bind_pure_comp]
  rw [h1 _ rfl rfl rfl]
  simp [Cod.A_eq]
/-! the rules of the walk -/
@[simp ↓] theorem ex_bldOm (ρ : Operand → Value) (x0 x2 x3 x4 : Operand) (d : Option Nat) (t : TypeId) (p : String) (f : Array Edge) (g : Option (Nat × Bool)) (w : World) :
    (execOp ρ { dst := d, op := .build 33 #[(0, x0), (2, x2), (3, x3), (4, x4)], type := t, pos := p, after := f, guard := g }).run Tryz.prog w = mkB 33 w [(0, ρ x0), (2, ρ x2), (3, ρ x3), (4, ρ x4)] := (exB ρ _ _ _ rfl w).trans (by simp only [List.map_toArray, List.map_cons, List.map_nil])
@[simp] theorem mkB_Om (w : World) (k : Int) (s t : St) (m : List UInt8) : mkB 33 w [(0, .int .i64 k), (2, .agg (codS.A s)), (3, .agg (codS.A t)), (4, .string (str m))] = .ok (.value (.agg (codO.A { zOpW with Kind := k, Node := s, Parent := t, Name := m }))) w := mkB_ok (bldO_mv w k s t m)
@[simp ↓] theorem ex_bldOe (ρ : Operand → Value) (x0 x2 x5 : Operand) (d : Option Nat) (t : TypeId) (p : String) (f : Array Edge) (g : Option (Nat × Bool)) (w : World) :
    (execOp ρ { dst := d, op := .build 33 #[(0, x0), (2, x2), (5, x5)], type := t, pos := p, after := f, guard := g }).run Tryz.prog w = mkB 33 w [(0, ρ x0), (2, ρ x2), (5, ρ x5)] := (exB ρ _ _ _ rfl w).trans (by simp only [List.map_toArray, List.map_cons, List.map_nil])
@[simp] theorem mkB_Oe (w : World) (k : Int) (s : St) (x : ID) : mkB 33 w [(0, .int .i64 k), (2, .agg (codS.A s)), (5, encI x)] = .ok (.value (.agg (codO.A { zOpW with Kind := k, Node := s, Data := x }))) w := mkB_ok (bldO_ed w k s x)
theorem ex_bldOm_at {ρ : Operand → Value} {o : Oper} {x0 x2 x3 x4 : Operand} {w : World} {k : Int} {s t : St} {m : List UInt8} (ho : o.op = .build 33 #[(0, x0), (2, x2), (3, x3), (4, x4)]) (h0 : ρ x0 = .int .i64 k) (h2 : ρ x2 = .agg (codS.A s)) (h3 : ρ x3 = .agg (codS.A t)) (h4 : ρ x4 = .string (str m)) :
    (execOp ρ o).run Tryz.prog w = .ok (.value (.agg (codO.A { zOpW with Kind := k, Node := s, Parent := t, Name := m }))) w := by
  rw [exB ρ o _ _ ho w]
  simp only [List.map_toArray, List.map_cons, List.map_nil, h0, h2, h3, h4]
  exact mkB_Om w k s t m
theorem ex_bldOe_at {ρ : Operand → Value} {o : Oper} {x0 x2 x5 : Operand} {w : World} {k : Int} {s : St} {x : ID} (ho : o.op = .build 33 #[(0, x0), (2, x2), (5, x5)]) (h0 : ρ x0 = .int .i64 k) (h2 : ρ x2 = .agg (codS.A s)) (h5 : ρ x5 = encI x) :
    (execOp ρ o).run Tryz.prog w = .ok (.value (.agg (codO.A { zOpW with Kind := k, Node := s, Data := x }))) w := by
  rw [exB ρ o _ _ ho w]
  simp only [List.map_toArray, List.map_cons, List.map_nil, h0, h2, h5]
  exact mkB_Oe w k s x
end Go.Proofs.YtdandpaeeodolaaGreat
namespace Go.Proofs.YtdandpaeeodolaaGreat
open Go.RowKit
set_option linter.unusedVariables false
set_option linter.unusedSimpArgs false

@[go_sem] theorem hs_eq_nil (w : World) (a : Option Addr) (n c : Nat) : (binOp .eql 38 (.slice a n c) (.slice none 0 0)).run Tryz.prog w = .ok (.bool a.isNone) w :=
  Lib.run_eql_slice_nil w _ _ a n c 0 0 Tryz.underlying38
def NewHs (w : World) (l : List Hd) (e : Ending) (w' : World) : Prop := ∃ A c, e = .returned (.slice A l.length c) ∧ OwnC codH w w' A c l ∧ Fr noB w w'
set_option maxRecDepth 100000 in
theorem clHeads_any (w : World) (A : Option Addr) (c : Nat) (l : List Hd) (n : Nat) (hn : l.length = n) (hs : Sl w A (codH.row l)) (hb : l.length ≤ 2932031007402) :
    Calls Tryz.prog 58 #[.slice A n c] w (NewHs w l) := by
  subst hn
  rcases A with _ | ad
  · have hl : l = [] := by
      cases l with
      | nil => rfl
      | cons b t => obtain ⟨g, off, h, _⟩ := hs (Cod.row_ne (by simp)); cases h
    subst hl
    go_enter Tryz.func58, Tryz.ntmps58
    go_wp2
    go_ret
    exact ⟨none, 0, rfl, World.ownsRow_nil _ _ _ _, Fr.refl _ _⟩
  · have hown := World.ownsRow_lit (base := w.heap.size) (e := 45) (size := 34) w #[] 0 (Nat.le_refl _) (by simp [maxLen]) rfl
    have hs1 : Sl (w.alloc (.cells #[] 45)) (some ad) (codH.row l) := hs.fr0 ((Fr.refl noB w).alloc _)
    go_enter Tryz.func58, Tryz.ntmps58
    go_wp2_with (at_builtin; refine wpList_app _ etH rfl _ _ rfl w.heap.size _ _ _ rfl hown (some ad) l.length c (codH.row l) rfl hs1 (Cod.row_len l) (Cod.row_one l) (by omega) (by simp) ?_; intro v' w1 h1 h2 h3)
    go_ret
    obtain ⟨A', c', rfl, _, _⟩ := own_form h1
    simp only [Nat.zero_add, List.nil_append] at h1
    exact ⟨A', c', by simp, h1, ((Fr.refl noB w).alloc _).stepG (r := some w.heap.size) h2 (by intro g hg; injection hg with hg; omega)⟩
end Go.Proofs.YtdandpaeeodolaaGreat
namespace Go.Proofs.YtdandpaeeodolaaGreat
open Go.RowKit
set_option linter.unusedVariables false
set_option linter.unusedSimpArgs false

theorem RwIn.item {w : World} {r : RwW} {x : RwP} (h : RwIn w r x) {A : Option Addr} {c : Nat} {w' : World} (hs : Sl w' A (codH.row x.Heads)) : ItsIn w' [⟨r.Node, r.At, r.Name, zID, A, r.n, c⟩] [itR x zID] :=
  ⟨rfl, fun i h1 h2 => by
    have hi : i = 0 := by simp at h1; omega
    subst hi
    refine ⟨?_, h.len, hs, h.bd, h.nm⟩
    show itR x zID = itOf _ x.Heads
    unfold itR itOf
    simp only [h.node, h.at_, h.name]
    rfl⟩
/-- a variable made behind another new one -/
theorem CodOk.stR_new1 {α : Type} {C : Cod α} (H : CodOk Tryz.prog C) (w : World) (ob : Obj) (x y : α) : C.stR ((w.alloc ob).alloc (C.o y)) (.pointer (some ⟨w.heap.size + 1, 0, none⟩)) (.agg (C.A x)) = .ok .skip ((w.alloc ob).alloc (C.o x)) := by
  have h := H.stR_new (w.alloc ob) x y
  rwa [World.size_alloc] at h
@[simp] theorem st_new1H (w : World) (ob : Obj) (x y : Hd) : codH.stR ((w.alloc ob).alloc (codH.o y)) (.pointer (some ⟨w.heap.size + 1, 0, none⟩)) (.agg (codH.A x)) = .ok .skip ((w.alloc ob).alloc (codH.o x)) := okH.stR_new1 w ob x y
@[simp] theorem st_new1R (w : World) (ob : Obj) (x y : RwW) : codR.stR ((w.alloc ob).alloc (codR.o y)) (.pointer (some ⟨w.heap.size + 1, 0, none⟩)) (.agg (codR.A x)) = .ok .skip ((w.alloc ob).alloc (codR.o x)) := okR.stR_new1 w ob x y
/-! sameData -/
def EqhR (w : World) (xs ys : List Hd) (gk : Nat) (iv : Value) (wr : World) : Prop := ∃ k : Nat, iv = .int .i64 (k : Int) ∧ gk = xs.length - k ∧ k ≤ xs.length ∧ (∀ j (h1 : j < xs.length) (h2 : j < ys.length), j < k → xs[j].Data = ys[j].Data) ∧ Fr noB w wr
theorem sameDt_len {a b : List Hd} (h : a.length ≠ b.length) : sameDt a b = false := by
  unfold sameDt
  rw [decide_eq_false_iff_not]
  intro e
  exact h (by simpa using congrArg List.length e)
theorem sameDt_ne {a b : List Hd} {i : Nat} (h1 : i < a.length) (h2 : i < b.length) (h : a[i].Data ≠ b[i].Data) : sameDt a b = false := by
  unfold sameDt
  rw [decide_eq_false_iff_not]
  intro e
  have : (a.map (·.Data))[i]? = (b.map (·.Data))[i]? := by rw [e]
  simp only [List.getElem?_map, List.getElem?_eq_getElem h1, List.getElem?_eq_getElem h2, Option.map_some, Option.some.injEq] at this
  exact h this
theorem sameDt_all {a b : List Hd} (hl : a.length = b.length) (h : ∀ j (h1 : j < a.length) (h2 : j < b.length), j < a.length → a[j].Data = b[j].Data) : sameDt a b = true := by
  unfold sameDt
  rw [decide_eq_true_eq]
  refine List.ext_getElem (by simp [hl]) fun i h1 h2 => ?_
  simp only [List.getElem_map]
  exact h i (by simpa using h1) (by simpa using h2) (by simpa using h1)
end Go.Proofs.YtdandpaeeodolaaGreat
