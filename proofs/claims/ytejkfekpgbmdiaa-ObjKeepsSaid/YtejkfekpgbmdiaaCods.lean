/- Stamps, heads, operations, items, commits and tags as values; the rules of the walk for them. -/
import Derived.Test.YtejkfekpgbmdiaaCodB
import Derived.Test.YtejkfekpgbmdiaaStW
namespace Go.Proofs.Ytejkfekpgbmdiaa
open Go.RowKit
set_option linter.unusedVariables false
set_option linter.unusedSimpArgs false

theorem str_inj {l m : List UInt8} (h : str l = str m) : l = m := by
  have := congrArg ByteArray.data h
  simpa [str] using this
theorem bv_app_inj {x y : ID} {l m : List Value} (h : bv x.1 ++ l = bv y.1 ++ m) : x = y ∧ l = m := by
  have hl : (bv x.1).length = (bv y.1).length := by rw [bv_length, bv_length, x.2, y.2]
  obtain ⟨h1, h2⟩ := List.append_inj h hl
  exact ⟨Subtype.ext (bv_inj h1), h2⟩

/-- an operation as it lies in memory -/
structure OpW where
  Kind : Int
  At : St
  Node : St
  Parent : St
  Name : List UInt8
  Data : ID
  A : Option Addr
  n : Nat
  c : Nat
structure ItW where
  Node : St
  At : St
  Name : List UInt8
  Sub : ID
  A : Option Addr
  n : Nat
  c : Nat
structure CgW where
  PA : Option Addr
  pn : Nat
  pc : Nat
  Time : Int
  R : Int
  OA : Option Addr
  on : Nat
  oc : Nat
  Tree : ID
  Msg : List UInt8

def csS (s : St) : List Value := [.int .i64 s.T, .int .i64 s.R]
def csH (h : Hd) : List Value := .int .i64 h.At.T :: .int .i64 h.At.R :: bv h.Data.1
def csO (r : OpW) : List Value := .int .i64 r.Kind :: .int .i64 r.At.T :: .int .i64 r.At.R :: .int .i64 r.Node.T :: .int .i64 r.Node.R :: .int .i64 r.Parent.T :: .int .i64 r.Parent.R :: .string (str r.Name) :: (bv r.Data.1 ++ [.slice r.A r.n r.c])
def csT (r : ItW) : List Value := .int .i64 r.Node.T :: .int .i64 r.Node.R :: .int .i64 r.At.T :: .int .i64 r.At.R :: .string (str r.Name) :: (bv r.Sub.1 ++ [.slice r.A r.n r.c])
def csC (r : CgW) : List Value := .slice r.PA r.pn r.pc :: .int .i64 r.Time :: .int .i64 r.R :: .slice r.OA r.on r.oc :: (bv r.Tree.1 ++ [.string (str r.Msg)])
def csL (r : Lbl) : List Value := bv r.Target.1 ++ [.string (str r.Name), .string (str r.Msg)]
def zHd : Hd := ⟨zSt, zID⟩
def zOpW : OpW := ⟨0, zSt, zSt, zSt, [], zID, none, 0, 0⟩
def zItW : ItW := ⟨zSt, zSt, [], zID, none, 0, 0⟩
def zCgW : CgW := ⟨none, 0, 0, 0, 0, none, 0, 0, zID, []⟩
def zLbl : Lbl := ⟨zID, [], []⟩

theorem one_bv {l m : List Value} {x : ID} (hl : ∀ u ∈ l, u.oneCell' = true) (hm : ∀ u ∈ m, u.oneCell' = true) : ∀ u ∈ l ++ (bv x.1 ++ m), u.oneCell' = true := by
  intro u hu
  rcases List.mem_append.1 hu with h | h
  · exact hl u h
  · rcases List.mem_append.1 h with h | h
    · exact bv_one _ u h
    · exact hm u h
def codS : Cod St := ⟨46, 2, csS, zSt, fun _ => rfl, by decide, fun x u hu => by simp [csS] at hu; rcases hu with rfl | rfl <;> rfl, fun x y h => by
  obtain ⟨a, b⟩ := x; obtain ⟨c, d⟩ := y; simp [csS] at h; obtain ⟨rfl, rfl⟩ := h; rfl⟩
def codH : Cod Hd := ⟨51, 34, csH, zHd, fun x => by simp [csH, x.Data.2], by decide, fun x u hu => by
    have := one_bv (l := [.int .i64 x.At.T, .int .i64 x.At.R]) (m := []) (x := x.Data) (by simp; exact ⟨rfl, rfl⟩) (by simp) u (by simpa [csH] using hu)
    exact this, fun x y h => by
  obtain ⟨⟨a, b⟩, d⟩ := x; obtain ⟨⟨a', b'⟩, d'⟩ := y
  simp only [csH, List.cons.injEq, Value.int.injEq, true_and] at h
  obtain ⟨rfl, rfl, h⟩ := h
  obtain ⟨rfl, _⟩ := bv_app_inj (x := d) (y := d') (l := []) (m := []) (by rw [List.append_nil, List.append_nil]; exact h)
  rfl⟩
def codO : Cod OpW := ⟨56, 41, csO, zOpW, fun x => by simp [csO, x.Data.2], by decide, fun x u hu => by
    have := one_bv (l := [.int .i64 x.Kind, .int .i64 x.At.T, .int .i64 x.At.R, .int .i64 x.Node.T, .int .i64 x.Node.R, .int .i64 x.Parent.T, .int .i64 x.Parent.R, .string (str x.Name)]) (m := [.slice x.A x.n x.c]) (x := x.Data) (by simp; exact ⟨rfl, rfl, rfl, rfl, rfl, rfl, rfl, rfl⟩) (by simp; rfl) u (by simpa [csO] using hu)
    exact this, fun x y h => by
  obtain ⟨k, ⟨a, b⟩, ⟨a2, b2⟩, ⟨a3, b3⟩, nm, d, A, n, c⟩ := x; obtain ⟨k', ⟨a', b'⟩, ⟨a2', b2'⟩, ⟨a3', b3'⟩, nm', d', A', n', c'⟩ := y
  simp only [csO] at h; simp only [List.cons.injEq, Value.int.injEq, Value.string.injEq, true_and] at h
  obtain ⟨rfl, rfl, rfl, rfl, rfl, rfl, rfl, hn, h⟩ := h
  obtain ⟨rfl, h5⟩ := bv_app_inj h
  have hn := str_inj hn
  subst hn
  injection h5 with h6 _
  injection h6 with h1 h2 h3
  subst h1 h2 h3
  rfl⟩
def codT : Cod ItW := ⟨49, 38, csT, zItW, fun x => by simp [csT, x.Sub.2], by decide, fun x u hu => by
    have := one_bv (l := [.int .i64 x.Node.T, .int .i64 x.Node.R, .int .i64 x.At.T, .int .i64 x.At.R, .string (str x.Name)]) (m := [.slice x.A x.n x.c]) (x := x.Sub) (by simp; exact ⟨rfl, rfl, rfl, rfl, rfl⟩) (by simp; rfl) u (by simpa [csT] using hu)
    exact this, fun x y h => by
  obtain ⟨⟨a, b⟩, ⟨a2, b2⟩, nm, d, A, n, c⟩ := x; obtain ⟨⟨a', b'⟩, ⟨a2', b2'⟩, nm', d', A', n', c'⟩ := y
  simp only [csT] at h; simp only [List.cons.injEq, Value.int.injEq, Value.string.injEq, true_and] at h
  obtain ⟨rfl, rfl, rfl, rfl, hn, h⟩ := h
  obtain ⟨rfl, h5⟩ := bv_app_inj h
  have hn := str_inj hn
  subst hn
  injection h5 with h6 _
  injection h6 with h1 h2 h3
  subst h1 h2 h3
  rfl⟩
def codC : Cod CgW := ⟨27, 37, csC, zCgW, fun x => by simp [csC, x.Tree.2], by decide, fun x u hu => by
    have := one_bv (l := [.slice x.PA x.pn x.pc, .int .i64 x.Time, .int .i64 x.R, .slice x.OA x.on x.oc]) (m := [.string (str x.Msg)]) (x := x.Tree) (by simp; exact ⟨rfl, rfl, rfl, rfl⟩) (by simp; rfl) u (by simpa [csC] using hu)
    exact this, fun x y h => by
  obtain ⟨A, n, c, a, b, A2, n2, c2, d, m⟩ := x; obtain ⟨A', n', c', a', b', A2', n2', c2', d', m'⟩ := y
  simp only [csC] at h; simp only [List.cons.injEq, Value.int.injEq, Value.slice.injEq, true_and] at h
  obtain ⟨⟨rfl, rfl, rfl⟩, rfl, rfl, ⟨rfl, rfl, rfl⟩, h⟩ := h
  obtain ⟨rfl, h5⟩ := bv_app_inj h
  injection h5 with h6 _
  injection h6 with h6
  have hn := str_inj h6
  subst hn
  rfl⟩
def codL : Cod Lbl := ⟨29, 34, csL, zLbl, fun x => by simp [csL, x.Target.2], by decide, fun x u hu => by
    have := one_bv (l := []) (m := [.string (str x.Name), .string (str x.Msg)]) (x := x.Target) (by simp) (by simp; exact ⟨rfl, rfl⟩) u (by simpa [csL] using hu)
    exact this, fun x y h => by
  obtain ⟨d, a, b⟩ := x; obtain ⟨d', a', b'⟩ := y
  obtain ⟨rfl, h5⟩ := bv_app_inj h
  simp only [List.cons.injEq, Value.string.injEq, and_true] at h5
  have h1 := str_inj h5.1
  have h2 := str_inj h5.2
  subst h1 h2
  rfl⟩
theorem str_nil : str [] = { data := #[] } := rfl
theorem ex_buildG (t : TypeId) (ρ : Operand → Value) (o : Oper) (ps : Array (Nat × Operand)) (w w' : World) (v : Value) (ho : o.op = .build t ps) (h : (Instr.build t (ps.map fun (i, x) => (i, ρ x))).run Try.prog w = .ok v w') : (execOp ρ o).run Try.prog w = .ok (.value v) w' := by
  unfold execOp
  simp only [ho, Sem.run_bind, h, Result.andThen_ok, Sem.run_pure]
theorem okS : CodOk Try.prog codS := ⟨⟨_, Try.underlying46, rfl⟩, by kernel_rfl, fun w => (zero_of_info (P := Try.prog) (t := 46) (v := .agg (codS.cs codS.z).toArray) (n := 2) (by kernel_rfl)).1 w⟩
@[simp ↓] theorem ex_ldS (ρ : Operand → Value) (d : Option Nat) (a : Operand) (t : TypeId) (p : String) (f : Array Edge) (g : Option (Nat × Bool)) (w : World) :
    (execOp ρ { dst := d, op := .load 46 a, type := t, pos := p, after := f, guard := g }).run Try.prog w = codS.ldR w (ρ a) (exElse ρ { dst := d, op := .load 46 a, type := t, pos := p, after := f, guard := g } w) := okS.ldOp ρ _ a rfl w
@[simp ↓] theorem ex_alS (ρ : Operand → Value) (d : Option Nat) (t : TypeId) (p : String) (f : Array Edge) (g : Option (Nat × Bool)) (w : World) :
    (execOp ρ { dst := d, op := .alloc 46, type := t, pos := p, after := f, guard := g }).run Try.prog w = .ok (.value (.pointer (some ⟨w.heap.size, 0, none⟩))) (w.alloc (codS.o zSt)) := okS.alOp ρ _ rfl w
@[simp ↓] theorem ex_stS (ρ : Operand → Value) (a x : Operand) (d : Option Nat) (t : TypeId) (p : String) (f : Array Edge) (g : Option (Nat × Bool)) (w : World) :
    (execOp ρ { dst := d, op := .store 46 a x, type := t, pos := p, after := f, guard := g }).run Try.prog w = codS.stR w (ρ a) (ρ x) := Cod.stOp (C := codS) ρ _ a x rfl w
@[simp] theorem bx_S (w : World) (x : St) : (Instr.box 46 (.agg (codS.A x))).run Try.prog w = .ok (.pointer (some ⟨w.heap.size, 0, none⟩)) (w.alloc (codS.o x)) := Cod.bxO (C := codS) w x
@[simp] theorem st_newS (w : World) (x y : St) : codS.stR (w.alloc (codS.o y)) (.pointer (some ⟨w.heap.size, 0, none⟩)) (.agg (codS.A x)) = .ok .skip (w.alloc (codS.o x)) := okS.stR_new w x y
theorem ex_ldS_at {ρ : Operand → Value} {o : Oper} {a : Operand} {w : World} {b off : Nat} {x : St} (ho : o.op = .load 46 a) (ha : ρ a = .pointer (some ⟨b, off, none⟩)) (hr : codS.rd w b off = some x) :
    (execOp ρ o).run Try.prog w = .ok (.value (.agg (codS.A x))) w := okS.ex_ld ho ha hr
@[simp] theorem bld0_S (w : World) : (Instr.build 46 #[]).run Try.prog w = .ok (.agg (codS.A zSt)) w := by
  rw [Cod.A_eq]
  kernel_rfl
@[simp ↓] theorem ex_b0S (ρ : Operand → Value) (d : Option Nat) (t : TypeId) (p : String) (f : Array Edge) (g : Option (Nat × Bool)) (w : World) :
    (execOp ρ { dst := d, op := .build 46 #[], type := t, pos := p, after := f, guard := g }).run Try.prog w = .ok (.value (.agg (codS.A zSt))) w := by
  refine ex_buildG 46 ρ _ #[] w w _ rfl ?_
  rw [List.map_toArray, List.map_nil]
  exact bld0_S w
theorem okH : CodOk Try.prog codH := ⟨⟨_, Try.underlying51, rfl⟩, by kernel_rfl, fun w => (zero_of_info (P := Try.prog) (t := 51) (v := .agg (codH.cs codH.z).toArray) (n := 34) (by kernel_rfl)).1 w⟩
@[simp ↓] theorem ex_ldH (ρ : Operand → Value) (d : Option Nat) (a : Operand) (t : TypeId) (p : String) (f : Array Edge) (g : Option (Nat × Bool)) (w : World) :
    (execOp ρ { dst := d, op := .load 51 a, type := t, pos := p, after := f, guard := g }).run Try.prog w = codH.ldR w (ρ a) (exElse ρ { dst := d, op := .load 51 a, type := t, pos := p, after := f, guard := g } w) := okH.ldOp ρ _ a rfl w
@[simp ↓] theorem ex_alH (ρ : Operand → Value) (d : Option Nat) (t : TypeId) (p : String) (f : Array Edge) (g : Option (Nat × Bool)) (w : World) :
    (execOp ρ { dst := d, op := .alloc 51, type := t, pos := p, after := f, guard := g }).run Try.prog w = .ok (.value (.pointer (some ⟨w.heap.size, 0, none⟩))) (w.alloc (codH.o zHd)) := okH.alOp ρ _ rfl w
@[simp ↓] theorem ex_stH (ρ : Operand → Value) (a x : Operand) (d : Option Nat) (t : TypeId) (p : String) (f : Array Edge) (g : Option (Nat × Bool)) (w : World) :
    (execOp ρ { dst := d, op := .store 51 a x, type := t, pos := p, after := f, guard := g }).run Try.prog w = codH.stR w (ρ a) (ρ x) := Cod.stOp (C := codH) ρ _ a x rfl w
@[simp] theorem bx_H (w : World) (x : Hd) : (Instr.box 51 (.agg (codH.A x))).run Try.prog w = .ok (.pointer (some ⟨w.heap.size, 0, none⟩)) (w.alloc (codH.o x)) := Cod.bxO (C := codH) w x
@[simp] theorem st_newH (w : World) (x y : Hd) : codH.stR (w.alloc (codH.o y)) (.pointer (some ⟨w.heap.size, 0, none⟩)) (.agg (codH.A x)) = .ok .skip (w.alloc (codH.o x)) := okH.stR_new w x y
theorem ex_ldH_at {ρ : Operand → Value} {o : Oper} {a : Operand} {w : World} {b off : Nat} {x : Hd} (ho : o.op = .load 51 a) (ha : ρ a = .pointer (some ⟨b, off, none⟩)) (hr : codH.rd w b off = some x) :
    (execOp ρ o).run Try.prog w = .ok (.value (.agg (codH.A x))) w := okH.ex_ld ho ha hr
@[simp] theorem bld0_H (w : World) : (Instr.build 51 #[]).run Try.prog w = .ok (.agg (codH.A zHd)) w := by
  rw [Cod.A_eq]
  kernel_rfl
@[simp ↓] theorem ex_b0H (ρ : Operand → Value) (d : Option Nat) (t : TypeId) (p : String) (f : Array Edge) (g : Option (Nat × Bool)) (w : World) :
    (execOp ρ { dst := d, op := .build 51 #[], type := t, pos := p, after := f, guard := g }).run Try.prog w = .ok (.value (.agg (codH.A zHd))) w := by
  refine ex_buildG 51 ρ _ #[] w w _ rfl ?_
  rw [List.map_toArray, List.map_nil]
  exact bld0_H w
theorem okO : CodOk Try.prog codO := ⟨⟨_, Try.underlying56, rfl⟩, by kernel_rfl, fun w => (zero_of_info (P := Try.prog) (t := 56) (v := .agg (codO.cs codO.z).toArray) (n := 41) (by kernel_rfl)).1 w⟩
@[simp ↓] theorem ex_ldO (ρ : Operand → Value) (d : Option Nat) (a : Operand) (t : TypeId) (p : String) (f : Array Edge) (g : Option (Nat × Bool)) (w : World) :
    (execOp ρ { dst := d, op := .load 56 a, type := t, pos := p, after := f, guard := g }).run Try.prog w = codO.ldR w (ρ a) (exElse ρ { dst := d, op := .load 56 a, type := t, pos := p, after := f, guard := g } w) := okO.ldOp ρ _ a rfl w
@[simp ↓] theorem ex_alO (ρ : Operand → Value) (d : Option Nat) (t : TypeId) (p : String) (f : Array Edge) (g : Option (Nat × Bool)) (w : World) :
    (execOp ρ { dst := d, op := .alloc 56, type := t, pos := p, after := f, guard := g }).run Try.prog w = .ok (.value (.pointer (some ⟨w.heap.size, 0, none⟩))) (w.alloc (codO.o zOpW)) := okO.alOp ρ _ rfl w
@[simp ↓] theorem ex_stO (ρ : Operand → Value) (a x : Operand) (d : Option Nat) (t : TypeId) (p : String) (f : Array Edge) (g : Option (Nat × Bool)) (w : World) :
    (execOp ρ { dst := d, op := .store 56 a x, type := t, pos := p, after := f, guard := g }).run Try.prog w = codO.stR w (ρ a) (ρ x) := Cod.stOp (C := codO) ρ _ a x rfl w
@[simp] theorem bx_O (w : World) (x : OpW) : (Instr.box 56 (.agg (codO.A x))).run Try.prog w = .ok (.pointer (some ⟨w.heap.size, 0, none⟩)) (w.alloc (codO.o x)) := Cod.bxO (C := codO) w x
@[simp] theorem st_newO (w : World) (x y : OpW) : codO.stR (w.alloc (codO.o y)) (.pointer (some ⟨w.heap.size, 0, none⟩)) (.agg (codO.A x)) = .ok .skip (w.alloc (codO.o x)) := okO.stR_new w x y
theorem ex_ldO_at {ρ : Operand → Value} {o : Oper} {a : Operand} {w : World} {b off : Nat} {x : OpW} (ho : o.op = .load 56 a) (ha : ρ a = .pointer (some ⟨b, off, none⟩)) (hr : codO.rd w b off = some x) :
    (execOp ρ o).run Try.prog w = .ok (.value (.agg (codO.A x))) w := okO.ex_ld ho ha hr
@[simp] theorem bld0_O (w : World) : (Instr.build 56 #[]).run Try.prog w = .ok (.agg (codO.A zOpW)) w := by
  rw [Cod.A_eq]
  kernel_rfl
@[simp ↓] theorem ex_b0O (ρ : Operand → Value) (d : Option Nat) (t : TypeId) (p : String) (f : Array Edge) (g : Option (Nat × Bool)) (w : World) :
    (execOp ρ { dst := d, op := .build 56 #[], type := t, pos := p, after := f, guard := g }).run Try.prog w = .ok (.value (.agg (codO.A zOpW))) w := by
  refine ex_buildG 56 ρ _ #[] w w _ rfl ?_
  rw [List.map_toArray, List.map_nil]
  exact bld0_O w
theorem okT : CodOk Try.prog codT := ⟨⟨_, Try.underlying49, rfl⟩, by kernel_rfl, fun w => (zero_of_info (P := Try.prog) (t := 49) (v := .agg (codT.cs codT.z).toArray) (n := 38) (by kernel_rfl)).1 w⟩
@[simp ↓] theorem ex_ldT (ρ : Operand → Value) (d : Option Nat) (a : Operand) (t : TypeId) (p : String) (f : Array Edge) (g : Option (Nat × Bool)) (w : World) :
    (execOp ρ { dst := d, op := .load 49 a, type := t, pos := p, after := f, guard := g }).run Try.prog w = codT.ldR w (ρ a) (exElse ρ { dst := d, op := .load 49 a, type := t, pos := p, after := f, guard := g } w) := okT.ldOp ρ _ a rfl w
@[simp ↓] theorem ex_alT (ρ : Operand → Value) (d : Option Nat) (t : TypeId) (p : String) (f : Array Edge) (g : Option (Nat × Bool)) (w : World) :
    (execOp ρ { dst := d, op := .alloc 49, type := t, pos := p, after := f, guard := g }).run Try.prog w = .ok (.value (.pointer (some ⟨w.heap.size, 0, none⟩))) (w.alloc (codT.o zItW)) := okT.alOp ρ _ rfl w
@[simp ↓] theorem ex_stT (ρ : Operand → Value) (a x : Operand) (d : Option Nat) (t : TypeId) (p : String) (f : Array Edge) (g : Option (Nat × Bool)) (w : World) :
    (execOp ρ { dst := d, op := .store 49 a x, type := t, pos := p, after := f, guard := g }).run Try.prog w = codT.stR w (ρ a) (ρ x) := Cod.stOp (C := codT) ρ _ a x rfl w
@[simp] theorem bx_T (w : World) (x : ItW) : (Instr.box 49 (.agg (codT.A x))).run Try.prog w = .ok (.pointer (some ⟨w.heap.size, 0, none⟩)) (w.alloc (codT.o x)) := Cod.bxO (C := codT) w x
@[simp] theorem st_newT (w : World) (x y : ItW) : codT.stR (w.alloc (codT.o y)) (.pointer (some ⟨w.heap.size, 0, none⟩)) (.agg (codT.A x)) = .ok .skip (w.alloc (codT.o x)) := okT.stR_new w x y
theorem ex_ldT_at {ρ : Operand → Value} {o : Oper} {a : Operand} {w : World} {b off : Nat} {x : ItW} (ho : o.op = .load 49 a) (ha : ρ a = .pointer (some ⟨b, off, none⟩)) (hr : codT.rd w b off = some x) :
    (execOp ρ o).run Try.prog w = .ok (.value (.agg (codT.A x))) w := okT.ex_ld ho ha hr
@[simp] theorem bld0_T (w : World) : (Instr.build 49 #[]).run Try.prog w = .ok (.agg (codT.A zItW)) w := by
  rw [Cod.A_eq]
  kernel_rfl
@[simp ↓] theorem ex_b0T (ρ : Operand → Value) (d : Option Nat) (t : TypeId) (p : String) (f : Array Edge) (g : Option (Nat × Bool)) (w : World) :
    (execOp ρ { dst := d, op := .build 49 #[], type := t, pos := p, after := f, guard := g }).run Try.prog w = .ok (.value (.agg (codT.A zItW))) w := by
  refine ex_buildG 49 ρ _ #[] w w _ rfl ?_
  rw [List.map_toArray, List.map_nil]
  exact bld0_T w
theorem okC : CodOk Try.prog codC := ⟨⟨_, Try.underlying27, rfl⟩, by kernel_rfl, fun w => (zero_of_info (P := Try.prog) (t := 27) (v := .agg (codC.cs codC.z).toArray) (n := 37) (by kernel_rfl)).1 w⟩
@[simp ↓] theorem ex_ldC (ρ : Operand → Value) (d : Option Nat) (a : Operand) (t : TypeId) (p : String) (f : Array Edge) (g : Option (Nat × Bool)) (w : World) :
    (execOp ρ { dst := d, op := .load 27 a, type := t, pos := p, after := f, guard := g }).run Try.prog w = codC.ldR w (ρ a) (exElse ρ { dst := d, op := .load 27 a, type := t, pos := p, after := f, guard := g } w) := okC.ldOp ρ _ a rfl w
@[simp ↓] theorem ex_alC (ρ : Operand → Value) (d : Option Nat) (t : TypeId) (p : String) (f : Array Edge) (g : Option (Nat × Bool)) (w : World) :
    (execOp ρ { dst := d, op := .alloc 27, type := t, pos := p, after := f, guard := g }).run Try.prog w = .ok (.value (.pointer (some ⟨w.heap.size, 0, none⟩))) (w.alloc (codC.o zCgW)) := okC.alOp ρ _ rfl w
@[simp ↓] theorem ex_stC (ρ : Operand → Value) (a x : Operand) (d : Option Nat) (t : TypeId) (p : String) (f : Array Edge) (g : Option (Nat × Bool)) (w : World) :
    (execOp ρ { dst := d, op := .store 27 a x, type := t, pos := p, after := f, guard := g }).run Try.prog w = codC.stR w (ρ a) (ρ x) := Cod.stOp (C := codC) ρ _ a x rfl w
@[simp] theorem bx_C (w : World) (x : CgW) : (Instr.box 27 (.agg (codC.A x))).run Try.prog w = .ok (.pointer (some ⟨w.heap.size, 0, none⟩)) (w.alloc (codC.o x)) := Cod.bxO (C := codC) w x
@[simp] theorem st_newC (w : World) (x y : CgW) : codC.stR (w.alloc (codC.o y)) (.pointer (some ⟨w.heap.size, 0, none⟩)) (.agg (codC.A x)) = .ok .skip (w.alloc (codC.o x)) := okC.stR_new w x y
theorem ex_ldC_at {ρ : Operand → Value} {o : Oper} {a : Operand} {w : World} {b off : Nat} {x : CgW} (ho : o.op = .load 27 a) (ha : ρ a = .pointer (some ⟨b, off, none⟩)) (hr : codC.rd w b off = some x) :
    (execOp ρ o).run Try.prog w = .ok (.value (.agg (codC.A x))) w := okC.ex_ld ho ha hr
@[simp] theorem bld0_C (w : World) : (Instr.build 27 #[]).run Try.prog w = .ok (.agg (codC.A zCgW)) w := by
  rw [Cod.A_eq]
  kernel_rfl
@[simp ↓] theorem ex_b0C (ρ : Operand → Value) (d : Option Nat) (t : TypeId) (p : String) (f : Array Edge) (g : Option (Nat × Bool)) (w : World) :
    (execOp ρ { dst := d, op := .build 27 #[], type := t, pos := p, after := f, guard := g }).run Try.prog w = .ok (.value (.agg (codC.A zCgW))) w := by
  refine ex_buildG 27 ρ _ #[] w w _ rfl ?_
  rw [List.map_toArray, List.map_nil]
  exact bld0_C w
theorem okL : CodOk Try.prog codL := ⟨⟨_, Try.underlying29, rfl⟩, by kernel_rfl, fun w => (zero_of_info (P := Try.prog) (t := 29) (v := .agg (codL.cs codL.z).toArray) (n := 34) (by kernel_rfl)).1 w⟩
@[simp ↓] theorem ex_ldL (ρ : Operand → Value) (d : Option Nat) (a : Operand) (t : TypeId) (p : String) (f : Array Edge) (g : Option (Nat × Bool)) (w : World) :
    (execOp ρ { dst := d, op := .load 29 a, type := t, pos := p, after := f, guard := g }).run Try.prog w = codL.ldR w (ρ a) (exElse ρ { dst := d, op := .load 29 a, type := t, pos := p, after := f, guard := g } w) := okL.ldOp ρ _ a rfl w
@[simp ↓] theorem ex_alL (ρ : Operand → Value) (d : Option Nat) (t : TypeId) (p : String) (f : Array Edge) (g : Option (Nat × Bool)) (w : World) :
    (execOp ρ { dst := d, op := .alloc 29, type := t, pos := p, after := f, guard := g }).run Try.prog w = .ok (.value (.pointer (some ⟨w.heap.size, 0, none⟩))) (w.alloc (codL.o zLbl)) := okL.alOp ρ _ rfl w
@[simp ↓] theorem ex_stL (ρ : Operand → Value) (a x : Operand) (d : Option Nat) (t : TypeId) (p : String) (f : Array Edge) (g : Option (Nat × Bool)) (w : World) :
    (execOp ρ { dst := d, op := .store 29 a x, type := t, pos := p, after := f, guard := g }).run Try.prog w = codL.stR w (ρ a) (ρ x) := Cod.stOp (C := codL) ρ _ a x rfl w
@[simp] theorem bx_L (w : World) (x : Lbl) : (Instr.box 29 (.agg (codL.A x))).run Try.prog w = .ok (.pointer (some ⟨w.heap.size, 0, none⟩)) (w.alloc (codL.o x)) := Cod.bxO (C := codL) w x
@[simp] theorem st_newL (w : World) (x y : Lbl) : codL.stR (w.alloc (codL.o y)) (.pointer (some ⟨w.heap.size, 0, none⟩)) (.agg (codL.A x)) = .ok .skip (w.alloc (codL.o x)) := okL.stR_new w x y
theorem ex_ldL_at {ρ : Operand → Value} {o : Oper} {a : Operand} {w : World} {b off : Nat} {x : Lbl} (ho : o.op = .load 29 a) (ha : ρ a = .pointer (some ⟨b, off, none⟩)) (hr : codL.rd w b off = some x) :
    (execOp ρ o).run Try.prog w = .ok (.value (.agg (codL.A x))) w := okL.ex_ld ho ha hr
@[simp] theorem bld0_L (w : World) : (Instr.build 29 #[]).run Try.prog w = .ok (.agg (codL.A zLbl)) w := by
  rw [Cod.A_eq]
  kernel_rfl
@[simp ↓] theorem ex_b0L (ρ : Operand → Value) (d : Option Nat) (t : TypeId) (p : String) (f : Array Edge) (g : Option (Nat × Bool)) (w : World) :
    (execOp ρ { dst := d, op := .build 29 #[], type := t, pos := p, after := f, guard := g }).run Try.prog w = .ok (.value (.agg (codL.A zLbl))) w := by
  refine ex_buildG 29 ρ _ #[] w w _ rfl ?_
  rw [List.map_toArray, List.map_nil]
  exact bld0_L w
/-- 'api.Stamp{T: a, R: b}' and its like -/
noncomputable def mkS (w : World) (v u : Value) (r : Result Next) : Result Next := match v, u with
  | .int .i64 a, .int .i64 b => .ok (.value (.agg (codS.A ⟨a, b⟩))) w
  | _, _ => r
@[simp] theorem mkS_at (w : World) (a b : Int) (r : Result Next) : mkS w (.int .i64 a) (.int .i64 b) r = .ok (.value (.agg (codS.A ⟨a, b⟩))) w := rfl
noncomputable def mkS1 (f : Int → St) (w : World) (v : Value) (r : Result Next) : Result Next := match v with
  | .int .i64 a => .ok (.value (.agg (codS.A (f a)))) w
  | _ => r
@[simp] theorem mkS1_at (f : Int → St) (w : World) (a : Int) (r : Result Next) : mkS1 f w (.int .i64 a) r = .ok (.value (.agg (codS.A (f a)))) w := rfl
theorem bldS2 (w : World) (a b : Int) : (Instr.build 46 #[(0, .int .i64 a), (1, .int .i64 b)]).run Try.prog w = .ok (.agg (codS.A ⟨a, b⟩)) w := by
  rw [Cod.A_eq]; go_simp; rfl
theorem bldS_T (w : World) (a : Int) : (Instr.build 46 #[(0, .int .i64 a)]).run Try.prog w = .ok (.agg (codS.A ⟨a, 0⟩)) w := by
  rw [Cod.A_eq]; go_simp; rfl
theorem bldS_R (w : World) (b : Int) : (Instr.build 46 #[(1, .int .i64 b)]).run Try.prog w = .ok (.agg (codS.A ⟨0, b⟩)) w := by
  rw [Cod.A_eq]; go_simp; rfl
@[simp ↓] theorem ex_bldS2 (ρ : Operand → Value) (x y : Operand) (d : Option Nat) (t : TypeId) (p : String) (f : Array Edge) (g : Option (Nat × Bool)) (w : World) :
    (execOp ρ { dst := d, op := .build 46 #[(0, x), (1, y)], type := t, pos := p, after := f, guard := g }).run Try.prog w = mkS w (ρ x) (ρ y) (exElse ρ { dst := d, op := .build 46 #[(0, x), (1, y)], type := t, pos := p, after := f, guard := g } w) := by
  have he : ∀ o, exElse ρ o w = (execOp ρ o).run Try.prog w := by intro o; unfold exElse; rfl
  rw [he]
  unfold mkS
  split
  · rename_i a b hv hu
    refine ex_buildG 46 ρ _ #[(0, x), (1, y)] w w _ rfl ?_
    have := bldS2 w a b
    simpa [hv, hu] using this
  · rfl
@[simp ↓] theorem ex_bldS_T (ρ : Operand → Value) (x : Operand) (d : Option Nat) (t : TypeId) (p : String) (f : Array Edge) (g : Option (Nat × Bool)) (w : World) :
    (execOp ρ { dst := d, op := .build 46 #[(0, x)], type := t, pos := p, after := f, guard := g }).run Try.prog w = mkS1 (fun a => ⟨a, 0⟩) w (ρ x) (exElse ρ { dst := d, op := .build 46 #[(0, x)], type := t, pos := p, after := f, guard := g } w) := by
  have he : ∀ o, exElse ρ o w = (execOp ρ o).run Try.prog w := by intro o; unfold exElse; rfl
  rw [he]
  unfold mkS1
  split
  · rename_i a hv
    refine ex_buildG 46 ρ _ #[(0, x)] w w _ rfl ?_
    have := bldS_T w a
    simpa [hv] using this
  · rfl
@[simp ↓] theorem ex_bldS_R (ρ : Operand → Value) (y : Operand) (d : Option Nat) (t : TypeId) (p : String) (f : Array Edge) (g : Option (Nat × Bool)) (w : World) :
    (execOp ρ { dst := d, op := .build 46 #[(1, y)], type := t, pos := p, after := f, guard := g }).run Try.prog w = mkS1 (fun b => ⟨0, b⟩) w (ρ y) (exElse ρ { dst := d, op := .build 46 #[(1, y)], type := t, pos := p, after := f, guard := g } w) := by
  have he : ∀ o, exElse ρ o w = (execOp ρ o).run Try.prog w := by intro o; unfold exElse; rfl
  rw [he]
  unfold mkS1
  split
  · rename_i b hu
    refine ex_buildG 46 ρ _ #[(1, y)] w w _ rfl ?_
    have := bldS_R w b
    simpa [hu] using this
  · rfl
/-! rows -/
theorem etS : ET Try.prog 54 codS.t codS.n 16 := ET.mk' (z := .agg (codS.cs codS.z).toArray) Try.underlying54 (by kernel_rfl) (by simp only [Value.cells]; kernel_rfl) (by decide) (by decide)
theorem bs_S (w : World) (x : St) : (Instr.buildSlice 54 1 #[(0, .agg (codS.A x))]).run Try.prog w = .ok (.slice (some ⟨w.heap.size, 0, none⟩) 1 1) (w.alloc (codS.ro [x])) := okS.bs1 54 Try.underlying54 Try.sizeOf46 (by decide) w x
@[simp ↓] theorem ex_bsS (ρ : Operand → Value) (a : Operand) (d : Option Nat) (t : TypeId) (p : String) (f : Array Edge) (g : Option (Nat × Bool)) (w : World) :
    (execOp ρ { dst := d, op := .buildSlice 54 1 #[(0, a)], type := t, pos := p, after := f, guard := g }).run Try.prog w = bsR 54 w (ρ a) := bsOp 54 ρ _ a rfl w
@[simp] theorem bsR_S (w : World) (x : St) : bsR 54 w (.agg (codS.A x)) = .ok (.value (.slice (some ⟨w.heap.size, 0, none⟩) 1 1)) (w.alloc (codS.ro [x])) := by
  unfold bsR; rw [bs_S]; rfl
theorem ex_bsS_at {ρ : Operand → Value} {o : Oper} {a : Operand} {w : World} {x : St} (ho : o.op = .buildSlice 54 1 #[(0, a)]) (ha : ρ a = .agg (codS.A x)) :
    (execOp ρ o).run Try.prog w = .ok (.value (.slice (some ⟨w.heap.size, 0, none⟩) 1 1)) (w.alloc (codS.ro [x])) := by
  rw [bsOp 54 ρ o a ho w, ha, bsR_S]
theorem etH : ET Try.prog 47 codH.t codH.n 48 := ET.mk' (z := .agg (codH.cs codH.z).toArray) Try.underlying47 (by kernel_rfl) (by simp only [Value.cells]; kernel_rfl) (by decide) (by decide)
theorem bs_H (w : World) (x : Hd) : (Instr.buildSlice 47 1 #[(0, .agg (codH.A x))]).run Try.prog w = .ok (.slice (some ⟨w.heap.size, 0, none⟩) 1 1) (w.alloc (codH.ro [x])) := okH.bs1 47 Try.underlying47 Try.sizeOf51 (by decide) w x
@[simp ↓] theorem ex_bsH (ρ : Operand → Value) (a : Operand) (d : Option Nat) (t : TypeId) (p : String) (f : Array Edge) (g : Option (Nat × Bool)) (w : World) :
    (execOp ρ { dst := d, op := .buildSlice 47 1 #[(0, a)], type := t, pos := p, after := f, guard := g }).run Try.prog w = bsR 47 w (ρ a) := bsOp 47 ρ _ a rfl w
@[simp] theorem bsR_H (w : World) (x : Hd) : bsR 47 w (.agg (codH.A x)) = .ok (.value (.slice (some ⟨w.heap.size, 0, none⟩) 1 1)) (w.alloc (codH.ro [x])) := by
  unfold bsR; rw [bs_H]; rfl
theorem ex_bsH_at {ρ : Operand → Value} {o : Oper} {a : Operand} {w : World} {x : Hd} (ho : o.op = .buildSlice 47 1 #[(0, a)]) (ha : ρ a = .agg (codH.A x)) :
    (execOp ρ o).run Try.prog w = .ok (.value (.slice (some ⟨w.heap.size, 0, none⟩) 1 1)) (w.alloc (codH.ro [x])) := by
  rw [bsOp 47 ρ o a ho w, ha, bsR_H]
theorem etO : ET Try.prog 23 codO.t codO.n 128 := ET.mk' (z := .agg (codO.cs codO.z).toArray) Try.underlying23 (by kernel_rfl) (by simp only [Value.cells]; kernel_rfl) (by decide) (by decide)
theorem bs_O (w : World) (x : OpW) : (Instr.buildSlice 23 1 #[(0, .agg (codO.A x))]).run Try.prog w = .ok (.slice (some ⟨w.heap.size, 0, none⟩) 1 1) (w.alloc (codO.ro [x])) := okO.bs1 23 Try.underlying23 Try.sizeOf56 (by decide) w x
@[simp ↓] theorem ex_bsO (ρ : Operand → Value) (a : Operand) (d : Option Nat) (t : TypeId) (p : String) (f : Array Edge) (g : Option (Nat × Bool)) (w : World) :
    (execOp ρ { dst := d, op := .buildSlice 23 1 #[(0, a)], type := t, pos := p, after := f, guard := g }).run Try.prog w = bsR 23 w (ρ a) := bsOp 23 ρ _ a rfl w
@[simp] theorem bsR_O (w : World) (x : OpW) : bsR 23 w (.agg (codO.A x)) = .ok (.value (.slice (some ⟨w.heap.size, 0, none⟩) 1 1)) (w.alloc (codO.ro [x])) := by
  unfold bsR; rw [bs_O]; rfl
theorem ex_bsO_at {ρ : Operand → Value} {o : Oper} {a : Operand} {w : World} {x : OpW} (ho : o.op = .buildSlice 23 1 #[(0, a)]) (ha : ρ a = .agg (codO.A x)) :
    (execOp ρ o).run Try.prog w = .ok (.value (.slice (some ⟨w.heap.size, 0, none⟩) 1 1)) (w.alloc (codO.ro [x])) := by
  rw [bsOp 23 ρ o a ho w, ha, bsR_O]
theorem etT : ET Try.prog 39 codT.t codT.n 104 := ET.mk' (z := .agg (codT.cs codT.z).toArray) Try.underlying39 (by kernel_rfl) (by simp only [Value.cells]; kernel_rfl) (by decide) (by decide)
theorem bs_T (w : World) (x : ItW) : (Instr.buildSlice 39 1 #[(0, .agg (codT.A x))]).run Try.prog w = .ok (.slice (some ⟨w.heap.size, 0, none⟩) 1 1) (w.alloc (codT.ro [x])) := okT.bs1 39 Try.underlying39 Try.sizeOf49 (by decide) w x
@[simp ↓] theorem ex_bsT (ρ : Operand → Value) (a : Operand) (d : Option Nat) (t : TypeId) (p : String) (f : Array Edge) (g : Option (Nat × Bool)) (w : World) :
    (execOp ρ { dst := d, op := .buildSlice 39 1 #[(0, a)], type := t, pos := p, after := f, guard := g }).run Try.prog w = bsR 39 w (ρ a) := bsOp 39 ρ _ a rfl w
@[simp] theorem bsR_T (w : World) (x : ItW) : bsR 39 w (.agg (codT.A x)) = .ok (.value (.slice (some ⟨w.heap.size, 0, none⟩) 1 1)) (w.alloc (codT.ro [x])) := by
  unfold bsR; rw [bs_T]; rfl
theorem ex_bsT_at {ρ : Operand → Value} {o : Oper} {a : Operand} {w : World} {x : ItW} (ho : o.op = .buildSlice 39 1 #[(0, a)]) (ha : ρ a = .agg (codT.A x)) :
    (execOp ρ o).run Try.prog w = .ok (.value (.slice (some ⟨w.heap.size, 0, none⟩) 1 1)) (w.alloc (codT.ro [x])) := by
  rw [bsOp 39 ρ o a ho w, ha, bsR_T]
end Go.Proofs.Ytejkfekpgbmdiaa
