/- Stamps, heads, operations, items, commits and tags as values; the rules of the walk for them. -/
import Derived.Test.YtejkfekpgbmdiaaGreatCodB
import Derived.Test.YtejkfekpgbmdiaaGreatStW
namespace Go.Proofs.YtejkfekpgbmdiaaGreat
open Go.RowKit
set_option linter.unusedVariables false
set_option linter.unusedSimpArgs false

theorem str_inj {l m : List UInt8} (h : str l = str m) : l = m := by
  have := congrArg ByteArray.data h
  simpa [str] using this
theorem bv_app_inj {x y : ID} {l m : List Value} (h : bv x.1 ++ l = bv y.1 ++ m) : x = y ∧ l = m := by
  have hl : (bv x.1).length = (bv y.1).length := by rw [bv_length, bv_length, x.2, y.2]
  obtain ⟨h1, h2⟩ := List.append_inj h hl
  exact ⟨Subtype.ext (bv_inj h1), h2⟩

/-- an operation as it lies in memory -/
structure OpW where
  Kind : Int
  At : St
  Node : St
  Parent : St
  Name : List UInt8
  Data : ID
  A : Option Addr
  n : Nat
  c : Nat
structure ItW where
  Node : St
  At : St
  Name : List UInt8
  Sub : ID
  A : Option Addr
  n : Nat
  c : Nat
structure CgW where
  PA : Option Addr
  pn : Nat
  pc : Nat
  Time : Int
  R : Int
  OA : Option Addr
  on : Nat
  oc : Nat
  Tree : ID
  Msg : List UInt8

def csS (s : St) : List Value := [.int .i64 s.T, .int .i64 s.R]
def csH (h : Hd) : List Value := .int .i64 h.At.T :: .int .i64 h.At.R :: bv h.Data.1
def csO (r : OpW) : List Value := .int .i64 r.Kind :: .int .i64 r.At.T :: .int .i64 r.At.R :: .int .i64 r.Node.T :: .int .i64 r.Node.R :: .int .i64 r.Parent.T :: .int .i64 r.Parent.R :: .string (str r.Name) :: (bv r.Data.1 ++ [.slice r.A r.n r.c])
def csT (r : ItW) : List Value := .int .i64 r.Node.T :: .int .i64 r.Node.R :: .int .i64 r.At.T :: .int .i64 r.At.R :: .string (str r.Name) :: (bv r.Sub.1 ++ [.slice r.A r.n r.c])
def csC (r : CgW) : List Value := .slice r.PA r.pn r.pc :: .int .i64 r.Time :: .int .i64 r.R :: .slice r.OA r.on r.oc :: (bv r.Tree.1 ++ [.string (str r.Msg)])
def csL (r : Lbl) : List Value := bv r.Target.1 ++ [.string (str r.Name), .string (str r.Msg)]
def zHd : Hd := ⟨zSt, zID⟩
def zOpW : OpW := ⟨0, zSt, zSt, zSt, [], zID, none, 0, 0⟩
def zItW : ItW := ⟨zSt, zSt, [], zID, none, 0, 0⟩
def zCgW : CgW := ⟨none, 0, 0, 0, 0, none, 0, 0, zID, []⟩
def zLbl : Lbl := ⟨zID, [], []⟩

theorem one_bv {l m : List Value} {x : ID} (hl : ∀ u ∈ l, u.oneCell' = true) (hm : ∀ u ∈ m, u.oneCell' = true) : ∀ u ∈ l ++ (bv x.1 ++ m), u.oneCell' = true := by
  intro u hu
  rcases List.mem_append.1 hu with h | h
  · exact hl u h
  · rcases List.mem_append.1 h with h | h
    · exact bv_one _ u h
    · exact hm u h
def codS : Cod St := ⟨69, 2, csS, zSt, fun _ => rfl, by decide, fun x u hu => by simp [csS] at hu; rcases hu with rfl | rfl <;> rfl, fun x y h => by
  obtain ⟨a, b⟩ := x; obtain ⟨c, d⟩ := y; simp [csS] at h; obtain ⟨rfl, rfl⟩ := h; rfl⟩
def codH : Cod Hd := ⟨84, 34, csH, zHd, fun x => by simp [csH, x.Data.2], by decide, fun x u hu => by
    have := one_bv (l := [.int .i64 x.At.T, .int .i64 x.At.R]) (m := []) (x := x.Data) (by simp; exact ⟨rfl, rfl⟩) (by simp) u (by simpa [csH] using hu)
    exact this, fun x y h => by
  obtain ⟨⟨a, b⟩, d⟩ := x; obtain ⟨⟨a', b'⟩, d'⟩ := y
  simp only [csH, List.cons.injEq, Value.int.injEq, true_and] at h
  obtain ⟨rfl, rfl, h⟩ := h
  obtain ⟨rfl, _⟩ := bv_app_inj (x := d) (y := d') (l := []) (m := []) (by rw [List.append_nil, List.append_nil]; exact h)
  rfl⟩
def codO : Cod OpW := ⟨72, 41, csO, zOpW, fun x => by simp [csO, x.Data.2], by decide, fun x u hu => by
    have := one_bv (l := [.int .i64 x.Kind, .int .i64 x.At.T, .int .i64 x.At.R, .int .i64 x.Node.T, .int .i64 x.Node.R, .int .i64 x.Parent.T, .int .i64 x.Parent.R, .string (str x.Name)]) (m := [.slice x.A x.n x.c]) (x := x.Data) (by simp; exact ⟨rfl, rfl, rfl, rfl, rfl, rfl, rfl, rfl⟩) (by simp; rfl) u (by simpa [csO] using hu)
    exact this, fun x y h => by
  obtain ⟨k, ⟨a, b⟩, ⟨a2, b2⟩, ⟨a3, b3⟩, nm, d, A, n, c⟩ := x; obtain ⟨k', ⟨a', b'⟩, ⟨a2', b2'⟩, ⟨a3', b3'⟩, nm', d', A', n', c'⟩ := y
  simp only [csO] at h; simp only [List.cons.injEq, Value.int.injEq, Value.string.injEq, true_and] at h
  obtain ⟨rfl, rfl, rfl, rfl, rfl, rfl, rfl, hn, h⟩ := h
  obtain ⟨rfl, h5⟩ := bv_app_inj h
  have hn := str_inj hn
  subst hn
  injection h5 with h6 _
  injection h6 with h1 h2 h3
  subst h1 h2 h3
  rfl⟩
def codT : Cod ItW := ⟨77, 38, csT, zItW, fun x => by simp [csT, x.Sub.2], by decide, fun x u hu => by
    have := one_bv (l := [.int .i64 x.Node.T, .int .i64 x.Node.R, .int .i64 x.At.T, .int .i64 x.At.R, .string (str x.Name)]) (m := [.slice x.A x.n x.c]) (x := x.Sub) (by simp; exact ⟨rfl, rfl, rfl, rfl, rfl⟩) (by simp; rfl) u (by simpa [csT] using hu)
    exact this, fun x y h => by
  obtain ⟨⟨a, b⟩, ⟨a2, b2⟩, nm, d, A, n, c⟩ := x; obtain ⟨⟨a', b'⟩, ⟨a2', b2'⟩, nm', d', A', n', c'⟩ := y
  simp only [csT] at h; simp only [List.cons.injEq, Value.int.injEq, Value.string.injEq, true_and] at h
  obtain ⟨rfl, rfl, rfl, rfl, hn, h⟩ := h
  obtain ⟨rfl, h5⟩ := bv_app_inj h
  have hn := str_inj hn
  subst hn
  injection h5 with h6 _
  injection h6 with h1 h2 h3
  subst h1 h2 h3
  rfl⟩
def codC : Cod CgW := ⟨47, 37, csC, zCgW, fun x => by simp [csC, x.Tree.2], by decide, fun x u hu => by
    have := one_bv (l := [.slice x.PA x.pn x.pc, .int .i64 x.Time, .int .i64 x.R, .slice x.OA x.on x.oc]) (m := [.string (str x.Msg)]) (x := x.Tree) (by simp; exact ⟨rfl, rfl, rfl, rfl⟩) (by simp; rfl) u (by simpa [csC] using hu)
    exact this, fun x y h => by
  obtain ⟨A, n, c, a, b, A2, n2, c2, d, m⟩ := x; obtain ⟨A', n', c', a', b', A2', n2', c2', d', m'⟩ := y
  simp only [csC] at h; simp only [List.cons.injEq, Value.int.injEq, Value.slice.injEq, true_and] at h
  obtain ⟨⟨rfl, rfl, rfl⟩, rfl, rfl, ⟨rfl, rfl, rfl⟩, h⟩ := h
  obtain ⟨rfl, h5⟩ := bv_app_inj h
  injection h5 with h6 _
  injection h6 with h6
  have hn := str_inj h6
  subst hn
  rfl⟩
def codL : Cod Lbl := ⟨55, 34, csL, zLbl, fun x => by simp [csL, x.Target.2], by decide, fun x u hu => by
    have := one_bv (l := []) (m := [.string (str x.Name), .string (str x.Msg)]) (x := x.Target) (by simp) (by simp; exact ⟨rfl, rfl⟩) u (by simpa [csL] using hu)
    exact this, fun x y h => by
  obtain ⟨d, a, b⟩ := x; obtain ⟨d', a', b'⟩ := y
  obtain ⟨rfl, h5⟩ := bv_app_inj h
  simp only [List.cons.injEq, Value.string.injEq, and_true] at h5
  have h1 := str_inj h5.1
  have h2 := str_inj h5.2
  subst h1 h2
  rfl⟩
theorem str_nil : str [] = { data := #[] } := rfl
theorem ex_buildG (t : TypeId) (ρ : Operand → Value) (o : Oper) (ps : Array (Nat × Operand)) (w w' : World) (v : Value) (ho : o.op = .build t ps) (h : (Instr.build t (ps.map fun (i, x) => (i, ρ x))).run Tryz.prog w = .ok v w') : (execOp ρ o).run Tryz.prog w = .ok (.value v) w' := by
  unfold execOp
  simp only [ho, Sem.run_bind, h, Result.andThen_ok, Sem.run_pure]
theorem okS : CodOk Tryz.prog codS := ⟨⟨_, Tryz.underlying69, rfl⟩, by kernel_rfl, fun w => (zero_of_info (P := Tryz.prog) (t := 69) (v := .agg (codS.cs codS.z).toArray) (n := 2) (by kernel_rfl)).1 w⟩
@[simp ↓] theorem ex_ldS (ρ : Operand → Value) (d : Option Nat) (a : Operand) (t : TypeId) (p : String) (f : Array Edge) (g : Option (Nat × Bool)) (w : World) :
    (execOp ρ { dst := d, op := .load 69 a, type := t, pos := p, after := f, guard := g }).run Tryz.prog w = codS.ldR w (ρ a) (exElse ρ { dst := d, op := .load 69 a, type := t, pos := p, after := f, guard := g } w) := okS.ldOp ρ _ a rfl w
@[simp ↓] theorem ex_alS (ρ : Operand → Value) (d : Option Nat) (t : TypeId) (p : String) (f : Array Edge) (g : Option (Nat × Bool)) (w : World) :
    (execOp ρ { dst := d, op := .alloc 69, type := t, pos := p, after := f, guard := g }).run Tryz.prog w = .ok (.value (.pointer (some ⟨w.heap.size, 0, none⟩))) (w.alloc (codS.o zSt)) := okS.alOp ρ _ rfl w
@[simp ↓] theorem ex_stS (ρ : Operand → Value) (a x : Operand) (d : Option Nat) (t : TypeId) (p : String) (f : Array Edge) (g : Option (Nat × Bool)) (w : World) :
    (execOp ρ { dst := d, op := .store 69 a x, type := t, pos := p, after := f, guard := g }).run Tryz.prog w = codS.stR w (ρ a) (ρ x) := Cod.stOp (C := codS) ρ _ a x rfl w
@[simp] theorem bx_S (w : World) (x : St) : (Instr.box 69 (.agg (codS.A x))).run Tryz.prog w = .ok (.pointer (some ⟨w.heap.size, 0, none⟩)) (w.alloc (codS.o x)) := Cod.bxO (C := codS) w x
@[simp] theorem st_newS (w : World) (x y : St) : codS.stR (w.alloc (codS.o y)) (.pointer (some ⟨w.heap.size, 0, none⟩)) (.agg (codS.A x)) = .ok .skip (w.alloc (codS.o x)) := okS.stR_new w x y
theorem ex_ldS_at {ρ : Operand → Value} {o : Oper} {a : Operand} {w : World} {b off : Nat} {x : St} (ho : o.op = .load 69 a) (ha : ρ a = .pointer (some ⟨b, off, none⟩)) (hr : codS.rd w b off = some x) :
    (execOp ρ o).run Tryz.prog w = .ok (.value (.agg (codS.A x))) w := okS.ex_ld ho ha hr
@[simp] theorem bld0_S (w : World) : (Instr.build 69 #[]).run Tryz.prog w = .ok (.agg (codS.A zSt)) w := by
  rw [Cod.A_eq]
  kernel_rfl
@[simp ↓] theorem ex_b0S (ρ : Operand → Value) (d : Option Nat) (t : TypeId) (p : String) (f : Array Edge) (g : Option (Nat × Bool)) (w : World) :
    (execOp ρ { dst := d, op := .build 69 #[], type := t, pos := p, after := f, guard := g }).run Tryz.prog w = .ok (.value (.agg (codS.A zSt))) w := by
  refine ex_buildG 69 ρ _ #[] w w _ rfl ?_
  rw [List.map_toArray, List.map_nil]
  exact bld0_S w
theorem okH : CodOk Tryz.prog codH := ⟨⟨_, Tryz.underlying84, rfl⟩, by kernel_rfl, fun w => (zero_of_info (P := Tryz.prog) (t := 84) (v := .agg (codH.cs codH.z).toArray) (n := 34) (by kernel_rfl)).1 w⟩
@[simp ↓] theorem ex_ldH (ρ : Operand → Value) (d : Option Nat) (a : Operand) (t : TypeId) (p : String) (f : Array Edge) (g : Option (Nat × Bool)) (w : World) :
    (execOp ρ { dst := d, op := .load 84 a, type := t, pos := p, after := f, guard := g }).run Tryz.prog w = codH.ldR w (ρ a) (exElse ρ { dst := d, op := .load 84 a, type := t, pos := p, after := f, guard := g } w) := okH.ldOp ρ _ a rfl w
@[simp ↓] theorem ex_alH (ρ : Operand → Value) (d : Option Nat) (t : TypeId) (p : String) (f : Array Edge) (g : Option (Nat × Bool)) (w : World) :
    (execOp ρ { dst := d, op := .alloc 84, type := t, pos := p, after := f, guard := g }).run Tryz.prog w = .ok (.value (.pointer (some ⟨w.heap.size, 0, none⟩))) (w.alloc (codH.o zHd)) := okH.alOp ρ _ rfl w
@[simp ↓] theorem ex_stH (ρ : Operand → Value) (a x : Operand) (d : Option Nat) (t : TypeId) (p : String) (f : Array Edge) (g : Option (Nat × Bool)) (w : World) :
    (execOp ρ { dst := d, op := .store 84 a x, type := t, pos := p, after := f, guard := g }).run Tryz.prog w = codH.stR w (ρ a) (ρ x) := Cod.stOp (C := codH) ρ _ a x rfl w
@[simp] theorem bx_H (w : World) (x : Hd) : (Instr.box 84 (.agg (codH.A x))).run Tryz.prog w = .ok (.pointer (some ⟨w.heap.size, 0, none⟩)) (w.alloc (codH.o x)) := Cod.bxO (C := codH) w x
@[simp] theorem st_newH (w : World) (x y : Hd) : codH.stR (w.alloc (codH.o y)) (.pointer (some ⟨w.heap.size, 0, none⟩)) (.agg (codH.A x)) = .ok .skip (w.alloc (codH.o x)) := okH.stR_new w x y
theorem ex_ldH_at {ρ : Operand → Value} {o : Oper} {a : Operand} {w : World} {b off : Nat} {x : Hd} (ho : o.op = .load 84 a) (ha : ρ a = .pointer (some ⟨b, off, none⟩)) (hr : codH.rd w b off = some x) :
    (execOp ρ o).run Tryz.prog w = .ok (.value (.agg (codH.A x))) w := okH.ex_ld ho ha hr
@[simp] theorem bld0_H (w : World) : (Instr.build 84 #[]).run Tryz.prog w = .ok (.agg (codH.A zHd)) w := by
  rw [Cod.A_eq]
  kernel_rfl
@[simp ↓] theorem ex_b0H (ρ : Operand → Value) (d : Option Nat) (t : TypeId) (p : String) (f : Array Edge) (g : Option (Nat × Bool)) (w : World) :
    (execOp ρ { dst := d, op := .build 84 #[], type := t, pos := p, after := f, guard := g }).run Tryz.prog w = .ok (.value (.agg (codH.A zHd))) w := by
  refine ex_buildG 84 ρ _ #[] w w _ rfl ?_
  rw [List.map_toArray, List.map_nil]
  exact bld0_H w
theorem okO : CodOk Tryz.prog codO := ⟨⟨_, Tryz.underlying72, rfl⟩, by kernel_rfl, fun w => (zero_of_info (P := Tryz.prog) (t := 72) (v := .agg (codO.cs codO.z).toArray) (n := 41) (by kernel_rfl)).1 w⟩
@[simp ↓] theorem ex_ldO (ρ : Operand → Value) (d : Option Nat) (a : Operand) (t : TypeId) (p : String) (f : Array Edge) (g : Option (Nat × Bool)) (w : World) :
    (execOp ρ { dst := d, op := .load 72 a, type := t, pos := p, after := f, guard := g }).run Tryz.prog w = codO.ldR w (ρ a) (exElse ρ { dst := d, op := .load 72 a, type := t, pos := p, after := f, guard := g } w) := okO.ldOp ρ _ a rfl w
@[simp ↓] theorem ex_alO (ρ : Operand → Value) (d : Option Nat) (t : TypeId) (p : String) (f : Array Edge) (g : Option (Nat × Bool)) (w : World) :
    (execOp ρ { dst := d, op := .alloc 72, type := t, pos := p, after := f, guard := g }).run Tryz.prog w = .ok (.value (.pointer (some ⟨w.heap.size, 0, none⟩))) (w.alloc (codO.o zOpW)) := okO.alOp ρ _ rfl w
@[simp ↓] theorem ex_stO (ρ : Operand → Value) (a x : Operand) (d : Option Nat) (t : TypeId) (p : String) (f : Array Edge) (g : Option (Nat × Bool)) (w : World) :
    (execOp ρ { dst := d, op := .store 72 a x, type := t, pos := p, after := f, guard := g }).run Tryz.prog w = codO.stR w (ρ a) (ρ x) := Cod.stOp (C := codO) ρ _ a x rfl w
@[simp] theorem bx_O (w : World) (x : OpW) : (Instr.box 72 (.agg (codO.A x))).run Tryz.prog w = .ok (.pointer (some ⟨w.heap.size, 0, none⟩)) (w.alloc (codO.o x)) := Cod.bxO (C := codO) w x
@[simp] theorem st_newO (w : World) (x y : OpW) : codO.stR (w.alloc (codO.o y)) (.pointer (some ⟨w.heap.size, 0, none⟩)) (.agg (codO.A x)) = .ok .skip (w.alloc (codO.o x)) := okO.stR_new w x y
theorem ex_ldO_at {ρ : Operand → Value} {o : Oper} {a : Operand} {w : World} {b off : Nat} {x : OpW} (ho : o.op = .load 72 a) (ha : ρ a = .pointer (some ⟨b, off, none⟩)) (hr : codO.rd w b off = some x) :
    (execOp ρ o).run Tryz.prog w = .ok (.value (.agg (codO.A x))) w := okO.ex_ld ho ha hr
@[simp] theorem bld0_O (w : World) : (Instr.build 72 #[]).run Tryz.prog w = .ok (.agg (codO.A zOpW)) w := by
  rw [Cod.A_eq]
  kernel_rfl
@[simp ↓] theorem ex_b0O (ρ : Operand → Value) (d : Option Nat) (t : TypeId) (p : String) (f : Array Edge) (g : Option (Nat × Bool)) (w : World) :
    (execOp ρ { dst := d, op := .build 72 #[], type := t, pos := p, after := f, guard := g }).run Tryz.prog w = .ok (.value (.agg (codO.A zOpW))) w := by
  refine ex_buildG 72 ρ _ #[] w w _ rfl ?_
  rw [List.map_toArray, List.map_nil]
  exact bld0_O w
theorem okT : CodOk Tryz.prog codT := ⟨⟨_, Tryz.underlying77, rfl⟩, by kernel_rfl, fun w => (zero_of_info (P := Tryz.prog) (t := 77) (v := .agg (codT.cs codT.z).toArray) (n := 38) (by kernel_rfl)).1 w⟩
@[simp ↓] theorem ex_ldT (ρ : Operand → Value) (d : Option Nat) (a : Operand) (t : TypeId) (p : String) (f : Array Edge) (g : Option (Nat × Bool)) (w : World) :
    (execOp ρ { dst := d, op := .load 77 a, type := t, pos := p, after := f, guard := g }).run Tryz.prog w = codT.ldR w (ρ a) (exElse ρ { dst := d, op := .load 77 a, type := t, pos := p, after := f, guard := g } w) := okT.ldOp ρ _ a rfl w
@[simp ↓] theorem ex_alT (ρ : Operand → Value) (d : Option Nat) (t : TypeId) (p : String) (f : Array Edge) (g : Option (Nat × Bool)) (w : World) :
    (execOp ρ { dst := d, op := .alloc 77, type := t, pos := p, after := f, guard := g }).run Tryz.prog w = .ok (.value (.pointer (some ⟨w.heap.size, 0, none⟩))) (w.alloc (codT.o zItW)) := okT.alOp ρ _ rfl w
@[simp ↓] theorem ex_stT (ρ : Operand → Value) (a x : Operand) (d : Option Nat) (t : TypeId) (p : String) (f : Array Edge) (g : Option (Nat × Bool)) (w : World) :
    (execOp ρ { dst := d, op := .store 77 a x, type := t, pos := p, after := f, guard := g }).run Tryz.prog w = codT.stR w (ρ a) (ρ x) := Cod.stOp (C := codT) ρ _ a x rfl w
@[simp] theorem bx_T (w : World) (x : ItW) : (Instr.box 77 (.agg (codT.A x))).run Tryz.prog w = .ok (.pointer (some ⟨w.heap.size, 0, none⟩)) (w.alloc (codT.o x)) := Cod.bxO (C := codT) w x
@[simp] theorem st_newT (w : World) (x y : ItW) : codT.stR (w.alloc (codT.o y)) (.pointer (some ⟨w.heap.size, 0, none⟩)) (.agg (codT.A x)) = .ok .skip (w.alloc (codT.o x)) := okT.stR_new w x y
theorem ex_ldT_at {ρ : Operand → Value} {o : Oper} {a : Operand} {w : World} {b off : Nat} {x : ItW} (ho : o.op = .load 77 a) (ha : ρ a = .pointer (some ⟨b, off, none⟩)) (hr : codT.rd w b off = some x) :
    (execOp ρ o).run Tryz.prog w = .ok (.value (.agg (codT.A x))) w := okT.ex_ld ho ha hr
@[simp] theorem bld0_T (w : World) : (Instr.build 77 #[]).run Tryz.prog w = .ok (.agg (codT.A zItW)) w := by
  rw [Cod.A_eq]
  kernel_rfl
@[simp ↓] theorem ex_b0T (ρ : Operand → Value) (d : Option Nat) (t : TypeId) (p : String) (f : Array Edge) (g : Option (Nat × Bool)) (w : World) :
    (execOp ρ { dst := d, op := .build 77 #[], type := t, pos := p, after := f, guard := g }).run Tryz.prog w = .ok (.value (.agg (codT.A zItW))) w := by
  refine ex_buildG 77 ρ _ #[] w w _ rfl ?_
  rw [List.map_toArray, List.map_nil]
  exact bld0_T w
theorem okC : CodOk Tryz.prog codC := ⟨⟨_, Tryz.underlying47, rfl⟩, by kernel_rfl, fun w => (zero_of_info (P := Tryz.prog) (t := 47) (v := .agg (codC.cs codC.z).toArray) (n := 37) (by kernel_rfl)).1 w⟩
@[simp ↓] theorem ex_ldC (ρ : Operand → Value) (d : Option Nat) (a : Operand) (t : TypeId) (p : String) (f : Array Edge) (g : Option (Nat × Bool)) (w : World) :
    (execOp ρ { dst := d, op := .load 47 a, type := t, pos := p, after := f, guard := g }).run Tryz.prog w = codC.ldR w (ρ a) (exElse ρ { dst := d, op := .load 47 a, type := t, pos := p, after := f, guard := g } w) := okC.ldOp ρ _ a rfl w
@[simp ↓] theorem ex_alC (ρ : Operand → Value) (d : Option Nat) (t : TypeId) (p : String) (f : Array Edge) (g : Option (Nat × Bool)) (w : World) :
    (execOp ρ { dst := d, op := .alloc 47, type := t, pos := p, after := f, guard := g }).run Tryz.prog w = .ok (.value (.pointer (some ⟨w.heap.size, 0, none⟩))) (w.alloc (codC.o zCgW)) := okC.alOp ρ _ rfl w
@[simp ↓] theorem ex_stC (ρ : Operand → Value) (a x : Operand) (d : Option Nat) (t : TypeId) (p : String) (f : Array Edge) (g : Option (Nat × Bool)) (w : World) :
    (execOp ρ { dst := d, op := .store 47 a x, type := t, pos := p, after := f, guard := g }).run Tryz.prog w = codC.stR w (ρ a) (ρ x) := Cod.stOp (C := codC) ρ _ a x rfl w
@[simp] theorem bx_C (w : World) (x : CgW) : (Instr.box 47 (.agg (codC.A x))).run Tryz.prog w = .ok (.pointer (some ⟨w.heap.size, 0, none⟩)) (w.alloc (codC.o x)) := Cod.bxO (C := codC) w x
@[simp] theorem st_newC (w : World) (x y : CgW) : codC.stR (w.alloc (codC.o y)) (.pointer (some ⟨w.heap.size, 0, none⟩)) (.agg (codC.A x)) = .ok .skip (w.alloc (codC.o x)) := okC.stR_new w x y
theorem ex_ldC_at {ρ : Operand → Value} {o : Oper} {a : Operand} {w : World} {b off : Nat} {x : CgW} (ho : o.op = .load 47 a) (ha : ρ a = .pointer (some ⟨b, off, none⟩)) (hr : codC.rd w b off = some x) :
    (execOp ρ o).run Tryz.prog w = .ok (.value (.agg (codC.A x))) w := okC.ex_ld ho ha hr
@[simp] theorem bld0_C (w : World) : (Instr.build 47 #[]).run Tryz.prog w = .ok (.agg (codC.A zCgW)) w := by
  rw [Cod.A_eq]
  kernel_rfl
@[simp ↓] theorem ex_b0C (ρ : Operand → Value) (d : Option Nat) (t : TypeId) (p : String) (f : Array Edge) (g : Option (Nat × Bool)) (w : World) :
    (execOp ρ { dst := d, op := .build 47 #[], type := t, pos := p, after := f, guard := g }).run Tryz.prog w = .ok (.value (.agg (codC.A zCgW))) w := by
  refine ex_buildG 47 ρ _ #[] w w _ rfl ?_
  rw [List.map_toArray, List.map_nil]
  exact bld0_C w
theorem okL : CodOk Tryz.prog codL := ⟨⟨_, Tryz.underlying55, rfl⟩, by kernel_rfl, fun w => (zero_of_info (P := Tryz.prog) (t := 55) (v := .agg (codL.cs codL.z).toArray) (n := 34) (by kernel_rfl)).1 w⟩
@[simp ↓] theorem ex_ldL (ρ : Operand → Value) (d : Option Nat) (a : Operand) (t : TypeId) (p : String) (f : Array Edge) (g : Option (Nat × Bool)) (w : World) :
    (execOp ρ { dst := d, op := .load 55 a, type := t, pos := p, after := f, guard := g }).run Tryz.prog w = codL.ldR w (ρ a) (exElse ρ { dst := d, op := .load 55 a, type := t, pos := p, after := f, guard := g } w) := okL.ldOp ρ _ a rfl w
@[simp ↓] theorem ex_alL (ρ : Operand → Value) (d : Option Nat) (t : TypeId) (p : String) (f : Array Edge) (g : Option (Nat × Bool)) (w : World) :
    (execOp ρ { dst := d, op := .alloc 55, type := t, pos := p, after := f, guard := g }).run Tryz.prog w = .ok (.value (.pointer (some ⟨w.heap.size, 0, none⟩))) (w.alloc (codL.o zLbl)) := okL.alOp ρ _ rfl w
@[simp ↓] theorem ex_stL (ρ : Operand → Value) (a x : Operand) (d : Option Nat) (t : TypeId) (p : String) (f : Array Edge) (g : Option (Nat × Bool)) (w : World) :
    (execOp ρ { dst := d, op := .store 55 a x, type := t, pos := p, after := f, guard := g }).run Tryz.prog w = codL.stR w (ρ a) (ρ x) := Cod.stOp (C := codL) ρ _ a x rfl w
@[simp] theorem bx_L (w : World) (x : Lbl) : (Instr.box 55 (.agg (codL.A x))).run Tryz.prog w = .ok (.pointer (some ⟨w.heap.size, 0, none⟩)) (w.alloc (codL.o x)) := Cod.bxO (C := codL) w x
@[simp] theorem st_newL (w : World) (x y : Lbl) : codL.stR (w.alloc (codL.o y)) (.pointer (some ⟨w.heap.size, 0, none⟩)) (.agg (codL.A x)) = .ok .skip (w.alloc (codL.o x)) := okL.stR_new w x y
theorem ex_ldL_at {ρ : Operand → Value} {o : Oper} {a : Operand} {w : World} {b off : Nat} {x : Lbl} (ho : o.op = .load 55 a) (ha : ρ a = .pointer (some ⟨b, off, none⟩)) (hr : codL.rd w b off = some x) :
    (execOp ρ o).run Tryz.prog w = .ok (.value (.agg (codL.A x))) w := okL.ex_ld ho ha hr
@[simp] theorem bld0_L (w : World) : (Instr.build 55 #[]).run Tryz.prog w = .ok (.agg (codL.A zLbl)) w := by
  rw [Cod.A_eq]
  kernel_rfl
@[simp ↓] theorem ex_b0L (ρ : Operand → Value) (d : Option Nat) (t : TypeId) (p : String) (f : Array Edge) (g : Option (Nat × Bool)) (w : World) :
    (execOp ρ { dst := d, op := .build 55 #[], type := t, pos := p, after := f, guard := g }).run Tryz.prog w = .ok (.value (.agg (codL.A zLbl))) w := by
  refine ex_buildG 55 ρ _ #[] w w _ rfl ?_
  rw [List.map_toArray, List.map_nil]
  exact bld0_L w
/-- 'api.Stamp{T: a, R: b}' and its like -/
noncomputable def mkS (w : World) (v u : Value) (r : Result Next) : Result Next := match v, u with
  | .int .i64 a, .int .i64 b => .ok (.value (.agg (codS.A ⟨a, b⟩))) w
  | _, _ => r
@[simp] theorem mkS_at (w : World) (a b : Int) (r : Result Next) : mkS w (.int .i64 a) (.int .i64 b) r = .ok (.value (.agg (codS.A ⟨a, b⟩))) w := rfl
noncomputable def mkS1 (f : Int → St) (w : World) (v : Value) (r : Result Next) : Result Next := match v with
  | .int .i64 a => .ok (.value (.agg (codS.A (f a)))) w
  | _ => r
@[simp] theorem mkS1_at (f : Int → St) (w : World) (a : Int) (r : Result Next) : mkS1 f w (.int .i64 a) r = .ok (.value (.agg (codS.A (f a)))) w := rfl
theorem bldS2 (w : World) (a b : Int) : (Instr.build 69 #[(0, .int .i64 a), (1, .int .i64 b)]).run Tryz.prog w = .ok (.agg (codS.A ⟨a, b⟩)) w := by
  rw [Cod.A_eq]; go_simp; rfl
theorem bldS_T (w : World) (a : Int) : (Instr.build 69 #[(0, .int .i64 a)]).run Tryz.prog w = .ok (.agg (codS.A ⟨a, 0⟩)) w := by
  rw [Cod.A_eq]; go_simp; rfl
theorem bldS_R (w : World) (b : Int) : (Instr.build 69 #[(1, .int .i64 b)]).run Tryz.prog w = .ok (.agg (codS.A ⟨0, b⟩)) w := by
  rw [Cod.A_eq]; go_simp; rfl
@[simp ↓] theorem ex_bldS2 (ρ : Operand → Value) (x y : Operand) (d : Option Nat) (t : TypeId) (p : String) (f : Array Edge) (g : Option (Nat × Bool)) (w : World) :
    (execOp ρ { dst := d, op := .build 69 #[(0, x), (1, y)], type := t, pos := p, after := f, guard := g }).run Tryz.prog w = mkS w (ρ x) (ρ y) (exElse ρ { dst := d, op := .build 69 #[(0, x), (1, y)], type := t, pos := p, after := f, guard := g } w) := by
  have he : ∀ o, exElse ρ o w = (execOp ρ o).run Tryz.prog w := by intro o; unfold exElse; rfl
  rw [he]
  unfold mkS
  split
  · rename_i a b hv hu
    refine ex_buildG 69 ρ _ #[(0, x), (1, y)] w w _ rfl ?_
    have := bldS2 w a b
    simpa [hv, hu] using this
  · rfl
@[simp ↓] theorem ex_bldS_T (ρ : Operand → Value) (x : Operand) (d : Option Nat) (t : TypeId) (p : String) (f : Array Edge) (g : Option (Nat × Bool)) (w : World) :
    (execOp ρ { dst := d, op := .build 69 #[(0, x)], type := t, pos := p, after := f, guard := g }).run Tryz.prog w = mkS1 (fun a => ⟨a, 0⟩) w (ρ x) (exElse ρ { dst := d, op := .build 69 #[(0, x)], type := t, pos := p, after := f, guard := g } w) := by
  have he : ∀ o, exElse ρ o w = (execOp ρ o).run Tryz.prog w := by intro o; unfold exElse; rfl
  rw [he]
  unfold mkS1
  split
  · rename_i a hv
    refine ex_buildG 69 ρ _ #[(0, x)] w w _ rfl ?_
    have := bldS_T w a
    simpa [hv] using this
  · rfl
@[simp ↓] theorem ex_bldS_R (ρ : Operand → Value) (y : Operand) (d : Option Nat) (t : TypeId) (p : String) (f : Array Edge) (g : Option (Nat × Bool)) (w : World) :
    (execOp ρ { dst := d, op := .build 69 #[(1, y)], type := t, pos := p, after := f, guard := g }).run Tryz.prog w = mkS1 (fun b => ⟨0, b⟩) w (ρ y) (exElse ρ { dst := d, op := .build 69 #[(1, y)], type := t, pos := p, after := f, guard := g } w) := by
  have he : ∀ o, exElse ρ o w = (execOp ρ o).run Tryz.prog w := by intro o; unfold exElse; rfl
  rw [he]
  unfold mkS1
  split
  · rename_i b hu
    refine ex_buildG 69 ρ _ #[(1, y)] w w _ rfl ?_
    have := bldS_R w b
    simpa [hu] using this
  · rfl
/-! rows -/
theorem etS : ET Tryz.prog 70 codS.t codS.n 16 := ET.mk' (z := .agg (codS.cs codS.z).toArray) Tryz.underlying70 (by kernel_rfl) (by simp only [Value.cells]; kernel_rfl) (by decide) (by decide)
theorem bs_S (w : World) (x : St) : (Instr.buildSlice 70 1 #[(0, .agg (codS.A x))]).run Tryz.prog w = .ok (.slice (some ⟨w.heap.size, 0, none⟩) 1 1) (w.alloc (codS.ro [x])) := okS.bs1 70 Tryz.underlying70 Tryz.sizeOf69 (by decide) w x
@[simp ↓] theorem ex_bsS (ρ : Operand → Value) (a : Operand) (d : Option Nat) (t : TypeId) (p : String) (f : Array Edge) (g : Option (Nat × Bool)) (w : World) :
    (execOp ρ { dst := d, op := .buildSlice 70 1 #[(0, a)], type := t, pos := p, after := f, guard := g }).run Tryz.prog w = bsR 70 w (ρ a) := bsOp 70 ρ _ a rfl w
@[simp] theorem bsR_S (w : World) (x : St) : bsR 70 w (.agg (codS.A x)) = .ok (.value (.slice (some ⟨w.heap.size, 0, none⟩) 1 1)) (w.alloc (codS.ro [x])) := by
  unfold bsR; rw [bs_S]; rfl
theorem ex_bsS_at {ρ : Operand → Value} {o : Oper} {a : Operand} {w : World} {x : St} (ho : o.op = .buildSlice 70 1 #[(0, a)]) (ha : ρ a = .agg (codS.A x)) :
    (execOp ρ o).run Tryz.prog w = .ok (.value (.slice (some ⟨w.heap.size, 0, none⟩) 1 1)) (w.alloc (codS.ro [x])) := by
  rw [bsOp 70 ρ o a ho w, ha, bsR_S]
theorem etH : ET Tryz.prog 75 codH.t codH.n 48 := ET.mk' (z := .agg (codH.cs codH.z).toArray) Tryz.underlying75 (by kernel_rfl) (by simp only [Value.cells]; kernel_rfl) (by decide) (by decide)
theorem bs_H (w : World) (x : Hd) : (Instr.buildSlice 75 1 #[(0, .agg (codH.A x))]).run Tryz.prog w = .ok (.slice (some ⟨w.heap.size, 0, none⟩) 1 1) (w.alloc (codH.ro [x])) := okH.bs1 75 Tryz.underlying75 Tryz.sizeOf84 (by decide) w x
@[simp ↓] theorem ex_bsH (ρ : Operand → Value) (a : Operand) (d : Option Nat) (t : TypeId) (p : String) (f : Array Edge) (g : Option (Nat × Bool)) (w : World) :
    (execOp ρ { dst := d, op := .buildSlice 75 1 #[(0, a)], type := t, pos := p, after := f, guard := g }).run Tryz.prog w = bsR 75 w (ρ a) := bsOp 75 ρ _ a rfl w
@[simp] theorem bsR_H (w : World) (x : Hd) : bsR 75 w (.agg (codH.A x)) = .ok (.value (.slice (some ⟨w.heap.size, 0, none⟩) 1 1)) (w.alloc (codH.ro [x])) := by
  unfold bsR; rw [bs_H]; rfl
theorem ex_bsH_at {ρ : Operand → Value} {o : Oper} {a : Operand} {w : World} {x : Hd} (ho : o.op = .buildSlice 75 1 #[(0, a)]) (ha : ρ a = .agg (codH.A x)) :
    (execOp ρ o).run Tryz.prog w = .ok (.value (.slice (some ⟨w.heap.size, 0, none⟩) 1 1)) (w.alloc (codH.ro [x])) := by
  rw [bsOp 75 ρ o a ho w, ha, bsR_H]
theorem etO : ET Tryz.prog 43 codO.t codO.n 128 := ET.mk' (z := .agg (codO.cs codO.z).toArray) Tryz.underlying43 (by kernel_rfl) (by simp only [Value.cells]; kernel_rfl) (by decide) (by decide)
theorem bs_O (w : World) (x : OpW) : (Instr.buildSlice 43 1 #[(0, .agg (codO.A x))]).run Tryz.prog w = .ok (.slice (some ⟨w.heap.size, 0, none⟩) 1 1) (w.alloc (codO.ro [x])) := okO.bs1 43 Tryz.underlying43 Tryz.sizeOf72 (by decide) w x
@[simp ↓] theorem ex_bsO (ρ : Operand → Value) (a : Operand) (d : Option Nat) (t : TypeId) (p : String) (f : Array Edge) (g : Option (Nat × Bool)) (w : World) :
    (execOp ρ { dst := d, op := .buildSlice 43 1 #[(0, a)], type := t, pos := p, after := f, guard := g }).run Tryz.prog w = bsR 43 w (ρ a) := bsOp 43 ρ _ a rfl w
@[simp] theorem bsR_O (w : World) (x : OpW) : bsR 43 w (.agg (codO.A x)) = .ok (.value (.slice (some ⟨w.heap.size, 0, none⟩) 1 1)) (w.alloc (codO.ro [x])) := by
  unfold bsR; rw [bs_O]; rfl
theorem ex_bsO_at {ρ : Operand → Value} {o : Oper} {a : Operand} {w : World} {x : OpW} (ho : o.op = .buildSlice 43 1 #[(0, a)]) (ha : ρ a = .agg (codO.A x)) :
    (execOp ρ o).run Tryz.prog w = .ok (.value (.slice (some ⟨w.heap.size, 0, none⟩) 1 1)) (w.alloc (codO.ro [x])) := by
  rw [bsOp 43 ρ o a ho w, ha, bsR_O]
theorem etT : ET Tryz.prog 31 codT.t codT.n 104 := ET.mk' (z := .agg (codT.cs codT.z).toArray) Tryz.underlying31 (by kernel_rfl) (by simp only [Value.cells]; kernel_rfl) (by decide) (by decide)
theorem bs_T (w : World) (x : ItW) : (Instr.buildSlice 31 1 #[(0, .agg (codT.A x))]).run Tryz.prog w = .ok (.slice (some ⟨w.heap.size, 0, none⟩) 1 1) (w.alloc (codT.ro [x])) := okT.bs1 31 Tryz.underlying31 Tryz.sizeOf77 (by decide) w x
@[simp ↓] theorem ex_bsT (ρ : Operand → Value) (a : Operand) (d : Option Nat) (t : TypeId) (p : String) (f : Array Edge) (g : Option (Nat × Bool)) (w : World) :
    (execOp ρ { dst := d, op := .buildSlice 31 1 #[(0, a)], type := t, pos := p, after := f, guard := g }).run Tryz.prog w = bsR 31 w (ρ a) := bsOp 31 ρ _ a rfl w
@[simp] theorem bsR_T (w : World) (x : ItW) : bsR 31 w (.agg (codT.A x)) = .ok (.value (.slice (some ⟨w.heap.size, 0, none⟩) 1 1)) (w.alloc (codT.ro [x])) := by
  unfold bsR; rw [bs_T]; rfl
theorem ex_bsT_at {ρ : Operand → Value} {o : Oper} {a : Operand} {w : World} {x : ItW} (ho : o.op = .buildSlice 31 1 #[(0, a)]) (ha : ρ a = .agg (codT.A x)) :
    (execOp ρ o).run Tryz.prog w = .ok (.value (.slice (some ⟨w.heap.size, 0, none⟩) 1 1)) (w.alloc (codT.ro [x])) := by
  rw [bsOp 31 ρ o a ho w, ha, bsR_T]
end Go.Proofs.YtejkfekpgbmdiaaGreat
