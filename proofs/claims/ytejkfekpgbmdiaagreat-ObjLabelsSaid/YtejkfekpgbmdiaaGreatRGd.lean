/- Values built of parts: api.Item, api.Head, api.Op, api.Label (as the references build them). Contract: the reference's item. (ex_ldT_at, ex_ldN_at) -/
import Derived.Test.YtejkfekpgbmdiaaGreatRGc
namespace Go.Proofs.YtejkfekpgbmdiaaGreat
open Go.RowKit
set_option linter.unusedVariables false
set_option linter.unusedSimpArgs false

open Classical in
noncomputable def dSt (v : Value) : Option St := if h : ∃ x, v = .agg (codS.A x) then some h.choose else none
open Classical in
noncomputable def dId (v : Value) : Option ID := if h : ∃ x, v = encI x then some h.choose else none
def dTx (v : Value) : Option (List UInt8) := match v with | .string m => some m.data.toList | _ => none
def dNu (v : Value) : Option Int := match v with | .int .i64 a => some a | _ => none
@[simp] theorem dSt_at (x : St) : dSt (.agg (codS.A x)) = some x := by
  unfold dSt
  have h : ∃ y, (Value.agg (codS.A x)) = .agg (codS.A y) := ⟨x, rfl⟩
  rw [dif_pos h, ← codS.v_inj h.choose_spec]
@[simp] theorem dId_at (x : ID) : dId (encI x) = some x := by
  unfold dId
  have h : ∃ y, encI x = encI y := ⟨x, rfl⟩
  rw [dif_pos h, ← encI_inj' h.choose_spec]
@[simp] theorem dTx_at (l : List UInt8) : dTx (.string (str l)) = some l := rfl
@[simp] theorem dNu_at (a : Int) : dNu (.int .i64 a) = some a := rfl
theorem dSt_eq {v : Value} {x : St} (h : dSt v = some x) : v = .agg (codS.A x) := by
  unfold dSt at h
  split at h
  · rename_i hh
    injection h with h
    rw [← h]; exact hh.choose_spec
  · cases h
theorem dId_eq {v : Value} {x : ID} (h : dId v = some x) : v = encI x := by
  unfold dId at h
  split at h
  · rename_i hh
    injection h with h
    rw [← h]; exact hh.choose_spec
  · cases h
theorem dTx_eq {v : Value} {x : List UInt8} (h : dTx v = some x) : v = .string (str x) := by
  unfold dTx at h
  split at h
  · rename_i m
    injection h with h
    rw [← h, str_of]
  · cases h
theorem dNu_eq {v : Value} {x : Int} (h : dNu v = some x) : v = .int .i64 x := by
  unfold dNu at h
  split at h
  · injection h with h
    rw [h]
  · cases h
/-! the values -/
theorem bldT_4 (w : World) (s t : St) (m : List UInt8) (x : ID) : (Instr.build 77 #[(0, .agg (codS.A s)), (1, .agg (codS.A t)), (2, .string (str m)), (3, encI x)]).run Tryz.prog w = .ok (.agg (codT.A { zItW with Node := s, At := t, Name := m, Sub := x })) w := by
  have h1 : ∀ place : Nat → Option (Nat × Nat), place 0 = some (0, 2) → place 1 = some (2, 2) → place 2 = some (4, 1) → place 3 = some (5, 32) → Instr.fill place ([] ++ [Value.int .i64 0, Value.int .i64 0] ++ ([Value.int .i64 0, Value.int .i64 0, Value.string (str [])] ++ bv zID.1 ++ [Value.slice none 0 0])).toArray [(0, .agg (codS.A s)), (1, .agg (codS.A t)), (2, .string (str m)), (3, encI x)] = some (codT.cs { zItW with Node := s, At := t, Name := m, Sub := x }).toArray := by
    intro place p0 p1 p2 p3
    refine (fill_one place [] [.int .i64 0, .int .i64 0] ([Value.int .i64 0, Value.int .i64 0, Value.string (str [])] ++ bv zID.1 ++ [Value.slice none 0 0]) [.int .i64 s.T, .int .i64 s.R] 0 (.agg (codS.A s)) _ (by rw [A_SS]; rfl) (by simpa using p0) rfl).trans ?_
    have e1 := fill_one place [.int .i64 s.T, .int .i64 s.R] [.int .i64 0, .int .i64 0] ([Value.string (str [])] ++ bv zID.1 ++ [Value.slice none 0 0]) [.int .i64 t.T, .int .i64 t.R] 1 (.agg (codS.A t)) [(2, .string (str m)), (3, encI x)] (by rw [A_SS]; rfl) (by simpa using p1) rfl
    refine Eq.trans ?_ (e1.trans ?_)
    · simp
    have e2 := fill_one place [.int .i64 s.T, .int .i64 s.R, .int .i64 t.T, .int .i64 t.R] [Value.string (str [])] (bv zID.1 ++ [Value.slice none 0 0]) [.string (str m)] 2 (.string (str m)) [(3, encI x)] rfl (by simpa using p2) rfl
    refine Eq.trans ?_ (e2.trans ?_)
    · simp
    have e3 := fill_one place [.int .i64 s.T, .int .i64 s.R, .int .i64 t.T, .int .i64 t.R, .string (str m)] (bv zID.1) [Value.slice none 0 0] (bv x.1) 3 (encI x) [] (cellsI x) (by simpa [x.2] using p3) (by simp [x.2, zID])
    refine Eq.trans ?_ (e3.trans ?_)
    · simp
    · simp [Instr.fill, codT, csT, zItW]
  have hz : (zeroValue 77).run Tryz.prog w = .ok (.agg (codT.cs codT.z).toArray) w := okT.zero w
  have hc : (Value.agg (codT.cs codT.z).toArray).cells = ([] ++ [Value.int .i64 0, Value.int .i64 0] ++ ([Value.int .i64 0, Value.int .i64 0, Value.string (str [])] ++ bv zID.1 ++ [Value.slice none 0 0])).toArray := rfl
  have hsI : ∀ w, (sizeOf 45).run Tryz.prog w = .ok 32 w := fun w => Tryz.sizeOf45 w
  simp only [Instr.build, Sem.run_bind, hz, Result.andThen_ok, run_underlying Tryz.underlying77, hc]
  simp only [List.mapM_toArray, List.mapM_cons, List.mapM_nil, Sem.run_bind, hsI, Tryz.sizeOf9, Tryz.sizeOf75, Tryz.sizeOf69, Result.andThen_ok, Sem.run_pure, Sem.run_map, map_pure, bind_pure_comp]
  rw [h1 _ rfl rfl rfl rfl]
  simp [Cod.A_eq]
theorem bldH_2 (w : World) (s : St) (x : ID) : (Instr.build 84 #[(0, .agg (codS.A s)), (1, encI x)]).run Tryz.prog w = .ok (.agg (codH.A { zHd with At := s, Data := x })) w := by
  have h1 : ∀ place : Nat → Option (Nat × Nat), place 0 = some (0, 2) → place 1 = some (2, 32) → Instr.fill place ([] ++ [Value.int .i64 0, Value.int .i64 0] ++ bv zID.1).toArray [(0, .agg (codS.A s)), (1, encI x)] = some (codH.cs { zHd with At := s, Data := x }).toArray := by
    intro place p0 p1
    refine (fill_one place [] [.int .i64 0, .int .i64 0] (bv zID.1) [.int .i64 s.T, .int .i64 s.R] 0 (.agg (codS.A s)) _ (by rw [A_SS]; rfl) (by simpa using p0) rfl).trans ?_
    have e1 := fill_one place [.int .i64 s.T, .int .i64 s.R] (bv zID.1) [] (bv x.1) 1 (encI x) [] (cellsI x) (by simpa [x.2] using p1) (by simp [x.2, zID])
    refine Eq.trans ?_ (e1.trans ?_)
    · simp
    · simp [Instr.fill, codH, csH, zHd]
  have hz : (zeroValue 84).run Tryz.prog w = .ok (.agg (codH.cs codH.z).toArray) w := okH.zero w
  have hc : (Value.agg (codH.cs codH.z).toArray).cells = ([] ++ [Value.int .i64 0, Value.int .i64 0] ++ bv zID.1).toArray := rfl
  have hsI : ∀ w, (sizeOf 45).run Tryz.prog w = .ok 32 w := fun w => Tryz.sizeOf45 w
  simp only [Instr.build, Sem.run_bind, hz, Result.andThen_ok, run_underlying Tryz.underlying84, hc]
  simp only [List.mapM_toArray, List.mapM_cons, List.mapM_nil, Sem.run_bind, hsI, Tryz.sizeOf69, Result.andThen_ok, Sem.run_pure, Sem.run_map, map_pure, bind_pure_comp]
  rw [h1 _ rfl rfl]
  simp [Cod.A_eq]
theorem bldO_3 (w : World) (k : Int) (s t : St) : (Instr.build 72 #[(0, .int .i64 k), (1, .agg (codS.A s)), (2, .agg (codS.A t))]).run Tryz.prog w = .ok (.agg (codO.A { zOpW with Kind := k, At := s, Node := t })) w := by
  rw [Cod.A_eq codO, A_SS, A_SS]; go_simp; rfl
theorem bldL_3 (w : World) (x : ID) (s m : List UInt8) : (Instr.build 55 #[(0, encI x), (1, .string (str s)), (2, .string (str m))]).run Tryz.prog w = .ok (.agg (codL.A ⟨x, s, m⟩)) w := by
  have h1 : ∀ place : Nat → Option (Nat × Nat), place 0 = some (0, 32) → place 1 = some (32, 1) → place 2 = some (33, 1) → Instr.fill place ([] ++ bv zID.1 ++ [Value.string (str []), Value.string (str [])]).toArray [(0, encI x), (1, .string (str s)), (2, .string (str m))] = some (codL.cs ⟨x, s, m⟩).toArray := by
    intro place p0 p1 p2
    refine (fill_one place [] (bv zID.1) [.string (str []), .string (str [])] (bv x.1) 0 (encI x) _ (cellsI x) (by simp [x.2, p0]) (by simp [x.2, zID])).trans ?_
    have e2 := fill_one place (bv x.1) [.string (str [])] [.string (str [])] [.string (str s)] 1 (.string (str s)) [(2, .string (str m))] rfl (by simpa [x.2] using p1) rfl
    refine Eq.trans ?_ (e2.trans ?_)
    · simp
    have e3 := fill_one place (bv x.1 ++ [.string (str s)]) [.string (str [])] [] [.string (str m)] 2 (.string (str m)) [] rfl (by simpa [x.2] using p2) rfl
    refine Eq.trans ?_ (e3.trans ?_)
    · simp
    · simp [Instr.fill, codL, csL]
  have hc : (Value.agg (codL.cs codL.z).toArray).cells = ([] ++ bv zID.1 ++ [Value.string (str []), Value.string (str [])]).toArray := rfl
  have hz : (zeroValue 55).run Tryz.prog w = .ok (.agg (codL.cs codL.z).toArray) w := okL.zero w
  have hsI : ∀ w, (sizeOf 45).run Tryz.prog w = .ok 32 w := fun w => Tryz.sizeOf45 w
  simp only [Instr.build, Sem.run_bind, hz, Result.andThen_ok, run_underlying Tryz.underlying55, hc]
  simp only [List.mapM_toArray, List.mapM_cons, List.mapM_nil, Sem.run_bind, hsI, Tryz.sizeOf9, Result.andThen_ok, Sem.run_pure, Sem.run_map, map_pure, bind_pure_comp]
  rw [h1 _ rfl rfl rfl]
  simp [Cod.A_eq]
/-! as rules -/
noncomputable def mkT4 (w : World) (v u z y : Value) (r : Result Next) : Result Next := match dSt v, dSt u, dTx z, dId y with
  | some a, some b, some l, some x => .ok (.value (.agg (codT.A { zItW with Node := a, At := b, Name := l, Sub := x }))) w
  | _, _, _, _ => r
@[simp] theorem mkT4_at (w : World) (s t : St) (l : List UInt8) (x : ID) (r : Result Next) : mkT4 w (.agg (codS.A s)) (.agg (codS.A t)) (.string (str l)) (encI x) r = .ok (.value (.agg (codT.A { zItW with Node := s, At := t, Name := l, Sub := x }))) w := by simp [mkT4]
noncomputable def mkH2 (w : World) (v y : Value) (r : Result Next) : Result Next := match dSt v, dId y with
  | some a, some x => .ok (.value (.agg (codH.A { zHd with At := a, Data := x }))) w
  | _, _ => r
@[simp] theorem mkH2_at (w : World) (s : St) (x : ID) (r : Result Next) : mkH2 w (.agg (codS.A s)) (encI x) r = .ok (.value (.agg (codH.A { zHd with At := s, Data := x }))) w := by simp [mkH2]
noncomputable def mkO3 (w : World) (z v u : Value) (r : Result Next) : Result Next := match dNu z, dSt v, dSt u with
  | some k, some a, some b => .ok (.value (.agg (codO.A { zOpW with Kind := k, At := a, Node := b }))) w
  | _, _, _ => r
@[simp] theorem mkO3_at (w : World) (k : Int) (s t : St) (r : Result Next) : mkO3 w (.int .i64 k) (.agg (codS.A s)) (.agg (codS.A t)) r = .ok (.value (.agg (codO.A { zOpW with Kind := k, At := s, Node := t }))) w := by simp [mkO3]
noncomputable def mkL3 (w : World) (y z u : Value) (r : Result Next) : Result Next := match dId y, dTx z, dTx u with
  | some x, some s, some m => .ok (.value (.agg (codL.A ⟨x, s, m⟩))) w
  | _, _, _ => r
@[simp] theorem mkL3_at (w : World) (x : ID) (s m : List UInt8) (r : Result Next) : mkL3 w (encI x) (.string (str s)) (.string (str m)) r = .ok (.value (.agg (codL.A ⟨x, s, m⟩))) w := by simp [mkL3]
@[simp ↓] theorem ex_bldT_4 (ρ : Operand → Value) (x1 x2 x3 x4 : Operand) (d : Option Nat) (t : TypeId) (p : String) (f : Array Edge) (g : Option (Nat × Bool)) (w : World) :
    (execOp ρ { dst := d, op := .build 77 #[(0, x1), (1, x2), (2, x3), (3, x4)], type := t, pos := p, after := f, guard := g }).run Tryz.prog w = mkT4 w (ρ x1) (ρ x2) (ρ x3) (ρ x4) (exElse ρ { dst := d, op := .build 77 #[(0, x1), (1, x2), (2, x3), (3, x4)], type := t, pos := p, after := f, guard := g } w) := by
  have he : ∀ o, exElse ρ o w = (execOp ρ o).run Tryz.prog w := by intro o; unfold exElse; rfl
  rw [he]
  unfold mkT4
  split
  · rename_i a b l x h1 h2 h3 h4
    refine ex_buildG 77 ρ _ #[(0, x1), (1, x2), (2, x3), (3, x4)] w w _ rfl ?_
    have := bldT_4 w a b l x
    simpa [dSt_eq h1, dSt_eq h2, dTx_eq h3, dId_eq h4] using this
  · rfl
@[simp ↓] theorem ex_bldH_2 (ρ : Operand → Value) (x1 x2 : Operand) (d : Option Nat) (t : TypeId) (p : String) (f : Array Edge) (g : Option (Nat × Bool)) (w : World) :
    (execOp ρ { dst := d, op := .build 84 #[(0, x1), (1, x2)], type := t, pos := p, after := f, guard := g }).run Tryz.prog w = mkH2 w (ρ x1) (ρ x2) (exElse ρ { dst := d, op := .build 84 #[(0, x1), (1, x2)], type := t, pos := p, after := f, guard := g } w) := by
  have he : ∀ o, exElse ρ o w = (execOp ρ o).run Tryz.prog w := by intro o; unfold exElse; rfl
  rw [he]
  unfold mkH2
  split
  · rename_i a x h1 h4
    refine ex_buildG 84 ρ _ #[(0, x1), (1, x2)] w w _ rfl ?_
    have := bldH_2 w a x
    simpa [dSt_eq h1, dId_eq h4] using this
  · rfl
@[simp ↓] theorem ex_bldO_3 (ρ : Operand → Value) (x1 x2 x3 : Operand) (d : Option Nat) (t : TypeId) (p : String) (f : Array Edge) (g : Option (Nat × Bool)) (w : World) :
    (execOp ρ { dst := d, op := .build 72 #[(0, x1), (1, x2), (2, x3)], type := t, pos := p, after := f, guard := g }).run Tryz.prog w = mkO3 w (ρ x1) (ρ x2) (ρ x3) (exElse ρ { dst := d, op := .build 72 #[(0, x1), (1, x2), (2, x3)], type := t, pos := p, after := f, guard := g } w) := by
  have he : ∀ o, exElse ρ o w = (execOp ρ o).run Tryz.prog w := by intro o; unfold exElse; rfl
  rw [he]
  unfold mkO3
  split
  · rename_i k a b h1 h2 h3
    refine ex_buildG 72 ρ _ #[(0, x1), (1, x2), (2, x3)] w w _ rfl ?_
    have := bldO_3 w k a b
    simpa [dNu_eq h1, dSt_eq h2, dSt_eq h3] using this
  · rfl
@[simp ↓] theorem ex_bldL_3 (ρ : Operand → Value) (x1 x2 x3 : Operand) (d : Option Nat) (t : TypeId) (p : String) (f : Array Edge) (g : Option (Nat × Bool)) (w : World) :
    (execOp ρ { dst := d, op := .build 55 #[(0, x1), (1, x2), (2, x3)], type := t, pos := p, after := f, guard := g }).run Tryz.prog w = mkL3 w (ρ x1) (ρ x2) (ρ x3) (exElse ρ { dst := d, op := .build 55 #[(0, x1), (1, x2), (2, x3)], type := t, pos := p, after := f, guard := g } w) := by
  have he : ∀ o, exElse ρ o w = (execOp ρ o).run Tryz.prog w := by intro o; unfold exElse; rfl
  rw [he]
  unfold mkL3
  split
  · rename_i x s m h1 h2 h3
    refine ex_buildG 55 ρ _ #[(0, x1), (1, x2), (2, x3)] w w _ rfl ?_
    have := bldL_3 w x s m
    simpa [dId_eq h1, dTx_eq h2, dTx_eq h3] using this
  · rfl
/-! a result's variable, the reader's result, the reader's variable, and one more -/
structure RN {α : Type} (C : Cod α) (B : Nat) (W w : World) (R U E P : Nat) (v : InV) (s : RS) (z r : α) : Prop where
  rs : C.bxd w R = some z
  us : codN.bxd w U = some zInV
  es : codN.bxd w E = some v
  inn : InAt B w v s
  bx : C.bxd w P = some r
  fr : Fr noB W w
  hB : B ≤ W.heap.size
  o1 : W.heap.size ≤ R
  o2 : R < U
  o3 : U < E
  o4 : E < P
section
variable {α : Type} {C : Cod α} {B : Nat} {W w : World} {R U E P : Nat} {v : InV} {s : RS} {z r : α}
theorem RN.size (h : RN C B W w R U E P v s z r) : B ≤ w.heap.size := Nat.le_trans h.hB h.fr.size
theorem RN.BP (h : RN C B W w R U E P v s z r) : B ≤ P := by
  have h1 := h.o1; have h2 := h.o2; have h3 := h.o3; have h4 := h.o4; have h5 := h.hB
  omega
theorem RN.new {w' : World} (h : RN C B W w R U E P v s z r) (f : Fr noB w w') : RN C B W w' R U E P v s z r :=
  ⟨Cod.bxd_fr0 h.rs f, Cod.bxd_fr0 h.us f, Cod.bxd_fr0 h.es f, h.inn.fr f, Cod.bxd_fr0 h.bx f, h.fr.step0 f, h.hB, h.o1, h.o2, h.o3, h.o4⟩
theorem RN.turn {w' : World} {r' : α} (h : RN C B W w R U E P v s z r) (f : Fr (oneB P) w w') (hb : C.bxd w' P = some r') : RN C B W w' R U E P v s z r' := by
  have h1 := h.o1; have h2 := h.o2; have h3 := h.o3; have h4 := h.o4; have h5 := h.hB
  exact ⟨Cod.bxd_fr h.rs f (fun e => by simp only [oneB] at e; omega), Cod.bxd_fr h.us f (fun e => by simp only [oneB] at e; omega), Cod.bxd_fr h.es f (fun e => by simp only [oneB] at e; omega), h.inn.box (by omega) f, hb,
    h.fr.step f (fun b hb => .inl (by simp only [oneB] at hb; omega)), h.hB, h.o1, h.o2, h.o3, h.o4⟩
theorem RN.put (h : RN C B W w R U E P v s z r) (r' : α) : RN C B W (C.put w P r') R U E P v s z r' := h.turn (Cod.put_fr h.bx r').1 (Cod.put_fr h.bx r').2.2
theorem RN.set (h : RN C B W w R U E P v s z r) (o : Nat) (x : Value) (r' : α) (hs : (C.cs r).set o x = C.cs r') : RN C B W (w.setCell ⟨P, o, none⟩ x) R U E P v s z r' := h.turn (Cod.set_fr w P o x) (Cod.bxd_set h.bx o x r' hs)
/-- the reader's variable is turned -/
theorem RN.rdr (h : RN C B W w R U E P v s z r) {v' : InV} {s' : RS} (hi : InAt B w v' s') : RN C B W (codN.put w E v') R U E P v' s' z r := by
  have h1 := h.o1; have h2 := h.o2; have h3 := h.o3; have h4 := h.o4; have h5 := h.hB
  obtain ⟨f, _, hb⟩ := Cod.put_fr h.es v'
  exact ⟨Cod.bxd_fr h.rs f (fun e => by simp only [oneB] at e; omega), Cod.bxd_fr h.us f (fun e => by simp only [oneB] at e; omega), hb, hi.box (by omega) f, Cod.bxd_fr h.bx f (fun e => by simp only [oneB] at e; omega),
    h.fr.step f (fun b hb => .inl (by simp only [oneB] at hb; omega)), h.hB, h.o1, h.o2, h.o3, h.o4⟩
theorem RN.rfr (h : RN C B W w R U E P v s z r) (v' : InV) : Fr (oneB E) w (codN.put w E v') := (Cod.put_fr h.es v').1
/-- a row of the call's own was grown -/
theorem RN.grow {e : TypeId} {size n c : Nat} {A : Option Addr} {xs : List Value} {w' : World} (h : RN C B W w R U E P v s z r) (ho : w.ownsRow W.heap.size e size (.slice A n c) n xs) (h1 : e ≠ 110) (h2 : e ≠ C.t) (hg : w.grownBy w' (A.map (·.block))) : RN C B W w' R U E P v s z r := by
  have f : Fr (fun b => A.map (·.block) = some b) w w' := Fr.ofGrown hg (fun g hg => hg)
  have hob : (Value.slice A n c).ownBlock = A.map (·.block) := ownBlock_sl' A n c
  have nP : A.map (·.block) ≠ some P := fun e => Blk.ne_own (Cod.bxd_blk h.bx) ho h2 P (by rw [hob]; exact e) rfl
  have nR : A.map (·.block) ≠ some R := fun e => Blk.ne_own (Cod.bxd_blk h.rs) ho h2 R (by rw [hob]; exact e) rfl
  have nE : A.map (·.block) ≠ some E := fun e => Blk.ne_own (Cod.bxd_blk h.es) ho h1 E (by rw [hob]; exact e) rfl
  have nU : A.map (·.block) ≠ some U := fun e => Blk.ne_own (Cod.bxd_blk h.us) ho h1 U (by rw [hob]; exact e) rfl
  have hi : InAt B w' v s := ⟨h.inn.n, h.inn.c, h.inn.sl.fr f (fun a ha e => by
    have q1 := h.inn.lt a.block (by rw [ha]; rfl)
    have q2 := (ho.lt a.block (by rw [hob]; exact e)).1
    have q3 := h.hB
    omega), h.inn.bad, h.inn.lt⟩
  exact ⟨Cod.bxd_fr h.rs f nR, Cod.bxd_fr h.us f nU, Cod.bxd_fr h.es f nE, hi, Cod.bxd_fr h.bx f nP, h.fr.step f (fun b hb => .inl (ho.lt b (by rw [hob]; exact hb)).1), h.hB, h.o1, h.o2, h.o3, h.o4⟩
theorem RN.inG {e : TypeId} {size n c : Nat} {A : Option Addr} {xs : List Value} {w' : World} {v' : InV} {s' : RS} (h : RN C B W w R U E P v s z r) (ho : w.ownsRow W.heap.size e size (.slice A n c) n xs) (hg : w.grownBy w' (A.map (·.block))) (hi : InAt B w v' s') : InAt B w' v' s' := by
  have f : Fr (fun b => A.map (·.block) = some b) w w' := Fr.ofGrown hg (fun g hg => hg)
  have hob : (Value.slice A n c).ownBlock = A.map (·.block) := ownBlock_sl' A n c
  exact ⟨hi.n, hi.c, hi.sl.fr f (fun a ha e => by
    have q1 := hi.lt a.block (by rw [ha]; rfl)
    have q2 := (ho.lt a.block (by rw [hob]; exact e)).1
    have q3 := h.hB
    omega), hi.bad, hi.lt⟩
theorem bxd_grow {β : Type} {D : Cod β} {base : Nat} {e : TypeId} {size n c b : Nat} {A : Option Addr} {xs : List Value} {w w' : World} {y : β} (h : D.bxd w b = some y) (ho : w.ownsRow base e size (.slice A n c) n xs) (hne : e ≠ D.t) (hg : w.grownBy w' (A.map (·.block))) : D.bxd w' b = some y := by
  have f : Fr (fun b => A.map (·.block) = some b) w w' := Fr.ofGrown hg (fun g hg => hg)
  have hob : (Value.slice A n c).ownBlock = A.map (·.block) := ownBlock_sl' A n c
  have nP : A.map (·.block) ≠ some b := fun e => Blk.ne_own (Cod.bxd_blk h) ho hne b (by rw [hob]; exact e) rfl
  exact Cod.bxd_fr h f nP
theorem RN.own_turn {base : Nat} {e : TypeId} {size n : Nat} {x : Value} {xs : List Value} {w' : World} (h : RN C B W w R U E P v s z r) (ho : w.ownsRow base e size x n xs) (hne : e ≠ C.t) (f : Fr (oneB P) w w') : w'.ownsRow base e size x n xs := own_box (Cod.bxd_blk h.bx) ho hne f
theorem RN.own_rdr {base : Nat} {e : TypeId} {size n : Nat} {x : Value} {xs : List Value} {w' : World} (h : RN C B W w R U E P v s z r) (ho : w.ownsRow base e size x n xs) (hne : e ≠ 110) (f : Fr (oneB E) w w') : w'.ownsRow base e size x n xs := own_box (Cod.bxd_blk h.es) ho hne f
end
end Go.Proofs.YtejkfekpgbmdiaaGreat
namespace Go.Proofs.YtejkfekpgbmdiaaGreat
open Go.RowKit
set_option linter.unusedVariables false
set_option linter.unusedSimpArgs false

/-- two new variables and their stores -/
theorem two_new {α β : Type} {C : Cod α} {D : Cod β} (H : CodOk Tryz.prog C) (K : CodOk Tryz.prog D) (w : World) (zx x : α) (zy y : β) : ∃ W1 W2,
    C.stR ((w.alloc (C.o zx)).alloc (D.o zy)) (.pointer (some ⟨w.heap.size, 0, none⟩)) (.agg (C.A x)) = .ok .skip W1 ∧ D.stR W1 (.pointer (some ⟨w.heap.size + 1, 0, none⟩)) (.agg (D.A y)) = .ok .skip W2 ∧
    Fr noB w W2 ∧ C.bxd W2 w.heap.size = some x ∧ D.bxd W2 (w.heap.size + 1) = some y := by
  have f0 : Fr noB w ((w.alloc (C.o zx)).alloc (D.o zy)) := ((Fr.refl noB w).alloc _).alloc _
  have a0 : C.bxd ((w.alloc (C.o zx)).alloc (D.o zy)) w.heap.size = some zx := by rw [Cod.bxd_old _ _ _ (by simp), Cod.bxd_new]
  have b0 : D.bxd ((w.alloc (C.o zx)).alloc (D.o zy)) (w.heap.size + 1) = some zy := by
    have h1 : (w.alloc (C.o zx)).heap.size = w.heap.size + 1 := by simp
    rw [← h1, Cod.bxd_new]
  obtain ⟨g1, g2, g3⟩ := Cod.put_fr a0 x
  have b1 := Cod.bxd_fr b0 g1 (fun e => by simp only [oneB] at e; omega)
  obtain ⟨k1, k2, k3⟩ := Cod.put_fr b1 y
  refine ⟨_, _, H.stR_box a0 x, K.stR_box b1 y, ?_, Cod.bxd_fr g3 k1 (fun e => by simp only [oneB] at e; omega), k3⟩
  exact (f0.step g1 (fun b hb => .inl (by simp only [oneB] at hb; omega))).step k1 (fun b hb => .inl (by simp only [oneB] at hb; omega))
/-- as two_new, the first an array -/
theorem two_newA {β : Type} {D : Cod β} (K : CodOk Tryz.prog D) (w : World) (x : ID) (zy y : β) : ∃ W2,
    bxA ((w.alloc (aro zID)).alloc (D.o zy)) w.heap.size = some zID ∧ D.stR (putC ((w.alloc (aro zID)).alloc (D.o zy)) w.heap.size x) (.pointer (some ⟨w.heap.size + 1, 0, none⟩)) (.agg (D.A y)) = .ok .skip W2 ∧
    Fr noB w W2 ∧ bxA W2 w.heap.size = some x ∧ D.bxd W2 (w.heap.size + 1) = some y := by
  have f0 : Fr noB w ((w.alloc (aro zID)).alloc (D.o zy)) := ((Fr.refl noB w).alloc _).alloc _
  have a0 : bxA ((w.alloc (aro zID)).alloc (D.o zy)) w.heap.size = some zID := by rw [bxA_old _ _ _ (by simp), bxA_new]
  have b0 : D.bxd ((w.alloc (aro zID)).alloc (D.o zy)) (w.heap.size + 1) = some zy := by
    have h1 : (w.alloc (aro zID)).heap.size = w.heap.size + 1 := by simp
    rw [← h1, Cod.bxd_new]
  obtain ⟨g1, g2, g3⟩ := putC_fr a0 x
  have b1 := Cod.bxd_fr b0 g1 (fun e => by simp only [oneB] at e; omega)
  obtain ⟨k1, k2, k3⟩ := Cod.put_fr b1 y
  refine ⟨_, a0, K.stR_box b1 y, ?_, bxA_fr g3 k1 (fun e => by simp only [oneB] at e; omega), k3⟩
  exact (f0.step g1 (fun b hb => .inl (by simp only [oneB] at hb; omega))).step k1 (fun b hb => .inl (by simp only [oneB] at hb; omega))
theorem rdNum_bad0 {most n : Nat} {s s' : RS} (h : rdNum most s = (n, s')) (hb : s'.2 = true) : n = 0 := by
  rcases rdNum_or h with h | h
  · exact h.1
  · rw [h.2.1] at hb; cases hb
/-- the things of a loop that ends when the reader is bad -/
def manyT {α : Type} (f : RS → α × RS) (l : List α) (n : Nat) (s : RS) : List α × RS := if s.2 = true then (l, s) else (l ++ (rdMany f n s).1, (rdMany f n s).2)
theorem manyT_start {α : Type} (f : RS → α × RS) (n : Nat) (s : RS) (h : s.2 = true → n = 0) : rdMany f n s = manyT f [] n s := by
  unfold manyT
  split
  · rename_i hb
    rw [h hb]
    rfl
  · simp
theorem manyT_step {α : Type} (f : RS → α × RS) (n k : Nat) (hk : k < n) (l : List α) (s s' : RS) (x : α) (hs : s.2 = false) (h : f s = (x, s')) : manyT f l (n - k) s = manyT f (l ++ [x]) (n - (k + 1)) s' := by
  have e : n - k = (n - (k + 1)) + 1 := by omega
  rw [e]
  unfold manyT
  rw [hs]
  simp only [Bool.false_eq_true, if_false]
  split
  · rename_i hb; exact rdMany_stop f _ l s s' x h hb
  · rename_i hb; exact rdMany_step f _ l s s' x h (by simpa using hb)
theorem manyT_end {α : Type} (f : RS → α × RS) (n k : Nat) (l : List α) (s : RS) (h : s.2 = true ∨ n ≤ k) : manyT f l (n - k) s = (l, s) := by
  unfold manyT
  split
  · rfl
  · rename_i hb
    have : n - k = 0 := by rcases h with h | h; exact absurd h hb; omega
    rw [this]
    simp [rdMany]
/-- an item and a reader's value come out -/
def ItmTo (B : Nat) (w : World) (x : It) (s' : RS) (e : Ending) (w' : World) : Prop :=
  ∃ r v', e = .returned (.tuple #[.agg (codT.A r), .agg (codN.A v')]) ∧ ItIn w' r x ∧ w'.ownsRow w.heap.size 84 34 (.slice r.A r.n r.c) r.n (codH.row x.Heads) ∧ InAt B w' v' s' ∧ Fr noB w w'
def RtR (B : Nat) (W : World) (R U E P n mx : Nat) (r : ItW) (tot : List Hd × RS) (gk : Nat) (iv : Value) (wr : World) : Prop :=
  ∃ (k : Nat) (l : List Hd) (s : RS) (v : InV) (A : Option Addr) (c : Nat), iv = .int .i64 (k : Int) ∧ gk = n - k ∧ k ≤ n ∧ l.length = k ∧ s.1.length ≤ mx ∧ RN codT B W wr R U E P v s zItW { r with A := A, n := l.length, c := c } ∧ OwnC codH W wr A c l ∧ tot = manyT rdHd l (n - k) s
set_option maxRecDepth 100000 in
set_option maxHeartbeats 8000000 in
theorem r4item_z (B : Nat) (w : World) (hB : B ≤ w.heap.size) (v : InV) (s : RS) (h : InAt B w v s) (hlen : s.1.length ≤ 140737488355328) (x : It) (s' : RS) (hh : rdIt s = (x, s')) : Calls Tryz.prog 74 #[.agg (codN.A v)] w (ItmTo B w x s') := by
  obtain ⟨nd, s1, e1⟩ := rd_eq rdSt s
  have b1 := rdSt_len s
  rw [e1] at b1
  obtain ⟨a, s2, e2⟩ := rd_eq rdSt s1
  have b2 := rdSt_len s1
  rw [e2] at b2
  obtain ⟨nm, s3, e3⟩ := rd_eq (rdText 60) s2
  have b3 := rdText_len 60 s2
  have c3 := rdText_le 60 s2
  rw [e3] at b3 c3
  obtain ⟨sb, s4, e4⟩ := rd_eq rdId s3
  have b4 := rdId_len s3
  rw [e4] at b4
  obtain ⟨n, s5, e5⟩ := rd_eq (rdNum 1000) s4
  have b5 := rdNum_bd 1000 s4
  rw [e5] at b5
  simp only at b1 b2 b3 b4 b5 c3
  have m1 : s1.1.length ≤ 140737488355328 := by omega
  have m2 : s2.1.length ≤ 140737488355328 := by omega
  have m3 : s3.1.length ≤ 140737488355328 := by omega
  have m4 : s4.1.length ≤ 140737488355328 := by omega
  have m5 : s5.1.length ≤ 140737488355328 := by omega
  have n64 : n ≤ 1000 := b5.1
  obtain ⟨tot, htot⟩ : ∃ tot, tot = rdMany rdHd n s5 := ⟨_, rfl⟩
  have hIt : rdIt s = (⟨nd, a, nm, sb, tot.1⟩, tot.2) := by
    unfold rdIt
    rw [e1]
    dsimp only
    rw [e2]
    dsimp only
    rw [e3]
    dsimp only
    rw [e4]
    dsimp only
    rw [e5]
    dsimp only
    rw [htot]
  rw [hIt] at hh
  rw [manyT_start rdHd n s5 (rdNum_bad0 e5)] at htot
  injection hh with hx1 hx2
  have HX := Lib.hid hx1
  have HS := Lib.hid hx2
  have HT := Lib.hid htot
  have C3 := Lib.hid c3
  have E1 := Lib.hid e1
  have E2 := Lib.hid e2
  have E3 := Lib.hid e3
  have E4 := Lib.hid e4
  have E5 := Lib.hid e5
  clear e1 e2 e3 e4 e5 b1 b2 b3 b4 b5 c3 hIt htot hx1 hx2
  have f2 : Fr noB w (((w.alloc (.cells (codN.A v) 110)).alloc (codT.o zItW)).alloc (codN.o zInV)) := (((Fr.refl noB w).alloc _).alloc _).alloc _
  have q0 := Cod.rd_fr0 (Cod.rd_new (C := codN) w 110 v) (((Fr.refl noB (w.alloc (.cells (codN.A v) 110))).alloc (codT.o zItW)).alloc (codN.o zInV))
  have r2 : codT.bxd (((w.alloc (.cells (codN.A v) 110)).alloc (codT.o zItW)).alloc (codN.o zInV)) (w.heap.size + 1) = some zItW := by
    have h1 : (w.alloc (.cells (codN.A v) 110)).heap.size = w.heap.size + 1 := by simp
    rw [Cod.bxd_old _ _ _ (by simp), ← h1, Cod.bxd_new]
  have r3 : codN.bxd (((w.alloc (.cells (codN.A v) 110)).alloc (codT.o zItW)).alloc (codN.o zInV)) (w.heap.size + 1 + 1) = some zInV := by
    have h1 : ((w.alloc (.cells (codN.A v) 110)).alloc (codT.o zItW)).heap.size = w.heap.size + 1 + 1 := by simp
    rw [← h1, Cod.bxd_new]
  replace h := h.fr f2
  go_enter Tryz.func74, Tryz.ntmps74
  go_upto_region 1 with fail
  generalize ((w.alloc (.cells (codN.A v) 110)).alloc (codT.o zItW)).alloc (codN.o zInV) = W0 at f2 q0 r2 r3 h ⊢
  have hPe : w.heap.size ≤ w.heap.size := Nat.le_refl _
  generalize hP0 : w.heap.size = P0 at q0 r2 r3 ⊢
  have hRw : w.heap.size ≤ P0 + 1 := by omega
  have hRU : P0 + 1 < P0 + 1 + 1 := by omega
  clear hP0 hPe
  go_upto_region 2 with (go_at_call 109; refine (r3getstamp_z B _ (Nat.le_trans hB f2.size) _ _ h hlen nd _ E1.out).mono ?_; rintro e w1 ⟨v1, rfl, hz, f1⟩; obtain ⟨W1, W2, st1, st2, fa, ta, tb⟩ := two_new okS okN w1 zSt nd zInV v1)
  replace r2 := Cod.bxd_fr0 (Cod.bxd_fr0 r2 f1) fa
  replace r3 := Cod.bxd_fr0 (Cod.bxd_fr0 r3 f1) fa
  try replace a1 := Cod.rd_fr0 (Cod.rd_fr0 a1 f1) fa
  have h1 := hz.fr fa
  have a1 := Cod.bxd_rd ta
  have b1 := Cod.bxd_rd tb
  replace f2 := (f2.step0 f1).step0 fa
  clear st1 st2 hz f1 fa ta tb h
  generalize w1.heap.size = N1 at a1 b1 ⊢
  clear q0
  go_upto_region 3 with (go_at_call 109; refine (r3getstamp_z B _ (Nat.le_trans hB f2.size) _ _ h1 m1 a _ E2.out).mono ?_; rintro e w1 ⟨v2, rfl, hz, f1⟩; obtain ⟨W1, W2, st1, st2, fa, ta, tb⟩ := two_new okS okN w1 zSt a zInV v2)
  replace r2 := Cod.bxd_fr0 (Cod.bxd_fr0 r2 f1) fa
  replace r3 := Cod.bxd_fr0 (Cod.bxd_fr0 r3 f1) fa
  try replace a1 := Cod.rd_fr0 (Cod.rd_fr0 a1 f1) fa
  have h2 := hz.fr fa
  have a2 := Cod.bxd_rd ta
  have b2 := Cod.bxd_rd tb
  replace f2 := (f2.step0 f1).step0 fa
  clear st1 st2 hz f1 fa ta tb h1
  generalize w1.heap.size = N2 at a2 b2 ⊢
  clear b1
  go_upto_region 4 with (go_at_call 78; refine (r2gettext_z B _ (Nat.le_trans hB f2.size) _ _ h2 m2 60 60 rfl (by decide) nm _ E3.out).mono ?_; rintro e w1 ⟨v3, rfl, hz, f1⟩)
  have fa : Fr noB w1 (w1.alloc (codN.o v3)) := (Fr.refl noB w1).alloc _
  have b3 := Cod.rd_new' (C := codN) w1 v3
  replace r2 := Cod.bxd_fr0 (Cod.bxd_fr0 r2 f1) fa
  replace r3 := Cod.bxd_fr0 (Cod.bxd_fr0 r3 f1) fa
  replace a1 := Cod.rd_fr0 (Cod.rd_fr0 a1 f1) fa
  replace a2 := Cod.rd_fr0 (Cod.rd_fr0 a2 f1) fa
  have h3 := hz.fr fa
  replace f2 := (f2.step0 f1).step0 fa
  clear hz f1 fa h2 b2
  generalize w1.alloc (codN.o v3) = W3 at b3 r2 r3 a1 a2 h3 f2 ⊢
  generalize w1.heap.size = N3 at b3 ⊢
  go_upto_region 5 with (go_at_call 76; refine (r2getid_z B _ (Nat.le_trans hB f2.size) _ _ h3 m3 sb _ E4.out).mono ?_; rintro e w1 ⟨v4, rfl, hz, f1⟩; obtain ⟨W2, st1, st2, fa, ta, tb⟩ := two_newA okN w1 sb zInV v4)
  replace r2 := Cod.bxd_fr0 (Cod.bxd_fr0 r2 f1) fa
  replace r3 := Cod.bxd_fr0 (Cod.bxd_fr0 r3 f1) fa
  replace a1 := Cod.rd_fr0 (Cod.rd_fr0 a1 f1) fa
  replace a2 := Cod.rd_fr0 (Cod.rd_fr0 a2 f1) fa
  have h4 := hz.fr fa
  have a4 := bxA_rd ta
  have b4 := Cod.bxd_rd tb
  replace f2 := (f2.step0 f1).step0 fa
  clear st1 st2 hz f1 fa ta tb h3 b3
  generalize w1.heap.size = N4 at a4 b4 ⊢
  go_upto_region 6 with (go_at_call 72; refine (getnum_z B _ v4 _ h4 m4 1000 1000 rfl (by decide) n _ E5.out).mono ?_; rintro e w1 ⟨v5, rfl, hz, f1⟩)
  have fa : Fr noB w1 (w1.alloc (codN.o v5)) := (Fr.refl noB w1).alloc _
  have b5 := Cod.bxd_new (C := codN) w1 v5
  have hUE : P0 + 1 + 1 < w1.heap.size := Nat.lt_of_lt_of_le (Cod.bxd_lt r3) f1.size
  replace r2 := Cod.bxd_fr0 (Cod.bxd_fr0 r2 f1) fa
  replace r3 := Cod.bxd_fr0 (Cod.bxd_fr0 r3 f1) fa
  replace a1 := Cod.rd_fr0 (Cod.rd_fr0 a1 f1) fa
  replace a2 := Cod.rd_fr0 (Cod.rd_fr0 a2 f1) fa
  replace a4 := rdI_fr (rdI_fr a4 (rdI_lt a4) f1 (by simp [noB])) (by have := rdI_lt a4; have := f1.size; omega) fa (by simp [noB])
  have h5 := hz.fr fa
  replace f2 := (f2.step0 f1).step0 fa
  clear hz f1 fa h4 b4
  generalize w1.alloc (codN.o v5) = W5 at b5 r2 r3 a1 a2 a4 h5 f2 ⊢
  generalize w1.heap.size = E at b5 hUE ⊢
  generalize hr0 : ({ zItW with Node := nd, At := a, Name := nm, Sub := sb } : ItW) = r0
  have fa : Fr noB W5 (W5.alloc (codT.o r0)) := (Fr.refl noB W5).alloc _
  have hb : RN codT B w (W5.alloc (codT.o r0)) (P0 + 1) (P0 + 1 + 1) E W5.heap.size v5 s5 zItW r0 :=
    ⟨Cod.bxd_fr0 r2 fa, Cod.bxd_fr0 r3 fa, Cod.bxd_fr0 b5 fa, h5.fr fa, Cod.bxd_new _ _, f2.step0 fa, hB, hRw, hRU, hUE, Cod.bxd_lt b5⟩
  go_upto_region 7 with fail
  have R0 := Lib.hid hr0.symm
  generalize W5.alloc (codT.o r0) = W6 at hb ⊢
  generalize W5.heap.size = P at hb ⊢
  clear fa a1 a2 a4 h5 b5 r2 r3 f2 hRw hRU hUE hr0
  generalize hRe : P0 + 1 = R at hb ⊢
  go_upto_region 8 with fail
  go_loopg [15] n (fun gk iv wr => RtR B w R (R + 1) E P n 140737488355328 r0 tot gk iv wr)
  case atStart => exact ⟨0, [], s5, v5, none, 0, rfl, by omega, by omega, rfl, m5, by
    have e : ({ r0 with A := none, n := ([] : List Hd).length, c := 0 } : ItW) = r0 := by rw [R0.out]; rfl
    rw [e]; exact hb, World.ownsRow_nil _ _ _ _, by rw [HT.out, Nat.sub_zero]⟩
  case round =>
    obtain ⟨k, l, sk, vk, A, c, rfl, rfl, hk, hl, hmx, hb, ho, htot⟩ := hrel
    have kE := (nAt (Cod.bxd_rd hb.es)).bad
    rw [hb.inn.bad] at kE
    by_cases hgo : k < n ∧ sk.2 = false
    · obtain ⟨hlt, hskb⟩ := hgo
      rw [hskb] at kE
      have i1 : (k : Int) < (n : Int) := by omega
      obtain ⟨xa, sa, ea⟩ := rd_eq rdSt sk
      have ba := rdSt_len sk
      rw [ea] at ba
      obtain ⟨xd, sn, ed⟩ := rd_eq rdId sa
      have bd := rdId_len sa
      rw [ed] at bd
      simp only at ba bd
      have hma : sa.1.length ≤ 140737488355328 := Nat.le_trans ba hmx
      have hmn : sn.1.length ≤ 140737488355328 := Nat.le_trans bd hma
      have ex : rdHd sk = ({ zHd with At := xa, Data := xd }, sn) := by
        unfold rdHd
        rw [ea]
        dsimp only
        rw [ed]
      have EA := Lib.hid ea
      have ED := Lib.hid ed
      have HT2 := Lib.hid (htot.trans (manyT_step rdHd n k hlt l sk sn _ hskb ex))
      have HL := Lib.hid hl
      have HLT := Lib.hid hlt
      have kV := Cod.bxd_rd hb.es
      clear ex htot hl ea ed ba bd hlt hskb
      go_upto_region 11 with (go_at_call 109; refine (r3getstamp_z B _ hb.size _ _ hb.inn hmx xa _ EA.out).mono ?_; rintro e w1 ⟨va, rfl, hz, f1⟩; obtain ⟨W1, W2, st1, st2, fa, ta, tb⟩ := two_new okS okN w1 zSt xa zInV va)
      have fr := f1.step0 fa
      replace hb := hb.new fr
      replace ho := own_new0 ho fr
      have ha := hz.fr fa
      have qa := Cod.bxd_rd ta
      have qb := Cod.bxd_rd tb
      clear st1 st2 hz f1 fa ta tb fr kE kV
      generalize w1.heap.size = Na at qa qb ⊢
      go_upto_region 12 with (go_at_call 76; refine (r2getid_z B _ hb.size _ _ ha hma xd _ ED.out).mono ?_; rintro e w1 ⟨vd, rfl, hz, f1⟩; obtain ⟨W2, st1, st2, fa, ta, tb⟩ := two_newA okN w1 xd zInV vd)
      have fr := f1.step0 fa
      replace hb := hb.new fr
      replace ho := own_new0 ho fr
      replace qa := Cod.rd_fr0 qa fr
      have hd := hz.fr fa
      have qd := bxA_rd ta
      have qe := tb
      clear st1 st2 hz f1 fa ta tb fr qb ha
      generalize w1.heap.size = Nd at qd qe ⊢
      have k37 := (itAt (Cod.bxd_rd hb.bx)).heads
      have fn : Fr noB W2 (W2.alloc (codH.ro [⟨xa, xd⟩])) := (Fr.refl noB W2).alloc _
      have sl := Cod.sl_new (C := codH) W2 [⟨xa, xd⟩]
      replace hb := hb.new fn
      replace ho := own_new0 ho fn
      replace hd := hd.fr fn
      replace qe := Cod.bxd_fr0 qe fn
      clear fn
      go_upto_region 13 with (at_builtin; refine wpList_appC' etH w _ rfl _ _ rfl A l.length c l rfl rfl ho (some ⟨W2.heap.size, 0, none⟩) 1 1 [⟨xa, xd⟩] rfl sl rfl (by have := HL.out; have := HLT.out; simp; omega) hb.fr.size ?_; intro A5 c5 w5 hc5 hm5 ho5 hg5 hA5; have hd0 := RN.inG hb ho hg5 hd; have qe0 := bxd_grow qe ho (by decide) hg5; replace hb := hb.grow ho (by decide) (by decide) hg5; obtain ⟨l', hl'⟩ : ∃ l', l' = l ++ [⟨xa, xd⟩] := ⟨_, rfl⟩; rw [← hl'] at ho5 ⊢; have HL' := Lib.hid hl'; clear hl'; have k38 := (itAt (Cod.bxd_rd hb.bx)).heads; have k39 := (Cod.bxd_blk hb.bx).frozen 37)
      have ho6 := hb.own_turn ho5 (by decide) (Cod.set_fr w5 P 37 (.slice A5 l'.length c5))
      have fs := Cod.set_fr w5 P 37 (.slice A5 l'.length c5)
      have hd1 := hd0.box hb.BP fs
      have nNP : Nd + 1 ≠ P := Blk.ne (Cod.bxd_blk qe0) (Cod.bxd_blk hb.bx) (by decide)
      have qe1 := Cod.bxd_fr qe0 fs (fun e => nNP e)
      replace hb := hb.set 37 (.slice A5 l'.length c5) _ (seT_Heads _ A5 _ c5)
      clear k37 k38 k39 sl ho hg5 ho5 hA5 fs hd0 qe0 nNP qa qd hd qe
      generalize World.setCell _ _ _ = W3 at hb ho6 hd1 qe1 ⊢
      have qv := Cod.bxd_rd qe1
      have hst := okN.stR_box hb.es vd
      simp only [Cod.v] at hst
      have ho7 := hb.own_rdr ho6 (by decide) (hb.rfr vd)
      have hb' := hb.rdr hd1
      go_wp2_with fail
      go_roundg (n - (k + 1))
      case measure => omega
      case rel => exact ⟨k + 1, l', sn, vd, A5, c5, by simp, rfl, by have := HLT.out; omega, by rw [HL'.out]; simp [HL.out], hmn, hb', ho7, by rw [HL'.out]; exact HT2.out⟩
    · have hor : sk.2 = true ∨ n ≤ k := by
        by_cases hlt : k < n
        · left
          by_cases hs : sk.2 = false
          · exact absurd ⟨hlt, hs⟩ hgo
          · simpa using hs
        · right; omega
      rw [manyT_end rdHd n k l sk hor] at htot
      have hs2 : sk = s' := by rw [← HS.out, htot]
      have hx2 : (⟨nd, a, nm, sb, l⟩ : It) = x := by rw [← HX.out, htot]
      subst hs2 hx2
      have hl1 : l.length ≤ 1000 := by omega
      have HL := Lib.hid hl
      have HC3 := C3
      clear htot hl HT HX HS hgo
      by_cases hlt : k < n
      · have hb1 : sk.2 = true := by rcases hor with h | h; exact h; omega
        rw [hb1] at kE
        have i1 : (k : Int) < (n : Int) := by omega
        clear hor
        go_upto_region 14 with fail
        have fd : Fr noB wr wr.drew := (Fr.refl noB wr).drew
        have o1 := hb.o1; have o2 := hb.o2; have o3 := hb.o3; have o4 := hb.o4; have oB := hb.hB
        have hbd := hb.new fd
        have hod := own_new0 ho fd
        obtain ⟨rF, hrF⟩ : ∃ rF : ItW, rF = { r0 with A := A, n := l.length, c := c } := ⟨_, rfl⟩
        have hin : ItIn wr.drew rF ⟨nd, a, nm, sb, l⟩ := by
          rw [hrF, R0.out]
          exact ⟨rfl, rfl, Sl.own hod, by simp only; omega, by have := C3.out; simp only; omega⟩
        have hown : wr.drew.ownsRow w.heap.size 84 34 (.slice rF.A rF.n rF.c) rF.n (codH.row l) := by
          rw [hrF]
          exact hod
        rw [← hrF] at hbd
        clear hb ho hod hrF hl1
        refine wp_region_M 3 4 [⟨604462909807314587353088, 16384, 0⟩, ⟨1208925819614629174706176, 8192, 0⟩, ⟨0, 604462909807314587353092, 1⟩, ⟨0, 1208925819614629174706184, 7⟩] [(true, 0), (true, 1), (false, 2)] (fun w' => codT.rd w' P 0 = some rF ∧ codN.rd w' E 0 = some vk) (by kernel_rfl) rfl (by kernel_rfl) (by kernel_rfl) (by kernel_rfl) ⟨Cod.bxd_rd hbd.bx, Cod.bxd_rd hbd.es⟩ (fun hA hF => ?_)
        iterate 2
          refine wpAnyS_take (v := ?_) hA rfl (fun _ _ _ h => h) (Or.inl ⟨by rfl, ?_⟩) hF (fun hA => ?_)
          rotate_left
          · intro wS hSw; (try dsimp only at hSw); obtain ⟨s1, s2⟩ := hSw; first | (apply Eq.trans; apply ex_ld_id; exact rfl; exact rfl; assumption; with_reducible rfl) | (apply Eq.trans; apply ex_ldN_at; exact rfl; exact rfl; assumption; with_reducible rfl) | (apply Eq.trans; apply ex_ldT_at; exact rfl; exact rfl; assumption; with_reducible rfl) | (go_simp; try with_reducible rfl)
          try simp only [List.getElem_toArray, List.getElem_cons_zero, List.getElem_cons_succ, Act.put, List.setIfInBounds_toArray, List.set_cons_zero, List.set_cons_succ]
        refine wpAnyS_one hA rfl (fun K' hK => ?_)
        refine step_skipI rfl _ (ex_stC_at okT rfl rfl rfl hbd.rs) ?_
        obtain ⟨g1, g2, g3⟩ := Cod.put_fr hbd.rs rF
        refine hK.out _ _ ⟨Cod.rd_fr hF.1 g1 (fun e => by simp only [oneB] at e; omega), Cod.rd_fr hF.2 g1 (fun e => by simp only [oneB] at e; omega)⟩ (fun hA => ?_)
        clear hK K'
        refine wpAnyS_end hA rfl ?_
        simp only [List.drop_succ_cons, List.drop_zero]
        clear hF
        have t3 := Cod.bxd_fr hbd.us g1 (fun e => by simp only [oneB] at e; omega)
        have hst := okN.stR_box t3 vk
        simp only [Cod.v] at hst
        obtain ⟨k1, k2, k3⟩ := Cod.put_fr t3 vk
        have g4 := Cod.bxd_fr g3 k1 (fun e => by simp only [oneB] at e; omega)
        have i2 := (hbd.inn.box (show B ≤ R by omega) g1).box (show B ≤ R + 1 by omega) k1
        have fo := (hbd.fr.step g1 (fun b hb => .inl (by simp only [oneB] at hb; omega))).step k1 (fun b hb => .inl (by simp only [oneB] at hb; omega))
        have hw1 := own_box (Cod.bxd_blk t3) (own_box (Cod.bxd_blk hbd.rs) hown (by decide) g1) (by decide) k1
        have hin2 : ItIn (codN.put (codT.put wr.drew R rF) (R + 1) vk) rF ⟨nd, a, nm, sb, l⟩ := ⟨hin.eq, hin.len, Sl.own hw1, hin.bd, hin.nm⟩
        clear g1 g3 t3 k1 hbd hin hown fd o1 o2 o3 o4 oB
        go_wp2_with fail
        refine bodyPost_ret (ret_cc okT okN rfl _ _ R (R + 1) _ _ (by first | rfl | (subst hRe; rfl)) (by first | rfl | (subst hRe; rfl)) g4 k3) rfl ?_
        exact ⟨rF, vk, rfl, hin2, hw1, i2, fo⟩
      · have i1 : ¬ (k : Int) < (n : Int) := by omega
        clear hor hlt
        go_upto_region 14 with fail
        have fd : Fr noB wr wr.drew := (Fr.refl noB wr).drew
        have o1 := hb.o1; have o2 := hb.o2; have o3 := hb.o3; have o4 := hb.o4; have oB := hb.hB
        have hbd := hb.new fd
        have hod := own_new0 ho fd
        obtain ⟨rF, hrF⟩ : ∃ rF : ItW, rF = { r0 with A := A, n := l.length, c := c } := ⟨_, rfl⟩
        have hin : ItIn wr.drew rF ⟨nd, a, nm, sb, l⟩ := by
          rw [hrF, R0.out]
          exact ⟨rfl, rfl, Sl.own hod, by simp only; omega, by have := C3.out; simp only; omega⟩
        have hown : wr.drew.ownsRow w.heap.size 84 34 (.slice rF.A rF.n rF.c) rF.n (codH.row l) := by
          rw [hrF]
          exact hod
        rw [← hrF] at hbd
        clear hb ho hod hrF hl1
        refine wp_region_M 3 4 [⟨604462909807314587353088, 16384, 0⟩, ⟨1208925819614629174706176, 8192, 0⟩, ⟨0, 604462909807314587353092, 1⟩, ⟨0, 1208925819614629174706184, 7⟩] [(true, 0), (true, 1), (false, 2)] (fun w' => codT.rd w' P 0 = some rF ∧ codN.rd w' E 0 = some vk) (by kernel_rfl) rfl (by kernel_rfl) (by kernel_rfl) (by kernel_rfl) ⟨Cod.bxd_rd hbd.bx, Cod.bxd_rd hbd.es⟩ (fun hA hF => ?_)
        iterate 2
          refine wpAnyS_take (v := ?_) hA rfl (fun _ _ _ h => h) (Or.inl ⟨by rfl, ?_⟩) hF (fun hA => ?_)
          rotate_left
          · intro wS hSw; (try dsimp only at hSw); obtain ⟨s1, s2⟩ := hSw; first | (apply Eq.trans; apply ex_ld_id; exact rfl; exact rfl; assumption; with_reducible rfl) | (apply Eq.trans; apply ex_ldN_at; exact rfl; exact rfl; assumption; with_reducible rfl) | (apply Eq.trans; apply ex_ldT_at; exact rfl; exact rfl; assumption; with_reducible rfl) | (go_simp; try with_reducible rfl)
          try simp only [List.getElem_toArray, List.getElem_cons_zero, List.getElem_cons_succ, Act.put, List.setIfInBounds_toArray, List.set_cons_zero, List.set_cons_succ]
        refine wpAnyS_one hA rfl (fun K' hK => ?_)
        refine step_skipI rfl _ (ex_stC_at okT rfl rfl rfl hbd.rs) ?_
        obtain ⟨g1, g2, g3⟩ := Cod.put_fr hbd.rs rF
        refine hK.out _ _ ⟨Cod.rd_fr hF.1 g1 (fun e => by simp only [oneB] at e; omega), Cod.rd_fr hF.2 g1 (fun e => by simp only [oneB] at e; omega)⟩ (fun hA => ?_)
        clear hK K'
        refine wpAnyS_end hA rfl ?_
        simp only [List.drop_succ_cons, List.drop_zero]
        clear hF
        have t3 := Cod.bxd_fr hbd.us g1 (fun e => by simp only [oneB] at e; omega)
        have hst := okN.stR_box t3 vk
        simp only [Cod.v] at hst
        obtain ⟨k1, k2, k3⟩ := Cod.put_fr t3 vk
        have g4 := Cod.bxd_fr g3 k1 (fun e => by simp only [oneB] at e; omega)
        have i2 := (hbd.inn.box (show B ≤ R by omega) g1).box (show B ≤ R + 1 by omega) k1
        have fo := (hbd.fr.step g1 (fun b hb => .inl (by simp only [oneB] at hb; omega))).step k1 (fun b hb => .inl (by simp only [oneB] at hb; omega))
        have hw1 := own_box (Cod.bxd_blk t3) (own_box (Cod.bxd_blk hbd.rs) hown (by decide) g1) (by decide) k1
        have hin2 : ItIn (codN.put (codT.put wr.drew R rF) (R + 1) vk) rF ⟨nd, a, nm, sb, l⟩ := ⟨hin.eq, hin.len, Sl.own hw1, hin.bd, hin.nm⟩
        clear g1 g3 t3 k1 hbd hin hown fd o1 o2 o3 o4 oB
        go_wp2_with fail
        refine bodyPost_ret (ret_cc okT okN rfl _ _ R (R + 1) _ _ (by first | rfl | (subst hRe; rfl)) (by first | rfl | (subst hRe; rfl)) g4 k3) rfl ?_
        exact ⟨rF, vk, rfl, hin2, hw1, i2, fo⟩
end Go.Proofs.YtejkfekpgbmdiaaGreat
