/- The reference's readers as values (In); contracts: failed, GetNum, Done, open. Contracts: the reference's GetStamp, GetText, open. (ex_ldN_at) Contracts: the reference's open, GetText. Contract: the reference's GetId. (ex_ldN_at, ex_ld_arr, rdI) -/
import Derived.Test.YtejkfekpgbmdiaaGreatR4e
import Derived.Test.YtejkfekpgbmdiaaGreatRef2b
namespace Go.Proofs.YtejkfekpgbmdiaaGreat
open Go.RowKit
set_option linter.unusedVariables false
set_option linter.unusedSimpArgs false

structure InV where
  A : Option Addr
  n : Nat
  c : Nat
  bad : Bool
def csN (v : InV) : List Value := [.slice v.A v.n v.c, .bool v.bad]
def zInV : InV := ⟨none, 0, 0, false⟩
def codN : Cod InV := ⟨110, 2, csN, zInV, fun _ => rfl, by decide, fun x u hu => by simp [csN] at hu; rcases hu with rfl | rfl <;> rfl, fun x y h => by
  obtain ⟨a, b, c, d⟩ := x; obtain ⟨a', b', c', d'⟩ := y
  simp only [csN, List.cons.injEq, Value.slice.injEq, Value.bool.injEq, and_true] at h
  obtain ⟨⟨rfl, rfl, rfl⟩, rfl⟩ := h
  rfl⟩
theorem okN : CodOk Tryz.prog codN := ⟨⟨_, Tryz.underlying110, rfl⟩, by kernel_rfl, fun w => (zero_of_info (P := Tryz.prog) (t := 110) (v := .agg (codN.cs codN.z).toArray) (n := 2) (by kernel_rfl)).1 w⟩
@[simp ↓] theorem ex_ldN (ρ : Operand → Value) (d : Option Nat) (a : Operand) (t : TypeId) (p : String) (f : Array Edge) (g : Option (Nat × Bool)) (w : World) :
    (execOp ρ { dst := d, op := .load 110 a, type := t, pos := p, after := f, guard := g }).run Tryz.prog w = codN.ldR w (ρ a) (exElse ρ { dst := d, op := .load 110 a, type := t, pos := p, after := f, guard := g } w) := okN.ldOp ρ _ a rfl w
@[simp ↓] theorem ex_alN (ρ : Operand → Value) (d : Option Nat) (t : TypeId) (p : String) (f : Array Edge) (g : Option (Nat × Bool)) (w : World) :
    (execOp ρ { dst := d, op := .alloc 110, type := t, pos := p, after := f, guard := g }).run Tryz.prog w = .ok (.value (.pointer (some ⟨w.heap.size, 0, none⟩))) (w.alloc (codN.o zInV)) := okN.alOp ρ _ rfl w
@[simp ↓] theorem ex_stN (ρ : Operand → Value) (a x : Operand) (d : Option Nat) (t : TypeId) (p : String) (f : Array Edge) (g : Option (Nat × Bool)) (w : World) :
    (execOp ρ { dst := d, op := .store 110 a x, type := t, pos := p, after := f, guard := g }).run Tryz.prog w = codN.stR w (ρ a) (ρ x) := Cod.stOp (C := codN) ρ _ a x rfl w
@[simp] theorem bx_N (w : World) (x : InV) : (Instr.box 110 (.agg (codN.A x))).run Tryz.prog w = .ok (.pointer (some ⟨w.heap.size, 0, none⟩)) (w.alloc (codN.o x)) := Cod.bxO (C := codN) w x
@[simp] theorem st_newN (w : World) (x y : InV) : codN.stR (w.alloc (codN.o y)) (.pointer (some ⟨w.heap.size, 0, none⟩)) (.agg (codN.A x)) = .ok .skip (w.alloc (codN.o x)) := okN.stR_new w x y
theorem ex_ldN_at {ρ : Operand → Value} {o : Oper} {a : Operand} {w : World} {b off : Nat} {x : InV} (ho : o.op = .load 110 a) (ha : ρ a = .pointer (some ⟨b, off, none⟩)) (hr : codN.rd w b off = some x) :
    (execOp ρ o).run Tryz.prog w = .ok (.value (.agg (codN.A x))) w := okN.ex_ld ho ha hr
@[simp] theorem bld0_N (w : World) : (Instr.build 110 #[]).run Tryz.prog w = .ok (.agg (codN.A zInV)) w := by
  rw [Cod.A_eq]
  kernel_rfl
@[simp ↓] theorem ex_b0N (ρ : Operand → Value) (d : Option Nat) (t : TypeId) (p : String) (f : Array Edge) (g : Option (Nat × Bool)) (w : World) :
    (execOp ρ { dst := d, op := .build 110 #[], type := t, pos := p, after := f, guard := g }).run Tryz.prog w = .ok (.value (.agg (codN.A zInV))) w := by
  refine ex_buildG 110 ρ _ #[] w w _ rfl ?_
  rw [List.map_toArray, List.map_nil]
  exact bld0_N w
structure NAt (w : World) (b : Nat) (r : InV) : Prop where
  sl : w.cell? ⟨b, 0, none⟩ = some (.slice r.A r.n r.c)
  bad : w.cell? ⟨b, 1, none⟩ = some (.bool r.bad)
  self : codN.rd w b 0 = some r
theorem nAt {w : World} {b : Nat} {r : InV} (h : codN.rd w b 0 = some r) : NAt w b r := by
  have e (k : Nat) {v : Value} (hv : (codN.cs r)[k]? = some v) := by simpa using Cod.rd_cell h k hv
  exact ⟨e 0 rfl, e 1 rfl, h⟩
/-- what a reader's value says; its bytes lie in a block below B -/
structure InAt (B : Nat) (w : World) (v : InV) (s : RS) : Prop where
  n : v.n = s.1.length
  c : s.1.length ≤ v.c
  sl : Sl w v.A (bv s.1)
  bad : v.bad = s.2
  lt : ∀ b, v.A.map (·.block) = some b → b < B
theorem InAt.fr {B : Nat} {w w' : World} {v : InV} {s : RS} (h : InAt B w v s) (f : Fr noB w w') : InAt B w' v s := ⟨h.n, h.c, h.sl.fr0 f, h.bad, h.lt⟩
theorem InAt.box {B : Nat} {w w' : World} {v : InV} {s : RS} (h : InAt B w v s) {g : Nat} (hg : B ≤ g) (f : Fr (oneB g) w w') : InAt B w' v s :=
  ⟨h.n, h.c, h.sl.fr f (fun a ha e => by
    have h1 := h.lt a.block (by rw [ha]; rfl)
    simp only [oneB] at e
    omega), h.bad, h.lt⟩
def fInV : InV := ⟨none, 0, 0, true⟩
theorem InAt.failed (B : Nat) (w : World) : InAt B w fInV ([], true) := ⟨rfl, by simp, Sl.nil _ _, rfl, fun b hb => by cases hb⟩
theorem A_N (v : InV) : codN.A v = #[.slice v.A v.n v.c, .bool v.bad] := Cod.A_eq codN v
theorem failed_z (w : World) : Calls Tryz.prog 108 #[] w (Gives w (.agg (codN.A fInV))) := by
  refine (failed_any w).mono ?_
  rintro e w' ⟨rfl, rfl⟩
  exact ⟨by rw [A_N]; rfl, (Fr.refl noB w).alloc _⟩
/-- a value and a reader's value come out -/
def Out (B : Nat) (w : World) (x : Value) (s' : RS) (e : Ending) (w' : World) : Prop := ∃ v', e = .returned (.tuple #[x, .agg (codN.A v')]) ∧ InAt B w' v' s' ∧ Fr noB w w'
theorem getnum_z (B : Nat) (w : World) (v : InV) (s : RS) (h : InAt B w v s) (hlen : s.1.length ≤ 140737488355328) (most : Nat) (z : Int) (hz : (most : Int) = z) (hm : most ≤ 4611686018427387904) (x : Nat) (s' : RS) (hh : rdNum most s = (x, s')) :
    Calls Tryz.prog 72 #[.agg (codN.A v), .int .i64 z] w (Out B w (.int .i64 (x : Int)) s') := by
  subst hz
  have hg := getnum_any w v.A v.c s most hm h.sl h.c hlen
  have ev : codN.A v = #[.slice v.A s.1.length v.c, .bool s.2] := by rw [A_N, h.n, h.bad]
  rw [ev]
  refine hg.mono ?_
  rintro e w' ⟨A, c, rfl, hc, hs, f, hA⟩
  rw [hh] at hc hs ⊢
  exact ⟨⟨A, s'.1.length, c, s'.2⟩, by rw [A_N], ⟨rfl, hc, hs, rfl, fun b hb => h.lt b (hA b hb)⟩, f⟩
set_option maxRecDepth 100000 in
theorem r2done_z {B : Nat} (w : World) (v : InV) (s : RS) (h : InAt B w v s) : Calls Tryz.prog 75 #[.agg (codN.A v)] w (Gives w (.bool (decide (s = ([], false))))) := by
  have f0 : Fr noB w (w.alloc (.cells (codN.A v) 110)) := (Fr.refl noB w).alloc _
  obtain ⟨q1, q2, q3⟩ := nAt (Cod.rd_new (C := codN) w 110 v)
  have E := Lib.hid (show decide (s = ([], false)) = (!s.2 && decide (s.1.length = 0)) by
    obtain ⟨l, b⟩ := s
    rw [Bool.eq_iff_iff]
    cases b <;> simp)
  rw [h.n] at q1
  rw [h.bad] at q2
  have hn0 : ((s.1.length : Int) == 0) = decide (s.1.length = 0) := by rw [Bool.eq_iff_iff]; simp
  generalize s.1.length = n at q1 E hn0
  generalize s.2 = b at q2 E
  clear h q3
  go_enter Tryz.func75, Tryz.ntmps75
  go_upto_region 1 with fail
  generalize w.alloc (.cells (codN.A v) 110) = W0 at f0 q1 q2 ⊢
  generalize w.heap.size = P at q1 q2 ⊢
  cases b with
  | true =>
    go_wp2_with fail
    go_ret
    exact ⟨by rw [E.out]; rfl, f0⟩
  | false =>
    go_wp2_with fail
    go_ret
    exact ⟨by rw [E.out]; simp [hn0], f0⟩
/-! results that are variables -/
theorem results_cell_cell {fn : Func} {p u : Tmp} {ty tu : TypeId} (h : fn.results = #[.cell p ty, .cell u tu]) (tmps : Array Value) (P : Program) (w : World) :
    (results fn tmps).run P w =
      ((asAddr (tmps.getD p undef)).run P w).andThen fun a w₁ => ((loadVar ty a).run P w₁).andThen fun v w₂ => ((asAddr (tmps.getD u undef)).run P w₂).andThen fun b w₃ => ((loadVar tu b).run P w₃).andThen fun x w₄ => .ok (.tuple #[v, x]) w₄ := by
  simp only [results, h]
  simp [Sem.run_bind, Result.andThen]
theorem results_tmp_cell {fn : Func} {p u : Tmp} {tu : TypeId} (h : fn.results = #[.tmp p, .cell u tu]) (tmps : Array Value) (P : Program) (w : World) :
    (results fn tmps).run P w =
      ((asAddr (tmps.getD u undef)).run P w).andThen fun b w₃ => ((loadVar tu b).run P w₃).andThen fun x w₄ => .ok (.tuple #[tmps.getD p undef, x]) w₄ := by
  simp only [results, h]
  simp [Sem.run_bind, Result.andThen]
theorem CodOk.lv {α : Type} {C : Cod α} (H : CodOk Tryz.prog C) {w : World} {R : Nat} {x : α} (hb : C.bxd w R = some x) : (loadVar C.t ⟨R, 0, none⟩).run Tryz.prog w = .ok (.agg (C.A x)) w := by
  obtain ⟨d, h1, h2⟩ := H.und
  rw [run_loadVar_mid (P := Tryz.prog) w R 0 C.t (C.cs x) d (Cod.rd_rd (Cod.bxd_rd hb)) h1 h2 (by rw [C.len]; exact H.info), C.A_eq]
theorem lv_arr {w : World} {R : Nat} {x : ID} (hb : bxA w R = some x) : (loadVar 44 ⟨R, 0, none⟩).run Tryz.prog w = .ok (encI x) w := by
  have := run_loadVar_mid (P := Tryz.prog) w R 0 44 (bv x.1) _ (rdI_rd (bxA_rd hb)) Tryz.underlying44 rfl (by rw [bv_length, x.2]; exact infoArr)
  rw [this]
  simp only [encI, idA_eq]
theorem ret_cc {α β : Type} {C : Cod α} {D : Cod β} (H : CodOk Tryz.prog C) (K : CodOk Tryz.prog D) {fn : Func} {p u : Tmp} (h : fn.results = #[.cell p C.t, .cell u D.t]) (tmps : Array Value) (w : World) (R U : Nat) (x : α) (y : β)
    (hp : tmps.getD p undef = .pointer (some ⟨R, 0, none⟩)) (hu : tmps.getD u undef = .pointer (some ⟨U, 0, none⟩)) (hb : C.bxd w R = some x) (hd : D.bxd w U = some y) : (results fn tmps).run Tryz.prog w = .ok (.tuple #[.agg (C.A x), .agg (D.A y)]) w := by
  rw [results_cell_cell h, hp, hu]
  simp only [asAddr, Sem.run_pure, Result.andThen_ok, H.lv hb, K.lv hd]
theorem ret_ac {β : Type} {D : Cod β} (K : CodOk Tryz.prog D) {fn : Func} {p u : Tmp} (h : fn.results = #[.cell p 44, .cell u D.t]) (tmps : Array Value) (w : World) (R U : Nat) (x : ID) (y : β)
    (hp : tmps.getD p undef = .pointer (some ⟨R, 0, none⟩)) (hu : tmps.getD u undef = .pointer (some ⟨U, 0, none⟩)) (hb : bxA w R = some x) (hd : D.bxd w U = some y) : (results fn tmps).run Tryz.prog w = .ok (.tuple #[encI x, .agg (D.A y)]) w := by
  rw [results_cell_cell h, hp, hu]
  simp only [asAddr, Sem.run_pure, Result.andThen_ok, lv_arr hb, K.lv hd]
theorem ret_tc {β : Type} {D : Cod β} (K : CodOk Tryz.prog D) {fn : Func} {p u : Tmp} (h : fn.results = #[.tmp p, .cell u D.t]) (tmps : Array Value) (w : World) (U : Nat) (y : β)
    (hu : tmps.getD u undef = .pointer (some ⟨U, 0, none⟩)) (hd : D.bxd w U = some y) : (results fn tmps).run Tryz.prog w = .ok (.tuple #[tmps.getD p undef, .agg (D.A y)]) w := by
  rw [results_tmp_cell h, hu]
  simp only [asAddr, Sem.run_pure, Result.andThen_ok, K.lv hd]
/-! readers made -/
theorem bldN2 (w : World) (A : Option Addr) (n c : Nat) (b : Bool) : (Instr.build 110 #[(0, .slice A n c), (1, .bool b)]).run Tryz.prog w = .ok (.agg (codN.A ⟨A, n, c, b⟩)) w := by
  rw [A_N]; go_simp
theorem bldN_S (w : World) (A : Option Addr) (n c : Nat) : (Instr.build 110 #[(0, .slice A n c)]).run Tryz.prog w = .ok (.agg (codN.A ⟨A, n, c, false⟩)) w := by
  rw [A_N]; go_simp
theorem bldN_B (w : World) (b : Bool) : (Instr.build 110 #[(1, .bool b)]).run Tryz.prog w = .ok (.agg (codN.A ⟨none, 0, 0, b⟩)) w := by
  rw [A_N]; go_simp
noncomputable def mkN (w : World) (v u : Value) (r : Result Next) : Result Next := match v, u with
  | .slice A n c, .bool b => .ok (.value (.agg (codN.A ⟨A, n, c, b⟩))) w
  | _, _ => r
@[simp] theorem mkN_at (w : World) (A : Option Addr) (n c : Nat) (b : Bool) (r : Result Next) : mkN w (.slice A n c) (.bool b) r = .ok (.value (.agg (codN.A ⟨A, n, c, b⟩))) w := rfl
noncomputable def mkNS (w : World) (v : Value) (r : Result Next) : Result Next := match v with
  | .slice A n c => .ok (.value (.agg (codN.A ⟨A, n, c, false⟩))) w
  | _ => r
@[simp] theorem mkNS_at (w : World) (A : Option Addr) (n c : Nat) (r : Result Next) : mkNS w (.slice A n c) r = .ok (.value (.agg (codN.A ⟨A, n, c, false⟩))) w := rfl
noncomputable def mkNB (w : World) (v : Value) (r : Result Next) : Result Next := match v with
  | .bool b => .ok (.value (.agg (codN.A ⟨none, 0, 0, b⟩))) w
  | _ => r
@[simp] theorem mkNB_at (w : World) (b : Bool) (r : Result Next) : mkNB w (.bool b) r = .ok (.value (.agg (codN.A ⟨none, 0, 0, b⟩))) w := rfl
@[simp ↓] theorem ex_bldN2 (ρ : Operand → Value) (x y : Operand) (d : Option Nat) (t : TypeId) (p : String) (f : Array Edge) (g : Option (Nat × Bool)) (w : World) :
    (execOp ρ { dst := d, op := .build 110 #[(0, x), (1, y)], type := t, pos := p, after := f, guard := g }).run Tryz.prog w = mkN w (ρ x) (ρ y) (exElse ρ { dst := d, op := .build 110 #[(0, x), (1, y)], type := t, pos := p, after := f, guard := g } w) := by
  have he : ∀ o, exElse ρ o w = (execOp ρ o).run Tryz.prog w := by intro o; unfold exElse; rfl
  rw [he]
  unfold mkN
  split
  · rename_i A n c b hv hu
    refine ex_buildG 110 ρ _ #[(0, x), (1, y)] w w _ rfl ?_
    have := bldN2 w A n c b
    simpa [hv, hu] using this
  · rfl
@[simp ↓] theorem ex_bldN_S (ρ : Operand → Value) (x : Operand) (d : Option Nat) (t : TypeId) (p : String) (f : Array Edge) (g : Option (Nat × Bool)) (w : World) :
    (execOp ρ { dst := d, op := .build 110 #[(0, x)], type := t, pos := p, after := f, guard := g }).run Tryz.prog w = mkNS w (ρ x) (exElse ρ { dst := d, op := .build 110 #[(0, x)], type := t, pos := p, after := f, guard := g } w) := by
  have he : ∀ o, exElse ρ o w = (execOp ρ o).run Tryz.prog w := by intro o; unfold exElse; rfl
  rw [he]
  unfold mkNS
  split
  · rename_i A n c hv
    refine ex_buildG 110 ρ _ #[(0, x)] w w _ rfl ?_
    have := bldN_S w A n c
    simpa [hv] using this
  · rfl
@[simp ↓] theorem ex_bldN_B (ρ : Operand → Value) (x : Operand) (d : Option Nat) (t : TypeId) (p : String) (f : Array Edge) (g : Option (Nat × Bool)) (w : World) :
    (execOp ρ { dst := d, op := .build 110 #[(1, x)], type := t, pos := p, after := f, guard := g }).run Tryz.prog w = mkNB w (ρ x) (exElse ρ { dst := d, op := .build 110 #[(1, x)], type := t, pos := p, after := f, guard := g } w) := by
  have he : ∀ o, exElse ρ o w = (execOp ρ o).run Tryz.prog w := by intro o; unfold exElse; rfl
  rw [he]
  unfold mkNB
  split
  · rename_i b hv
    refine ex_buildG 110 ρ _ #[(1, x)] w w _ rfl ?_
    have := bldN_B w b
    simpa [hv] using this
  · rfl
end Go.Proofs.YtejkfekpgbmdiaaGreat
namespace Go.Proofs.YtejkfekpgbmdiaaGreat
open Go.RowKit
set_option linter.unusedVariables false
set_option linter.unusedSimpArgs false

theorem step_skipI {P : Program} {w : World} {ops : Array Oper} {o : Oper} {a : Act} {K : Act → World → Prop} {Q : Exit → Act → World → Prop} {E : Prop} (hgd : o.guard = none) (w' : World)
    (hr : (execOp a.eval o).run P w = .ok .skip w') (h : K (a.put o.dst undef) w') : if Region.wanted o (yielded ops a.tmps) = true then Oper.wp P o a w K Q else E := by
  have hw : Region.wanted o (yielded ops a.tmps) = true := by simp [Region.wanted, hgd]
  rw [if_pos hw]
  unfold Oper.wp
  rw [hr]
  exact h
theorem ex_stC_at {α : Type} {C : Cod α} (H : CodOk Tryz.prog C) {ρ : Operand → Value} {o : Oper} {a x : Operand} {w : World} {b : Nat} {y v : α} (ho : o.op = .store C.t a x) (ha : ρ a = .pointer (some ⟨b, 0, none⟩)) (hx : ρ x = .agg (C.A v)) (hb : C.bxd w b = some y) :
    (execOp ρ o).run Tryz.prog w = .ok .skip (C.put w b v) := by
  rw [Cod.stOp (C := C) ρ o a x ho w, ha, hx]
  exact H.stR_box hb v
theorem ex_bldS2_at {ρ : Operand → Value} {o : Oper} {x y : Operand} {w : World} {a b : Int} (ho : o.op = .build 69 #[(0, x), (1, y)]) (hx : ρ x = .int .i64 a) (hy : ρ y = .int .i64 b) : (execOp ρ o).run Tryz.prog w = .ok (.value (.agg (codS.A ⟨a, b⟩))) w := by
  obtain ⟨d, op, t, p, f, g⟩ := o
  simp only at ho
  subst ho
  rw [ex_bldS2, hx, hy]; rfl
theorem ex_bldN2_at {ρ : Operand → Value} {o : Oper} {x y : Operand} {w : World} {A : Option Addr} {n c : Nat} {b : Bool} (ho : o.op = .build 110 #[(0, x), (1, y)]) (hx : ρ x = .slice A n c) (hy : ρ y = .bool b) : (execOp ρ o).run Tryz.prog w = .ok (.value (.agg (codN.A ⟨A, n, c, b⟩))) w := by
  obtain ⟨d, op, t, p, f, g⟩ := o
  simp only at ho
  subst ho
  rw [ex_bldN2, hx, hy]; rfl
set_option maxRecDepth 100000 in
set_option maxHeartbeats 2000000 in
theorem r3getstamp_z (B : Nat) (w : World) (hB : B ≤ w.heap.size) (v : InV) (s : RS) (h : InAt B w v s) (hlen : s.1.length ≤ 140737488355328) (x : St) (s' : RS) (hh : rdSt s = (x, s')) : Calls Tryz.prog 109 #[.agg (codN.A v)] w (Out B w (.agg (codS.A x)) s') := by
  obtain ⟨t, s1, e1⟩ := rd_eq (rdNum 1099511627776) s
  obtain ⟨r, s2, e2⟩ := rd_eq (rdNum 65536) s1
  have hb1 := (rdNum_bd 1099511627776 s).2
  rw [e1] at hb1
  have hx : (⟨(t : Int), (r : Int)⟩ : St) = x ∧ s2 = s' := by
    unfold rdSt at hh
    rw [e1] at hh
    simp only at hh
    rw [e2] at hh
    injection hh with h1 h2
    exact ⟨h1, h2⟩
  obtain ⟨rfl, rfl⟩ := hx
  have E1 := Lib.hid e1
  have E2 := Lib.hid e2
  have hl1 : s1.1.length ≤ 140737488355328 := Nat.le_trans hb1 hlen
  have f0 : Fr noB w (((w.alloc (.cells (codN.A v) 110)).alloc (codS.o zSt)).alloc (codN.o zInV)) := (((Fr.refl noB w).alloc _).alloc _).alloc _
  have q0 := Cod.rd_fr0 (Cod.rd_new (C := codN) w 110 v) (((Fr.refl noB (w.alloc (.cells (codN.A v) 110))).alloc (codS.o zSt)).alloc (codN.o zInV))
  have r2 : codS.bxd (((w.alloc (.cells (codN.A v) 110)).alloc (codS.o zSt)).alloc (codN.o zInV)) (w.heap.size + 1) = some zSt := by
    have h1 : (w.alloc (.cells (codN.A v) 110)).heap.size = w.heap.size + 1 := by simp
    rw [Cod.bxd_old _ _ _ (by simp), ← h1, Cod.bxd_new]
  have r3 : codN.bxd (((w.alloc (.cells (codN.A v) 110)).alloc (codS.o zSt)).alloc (codN.o zInV)) (w.heap.size + 1 + 1) = some zInV := by
    have h1 : ((w.alloc (.cells (codN.A v) 110)).alloc (codS.o zSt)).heap.size = w.heap.size + 1 + 1 := by simp
    rw [← h1, Cod.bxd_new]
  replace h := h.fr f0
  clear e1 e2 hh hb1
  go_enter Tryz.func109, Tryz.ntmps109
  go_upto_region 1 with fail
  generalize ((w.alloc (.cells (codN.A v) 110)).alloc (codS.o zSt)).alloc (codN.o zInV) = W0 at f0 q0 r2 r3 h ⊢
  have hPe : w.heap.size ≤ w.heap.size := Nat.le_refl _
  generalize hP : w.heap.size = P at hB q0 r2 r3 ⊢
  go_upto_region 2 with (go_at_call 72; refine (getnum_z B _ v s h hlen 1099511627776 1099511627776 rfl (by decide) t s1 E1.out).mono ?_; rintro e w1 ⟨v1, rfl, h1, f1⟩)
  have fa : Fr noB w1 (w1.alloc (codN.o v1)) := (Fr.refl noB w1).alloc _
  have n1 := Cod.rd_new' (C := codN) w1 v1
  replace r2 := Cod.bxd_fr0 (Cod.bxd_fr0 r2 f1) fa
  replace r3 := Cod.bxd_fr0 (Cod.bxd_fr0 r3 f1) fa
  replace h1 := h1.fr fa
  have f2 := (f0.step0 f1).step0 fa
  clear fa f1 f0 q0 h
  generalize w1.alloc (codN.o v1) = W1 at n1 r2 r3 h1 f2 ⊢
  generalize w1.heap.size = N at n1 ⊢
  go_upto_region 3 with (go_at_call 72; refine (getnum_z B _ v1 s1 h1 hl1 65536 65536 rfl (by decide) r s2 E2.out).mono ?_; rintro e w2 ⟨v2, rfl, h2, f3⟩)
  have fa : Fr noB w2 (w2.alloc (codN.o v2)) := (Fr.refl noB w2).alloc _
  have n2 := Cod.rd_new' (C := codN) w2 v2
  have n3 : P + 1 < w2.heap.size := Nat.lt_of_lt_of_le (Cod.bxd_lt r2) f3.size
  replace r2 := Cod.bxd_fr0 (Cod.bxd_fr0 r2 f3) fa
  replace r3 := Cod.bxd_fr0 (Cod.bxd_fr0 r3 f3) fa
  replace h2 := h2.fr fa
  replace f2 := (f2.step0 f3).step0 fa
  clear fa f3 n1 h1
  generalize w2.alloc (codN.o v2) = W2 at n2 r2 r3 h2 f2 ⊢
  generalize w2.heap.size = N2 at n2 n3 ⊢
  have fd := (Fr.refl noB W2).drew
  refine wp_region_M 5 6 [⟨262144, 16, 0⟩, ⟨524288, 64, 0⟩, ⟨1048576, 786432, 3⟩, ⟨2097152, 128, 0⟩, ⟨0, 1048580, 7⟩, ⟨0, 2097160, 31⟩] [(true, 0), (true, 1), (true, 3), (false, 2), (false, 4)] (fun w' => codN.rd w' N2 0 = some v2) (by kernel_rfl) rfl (by kernel_rfl) (by kernel_rfl) (by kernel_rfl) (Cod.rd_fr0 n2 fd) (fun hA hF => ?_)
  iterate 3
    refine wpAnyS_take (v := ?_) hA rfl (fun _ _ _ h => h) (Or.inl ⟨by rfl, ?_⟩) hF (fun hA => ?_)
    rotate_left
    · intro wS hSw; (try dsimp only at hSw); obtain s1 := hSw; first | (apply Eq.trans; apply ex_ld_id; exact rfl; exact rfl; assumption; with_reducible rfl) | (apply Eq.trans; apply ex_ld_arr; exact rfl; exact rfl; assumption; with_reducible rfl) | (apply Eq.trans; apply ex_ldN_at; exact rfl; exact rfl; assumption; with_reducible rfl) | (go_simp; try with_reducible rfl)
    try simp only [List.getElem_toArray, List.getElem_cons_zero, List.getElem_cons_succ, Act.put, List.setIfInBounds_toArray, List.set_cons_zero, List.set_cons_succ]
  refine wpAnyS_one hA rfl (fun K' hK => ?_)
  refine step_runI rfl _ _ (ex_bldS2_at (a := (t : Int)) (b := (r : Int)) rfl rfl rfl) ?_
  refine hK.out _ _ hF (fun hA => ?_)
  clear hK K'
  refine wpAnyS_one hA rfl (fun K' hK => ?_)
  refine step_skipI rfl _ (ex_stC_at okS rfl rfl rfl (Cod.bxd_fr0 r2 fd)) ?_
  obtain ⟨g1, g2, g3⟩ := Cod.put_fr (Cod.bxd_fr0 r2 fd) (⟨(t : Int), (r : Int)⟩ : St)
  refine hK.out _ _ (Cod.rd_fr hF g1 (fun e => by simp only [oneB] at e; omega)) (fun hA => ?_)
  clear hK K'
  refine wpAnyS_end hA rfl ?_
  simp only [List.drop_succ_cons, List.drop_zero]
  clear hF
  have fo2 := f2.step0 fd
  have t3 := Cod.bxd_fr (Cod.bxd_fr0 r3 fd) g1 (fun e => by simp only [oneB] at e; omega)
  have i2 := (h2.fr fd).box (by omega) g1
  have fo3 : Fr noB w (codS.put W2.drew (P + 1) ⟨(t : Int), (r : Int)⟩) := fo2.step g1 (fun b hb => .inl (by simp only [oneB] at hb; omega))
  have hst := okN.stR_box t3 v2
  obtain ⟨k1, k2, k3⟩ := Cod.put_fr t3 v2
  have i3 := i2.box (show B ≤ P + 1 + 1 by omega) k1
  have g4 := Cod.bxd_fr g3 k1 (fun e => by simp only [oneB] at e; omega)
  have fo4 := fo3.step k1 (fun b hb => .inl (by simp only [oneB] at hb; omega))
  clear n2 r2 r3 h2 fd g1 g3 t3 i2 fo2 fo3
  go_wp2_with fail
  refine bodyPost_ret (ret_cc okS okN rfl _ _ (P + 1) (P + 1 + 1) _ _ rfl rfl g4 k3) rfl ?_
  exact ⟨v2, rfl, i3, fo4⟩
end Go.Proofs.YtejkfekpgbmdiaaGreat
namespace Go.Proofs.YtejkfekpgbmdiaaGreat
open Go.RowKit
set_option linter.unusedVariables false
set_option linter.unusedSimpArgs false

set_option maxRecDepth 100000 in
set_option maxHeartbeats 1000000 in
theorem r4open_z (B : Nat) (w : World) (A : Option Addr) (c n : Nat) (l : List UInt8) (hn : l.length = n) (hs : Sl w A (bv l)) (hc : l.length ≤ c) (hb : l.length ≤ 140737488355328) (hA : l ≠ [] → ∀ b, A.map (·.block) = some b → b < B) (k : UInt8) (kk : Int) (hk : (k.toNat : Int) = kk) (s : RS) (hh : openR l k = s) :
    Calls Tryz.prog 73 #[.slice A n c, .int .u8 kk] w fun e w' => ∃ v, e = .returned (.agg (codN.A v)) ∧ InAt B w' v s ∧ Fr noB w w' := by
  subst hn hk
  have f0 : Fr noB w (w.alloc (codN.o zInV)) := (Fr.refl noB w).alloc _
  have f1 : Fr noB w (w.alloc (codN.o fInV)) := (Fr.refl noB w).alloc _
  have g1 := Cod.bxd_new (C := codN) w fInV
  cases l with
  | nil =>
    have hs' : s = ([], true) := by rw [← hh]; rfl
    subst hs'
    clear hh
    go_enter Tryz.func73, Tryz.ntmps73
    go_wp2_with fail
    refine bodyPost_ret (ret_row okN rfl _ _ w.heap.size fInV rfl g1) rfl ?_
    exact ⟨fInV, rfl, InAt.failed B _, f1⟩
  | cons b t =>
    obtain ⟨g, off, rfl, hg, hcell⟩ := id hs (by simp [bv_cons])
    have hc0 : w.cell? ⟨g, off, none⟩ = some (.int .u8 (b.toNat : Int)) := hcell 0 _ (bv_get (b :: t) 0 (by simp))
    have hc1 := cell_fr0 hc0 f0
    have i0 : (((t.length + 1 : Nat) : Int) == 0) = false := by rw [beq_eq_false_iff_ne]; omega
    have i0' : (((t.length : Int) + 1) == 0) = false := by rw [beq_eq_false_iff_ne]; omega
    have i1 : (0 : Int) < ((t.length + 1 : Nat) : Int) := by omega
    have i1' : (0 : Int) < (t.length : Int) + 1 := by omega
    have i2 : (1 : Int) ≤ (t.length : Int) + 1 := by omega
    have hcut := hs.cutB (k := 1) (c := c) hc
    simp only [List.length_cons] at hb hc ⊢
    by_cases hbk : b = k
    · subst hbk
      have hs' : s = (t, false) := by rw [← hh]; simp [openR]
      subst hs'
      have e2 : ((b.toNat : Int) != (b.toNat : Int)) = false := by simp
      have e3 : ((b.toNat : Int) == (b.toNat : Int)) = true := by simp
      clear hh hcell
      have f2 : Fr noB w (w.alloc (codN.o ⟨cutA (some ⟨g, off, none⟩) c 1 1, t.length, c - 1, false⟩)) := (Fr.refl noB w).alloc _
      have g2 := Cod.bxd_new (C := codN) w ⟨cutA (some ⟨g, off, none⟩) c 1 1, t.length, c - 1, false⟩
      go_enter Tryz.func73, Tryz.ntmps73
      go_wp2_with fail
      refine bodyPost_ret (ret_row okN rfl _ _ w.heap.size ⟨cutA (some ⟨g, off, none⟩) c 1 1, t.length, c - 1, false⟩ rfl (by first | exact g2 | simpa using g2)) rfl ?_
      refine ⟨_, rfl, ⟨rfl, by simp only; omega, by simpa using hcut.fr0 f2, rfl, fun b hb => hA (by simp) b (by rw [cutA_blk] at hb; exact hb)⟩, by first | exact f2 | simpa using f2⟩
    · have hs' : s = ([], true) := by rw [← hh]; simp [openR, hbk]
      subst hs'
      have e2 : ((b.toNat : Int) != (k.toNat : Int)) = true := by
        rw [bne_iff_ne]
        intro h
        exact hbk (UInt8.toNat_inj.1 (by omega))
      have e3 : ((b.toNat : Int) == (k.toNat : Int)) = false := by
        rw [beq_eq_false_iff_ne]
        intro h
        exact hbk (UInt8.toNat_inj.1 (by omega))
      clear hh hcell hs hbk
      go_enter Tryz.func73, Tryz.ntmps73
      go_wp2_with fail
      refine bodyPost_ret (ret_row okN rfl _ _ w.heap.size fInV rfl g1) rfl ?_
      exact ⟨fInV, rfl, InAt.failed B _, f1⟩
theorem ex_cv_at {ρ : Operand → Value} {o : Oper} {a : Operand} {w w' : World} {v x : Value} {ts td : TypeId} (ho : o.op = .convert ts td a) (ha : ρ a = v) (hcv : (convert ts td v).run Tryz.prog w = .ok x w') : (execOp ρ o).run Tryz.prog w = .ok (.value x) w' := by
  unfold execOp
  simp only [ho, ha, Sem.run_bind, hcv, Result.andThen_ok, Sem.run_pure]
set_option maxRecDepth 100000 in
set_option maxHeartbeats 2000000 in
theorem r2gettext_z (B : Nat) (w : World) (hB : B ≤ w.heap.size) (v : InV) (s : RS) (h : InAt B w v s) (hlen : s.1.length ≤ 140737488355328) (most : Nat) (z : Int) (hz : (most : Int) = z) (hm : most ≤ 4611686018427387904) (l : List UInt8) (s' : RS) (hh : rdText most s = (l, s')) :
    Calls Tryz.prog 78 #[.agg (codN.A v), .int .i64 z] w (Out B w (.string (str l)) s') := by
  subst hz
  obtain ⟨n, s1, e1⟩ := rd_eq (rdNum most) s
  have hb1 := (rdNum_bd most s).2
  rw [e1] at hb1
  have ht : rdTake n s1 = (l, s') := by
    unfold rdText at hh
    rw [e1] at hh
    exact hh
  have E1 := Lib.hid e1
  have HT := Lib.hid ht
  have hl1 : s1.1.length ≤ 140737488355328 := Nat.le_trans hb1 hlen
  have f0 : Fr noB w ((w.alloc (.cells (codN.A v) 110)).alloc (codN.o zInV)) := ((Fr.refl noB w).alloc _).alloc _
  have q0 := Cod.rd_fr0 (Cod.rd_new (C := codN) w 110 v) ((Fr.refl noB (w.alloc (.cells (codN.A v) 110))).alloc (codN.o zInV))
  have r3 : codN.bxd ((w.alloc (.cells (codN.A v) 110)).alloc (codN.o zInV)) (w.heap.size + 1) = some zInV := by
    have h1 : (w.alloc (.cells (codN.A v) 110)).heap.size = w.heap.size + 1 := by simp
    rw [← h1, Cod.bxd_new]
  replace h := h.fr f0
  clear e1 ht hh hb1
  go_enter Tryz.func78, Tryz.ntmps78
  go_upto_region 1 with fail
  generalize (w.alloc (.cells (codN.A v) 110)).alloc (codN.o zInV) = W0 at f0 q0 r3 h ⊢
  generalize hP : w.heap.size = P at hB q0 r3 ⊢
  go_upto_region 2 with (go_at_call 72; refine (getnum_z B _ v s h hlen most most rfl hm n s1 E1.out).mono ?_; rintro e w1 ⟨v1, rfl, h1, f1⟩)
  have fa : Fr noB w1 (w1.alloc (codN.o v1)) := (Fr.refl noB w1).alloc _
  obtain ⟨n1, n2, n3⟩ := nAt (Cod.rd_new' (C := codN) w1 v1)
  have hNP : P + 1 < w1.heap.size := Nat.lt_of_lt_of_le (Cod.bxd_lt r3) f1.size
  replace r3 := Cod.bxd_fr0 (Cod.bxd_fr0 r3 f1) fa
  replace h1 := h1.fr fa
  have f2 := (f0.step0 f1).step0 fa
  clear fa f1 f0 q0 h n3
  generalize w1.alloc (codN.o v1) = W1 at n1 n2 r3 h1 f2 ⊢
  generalize w1.heap.size = N at n1 n2 hNP ⊢
  rw [h1.n] at n1
  rw [h1.bad] at n2
  obtain ⟨ls, bad⟩ := s1
  simp only at n1 n2 hl1
  cases bad with
  | true =>
    have HC : (ls, true).2 = true ∨ (ls, true).1.length < n := .inl rfl
    have hs' : l = [] ∧ s' = ([], true) := by
      have := HT.out
      unfold rdTake at this
      rw [if_pos HC] at this
      injection this with a b
      exact ⟨a.symm, b.symm⟩
    obtain ⟨rfl, rfl⟩ := hs'
    clear HT
    go_upto_region 3 with fail
    go_wp2_with (go_at_call 108; refine (failed_z _).mono ?_; rintro e w2 ⟨rfl, f3⟩; have hst := okN.stR_box (Cod.bxd_fr0 r3 f3) fInV)
    obtain ⟨k1, k2, k3⟩ := Cod.put_fr (Cod.bxd_fr0 r3 f3) fInV
    refine bodyPost_ret (ret_tc okN rfl _ _ (P + 1) _ rfl k3) rfl ?_
    exact ⟨fInV, rfl, InAt.failed B _, (f2.step0 f3).step k1 (fun b hb => .inl (by simp only [oneB] at hb; omega))⟩
  | false =>
    by_cases hn : ls.length < n
    · have HC : (ls, false).2 = true ∨ (ls, false).1.length < n := .inr hn
      have i1 : (ls.length : Int) < (n : Int) := by omega
      clear hn
      have hs' : l = [] ∧ s' = ([], true) := by
        have := HT.out
        unfold rdTake at this
        rw [if_pos HC] at this
        injection this with a b
        exact ⟨a.symm, b.symm⟩
      obtain ⟨rfl, rfl⟩ := hs'
      clear HT
      go_upto_region 3 with fail
      go_wp2_with (go_at_call 108; refine (failed_z _).mono ?_; rintro e w2 ⟨rfl, f3⟩; have hst := okN.stR_box (Cod.bxd_fr0 r3 f3) fInV)
      obtain ⟨k1, k2, k3⟩ := Cod.put_fr (Cod.bxd_fr0 r3 f3) fInV
      refine bodyPost_ret (ret_tc okN rfl _ _ (P + 1) _ rfl k3) rfl ?_
      exact ⟨fInV, rfl, InAt.failed B _, (f2.step0 f3).step k1 (fun b hb => .inl (by simp only [oneB] at hb; omega))⟩
    · have i1 : ¬ (ls.length : Int) < (n : Int) := by omega
      have i2 : (n : Int) ≤ (ls.length : Int) := by omega
      have i0 : (0 : Int) ≤ (n : Int) := by omega
      have hc1 := h1.c
      simp only at hc1
      have i3 : (n : Int) ≤ (v1.c : Int) := by omega
      have hs' : l = ls.take n ∧ s' = (ls.drop n, false) := by
        have := HT.out
        unfold rdTake at this
        rw [if_neg (by simp only [Bool.false_eq_true, false_or]; exact hn)] at this
        injection this with a b
        exact ⟨a.symm, b.symm⟩
      have HL := Lib.hid hs'
      have hnl : n ≤ ls.length := by omega
      have hcut := h1.sl.cutB (k := n) (c := v1.c) hc1
      have htk := Sl.takeB (k := n) h1.sl
      clear hs' HT
      go_upto_region 4 with fail
      have fd := (Fr.refl noB W1).drew
      have hcv := conv_str W1.drew v1.A n v1.c (ls.take n) (by rw [List.length_take]; omega) (htk.fr0 fd)
      refine wp_region_M 11 12 [⟨16777216, 128, 0⟩, ⟨33554432, 16777216, 1⟩, ⟨67108864, 64, 0⟩, ⟨134217728, 100663296, 6⟩, ⟨268435456, 134217728, 8⟩, ⟨536870912, 128, 0⟩, ⟨1073741824, 536870912, 32⟩, ⟨2147483648, 64, 0⟩, ⟨4294967296, 3221225472, 192⟩, ⟨8589934592, 4294967296, 256⟩, ⟨16, 268435456, 31⟩, ⟨0, 8589934624, 2047⟩] [(true, 0), (true, 1), (true, 2), (true, 3), (true, 4), (true, 5), (true, 6), (true, 7), (true, 8), (true, 9), (true, 10)] (fun w' => w'.cell? ⟨N, 0, none⟩ = some (.slice v1.A ls.length v1.c) ∧ (convert 22 9 (.slice v1.A n v1.c)).run Tryz.prog w' = .ok (.string (str (ls.take n))) w') (by kernel_rfl) rfl (by kernel_rfl) (by kernel_rfl) (by kernel_rfl) ⟨cell_fr0 n1 fd, hcv⟩ (fun hA hF => ?_)
      iterate 11
        refine wpAnyS_take (v := ?_) hA rfl (fun _ _ _ h => h) (Or.inl ⟨by rfl, ?_⟩) hF (fun hA => ?_)
        rotate_left
        · intro wS hSw; (try dsimp only at hSw); obtain ⟨s1, s2⟩ := hSw; first | (apply Eq.trans; apply ex_ld_id; exact rfl; exact rfl; assumption; with_reducible rfl) | (apply Eq.trans; apply ex_ld_arr; exact rfl; exact rfl; assumption; with_reducible rfl) | (apply Eq.trans; apply ex_ldN_at; exact rfl; exact rfl; assumption; with_reducible rfl) | (go_simp; try with_reducible rfl)
        try simp only [List.getElem_toArray, List.getElem_cons_zero, List.getElem_cons_succ, Act.put, List.setIfInBounds_toArray, List.set_cons_zero, List.set_cons_succ]
      refine wpAnyS_end hA rfl ?_
      simp only [List.drop_succ_cons, List.drop_zero]
      clear hF
      have t3 := Cod.bxd_fr0 r3 fd
      have hst := okN.stR_box t3 ⟨cutA v1.A v1.c n 1, ls.length - n, v1.c - n, false⟩
      simp only [Cod.v, A_N] at hst
      obtain ⟨k1, k2, k3⟩ := Cod.put_fr t3 ⟨cutA v1.A v1.c n 1, ls.length - n, v1.c - n, false⟩
      have hlt := h1.lt
      obtain ⟨hl2, hs2⟩ := HL.out
      subst hl2 hs2
      have i5 : InAt B W1.drew ⟨cutA v1.A v1.c n 1, ls.length - n, v1.c - n, false⟩ (ls.drop n, false) := ⟨by simp, by simp only [List.length_drop]; omega, hcut.fr0 fd, rfl, fun b hb => hlt b (by rw [cutA_blk] at hb; exact hb)⟩
      have i6 := i5.box (show B ≤ P + 1 by omega) k1
      go_wp2_with fail
      refine bodyPost_ret (ret_tc okN rfl _ _ (P + 1) _ rfl k3) rfl ?_
      exact ⟨_, rfl, i6, (f2.step0 fd).step k1 (fun b hb => .inl (by simp only [oneB] at hb; omega))⟩
end Go.Proofs.YtejkfekpgbmdiaaGreat
namespace Go.Proofs.YtejkfekpgbmdiaaGreat
open Go.RowKit
set_option linter.unusedVariables false
set_option linter.unusedSimpArgs false

theorem Blk.bxA {w : World} {b : Nat} {x : ID} {l : List UInt8} (h : Blk w b 44 (bv l)) (hl : l = x.1) : bxA w b = some x := by
  subst hl
  refine bxA_of ?_
  unfold Blk at h
  rw [h, aro, idA_eq]
theorem bxA.blk {w : World} {b : Nat} {x : ID} (h : bxA w b = some x) : Blk w b 44 (bv x.1) := by
  have := bxA_at h
  rw [aro, idA_eq] at this
  exact this
theorem ex_stA_at {ρ : Operand → Value} {o : Oper} {a x : Operand} {w : World} {b : Nat} {y v : ID} (ho : o.op = .store 44 a x) (ha : ρ a = .pointer (some ⟨b, 0, none⟩)) (hx : ρ x = encI v) (hb : bxA w b = some y) :
    (execOp ρ o).run Tryz.prog w = .ok .skip (putC w b v) := by
  obtain ⟨d, op, t, p, f, g⟩ := o
  simp only at ho
  subst ho
  rw [ex_stA, ha, hx]
  exact stC_box hb v
theorem cell_frM {M : Nat → Prop} {w w' : World} {b o : Nat} {v : Value} (h : w.cell? ⟨b, o, none⟩ = some v) (f : Fr M w w') (hM : ¬ M b) : w'.cell? ⟨b, o, none⟩ = some v :=
  (World.cell?_of_block (a := ⟨b, o, none⟩) (f.block b (World.block_lt_of_cell? _ _ h) hM)).trans h
def GiR (W0 : World) (q : Nat) (l : List UInt8) (gk : Nat) (iv : Value) (wr : World) : Prop :=
  ∃ k : Nat, iv = .int .i64 (k : Int) ∧ gk = 32 - k ∧ k ≤ 32 ∧ Blk wr q 44 (bv (l.take k ++ List.replicate (32 - k) 0)) ∧ Fr (oneB q) W0 wr
theorem mix_set (l : List UInt8) (k : Nat) (hk : k < 32) (hl : 32 ≤ l.length) : (bv (l.take k ++ List.replicate (32 - k) 0)).set k (.int .u8 ((l[k]'(by omega)).toNat : Int)) = bv (l.take (k + 1) ++ List.replicate (32 - (k + 1)) 0) := by
  have e : 32 - k = (32 - (k + 1)) + 1 := by omega
  have hkl : (bv (l.take k)).length = k := by rw [bv_length, List.length_take]; omega
  rw [e, List.replicate_succ, List.take_succ_eq_append_getElem (by omega), bv_append, bv_append, bv_append, bv_cons]
  have gen : ∀ (p q : List Value) (x y : Value), p.length = k → (p ++ x :: q).set k y = p ++ [y] ++ q := by
    intro p q x y h
    subst h
    simp
  exact gen _ _ _ _ hkl
set_option maxRecDepth 100000 in
set_option maxHeartbeats 2000000 in
theorem r2getid_z (B : Nat) (w : World) (hB : B ≤ w.heap.size) (v : InV) (s : RS) (h : InAt B w v s) (hlen : s.1.length ≤ 140737488355328) (x : ID) (s' : RS) (hh : rdId s = (x, s')) : Calls Tryz.prog 76 #[.agg (codN.A v)] w (Out B w (encI x) s') := by
  obtain ⟨l, bad⟩ := s
  have HT := Lib.hid hh
  clear hh
  have f0 : Fr noB w ((((w.alloc (.cells (codN.A v) 110)).alloc (aro zID)).alloc (codN.o zInV)).alloc (aro zID)) := ((((Fr.refl noB w).alloc _).alloc _).alloc _).alloc _
  have q0 := Cod.rd_fr0 (Cod.rd_new (C := codN) w 110 v) ((((Fr.refl noB (w.alloc (.cells (codN.A v) 110))).alloc (aro zID)).alloc (codN.o zInV)).alloc (aro zID))
  have r2 : bxA ((((w.alloc (.cells (codN.A v) 110)).alloc (aro zID)).alloc (codN.o zInV)).alloc (aro zID)) (w.heap.size + 1) = some zID := by
    have h1 : (w.alloc (.cells (codN.A v) 110)).heap.size = w.heap.size + 1 := by simp
    rw [bxA_old _ _ _ (by simp), bxA_old _ _ _ (by simp), ← h1, bxA_new]
  have r3 : codN.bxd ((((w.alloc (.cells (codN.A v) 110)).alloc (aro zID)).alloc (codN.o zInV)).alloc (aro zID)) (w.heap.size + 1 + 1) = some zInV := by
    have h1 : ((w.alloc (.cells (codN.A v) 110)).alloc (aro zID)).heap.size = w.heap.size + 1 + 1 := by simp
    rw [Cod.bxd_old _ _ _ (by simp), ← h1, Cod.bxd_new]
  have r4 : bxA ((((w.alloc (.cells (codN.A v) 110)).alloc (aro zID)).alloc (codN.o zInV)).alloc (aro zID)) (w.heap.size + 1 + 1 + 1) = some zID := by
    have h1 : (((w.alloc (.cells (codN.A v) 110)).alloc (aro zID)).alloc (codN.o zInV)).heap.size = w.heap.size + 1 + 1 + 1 := by simp
    rw [← h1, bxA_new]
  replace h := h.fr f0
  go_enter Tryz.func76, Tryz.ntmps76
  go_upto_region 2 with fail
  generalize ((((w.alloc (.cells (codN.A v) 110)).alloc (aro zID)).alloc (codN.o zInV)).alloc (aro zID)) = W0 at f0 q0 r2 r3 r4 h ⊢
  generalize hP : w.heap.size = P at hB q0 r2 r3 r4 ⊢
  obtain ⟨g1, g2, g3⟩ := putC_fr r4 zID
  replace f0 := f0.step g1 (fun b hb => .inl (by simp only [oneB] at hb; omega))
  replace q0 := Cod.rd_fr q0 g1 (fun e => by simp only [oneB] at e; omega)
  replace r2 := bxA_fr r2 g1 (fun e => by simp only [oneB] at e; omega)
  replace r3 := Cod.bxd_fr r3 g1 (fun e => by simp only [oneB] at e; omega)
  replace h := h.box (show B ≤ P + 1 + 1 + 1 by omega) g1
  replace r4 := g3
  clear g1 g2 g3
  generalize putC W0 (P + 1 + 1 + 1) zID = W0 at f0 q0 r2 r3 r4 h ⊢
  obtain ⟨n1, n2, n3⟩ := nAt q0
  rw [h.n] at n1
  rw [h.bad] at n2
  simp only at n1 n2 hlen
  cases bad with
  | true =>
    have HC : (l, true).2 = true ∨ (l, true).1.length < 32 := .inl rfl
    have hs' : x = zID ∧ s' = ([], true) := by
      have := HT.out
      unfold rdId rdTake at this
      rw [if_pos HC] at this
      injection this with a b
      exact ⟨a.symm, b.symm⟩
    obtain ⟨rfl, rfl⟩ := hs'
    clear HT
    go_upto_region 3 with fail
    have fd := (Fr.refl noB W0).drew
    have keep : ∀ w' w'' : World, Fr noB w' w'' → rdI w' (P + 1 + 1 + 1) 0 = some zID → rdI w'' (P + 1 + 1 + 1) 0 = some zID := fun w' w'' f h => rdI_fr h (rdI_lt h) f (by simp [noB])
    refine wp_region_M 2 4 [⟨32768, 16, 0⟩, ⟨65536, 0, 0⟩, ⟨0, 32772, 3⟩, ⟨0, 65544, 7⟩] [(true, 0), (false, 1)] (fun w' => rdI w' (P + 1 + 1 + 1) 0 = some zID) (by kernel_rfl) rfl (by kernel_rfl) (by kernel_rfl) (by kernel_rfl) (keep _ _ fd (bxA_rd r4)) (fun hA hF => ?_)
    refine wpAnyS_take (v := ?_) hA rfl (fun _ _ _ h => h) (Or.inl ⟨by rfl, ?_⟩) hF (fun hA => ?_)
    rotate_left
    · intro wS hSw; (try dsimp only at hSw); obtain s1 := hSw; first | (apply Eq.trans; apply ex_ld_id; exact rfl; exact rfl; assumption; with_reducible rfl) | (apply Eq.trans; apply ex_ld_arr; exact rfl; exact rfl; assumption; with_reducible rfl) | (apply Eq.trans; apply ex_ldN_at; exact rfl; exact rfl; assumption; with_reducible rfl) | (go_simp; try with_reducible rfl)
    try simp only [List.getElem_toArray, List.getElem_cons_zero, List.getElem_cons_succ, Act.put, List.setIfInBounds_toArray, List.set_cons_zero, List.set_cons_succ]
    refine wpAnyS_one hA rfl (fun K' hK => ?_)
    go_simp
    go_at_call 108
    refine (failed_z _).mono ?_
    rintro e w2 ⟨rfl, f3⟩
    replace hF := keep _ _ f3 hF
    refine hK.out _ _ hF (fun hA => ?_)
    clear hK K'
    as_aux_lemma =>
    refine wpAnyS_end hA rfl ?_
    simp only [List.drop_succ_cons, List.drop_zero]
    clear hF
    have fw := fd.step0 f3
    have t2 := bxA_fr r2 fw (by simp [noB])
    obtain ⟨g1, g2, g3⟩ := putC_fr t2 zID
    have t3 := Cod.bxd_fr (Cod.bxd_fr0 r3 fw) g1 (fun e => by simp only [oneB] at e; omega)
    have hst := okN.stR_box t3 fInV
    obtain ⟨k1, k2, k3⟩ := Cod.put_fr t3 fInV
    have g4 := bxA_fr g3 k1 (fun e => by simp only [oneB] at e; omega)
    have fo := ((f0.step0 fw).step g1 (fun b hb => .inl (by simp only [oneB] at hb; omega))).step k1 (fun b hb => .inl (by simp only [oneB] at hb; omega))
    clear g1 k1 g3 t3 fw
    go_wp2_with fail
    refine bodyPost_ret (ret_ac okN rfl _ _ (P + 1) (P + 1 + 1) _ _ rfl rfl g4 k3) rfl ?_
    exact ⟨fInV, rfl, InAt.failed B _, fo⟩
  | false =>
    by_cases hn : l.length < 32
    · have HC : (l, false).2 = true ∨ (l, false).1.length < 32 := .inr hn
      have i1 : (l.length : Int) < 32 := by omega
      clear hn
      have hs' : x = zID ∧ s' = ([], true) := by
        have := HT.out
        unfold rdId rdTake at this
        rw [if_pos HC] at this
        injection this with a b
        exact ⟨a.symm, b.symm⟩
      obtain ⟨rfl, rfl⟩ := hs'
      clear HT
      go_upto_region 3 with fail
      have fd := (Fr.refl noB W0).drew
      have keep : ∀ w' w'' : World, Fr noB w' w'' → rdI w' (P + 1 + 1 + 1) 0 = some zID → rdI w'' (P + 1 + 1 + 1) 0 = some zID := fun w' w'' f h => rdI_fr h (rdI_lt h) f (by simp [noB])
      refine wp_region_M 2 4 [⟨32768, 16, 0⟩, ⟨65536, 0, 0⟩, ⟨0, 32772, 3⟩, ⟨0, 65544, 7⟩] [(true, 0), (false, 1)] (fun w' => rdI w' (P + 1 + 1 + 1) 0 = some zID) (by kernel_rfl) rfl (by kernel_rfl) (by kernel_rfl) (by kernel_rfl) (keep _ _ fd (bxA_rd r4)) (fun hA hF => ?_)
      refine wpAnyS_take (v := ?_) hA rfl (fun _ _ _ h => h) (Or.inl ⟨by rfl, ?_⟩) hF (fun hA => ?_)
      rotate_left
      · intro wS hSw; (try dsimp only at hSw); obtain s1 := hSw; first | (apply Eq.trans; apply ex_ld_id; exact rfl; exact rfl; assumption; with_reducible rfl) | (apply Eq.trans; apply ex_ld_arr; exact rfl; exact rfl; assumption; with_reducible rfl) | (apply Eq.trans; apply ex_ldN_at; exact rfl; exact rfl; assumption; with_reducible rfl) | (go_simp; try with_reducible rfl)
      try simp only [List.getElem_toArray, List.getElem_cons_zero, List.getElem_cons_succ, Act.put, List.setIfInBounds_toArray, List.set_cons_zero, List.set_cons_succ]
      refine wpAnyS_one hA rfl (fun K' hK => ?_)
      go_simp
      go_at_call 108
      refine (failed_z _).mono ?_
      rintro e w2 ⟨rfl, f3⟩
      replace hF := keep _ _ f3 hF
      refine hK.out _ _ hF (fun hA => ?_)
      clear hK K'
      as_aux_lemma =>
      refine wpAnyS_end hA rfl ?_
      simp only [List.drop_succ_cons, List.drop_zero]
      clear hF
      have fw := fd.step0 f3
      have t2 := bxA_fr r2 fw (by simp [noB])
      obtain ⟨g1, g2, g3⟩ := putC_fr t2 zID
      have t3 := Cod.bxd_fr (Cod.bxd_fr0 r3 fw) g1 (fun e => by simp only [oneB] at e; omega)
      have hst := okN.stR_box t3 fInV
      obtain ⟨k1, k2, k3⟩ := Cod.put_fr t3 fInV
      have g4 := bxA_fr g3 k1 (fun e => by simp only [oneB] at e; omega)
      have fo := ((f0.step0 fw).step g1 (fun b hb => .inl (by simp only [oneB] at hb; omega))).step k1 (fun b hb => .inl (by simp only [oneB] at hb; omega))
      clear g1 k1 g3 t3 fw
      go_wp2_with fail
      refine bodyPost_ret (ret_ac okN rfl _ _ (P + 1) (P + 1 + 1) _ _ rfl rfl g4 k3) rfl ?_
      exact ⟨fInV, rfl, InAt.failed B _, fo⟩
    · have i1 : ¬ (l.length : Int) < 32 := by omega
      have i3 : (32 : Int) ≤ (l.length : Int) := by omega
      have hc1 := h.c
      simp only at hc1
      have i4 : (32 : Int) ≤ (v.c : Int) := by omega
      have hs' : x.1 = l.take 32 ∧ s' = (l.drop 32, false) := by
        have := HT.out
        unfold rdId rdTake at this
        rw [if_neg (by simp only [Bool.false_eq_true, false_or]; exact hn)] at this
        injection this with a b
        refine ⟨?_, b.symm⟩
        rw [← a]
        have e32 : (l.take 32).length = 32 := by rw [List.length_take]; omega
        show (idOf (l.take 32)).1 = _
        unfold idOf
        exact congrArg Subtype.val (dif_pos e32)
      have HL := Lib.hid hs'
      clear hs' HT
      have hl32 : 32 ≤ l.length := by omega
      clear hn
      have b4 : Blk W0 (P + 1 + 1 + 1) 44 (bv (l.take 0 ++ List.replicate (32 - 0) 0)) := by
        have := bxA.blk r4
        exact this
      go_upto_region 5 with fail
      go_loopg [5] 32 (fun gk iv wr => GiR W0 (P + 1 + 1 + 1) l gk iv wr)
      case atStart => exact ⟨0, rfl, rfl, by omega, b4, Fr.refl _ _⟩
      case round =>
        obtain ⟨k, rfl, rfl, hk, hb, hf⟩ := hrel
        have hr := h.box (show B ≤ P + 1 + 1 + 1 by omega) hf
        have n1 := (nAt (Cod.rd_fr q0 hf (fun e => by simp only [oneB] at e; omega))).sl
        rw [h.n] at n1
        simp only at n1
        by_cases hlt : k < 32
        · have i5 : (0 : Int) ≤ (k : Int) := by omega
          have i6 : (k : Int) < 32 := by omega
          have i7 : (k : Int) < (l.length : Int) := by omega
          obtain ⟨g, off, hA, hg, hcell⟩ := hr.sl.bytes (by simp only; omega)
          have c1 := hcell k (by simp only; omega)
          simp only at c1
          have c2 := hb.cell k
          rw [List.getElem?_eq_getElem (by simp; omega)] at c2
          have c3 := hb.frozen k
          have hs2 := hb.set k (.int .u8 ((l[k]'(by omega)).toNat : Int))
          rw [mix_set l k hlt hl32] at hs2
          have hf2 := hf.setCell (p := ⟨P + 1 + 1 + 1, k, none⟩) (fun _ => rfl) (.int .u8 ((l[k]'(by omega)).toNat : Int))
          rw [hA] at n1
          clear hA
          generalize l[k] = bb at c1 hs2 hf2
          go_wp2_with fail
          go_roundg (32 - (k + 1))
          case measure => omega
          case rel =>
            refine ⟨k + 1, by simp, by omega, by omega, hs2, hf2⟩
        · have ek : k = 32 := by omega
          subst ek
          have i5 : ¬ ((32 : Nat) : Int) < 32 := by decide
          have hx32 : l.take 32 ++ List.replicate (32 - 32) 0 = x.1 := by rw [HL.out.1]; simp
          have hbx := Blk.bxA hb hx32
          have r2 := bxA_fr r2 hf (fun e => by simp only [oneB] at e; omega)
          have r3 := Cod.bxd_fr r3 hf (fun e => by simp only [oneB] at e; omega)
          have hcut := hr.sl.cutB (k := 32) (c := v.c) hc1
          have f1 := f0.step hf (fun b hb => .inl (by simp only [oneB] at hb; omega))
          clear hb hf h r4 b4 hlt
          go_upto_region 8 with fail
          have fd := (Fr.refl noB wr).drew
          have hlast := cell_fr0 n1 fd
          have hla := rdI_fr (bxA_rd hbx) (rdI_lt (bxA_rd hbx)) fd (by simp [noB])
          refine wp_region_M 6 7 [⟨268435456, 16, 0⟩, ⟨536870912, 2, 0⟩, ⟨1073741824, 536870912, 2⟩, ⟨2147483648, 1073741824, 4⟩, ⟨4294967296, 2147483648, 8⟩, ⟨0, 268435460, 1⟩, ⟨0, 4294967304, 63⟩] [(true, 0), (true, 1), (true, 2), (true, 3), (true, 4), (false, 5)] (fun w' => rdI w' (P + 1 + 1 + 1) 0 = some x ∧ w'.cell? ⟨P, 0, none⟩ = some (.slice v.A l.length v.c)) (by kernel_rfl) rfl (by kernel_rfl) (by kernel_rfl) (by kernel_rfl) ⟨hla, hlast⟩ (fun hA hF => ?_)
          iterate 5
            refine wpAnyS_take (v := ?_) hA rfl (fun _ _ _ h => h) (Or.inl ⟨by rfl, ?_⟩) hF (fun hA => ?_)
            rotate_left
            · intro wS hSw; (try dsimp only at hSw); obtain ⟨s1, s2⟩ := hSw; first | (apply Eq.trans; apply ex_ld_id; exact rfl; exact rfl; assumption; with_reducible rfl) | (apply Eq.trans; apply ex_ld_arr; exact rfl; exact rfl; assumption; with_reducible rfl) | (apply Eq.trans; apply ex_ldN_at; exact rfl; exact rfl; assumption; with_reducible rfl) | (go_simp; try with_reducible rfl)
            try simp only [List.getElem_toArray, List.getElem_cons_zero, List.getElem_cons_succ, Act.put, List.setIfInBounds_toArray, List.set_cons_zero, List.set_cons_succ]
          refine wpAnyS_one hA rfl (fun K' hK => ?_)
          have t2 := bxA_fr r2 fd (by simp [noB])
          refine step_skipI rfl _ (ex_stA_at rfl rfl rfl t2) ?_
          obtain ⟨g1, g2, g3⟩ := putC_fr t2 x
          refine hK.out _ _ ⟨rdI_fr hF.1 (rdI_lt hF.1) g1 (by simp only [oneB]; omega), cell_frM hF.2 g1 (by simp only [oneB]; omega)⟩ (fun hA => ?_)
          clear hK K'
          refine wpAnyS_end hA rfl ?_
          simp only [List.drop_succ_cons, List.drop_zero]
          clear hF hla hlast
          have f2 := (f1.step0 fd).step g1 (fun b hb => .inl (by simp only [oneB] at hb; omega))
          have t3 := Cod.bxd_fr (Cod.bxd_fr0 r3 fd) g1 (fun e => by simp only [oneB] at e; omega)
          have hst := okN.stR_box t3 ⟨cutA v.A v.c 32 1, l.length - 32, v.c - 32, false⟩
          simp only [Cod.v, A_N] at hst
          obtain ⟨k1, k2, k3⟩ := Cod.put_fr t3 ⟨cutA v.A v.c 32 1, l.length - 32, v.c - 32, false⟩
          have hlt := hr.lt
          have hs2 := HL.out.2
          subst hs2
          have i6 : InAt B wr.drew ⟨cutA v.A v.c 32 1, l.length - 32, v.c - 32, false⟩ (l.drop 32, false) := ⟨by simp, by simp only [List.length_drop]; omega, hcut.fr0 fd, rfl, fun b hb => hlt b (by rw [cutA_blk] at hb; exact hb)⟩
          have i7 := (i6.box (show B ≤ P + 1 by omega) g1).box (show B ≤ P + 1 + 1 by omega) k1
          have g4 := bxA_fr g3 k1 (fun e => by simp only [oneB] at e; omega)
          have fo := f2.step k1 (fun b hb => .inl (by simp only [oneB] at hb; omega))
          clear k1 g3 t3 g1 fd i6 hcut
          go_wp2_with fail
          refine bodyPost_ret (ret_ac okN rfl _ _ (P + 1) (P + 1 + 1) _ _ rfl rfl g4 k3) rfl ?_
          exact ⟨_, rfl, i7, fo⟩
end Go.Proofs.YtejkfekpgbmdiaaGreat
