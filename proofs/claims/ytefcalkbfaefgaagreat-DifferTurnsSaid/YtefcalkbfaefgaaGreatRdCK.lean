/- Contracts: stamp.put, obj.at. Contracts: obj.open. Variables that a reader's function fills: stores into parts of a value; the state of a reader with two such variables. Contract: stamp.Get. Contract: obj.getItem. Contracts: bytes.Clone, obj.Blob, obj.Label. Contract: obj.Dir. Contract: obj.Change. -/
import Derived.Test.YtefcalkbfaefgaaGreatQFrK
import Derived.Test.YtefcalkbfaefgaaGreatRightCK
import Derived.Laws.ResultCell
import Derived.Deep.LoopGhost
import Derived.Test.YtefcalkbfaefgaaGreatShelfK
namespace Go.Proofs.YtefcalkbfaefgaaGreat
open Go.RowKit
set_option linter.unusedVariables false
set_option linter.unusedSimpArgs false

structure StAt (w : World) (b : Nat) (s : St) : Prop where
  T : w.cell? ⟨b, 0, none⟩ = some (.int .i64 s.T)
  R : w.cell? ⟨b, 1, none⟩ = some (.int .i64 s.R)
  self : codS.rd w b 0 = some s
theorem stAt {w : World} {b : Nat} {r : St} (h : codS.rd w b 0 = some r) : StAt w b r := by
  have e (k : Nat) {v : Value} (hv : (codS.cs r)[k]? = some v) := by simpa using Cod.rd_cell h k hv
  exact ⟨e 0 rfl, e 1 rfl, h⟩
theorem StAt.fr {w w' : World} {b : Nat} {r : St} (h : StAt w b r) (f : Fr noB w w') : StAt w' b r := stAt (Cod.rd_fr0 h.self f)
/-- may stand in bytes -/
def okSt (s : St) : Prop := 0 ≤ s.T ∧ s.T ≤ 4611686018427387904 ∧ 0 ≤ s.R ∧ s.R ≤ 4611686018427387904
theorem stB_len {s : St} (h : okSt s) : (stB s).length ≤ 20 := by
  obtain ⟨h1, h2, h3, h4⟩ := h
  unfold stB
  rw [List.length_append]
  have h1 := numB_length s.T.toNat (by omega)
  have h2 := numB_length s.R.toNat (by omega)
  omega
theorem okSt_of {s : St} (hr : rightS s = true) : okSt s := by
  simp only [rightS, Bool.and_eq_true, decide_eq_true_eq] at hr
  exact ⟨by omega, by omega, by omega, by omega⟩
theorem enum_z (w : World) (A : Option Addr) (c : Nat) (l : List UInt8) (k : Nat) (hk : l.length = k) (hs : Sl w A (bv l)) (hl : l.length ≤ 140737488355000) (z : Int) (n : Nat) (hz : (n : Int) = z) (hn : n ≤ 4611686018427387904) :
    Calls Tryz.prog 101 #[.slice A k c, .int .i64 z] w (NewBytes w (l ++ numB n)) := by subst hz; exact enum_n w A c l k hk hs hl n hn
theorem NewBytes.sl {w w' : World} {l : List UInt8} {A : Option Addr} {c : Nat} (h : w'.ownsRow w.heap.size 5 1 (.slice A l.length c) l.length (bv l)) : Sl w' A (bv l) := Sl.own h
set_option maxRecDepth 100000 in
set_option maxHeartbeats 2000000 in
theorem oat_any (w : World) (A : Option Addr) (c n : Nat) (l : List UInt8) (hn : l.length = n) (hs : Sl w A (bv l)) (hb : l.length ≤ 140737488354000) (s : St) (hok : okSt s) :
    Calls Tryz.prog 104 #[.slice A n c, .agg (codS.A s)] w (NewBytes w (l ++ stB s)) := by
  subst hn
  have f0 : Fr noB w (w.alloc (.cells (codS.A s) 30)) := (Fr.refl noB w).alloc _
  have q0 : StAt (w.alloc (.cells (codS.A s) 30)) w.heap.size s := stAt (Cod.rd_new w 30 s)
  have hs0 := hs.fr0 f0
  go_enter Tryz.func104, Tryz.ntmps104
  go_upto_region 1 with fail
  generalize w.alloc (.cells (codS.A s) 30) = w0 at f0 q0 hs0 ⊢
  generalize hP : w.heap.size = P at q0 ⊢
  have fd := (Fr.refl noB w0).drew
  have qd := q0.fr fd
  have keep : ∀ w' w'' : World, Fr noB w' w'' → (w'.cell? ⟨P, 0, none⟩ = some (.int .i64 s.T) ∧ w'.cell? ⟨P, 1, none⟩ = some (.int .i64 s.R)) → (w''.cell? ⟨P, 0, none⟩ = some (.int .i64 s.T) ∧ w''.cell? ⟨P, 1, none⟩ = some (.int .i64 s.R)) := fun w' w'' f h => ⟨cell_fr0 h.1 f, cell_fr0 h.2 f⟩
  obtain ⟨o1, o2, o3, o4⟩ := hok
  have p1 : ((s.T.toNat : Nat) : Int) = s.T := by omega
  have p2 : s.T.toNat ≤ 4611686018427387904 := by omega
  have p3 : ((s.R.toNat : Nat) : Int) = s.R := by omega
  have p4 : s.R.toNat ≤ 4611686018427387904 := by omega
  have hl1 := numB_length s.T.toNat p2
  have p5 : (l ++ numB s.T.toNat).length ≤ 140737488355000 := by rw [List.length_append]; omega
  have p6 : l.length ≤ 140737488355000 := by omega
  have P1 := Lib.hid p1
  have P3 := Lib.hid p3
  clear p1 p3
  go_wp2_with fail
  refine wp_region_M 7 8 [⟨32, 1, 0⟩, ⟨64, 8, 0⟩, ⟨128, 64, 2⟩, ⟨256, 160, 5⟩, ⟨512, 8, 0⟩, ⟨1024, 512, 16⟩, ⟨2048, 1280, 40⟩, ⟨16, 2048, 127⟩] [(true, 0), (true, 1), (true, 2), (true, 4), (true, 5), (false, 3), (false, 6)] (fun w' => w'.cell? ⟨P, 0, none⟩ = some (.int .i64 s.T) ∧ w'.cell? ⟨P, 1, none⟩ = some (.int .i64 s.R)) (by kernel_rfl) rfl (by kernel_rfl) (by kernel_rfl) (by kernel_rfl) ⟨qd.T, qd.R⟩ (fun hA hF => ?_)
  iterate 5
    refine wpAnyS_take (v := ?_) hA rfl (fun _ _ _ h => h) (Or.inl ⟨by rfl, ?_⟩) hF (fun hA => ?_)
    rotate_left
    · intro wS hSw; (try dsimp only at hSw); obtain ⟨s1, s2⟩ := hSw; first | (apply Eq.trans; apply ex_ld_id; exact rfl; exact rfl; assumption; with_reducible rfl) | (go_simp; try with_reducible rfl)
    try simp only [List.getElem_toArray, List.getElem_cons_zero, List.getElem_cons_succ, Act.put, List.setIfInBounds_toArray, List.set_cons_zero, List.set_cons_succ]
  refine wpAnyS_one hA rfl (fun K' hK => ?_)
  go_simp
  go_at_call 101
  refine (enum_z w0.drew A c l _ rfl (hs0.fr0 fd) p6 s.T s.T.toNat P1.out p2).mono ?_
  rintro e w1 ⟨A1, c1, rfl, ho1, hf1⟩
  obtain ⟨l1, hl1e⟩ : ∃ l1, l1 = l ++ numB s.T.toNat := ⟨_, rfl⟩
  rw [← hl1e] at ho1 p5 ⊢
  have HL := Lib.hid hl1e
  clear hl1e
  replace hF := keep _ _ hf1 hF
  refine hK.out _ _ hF (fun hA => ?_)
  clear hK K'
  as_aux_lemma =>
  refine wpAnyS_one hA rfl (fun K' hK => ?_)
  go_simp
  go_at_call 101
  refine (enum_z w1 A1 c1 l1 l1.length rfl (Sl.own ho1) p5 s.R s.R.toNat P3.out p4).mono ?_
  rintro e w2 ⟨A2, c2, rfl, ho2, hf2⟩
  replace hF := keep _ _ hf2 hF
  refine hK.out _ _ hF (fun hA => ?_)
  clear hK K'
  as_aux_lemma =>
  refine wpAnyS_end hA rfl ?_
  simp only [List.drop_succ_cons, List.drop_zero]
  clear hF
  go_wp2_with fail
  go_ret
  have hbs : w.heap.size ≤ w1.heap.size := Nat.le_trans (Nat.le_trans f0.size fd.size) hf1.size
  have e : l1 ++ numB s.R.toNat = l ++ stB s := by rw [HL.out]; unfold stB; rw [List.append_assoc]
  rw [e] at ho2 ⊢
  exact ⟨A2, c2, rfl, own_base ho2 hbs, ((f0.step0 fd).step0 hf1).step0 hf2⟩
end Go.Proofs.YtefcalkbfaefgaaGreat
namespace Go.Proofs.YtefcalkbfaefgaaGreat
open Go.RowKit
set_option linter.unusedVariables false
set_option linter.unusedSimpArgs false

end Go.Proofs.YtefcalkbfaefgaaGreat
namespace Go.Proofs.YtefcalkbfaefgaaGreat
open Go.RowKit
set_option linter.unusedVariables false
set_option linter.unusedSimpArgs false

/-! '.. {a}': the first field given -/
open Classical in
noncomputable def mkC {α β : Type} (C : Cod α) (D : Cod β) (f : α → β) (w : World) (v : Value) (r : Result Next) : Result Next := if h : ∃ x, v = C.v x then .ok (.value (D.v (f h.choose))) w else r
@[simp] theorem mkC_at {α β : Type} (C : Cod α) (D : Cod β) (f : α → β) (w : World) (x : α) (r : Result Next) : mkC C D f w (.agg (C.A x)) r = .ok (.value (.agg (D.A (f x)))) w := by
  unfold mkC
  have h : ∃ y, (Value.agg (C.A x)) = C.v y := ⟨x, rfl⟩
  rw [dif_pos h, ← C.v_inj h.choose_spec]
noncomputable def mkO (w : World) (v : Value) (r : Result Next) : Result Next := match v with
  | .int .i64 a => .ok (.value (.agg (codO.A { zOpW with Kind := a }))) w
  | _ => r
@[simp] theorem mkO_at (w : World) (a : Int) (r : Result Next) : mkO w (.int .i64 a) r = .ok (.value (.agg (codO.A { zOpW with Kind := a }))) w := rfl
theorem bldO_1 (w : World) (a : Int) : (Instr.build 42 #[(0, .int .i64 a)]).run Tryz.prog w = .ok (.agg (codO.A { zOpW with Kind := a })) w := by
  rw [Cod.A_eq]; go_simp; rfl
@[simp ↓] theorem ex_bldO_1 (ρ : Operand → Value) (x : Operand) (d : Option Nat) (t : TypeId) (p : String) (f : Array Edge) (g : Option (Nat × Bool)) (w : World) :
    (execOp ρ { dst := d, op := .build 42 #[(0, x)], type := t, pos := p, after := f, guard := g }).run Tryz.prog w = mkO w (ρ x) (exElse ρ { dst := d, op := .build 42 #[(0, x)], type := t, pos := p, after := f, guard := g } w) := by
  have he : ∀ o, exElse ρ o w = (execOp ρ o).run Tryz.prog w := by intro o; unfold exElse; rfl
  rw [he]
  unfold mkO
  split
  · rename_i a hv
    refine ex_buildG 42 ρ _ #[(0, x)] w w _ rfl ?_
    have := bldO_1 w a
    simpa [hv] using this
  · rfl
theorem A_SS (x : St) : codS.A x = #[.int .i64 x.T, .int .i64 x.R] := Cod.A_eq codS x
theorem bldT_1 (w : World) (s : St) : (Instr.build 140 #[(0, .agg (codS.A s))]).run Tryz.prog w = .ok (.agg (codT.A { zItW with Node := s })) w := by
  rw [Cod.A_eq codT, A_SS]; go_simp; rfl
theorem bldH_1 (w : World) (s : St) : (Instr.build 93 #[(0, .agg (codS.A s))]).run Tryz.prog w = .ok (.agg (codH.A { zHd with At := s })) w := by
  rw [Cod.A_eq codH, A_SS]; go_simp; rfl
@[simp ↓] theorem ex_bldT_1 (ρ : Operand → Value) (x : Operand) (d : Option Nat) (t : TypeId) (p : String) (f : Array Edge) (g : Option (Nat × Bool)) (w : World) :
    (execOp ρ { dst := d, op := .build 140 #[(0, x)], type := t, pos := p, after := f, guard := g }).run Tryz.prog w = mkC codS codT (fun s => { zItW with Node := s }) w (ρ x) (exElse ρ { dst := d, op := .build 140 #[(0, x)], type := t, pos := p, after := f, guard := g } w) := by
  have he : ∀ o, exElse ρ o w = (execOp ρ o).run Tryz.prog w := by intro o; unfold exElse; rfl
  rw [he]
  unfold mkC
  split
  · rename_i hh
    have hv := hh.choose_spec
    generalize hh.choose = s at hv
    refine ex_buildG 140 ρ _ #[(0, x)] w w _ rfl ?_
    have := bldT_1 w s
    simpa [hv] using this
  · rfl
@[simp ↓] theorem ex_bldH_1 (ρ : Operand → Value) (x : Operand) (d : Option Nat) (t : TypeId) (p : String) (f : Array Edge) (g : Option (Nat × Bool)) (w : World) :
    (execOp ρ { dst := d, op := .build 93 #[(0, x)], type := t, pos := p, after := f, guard := g }).run Tryz.prog w = mkC codS codH (fun s => { zHd with At := s }) w (ρ x) (exElse ρ { dst := d, op := .build 93 #[(0, x)], type := t, pos := p, after := f, guard := g } w) := by
  have he : ∀ o, exElse ρ o w = (execOp ρ o).run Tryz.prog w := by intro o; unfold exElse; rfl
  rw [he]
  unfold mkC
  split
  · rename_i hh
    have hv := hh.choose_spec
    generalize hh.choose = s at hv
    refine ex_buildG 93 ρ _ #[(0, x)] w w _ rfl ?_
    have := bldH_1 w s
    simpa [hv] using this
  · rfl
theorem encI_inj' {x y : ID} (h : encI x = encI y) : x = y := by
  have := congrArg Value.cells h
  rw [cellsI, cellsI] at this
  exact Subtype.ext (bv_inj (by simpa using congrArg Array.toList this))
/-! stores into parts -/
theorem dropApp (x y : ID) (l m : List Value) (n k : Nat) (hn : l.length = n) (hk : n + 32 = k) : (l ++ (bv x.1 ++ m)).take n ++ bv y.1 ++ (l ++ (bv x.1 ++ m)).drop k = l ++ (bv y.1 ++ m) := by
  subst hn; subst hk
  rw [List.take_left, List.drop_append, List.drop_eq_nil_of_le (by omega), List.nil_append, Nat.add_sub_cancel_left, List.drop_left' (by rw [bv_length, x.2]), List.append_assoc]
theorem setApp (x : ID) (l m : List Value) (n i : Nat) (v : Value) (hn : l.length + 32 = n) : (l ++ (bv x.1 ++ m)).set (n + i) v = l ++ (bv x.1 ++ m.set i v) := by
  subst hn
  rw [List.set_append_right _ _ (by omega), List.set_append_right _ _ (by rw [bv_length, x.2]; omega), bv_length, x.2]
  congr 3
  omega
theorem stO_At {w : World} {b : Nat} {r : OpW} (h : codO.bxd w b = some r) (x : St) : codS.stR w (.pointer (some ⟨b, 1, none⟩)) (.agg (codS.A x)) = .ok .skip (codO.put w b { r with At := x }) := okS.stR_part h x 1 _ (by decide) rfl
theorem stO_Node {w : World} {b : Nat} {r : OpW} (h : codO.bxd w b = some r) (x : St) : codS.stR w (.pointer (some ⟨b, 3, none⟩)) (.agg (codS.A x)) = .ok .skip (codO.put w b { r with Node := x }) := okS.stR_part h x 3 _ (by decide) rfl
theorem stO_Parent {w : World} {b : Nat} {r : OpW} (h : codO.bxd w b = some r) (x : St) : codS.stR w (.pointer (some ⟨b, 5, none⟩)) (.agg (codS.A x)) = .ok .skip (codO.put w b { r with Parent := x }) := okS.stR_part h x 5 _ (by decide) rfl
theorem stO_Data {w : World} {b : Nat} {r : OpW} (h : codO.bxd w b = some r) (x : ID) : stI w (.pointer (some ⟨b, 8, none⟩)) (encI x) = .ok .skip (codO.put w b { r with Data := x }) := Cod.stI_part h x 8 _ (by decide) (dropApp r.Data x (opL r) [.slice r.A r.n r.c] 8 40 rfl rfl)
theorem seO_Name (r : OpW) (l : List UInt8) : (codO.cs r).set 7 (.string (str l)) = codO.cs { r with Name := l } := rfl
theorem seO_Over (r : OpW) (A : Option Addr) (n c : Nat) : (codO.cs r).set 40 (.slice A n c) = codO.cs { r with A := A, n := n, c := c } := setApp r.Data (opL r) [.slice r.A r.n r.c] 40 0 (.slice A n c) rfl
theorem stT_At {w : World} {b : Nat} {r : ItW} (h : codT.bxd w b = some r) (x : St) : codS.stR w (.pointer (some ⟨b, 2, none⟩)) (.agg (codS.A x)) = .ok .skip (codT.put w b { r with At := x }) := okS.stR_part h x 2 _ (by decide) rfl
theorem seT_Name (r : ItW) (l : List UInt8) : (codT.cs r).set 4 (.string (str l)) = codT.cs { r with Name := l } := rfl
theorem stT_Sub {w : World} {b : Nat} {r : ItW} (h : codT.bxd w b = some r) (x : ID) : stI w (.pointer (some ⟨b, 5, none⟩)) (encI x) = .ok .skip (codT.put w b { r with Sub := x }) := Cod.stI_part h x 5 _ (by decide) (dropApp r.Sub x [.int .i64 r.Node.T, .int .i64 r.Node.R, .int .i64 r.At.T, .int .i64 r.At.R, .string (str r.Name)] [.slice r.A r.n r.c] 5 37 rfl rfl)
theorem seT_Heads (r : ItW) (A : Option Addr) (n c : Nat) : (codT.cs r).set 37 (.slice A n c) = codT.cs { r with A := A, n := n, c := c } := setApp r.Sub [.int .i64 r.Node.T, .int .i64 r.Node.R, .int .i64 r.At.T, .int .i64 r.At.R, .string (str r.Name)] [.slice r.A r.n r.c] 37 0 (.slice A n c) rfl
theorem stH_Data {w : World} {b : Nat} {r : Hd} (h : codH.bxd w b = some r) (x : ID) : stI w (.pointer (some ⟨b, 2, none⟩)) (encI x) = .ok .skip (codH.put w b { r with Data := x }) := Cod.stI_part h x 2 _ (by decide) (by
  have := dropApp r.Data x [.int .i64 r.At.T, .int .i64 r.At.R] [] 2 34 rfl rfl
  rw [List.append_nil, List.append_nil] at this
  exact this)
def cgL (r : CgW) : List Value := [.slice r.PA r.pn r.pc, .int .i64 r.Time, .int .i64 r.R, .slice r.OA r.on r.oc]
theorem step_runI {P : Program} {w : World} {ops : Array Oper} {o : Oper} {a : Act} {K : Act → World → Prop} {Q : Exit → Act → World → Prop} {E : Prop} (hgd : o.guard = none) (v : Value) (w' : World)
    (hr : (execOp a.eval o).run P w = .ok (.value v) w') (h : K (a.put o.dst v) w') : if Region.wanted o (yielded ops a.tmps) = true then Oper.wp P o a w K Q else E := by
  have hw : Region.wanted o (yielded ops a.tmps) = true := by simp [Region.wanted, hgd]
  rw [if_pos hw]
  unfold Oper.wp
  rw [hr]
  exact h
/-! contracts whose outcome is named -/
/-- a step of a reader, as equations -/
theorem rd_eq {α : Type} (f : RS → α × RS) (s : RS) : ∃ x s', f s = (x, s') := ⟨_, _, rfl⟩
/-! a reader, the result's variable, and one more -/
section
variable {α : Type} {C : Cod α} {M : Nat → Prop} {W w : World} {p R P : Nat} {s : RS} {Q : Nat → Prop} {z r : α}
/-- a row of the call's own over a step that turns one block of another type -/
theorem own_box {base : Nat} {e : TypeId} {size n g : Nat} {v : Value} {xs cs : List Value} {t : TypeId} {w' : World} (hb : Blk w g t cs) (h : w.ownsRow base e size v n xs) (hne : e ≠ t) (f : Fr (oneB g) w w') : w'.ownsRow base e size v n xs :=
  own_fr h f (fun g' hg' hM => Blk.ne_own hb h hne g' hg' (by have : g' = g := hM; exact this))
theorem own_new0 {base : Nat} {e : TypeId} {size n : Nat} {v : Value} {xs : List Value} {w' : World} (h : w.ownsRow base e size v n xs) (f : Fr noB w w') : w'.ownsRow base e size v n xs :=
  own_fr h f (fun g' hg' hM => by simp [noB] at hM)
end
section
variable {α : Type} {C : Cod α} (H : CodOk Tryz.prog C)
include H
/-- a result that is a variable of its own -/
theorem ret_row {fn : Func} {p : Tmp} (h : fn.results = #[.cell p C.t]) (tmps : Array Value) (w : World) (R : Nat) (x : α) (hp : tmps.getD p undef = .pointer (some ⟨R, 0, none⟩)) (hb : C.bxd w R = some x) : (results fn tmps).run Tryz.prog w = .ok (.agg (C.A x)) w := by
  obtain ⟨d, h1, h2⟩ := H.und
  have hh := Cod.bxd_at hb
  rw [C.o_eq] at hh
  rw [C.A_eq]
  refine results_cell_row h tmps w R C.t _ _ d hp hh h1 ?_ (by rw [List.size_toArray, C.len]; exact H.info)
  cases d <;> first | rfl | exact h2
theorem ret_row_tmp {fn : Func} {p u : Tmp} (h : fn.results = #[.cell p C.t, .tmp u]) (tmps : Array Value) (w : World) (R : Nat) (x : α) (hp : tmps.getD p undef = .pointer (some ⟨R, 0, none⟩)) (hb : C.bxd w R = some x) : (results fn tmps).run Tryz.prog w = .ok (.tuple #[.agg (C.A x), tmps.getD u undef]) w := by
  obtain ⟨d, h1, h2⟩ := H.und
  have hl := run_loadVar_mid (P := Tryz.prog) w R 0 C.t (C.cs x) d (Cod.rd_rd (Cod.bxd_rd hb)) h1 h2 (by rw [C.len]; exact H.info)
  rw [results_cell_tmp h, hp]
  simp only [asAddr, Sem.run_pure, Result.andThen_ok, hl, C.A_eq]
end
end Go.Proofs.YtefcalkbfaefgaaGreat
namespace Go.Proofs.YtefcalkbfaefgaaGreat
open Go.RowKit
set_option linter.unusedVariables false
set_option linter.unusedSimpArgs false

theorem rdTake_le (n : Nat) (s : RS) : (rdTake n s).1.length ≤ n := by
  unfold rdTake
  split
  · exact Nat.zero_le _
  · simp; omega
theorem rdText_le (most : Nat) (s : RS) : (rdText most s).1.length ≤ most := Nat.le_trans (rdTake_le _ _) (rdNum_bd most s).1
theorem rdAll_len {α : Type} {f : RS → α × RS} (hf : ∀ s, (f s).2.1.length ≤ s.1.length) : ∀ (n : Nat) (s : RS), (rdAll f n s).1.length = n ∧ (rdAll f n s).2.1.length ≤ s.1.length
  | 0, s => ⟨rfl, Nat.le_refl _⟩
  | n + 1, s => by
    have := rdAll_len hf n (f s).2
    simp only [rdAll, List.length_cons]
    exact ⟨by rw [this.1], Nat.le_trans this.2 (hf s)⟩
theorem rdAll_step {α : Type} (f : RS → α × RS) (n : Nat) (l : List α) (s s' : RS) (x : α) (h : f s = (x, s')) : (l ++ (rdAll f (n + 1) s).1, (rdAll f (n + 1) s).2) = ((l ++ [x]) ++ (rdAll f n s').1, (rdAll f n s').2) := by
  simp only [rdAll, h, List.append_assoc, List.singleton_append]
end Go.Proofs.YtefcalkbfaefgaaGreat
namespace Go.Proofs.YtefcalkbfaefgaaGreat
open Go.RowKit
set_option linter.unusedVariables false
set_option linter.unusedSimpArgs false

theorem own_lt {w : World} {base : Nat} {e : TypeId} {size n c : Nat} {A : Option Addr} {xs : List Value} (h : w.ownsRow base e size (.slice A n c) n xs) (g : Nat) (hg : A.map (·.block) = some g) : base ≤ g ∧ g < w.heap.size := by
  have := h.lt g (by rw [ownBlock_sl']; exact hg)
  exact this
theorem rdHd_len (s : RS) : (rdHd s).2.1.length ≤ s.1.length := Nat.le_trans (rdId_len _) (rdSt_len _)
theorem rdMany_len {α : Type} {f : RS → α × RS} (hf : ∀ s, (f s).2.1.length ≤ s.1.length) : ∀ (n : Nat) (s : RS), (rdMany f n s).1.length ≤ n ∧ (rdMany f n s).2.1.length ≤ s.1.length
  | 0, s => ⟨Nat.le_refl _, Nat.le_refl _⟩
  | n + 1, s => by
    have := rdMany_len hf n (f s).2
    simp only [rdMany]
    split
    · exact ⟨by simp, hf s⟩
    · exact ⟨by simp only [List.length_cons]; omega, Nat.le_trans this.2 (hf s)⟩
theorem rdMany_step {α : Type} (f : RS → α × RS) (n : Nat) (l : List α) (s s' : RS) (x : α) (h : f s = (x, s')) (hb : s'.2 = false) : (l ++ (rdMany f (n + 1) s).1, (rdMany f (n + 1) s).2) = ((l ++ [x]) ++ (rdMany f n s').1, (rdMany f n s').2) := by
  simp only [rdMany, h, hb, Bool.false_eq_true, if_false, List.append_assoc, List.singleton_append]
theorem rdMany_stop {α : Type} (f : RS → α × RS) (n : Nat) (l : List α) (s s' : RS) (x : α) (h : f s = (x, s')) (hb : s'.2 = true) : (l ++ (rdMany f (n + 1) s).1, (rdMany f (n + 1) s).2) = (l ++ [x], s') := by
  simp only [rdMany, h, hb, if_true]
end Go.Proofs.YtefcalkbfaefgaaGreat
namespace Go.Proofs.YtefcalkbfaefgaaGreat
open Go.RowKit
set_option linter.unusedVariables false
set_option linter.unusedSimpArgs false

/-- bytes and an error's number -/
def BlTo (w : World) (l : List UInt8) (e : Ending) (w' : World) : Prop :=
  ∃ A c, e = .returned (.tuple #[.slice A ((rdBl l).getD []).length c, .int .i64 (if (rdBl l).isSome then 0 else 20)]) ∧ w'.ownsRow w.heap.size 5 1 (.slice A ((rdBl l).getD []).length c) ((rdBl l).getD []).length (bv ((rdBl l).getD [])) ∧ Fr noB w w'
theorem openR_len (l : List UInt8) (k : UInt8) : (openR l k).1.length ≤ l.length := by
  unfold openR
  split
  · simp
  · split <;> simp
end Go.Proofs.YtefcalkbfaefgaaGreat
namespace Go.Proofs.YtefcalkbfaefgaaGreat
open Go.RowKit
set_option linter.unusedVariables false
set_option linter.unusedSimpArgs false

/-- two rows of the call's own, of unlike types -/
theorem own_two {w w' : World} {b1 b2 : Nat} {e1 e2 : TypeId} {s1 s2 n1 n2 c1 : Nat} {A : Option Addr} {v : Value} {xs ys : List Value} (h1 : w.ownsRow b1 e1 s1 (.slice A n1 c1) n1 xs) (h2 : w.ownsRow b2 e2 s2 v n2 ys) (hne : e1 ≠ e2) (f : Fr (fun b => A.map (·.block) = some b) w w') : w'.ownsRow b2 e2 s2 v n2 ys := by
  refine own_fr h2 f (fun g hg hM => ?_)
  rcases h1.2 with ⟨hv, _⟩ | ⟨g1, cap, cur, hv, hb, hgg, rest⟩
  · injection hv with hv; subst hv; cases hM
  · injection hv with hv; subst hv
    simp only [Option.map_some, Option.some.injEq] at hM
    subst hM
    exact Blk.ne_own (g := g1) (t := e1) (cs := cur.toList) (by simpa [Blk] using hgg) h2 (fun e => hne e.symm) g1 hg rfl
/-- items that lie in new memory -/
structure ItsOwn (W w : World) (rs : List ItW) (xs : List It) : Prop where
  len : rs.length = xs.length
  at_ : ∀ i (h : i < rs.length) (h' : i < xs.length), ItIn w rs[i] xs[i] ∧ w.ownsRow W.heap.size 93 34 (.slice (rs[i]).A (rs[i]).n (rs[i]).c) (rs[i]).n (codH.row (xs[i]).Heads)
theorem ItsOwn.its {W w : World} {rs : List ItW} {xs : List It} (h : ItsOwn W w rs xs) : ItsIn w rs xs := ⟨h.len, fun i h1 h2 => (h.at_ i h1 h2).1⟩
theorem ItIn.of {w w' : World} {r : ItW} {x : It} (h : ItIn w r x) {base : Nat} (ho : w'.ownsRow base 93 34 (.slice r.A r.n r.c) r.n (codH.row x.Heads)) : ItIn w' r x := ⟨h.eq, h.len, Sl.own ho, h.bd, h.nm⟩
theorem ItsOwn.map {W w w' : World} {rs : List ItW} {xs : List It} (h : ItsOwn W w rs xs) (k : ∀ (v : Value) (n : Nat) (l : List Value), w.ownsRow W.heap.size 93 34 v n l → w'.ownsRow W.heap.size 93 34 v n l) : ItsOwn W w' rs xs :=
  ⟨h.len, fun i h1 h2 => by
    obtain ⟨a, b⟩ := h.at_ i h1 h2
    have b' := k _ _ _ b
    exact ⟨a.of b', b'⟩⟩
theorem ItsOwn.snoc {W w : World} {rs : List ItW} {xs : List It} (h : ItsOwn W w rs xs) {r : ItW} {x : It} (hi : ItIn w r x) (ho : w.ownsRow W.heap.size 93 34 (.slice r.A r.n r.c) r.n (codH.row x.Heads)) : ItsOwn W w (rs ++ [r]) (xs ++ [x]) :=
  ⟨by simp [h.len], fun i h1 h2 => by
    rcases Nat.lt_or_ge i rs.length with h3 | h3
    · have h4 : i < xs.length := by rw [← h.len]; exact h3
      rw [List.getElem_append_left h3, List.getElem_append_left h4]
      exact h.at_ i h3 h4
    · have h5 : i = rs.length := by simp at h1; omega
      have h6 : i = xs.length := by rw [← h.len]; exact h5
      have e1 : (rs ++ [r])[i] = r := by subst h5; simp
      have e2 : (xs ++ [x])[i] = x := by subst h6; simp
      rw [e1, e2]
      exact ⟨hi, ho⟩⟩
section
variable {W w w' : World} {p : Nat} {Q : Nat → Prop} {s s' : RS} {A : Option Addr} {c : Nat} {rs : List ItW} {xs : List It}
end
/-- items and an error's number -/
def DrTo (w : World) (l : List UInt8) (e : Ending) (w' : World) : Prop :=
  ∃ A c rs, e = .returned (.tuple #[.slice A rs.length c, .int .i64 (if (rdDr l).isSome then 0 else 20)]) ∧ Fr noB w w' ∧ OwnC codT w w' A c rs ∧ ItsOwn w w' rs ((rdDr l).getD [])
theorem rdIt_len (s : RS) : (rdIt s).2.1.length ≤ s.1.length := by
  unfold rdIt
  dsimp only
  exact Nat.le_trans (rdMany_len rdHd_len _ _).2 (Nat.le_trans (rdNum_bd _ _).2 (Nat.le_trans (rdId_len _) (Nat.le_trans (rdText_len _ _) (Nat.le_trans (rdSt_len _) (rdSt_len _)))))
end Go.Proofs.YtefcalkbfaefgaaGreat
namespace Go.Proofs.YtefcalkbfaefgaaGreat
open Go.RowKit
set_option linter.unusedVariables false
set_option linter.unusedSimpArgs false

def codI : Cod ID := ⟨39, 32, fun x => bv x.1, zID, fun x => by rw [bv_length, x.2], by decide, fun x => bv_one x.1, fun x y h => Subtype.ext (bv_inj h)⟩
theorem row_I (l : List ID) : codI.row l = idc l := rfl
/-- operations that lie in new memory -/
structure OpsOwn (W w : World) (rs : List OpW) (xs : List Opn) : Prop where
  len : rs.length = xs.length
  at_ : ∀ i (h : i < rs.length) (h' : i < xs.length), OpIn w rs[i] xs[i] ∧ w.ownsRow W.heap.size 30 2 (.slice (rs[i]).A (rs[i]).n (rs[i]).c) (rs[i]).n (codS.row (xs[i]).Over)
theorem OpsOwn.ops {W w : World} {rs : List OpW} {xs : List Opn} (h : OpsOwn W w rs xs) : OpsIn w rs xs := ⟨h.len, fun i h1 h2 => (h.at_ i h1 h2).1⟩
theorem OpIn.of {w w' : World} {r : OpW} {x : Opn} (h : OpIn w r x) {base : Nat} (ho : w'.ownsRow base 30 2 (.slice r.A r.n r.c) r.n (codS.row x.Over)) : OpIn w' r x := ⟨h.eq, h.len, Sl.own ho, h.bd, h.nm⟩
theorem OpsOwn.map {W w w' : World} {rs : List OpW} {xs : List Opn} (h : OpsOwn W w rs xs) (k : ∀ (v : Value) (n : Nat) (l : List Value), w.ownsRow W.heap.size 30 2 v n l → w'.ownsRow W.heap.size 30 2 v n l) : OpsOwn W w' rs xs :=
  ⟨h.len, fun i h1 h2 => by
    obtain ⟨a, b⟩ := h.at_ i h1 h2
    have b' := k _ _ _ b
    exact ⟨a.of b', b'⟩⟩
theorem OpsOwn.snoc {W w : World} {rs : List OpW} {xs : List Opn} (h : OpsOwn W w rs xs) {r : OpW} {x : Opn} (hi : OpIn w r x) (ho : w.ownsRow W.heap.size 30 2 (.slice r.A r.n r.c) r.n (codS.row x.Over)) : OpsOwn W w (rs ++ [r]) (xs ++ [x]) :=
  ⟨by simp [h.len], fun i h1 h2 => by
    rcases Nat.lt_or_ge i rs.length with h3 | h3
    · have h4 : i < xs.length := by rw [← h.len]; exact h3
      rw [List.getElem_append_left h3, List.getElem_append_left h4]
      exact h.at_ i h3 h4
    · have h5 : i = rs.length := by simp at h1; omega
      have h6 : i = xs.length := by rw [← h.len]; exact h5
      have e1 : (rs ++ [r])[i] = r := by subst h5; simp
      have e2 : (xs ++ [x])[i] = x := by subst h6; simp
      rw [e1, e2]
      exact ⟨hi, ho⟩⟩
/-- the rows of a commit under way -/
structure Rws (W w : World) (A : Option Addr) (c : Nat) (ps : List ID) (B : Option Addr) (d : Nat) (rs : List OpW) (os : List Opn) : Prop where
  hps : OwnC codI W w A c ps
  hrs : OwnC codO W w B d rs
  hos : OpsOwn W w rs os
section
variable {W w w' : World} {A B : Option Addr} {c d : Nat} {ps : List ID} {rs : List OpW} {os : List Opn}
theorem Rws.box (h : Rws W w A c ps B d rs os) {g : Nat} {t : TypeId} {cs : List Value} (hb : Blk w g t cs) (h1 : 39 ≠ t) (h2 : 42 ≠ t) (h3 : 30 ≠ t) (f : Fr (oneB g) w w') : Rws W w' A c ps B d rs os :=
  ⟨own_box hb h.hps h1 f, own_box hb h.hrs h2 f, h.hos.map fun v n l ho => own_box hb ho h3 f⟩
theorem Rws.new (h : Rws W w A c ps B d rs os) (f : Fr noB w w') : Rws W w' A c ps B d rs os := ⟨own_new0 h.hps f, own_new0 h.hrs f, h.hos.map fun v n l ho => own_new0 ho f⟩
theorem Rws.growP (h : Rws W w A c ps B d rs os) (hg : w.grownBy w' (A.map (·.block))) {A5 : Option Addr} {c5 : Nat} {ps' : List ID} (ho : OwnC codI W w' A5 c5 ps') : Rws W w' A5 c5 ps' B d rs os := by
  have f : Fr (fun b => A.map (·.block) = some b) w w' := Fr.ofGrown hg (fun g hg => hg)
  exact ⟨ho, own_two h.hps h.hrs (by decide) f, h.hos.map fun v n l hv => own_two h.hps hv (by decide) f⟩
theorem Rws.growO (h : Rws W w A c ps B d rs os) (hg : w.grownBy w' (B.map (·.block))) {B5 : Option Addr} {d5 : Nat} {r : OpW} {x : Opn} (ho : OwnC codO W w' B5 d5 (rs ++ [r])) (hi : OpIn w r x) (hro : w.ownsRow W.heap.size 30 2 (.slice r.A r.n r.c) r.n (codS.row x.Over)) : Rws W w' A c ps B5 d5 (rs ++ [r]) (os ++ [x]) := by
  have f : Fr (fun b => B.map (·.block) = some b) w w' := Fr.ofGrown hg (fun g hg => hg)
  have hro' := own_two h.hrs hro (by decide) f
  exact ⟨own_two h.hrs h.hps (by decide) f, ho, (h.hos.map fun v n l hv => own_two h.hrs hv (by decide) f).snoc (hi.of hro') hro'⟩
theorem Rws.base {W0 : World} (h : Rws W w A c ps B d rs os) (hW : W0.heap.size ≤ W.heap.size) : Rws W0 w A c ps B d rs os :=
  ⟨own_base h.hps hW, own_base h.hrs hW, ⟨h.hos.len, fun i h1 h2 => ⟨(h.hos.at_ i h1 h2).1, own_base (h.hos.at_ i h1 h2).2 hW⟩⟩⟩
end
theorem rdOp_len (s : RS) : (rdOp s).2.1.length ≤ s.1.length := by
  unfold rdOp
  split
  · simp
  · unfold rdOp0
    dsimp only
    split
    · exact Nat.le_trans (rdText_len _ _) (Nat.le_trans (rdSt_len _) (Nat.le_trans (rdSt_len _) (Nat.le_trans (rdSt_len _) (rdNum_bd _ _).2)))
    · exact Nat.le_trans (rdAll_len rdSt_len _ _).2 (Nat.le_trans (rdNum_bd _ _).2 (Nat.le_trans (rdId_len _) (Nat.le_trans (rdSt_len _) (Nat.le_trans (rdSt_len _) (rdNum_bd _ _).2))))
end Go.Proofs.YtefcalkbfaefgaaGreat
