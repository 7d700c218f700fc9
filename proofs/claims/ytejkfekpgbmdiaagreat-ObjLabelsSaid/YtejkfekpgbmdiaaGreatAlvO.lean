/- Contract: pollardlaw04.alive. -/
import Derived.Test.YtejkfekpgbmdiaaGreatLinkC
import Derived.Test.YtejkfekpgbmdiaaGreatIdSortO
import Derived.Test.YtejkfekpgbmdiaaGreatPutD
namespace Go.Proofs.YtejkfekpgbmdiaaGreat
open Go.RowKit
set_option linter.unusedVariables false
set_option linter.unusedSimpArgs false

theorem sort_ok : SortOK := fun w0 w A c n l hn ho hl => sortC_any w0 w A c n l hn ho hl
theorem links_all (w : World) (A : Option Addr) (c n : Nat) (l : List UInt8) (hn : l.length = n) (hs : Sl w A (bv l)) (hcap : l.length ≤ c) (hb : l.length ≤ 140737488355328) : Calls Tryz.prog 21 #[.slice A n c] w (LkTo w l) := links_any sort_ok w A c n l hn hs hcap hb
/-! literals -/
theorem bldC_lit (w : World) (t r : Int) (x : ID) : (Instr.build 47 #[(1, .int .i64 t), (2, .int .i64 r), (4, encI x)]).run Tryz.prog w = .ok (.agg (codC.A { zCgW with Time := t, R := r, Tree := x })) w := by
  have h1 : ∀ place : Nat → Option (Nat × Nat), place 1 = some (1, 1) → place 2 = some (2, 1) → place 4 = some (4, 32) → Instr.fill place ([Value.slice none 0 0] ++ [Value.int .i64 0] ++ ([Value.int .i64 0, Value.slice none 0 0] ++ bv zID.1 ++ [Value.string (str [])])).toArray [(1, .int .i64 t), (2, .int .i64 r), (4, encI x)] = some (codC.cs { zCgW with Time := t, R := r, Tree := x }).toArray := by
    intro place p1 p2 p4
    refine (fill_one place [.slice none 0 0] [.int .i64 0] ([.int .i64 0, .slice none 0 0] ++ bv zID.1 ++ [.string (str [])]) [.int .i64 t] 1 (.int .i64 t) _ rfl (by simpa using p1) rfl).trans ?_
    have e2 := fill_one place [.slice none 0 0, .int .i64 t] [.int .i64 0] ([.slice none 0 0] ++ bv zID.1 ++ [.string (str [])]) [.int .i64 r] 2 (.int .i64 r) [(4, encI x)] rfl (by simpa using p2) rfl
    refine Eq.trans ?_ (e2.trans ?_)
    · simp
    have e4 := fill_one place [.slice none 0 0, .int .i64 t, .int .i64 r, .slice none 0 0] (bv zID.1) [.string (str [])] (bv x.1) 4 (encI x) [] (cellsI x) (by simpa [x.2] using p4) (by simp [x.2, zID])
    refine Eq.trans ?_ (e4.trans ?_)
    · simp
    · simp [Instr.fill, codC, csC, zCgW]
  have hz : (zeroValue 47).run Tryz.prog w = .ok (.agg (codC.cs codC.z).toArray) w := okC.zero w
  have hc : (Value.agg (codC.cs codC.z).toArray).cells = ([Value.slice none 0 0] ++ [Value.int .i64 0] ++ ([Value.int .i64 0, Value.slice none 0 0] ++ bv zID.1 ++ [Value.string (str [])])).toArray := rfl
  have hsI : ∀ w, (sizeOf 45).run Tryz.prog w = .ok 32 w := fun w => Tryz.sizeOf45 w
  simp only [Instr.build, Sem.run_bind, hz, Result.andThen_ok, run_underlying Tryz.underlying47, hc]
  simp only [List.mapM_toArray, List.mapM_cons, List.mapM_nil, Sem.run_bind, hsI, Tryz.sizeOf9, Tryz.sizeOf39, Tryz.sizeOf43, Tryz.sizeOf2, Tryz.sizeOf3, Result.andThen_ok, Sem.run_pure, Sem.run_map, map_pure, bind_pure_comp]
  rw [h1 _ rfl rfl rfl]
  simp [Cod.A_eq]
theorem bldL_lit (w : World) (x : ID) (s : List UInt8) : (Instr.build 55 #[(0, encI x), (1, .string (str s))]).run Tryz.prog w = .ok (.agg (codL.A { zLbl with Target := x, Name := s })) w := by
  have h1 : ∀ place : Nat → Option (Nat × Nat), place 0 = some (0, 32) → place 1 = some (32, 1) → Instr.fill place ([] ++ bv zID.1 ++ [Value.string (str []), Value.string (str [])]).toArray [(0, encI x), (1, .string (str s))] = some (codL.cs { zLbl with Target := x, Name := s }).toArray := by
    intro place p0 p1
    refine (fill_one place [] (bv zID.1) [.string (str []), .string (str [])] (bv x.1) 0 (encI x) _ (cellsI x) (by simp [x.2, p0]) (by simp [x.2, zID])).trans ?_
    have e2 := fill_one place (bv x.1) [.string (str [])] [.string (str [])] [.string (str s)] 1 (.string (str s)) [] rfl (by simpa [x.2] using p1) rfl
    refine Eq.trans ?_ (e2.trans ?_)
    · simp
    · simp [Instr.fill, codL, csL, zLbl]
  have hc : (Value.agg (codL.cs codL.z).toArray).cells = ([] ++ bv zID.1 ++ [Value.string (str []), Value.string (str [])]).toArray := rfl
  have hz : (zeroValue 55).run Tryz.prog w = .ok (.agg (codL.cs codL.z).toArray) w := okL.zero w
  have hsI : ∀ w, (sizeOf 45).run Tryz.prog w = .ok 32 w := fun w => Tryz.sizeOf45 w
  simp only [Instr.build, Sem.run_bind, hz, Result.andThen_ok, run_underlying Tryz.underlying55, hc]
  simp only [List.mapM_toArray, List.mapM_cons, List.mapM_nil, Sem.run_bind, hsI, Tryz.sizeOf9, Result.andThen_ok, Sem.run_pure, Sem.run_map, map_pure, bind_pure_comp]
  rw [h1 _ rfl rfl]
  simp [Cod.A_eq]
theorem bldT_lit (w : World) (s t : St) (m : List UInt8) : (Instr.build 77 #[(0, .agg (codS.A s)), (1, .agg (codS.A t)), (2, .string (str m))]).run Tryz.prog w = .ok (.agg (codT.A { zItW with Node := s, At := t, Name := m })) w := by
  rw [Cod.A_eq codT, A_SS, A_SS]; go_simp; rfl
open Classical in
noncomputable def mkCL (w : World) (v u z : Value) (r : Result Next) : Result Next := match v, u with
  | .int .i64 a, .int .i64 b => if h : ∃ y, z = encI y then .ok (.value (.agg (codC.A { zCgW with Time := a, R := b, Tree := h.choose }))) w else r
  | _, _ => r
@[simp] theorem mkCL_at (w : World) (a b : Int) (x : ID) (r : Result Next) : mkCL w (.int .i64 a) (.int .i64 b) (encI x) r = .ok (.value (.agg (codC.A { zCgW with Time := a, R := b, Tree := x }))) w := by
  unfold mkCL
  have h : ∃ y, encI x = encI y := ⟨x, rfl⟩
  simp only
  rw [dif_pos h, ← encI_inj' h.choose_spec]
@[simp ↓] theorem ex_bldC_lit (ρ : Operand → Value) (x y z : Operand) (d : Option Nat) (t : TypeId) (p : String) (f : Array Edge) (g : Option (Nat × Bool)) (w : World) :
    (execOp ρ { dst := d, op := .build 47 #[(1, x), (2, y), (4, z)], type := t, pos := p, after := f, guard := g }).run Tryz.prog w = mkCL w (ρ x) (ρ y) (ρ z) (exElse ρ { dst := d, op := .build 47 #[(1, x), (2, y), (4, z)], type := t, pos := p, after := f, guard := g } w) := by
  have he : ∀ o, exElse ρ o w = (execOp ρ o).run Tryz.prog w := by intro o; unfold exElse; rfl
  rw [he]
  unfold mkCL
  split
  · rename_i a b hv hu
    split
    · rename_i hh
      have hz := hh.choose_spec
      generalize hh.choose = s at hz
      refine ex_buildG 47 ρ _ #[(1, x), (2, y), (4, z)] w w _ rfl ?_
      have := bldC_lit w a b s
      simpa [hv, hu, hz] using this
    · rfl
  · rfl
open Classical in
noncomputable def mkTL (w : World) (v u z : Value) (r : Result Next) : Result Next := match z with
  | .string m => if h : ∃ p : St × St, v = .agg (codS.A p.1) ∧ u = .agg (codS.A p.2) then .ok (.value (.agg (codT.A { zItW with Node := h.choose.1, At := h.choose.2, Name := m.data.toList }))) w else r
  | _ => r
@[simp] theorem mkTL_at (w : World) (s t : St) (m : ByteArray) (r : Result Next) : mkTL w (.agg (codS.A s)) (.agg (codS.A t)) (.string m) r = .ok (.value (.agg (codT.A { zItW with Node := s, At := t, Name := m.data.toList }))) w := by
  unfold mkTL
  have h : ∃ p : St × St, (.agg (codS.A s) : Value) = .agg (codS.A p.1) ∧ (.agg (codS.A t) : Value) = .agg (codS.A p.2) := ⟨(s, t), rfl, rfl⟩
  simp only
  rw [dif_pos h]
  have e1 := codS.v_inj h.choose_spec.1
  have e2 := codS.v_inj h.choose_spec.2
  rw [← e1, ← e2]
@[simp ↓] theorem ex_bldT_lit (ρ : Operand → Value) (x y z : Operand) (d : Option Nat) (t : TypeId) (p : String) (f : Array Edge) (g : Option (Nat × Bool)) (w : World) :
    (execOp ρ { dst := d, op := .build 77 #[(0, x), (1, y), (2, z)], type := t, pos := p, after := f, guard := g }).run Tryz.prog w = mkTL w (ρ x) (ρ y) (ρ z) (exElse ρ { dst := d, op := .build 77 #[(0, x), (1, y), (2, z)], type := t, pos := p, after := f, guard := g } w) := by
  have he : ∀ o, exElse ρ o w = (execOp ρ o).run Tryz.prog w := by intro o; unfold exElse; rfl
  rw [he]
  unfold mkTL
  split
  · rename_i m hm
    split
    · rename_i hh
      have h1 := hh.choose_spec.1
      have h2 := hh.choose_spec.2
      generalize hh.choose = ab at h1 h2
      obtain ⟨a, b⟩ := ab
      refine ex_buildG 77 ρ _ #[(0, x), (1, y), (2, z)] w w _ rfl ?_
      have := bldT_lit w a b m.data.toList
      rw [str_of] at this
      simpa [h1, h2, hm] using this
    · rfl
  · rfl
open Classical in
noncomputable def mkLL (w : World) (v z : Value) (r : Result Next) : Result Next := match z with
  | .string m => if h : ∃ y, v = encI y then .ok (.value (.agg (codL.A { zLbl with Target := h.choose, Name := m.data.toList }))) w else r
  | _ => r
@[simp] theorem mkLL_at (w : World) (x : ID) (m : ByteArray) (r : Result Next) : mkLL w (encI x) (.string m) r = .ok (.value (.agg (codL.A { zLbl with Target := x, Name := m.data.toList }))) w := by
  unfold mkLL
  have h : ∃ y, encI x = encI y := ⟨x, rfl⟩
  simp only
  rw [dif_pos h, ← encI_inj' h.choose_spec]
@[simp ↓] theorem ex_bldL_lit (ρ : Operand → Value) (x z : Operand) (d : Option Nat) (t : TypeId) (p : String) (f : Array Edge) (g : Option (Nat × Bool)) (w : World) :
    (execOp ρ { dst := d, op := .build 55 #[(0, x), (1, z)], type := t, pos := p, after := f, guard := g }).run Tryz.prog w = mkLL w (ρ x) (ρ z) (exElse ρ { dst := d, op := .build 55 #[(0, x), (1, z)], type := t, pos := p, after := f, guard := g } w) := by
  have he : ∀ o, exElse ρ o w = (execOp ρ o).run Tryz.prog w := by intro o; unfold exElse; rfl
  rw [he]
  unfold mkLL
  split
  · rename_i m hm
    split
    · rename_i hh
      have hz := hh.choose_spec
      generalize hh.choose = s at hz
      refine ex_buildG 55 ρ _ #[(0, x), (1, z)] w w _ rfl ?_
      have := bldL_lit w s m.data.toList
      rw [str_of] at this
      simpa [hm, hz] using this
    · rfl
  · rfl
/-! the document's examples -/
def cA : Chg := ⟨[], 1, 1, [], id2 9 0, []⟩
def rA : CgW := { zCgW with Time := 1, R := 1, Tree := id2 9 0 }
def iA : It := ⟨⟨1, 1⟩, ⟨1, 1⟩, [97], zID, []⟩
def riA : ItW := { zItW with Node := ⟨1, 1⟩, At := ⟨1, 1⟩, Name := [97] }
def lA : Lbl := ⟨id2 1 0, [118], []⟩
theorem id9 : id2 9 0 ≠ zID := by decide
theorem rightA : rightCh cA = true := by decide
theorem rightIA : rightDr [iA] = true := by decide
theorem rightLA : rightLb lA = true := by decide
theorem chA : (chB cA).length = 38 ∧ ∃ t, chB cA = 3 :: t := by
  refine ⟨?_, ⟨_, rfl⟩⟩
  simp [chB, cA, txB, numB, (id2 9 0).2]
theorem kindCA : kindO (chB cA) = 3 := (kind_ch (Rt.ch rightA)).1
theorem kindIA : kindO (drB [iA]) = 2 := (kind_dr (Rt.dr rightIA)).1
theorem kindLA : kindO (lbB lA) = 4 := (kind_lb (Rt.lb rightLA)).1
theorem linksA : (linksO (chB cA)).length = 1 := by
  unfold linksO
  rw [(kind_ch (Rt.ch rightA)).2]
  have h1 : sortI (cA.Parents ++ [cA.Tree] ++ cA.Ops.map (·.Data)) = [id2 9 0] := by
    show sortI [id2 9 0] = [id2 9 0]
    have hp : (sortI [id2 9 0]).Perm [id2 9 0] := List.mergeSort_perm _ _
    exact List.perm_singleton.1 hp
  rw [h1]
  have h2 : cpt [id2 9 0] = [id2 9 0] := rfl
  rw [h2, dropZ_cons, if_neg id9]
  rfl
theorem PtTo.some {w w' : World} {o : Option (List UInt8)} {err : Int} {e : Ending} {b : List UInt8} {n : Nat} (h : PtTo w o err e w') (ho : o = .some b) (hn : b.length = n) :
    ∃ A c, e = .returned (.tuple #[.slice A n c, .int .i64 0]) ∧ Sl w' A (bv b) ∧ Fr noB w w' ∧ n ≤ c ∧ w'.ownsRow w.heap.size 5 1 (.slice A b.length c) b.length (bv b) := by
  subst ho
  subst hn
  obtain ⟨A, c, h1, h2, h3, h4⟩ := h
  exact ⟨A, c, h1, Sl.own h2, h3, h4, h2⟩
theorem sl_ab (w : World) : Sl (w.alloc (.cells #[.int .u8 97, .int .u8 98] 5 (2, 3))) (some ⟨w.heap.size, 0, none⟩) (bv [97, 98]) := by
  intro _
  refine ⟨w.heap.size, 0, rfl, by simp, fun j v hv => ?_⟩
  have hh : (w.alloc (.cells #[.int .u8 97, .int .u8 98] 5 (2, 3))).heap[w.heap.size]? = some (.cells #[.int .u8 97, .int .u8 98] 5 (2, 3)) := heap_alloc_new w _
  rw [Nat.zero_add, cell_of_row _ _ j #[.int .u8 97, .int .u8 98] 5 (2, 3) hh, ← hv]
  match j with
  | 0 => rfl
  | 1 => rfl
  | j + 2 => rfl
theorem bIA : (drB [iA]).length ≤ 100000 := by
  have h1 := stB_len (s := ⟨1, 1⟩) ⟨by decide, by decide, by decide, by decide⟩
  have h2 := numB_length 1 (by decide)
  have h3 := numB_length 0 (by decide)
  simp only [drB, itB, iA, txB, List.flatMap_cons, List.flatMap_nil, List.append_nil, List.length_cons, List.length_append, List.length_nil, zID, List.length_replicate, Nat.zero_add]
  omega
theorem bLA : (lbB lA).length ≤ 100000 := by
  have h2 := numB_length 1 (by decide)
  have h3 := numB_length 0 (by decide)
  simp only [lbB, lA, txB, List.length_cons, List.length_append, List.length_nil, (id2 1 0).2, Nat.zero_add]
  omega
theorem cgA (w : World) : CgIn w rA [] cA := ⟨rfl, rfl, rfl, rfl, rfl, Sl.nil _ _, rfl, Sl.nil _ _, ⟨rfl, fun i h => absurd h (by simp)⟩, by simp [cA], by simp, by simp [rA, zCgW]⟩
theorem itA (w : World) : ItsIn w [riA] [iA] := ⟨rfl, fun i h h' => by
  have hi : i = 0 := by simp at h; omega
  subst hi
  exact ⟨rfl, rfl, Sl.nil _ _, by simp [iA], by simp [riA]⟩⟩
/-- the examples' bytes, closed -/
structure ExB (bI bL bC : List UInt8) : Prop where
  pI : putDr [iA] = some bI
  pL : putLb lA = some bL
  pC : putCh cA = some bC
  kI : kindO bI = 2
  kL : kindO bL = 4
  kC : kindO bC = 3
  lI : bI.length ≤ 100000
  lL : bL.length ≤ 100000
  lC : bC.length = 38
  hC : ∃ t, bC = 3 :: t
  nC : (linksO bC).length = 1
theorem exB : ∃ bI bL bC, ExB bI bL bC := ⟨drB [iA], lbB lA, chB cA, by unfold putDr; rw [if_pos rightIA], by unfold putLb; rw [if_pos rightLA], by unfold putCh; rw [if_pos rightA], kindIA, kindLA, kindCA, bIA, bLA, chA.1, chA.2, linksA⟩
set_option maxRecDepth 100000 in
set_option maxHeartbeats 4000000 in
theorem alive_any (w : World) : Calls Tryz.prog 9 #[] w (Gives w (.bool true)) := by
  have fa : Fr noB w (w.alloc (.cells #[.int .u8 97, .int .u8 98] 5 (2, 3))) := (Fr.refl noB w).alloc _
  have hsl := sl_ab w
  have hN9 : id2 (Int.toNat 9) 0 = id2 9 0 := rfl
  obtain ⟨bI, bL, bC, hE⟩ := exB
  have E := Lib.hid hE
  clear hE
  go_enter Tryz.func9, Tryz.ntmps9
  go_upto_region 2 with (go_at_call 10; refine (putBlob_any _ _ 2 2 [97, 98] rfl hsl (by simp)).mono ?_; intro e w1 hp; obtain ⟨A1, c1, rfl, hs1, f1, hc1, _⟩ := hp.some (b := [1, 97, 98]) (n := 3) rfl rfl)
  replace f1 := fa.step0 f1
  clear fa hsl hN9
  go_upto_region 3 with (go_at_call 23; refine (putChange_any _ rA [] cA (cgA _)).mono ?_; intro e w2 hp; obtain ⟨A2, c2, rfl, hs2, f2, hc2, _⟩ := hp.some (b := bC) (n := 38) E.out.pC E.out.lC)
  replace hs1 := hs1.fr0 f2
  replace f1 := f1.step0 f2
  have fn : Fr noB w2 (w2.alloc (codT.ro [riA])) := (Fr.refl noB w2).alloc _
  go_upto_region 4 with (go_at_call 15; refine (putDir_any _ _ 1 1 [riA] [iA] rfl (Cod.sl_new (C := codT) w2 [riA]) (by simp) (itA _)).mono ?_; intro e w3 hp; obtain ⟨A3, c3, rfl, hs3, f3, hc3, _⟩ := hp.some (b := bI) (n := bI.length) E.out.pI rfl)
  replace f3 := fn.step0 f3
  replace hs1 := hs1.fr0 f3
  replace hs2 := hs2.fr0 f3
  replace f1 := f1.step0 f3
  clear fn f2
  go_upto_region 5 with (go_at_call 28; refine (putLabel_any _ lA (by simp [lA]) (by simp [lA])).mono ?_; intro e w4 hp; obtain ⟨A4, c4, rfl, hs4, f4, hc4, _⟩ := hp.some (b := bL) (n := bL.length) E.out.pL rfl)
  replace hs1 := hs1.fr0 f4
  replace hs2 := hs2.fr0 f4
  replace hs3 := hs3.fr0 f4
  replace f1 := f1.step0 f4
  clear f3 f4
  have cv := conv_str w4 A1 3 c1 [1, 97, 98] rfl hs1
  have bs : ((str [1, 97, 98]).toList == [1, 97, 98]) = true := by rw [str_toList]; rfl
  obtain ⟨t3, ht3⟩ := E.out.hC
  obtain ⟨g2, off2, rfl, hg2, hcc⟩ := hs2 (by rw [ht3]; simp [bv_cons])
  have hc0 : w4.cell? ⟨g2, off2, none⟩ = some (.int .u8 3) := hcc 0 _ (by rw [ht3]; rfl)
  have f5 : Fr noB w4 w4 := Fr.refl _ _
  have B2 : bC.length ≤ c2 := by rw [E.out.lC]; exact hc2
  clear ht3 hcc hs1
  have tok1 : True := trivial
  go_wp2_with (first
    | (have tt := tok1; go_at_call 14; refine (kind_z _ A3 c3 _ bI rfl (hs3.fr0 f5) hc3 (by have := E.out.lI; omega) 2 2 E.out.kI rfl).mono ?_; rintro e w5 ⟨rfl, f6⟩; replace f5 := f5.step0 f6; clear tt tok1; have tok2 : True := trivial)
    | (have tt := tok2; go_at_call 14; refine (kind_z _ A4 c4 _ bL rfl (hs4.fr0 f5) hc4 (by have := E.out.lL; omega) 4 4 E.out.kL rfl).mono ?_; rintro e w5 ⟨rfl, f6⟩; replace f5 := f5.step0 f6; clear tt tok2; have tok3 : True := trivial)
    | (have tt := tok3; go_at_call 14; refine (kind_z _ (some ⟨g2, off2, none⟩) c2 38 bC E.out.lC (hs2.fr0 f5) B2 (by have := E.out.lC; omega) 3 3 E.out.kC rfl).mono ?_; rintro e w5 ⟨rfl, f6⟩; replace f5 := f5.step0 f6; clear tt tok3)
    | (go_at_call 21; refine (links_all _ (some ⟨g2, off2, none⟩) c2 38 bC E.out.lC (hs2.fr0 f5) B2 (by have := E.out.lC; omega)).mono ?_; rintro e w5 ⟨A9, c9, rfl, hs9, f6, hc9⟩; rw [E.out.nC]; replace f5 := f5.step0 f6))
  go_ret
  exact ⟨rfl, f1.step0 f5⟩
end Go.Proofs.YtejkfekpgbmdiaaGreat
