/- The law's nodes: an ID and a row of IDs, in a struct; rows of them. -/
import Derived.Test.YtchiclnnoealdaaBoxI
namespace Go.Proofs.Ytchiclnnoealdaa
open Go.RowKit Go.Maps Go.Sort Go.Shelf
set_option linter.unusedVariables false
set_option linter.unusedSimpArgs false

def lnC (p : ID × Value) : List Value := bv p.1.1 ++ [p.2]
theorem lnC_len (p : ID × Value) : (lnC p).length = 33 := by simp [lnC, p.1.2]
@[irreducible] def lnA (p : ID × Value) : Array Value := (lnC p).toArray
theorem lnA_eq (p : ID × Value) : lnA p = (lnC p).toArray := by unfold lnA; rfl
abbrev lnV (p : ID × Value) : Value := .agg (lnA p)
abbrev lno (p : ID × Value) : Obj := .cells (lnA p) 31
def zN : ID × Value := (zID, .slice none 0 0)
theorem lnV_cells (p : ID × Value) : (lnV p).cells = (lnC p).toArray := by simp [Value.cells, lnA_eq]
theorem lnC_one (p : ID × Value) (h : p.2.oneCell' = true) : ∀ u ∈ lnC p, u.oneCell' = true := by
  intro u hu
  simp only [lnC, List.mem_append, List.mem_singleton] at hu
  rcases hu with hu | rfl
  · exact bv_one _ u hu
  · exact h

/-- such a node lies in block b from o on -/
def RdN (w : World) (b o : Nat) (p : ID × Value) : Prop := w.rangeAt b o (lnC p)
theorem infoLN : (Try.prog.info? 31).map (·.size) = some 33 := by kernel_rfl
theorem RdN.id {w : World} {b o : Nat} {p : ID × Value} (h : RdN w b o p) : rdI w b o = some p.1 :=
  Rd.rdI fun j v hv => h j v (by rw [lnC, List.getElem?_append_left ((List.getElem?_eq_some_iff.1 hv).1)]; exact hv)
theorem RdN.sl {w : World} {b o : Nat} {p : ID × Value} (h : RdN w b o p) : w.cell? ⟨b, o + 32, none⟩ = some p.2 :=
  h 32 _ (by rw [lnC, List.getElem?_append_right (by simp [p.1.2])]; simp [p.1.2])
theorem RdN.lt {w : World} {b o : Nat} {p : ID × Value} (h : RdN w b o p) : b < w.heap.size := rdI_lt h.id
theorem RdN.fr {M : Nat → Prop} {w w' : World} {b o : Nat} {p : ID × Value} (h : RdN w b o p) (f : Fr M w w') (hM : ¬ M b) : RdN w' b o p :=
  fun j v hv => (World.cell?_of_block (a := ⟨b, o + j, none⟩) (f.block b h.lt hM)).trans (h j v hv)
theorem ld_ln {w : World} {b o : Nat} {p : ID × Value} (h : RdN w b o p) : (Instr.loadAt 31 (.pointer (some ⟨b, o, none⟩))).run Try.prog w = .ok (lnV p) w := by
  simp only [lnV, lnA_eq]
  exact run_loadAt_mid w b o 31 (lnC p) _ h Try.underlying31 rfl (by rw [lnC_len]; exact infoLN)
theorem RdN.new (w : World) (p : ID × Value) : RdN (w.alloc (lno p)) w.heap.size 0 p := by
  intro j v hv
  have hh : (w.alloc (lno p)).heap[w.heap.size]? = some (lno p) := heap_alloc_new w _
  simp only [lno, lnA_eq] at hh ⊢
  rw [Nat.zero_add, cell_of_row _ _ j (lnC p).toArray 31 (0, 0) hh]
  simpa using hv
theorem al_ln (w : World) : (Instr.alloc 31 true (.tuple #[])).run Try.prog w = .ok (.pointer (some ⟨w.heap.size, 0, none⟩)) (w.alloc (lno zN)) := by
  have hz : (zeroValue 31).run Try.prog w = .ok (lnV zN) w := by
    simp only [lnV, lnA_eq]
    exact (zero_of_info (P := Try.prog) (t := 31) (v := .agg (lnC zN).toArray) (n := 33) (by kernel_rfl)).1 w
  have hb : (Instr.box 31 (lnV zN)).run Try.prog w = .ok (.pointer (some ⟨w.heap.size, 0, none⟩)) (w.alloc (lno zN)) := by
    simp [Instr.box, newVar, newRow, newObj, Value.cells, Sem.run, Result.andThen]
  simp only [Instr.alloc, Sem.run_bind, hz, Result.andThen_ok]
  exact hb
@[simp ↓] theorem ex_alN (ρ : Operand → Value) (d : Option Nat) (t : TypeId) (p : String) (f : Array Edge) (g : Option (Nat × Bool)) (w : World) :
    (execOp ρ { dst := d, op := .alloc 31, type := t, pos := p, after := f, guard := g }).run Try.prog w = .ok (.value (.pointer (some ⟨w.heap.size, 0, none⟩))) (w.alloc (lno zN)) := by
  unfold execOp
  simp only [Sem.run_bind, al_ln, Result.andThen_ok, Sem.run_pure]
@[irreducible] noncomputable def stN (w : World) (v u : Value) : Result Next := ((Instr.storeAt 31 v u).run Try.prog w).andThen (fun _ w => .ok .skip w)
@[simp ↓] theorem ex_stN (ρ : Operand → Value) (a x : Operand) (d : Option Nat) (t : TypeId) (p : String) (f : Array Edge) (g : Option (Nat × Bool)) (w : World) :
    (execOp ρ { dst := d, op := .store 31 a x, type := t, pos := p, after := f, guard := g }).run Try.prog w = stN w (ρ a) (ρ x) := by
  unfold execOp stN
  simp only [Sem.run_bind, Sem.run_pure]
/-- one cell holds it -/
def isSl (v : Value) : Bool := match v with | .slice .. => true | _ => false
theorem isSl_one {v : Value} (h : isSl v = true) : v.oneCell' = true := by
  cases v <;> first | rfl | (cases h)
theorem stN_new (w : World) (p q : ID × Value) (h : isSl p.2 = true) : stN (w.alloc (lno q)) (.pointer (some ⟨w.heap.size, 0, none⟩)) (lnV p) = .ok .skip (w.alloc (lno p)) := by
  unfold stN
  simp only [lnV, lno, lnA_eq]
  rw [run_storeAt_new w 31 _ _ (by rw [List.size_toArray, lnC_len]; exact infoLN) (by simp [lnC_len]) (all_oneCell_toArray (lnC_one p (isSl_one h)))]
  rfl
@[simp] theorem stN_sl (w : World) (x : ID) (B : Option Addr) (n c : Nat) (q : ID × Value) : stN (w.alloc (lno q)) (.pointer (some ⟨w.heap.size, 0, none⟩)) (lnV (x, .slice B n c)) = .ok .skip (w.alloc (lno (x, .slice B n c))) := stN_new w _ q rfl
@[irreducible] noncomputable def ldN (w : World) (v : Value) : Result Next := ((Instr.loadAt 31 v).run Try.prog w).andThen (fun v w => .ok (.value v) w)
@[simp ↓] theorem ex_ldN (ρ : Operand → Value) (a : Operand) (d : Option Nat) (t : TypeId) (p : String) (f : Array Edge) (g : Option (Nat × Bool)) (w : World) :
    (execOp ρ { dst := d, op := .load 31 a, type := t, pos := p, after := f, guard := g }).run Try.prog w = ldN w (ρ a) := by
  unfold execOp ldN
  simp only [Sem.run_bind, Sem.run_pure]
theorem ldN_at {w : World} {b o : Nat} {p : ID × Value} (h : RdN w b o p) : ldN w (.pointer (some ⟨b, o, none⟩)) = .ok (.value (lnV p)) w := by
  unfold ldN; rw [ld_ln h]; rfl
/-- 'Node{id, parents}' -/
@[irreducible] noncomputable def bldN (w : World) (v u : Value) : Result Next := ((Instr.build 31 #[(0, v), (1, u)]).run Try.prog w).andThen (fun v w => .ok (.value v) w)
@[simp ↓] theorem ex_bldN (ρ : Operand → Value) (a b : Operand) (d : Option Nat) (t : TypeId) (p : String) (f : Array Edge) (g : Option (Nat × Bool)) (w : World) :
    (execOp ρ { dst := d, op := .build 31 #[(0, a), (1, b)], type := t, pos := p, after := f, guard := g }).run Try.prog w = bldN w (ρ a) (ρ b) := by
  unfold execOp bldN
  simp only [List.map_toArray, List.map_cons, List.map_nil, Sem.run_bind, Sem.run_pure]
@[simp] theorem bldN_at (w : World) (x : ID) (B : Option Addr) (n c : Nat) : bldN w (encI x) (.slice B n c) = .ok (.value (lnV (x, .slice B n c))) w := by
  unfold bldN
  have hz : (zeroValue 31).run Try.prog w = .ok (lnV zN) w := by
    simp only [lnV, lnA_eq]
    exact (zero_of_info (P := Try.prog) (t := 31) (v := .agg (lnC zN).toArray) (n := 33) (by kernel_rfl)).1 w
  have h1 : ∀ place : Nat → Option (Nat × Nat), place 0 = some (0, 32) → place 1 = some (32, 1) → Instr.fill place ([] ++ bv zID.1 ++ [Value.slice none 0 0]).toArray [(0, encI x), (1, .slice B n c)] = some (lnC (x, .slice B n c)).toArray := by
    intro place p0 p1
    refine (fill_one place [] (bv zID.1) [.slice none 0 0] (bv x.1) 0 (encI x) [(1, .slice B n c)] (cellsI x) (by simp [x.2, p0]) (by simp [x.2, zID])).trans ?_
    have := fill_one place (bv x.1) [.slice none 0 0] [] [.slice B n c] 1 (.slice B n c) [] rfl (by simp [x.2, p1]) rfl
    rw [List.append_nil] at this
    exact this.trans (by simp [Instr.fill, lnC])
  have hc : (lnV zN).cells = ([] ++ bv zID.1 ++ [Value.slice none 0 0]).toArray := by rw [lnV_cells]; rfl
  have hs29 : (sizeOf 29).run Try.prog w = .ok 1 w := Try.sizeOf29 w
  simp only [Instr.build, Sem.run_bind, hz, Result.andThen_ok, run_underlying Try.underlying31, hc]
  simp only [List.mapM_toArray, List.mapM_cons, List.mapM_nil, Sem.run_bind, sizeID, hs29, Result.andThen_ok, Sem.run_pure, Sem.run_map, map_pure, bind_pure_comp]
  rw [h1 _ rfl rfl]
  simp [lnV, lnA_eq]
/-- rows: what is filled in one by one -/
theorem fill_row (s : Nat) : ∀ (vs : List (Value × List Value)) (k : Nat) (pre z : List Value), pre.length = k * s → z.length = vs.length * s → (∀ p ∈ vs, p.1.cells = p.2.toArray ∧ p.2.length = s) →
    Instr.fill (fun i => some (i * s, s)) (pre ++ z).toArray ((vs.zipIdx k).map fun p => (p.2, p.1.1)) = some (pre ++ vs.flatMap (·.2)).toArray
  | [], k, pre, z, hp, hz, _ => by
    have : z = [] := List.eq_nil_of_length_eq_zero (by simpa using hz)
    subst this
    simp [Instr.fill]
  | v :: vs, k, pre, z, hp, hz, hv => by
    obtain ⟨h1, h2⟩ := hv v (by simp)
    simp only [List.length_cons, Nat.add_mul, Nat.one_mul] at hz
    rw [List.zipIdx_cons, List.map_cons]
    have e : z = z.take s ++ z.drop s := (List.take_append_drop s z).symm
    rw [e, ← List.append_assoc]
    have hm : (z.take s).length = v.2.length := by rw [List.length_take, h2]; omega
    rw [fill_one (fun i => some (i * s, s)) pre (z.take s) (z.drop s) v.2 k v.1 _ h1 (by simp [hp, h2]) hm]
    have := fill_row s vs (k + 1) (pre ++ v.2) (z.drop s) (by simp [hp, h2, Nat.add_mul]) (by simp; omega) (fun p hp => hv p (by simp [hp]))
    rw [this]
    simp
def lnR (l : List (ID × Value)) : List Value := l.flatMap lnC
@[irreducible] def lnRA (l : List (ID × Value)) : Array Value := (lnR l).toArray
theorem lnRA_eq (l : List (ID × Value)) : lnRA l = (lnR l).toArray := by unfold lnRA; rfl
theorem lnR_len (l : List (ID × Value)) : (lnR l).length = l.length * 33 := by
  induction l with
  | nil => rfl
  | cons p l ih => simp only [lnR, List.flatMap_cons, List.length_append, lnC_len, List.length_cons] at ih ⊢; omega
theorem lnR_get (l : List (ID × Value)) (i j : Nat) (hi : i < l.length) (v : Value) (hv : (lnC l[i])[j]? = some v) : (lnR l)[i * 33 + j]? = some v := by
  induction l generalizing i with
  | nil => simp at hi
  | cons x l ih =>
    have hj : j < 33 := by have := (List.getElem?_eq_some_iff.1 hv).1; rw [lnC_len] at this; exact this
    simp only [lnR, List.flatMap_cons]
    cases i with
    | zero =>
      rw [List.getElem?_append_left (by rw [lnC_len]; omega)]
      simpa using hv
    | succ i =>
      rw [List.getElem?_append_right (by rw [lnC_len]; omega), lnC_len]
      have := ih i (by simpa using hi) (by simpa using hv)
      rw [show (i + 1) * 33 + j - 33 = i * 33 + j by omega]
      exact this
theorem Sl.ln {w : World} {g off : Nat} {l : List (ID × Value)} (h : Sl w (some ⟨g, off, none⟩) (lnR l)) (i : Nat) (hi : i < l.length) : RdN w g (off + i * 33) l[i] := by
  intro j v hv
  have hne : lnR l ≠ [] := by intro h0; have := lnR_len l; rw [h0] at this; simp at this; omega
  obtain ⟨g', off', e, _, hc⟩ := h hne
  injection e with e
  injection e with e1 e2
  subst e1; subst e2
  have := hc _ v (lnR_get l i j hi v hv)
  rwa [← Nat.add_assoc] at this
theorem zs5 : (Array.range (5 * 33)).map ((lnV zN).cells[· % (lnV zN).cells.size]!) = ([] ++ lnR [zN, zN, zN, zN, zN]).toArray := by rw [lnV_cells]; kernel_rfl
theorem bsN5 (w : World) (p0 p1 p2 p3 p4 : ID × Value) : (Instr.buildSlice 22 5 #[(0, lnV p0), (1, lnV p1), (2, lnV p2), (3, lnV p3), (4, lnV p4)]).run Try.prog w = .ok (.slice (some ⟨w.heap.size, 0, none⟩) 5 5) (w.alloc (.cells (lnRA [p0, p1, p2, p3, p4]) 31)) := by
  have hz : (zeroValue 31).run Try.prog w = .ok (lnV zN) w := by
    simp only [lnV, lnA_eq]
    exact (zero_of_info (P := Try.prog) (t := 31) (v := .agg (lnC zN).toArray) (n := 33) (by kernel_rfl)).1 w
  have hs : (sizeOf 31).run Try.prog w = .ok 33 w := Try.sizeOf31 w
  have h1 := fill_row 33 ([p0, p1, p2, p3, p4].map fun p => (lnV p, lnC p)) 0 [] (lnR [zN, zN, zN, zN, zN]) (by simp) (by simp [lnR_len]) (by
    intro q hq
    obtain ⟨p, _, rfl⟩ := List.mem_map.1 hq
    exact ⟨lnV_cells p, lnC_len p⟩)
  simp only [List.map_cons, List.map_nil, List.zipIdx_cons, List.zipIdx_nil, Nat.zero_add] at h1
  simp only [Instr.buildSlice, Sem.run_bind, run_underlying Try.underlying22, Result.andThen_ok, hs]
  simp only [show (5 * 33 > 2 ^ 24) = False from by simp, show (5 * 33 = 0) = False from by simp, if_false, Sem.run_bind, hz, Result.andThen_ok, Sem.run_pure, zs5]
  rw [h1]
  simp [newRow, newObj, lnRA_eq, lnR, Sem.run, Result.andThen]
@[irreducible] noncomputable def bsN (w : World) (v0 v1 v2 v3 v4 : Value) : Result Next := ((Instr.buildSlice 22 5 #[(0, v0), (1, v1), (2, v2), (3, v3), (4, v4)]).run Try.prog w).andThen (fun v w => .ok (.value v) w)
@[simp ↓] theorem ex_bsN (ρ : Operand → Value) (a b c e h : Operand) (d : Option Nat) (t : TypeId) (p : String) (f : Array Edge) (g : Option (Nat × Bool)) (w : World) :
    (execOp ρ { dst := d, op := .buildSlice 22 5 #[(0, a), (1, b), (2, c), (3, e), (4, h)], type := t, pos := p, after := f, guard := g }).run Try.prog w = bsN w (ρ a) (ρ b) (ρ c) (ρ e) (ρ h) := by
  unfold execOp bsN
  simp only [List.map_toArray, List.map_cons, List.map_nil, Sem.run_bind, Sem.run_pure]
@[simp] theorem bsN_at (w : World) (p0 p1 p2 p3 p4 : ID × Value) : bsN w (lnV p0) (lnV p1) (lnV p2) (lnV p3) (lnV p4) = .ok (.value (.slice (some ⟨w.heap.size, 0, none⟩) 5 5)) (w.alloc (.cells (lnRA [p0, p1, p2, p3, p4]) 31)) := by
  unfold bsN; rw [bsN5]; rfl
theorem lnR_new (w : World) (l : List (ID × Value)) : Sl (w.alloc (.cells (lnRA l) 31)) (some ⟨w.heap.size, 0, none⟩) (lnR l) := by
  rw [lnRA_eq]; exact Sl.new w 31 (lnR l)
end Go.Proofs.Ytchiclnnoealdaa
