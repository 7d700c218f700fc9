/- Maps with stamps as keys, read by a function: facts on it are rewrite rules of the walk. Tables of rows: what lies at a node; depths. Plain: what snap.Right's loops have found up to now. -/
import Derived.Test.YtefcalkbfaefgaaGreatRowCK
import Derived.Test.YtefcalkbfaefgaaGreatMapRK
import Derived.Test.YtefcalkbfaefgaaGreatBoxOK
import Derived.DeepKeys4
import Derived.WideLaws
namespace Go.Proofs.YtefcalkbfaefgaaGreat
open Go.RowKit Go.Maps Go.Sort
set_option linter.unusedVariables false
set_option linter.unusedSimpArgs false

theorem laidOutP : laidOutB Tryz.prog = true := by kernel_rfl
abbrev KS := { s : St // wfS s = true }
abbrev encK (k : KS) : Value := .agg (codS.A k.1)
theorem wf_lit {k : Int} (h1 : -9223372036854775808 ≤ k) (h2 : k ≤ 9223372036854775807) : (Lit.int .i64 k).wf = true := by
  simp only [Lit.wf]
  have e1 : IntKind.i64.min = -9223372036854775808 := rfl
  have e2 : IntKind.i64.max = 9223372036854775807 := rfl
  rw [e1, e2]
  simp [h1, h2]
theorem keyK_good (x : KS) : ∃ l, keyOf Tryz.prog 30 (encK x) = some l := by
  have h1 : Tryz.prog.keyType 30 = true := by kernel_rfl
  have h2 : Tryz.prog.cellsOf 30 = 2 := by kernel_rfl
  have h3 : Tryz.prog.cellsOf 2 = 1 := by kernel_rfl
  have h3' : Tryz.prog.cellsOf 3 = 1 := by kernel_rfl
  have hw := x.2
  unfold wfS at hw
  simp only [Bool.and_eq_true, decide_eq_true_eq] at hw
  have w1 := wf_lit hw.1.1.1 hw.1.1.2
  have w2 := wf_lit hw.1.2 hw.2
  have h4 : (encK x).formed Tryz.prog 30 = true := by
    simp [Value.formed, Tryz.underlying30, h2, Cod.A_eq, codS, csS]
  have hs : ∃ d, Tryz.prog.types.size = d + 1 := ⟨Tryz.prog.types.size - 1, by
    have : 0 < Tryz.prog.types.size := of_decide_eq_true (by kernel_rfl)
    omega⟩
  obtain ⟨d, hd⟩ := hs
  have k1 : Tryz.prog.keyLits (d + 1) 2 [.int .i64 x.1.T] = some [.int .i64 x.1.T] := by
    simp [Program.keyLits, Tryz.underlying2, w1]
  have k2 : Tryz.prog.keyLits (d + 1) 3 [.int .i64 x.1.R] = some [.int .i64 x.1.R] := by
    simp [Program.keyLits, Tryz.underlying3, w2]
  have hk : ∃ ls, Tryz.prog.keyLits (Tryz.prog.types.size + 1) 30 (encK x).cells.toList = some ls := by
    have hc : (encK x).cells.toList = [.int .i64 x.1.T, .int .i64 x.1.R] := by simp [Value.cells, Cod.A_eq, codS, csS]
    rw [hc, hd]
    unfold Program.keyLits
    rw [Tryz.underlying30]
    simp [h2, h3, h3', k1, k2]
  obtain ⟨ls, hls⟩ := hk
  unfold keyOf
  rw [Tryz.underlying30]
  simp only [h1, h4, Bool.and_self, if_true]
  rw [hls]
  exact ⟨_, rfl⟩
theorem keyK : KeyE Tryz.prog 30 encK where
  K := Keyed.of_law (deep_law_laid laidOutP (m := 8) (by decide) (of_decide_eq_true (by kernel_rfl)) (by kernel_rfl) (by kernel_rfl))
  good := keyK_good
  inj := fun a b h => Subtype.ext (Cod.v_inj (C := codS) h)

def upK (kv : List (KS × Value)) : List (St × Value) := kv.map fun p => (p.1.1, p.2)
theorem look_upK (kv : List (KS × Value)) (k : KS) : look (upK kv) k.1 = look kv k := by
  induction kv with
  | nil => rfl
  | cons p kv ih =>
    unfold look upK at ih ⊢
    rw [List.map_cons, List.find?_cons, List.find?_cons]
    by_cases h : p.1 = k
    · simp [h]
    · have h' : p.1.1 ≠ k.1 := fun e => h (Subtype.ext e)
      simp only [h, h', decide_false]
      exact ih
theorem putL_upK (kv : List (KS × Value)) (k : KS) (v : Value) : putL (upK kv) k.1 v = upK (putL kv k v) := by
  unfold putL
  rw [look_upK]
  split
  · unfold upK
    rw [List.map_map, List.map_map]
    refine List.map_congr_left fun p _ => ?_
    simp only [Function.comp_apply]
    by_cases h : p.1 = k
    · simp [h]
    · have h' : p.1.1 ≠ k.1 := fun e => h (Subtype.ext e)
      simp [h, h']
  · simp [upK]
theorem upK_inj {a b : List (KS × Value)} (h : upK a = upK b) : a = b := by
  induction a generalizing b with
  | nil => cases b with
    | nil => rfl
    | cons q b => simp [upK] at h
  | cons p a ih => cases b with
    | nil => simp [upK] at h
    | cons q b =>
      unfold upK at h ih
      simp only [List.map_cons, List.cons.injEq, Prod.mk.injEq] at h
      rw [ih h.2, show p = q from Prod.ext (Subtype.ext h.1.1) h.1.2]
theorem MapL.uniqK {w : World} {r : Nat} {a b : List (KS × Value)} (ha : MapL encK w r a) (hb : MapL encK w r b) : a = b := by
  obtain ⟨es, c, h1, e1⟩ := ha
  obtain ⟨es', c', h2, e2⟩ := hb
  rw [h1] at h2
  injection h2 with h2
  injection h2 with h2 _
  subst h2
  have h := e1.is.symm.trans e2.is
  have inj : ∀ (p q : KS × Value), (encK p.1, p.2) = (encK q.1, q.2) → p = q := by
    intro p q e
    simp only [Prod.mk.injEq] at e
    exact Prod.ext (keyK.inj _ _ e.1) e.2
  clear e1 e2 h1
  induction a generalizing b with
  | nil => cases b with
    | nil => rfl
    | cons q b => simp at h
  | cons p a ih => cases b with
    | nil => simp at h
    | cons q b =>
      simp only [List.map_cons, List.cons.injEq] at h
      rw [inj p q h.1, ih h.2]
open Classical in
/-- what the map in block r holds -/
noncomputable def mpT (w : World) (r : Nat) : Option (List (St × Value)) := if h : ∃ kv, MapL encK w r kv then some (upK h.choose) else none
theorem MapL.mpT {w : World} {r : Nat} {kv : List (KS × Value)} (h : MapL encK w r kv) : mpT w r = some (upK kv) := by
  unfold Go.Proofs.YtefcalkbfaefgaaGreat.mpT
  have hx : ∃ x, MapL encK w r x := ⟨kv, h⟩
  rw [dif_pos hx]
  exact congrArg (fun x => some (upK x)) (hx.choose_spec.uniqK h)
theorem mpT_mp {w : World} {r : Nat} {kv : List (St × Value)} (h : mpT w r = some kv) : ∃ kv', kv = upK kv' ∧ MapL encK w r kv' := by
  unfold mpT at h
  split at h
  · rename_i hx
    injection h with h
    exact ⟨_, h.symm, hx.choose_spec⟩
  · cases h
theorem mpT_lt {w : World} {r : Nat} {kv : List (St × Value)} (h : mpT w r = some kv) : r < w.heap.size := by
  obtain ⟨_, _, h⟩ := mpT_mp h
  exact h.lt
theorem mpT_keep {w w' : World} {r : Nat} (hb : w'.heap[r]? = w.heap[r]?) : mpT w' r = mpT w r := by
  cases hx : mpT w r with
  | some x =>
    obtain ⟨kv, rfl, es, c, h1, h2⟩ := mpT_mp hx
    exact MapL.mpT ⟨es, c, hb.trans h1, h2⟩
  | none =>
    cases hy : mpT w' r with
    | none => rfl
    | some y =>
      obtain ⟨kv, rfl, es, c, h1, h2⟩ := mpT_mp hy
      rw [MapL.mpT ⟨es, c, hb.symm.trans h1, h2⟩] at hx; cases hx
theorem mpT_fr {M : Nat → Prop} {w w' : World} {r : Nat} {kv : List (St × Value)} (h : mpT w r = some kv) (f : Fr M w w') (hM : ¬ M r) : mpT w' r = some kv := (mpT_keep (f.block r (mpT_lt h) hM)).trans h
theorem mpT_fr0 {w w' : World} {r : Nat} {kv : List (St × Value)} (h : mpT w r = some kv) (f : Fr noB w w') : mpT w' r = some kv := mpT_fr h f (by simp [noB])
@[simp] theorem mpT_drew (w : World) (r : Nat) : mpT w.drew r = mpT w r := mpT_keep rfl
@[simp] theorem mpT_drewN (w : World) (n r : Nat) : mpT (w.drewN n) r = mpT w r := mpT_keep rfl
@[simp] theorem mpT_old (w : World) (ob : Obj) (r : Nat) (h : r < w.heap.size) : mpT (w.alloc ob) r = mpT w r := mpT_keep (heap_alloc_old w ob h)
@[simp] theorem mpT_new (w : World) : mpT (w.alloc (.map #[] 0)) w.heap.size = some [] := (MapL.new encK w).mpT
theorem mpT_blk {w : World} {r : Nat} {kv : List (St × Value)} (h : mpT w r = some kv) : ∃ es c, w.heap[r]? = some (.map es c) := by
  obtain ⟨kv, rfl, es, c, h1, _⟩ := mpT_mp h
  exact ⟨es, c, h1⟩
theorem mpT_nd {w : World} {r : Nat} {kv : List (St × Value)} (h : mpT w r = some kv) : (kv.map (·.1)).Nodup := by
  obtain ⟨kv, rfl, es, c, _, h1⟩ := mpT_mp h
  have := h1.nd
  unfold upK
  rw [List.map_map]
  have e : ((fun x : St × Value => x.1) ∘ fun p : KS × Value => (p.1.1, p.2)) = (fun k : KS => k.1) ∘ (fun p : KS × Value => p.1) := rfl
  rw [e, ← List.map_map]
  rw [List.Nodup, List.pairwise_map]
  exact this.imp fun {a b} h e => h (Subtype.ext e)
/-- cells lie in no map's block -/
theorem mpT_cell {w : World} {r : Nat} {kv : List (St × Value)} (h : mpT w r = some kv) (o : Nat) (f : Option Nat) : w.cell? ⟨r, o, f⟩ = none := by
  obtain ⟨es, c, h1⟩ := mpT_blk h
  cases f <;> simp [World.cell?, h1]
theorem mpT_ne {w : World} {r : Nat} {kv : List (St × Value)} (h : mpT w r = some kv) {g : Nat} {t : TypeId} {cs : Array Value} {z : Nat × Nat} (hb : w.heap[g]? = some (.cells cs t z)) : g ≠ r := by
  rintro rfl
  obtain ⟨es, c, h1⟩ := mpT_blk h
  rw [h1] at hb; cases hb
/-- a row of cells is not the map's block -/
theorem Sl.ne_map {w : World} {g off : Nat} {l : List Value} (h : Sl w (some ⟨g, off, none⟩) l) (hl : l ≠ []) {r : Nat} {kv : List (St × Value)} (hm : mpT w r = some kv) : g ≠ r := by
  rintro rfl
  obtain ⟨g', off', e, _, hc⟩ := h hl
  injection e with e
  injection e with e1 e2
  subst e1
  have hpos := List.length_pos_iff.2 hl
  have := hc 0 _ (List.getElem?_eq_getElem hpos)
  rw [mpT_cell hm] at this
  cases this

open Classical in
/-- the world behind 'm[x] = v' -/
noncomputable def mputT (t : TypeId) (w : World) (r : Nat) (x : St) (v : Value) : World :=
  if h : ∃ w2, (Instr.mapUpdate t (.map (some r)) (.agg (codS.A x)) v).run Tryz.prog w = .ok () w2 then h.choose else w
theorem mputT_all {t E : TypeId} (ht : Tryz.prog.underlying t = some (.map 30 E)) {w : World} {r : Nat} {kv : List (St × Value)} (h : mpT w r = some kv) {x : St} (hx : wfS x = true) (v : Value) :
    (Instr.mapUpdate t (.map (some r)) (.agg (codS.A x)) v).run Tryz.prog w = .ok () (mputT t w r x v) ∧ mpT (mputT t w r x v) r = some (putL kv x v) ∧ Fr (oneB r) w (mputT t w r x v) ∧ (mputT t w r x v).heap.size = w.heap.size := by
  obtain ⟨kv, rfl, hm⟩ := mpT_mp h
  obtain ⟨w2, h1, h2, h3, h4⟩ := hm.put keyK ht ⟨x, hx⟩ v
  have e : mputT t w r x v = w2 := by
    unfold mputT
    have hx : ∃ w2, (Instr.mapUpdate t (.map (some r)) (.agg (codS.A x)) v).run Tryz.prog w = .ok () w2 := ⟨w2, h1⟩
    refine (dif_pos hx).trans ?_
    exact ((Result.ok.inj (h1.symm.trans hx.choose_spec)).2).symm
  rw [e]
  exact ⟨h1, by rw [putL_upK kv ⟨x, hx⟩ v]; exact h2.mpT, h3, h4⟩
/-- the block of a range -/
noncomputable def rngOT (w : World) (r : Nat) : Obj := match w.heap[r]? with | some (.map es clock) => .mapIter (some r) clock #[] clock | _ => .map #[] 0
/-- block 'it' ranges over the map in block r, which holds kv; 'left' is to come -/
def RngT (w : World) (it r : Nat) (kv left : List (St × Value)) : Prop := ∃ kv' left', RngL encK w it r kv' left' ∧ kv = upK kv' ∧ left = upK left'
theorem rngT_all {t E : TypeId} (ht : Tryz.prog.underlying t = some (.map 30 E)) {w : World} {r : Nat} {kv : List (St × Value)} (h : mpT w r = some kv) :
    (Instr.range t (.map (some r))).run Tryz.prog w = .ok (.pointer (some ⟨w.heap.size, 0, none⟩)) (w.alloc (rngOT w r)) ∧ RngT (w.alloc (rngOT w r)) w.heap.size r kv kv := by
  obtain ⟨kv, rfl, hm⟩ := mpT_mp h
  have hl := hm.lt
  obtain ⟨es, clock, hb, he⟩ := hm
  have e : rngOT w r = .mapIter (some r) clock #[] clock := by unfold rngOT; rw [hb]
  rw [e]
  refine ⟨run_range_map w t 30 E r es clock ht hb, kv, kv, ⟨es, clock, #[], heap_alloc_new w _, by rw [heap_alloc_old w _ hl]; exact hb, he, ?_⟩, rfl, rfl⟩
  have : leftOf es #[] = es := by unfold leftOf; simp
  rw [this]; exact he.is
theorem RngT.map {w : World} {it r : Nat} {kv left : List (St × Value)} (h : RngT w it r kv left) : mpT w r = some kv := by
  obtain ⟨kv', left', h, rfl, rfl⟩ := h
  exact h.map.mpT
theorem RngT.fr {M : Nat → Prop} {w w' : World} {it r : Nat} {kv left : List (St × Value)} (h : RngT w it r kv left) (hf : Fr M w w') (h1 : ¬ M it) (h2 : ¬ M r) : RngT w' it r kv left := by
  obtain ⟨kv', left', h, rfl, rfl⟩ := h
  exact ⟨_, _, h.fr hf h1 h2, rfl, rfl⟩
theorem RngT.next {w : World} {it r : Nat} {kv left : List (St × Value)} (h : RngT w it r kv left) (hne : it ≠ r) (ty : TypeId) :
    (left = [] ∧ (Instr.next (.pointer (some ⟨it, 0, none⟩)) false ty).run Tryz.prog w = .ok (.tuple #[.bool false]) w) ∨
    ∃ l1 p l2 w', left = l1 ++ p :: l2 ∧ p ∈ kv ∧ wfS p.1 = true ∧ (Instr.next (.pointer (some ⟨it, 0, none⟩)) false ty).run Tryz.prog w = .ok (.tuple #[.bool true, .agg (codS.A p.1), p.2]) w' ∧ RngT w' it r kv (l1 ++ l2) ∧ Fr (oneB it) w w' ∧
      ∀ (M : Nat → Prop) w'', Fr M w' w'' → ¬ M it → ¬ M r → (Instr.entry (.pointer (some ⟨it, 0, none⟩))).run Tryz.prog w'' = .ok (.tuple #[.agg (codS.A p.1), p.2]) w'' := by
  obtain ⟨kv', left', h, rfl, rfl⟩ := h
  rcases h.next keyK hne ty with ⟨rfl, h1⟩ | ⟨l1, p, l2, w', rfl, h2, h3, h4, h5, h6⟩
  · exact .inl ⟨rfl, h1⟩
  · exact .inr ⟨upK l1, (p.1.1, p.2), upK l2, w', by simp [upK], List.mem_map.2 ⟨p, h2, rfl⟩, p.1.2, h3, ⟨_, _, h4, rfl, by simp [upK]⟩, h5, h6⟩
@[simp] theorem mk_mapT (t : TypeId) (w : World) : (Instr.makeMap t none).run Tryz.prog w = .ok (.map (some w.heap.size)) (w.alloc (.map #[] 0)) := rfl
theorem zeroRw (w : World) : (zeroValue 36).run Tryz.prog w = .ok (.agg (codR.A zRwW)) w := okR.zv w
theorem zeroStp (w : World) : (zeroValue 30).run Tryz.prog w = .ok (.agg (codS.A zSt)) w := okS.zv w
theorem zeroBl (w : World) : (zeroValue 4).run Tryz.prog w = .ok (.bool false) w := Tryz.zeroValue4 w
@[simp] theorem lkTab (w : World) (r : Nat) (x : St) : (Instr.lookup 81 (.map (some r)) (.agg (codS.A x)) false).run Tryz.prog w = match mpT w r with | some kv => if wfS x = true then .ok ((look kv x).getD (.agg (codR.A zRwW))) w else elseR ((Instr.lookup 81 (.map (some r)) (.agg (codS.A x)) false).run Tryz.prog w) | none => elseR ((Instr.lookup 81 (.map (some r)) (.agg (codS.A x)) false).run Tryz.prog w) := by
  cases h : mpT w r with
  | none => exact elseR_eq _
  | some kv =>
    simp only
    split
    · rename_i hx
      obtain ⟨kv, rfl, hm⟩ := mpT_mp h
      rw [look_upK kv ⟨x, hx⟩]
      exact hm.look keyK Tryz.underlying81 (zeroRw w) ⟨x, hx⟩
    · exact elseR_eq _
@[simp] theorem lkTab_ok (w : World) (r : Nat) (x : St) : (Instr.lookup 81 (.map (some r)) (.agg (codS.A x)) true).run Tryz.prog w = match mpT w r with | some kv => if wfS x = true then .ok (.tuple #[(look kv x).getD (.agg (codR.A zRwW)), .bool (look kv x).isSome]) w else elseR ((Instr.lookup 81 (.map (some r)) (.agg (codS.A x)) true).run Tryz.prog w) | none => elseR ((Instr.lookup 81 (.map (some r)) (.agg (codS.A x)) true).run Tryz.prog w) := by
  cases h : mpT w r with
  | none => exact elseR_eq _
  | some kv =>
    simp only
    split
    · rename_i hx
      obtain ⟨kv, rfl, hm⟩ := mpT_mp h
      rw [look_upK kv ⟨x, hx⟩]
      exact hm.lookOk keyK Tryz.underlying81 (zeroRw w) ⟨x, hx⟩
    · exact elseR_eq _
@[simp] theorem upTab (w : World) (r : Nat) (x : St) (v : Value) : (Instr.mapUpdate 81 (.map (some r)) (.agg (codS.A x)) v).run Tryz.prog w = match mpT w r with | some kv => if wfS x = true then .ok () (mputT 81 w r x v) else elseR ((Instr.mapUpdate 81 (.map (some r)) (.agg (codS.A x)) v).run Tryz.prog w) | none => elseR ((Instr.mapUpdate 81 (.map (some r)) (.agg (codS.A x)) v).run Tryz.prog w) := by
  cases h : mpT w r with
  | none => exact elseR_eq _
  | some kv =>
    simp only
    split
    · rename_i hx
      exact (mputT_all Tryz.underlying81 h hx v).1
    · exact elseR_eq _
@[simp] theorem lenTab (ty : TypeId) (w : World) (r : Nat) : (Builtin.len_ #[81] ty #[.map (some r)]).run Tryz.prog w = match mpT w r with | some kv => .ok (.int .i64 kv.length) w | none => elseR ((Builtin.len_ #[81] ty #[.map (some r)]).run Tryz.prog w) := by
  cases h : mpT w r with
  | none => exact elseR_eq _
  | some kv =>
    obtain ⟨kv, rfl, es, c, h1, h2⟩ := mpT_mp h
    have e : es.size = (upK kv).length := by have := congrArg List.length h2.is; simpa [upK] using this
    have := run_len_map (P := Tryz.prog) (w := w) 81 ty r es c (by kernel_rfl) h1
    rw [e] at this
    exact this
@[simp] theorem rgTab (w : World) (r : Nat) : (Instr.range 81 (.map (some r))).run Tryz.prog w = match mpT w r with | some kv => .ok (.pointer (some ⟨w.heap.size, 0, none⟩)) (w.alloc (rngOT w r)) | none => elseR ((Instr.range 81 (.map (some r))).run Tryz.prog w) := by
  cases h : mpT w r with
  | none => exact elseR_eq _
  | some kv => exact (rngT_all Tryz.underlying81 h).1
@[simp] theorem lkStSt (w : World) (r : Nat) (x : St) : (Instr.lookup 100 (.map (some r)) (.agg (codS.A x)) false).run Tryz.prog w = match mpT w r with | some kv => if wfS x = true then .ok ((look kv x).getD (.agg (codS.A zSt))) w else elseR ((Instr.lookup 100 (.map (some r)) (.agg (codS.A x)) false).run Tryz.prog w) | none => elseR ((Instr.lookup 100 (.map (some r)) (.agg (codS.A x)) false).run Tryz.prog w) := by
  cases h : mpT w r with
  | none => exact elseR_eq _
  | some kv =>
    simp only
    split
    · rename_i hx
      obtain ⟨kv, rfl, hm⟩ := mpT_mp h
      rw [look_upK kv ⟨x, hx⟩]
      exact hm.look keyK Tryz.underlying100 (zeroStp w) ⟨x, hx⟩
    · exact elseR_eq _
@[simp] theorem lkStSt_ok (w : World) (r : Nat) (x : St) : (Instr.lookup 100 (.map (some r)) (.agg (codS.A x)) true).run Tryz.prog w = match mpT w r with | some kv => if wfS x = true then .ok (.tuple #[(look kv x).getD (.agg (codS.A zSt)), .bool (look kv x).isSome]) w else elseR ((Instr.lookup 100 (.map (some r)) (.agg (codS.A x)) true).run Tryz.prog w) | none => elseR ((Instr.lookup 100 (.map (some r)) (.agg (codS.A x)) true).run Tryz.prog w) := by
  cases h : mpT w r with
  | none => exact elseR_eq _
  | some kv =>
    simp only
    split
    · rename_i hx
      obtain ⟨kv, rfl, hm⟩ := mpT_mp h
      rw [look_upK kv ⟨x, hx⟩]
      exact hm.lookOk keyK Tryz.underlying100 (zeroStp w) ⟨x, hx⟩
    · exact elseR_eq _
@[simp] theorem upStSt (w : World) (r : Nat) (x : St) (v : Value) : (Instr.mapUpdate 100 (.map (some r)) (.agg (codS.A x)) v).run Tryz.prog w = match mpT w r with | some kv => if wfS x = true then .ok () (mputT 100 w r x v) else elseR ((Instr.mapUpdate 100 (.map (some r)) (.agg (codS.A x)) v).run Tryz.prog w) | none => elseR ((Instr.mapUpdate 100 (.map (some r)) (.agg (codS.A x)) v).run Tryz.prog w) := by
  cases h : mpT w r with
  | none => exact elseR_eq _
  | some kv =>
    simp only
    split
    · rename_i hx
      exact (mputT_all Tryz.underlying100 h hx v).1
    · exact elseR_eq _
@[simp] theorem lenStSt (ty : TypeId) (w : World) (r : Nat) : (Builtin.len_ #[100] ty #[.map (some r)]).run Tryz.prog w = match mpT w r with | some kv => .ok (.int .i64 kv.length) w | none => elseR ((Builtin.len_ #[100] ty #[.map (some r)]).run Tryz.prog w) := by
  cases h : mpT w r with
  | none => exact elseR_eq _
  | some kv =>
    obtain ⟨kv, rfl, es, c, h1, h2⟩ := mpT_mp h
    have e : es.size = (upK kv).length := by have := congrArg List.length h2.is; simpa [upK] using this
    have := run_len_map (P := Tryz.prog) (w := w) 100 ty r es c (by kernel_rfl) h1
    rw [e] at this
    exact this
@[simp] theorem rgStSt (w : World) (r : Nat) : (Instr.range 100 (.map (some r))).run Tryz.prog w = match mpT w r with | some kv => .ok (.pointer (some ⟨w.heap.size, 0, none⟩)) (w.alloc (rngOT w r)) | none => elseR ((Instr.range 100 (.map (some r))).run Tryz.prog w) := by
  cases h : mpT w r with
  | none => exact elseR_eq _
  | some kv => exact (rngT_all Tryz.underlying100 h).1
@[simp] theorem lkStB (w : World) (r : Nat) (x : St) : (Instr.lookup 101 (.map (some r)) (.agg (codS.A x)) false).run Tryz.prog w = match mpT w r with | some kv => if wfS x = true then .ok ((look kv x).getD (.bool false)) w else elseR ((Instr.lookup 101 (.map (some r)) (.agg (codS.A x)) false).run Tryz.prog w) | none => elseR ((Instr.lookup 101 (.map (some r)) (.agg (codS.A x)) false).run Tryz.prog w) := by
  cases h : mpT w r with
  | none => exact elseR_eq _
  | some kv =>
    simp only
    split
    · rename_i hx
      obtain ⟨kv, rfl, hm⟩ := mpT_mp h
      rw [look_upK kv ⟨x, hx⟩]
      exact hm.look keyK Tryz.underlying101 (zeroBl w) ⟨x, hx⟩
    · exact elseR_eq _
@[simp] theorem lkStB_ok (w : World) (r : Nat) (x : St) : (Instr.lookup 101 (.map (some r)) (.agg (codS.A x)) true).run Tryz.prog w = match mpT w r with | some kv => if wfS x = true then .ok (.tuple #[(look kv x).getD (.bool false), .bool (look kv x).isSome]) w else elseR ((Instr.lookup 101 (.map (some r)) (.agg (codS.A x)) true).run Tryz.prog w) | none => elseR ((Instr.lookup 101 (.map (some r)) (.agg (codS.A x)) true).run Tryz.prog w) := by
  cases h : mpT w r with
  | none => exact elseR_eq _
  | some kv =>
    simp only
    split
    · rename_i hx
      obtain ⟨kv, rfl, hm⟩ := mpT_mp h
      rw [look_upK kv ⟨x, hx⟩]
      exact hm.lookOk keyK Tryz.underlying101 (zeroBl w) ⟨x, hx⟩
    · exact elseR_eq _
@[simp] theorem upStB (w : World) (r : Nat) (x : St) (v : Value) : (Instr.mapUpdate 101 (.map (some r)) (.agg (codS.A x)) v).run Tryz.prog w = match mpT w r with | some kv => if wfS x = true then .ok () (mputT 101 w r x v) else elseR ((Instr.mapUpdate 101 (.map (some r)) (.agg (codS.A x)) v).run Tryz.prog w) | none => elseR ((Instr.mapUpdate 101 (.map (some r)) (.agg (codS.A x)) v).run Tryz.prog w) := by
  cases h : mpT w r with
  | none => exact elseR_eq _
  | some kv =>
    simp only
    split
    · rename_i hx
      exact (mputT_all Tryz.underlying101 h hx v).1
    · exact elseR_eq _
@[simp] theorem lenStB (ty : TypeId) (w : World) (r : Nat) : (Builtin.len_ #[101] ty #[.map (some r)]).run Tryz.prog w = match mpT w r with | some kv => .ok (.int .i64 kv.length) w | none => elseR ((Builtin.len_ #[101] ty #[.map (some r)]).run Tryz.prog w) := by
  cases h : mpT w r with
  | none => exact elseR_eq _
  | some kv =>
    obtain ⟨kv, rfl, es, c, h1, h2⟩ := mpT_mp h
    have e : es.size = (upK kv).length := by have := congrArg List.length h2.is; simpa [upK] using this
    have := run_len_map (P := Tryz.prog) (w := w) 101 ty r es c (by kernel_rfl) h1
    rw [e] at this
    exact this
@[simp] theorem rgStB (w : World) (r : Nat) : (Instr.range 101 (.map (some r))).run Tryz.prog w = match mpT w r with | some kv => .ok (.pointer (some ⟨w.heap.size, 0, none⟩)) (w.alloc (rngOT w r)) | none => elseR ((Instr.range 101 (.map (some r))).run Tryz.prog w) := by
  cases h : mpT w r with
  | none => exact elseR_eq _
  | some kv => exact (rngT_all Tryz.underlying101 h).1
@[simp] theorem lkStRow (w : World) (r : Nat) (x : St) : (Instr.lookup 51 (.map (some r)) (.agg (codS.A x)) false).run Tryz.prog w = match mpT w r with | some kv => if wfS x = true then .ok ((look kv x).getD (.agg (codR.A zRwW))) w else elseR ((Instr.lookup 51 (.map (some r)) (.agg (codS.A x)) false).run Tryz.prog w) | none => elseR ((Instr.lookup 51 (.map (some r)) (.agg (codS.A x)) false).run Tryz.prog w) := by
  cases h : mpT w r with
  | none => exact elseR_eq _
  | some kv =>
    simp only
    split
    · rename_i hx
      obtain ⟨kv, rfl, hm⟩ := mpT_mp h
      rw [look_upK kv ⟨x, hx⟩]
      exact hm.look keyK Tryz.underlying51 (zeroRw w) ⟨x, hx⟩
    · exact elseR_eq _
@[simp] theorem lkStRow_ok (w : World) (r : Nat) (x : St) : (Instr.lookup 51 (.map (some r)) (.agg (codS.A x)) true).run Tryz.prog w = match mpT w r with | some kv => if wfS x = true then .ok (.tuple #[(look kv x).getD (.agg (codR.A zRwW)), .bool (look kv x).isSome]) w else elseR ((Instr.lookup 51 (.map (some r)) (.agg (codS.A x)) true).run Tryz.prog w) | none => elseR ((Instr.lookup 51 (.map (some r)) (.agg (codS.A x)) true).run Tryz.prog w) := by
  cases h : mpT w r with
  | none => exact elseR_eq _
  | some kv =>
    simp only
    split
    · rename_i hx
      obtain ⟨kv, rfl, hm⟩ := mpT_mp h
      rw [look_upK kv ⟨x, hx⟩]
      exact hm.lookOk keyK Tryz.underlying51 (zeroRw w) ⟨x, hx⟩
    · exact elseR_eq _
@[simp] theorem upStRow (w : World) (r : Nat) (x : St) (v : Value) : (Instr.mapUpdate 51 (.map (some r)) (.agg (codS.A x)) v).run Tryz.prog w = match mpT w r with | some kv => if wfS x = true then .ok () (mputT 51 w r x v) else elseR ((Instr.mapUpdate 51 (.map (some r)) (.agg (codS.A x)) v).run Tryz.prog w) | none => elseR ((Instr.mapUpdate 51 (.map (some r)) (.agg (codS.A x)) v).run Tryz.prog w) := by
  cases h : mpT w r with
  | none => exact elseR_eq _
  | some kv =>
    simp only
    split
    · rename_i hx
      exact (mputT_all Tryz.underlying51 h hx v).1
    · exact elseR_eq _
@[simp] theorem lenStRow (ty : TypeId) (w : World) (r : Nat) : (Builtin.len_ #[51] ty #[.map (some r)]).run Tryz.prog w = match mpT w r with | some kv => .ok (.int .i64 kv.length) w | none => elseR ((Builtin.len_ #[51] ty #[.map (some r)]).run Tryz.prog w) := by
  cases h : mpT w r with
  | none => exact elseR_eq _
  | some kv =>
    obtain ⟨kv, rfl, es, c, h1, h2⟩ := mpT_mp h
    have e : es.size = (upK kv).length := by have := congrArg List.length h2.is; simpa [upK] using this
    have := run_len_map (P := Tryz.prog) (w := w) 51 ty r es c (by kernel_rfl) h1
    rw [e] at this
    exact this
@[simp] theorem rgStRow (w : World) (r : Nat) : (Instr.range 51 (.map (some r))).run Tryz.prog w = match mpT w r with | some kv => .ok (.pointer (some ⟨w.heap.size, 0, none⟩)) (w.alloc (rngOT w r)) | none => elseR ((Instr.range 51 (.map (some r))).run Tryz.prog w) := by
  cases h : mpT w r with
  | none => exact elseR_eq _
  | some kv => exact (rngT_all Tryz.underlying51 h).1
end Go.Proofs.YtefcalkbfaefgaaGreat
namespace Go.Proofs.YtefcalkbfaefgaaGreat
open Go.RowKit Go.Maps Go.Sort
set_option linter.unusedVariables false
set_option linter.unusedSimpArgs false

def findW (rs : List RwW) (s : St) : Option RwW := rs.find? fun r => decide (r.Node = s)
theorem findW_some {rs : List RwW} {s : St} {r : RwW} (h : findW rs s = some r) : r ∈ rs ∧ r.Node = s := by
  unfold findW at h
  exact ⟨List.mem_of_find?_eq_some h, by simpa using List.find?_some h⟩
theorem RwsIn.tail {w : World} {r : RwW} {rs : List RwW} {x : RwP} {xs : List RwP} (h : RwsIn w (r :: rs) (x :: xs)) : RwIn w r x ∧ RwsIn w rs xs :=
  ⟨h.at_ 0 (by simp) (by simp), by have := h.len; simpa using this, fun i h1 h2 => h.at_ (i + 1) (by simpa using h1) (by simpa using h2)⟩
theorem RwsIn.cons {w : World} {r : RwW} {rs : List RwW} {x : RwP} {xs : List RwP} (h1 : RwIn w r x) (h2 : RwsIn w rs xs) : RwsIn w (r :: rs) (x :: xs) :=
  ⟨by simp [h2.len], fun i h3 h4 => by
    cases i with
    | zero => exact h1
    | succ i => exact h2.at_ i (by simpa using h3) (by simpa using h4)⟩
theorem RwsIn.nil {w : World} : RwsIn w [] [] := ⟨rfl, fun i h => absurd h (by simp)⟩
theorem RwsIn.find {w : World} {rs : List RwW} {xs : List RwP} (h : RwsIn w rs xs) (s : St) : (findW rs s = none ∧ findR xs s = none) ∨ ∃ r x, findW rs s = some r ∧ findR xs s = some x ∧ RwIn w r x := by
  induction rs generalizing xs with
  | nil =>
    have := h.len
    obtain rfl : xs = [] := List.length_eq_zero_iff.1 (by simpa using this.symm)
    exact .inl ⟨rfl, rfl⟩
  | cons r rs ih =>
    match xs, h with
    | [], h => have := h.len; simp at this
    | x :: xs, h =>
      obtain ⟨h1, h2⟩ := h.tail
      unfold findW findR at ih ⊢
      rw [List.find?_cons, List.find?_cons]
      by_cases e : r.Node = s
      · have e' : x.Node = s := by rw [h1.node]; exact e
        simp only [e, e', decide_true]
        exact .inr ⟨r, x, rfl, rfl, h1⟩
      · have e' : ¬ x.Node = s := by rw [h1.node]; exact e
        simp only [e, e', decide_false]
        exact ih h2
theorem RwsIn.mem {w : World} {rs : List RwW} {xs : List RwP} (h : RwsIn w rs xs) {r : RwW} (hr : r ∈ rs) : ∃ x, x ∈ xs ∧ RwIn w r x := by
  obtain ⟨i, hi, rfl⟩ := List.getElem_of_mem hr
  have hi' : i < xs.length := by rw [← h.len]; exact hi
  exact ⟨xs[i], List.getElem_mem hi', h.at_ i hi hi'⟩
theorem RwsIn.wf {w : World} {rs : List RwW} {xs : List RwP} (h : RwsIn w rs xs) {r : RwW} (hr : r ∈ rs) : wfS r.Node = true ∧ wfS r.Parent = true := by
  obtain ⟨x, _, hx⟩ := h.mem hr
  exact ⟨hx.wn, hx.wp⟩
/-- rows as a table's entries -/
def tab (rs : List RwW) : List (St × Value) := rs.map fun r => (r.Node, .agg (codR.A r))
theorem look_tab (rs : List RwW) (s : St) : look (tab rs) s = (findW rs s).map fun r => .agg (codR.A r) := by
  induction rs with
  | nil => rfl
  | cons r rs ih =>
    unfold look tab findW at ih ⊢
    rw [List.map_cons, List.find?_cons, List.find?_cons]
    by_cases e : r.Node = s
    · simp [e]
    · simp only [e, decide_false]
      exact ih
theorem tab_put {rs : List RwW} {r : RwW} (h : ∀ x ∈ rs, x.Node ≠ r.Node) : putL (tab rs) r.Node (.agg (codR.A r)) = tab (rs ++ [r]) := by
  have hn : findW rs r.Node = none := by
    unfold findW
    rw [List.find?_eq_none]
    simpa using h
  unfold putL
  rw [look_tab, hn]
  simp [tab]
theorem rtab_len (rs : List RwW) : (tab rs).length = rs.length := by simp [tab]
/-- how deep -/
def depthN (rs : List RwP) : Nat → St → Nat
  | 0, _ => 0
  | k + 1, s => if s.T = 0 then 0 else match findR rs s with
    | none => 1
    | some r => 1 + depthN rs k r.Parent
def depthR (rs : List RwP) (s : St) : Nat := depthN rs rs.length s
theorem depth_zero {rs : List RwP} {k : Nat} {s : St} (h : s.T = 0) : depthN rs k s = 0 := by
  cases k with
  | zero => rfl
  | succ k =>
    show (if s.T = 0 then 0 else _) = 0
    rw [if_pos h]
theorem reach_next {rs : List RwP} {k : Nat} {s : St} (h : reach rs k s = true) (h0 : s.T ≠ 0) : ∃ j r, k = j + 1 ∧ findR rs s = some r ∧ reach rs j r.Parent = true ∧ depthN rs k s = 1 + depthN rs j r.Parent := by
  have hx : fixedS s = false := by unfold fixedS; simp [h0]
  cases k with
  | zero =>
    unfold reach at h
    rw [hx] at h; cases h
  | succ k =>
    unfold reach at h
    rw [hx, Bool.false_or] at h
    cases hf : findR rs s with
    | none => rw [hf] at h; cases h
    | some r =>
      rw [hf] at h
      refine ⟨k, r, rfl, rfl, h, ?_⟩
      show (if s.T = 0 then 0 else match findR rs s with | none => 1 | some r => 1 + depthN rs k r.Parent) = _
      rw [if_neg h0, hf]
theorem depth_le {rs : List RwP} : ∀ (k : Nat) (s : St), depthN rs k s ≤ k
  | 0, s => Nat.le_refl 0
  | k + 1, s => by
    have e : depthN rs (k + 1) s = (if s.T = 0 then 0 else match findR rs s with | none => 1 | some r => 1 + depthN rs k r.Parent) := rfl
    rw [e]
    by_cases h0 : s.T = 0
    · rw [if_pos h0]; omega
    · rw [if_neg h0]
      cases hf : findR rs s with
      | none => simp only; omega
      | some r =>
        have := depth_le (rs := rs) k r.Parent
        simp only
        omega
theorem TreeOk.reach {rs : List RwP} (h : TreeOk rs) {r : RwP} (hr : r ∈ rs) : Go.Proofs.YtefcalkbfaefgaaGreat.reach rs rs.length r.Node = true := by
  obtain ⟨k, hk⟩ := h.up r hr
  exact reach_len hk
end Go.Proofs.YtefcalkbfaefgaaGreat
namespace Go.Proofs.YtefcalkbfaefgaaGreat
open Go.RowKit Go.Maps Go.Sort
set_option linter.unusedVariables false
set_option linter.unusedSimpArgs false

def PwT (xs : List RwP) (k : Nat) : Prop := ∀ i j (h1 : i < j) (h2 : j < xs.length), j < k → cmpS (xs[i]'(by omega)).Node xs[j].Node < 0
theorem PwT.zero (xs : List RwP) : PwT xs 0 := fun i j h1 h2 h3 => by omega
theorem PwT.step {xs : List RwP} {k : Nat} (h : PwT xs k) (hk : k < xs.length) (hc : k = 0 ∨ ∃ (q : Nat) (hq : q + 1 = k), cmpS (xs[q]'(by omega)).Node xs[k].Node < 0) : PwT xs (k + 1) := by
  intro i j h1 h2 h3
  by_cases hj : j < k
  · exact h i j h1 h2 hj
  · obtain rfl : j = k := by omega
    rcases hc with rfl | ⟨q, hq, hc⟩
    · omega
    · subst hq
      by_cases hi : i = q
      · subst hi; exact hc
      · exact cmpS_trans (h i q (by omega) (by omega) (by omega)) hc
theorem PwT.all {xs : List RwP} : PwT xs xs.length ↔ riseR xs = true := by
  unfold riseR
  rw [riseB_pw (fun a b : RwP => cmpS a.Node b.Node) (fun _ _ _ => cmpS_trans) xs, List.pairwise_iff_getElem]
  constructor
  · intro h i j hi hj hij
    exact h i j hij hj hj
  · intro h i j h1 h2 _
    exact h i j (by omega) h2 h1
theorem PwT.ne {xs : List RwP} {k : Nat} (h : PwT xs (k + 1)) (hk : k < xs.length) {i : Nat} (hi : i < k) : (xs[i]'(by omega)).Node ≠ xs[k].Node := fun e => by
  have := h i k hi hk (by omega)
  rw [e, cmpS_self] at this
  omega
/-- a tree: all that is asked -/
theorem treeOk_of {xs : List RwP} (h1 : xs.length ≤ 5000) (h2 : ∀ i (h : i < xs.length), rightR xs[i] = true) (h3 : PwT xs xs.length) (h4 : ∀ i (h : i < xs.length), ∃ m, reach xs m xs[i].Node = true) : TreeOk xs :=
  ⟨h1, fun r hr => by obtain ⟨i, hi, rfl⟩ := List.getElem_of_mem hr; exact h2 i hi, PwT.all.1 h3, fun r hr => by obtain ⟨i, hi, rfl⟩ := List.getElem_of_mem hr; exact h4 i hi⟩
theorem TreeOk.pw {xs : List RwP} (h : TreeOk xs) : PwT xs xs.length := PwT.all.2 h.rise
/-- the parents' map -/
def parK (rs : List RwW) : List (St × Value) := rs.map fun r => (r.Node, .agg (codS.A r.Parent))
theorem look_par (rs : List RwW) (s : St) : look (parK rs) s = (findW rs s).map fun r => .agg (codS.A r.Parent) := by
  induction rs with
  | nil => rfl
  | cons r rs ih =>
    unfold look parK findW at ih ⊢
    rw [List.map_cons, List.find?_cons, List.find?_cons]
    by_cases e : r.Node = s
    · simp [e]
    · simp only [e, decide_false]
      exact ih
theorem par_put {rs : List RwW} {r : RwW} (h : ∀ x ∈ rs, x.Node ≠ r.Node) : putL (parK rs) r.Node (.agg (codS.A r.Parent)) = parK (rs ++ [r]) := by
  have hn : findW rs r.Node = none := by
    unfold findW
    rw [List.find?_eq_none]
    simpa using h
  unfold putL
  rw [look_par, hn]
  simp [parK]
/-- the good nodes' map: each reaches the root or the trash -/
def GoodK (xs : List RwP) (kv : List (St × Value)) : Prop := ∀ p ∈ kv, p.2 = .bool true ∧ ∃ m, reach xs m p.1 = true
theorem GoodK.nil (xs : List RwP) : GoodK xs [] := fun p hp => by cases hp
theorem lookK_mem {kv : List (St × Value)} {s : St} {v : Value} (h : look kv s = some v) : (s, v) ∈ kv := by
  unfold look at h
  cases hf : kv.find? (fun p => decide (p.1 = s)) with
  | none => rw [hf] at h; cases h
  | some p =>
    rw [hf] at h
    have h1 := List.mem_of_find?_eq_some hf
    have h2 : p.1 = s := by simpa using List.find?_some hf
    injection h with h
    rw [← h2, ← h]
    exact h1
/-- what the map says of s -/
theorem GoodK.look {xs : List RwP} {kv : List (St × Value)} (h : GoodK xs kv) (s : St) : ∃ b, (Go.Proofs.YtefcalkbfaefgaaGreat.look kv s).getD (.bool false) = .bool b ∧ (b = true → ∃ m, reach xs m s = true) := by
  cases hl : Go.Proofs.YtefcalkbfaefgaaGreat.look kv s with
  | none => exact ⟨false, rfl, fun h => by cases h⟩
  | some v =>
    obtain ⟨h1, h2⟩ := h _ (lookK_mem hl)
    simp only at h1 h2
    subst h1
    exact ⟨true, rfl, fun _ => h2⟩
theorem GoodK.put {xs : List RwP} {kv : List (St × Value)} (h : GoodK xs kv) {s : St} (hs : ∃ m, reach xs m s = true) : GoodK xs (putL kv s (.bool true)) := by
  intro p hp
  unfold putL at hp
  split at hp
  · obtain ⟨q, hq, rfl⟩ := List.mem_map.1 hp
    by_cases e : q.1 = s
    · rw [if_pos e]
      exact ⟨rfl, hs⟩
    · rw [if_neg e]
      exact h q hq
  · rcases List.mem_append.1 hp with hp | hp
    · exact h p hp
    · rw [List.mem_singleton] at hp
      subst hp
      exact ⟨rfl, hs⟩
theorem GoodK.wf {kv : List (St × Value)} : True := trivial
/-- the way up from s has come to t in l steps -/
structure WayT (xs : List RwP) (s t : St) (way : List St) : Prop where
  down : ∀ m, reach xs m s = true → ∃ j, m = way.length + j ∧ reach xs j t = true
  up : ∀ m, reach xs m t = true → ∃ j, reach xs j s = true
  all : ∀ x ∈ way, ∀ m, reach xs m t = true → ∃ j, reach xs j x = true
theorem WayT.nil (xs : List RwP) (s : St) : WayT xs s s [] := ⟨fun m h => ⟨m, by simp, h⟩, fun m h => ⟨m, h⟩, fun x hx => by cases hx⟩
theorem WayT.step {xs : List RwP} {s t : St} {way : List St} (h : WayT xs s t way) (hf : fixedS t = false) {r : RwP} (hr : findR xs t = some r) : WayT xs s r.Parent (way ++ [t]) := by
  have e : ∀ m, reach xs (m + 1) t = reach xs m r.Parent := fun m => by
    show (fixedS t || match findR xs t with | none => false | some r => reach xs m r.Parent) = _
    rw [hf, hr, Bool.false_or]
  refine ⟨fun m hm => ?_, fun m hm => ?_, fun x hx m hm => ?_⟩
  · obtain ⟨j, rfl, hj⟩ := h.down m hm
    cases j with
    | zero =>
      unfold reach at hj
      rw [hf] at hj; cases hj
    | succ j =>
      rw [e] at hj
      exact ⟨j, by simp only [List.length_append, List.length_singleton]; omega, hj⟩
  · exact h.up (m + 1) (by rw [e]; exact hm)
  · rcases List.mem_append.1 hx with hx | hx
    · exact h.all x hx (m + 1) (by rw [e]; exact hm)
    · rw [List.mem_singleton] at hx
      subst hx
      exact ⟨m + 1, by rw [e]; exact hm⟩
/-- no way on: s reaches nothing -/
theorem WayT.stuck {xs : List RwP} {s t : St} {way : List St} (h : WayT xs s t way) (hf : fixedS t = false) (hr : findR xs t = none) : ∀ m, reach xs m s = false := fun m => by
  cases hm : reach xs m s with
  | false => rfl
  | true =>
    obtain ⟨j, rfl, hj⟩ := h.down m hm
    cases j with
    | zero => unfold reach at hj; rw [hf] at hj; cases hj
    | succ j =>
      unfold reach at hj
      rw [hf, hr] at hj; cases hj
/-- more steps than rows: s reaches nothing -/
theorem WayT.long {xs : List RwP} {s t : St} {way : List St} (h : WayT xs s t way) (hl : xs.length < way.length) : ∀ m, reach xs m s = false := fun m => by
  cases hm : reach xs m s with
  | false => rfl
  | true =>
    obtain ⟨j, hj, _⟩ := h.down xs.length (reach_len hm)
    omega
theorem not_tree {xs : List RwP} {i : Nat} (hi : i < xs.length) (h : ∀ m, reach xs m xs[i].Node = false) : ¬ TreeOk xs := fun ht => by
  obtain ⟨m, hm⟩ := ht.up _ (List.getElem_mem hi)
  rw [h m] at hm; cases hm
end Go.Proofs.YtefcalkbfaefgaaGreat
