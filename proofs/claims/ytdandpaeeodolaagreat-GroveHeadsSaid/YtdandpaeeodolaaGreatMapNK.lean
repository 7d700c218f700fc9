/- Maps with int64 keys, read by a function (as MapT for stamps). -/
import Derived.Test.YtdandpaeeodolaaGreatMapTK
namespace Go.Proofs.YtdandpaeeodolaaGreat
open Go.RowKit Go.Maps Go.Sort
set_option linter.unusedVariables false
set_option linter.unusedSimpArgs false

def wfN (x : Int) : Bool := decide (-9223372036854775808 ≤ x) && decide (x ≤ 9223372036854775807)
abbrev KN := { x : Int // wfN x = true }
abbrev encN (k : KN) : Value := .int .i64 k.1
theorem keyN_good (x : KN) : ∃ l, keyOf Tryz.prog 2 (encN x) = some l := by
  have hw := x.2
  unfold wfN at hw
  simp only [Bool.and_eq_true, decide_eq_true_eq] at hw
  exact ⟨_, keyOf_int_mk Tryz.underlying2 (wf_lit hw.1 hw.2)⟩
theorem keyN : KeyE Tryz.prog 2 encN where
  K := int_keyed Tryz.underlying2
  good := keyN_good
  inj := fun a b h => Subtype.ext (by injection h)

def upN (kv : List (KN × Value)) : List (Int × Value) := kv.map fun p => (p.1.1, p.2)
theorem look_upN (kv : List (KN × Value)) (k : KN) : look (upN kv) k.1 = look kv k := by
  induction kv with
  | nil => rfl
  | cons p kv ih =>
    unfold look upN at ih ⊢
    rw [List.map_cons, List.find?_cons, List.find?_cons]
    by_cases h : p.1 = k
    · simp [h]
    · have h' : p.1.1 ≠ k.1 := fun e => h (Subtype.ext e)
      simp only [h, h', decide_false]
      exact ih
theorem putL_upN (kv : List (KN × Value)) (k : KN) (v : Value) : putL (upN kv) k.1 v = upN (putL kv k v) := by
  unfold putL
  rw [look_upN]
  split
  · unfold upN
    rw [List.map_map, List.map_map]
    refine List.map_congr_left fun p _ => ?_
    simp only [Function.comp_apply]
    by_cases h : p.1 = k
    · simp [h]
    · have h' : p.1.1 ≠ k.1 := fun e => h (Subtype.ext e)
      simp [h, h']
  · simp [upN]
theorem upN_inj {a b : List (KN × Value)} (h : upN a = upN b) : a = b := by
  induction a generalizing b with
  | nil => cases b with
    | nil => rfl
    | cons q b => simp [upN] at h
  | cons p a ih => cases b with
    | nil => simp [upN] at h
    | cons q b =>
      unfold upN at h ih
      simp only [List.map_cons, List.cons.injEq, Prod.mk.injEq] at h
      rw [ih h.2, show p = q from Prod.ext (Subtype.ext h.1.1) h.1.2]
theorem MapL.uniqN {w : World} {r : Nat} {a b : List (KN × Value)} (ha : MapL encN w r a) (hb : MapL encN w r b) : a = b := by
  obtain ⟨es, c, h1, e1⟩ := ha
  obtain ⟨es', c', h2, e2⟩ := hb
  rw [h1] at h2
  injection h2 with h2
  injection h2 with h2 _
  subst h2
  have h := e1.is.symm.trans e2.is
  have inj : ∀ (p q : KN × Value), (encN p.1, p.2) = (encN q.1, q.2) → p = q := by
    intro p q e
    simp only [Prod.mk.injEq] at e
    exact Prod.ext (keyN.inj _ _ e.1) e.2
  clear e1 e2 h1
  induction a generalizing b with
  | nil => cases b with
    | nil => rfl
    | cons q b => simp at h
  | cons p a ih => cases b with
    | nil => simp at h
    | cons q b =>
      simp only [List.map_cons, List.cons.injEq] at h
      rw [inj p q h.1, ih h.2]
open Classical in
/-- what the map in block r holds -/
noncomputable def mpN (w : World) (r : Nat) : Option (List (Int × Value)) := if h : ∃ kv, MapL encN w r kv then some (upN h.choose) else none
theorem MapL.mpN {w : World} {r : Nat} {kv : List (KN × Value)} (h : MapL encN w r kv) : mpN w r = some (upN kv) := by
  unfold Go.Proofs.YtdandpaeeodolaaGreat.mpN
  have hx : ∃ x, MapL encN w r x := ⟨kv, h⟩
  rw [dif_pos hx]
  exact congrArg (fun x => some (upN x)) (hx.choose_spec.uniqN h)
theorem mpN_mp {w : World} {r : Nat} {kv : List (Int × Value)} (h : mpN w r = some kv) : ∃ kv', kv = upN kv' ∧ MapL encN w r kv' := by
  unfold mpN at h
  split at h
  · rename_i hx
    injection h with h
    exact ⟨_, h.symm, hx.choose_spec⟩
  · cases h
theorem mpN_lt {w : World} {r : Nat} {kv : List (Int × Value)} (h : mpN w r = some kv) : r < w.heap.size := by
  obtain ⟨_, _, h⟩ := mpN_mp h
  exact h.lt
theorem mpN_keep {w w' : World} {r : Nat} (hb : w'.heap[r]? = w.heap[r]?) : mpN w' r = mpN w r := by
  cases hx : mpN w r with
  | some x =>
    obtain ⟨kv, rfl, es, c, h1, h2⟩ := mpN_mp hx
    exact MapL.mpN ⟨es, c, hb.trans h1, h2⟩
  | none =>
    cases hy : mpN w' r with
    | none => rfl
    | some y =>
      obtain ⟨kv, rfl, es, c, h1, h2⟩ := mpN_mp hy
      rw [MapL.mpN ⟨es, c, hb.symm.trans h1, h2⟩] at hx; cases hx
theorem mpN_fr {M : Nat → Prop} {w w' : World} {r : Nat} {kv : List (Int × Value)} (h : mpN w r = some kv) (f : Fr M w w') (hM : ¬ M r) : mpN w' r = some kv := (mpN_keep (f.block r (mpN_lt h) hM)).trans h
theorem mpN_fr0 {w w' : World} {r : Nat} {kv : List (Int × Value)} (h : mpN w r = some kv) (f : Fr noB w w') : mpN w' r = some kv := mpN_fr h f (by simp [noB])
@[simp] theorem mpN_drew (w : World) (r : Nat) : mpN w.drew r = mpN w r := mpN_keep rfl
@[simp] theorem mpN_drewN (w : World) (n r : Nat) : mpN (w.drewN n) r = mpN w r := mpN_keep rfl
@[simp] theorem mpN_old (w : World) (ob : Obj) (r : Nat) (h : r < w.heap.size) : mpN (w.alloc ob) r = mpN w r := mpN_keep (heap_alloc_old w ob h)
@[simp] theorem mpN_new (w : World) : mpN (w.alloc (.map #[] 0)) w.heap.size = some [] := (MapL.new encN w).mpN
theorem mpN_blk {w : World} {r : Nat} {kv : List (Int × Value)} (h : mpN w r = some kv) : ∃ es c, w.heap[r]? = some (.map es c) := by
  obtain ⟨kv, rfl, es, c, h1, _⟩ := mpN_mp h
  exact ⟨es, c, h1⟩
theorem mpN_nd {w : World} {r : Nat} {kv : List (Int × Value)} (h : mpN w r = some kv) : (kv.map (·.1)).Nodup := by
  obtain ⟨kv, rfl, es, c, _, h1⟩ := mpN_mp h
  have := h1.nd
  unfold upN
  rw [List.map_map]
  have e : ((fun x : Int × Value => x.1) ∘ fun p : KN × Value => (p.1.1, p.2)) = (fun k : KN => k.1) ∘ (fun p : KN × Value => p.1) := rfl
  rw [e, ← List.map_map]
  rw [List.Nodup, List.pairwise_map]
  exact this.imp fun {a b} h e => h (Subtype.ext e)
open Classical in
/-- the world behind 'm[x] = v' -/
noncomputable def mputN (t : TypeId) (w : World) (r : Nat) (x : Int) (v : Value) : World :=
  if h : ∃ w2, (Instr.mapUpdate t (.map (some r)) (.int .i64 x) v).run Tryz.prog w = .ok () w2 then h.choose else w
theorem mputN_all {t E : TypeId} (ht : Tryz.prog.underlying t = some (.map 2 E)) {w : World} {r : Nat} {kv : List (Int × Value)} (h : mpN w r = some kv) {x : Int} (hx : wfN x = true) (v : Value) :
    (Instr.mapUpdate t (.map (some r)) (.int .i64 x) v).run Tryz.prog w = .ok () (mputN t w r x v) ∧ mpN (mputN t w r x v) r = some (putL kv x v) ∧ Fr (oneB r) w (mputN t w r x v) ∧ (mputN t w r x v).heap.size = w.heap.size := by
  obtain ⟨kv, rfl, hm⟩ := mpN_mp h
  obtain ⟨w2, h1, h2, h3, h4⟩ := hm.put keyN ht ⟨x, hx⟩ v
  have e : mputN t w r x v = w2 := by
    unfold mputN
    have hx : ∃ w2, (Instr.mapUpdate t (.map (some r)) (.int .i64 x) v).run Tryz.prog w = .ok () w2 := ⟨w2, h1⟩
    refine (dif_pos hx).trans ?_
    exact ((Result.ok.inj (h1.symm.trans hx.choose_spec)).2).symm
  rw [e]
  exact ⟨h1, by rw [putL_upN kv ⟨x, hx⟩ v]; exact h2.mpN, h3, h4⟩
@[simp] theorem lkIB (w : World) (r : Nat) (x : Int) : (Instr.lookup 52 (.map (some r)) (.int .i64 x) false).run Tryz.prog w = match mpN w r with | some kv => if wfN x = true then .ok ((look kv x).getD (.bool false)) w else elseR ((Instr.lookup 52 (.map (some r)) (.int .i64 x) false).run Tryz.prog w) | none => elseR ((Instr.lookup 52 (.map (some r)) (.int .i64 x) false).run Tryz.prog w) := by
  cases h : mpN w r with
  | none => exact elseR_eq _
  | some kv =>
    simp only
    split
    · rename_i hx
      obtain ⟨kv, rfl, hm⟩ := mpN_mp h
      rw [look_upN kv ⟨x, hx⟩]
      exact hm.look keyN Tryz.underlying52 (zeroBl w) ⟨x, hx⟩
    · exact elseR_eq _
@[simp] theorem upIB (w : World) (r : Nat) (x : Int) (v : Value) : (Instr.mapUpdate 52 (.map (some r)) (.int .i64 x) v).run Tryz.prog w = match mpN w r with | some kv => if wfN x = true then .ok () (mputN 52 w r x v) else elseR ((Instr.mapUpdate 52 (.map (some r)) (.int .i64 x) v).run Tryz.prog w) | none => elseR ((Instr.mapUpdate 52 (.map (some r)) (.int .i64 x) v).run Tryz.prog w) := by
  cases h : mpN w r with
  | none => exact elseR_eq _
  | some kv =>
    simp only
    split
    · rename_i hx
      exact (mputN_all Tryz.underlying52 h hx v).1
    · exact elseR_eq _
end Go.Proofs.YtdandpaeeodolaaGreat
