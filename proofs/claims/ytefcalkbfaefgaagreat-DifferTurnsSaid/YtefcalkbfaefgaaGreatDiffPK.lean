/- Plain: what turns one tree into another one: moves, what goes to the trash, edits; numbered from a stamp on. -/
import Derived.Test.YtefcalkbfaefgaaGreatTreePK
namespace Go.Proofs.YtefcalkbfaefgaaGreat
set_option linter.unusedVariables false
set_option linter.unusedSimpArgs false

def mvO (r : RwP) : Opn := ⟨1, zSt, r.Node, r.Parent, r.Name, zID, []⟩
def trO (r : RwP) : Opn := ⟨1, zSt, r.Node, trS, r.Name, zID, []⟩
def movedR (a : List RwP) (r : RwP) : Bool := match findR a r.Node with
  | none => true
  | some x => !(decide (x.Parent = r.Parent) && decide (x.Name = r.Name))
def goneR (b : List RwP) (r : RwP) : Bool := (findR b r.Node).isNone && decide (r.Parent ≠ trS)
def headsR (a : List RwP) (s : St) : List Hd := match findR a s with
  | none => []
  | some x => x.Heads
def edO (a : List RwP) (r : RwP) (h : Hd) : Opn := ⟨2, zSt, r.Node, zSt, [], h.Data, (headsR a r.Node).map (·.At)⟩
def edR (a : List RwP) (r : RwP) : List Opn := if sameDt (headsR a r.Node) r.Heads then [] else match r.Heads with
  | [h] => [edO a r h]
  | _ => []
def oneR (a : List RwP) (r : RwP) : Bool := sameDt (headsR a r.Node) r.Heads || decide (r.Heads.length = 1)
/-- numbered from s on -/
def numS : St → List Opn → List Opn
  | _, [] => []
  | s, o :: l => { o with At := s } :: numS ⟨s.T + 1, s.R⟩ l
theorem numS_len (s : St) (l : List Opn) : (numS s l).length = l.length := by
  induction l generalizing s with
  | nil => rfl
  | cons o l ih => simp [numS, ih]
theorem numS_get (s : St) (l : List Opn) (i : Nat) (h : i < l.length) : (numS s l)[i]'(by rw [numS_len]; exact h) = { l[i] with At := ⟨s.T + i, s.R⟩ } := by
  induction l generalizing s i with
  | nil => simp at h
  | cons o l ih =>
    cases i with
    | zero => simp [numS]
    | succ i =>
      simp only [numS, List.getElem_cons_succ]
      rw [ih ⟨s.T + 1, s.R⟩ i (by simpa using h)]
      simp only [Opn.mk.injEq, St.mk.injEq, true_and, and_true]
      omega
theorem numS_app (s : St) (l : List Opn) (o : Opn) : numS s (l ++ [o]) = numS s l ++ [{ o with At := ⟨s.T + l.length, s.R⟩ }] := by
  induction l generalizing s with
  | nil => simp [numS]
  | cons x l ih =>
    simp only [List.cons_append, numS, ih, List.length_cons, List.cons.injEq, true_and]
    congr 4
    omega
/-- all operations, the moves in the order l -/
def allO (a b : List RwP) (at_ : St) (l : List RwP) : List Opn := numS at_ (l.map mvO ++ (a.filter (goneR b)).map trO ++ b.flatMap (edR a))
/-- what Diff answers -/
structure DiffTo (a b : List RwP) (at_ : St) (E : Int) (os : List Opn) : Prop where
  bad : E ≠ 0 → os = []
  ok : E = 0 → TreeOk a ∧ TreeOk b ∧ rightS at_ = true ∧ (∃ l : List RwP, l.Perm (b.filter (movedR a)) ∧ os = allO a b at_ l) ∧ (∀ o ∈ os, goodOp o = true) ∧ (∀ r ∈ b, oneR a r = true) ∧ os.length ≤ 64
  many : TreeOk a → TreeOk b → rightS at_ = true → (∀ l : List RwP, l.Perm (b.filter (movedR a)) → ∀ o ∈ allO a b at_ l, goodOp o = true) → E = 0 ∨ E = 3
  yes : TreeOk a → TreeOk b → rightS at_ = true → (∀ l : List RwP, l.Perm (b.filter (movedR a)) → (∀ o ∈ allO a b at_ l, goodOp o = true) ∧ (allO a b at_ l).length ≤ 64) → (∀ r ∈ b, oneR a r = true) → E = 0
/-- of which kind, of which node the i-th is -/
theorem allO_get {a b l : List RwP} {at_ : St} (hl : l.Perm (b.filter (movedR a))) (hb : (b.map (·.Node)).Nodup) (i : Nat) (h : i < (allO a b at_ l).length) :
    ((allO a b at_ l)[i].At = ⟨at_.T + i, at_.R⟩) ∧
    ((i < l.length + (a.filter (goneR b)).length ∧ (allO a b at_ l)[i].Kind = 1 ∧ ∀ x y, findR a (allO a b at_ l)[i].Node = some x → findR b (allO a b at_ l)[i].Node = some y → ¬ (x.Parent = y.Parent ∧ x.Name = y.Name)) ∨
     (l.length + (a.filter (goneR b)).length ≤ i ∧ (allO a b at_ l)[i].Kind = 2 ∧ ∃ y, findR b (allO a b at_ l)[i].Node = some y)) := by
  unfold allO at h ⊢
  have h' := h
  rw [numS_len] at h'
  rw [numS_get _ _ i h']
  refine ⟨rfl, ?_⟩
  simp only
  by_cases h1 : i < (l.map mvO ++ (a.filter (goneR b)).map trO).length
  · rw [List.getElem_append_left h1]
    left
    refine ⟨by simpa using h1, ?_⟩
    by_cases h2 : i < (l.map mvO).length
    · rw [List.getElem_append_left h2, List.getElem_map]
      refine ⟨rfl, fun x y hx hy he => ?_⟩
      have hi : i < l.length := by simpa using h2
      have hm := hl.mem_iff.1 (List.getElem_mem hi)
      obtain ⟨hm1, hm2⟩ := List.mem_filter.1 hm
      have hx' : findR a l[i].Node = some x := hx
      have hy' : findR b l[i].Node = some y := hy
      rw [findR_mem hb hm1] at hy'
      injection hy' with hy'
      unfold movedR at hm2
      rw [hx'] at hm2
      simp [hy', he.1, he.2] at hm2
    · rw [List.getElem_append_right (by omega)]
      have hm : ((a.filter (goneR b)).map trO)[i - (l.map mvO).length]'(by simp only [List.length_append] at h1; omega) ∈ (a.filter (goneR b)).map trO := List.getElem_mem _
      generalize ((a.filter (goneR b)).map trO)[i - (l.map mvO).length]'(by simp only [List.length_append] at h1; omega) = o at hm
      obtain ⟨r, hr, rfl⟩ := List.mem_map.1 hm
      refine ⟨rfl, fun x y hx hy he => ?_⟩
      obtain ⟨hm1, hm2⟩ := List.mem_filter.1 hr
      unfold goneR at hm2
      rw [Bool.and_eq_true] at hm2
      have hy' : findR b r.Node = some y := hy
      rw [hy'] at hm2
      simp at hm2
  · rw [List.getElem_append_right (by omega)]
    right
    refine ⟨by simpa using h1, ?_⟩
    have hm : (b.flatMap (edR a))[i - (l.map mvO ++ (a.filter (goneR b)).map trO).length]'(by rw [List.length_append] at h'; omega) ∈ b.flatMap (edR a) := List.getElem_mem _
    generalize (b.flatMap (edR a))[i - (l.map mvO ++ (a.filter (goneR b)).map trO).length]'(by rw [List.length_append] at h'; omega) = o at hm
    obtain ⟨r, hr, ho⟩ := List.mem_flatMap.1 hm
    unfold edR at ho
    split at ho
    · cases ho
    · split at ho
      · rw [List.mem_singleton] at ho
        subst ho
        exact ⟨rfl, r, findR_mem hb hr⟩
      · cases ho
end Go.Proofs.YtefcalkbfaefgaaGreat
