/- Plain: paths as the program and as the document make them. -/
import Derived.Test.YtefcalkbfaefgaaGreatTreePK
namespace Go.Proofs.YtefcalkbfaefgaaGreat
set_option linter.unusedVariables false
set_option linter.unusedSimpArgs false

theorem joinB_cons (sep x : List UInt8) {l : List (List UInt8)} (h : l ≠ []) : joinB sep (x :: l) = x ++ sep ++ joinB sep l := by
  cases l with
  | nil => exact absurd rfl h
  | cons y l => rfl
theorem joinB_snoc (sep n : List UInt8) {l : List (List UInt8)} (h : l ≠ []) : joinB sep (l ++ [n]).reverse = n ++ sep ++ joinB sep l.reverse := by
  rw [List.reverse_append, List.reverse_singleton, List.singleton_append]
  exact joinB_cons sep n (by simpa using h)
theorem names_next {rs : List RwP} {k : Nat} {s : St} (h : reach rs k s = true) (h0 : s.T ≠ 0) : ∃ j r, k = j + 1 ∧ findR rs s = some r ∧ reach rs j r.Parent = true ∧ namesN rs k s = r.Name :: namesN rs j r.Parent := by
  have hx : fixedS s = false := by unfold fixedS; simp [h0]
  cases k with
  | zero =>
    unfold reach at h
    rw [hx] at h; cases h
  | succ k =>
    unfold reach at h
    rw [hx, Bool.false_or] at h
    cases hf : findR rs s with
    | none => rw [hf] at h; cases h
    | some r =>
      rw [hf] at h
      refine ⟨k, r, rfl, rfl, h, ?_⟩
      show (if s.T = 0 then [] else match findR rs s with | none => [] | some r => r.Name :: namesN rs k r.Parent) = _
      rw [if_neg h0, hf]
theorem names_zero {rs : List RwP} {k : Nat} {s : St} (h : s.T = 0) : namesN rs k s = [] := by
  cases k with
  | zero => rfl
  | succ k =>
    show (if s.T = 0 then [] else _) = []
    rw [if_pos h]
theorem place_zero (rs : List RwP) {s : St} (h : s.T = 0) : placeR rs s = some s := by
  show (if s.T = 0 then some s else _) = _
  rw [if_pos h]
theorem place_none {rs : List RwP} {s : St} (h : s.T ≠ 0) (hf : findR rs s = none) : placeR rs s = none := by
  show (if s.T = 0 then some s else match findR rs s with | none => none | some r => placeN rs rs.length r.Parent) = _
  rw [if_neg h, hf]
/-- of a node that lies under a place: how many steps, of which each is found -/
theorem lies_reach {rs : List RwP} {p : St} (hp : fixedS p = true) : ∀ (k : Nat) (s : St), liesN rs k s p = true → reach rs k s = true
  | 0, s, h => by cases h
  | k + 1, s, h => by
    have e : liesN rs (k + 1) s p = (match findR rs s with | none => false | some r => decide (r.Parent = p) || liesN rs k r.Parent p) := rfl
    rw [e] at h
    unfold reach
    cases hf : findR rs s with
    | none => rw [hf] at h; cases h
    | some r =>
      rw [hf] at h
      simp only [Bool.or_eq_true, decide_eq_true_eq] at h ⊢
      right
      rcases h with h | h
      · rw [h]
        cases k with
        | zero => exact hp
        | succ k => unfold reach; rw [hp]; rfl
      · exact lies_reach hp k _ h
/-- under the root, as the document says it -/
theorem TreeOk.root {rs : List RwP} (h : TreeOk rs) (s : St) : (placeR rs s = some zSt ∧ s.T ≠ 0 ↔ liesR rs s zSt = true) := by
  by_cases hT : s.T = 0
  · have : findR rs s = none := findR_none.2 fun x hx e => h.T x hx (by rw [e]; exact hT)
    rw [lies_none this]
    simp [hT]
  · cases hf : findR rs s with
    | none =>
      rw [lies_none hf, place_none hT hf]
      simp
    | some r =>
      obtain ⟨h1, h2⟩ := findR_some hf
      have := h.place h1 (p := zSt) rfl
      rw [h2] at this
      simp [this, hT]
theorem pathR_lies {rs : List RwP} (h : TreeOk rs) (s : St) : pathR rs s = if liesR rs s zSt = true then joinB [47] (namesN rs rs.length s).reverse else [] := by
  unfold pathR
  by_cases hl : liesR rs s zSt = true
  · rw [if_pos hl, if_pos ((h.root s).2 hl).1]
  · rw [if_neg hl]
    split
    · rename_i hp
      have hT : s.T = 0 := by
        rcases Classical.em (s.T = 0) with h0 | h0
        · exact h0
        · exact absurd ((h.root s).1 ⟨hp, h0⟩) hl
      rw [names_zero hT]
      rfl
    · rfl
/-- the way up of a node under the root: not the last one's parent is a place -/
theorem lies_step {rs : List RwP} {k : Nat} {s p : St} (h : liesN rs (k + 1) s p = true) : ∃ r, findR rs s = some r ∧ (r.Parent = p ∨ liesN rs k r.Parent p = true) := by
  have e : liesN rs (k + 1) s p = (match findR rs s with | none => false | some r => decide (r.Parent = p) || liesN rs k r.Parent p) := rfl
  rw [e] at h
  cases hf : findR rs s with
  | none => rw [hf] at h; cases h
  | some r =>
    rw [hf] at h
    simp only [Bool.or_eq_true, decide_eq_true_eq] at h
    exact ⟨r, rfl, h⟩
/-- names are few bytes -/
theorem rightR_name {r : RwP} (h : rightR r = true) : r.Name.length ≤ 60 := by
  unfold rightR rightDr at h
  simp only [Bool.and_eq_true, List.all_cons, List.all_nil] at h
  have := h.1.1.2.1
  unfold rightIt at this
  simp only [Bool.and_eq_true] at this
  have := this.1.1.1.2
  unfold nameOk itR at this
  simp only [Bool.and_eq_true, decide_eq_true_eq] at this
  omega
theorem names_len {rs : List RwP} (h : ∀ r ∈ rs, rightR r = true) : ∀ (k : Nat) (s : St), (namesN rs k s).length ≤ k ∧ ∀ n ∈ namesN rs k s, n.length ≤ 60
  | 0, s => by simp [namesN]
  | k + 1, s => by
    have e : namesN rs (k + 1) s = (if s.T = 0 then [] else match findR rs s with | none => [] | some r => r.Name :: namesN rs k r.Parent) := rfl
    rw [e]
    split
    · simp
    · cases hf : findR rs s with
      | none => simp
      | some r =>
        obtain ⟨h1, h2⟩ := names_len h k r.Parent
        refine ⟨by simp only [List.length_cons]; omega, fun n hn => ?_⟩
        rcases List.mem_cons.1 hn with rfl | hn
        · exact rightR_name (h r (findR_some hf).1)
        · exact h2 n hn
theorem names_len' {rs : List RwP} (h : ∀ r ∈ rs, r.Name.length ≤ 60) : ∀ (k : Nat) (s : St), (namesN rs k s).length ≤ k ∧ ∀ n ∈ namesN rs k s, n.length ≤ 60
  | 0, s => by simp [namesN]
  | k + 1, s => by
    have e : namesN rs (k + 1) s = (if s.T = 0 then [] else match findR rs s with | none => [] | some r => r.Name :: namesN rs k r.Parent) := rfl
    rw [e]
    split
    · simp
    · cases hf : findR rs s with
      | none => simp
      | some r =>
        obtain ⟨h1, h2⟩ := names_len' h k r.Parent
        refine ⟨by simp only [List.length_cons]; omega, fun n hn => ?_⟩
        rcases List.mem_cons.1 hn with rfl | hn
        · exact h r (findR_some hf).1
        · exact h2 n hn
/-- rows whose paths can be asked for -/
structure PthOk (rs : List RwP) : Prop where
  len : rs.length ≤ 5000
  nd : (rs.map (·.Node)).Nodup
  up : ∀ r ∈ rs, ∃ k, reach rs k r.Node = true
  ok : ∀ r ∈ rs, r.Name.length ≤ 60
theorem TreeOk.pth {rs : List RwP} (h : TreeOk rs) : PthOk rs := ⟨h.len, h.nd, h.up, fun r hr => rightR_name (h.ok r hr)⟩
theorem PthOk.reach {rs : List RwP} (h : PthOk rs) {r : RwP} (hr : r ∈ rs) : Go.Proofs.YtefcalkbfaefgaaGreat.reach rs rs.length r.Node = true := by
  obtain ⟨k, hk⟩ := h.up r hr
  exact reach_len hk
end Go.Proofs.YtefcalkbfaefgaaGreat
