/- Tables of rows: what lies at a node; depths. Plain: what snap.Right's loops have found up to now. -/
import Derived.Test.YtdandpaeeodolaaGreatMapTK
namespace Go.Proofs.YtdandpaeeodolaaGreat
open Go.RowKit Go.Maps Go.Sort
set_option linter.unusedVariables false
set_option linter.unusedSimpArgs false

def findW (rs : List RwW) (s : St) : Option RwW := rs.find? fun r => decide (r.Node = s)
theorem findW_some {rs : List RwW} {s : St} {r : RwW} (h : findW rs s = some r) : r ∈ rs ∧ r.Node = s := by
  unfold findW at h
  exact ⟨List.mem_of_find?_eq_some h, by simpa using List.find?_some h⟩
theorem RwsIn.tail {w : World} {r : RwW} {rs : List RwW} {x : RwP} {xs : List RwP} (h : RwsIn w (r :: rs) (x :: xs)) : RwIn w r x ∧ RwsIn w rs xs :=
  ⟨h.at_ 0 (by simp) (by simp), by have := h.len; simpa using this, fun i h1 h2 => h.at_ (i + 1) (by simpa using h1) (by simpa using h2)⟩
theorem RwsIn.cons {w : World} {r : RwW} {rs : List RwW} {x : RwP} {xs : List RwP} (h1 : RwIn w r x) (h2 : RwsIn w rs xs) : RwsIn w (r :: rs) (x :: xs) :=
  ⟨by simp [h2.len], fun i h3 h4 => by
    cases i with
    | zero => exact h1
    | succ i => exact h2.at_ i (by simpa using h3) (by simpa using h4)⟩
theorem RwsIn.nil {w : World} : RwsIn w [] [] := ⟨rfl, fun i h => absurd h (by simp)⟩
theorem RwsIn.find {w : World} {rs : List RwW} {xs : List RwP} (h : RwsIn w rs xs) (s : St) : (findW rs s = none ∧ findR xs s = none) ∨ ∃ r x, findW rs s = some r ∧ findR xs s = some x ∧ RwIn w r x := by
  induction rs generalizing xs with
  | nil =>
    have := h.len
    obtain rfl : xs = [] := List.length_eq_zero_iff.1 (by simpa using this.symm)
    exact .inl ⟨rfl, rfl⟩
  | cons r rs ih =>
    match xs, h with
    | [], h => have := h.len; simp at this
    | x :: xs, h =>
      obtain ⟨h1, h2⟩ := h.tail
      unfold findW findR at ih ⊢
      rw [List.find?_cons, List.find?_cons]
      by_cases e : r.Node = s
      · have e' : x.Node = s := by rw [h1.node]; exact e
        simp only [e, e', decide_true]
        exact .inr ⟨r, x, rfl, rfl, h1⟩
      · have e' : ¬ x.Node = s := by rw [h1.node]; exact e
        simp only [e, e', decide_false]
        exact ih h2
theorem RwsIn.mem {w : World} {rs : List RwW} {xs : List RwP} (h : RwsIn w rs xs) {r : RwW} (hr : r ∈ rs) : ∃ x, x ∈ xs ∧ RwIn w r x := by
  obtain ⟨i, hi, rfl⟩ := List.getElem_of_mem hr
  have hi' : i < xs.length := by rw [← h.len]; exact hi
  exact ⟨xs[i], List.getElem_mem hi', h.at_ i hi hi'⟩
theorem RwsIn.wf {w : World} {rs : List RwW} {xs : List RwP} (h : RwsIn w rs xs) {r : RwW} (hr : r ∈ rs) : wfS r.Node = true ∧ wfS r.Parent = true := by
  obtain ⟨x, _, hx⟩ := h.mem hr
  exact ⟨hx.wn, hx.wp⟩
/-- rows as a table's entries -/
def tab (rs : List RwW) : List (St × Value) := rs.map fun r => (r.Node, .agg (codR.A r))
theorem look_tab (rs : List RwW) (s : St) : look (tab rs) s = (findW rs s).map fun r => .agg (codR.A r) := by
  induction rs with
  | nil => rfl
  | cons r rs ih =>
    unfold look tab findW at ih ⊢
    rw [List.map_cons, List.find?_cons, List.find?_cons]
    by_cases e : r.Node = s
    · simp [e]
    · simp only [e, decide_false]
      exact ih
theorem tab_put {rs : List RwW} {r : RwW} (h : ∀ x ∈ rs, x.Node ≠ r.Node) : putL (tab rs) r.Node (.agg (codR.A r)) = tab (rs ++ [r]) := by
  have hn : findW rs r.Node = none := by
    unfold findW
    rw [List.find?_eq_none]
    simpa using h
  unfold putL
  rw [look_tab, hn]
  simp [tab]
theorem rtab_len (rs : List RwW) : (tab rs).length = rs.length := by simp [tab]
/-- how deep -/
def depthN (rs : List RwP) : Nat → St → Nat
  | 0, _ => 0
  | k + 1, s => if s.T = 0 then 0 else match findR rs s with
    | none => 1
    | some r => 1 + depthN rs k r.Parent
def depthR (rs : List RwP) (s : St) : Nat := depthN rs rs.length s
theorem depth_zero {rs : List RwP} {k : Nat} {s : St} (h : s.T = 0) : depthN rs k s = 0 := by
  cases k with
  | zero => rfl
  | succ k =>
    show (if s.T = 0 then 0 else _) = 0
    rw [if_pos h]
theorem reach_next {rs : List RwP} {k : Nat} {s : St} (h : reach rs k s = true) (h0 : s.T ≠ 0) : ∃ j r, k = j + 1 ∧ findR rs s = some r ∧ reach rs j r.Parent = true ∧ depthN rs k s = 1 + depthN rs j r.Parent := by
  have hx : fixedS s = false := by unfold fixedS; simp [h0]
  cases k with
  | zero =>
    unfold reach at h
    rw [hx] at h; cases h
  | succ k =>
    unfold reach at h
    rw [hx, Bool.false_or] at h
    cases hf : findR rs s with
    | none => rw [hf] at h; cases h
    | some r =>
      rw [hf] at h
      refine ⟨k, r, rfl, rfl, h, ?_⟩
      show (if s.T = 0 then 0 else match findR rs s with | none => 1 | some r => 1 + depthN rs k r.Parent) = _
      rw [if_neg h0, hf]
theorem depth_le {rs : List RwP} : ∀ (k : Nat) (s : St), depthN rs k s ≤ k
  | 0, s => Nat.le_refl 0
  | k + 1, s => by
    have e : depthN rs (k + 1) s = (if s.T = 0 then 0 else match findR rs s with | none => 1 | some r => 1 + depthN rs k r.Parent) := rfl
    rw [e]
    by_cases h0 : s.T = 0
    · rw [if_pos h0]; omega
    · rw [if_neg h0]
      cases hf : findR rs s with
      | none => simp only; omega
      | some r =>
        have := depth_le (rs := rs) k r.Parent
        simp only
        omega
theorem TreeOk.reach {rs : List RwP} (h : TreeOk rs) {r : RwP} (hr : r ∈ rs) : Go.Proofs.YtdandpaeeodolaaGreat.reach rs rs.length r.Node = true := by
  obtain ⟨k, hk⟩ := h.up r hr
  exact reach_len hk
end Go.Proofs.YtdandpaeeodolaaGreat
namespace Go.Proofs.YtdandpaeeodolaaGreat
open Go.RowKit Go.Maps Go.Sort
set_option linter.unusedVariables false
set_option linter.unusedSimpArgs false

def PwT (xs : List RwP) (k : Nat) : Prop := ∀ i j (h1 : i < j) (h2 : j < xs.length), j < k → cmpS (xs[i]'(by omega)).Node xs[j].Node < 0
theorem PwT.zero (xs : List RwP) : PwT xs 0 := fun i j h1 h2 h3 => by omega
theorem PwT.step {xs : List RwP} {k : Nat} (h : PwT xs k) (hk : k < xs.length) (hc : k = 0 ∨ ∃ (q : Nat) (hq : q + 1 = k), cmpS (xs[q]'(by omega)).Node xs[k].Node < 0) : PwT xs (k + 1) := by
  intro i j h1 h2 h3
  by_cases hj : j < k
  · exact h i j h1 h2 hj
  · obtain rfl : j = k := by omega
    rcases hc with rfl | ⟨q, hq, hc⟩
    · omega
    · subst hq
      by_cases hi : i = q
      · subst hi; exact hc
      · exact cmpS_trans (h i q (by omega) (by omega) (by omega)) hc
theorem PwT.all {xs : List RwP} : PwT xs xs.length ↔ riseR xs = true := by
  unfold riseR
  rw [riseB_pw (fun a b : RwP => cmpS a.Node b.Node) (fun _ _ _ => cmpS_trans) xs, List.pairwise_iff_getElem]
  constructor
  · intro h i j hi hj hij
    exact h i j hij hj hj
  · intro h i j h1 h2 _
    exact h i j (by omega) h2 h1
theorem PwT.ne {xs : List RwP} {k : Nat} (h : PwT xs (k + 1)) (hk : k < xs.length) {i : Nat} (hi : i < k) : (xs[i]'(by omega)).Node ≠ xs[k].Node := fun e => by
  have := h i k hi hk (by omega)
  rw [e, cmpS_self] at this
  omega
/-- a tree: all that is asked -/
theorem treeOk_of {xs : List RwP} (h1 : xs.length ≤ 5000) (h2 : ∀ i (h : i < xs.length), rightR xs[i] = true) (h3 : PwT xs xs.length) (h4 : ∀ i (h : i < xs.length), ∃ m, reach xs m xs[i].Node = true) : TreeOk xs :=
  ⟨h1, fun r hr => by obtain ⟨i, hi, rfl⟩ := List.getElem_of_mem hr; exact h2 i hi, PwT.all.1 h3, fun r hr => by obtain ⟨i, hi, rfl⟩ := List.getElem_of_mem hr; exact h4 i hi⟩
theorem TreeOk.pw {xs : List RwP} (h : TreeOk xs) : PwT xs xs.length := PwT.all.2 h.rise
/-- the parents' map -/
def parK (rs : List RwW) : List (St × Value) := rs.map fun r => (r.Node, .agg (codS.A r.Parent))
theorem look_par (rs : List RwW) (s : St) : look (parK rs) s = (findW rs s).map fun r => .agg (codS.A r.Parent) := by
  induction rs with
  | nil => rfl
  | cons r rs ih =>
    unfold look parK findW at ih ⊢
    rw [List.map_cons, List.find?_cons, List.find?_cons]
    by_cases e : r.Node = s
    · simp [e]
    · simp only [e, decide_false]
      exact ih
theorem par_put {rs : List RwW} {r : RwW} (h : ∀ x ∈ rs, x.Node ≠ r.Node) : putL (parK rs) r.Node (.agg (codS.A r.Parent)) = parK (rs ++ [r]) := by
  have hn : findW rs r.Node = none := by
    unfold findW
    rw [List.find?_eq_none]
    simpa using h
  unfold putL
  rw [look_par, hn]
  simp [parK]
/-- the good nodes' map: each reaches the root or the trash -/
def GoodK (xs : List RwP) (kv : List (St × Value)) : Prop := ∀ p ∈ kv, p.2 = .bool true ∧ ∃ m, reach xs m p.1 = true
theorem GoodK.nil (xs : List RwP) : GoodK xs [] := fun p hp => by cases hp
theorem lookK_mem {kv : List (St × Value)} {s : St} {v : Value} (h : look kv s = some v) : (s, v) ∈ kv := by
  unfold look at h
  cases hf : kv.find? (fun p => decide (p.1 = s)) with
  | none => rw [hf] at h; cases h
  | some p =>
    rw [hf] at h
    have h1 := List.mem_of_find?_eq_some hf
    have h2 : p.1 = s := by simpa using List.find?_some hf
    injection h with h
    rw [← h2, ← h]
    exact h1
/-- what the map says of s -/
theorem GoodK.look {xs : List RwP} {kv : List (St × Value)} (h : GoodK xs kv) (s : St) : ∃ b, (Go.Proofs.YtdandpaeeodolaaGreat.look kv s).getD (.bool false) = .bool b ∧ (b = true → ∃ m, reach xs m s = true) := by
  cases hl : Go.Proofs.YtdandpaeeodolaaGreat.look kv s with
  | none => exact ⟨false, rfl, fun h => by cases h⟩
  | some v =>
    obtain ⟨h1, h2⟩ := h _ (lookK_mem hl)
    simp only at h1 h2
    subst h1
    exact ⟨true, rfl, fun _ => h2⟩
theorem GoodK.put {xs : List RwP} {kv : List (St × Value)} (h : GoodK xs kv) {s : St} (hs : ∃ m, reach xs m s = true) : GoodK xs (putL kv s (.bool true)) := by
  intro p hp
  unfold putL at hp
  split at hp
  · obtain ⟨q, hq, rfl⟩ := List.mem_map.1 hp
    by_cases e : q.1 = s
    · rw [if_pos e]
      exact ⟨rfl, hs⟩
    · rw [if_neg e]
      exact h q hq
  · rcases List.mem_append.1 hp with hp | hp
    · exact h p hp
    · rw [List.mem_singleton] at hp
      subst hp
      exact ⟨rfl, hs⟩
theorem GoodK.wf {kv : List (St × Value)} : True := trivial
/-- the way up from s has come to t in l steps -/
structure WayT (xs : List RwP) (s t : St) (way : List St) : Prop where
  down : ∀ m, reach xs m s = true → ∃ j, m = way.length + j ∧ reach xs j t = true
  up : ∀ m, reach xs m t = true → ∃ j, reach xs j s = true
  all : ∀ x ∈ way, ∀ m, reach xs m t = true → ∃ j, reach xs j x = true
theorem WayT.nil (xs : List RwP) (s : St) : WayT xs s s [] := ⟨fun m h => ⟨m, by simp, h⟩, fun m h => ⟨m, h⟩, fun x hx => by cases hx⟩
theorem WayT.step {xs : List RwP} {s t : St} {way : List St} (h : WayT xs s t way) (hf : fixedS t = false) {r : RwP} (hr : findR xs t = some r) : WayT xs s r.Parent (way ++ [t]) := by
  have e : ∀ m, reach xs (m + 1) t = reach xs m r.Parent := fun m => by
    show (fixedS t || match findR xs t with | none => false | some r => reach xs m r.Parent) = _
    rw [hf, hr, Bool.false_or]
  refine ⟨fun m hm => ?_, fun m hm => ?_, fun x hx m hm => ?_⟩
  · obtain ⟨j, rfl, hj⟩ := h.down m hm
    cases j with
    | zero =>
      unfold reach at hj
      rw [hf] at hj; cases hj
    | succ j =>
      rw [e] at hj
      exact ⟨j, by simp only [List.length_append, List.length_singleton]; omega, hj⟩
  · exact h.up (m + 1) (by rw [e]; exact hm)
  · rcases List.mem_append.1 hx with hx | hx
    · exact h.all x hx (m + 1) (by rw [e]; exact hm)
    · rw [List.mem_singleton] at hx
      subst hx
      exact ⟨m + 1, by rw [e]; exact hm⟩
/-- no way on: s reaches nothing -/
theorem WayT.stuck {xs : List RwP} {s t : St} {way : List St} (h : WayT xs s t way) (hf : fixedS t = false) (hr : findR xs t = none) : ∀ m, reach xs m s = false := fun m => by
  cases hm : reach xs m s with
  | false => rfl
  | true =>
    obtain ⟨j, rfl, hj⟩ := h.down m hm
    cases j with
    | zero => unfold reach at hj; rw [hf] at hj; cases hj
    | succ j =>
      unfold reach at hj
      rw [hf, hr] at hj; cases hj
/-- more steps than rows: s reaches nothing -/
theorem WayT.long {xs : List RwP} {s t : St} {way : List St} (h : WayT xs s t way) (hl : xs.length < way.length) : ∀ m, reach xs m s = false := fun m => by
  cases hm : reach xs m s with
  | false => rfl
  | true =>
    obtain ⟨j, hj, _⟩ := h.down xs.length (reach_len hm)
    omega
theorem not_tree {xs : List RwP} {i : Nat} (hi : i < xs.length) (h : ∀ m, reach xs m xs[i].Node = false) : ¬ TreeOk xs := fun ht => by
  obtain ⟨m, hm⟩ := ht.up _ (List.getElem_mem hi)
  rw [h m] at hm; cases hm
end Go.Proofs.YtdandpaeeodolaaGreat
