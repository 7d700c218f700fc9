/- Plain laws of a tree that comes of operations (grove): ways, where rows come from, heads, kids counted. -/
import Derived.Test.YtdandpaeeodolaaGreatGlMK
namespace Go.Proofs.YtdandpaeeodolaaGreat
set_option linter.unusedVariables false
set_option linter.unusedSimpArgs false

theorem findR_perm {xs ys : List RwP} (hp : ys.Perm xs) (nd : (xs.map (·.Node)).Nodup) (s : St) : findR ys s = findR xs s := by
  have nd' : (ys.map (·.Node)).Nodup := (hp.map _).nodup_iff.2 nd
  cases h : findR xs s with
  | none =>
    rw [findR_none] at h ⊢
    exact fun r hr => h r (hp.mem_iff.1 hr)
  | some r =>
    obtain ⟨h1, h2⟩ := findR_some h
    rw [← h2]
    exact findR_mem nd' (hp.mem_iff.2 h1)
theorem liesN_perm {xs ys : List RwP} (hp : ys.Perm xs) (nd : (xs.map (·.Node)).Nodup) : ∀ (k : Nat) (s p : St), liesN ys k s p = liesN xs k s p
  | 0, _, _ => rfl
  | k + 1, s, p => by
    unfold liesN
    rw [findR_perm hp nd s]
    cases findR xs s with
    | none => rfl
    | some r => simp only; rw [liesN_perm hp nd k]
theorem liesR_perm {xs ys : List RwP} (hp : ys.Perm xs) (nd : (xs.map (·.Node)).Nodup) (s p : St) : liesR ys s p = liesR xs s p := by
  unfold liesR
  rw [hp.length_eq, liesN_perm hp nd]
theorem liesN_none {xs : List RwP} {s : St} (h : findR xs s = none) (n : Nat) (p : St) : liesN xs n s p = false := by
  cases n with
  | zero => rfl
  | succ n => unfold liesN; rw [h]
theorem liesN_some {xs : List RwP} {s : St} {r : RwP} (h : findR xs s = some r) (n : Nat) (p : St) : liesN xs (n + 1) s p = (decide (r.Parent = p) || liesN xs n r.Parent p) := by
  conv => lhs; unfold liesN
  rw [h]
theorem GvT.root {xs : List RwP} (h : GvT xs) {s : St} (hs : s.T = 0) : findR xs s = none := by
  rw [findR_none]
  rintro r hr rfl
  exact rightS_T (h.rt r hr) hs
theorem lies_down {xs : List RwP} (h : GvT xs) : ∀ (n : Nat) (s p : St) (k : Nat), reach xs k s = true → s.T ≠ 0 → liesN xs n s p = true → ∃ j, j < k ∧ reach xs j p = true
  | 0, s, p, k, _, _, hl => by cases hl
  | n + 1, s, p, k, hr, hs, hl => by
    rcases reach_inv hr with hf | ⟨j, r, rfl, hf, hr'⟩
    · exact absurd (fixedS_T hf) hs
    · rw [liesN_some hf, Bool.or_eq_true, decide_eq_true_eq] at hl
      rcases hl with rfl | hl
      · exact ⟨j, by omega, hr'⟩
      · by_cases h0 : r.Parent.T = 0
        · rw [liesN_none (h.root h0)] at hl; cases hl
        · obtain ⟨i, h1, h2⟩ := lies_down h n r.Parent p j hr' h0 hl
          exact ⟨i, by omega, h2⟩
/-- no node lies under itself -/
theorem lies_self {xs : List RwP} (h : GvT xs) {s : St} (hs : s.T ≠ 0) (n : Nat) {k : Nat} (hr : reach xs k s = true) : liesN xs n s s = false := by
  cases hl : liesN xs n s s with
  | false => rfl
  | true =>
    exfalso
    have : ∀ k, reach xs k s = true → False := by
      intro k
      induction k using Nat.strongRecOn with
      | ind k ih =>
        intro hk
        obtain ⟨j, h1, h2⟩ := lies_down h n s s k hk hs hl
        exact ih j h1 h2
    exact this k hr
theorem fixedS_or {s : St} (h : fixedS s = true) : s = zSt ∨ s = trS := by
  unfold fixedS at h
  simp only [Bool.and_eq_true, Bool.or_eq_true, decide_eq_true_eq] at h
  cases s with | mk t r =>
  simp only at h
  obtain ⟨rfl, rfl | rfl⟩ := h
  · exact .inl rfl
  · exact .inr rfl
/-- each node lies under the root, or under the trash -/
theorem lies_one {xs : List RwP} (h : GvT xs) : ∀ (n : Nat) (s : St), reach xs n s = true → s.T ≠ 0 → liesN xs n s trS = !liesN xs n s zSt
  | 0, s, hr, hs => absurd (fixedS_T hr) hs
  | n + 1, s, hr, hs => by
    rcases reach_inv hr with hf | ⟨j, r, hj, hf, hr'⟩
    · exact absurd (fixedS_T hf) hs
    · obtain rfl : j = n := by omega
      rw [liesN_some hf, liesN_some hf]
      by_cases h0 : r.Parent.T = 0
      · rw [liesN_none (h.root h0), liesN_none (h.root h0)]
        have hfx : fixedS r.Parent = true := by
          rcases okP_or (h.pr r (findR_some hf).1) with h1 | h1
          · exact h1
          · exact absurd h0 h1
        rcases fixedS_or hfx with e | e <;> rw [e] <;> decide
      · have e1 : r.Parent ≠ zSt := fun e => h0 (by rw [e]; rfl)
        have e2 : r.Parent ≠ trS := fun e => h0 (by rw [e]; rfl)
        rw [decide_eq_false e1, decide_eq_false e2, Bool.false_or, Bool.false_or]
        exact lies_one h j r.Parent hr' h0
/-- a row comes of a move -/
def FromL (L : List Opn) (x : RwP) : Prop := ∃ o ∈ L, o.Kind = 1 ∧ o.At = x.At ∧ o.Node = x.Node ∧ o.Parent = x.Parent ∧ o.Name = x.Name
theorem doX_from {xs : List RwP} {L : List Opn} (h : ∀ x ∈ xs, FromL L x) (o : Opn) : ∀ x ∈ doX xs o, FromL (L ++ [o]) x := by
  have hm : ∀ x ∈ xs, FromL (L ++ [o]) x := fun x hx => by
    obtain ⟨p, hp, hq⟩ := h x hx
    exact ⟨p, by simp [hp], hq⟩
  unfold doX
  cases hn : newR xs o with
  | none => exact hm
  | some r =>
    intro x hx
    rcases mem_put hx with rfl | ⟨hx, _⟩
    · unfold newR at hn
      split at hn
      · rename_i hk
        split at hn
        · cases hn
        · injection hn with hn
          rw [← hn]
          exact ⟨o, by simp, hk, rfl, rfl, rfl, rfl⟩
      · cases hf : findR xs o.Node with
        | none => rw [hf] at hn; cases hn
        | some q =>
          rw [hf] at hn
          injection hn with hn
          rw [← hn]
          obtain ⟨p, hp, h1, h2, h3, h4, h5⟩ := hm q (findR_some hf).1
          exact ⟨p, hp, h1, h2, h3, h4, h5⟩
    · exact hm x hx
theorem runX_from : ∀ {xs : List RwP} {M : List Opn} (L : List Opn), (∀ x ∈ xs, FromL M x) → ∀ x ∈ runX xs L, FromL (M ++ L) x
  | xs, M, [], h => by simpa [runX] using h
  | xs, M, o :: L, h => by
    have := runX_from (M := M ++ [o]) L (doX_from h o)
    simpa [runX] using this
/-- heads rise, all of them no later than m -/
def HdsUp (m : St → Prop) (l : List Hd) : Prop := l.Pairwise (fun a b => cmpS a.At b.At < 0) ∧ ∀ h ∈ l, m h.At
theorem doX_hds {xs : List RwP} {m m' : St → Prop} {o : Opn} (h : ∀ x ∈ xs, HdsUp m x.Heads) (h1 : ∀ s, m s → m' s) (h2 : m' o.At) (h3 : ∀ s, m s → cmpS s o.At < 0) : ∀ x ∈ doX xs o, HdsUp m' x.Heads := by
  have hm : ∀ x ∈ xs, HdsUp m' x.Heads := fun x hx => ⟨(h x hx).1, fun a ha => h1 _ ((h x hx).2 a ha)⟩
  unfold doX
  cases hn : newR xs o with
  | none => exact hm
  | some r =>
    intro x hx
    rcases mem_put hx with rfl | ⟨hx, _⟩
    · unfold newR at hn
      split at hn
      · split at hn
        · cases hn
        · injection hn with hn
          rw [← hn]
          show HdsUp m' (hdsR xs o.Node)
          unfold hdsR
          cases hf : findR xs o.Node with
          | none => exact ⟨.nil, by simp⟩
          | some q => exact hm q (findR_some hf).1
      · cases hf : findR xs o.Node with
        | none => rw [hf] at hn; cases hn
        | some q =>
          rw [hf] at hn
          injection hn with hn
          rw [← hn]
          have hq := h q (findR_some hf).1
          show HdsUp m' (leftH o.Over q.Heads ++ [⟨o.At, o.Data⟩])
          refine ⟨List.pairwise_append.2 ⟨hq.1.sublist List.filter_sublist, by simp, fun a ha b hb => ?_⟩, fun a ha => ?_⟩
          · rw [List.mem_singleton] at hb
            subst hb
            exact h3 _ (hq.2 a (List.mem_filter.1 ha).1)
          · rcases List.mem_append.1 ha with ha | ha
            · exact h1 _ (hq.2 a (List.mem_filter.1 ha).1)
            · rw [List.mem_singleton] at ha
              subst ha
              exact h2
    · exact hm x hx
theorem runX_hds : ∀ {xs : List RwP} {M : List Opn} (L : List Opn), SrtL (M ++ L) → (∀ x ∈ xs, HdsUp (fun s => ∃ o ∈ M, o.At = s) x.Heads) → ∀ x ∈ runX xs L, HdsUp (fun s => ∃ o ∈ M ++ L, o.At = s) x.Heads
  | xs, M, [], _, h => by simpa [runX] using h
  | xs, M, o :: L, hs, h => by
    have hs' : SrtL ((M ++ [o]) ++ L) := by simpa using hs
    have h1 := doX_hds (o := o) (m' := fun s => ∃ p ∈ M ++ [o], p.At = s) h (fun s ⟨p, hp, e⟩ => ⟨p, by simp [hp], e⟩) ⟨o, by simp, rfl⟩ (fun s ⟨p, hp, e⟩ => by
      unfold SrtL at hs
      rw [List.pairwise_append] at hs
      rw [← e]
      exact hs.2.2 p hp o (by simp))
    have := runX_hds (M := M ++ [o]) L hs' h1
    simpa [runX] using this
theorem sum_zero {α : Type} {l : List α} {f : α → Nat} (h : ∀ x ∈ l, f x = 0) : (l.map f).sum = 0 := by
  induction l with
  | nil => rfl
  | cons a l ih => rw [List.map_cons, List.sum_cons, h a (by simp), ih fun x hx => h x (by simp [hx])]
/-- kids, counted place by place -/
theorem count_one {P : List St} (nd : P.Nodup) {s : St} (h : s ∈ P) : (P.map fun p => if s = p then 1 else 0).sum = 1 := by
  induction P with
  | nil => cases h
  | cons p P ih =>
    rw [List.nodup_cons] at nd
    rw [List.map_cons, List.sum_cons]
    by_cases e : s = p
    · subst e
      have : (P.map fun p => if s = p then 1 else 0).sum = 0 := by
        refine sum_zero fun q hq => ?_
        rw [if_neg (by rintro rfl; exact nd.1 hq)]
      rw [this, if_pos rfl]
    · rw [if_neg e, ih nd.2 (by rcases List.mem_cons.1 h with h | h; · exact absurd h e
                                · exact h)]
theorem sum_add {α : Type} (l : List α) (f g : α → Nat) : (l.map fun x => f x + g x).sum = (l.map f).sum + (l.map g).sum := by
  induction l with
  | nil => rfl
  | cons a l ih => simp only [List.map_cons, List.sum_cons, ih]; omega
theorem kids_sum {P : List St} (nd : P.Nodup) : ∀ (xs : List RwP), (∀ x ∈ xs, x.Parent ∈ P) → (P.map fun p => (kidsR p xs).length).sum = xs.length
  | [], _ => by
    exact sum_zero fun q hq => rfl
  | x :: xs, h => by
    have ih := kids_sum nd xs fun y hy => h y (by simp [hy])
    have e : (fun p => (kidsR p (x :: xs)).length) = fun p => (if x.Parent = p then 1 else 0) + (kidsR p xs).length := funext fun p => by
      unfold kidsR
      rw [List.filter_cons]
      by_cases hp : x.Parent = p
      · simp [hp]; omega
      · simp [hp]
    rw [e, sum_add, count_one nd (h x (by simp)), ih, List.length_cons]
    omega
theorem GvT.places {xs : List RwP} (h : GvT xs) : (zSt :: trS :: xs.map (·.Node)).Nodup ∧ ∀ x ∈ xs, x.Parent ∈ zSt :: trS :: xs.map (·.Node) := by
  constructor
  · rw [List.nodup_cons, List.nodup_cons]
    refine ⟨fun hm => ?_, fun hm => ?_, h.nd⟩
    · rcases List.mem_cons.1 hm with hm | hm
      · exact absurd hm (by decide)
      · obtain ⟨x, hx, e⟩ := List.mem_map.1 hm
        exact rightS_T (h.rt x hx) (by rw [e]; rfl)
    · obtain ⟨x, hx, e⟩ := List.mem_map.1 hm
      exact rightS_T (h.rt x hx) (by rw [e]; rfl)
  · intro x hx
    obtain ⟨k, hk⟩ := h.up x hx
    rcases reach_inv hk with hf | ⟨j, r, hj, hf, hr⟩
    · exact absurd (fixedS_T hf) (rightS_T (h.rt x hx))
    · rw [findR_mem h.nd hx] at hf
      injection hf with hf
      subst hf
      rcases reach_inv hr with hf | ⟨_, r, _, hf, _⟩
      · rcases fixedS_or hf with e | e <;> simp [e]
      · obtain ⟨h1, h2⟩ := findR_some hf
        have : x.Parent ∈ xs.map (·.Node) := List.mem_map.2 ⟨r, h1, h2⟩
        simp [this]
theorem GvT.count {xs ys : List RwP} (h : GvT xs) (hp : ys.Perm xs) : (kidsR zSt xs).length + (kidsR trS xs).length + (ys.map fun y => (kidsR y.Node xs).length).sum = ys.length := by
  have := kids_sum h.places.1 xs h.places.2
  rw [List.map_cons, List.map_cons, List.sum_cons, List.sum_cons, List.map_map] at this
  have e : (ys.map fun y => (kidsR y.Node xs).length).sum = (xs.map ((fun p => (kidsR p xs).length) ∘ fun x => x.Node)).sum := (hp.map _).sum_nat
  rw [e, hp.length_eq]
  omega
end Go.Proofs.YtdandpaeeodolaaGreat
