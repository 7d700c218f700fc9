/- Plain: a delta that is cut off, or has a step more. -/
import Derived.Test.YtifgaejmhaepoaaLawMake
namespace Go.Proofs.Ytifgaejmhaepoaa

theorem gnAux_more (most : Nat) (rest : List UInt8) : ∀ (l : List UInt8) (i u n : Nat) (t : List UInt8), gnAux most i u l = some (n, t) → gnAux most i u (l ++ rest) = some (n, t ++ rest) := by
  intro l
  induction l with
  | nil => intro i u n t h; simp [gnAux] at h
  | cons b l ih =>
    intro i u n t h
    simp only [List.cons_append, gnAux] at h ⊢
    split at h
    · cases h
    · rename_i h9
      rw [if_neg h9]
      split at h
      · rename_i hb; rw [if_pos hb]; exact ih _ _ _ _ h
      · rename_i hb
        rw [if_neg hb]
        split at h
        · cases h
        · rename_i hc
          rw [if_neg hc]
          simp only [Option.some.injEq, Prod.mk.injEq] at h
          obtain ⟨rfl, rfl⟩ := h
          rfl
theorem getN_more {most : Nat} {l t : List UInt8} {n : Nat} (rest : List UInt8) (h : getN most l = some (n, t)) : getN most (l ++ rest) = some (n, t ++ rest) := gnAux_more most rest l 0 0 n t h

/-- steps that come out well go on with what is behind them -/
theorem apS_more (base rest : List UInt8) : ∀ (k : Nat) (s o out : List UInt8), s.length ≤ k → apS base (s, false) o = .ok out → apS base (s ++ rest, false) o = apS base (rest, false) out := by
  intro k
  induction k with
  | zero =>
    intro s o out hk h
    have : s = [] := List.eq_nil_of_length_eq_zero (by omega)
    subst this
    rw [apS_nil] at h
    injection h with h
    subst h
    rfl
  | succ k ih =>
    intro s o out hk h
    by_cases hs : s = []
    · subst hs
      rw [apS_nil] at h
      injection h with h
      subst h
      rfl
    · rw [apS_step _ _ _ hs] at h
      rw [apS_step _ _ _ (by intro h0; rw [List.append_eq_nil_iff] at h0; exact hs h0.1)]
      cases hg : getN 4611686018427387904 s with
      | none => rw [hg] at h; cases h
      | some x =>
        obtain ⟨n, t⟩ := x
        have hlt := (getN_le hg).2.2.1
        rw [hg] at h
        rw [getN_more rest hg]
        simp only at h ⊢
        split at h
        · cases h
        · rename_i hc
          rw [if_neg hc]
          split at h
          · rename_i h2
            rw [if_pos h2]
            split at h
            · cases h
            · rename_i h3
              rw [if_neg (by rw [List.length_append]; omega)]
              have := ih (t.drop (n / 2)) _ out (by rw [List.length_drop]; omega) h
              rw [List.drop_append_of_le_length (by omega), List.take_append_of_le_length (by omega)]
              exact this
          · rename_i h2
            rw [if_neg h2]
            cases hg2 : getN 4611686018427387904 t with
            | none => rw [hg2] at h; cases h
            | some y =>
              obtain ⟨o2, t'⟩ := y
              have hlt2 := (getN_le hg2).2.2.1
              rw [hg2] at h
              rw [getN_more rest hg2]
              simp only at h ⊢
              split at h
              · cases h
              · rename_i h3
                rw [if_neg h3]
                exact ih t' _ out (by omega) h

/-- each step has at least one byte -/
theorem apS_grow (base : List UInt8) : ∀ (k : Nat) (s o out : List UInt8), s.length ≤ k → apS base (s, false) o = .ok out → o.length ≤ out.length ∧ (s ≠ [] → o.length < out.length) := by
  intro k
  induction k with
  | zero =>
    intro s o out hk h
    have : s = [] := List.eq_nil_of_length_eq_zero (by omega)
    subst this
    rw [apS_nil] at h
    injection h with h
    subst h
    exact ⟨Nat.le_refl _, fun h => absurd rfl h⟩
  | succ k ih =>
    intro s o out hk h
    by_cases hs : s = []
    · subst hs
      rw [apS_nil] at h
      injection h with h
      subst h
      exact ⟨Nat.le_refl _, fun h => absurd rfl h⟩
    · suffices o.length < out.length from ⟨by omega, fun _ => this⟩
      rw [apS_step _ _ _ hs] at h
      cases hg : getN 4611686018427387904 s with
      | none => rw [hg] at h; cases h
      | some x =>
        obtain ⟨n, t⟩ := x
        have hlt := (getN_le hg).2.2.1
        rw [hg] at h
        simp only at h
        split at h
        · cases h
        · rename_i hc
          split at h
          · split at h
            · cases h
            · rename_i h3
              have := (ih _ _ _ (by rw [List.length_drop]; omega) h).1
              rw [List.length_append, List.length_take] at this
              omega
          · cases hg2 : getN 4611686018427387904 t with
            | none => rw [hg2] at h; cases h
            | some y =>
              obtain ⟨o2, t'⟩ := y
              have hlt2 := (getN_le hg2).2.2.1
              rw [hg2] at h
              simp only at h
              split at h
              · cases h
              · rename_i h3
                have := (ih _ _ _ (by omega) h).1
                rw [List.length_append, List.length_take, List.length_drop] at this
                omega

/-- a number that is cut off is none -/
theorem gnAux_cut (most : Nat) : ∀ (n k i u : Nat), k < (numB n).length → gnAux most i u ((numB n).take k) = none := by
  intro n
  induction n using Nat.strongRecOn with
  | _ n ih =>
    intro k i u hk
    cases k with
    | zero => simp [gnAux]
    | succ k =>
      by_cases hs : n < 128
      · rw [numB_small hs] at hk; simp at hk
      · rw [numB_big hs] at hk ⊢
        simp only [List.length_cons] at hk
        simp only [List.take_succ_cons, gnAux, u8_low (n % 128 + 128) (by omega)]
        split
        · rfl
        · rw [if_pos (by omega)]
          exact ih (n / 128) (by omega) k _ _ (by omega)

theorem made_cut {base target d : List UInt8} (h : Made base target d) (ht : target.length ≤ 1048576) (k : Nat) (hk : k < d.length) : applyD base (d.take k) ≠ .ok target := by
  obtain ⟨steps, e, hs⟩ := h.told
  intro hc
  subst e
  by_cases hn : k < (numB target.length).length
  · rw [List.take_append_of_le_length (by omega), applyD_eq] at hc
    have : rdNum 1048576 ((numB target.length).take k, false) = (0, ([], true)) := by
      unfold rdNum
      simp only [Bool.false_eq_true, if_false]
      rw [show getN 1048576 ((numB target.length).take k) = none from gnAux_cut _ _ _ _ _ hn]
    rw [this] at hc
    simp [apS, apT] at hc
  · obtain ⟨j, rfl⟩ : ∃ j, k = (numB target.length).length + j := ⟨k - (numB target.length).length, by omega⟩
    rw [List.take_append, List.take_of_length_le (by omega), Nat.add_sub_cancel_left, applyD_told _ _ _ ht] at hc
    have hj : j < steps.length := by rw [List.length_append] at hk; omega
    cases hx : apS base (steps.take j, false) [] with
    | error e => rw [hx] at hc; simp [apT] at hc
    | ok out =>
      rw [hx] at hc
      simp only [apT] at hc
      split at hc
      · injection hc with hc
        subst hc
        have h1 := apS_more base (steps.drop j) _ _ _ _ (Nat.le_refl _) hx
        rw [List.take_append_drop] at h1
        have h2 := hs []
        rw [List.append_nil, apS_nil] at h2
        rw [h2] at h1
        have := (apS_grow base _ _ _ _ (Nat.le_refl _) h1.symm).2 (by
          intro h0
          have := congrArg List.length h0
          rw [List.length_drop] at this
          simp at this
          omega)
        omega
      · cases hc
theorem made_two {base target d : List UInt8} (h : Made base target d) (hpos : 0 < target.length) : 2 ≤ d.length := by
  obtain ⟨steps, e, hs⟩ := h.told
  subst e
  rw [List.length_append]
  have := numB_pos target.length
  rcases Nat.eq_zero_or_pos steps.length with h0 | h0
  · have hn : steps = [] := List.eq_nil_of_length_eq_zero h0
    subst hn
    have := hs []
    rw [List.append_nil, apS_nil, apS_nil] at this
    injection this with this
    rw [← this] at hpos
    simp at hpos
  · omega
theorem made_more {base target d : List UInt8} (h : Made base target d) (ht : target.length ≤ 3000) : applyD base (d ++ [2, 120]) = .error 20 := by
  obtain ⟨steps, e, hs⟩ := h.told
  subst e
  rw [List.append_assoc, applyD_told _ _ _ (by omega), hs]
  have h2 : ([2, 120] : List UInt8) = numB (2 * ([120] : List UInt8).length) ++ ([120] ++ []) := by rw [numB_small (by decide)]; rfl
  rw [h2, apS_own base [120] [] target (by decide) (by simp; omega), apS_nil, apT, if_neg (by simp)]
end Go.Proofs.Ytifgaejmhaepoaa
