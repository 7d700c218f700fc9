/- Plain: what comes out of a delta. -/
import Derived.Test.YtifgaejmhaepoaaNumP
namespace Go.Proofs.Ytifgaejmhaepoaa

/-- The steps of a delta: what is left of it, what has come out; the bytes or the error's number. -/
def applyL (base : List UInt8) : Nat → List UInt8 → List UInt8 → Except Nat (List UInt8)
  | 0, _, out => .ok out
  | f + 1, l, out =>
    if l = [] then .ok out else
    match getN 4611686018427387904 l with
    | none => .error 20
    | some (n, t) =>
      if n / 2 < 1 ∨ 1048576 < n / 2 + out.length then .error 20 else
      if n % 2 = 0 then
        if t.length < n / 2 then .error 20 else applyL base f (t.drop (n / 2)) (out ++ t.take (n / 2))
      else
        match getN 4611686018427387904 t with
        | none => .error 20
        | some (o, t') =>
          if base.length < o + n / 2 then .error 70 else applyL base f t' (out ++ (base.drop o).take (n / 2))

def applyD (base d : List UInt8) : Except Nat (List UInt8) :=
  match getN 1048576 d with
  | none => .error 20
  | some (told, r) =>
    match applyL base (r.length + 1) r [] with
    | .error e => .error e
    | .ok out => if out.length = told then .ok out else .error 20

/-- the bytes of an answer, and its error's number -/
def resB : Except Nat (List UInt8) → List UInt8
  | .ok l => l
  | .error _ => []
def resE : Except Nat (List UInt8) → Nat
  | .ok _ => 0
  | .error e => e

theorem applyL_fuel (base : List UInt8) : ∀ (f g : Nat) (l out : List UInt8), l.length < f → l.length < g → applyL base f l out = applyL base g l out := by
  intro f
  induction f with
  | zero => intro g l out h; omega
  | succ f ih =>
    intro g l out hf hg
    cases g with
    | zero => omega
    | succ g =>
      simp only [applyL]
      by_cases h0 : l = []
      · simp [h0]
      · rw [if_neg h0, if_neg h0]
        cases h1 : getN 4611686018427387904 l with
        | none => rfl
        | some x =>
          obtain ⟨n, t⟩ := x
          have hl := (getN_le h1).2.2.1
          simp only
          split
          · rfl
          · split
            · split
              · rfl
              · exact ih _ _ _ (by simp; omega) (by simp; omega)
            · cases h2 : getN 4611686018427387904 t with
              | none => rfl
              | some y =>
                obtain ⟨o, t'⟩ := y
                have hl' := (getN_le h2).2.2.1
                simp only
                split
                · rfl
                · exact ih _ _ _ (by omega) (by omega)

theorem applyL_out (base : List UInt8) : ∀ (f : Nat) (l out r : List UInt8), applyL base f l out = .ok r → out.length ≤ 1048576 → r.length ≤ 1048576 := by
  intro f
  induction f with
  | zero => intro l out r h hl; simp only [applyL] at h; injection h with h; subst h; exact hl
  | succ f ih =>
    intro l out r h hl
    simp only [applyL] at h
    split at h
    · injection h with h; subst h; exact hl
    · split at h
      · cases h
      · split at h
        · cases h
        · rename_i hb
          split at h
          · split at h
            · cases h
            · exact ih _ _ _ h (by simp; omega)
          · split at h
            · cases h
            · split at h
              · cases h
              · exact ih _ _ _ h (by simp; omega)

/-- the loop's answer from a state on -/
def apS (base : List UInt8) (s : RS) (out : List UInt8) : Except Nat (List UInt8) := if s.2 then .error 20 else applyL base (s.1.length + 1) s.1 out
/-- the whole answer -/
def apT (told : Nat) (r : Except Nat (List UInt8)) : Except Nat (List UInt8) :=
  match r with
  | .error e => .error e
  | .ok out => if out.length = told then .ok out else .error 20

theorem applyD_eq (base d : List UInt8) : applyD base d = apT (rdNum 1048576 (d, false)).1 (apS base (rdNum 1048576 (d, false)).2 []) := by
  unfold applyD rdNum
  simp only [Bool.false_eq_true, if_false]
  cases getN 1048576 d with
  | none => simp [apS, apT]
  | some x =>
    obtain ⟨n, t⟩ := x
    simp only [apS, apT, Bool.false_eq_true, if_false]
    try (cases applyL base (t.length + 1) t [] <;> rfl)

theorem apS_step (base l out : List UInt8) (hl : l ≠ []) : apS base (l, false) out =
    match getN 4611686018427387904 l with
    | none => .error 20
    | some (n, t) =>
      if n / 2 < 1 ∨ 1048576 < n / 2 + out.length then .error 20 else
      if n % 2 = 0 then
        if t.length < n / 2 then .error 20 else apS base (t.drop (n / 2), false) (out ++ t.take (n / 2))
      else
        match getN 4611686018427387904 t with
        | none => .error 20
        | some (o, t') =>
          if base.length < o + n / 2 then .error 70 else apS base (t', false) (out ++ (base.drop o).take (n / 2)) := by
  simp only [apS, Bool.false_eq_true, if_false, applyL, if_neg hl]
  cases h1 : getN 4611686018427387904 l with
  | none => rfl
  | some x =>
    obtain ⟨n, t⟩ := x
    have hl := (getN_le h1).2.2.1
    simp only
    split
    · rfl
    · split
      · split
        · rfl
        · exact applyL_fuel base l.length _ _ _ (by simp only [List.length_drop]; omega) (Nat.lt_succ_self _)
      · cases h2 : getN 4611686018427387904 t with
        | none => rfl
        | some y =>
          obtain ⟨o, t'⟩ := y
          have hl' := (getN_le h2).2.2.1
          simp only
          split
          · rfl
          · exact applyL_fuel base l.length _ _ _ (by omega) (Nat.lt_succ_self _)
theorem apS_nil (base out : List UInt8) : apS base ([], false) out = .ok out := rfl

end Go.Proofs.Ytifgaejmhaepoaa
