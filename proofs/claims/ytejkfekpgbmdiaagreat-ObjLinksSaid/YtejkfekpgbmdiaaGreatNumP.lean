/- Plain: numbers as bytes, what is read of them. -/
namespace Go.Proofs.YtejkfekpgbmdiaaGreat

/-- Reading a number: i bytes are behind, u is what they make. -/
def gnAux (most : Nat) : Nat → Nat → List UInt8 → Option (Nat × List UInt8)
  | _, _, [] => none
  | i, u, b :: t =>
    if 9 ≤ i then none else
    let u' := u + (b.toNat % 128) * 128 ^ i
    if 128 ≤ b.toNat then gnAux most (i + 1) u' t
    else if 4611686018427387904 < u' ∨ most < u' ∨ (b.toNat = 0 ∧ 0 < i) then none else some (u', t)

def getN (most : Nat) (l : List UInt8) : Option (Nat × List UInt8) := gnAux most 0 0 l

/-- A reader's state: what is left, and whether it has failed. -/
abbrev RS := List UInt8 × Bool

/-- What a reader's number is, and its state behind it. -/
def rdNum (most : Nat) (s : RS) : Nat × RS :=
  if s.2 then (0, ([], true)) else
  match getN most s.1 with
  | none => (0, ([], true))
  | some (n, t) => (n, (t, false))

theorem gnAux_le (most : Nat) : ∀ (l : List UInt8) (i u n : Nat) (t : List UInt8), gnAux most i u l = some (n, t) → n ≤ 4611686018427387904 ∧ n ≤ most ∧ t.length < l.length ∧ ∃ p, l = p ++ t := by
  intro l
  induction l with
  | nil => intro i u n t h; simp [gnAux] at h
  | cons b l ih =>
    intro i u n t h
    simp only [gnAux] at h
    split at h
    · cases h
    · split at h
      · obtain ⟨h1, h2, h3, p, hp⟩ := ih _ _ _ _ h
        exact ⟨h1, h2, by simp; omega, b :: p, by simp [hp]⟩
      · split at h
        · cases h
        · rename_i hc
          simp only [Option.some.injEq, Prod.mk.injEq] at h
          obtain ⟨rfl, rfl⟩ := h
          simp only [not_or] at hc
          exact ⟨by omega, by omega, by simp, [b], rfl⟩

theorem getN_le {most : Nat} {l t : List UInt8} {n : Nat} (h : getN most l = some (n, t)) : n ≤ 4611686018427387904 ∧ n ≤ most ∧ t.length < l.length ∧ ∃ p, l = p ++ t := gnAux_le most l 0 0 n t h

theorem rdNum_or {most : Nat} {s s' : RS} {n : Nat} (h : rdNum most s = (n, s')) :
    (n = 0 ∧ s' = ([], true) ∧ (s.2 = true ∨ getN most s.1 = none)) ∨ (s.2 = false ∧ s'.2 = false ∧ getN most s.1 = some (n, s'.1) ∧ n ≤ most ∧ s'.1.length < s.1.length ∧ ∃ p, s.1 = p ++ s'.1) := by
  unfold rdNum at h
  split at h
  · rename_i hb
    simp only [Prod.mk.injEq] at h
    exact .inl ⟨h.1.symm, h.2.symm, .inl hb⟩
  · rename_i hb
    have hb' : s.2 = false := by simpa using hb
    cases hg : getN most s.1 with
    | none =>
      rw [hg] at h
      simp only [Prod.mk.injEq] at h
      exact .inl ⟨h.1.symm, h.2.symm, .inr rfl⟩
    | some x =>
      obtain ⟨m, t⟩ := x
      rw [hg] at h
      simp only [Prod.mk.injEq] at h
      obtain ⟨rfl, rfl⟩ := h
      have := getN_le hg
      exact .inr ⟨hb', rfl, rfl, this.2.1, this.2.2.1, this.2.2.2⟩

/-- A number's bytes. -/
def numB (n : Nat) : List UInt8 :=
  if h : n < 128 then [UInt8.ofNat n] else UInt8.ofNat (n % 128 + 128) :: numB (n / 128)
termination_by n
decreasing_by omega

end Go.Proofs.YtejkfekpgbmdiaaGreat
