/- Plain: numbers read back; steps of a delta put together. -/
import Derived.Test.YtifgaejmhaepoaaDeltaP
import Derived.Test.YtifgaejmhaepoaaNumW
namespace Go.Proofs.Ytifgaejmhaepoaa

theorem gnAux_numB (most : Nat) (t : List UInt8) : ∀ (n i u : Nat), i < 9 → n < 128 ^ (9 - i) → (n ≠ 0 ∨ i = 0) → u + n * 128 ^ i ≤ most → u + n * 128 ^ i ≤ 4611686018427387904 →
    gnAux most i u (numB n ++ t) = some (u + n * 128 ^ i, t) := by
  intro n
  induction n using Nat.strongRecOn with
  | _ n ih =>
    intro i u hi hn hz hm h62
    by_cases hs : n < 128
    · rw [numB_small hs]
      simp only [List.cons_append, List.nil_append, gnAux, if_neg (show ¬ 9 ≤ i by omega), u8_low n (by omega)]
      rw [if_neg (by omega), Nat.mod_eq_of_lt hs, if_neg (by omega)]
    · rw [numB_big hs]
      have hp : 128 ^ (i + 1) = 128 ^ i * 128 := Nat.pow_succ ..
      have hsum : u + n % 128 * 128 ^ i + n / 128 * 128 ^ (i + 1) = u + n * 128 ^ i := by
        rw [hp]
        have h1 : n / 128 * (128 ^ i * 128) = (n / 128 * 128) * 128 ^ i := by
          rw [Nat.mul_comm (128 ^ i) 128, Nat.mul_assoc]
        rw [h1, Nat.add_assoc, ← Nat.add_mul]
        congr 2
        omega
      have hi7 : i + 1 < 9 := by
        rcases Nat.lt_or_ge (i + 1) 9 with h | h
        · exact h
        · obtain rfl : i = 8 := by omega
          simp at hn; omega
      have hn' : n / 128 < 128 ^ (9 - (i + 1)) := by
        apply Nat.div_lt_of_lt_mul
        have : 128 ^ (9 - i) = 128 * 128 ^ (9 - (i + 1)) := by
          rw [show 9 - i = (9 - (i + 1)) + 1 by omega, Nat.pow_succ, Nat.mul_comm]
        rw [← this]; exact hn
      simp only [List.cons_append, gnAux, if_neg (show ¬ 9 ≤ i by omega), u8_low (n % 128 + 128) (by omega)]
      rw [if_pos (by omega), show (n % 128 + 128) % 128 = n % 128 by omega]
      rw [ih (n / 128) (by omega) (i + 1) _ hi7 hn' (.inl (by omega)) (by rw [hsum]; exact hm) (by rw [hsum]; exact h62), hsum]

theorem getN_numB (most n : Nat) (t : List UInt8) (hm : n ≤ most) (h62 : n ≤ 4611686018427387904) : getN most (numB n ++ t) = some (n, t) := by
  have := gnAux_numB most t n 0 0 (by omega) (by have : (128 : Nat) ^ (9 - 0) = 9223372036854775808 := by decide
                                                 omega) (.inr rfl) (by simpa using hm) (by simpa using h62)
  simpa [getN] using this

theorem numB_ne (n : Nat) (l : List UInt8) : numB n ++ l ≠ [] := by
  intro h
  rw [List.append_eq_nil_iff] at h
  have := numB_pos n
  rw [h.1] at this
  simp at this

theorem apS_copy (base rest out : List UInt8) (k o : Nat) (hk : 1 ≤ k) (hko : k + out.length ≤ 1048576) (ho : o ≤ 4611686018427387904) :
    apS base (numB (2 * k + 1) ++ (numB o ++ rest), false) out = if base.length < o + k then .error 70 else apS base (rest, false) (out ++ (base.drop o).take k) := by
  rw [apS_step _ _ _ (numB_ne _ _), getN_numB _ _ _ (by omega) (by omega)]
  simp only
  rw [show (2 * k + 1) / 2 = k by omega, if_neg (by omega), if_neg (by omega), getN_numB _ _ _ ho ho]
theorem apS_own (base lit rest out : List UInt8) (hk : 1 ≤ lit.length) (hko : lit.length + out.length ≤ 1048576) :
    apS base (numB (2 * lit.length) ++ (lit ++ rest), false) out = apS base (rest, false) (out ++ lit) := by
  rw [apS_step _ _ _ (numB_ne _ _), getN_numB _ _ _ (by omega) (by omega)]
  simp only
  rw [show 2 * lit.length / 2 = lit.length by omega, if_neg (by omega), if_pos (by omega), if_neg (by simp), List.drop_left, List.take_left]
theorem apS_none (base out : List UInt8) : apS base ([], false) out = .ok out := rfl

theorem rdNum_numB (n : Nat) (t : List UInt8) (most : Nat) (hm : n ≤ most) (h62 : n ≤ 4611686018427387904) : rdNum most (numB n ++ t, false) = (n, (t, false)) := by
  unfold rdNum
  simp only [Bool.false_eq_true, if_false]
  rw [getN_numB _ _ _ hm h62]
theorem applyD_told (base : List UInt8) (n : Nat) (t : List UInt8) (hn : n ≤ 1048576) : applyD base (numB n ++ t) = apT n (apS base (t, false) []) := by
  rw [applyD_eq, rdNum_numB _ _ _ hn (by omega)]
end Go.Proofs.Ytifgaejmhaepoaa
