/- Plain: delta.Make as a function of bytes; what comes out of what it makes; its length. -/
import Derived.Test.YtifgaejmhaepoaaMakeP
import Derived.Test.YtifgaejmhaepoaaIdx
namespace Go.Proofs.Ytifgaejmhaepoaa

/-- how many rounds the first loop has -/
def rounds (n : Nat) : Nat := if n < 8 then 0 else (n - 8) / 4 + 1
theorem rounds_is (n k : Nat) (h1 : k = 0 ∨ 4 * (k - 1) + 8 ≤ n) (h2 : n < 4 * k + 8) : k = rounds n := by
  unfold rounds
  split <;> omega

def madeL (base target : List UInt8) : List UInt8 × Nat := mkL base target (plcN base (rounds base.length)) target.length 0 0 (numB target.length)
def madeO (base target : List UInt8) : List UInt8 := flushF target (madeL base target).1 (madeL base target).2 target.length
def plainD (target : List UInt8) : List UInt8 := numB target.length ++ numB (2 * target.length) ++ target
def makeD (base target : List UInt8) : Except Nat (List UInt8) :=
  if 1048576 < target.length then .error 2
  else if target = [] then .ok (numB 0)
  else if 0 ≤ Lib.index base target then .ok (numB target.length ++ numB (2 * target.length + 1) ++ numB (Lib.index base target).toNat)
  else if (plainD target).length < (madeO base target).length then .ok (plainD target) else .ok (madeO base target)

theorem plc_all (base : List UInt8) (k : SKey) : (plcN base (rounds base.length) k).length ≤ 4 ∧ ∀ x ∈ plcN base (rounds base.length) k, x + 8 ≤ base.length ∧ (base.drop x).take 8 = k.1 := by
  have h1 : 4 * rounds base.length ≤ base.length + 0 := by unfold rounds; split <;> omega
  have h2 : rounds base.length = 0 ∨ 4 * (rounds base.length - 1) + 8 ≤ base.length := by unfold rounds; split <;> omega
  exact plcN_ok base _ h1 h2 k

/-- what is told: a size, then steps out of which the target comes -/
theorem make_tells (base target : List UInt8) (ht : target.length ≤ 1048576) (hb : base.length ≤ 140737488351232) : ∃ d steps, makeD base target = .ok d ∧ d = numB target.length ++ steps ∧ (∀ rest, apS base (steps ++ rest, false) [] = apS base (rest, false) target) ∧ d.length ≤ target.length + 16 ∧
    (0 ≤ Lib.index base target ∨ target = [] → base.length ≤ 20000 → d.length ≤ 16) := by
  have n1 := numB_length target.length (by omega)
  unfold makeD
  rw [if_neg (by omega)]
  split
  · rename_i h0
    subst h0
    refine ⟨_, [], rfl, by simp, fun rest => rfl, ?_, ?_⟩ <;> rw [numB_small (by decide)] <;> simp
  rename_i h0
  have hpos : 0 < target.length := by
    rcases Nat.eq_zero_or_pos target.length with h | h
    · exact absurd (List.eq_nil_of_length_eq_zero h) h0
    · exact h
  have hsm : ∀ n, n < 2097152 → (numB n).length ≤ 3 := by
    intro n hn
    by_cases h1 : n < 128
    · rw [numB_small h1]; simp
    · rw [numB_big h1]
      by_cases h2 : n / 128 < 128
      · rw [numB_small h2]; simp
      · rw [numB_big h2, numB_small (by omega)]; simp
  have n3 := hsm target.length (by omega)
  have n4 : (numB (2 * target.length + 1)).length ≤ 4 := by
    by_cases h1 : 2 * target.length + 1 < 128
    · rw [numB_small h1]; simp
    · rw [numB_big h1, List.length_cons]
      have := hsm ((2 * target.length + 1) / 128) (by omega)
      omega
  have n5 : (numB (2 * target.length)).length ≤ 4 := by
    by_cases h1 : 2 * target.length < 128
    · rw [numB_small h1]; simp
    · rw [numB_big h1, List.length_cons]
      have := hsm (2 * target.length / 128) (by omega)
      omega
  split
  · rename_i hi
    rcases index_two base target h0 with h | ⟨i, h1, h2, h3⟩
    · omega
    · rw [h1]
      have e : (i : Int).toNat = i := by omega
      rw [e]
      have n2 := numB_length i (by omega)
      refine ⟨_, _, rfl, List.append_assoc .., fun rest => ?_, by simp; omega, fun _ hb2 => by simp; omega⟩
      rw [List.append_assoc, apS_copy base rest [] target.length i (by omega) (by simp; omega) (by omega), if_neg (by omega), h3, List.nil_append]
  · rename_i hi
    have hpl : ∀ rest, apS base (numB (2 * target.length) ++ target ++ rest, false) [] = apS base (rest, false) target := by
      intro rest
      rw [List.append_assoc, apS_own base target rest [] (by omega) (by simpa using ht), List.nil_append]
    have hplen : (plainD target).length ≤ target.length + 16 := by unfold plainD; simp; omega
    split
    · refine ⟨_, numB (2 * target.length) ++ target, rfl, by unfold plainD; simp, hpl, hplen, ?_⟩
      rintro (h | h)
      · exact absurd h hi
      · exact absurd h h0
    · rename_i hlen
      have h1 := mkL_tells base target (numB target.length) (plcN base (rounds base.length)) ht (by omega) (fun k => (plc_all base k).2) target.length 0 0 (numB target.length) (Nat.le_refl _) (Nat.zero_le _)
        ⟨Nat.zero_le _, [], by simp, fun rest => by simp⟩
      have h2 := tells_flush base target (numB target.length) (madeL base target).1 (madeL base target).2 target.length ht h1 h1.1 (Nat.le_refl _)
      obtain ⟨_, steps, e, hs⟩ := h2
      refine ⟨_, steps, rfl, e, fun rest => ?_, by omega, ?_⟩
      · rw [hs, List.take_length]
      · rintro (h | h)
        · exact absurd h hi
        · exact absurd h h0

theorem make_applies (base target d : List UInt8) (ht : target.length ≤ 1048576) (hb : base.length ≤ 140737488351232) (h : makeD base target = .ok d) : applyD base d = .ok target := by
  obtain ⟨d', steps, h1, h2, h3, _⟩ := make_tells base target ht hb
  rw [h] at h1
  injection h1 with h1
  subst h1
  have := h3 []
  rw [List.append_nil] at this
  rw [h2, applyD_told _ _ _ ht, this, apS_none, apT, if_pos rfl]
end Go.Proofs.Ytifgaejmhaepoaa
