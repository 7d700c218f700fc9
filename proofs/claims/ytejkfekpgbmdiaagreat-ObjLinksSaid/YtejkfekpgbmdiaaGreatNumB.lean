/- Plain: the bits of a number's bytes. -/
import Derived.WalkKit
namespace Go.Proofs.YtejkfekpgbmdiaaGreat

theorem pow128 (i : Nat) : (2 : Nat) ^ (7 * i) = 128 ^ i := by rw [Nat.pow_mul]
theorem pow128_le (i : Nat) (hi : i < 9) : 128 ^ i ≤ 72057594037927936 := by
  have : i ≤ 8 := by omega
  calc 128 ^ i ≤ 128 ^ 8 := Nat.pow_le_pow_right (by decide) this
    _ = 72057594037927936 := by decide

theorem num_bits (b u i : Nat) (hb : b < 256) (hi : i < 9) (hu : u < 128 ^ i) :
    bits .or .u64 (u : Int) (IntKind.u64.wrap (IntKind.u64.wrap (bits .and .u8 (b : Int) 127) * 2 ^ (7 * i))) = ((u + b % 128 * 128 ^ i : Nat) : Int) := by
  have hp := pow128_le i hi
  have h1 : bits .and .u8 (b : Int) 127 = ((b % 128 : Nat) : Int) := by
    have := u8_and_nat b 127 hb (by decide)
    rw [nat_mask7] at this
    exact this
  rw [h1]
  have hm : b % 128 < 128 := Nat.mod_lt _ (by decide)
  have hmul : b % 128 * 128 ^ i ≤ 127 * 72057594037927936 := Nat.mul_le_mul (by omega) hp
  have h2 : IntKind.u64.wrap ((b % 128 : Nat) : Int) = ((b % 128 : Nat) : Int) := by rw [IntKind.wrap_u64]; omega
  rw [h2]
  have h3 : (((b % 128 : Nat) : Int) * 2 ^ (7 * i)) = ((b % 128 * 128 ^ i : Nat) : Int) := by
    rw [← pow128]; simp
  rw [h3]
  generalize hx : b % 128 * 128 ^ i = x at *
  have h4 : IntKind.u64.wrap (x : Int) = (x : Int) := by rw [IntKind.wrap_u64]; omega
  rw [h4, u64_or_nat u x (by omega) (by omega), Nat.or_comm, nat_join (7 * i) x u (by rw [pow128, ← hx]; exact Nat.mul_mod_left _ _) (by rw [pow128]; exact hu), Nat.add_comm]

theorem num_step (b u i : Nat) (hi : i < 9) (hu : u < 128 ^ i) : u + b % 128 * 128 ^ i < 128 ^ (i + 1) ∧ u + b % 128 * 128 ^ i ≤ 9223372036854775807 := by
  have hm : b % 128 < 128 := Nat.mod_lt _ (by decide)
  have hp := pow128_le i hi
  have h1 : b % 128 * 128 ^ i ≤ 127 * 128 ^ i := Nat.mul_le_mul_right _ (by omega)
  have h2 : 128 ^ (i + 1) = 128 * 128 ^ i := by rw [Nat.pow_succ, Nat.mul_comm]
  generalize 128 ^ i = q at *
  generalize b % 128 * q = x at *
  rw [h2]
  omega
end Go.Proofs.YtejkfekpgbmdiaaGreat
