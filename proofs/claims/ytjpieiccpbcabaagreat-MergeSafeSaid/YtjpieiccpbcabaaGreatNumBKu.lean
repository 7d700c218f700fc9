/- Plain: numbers as bytes, what is read of them. Plain: the bits of a number's bytes. -/
import Derived.WalkKit
set_option linter.unusedVariables false
set_option linter.unusedSimpArgs false
namespace Go.Proofs.YtjpieiccpbcabaaGreat
def gnAux (most:Nat):Nat → Nat → List UInt8 → Option (Nat × List UInt8)
 | _,_,[]=>none
 | i,u,b :: t =>
  if 9 ≤ i then none else
  let u':=u + (b.toNat % 128) * 128 ^ i
  if 128 ≤ b.toNat then gnAux most (i + 1) u' t
  else if 4611686018427387904 < u' ∨ most < u' ∨ (b.toNat = 0 ∧ 0 < i) then none else some (u',t)
abbrev RS:=List UInt8 × Bool
def numB (n:Nat):List UInt8 :=
 if h:n < 128 then [UInt8.ofNat n] else UInt8.ofNat (n % 128 + 128) :: numB (n / 128)
termination_by n
decreasing_by omega
end Go.Proofs.YtjpieiccpbcabaaGreat
namespace Go.Proofs.YtjpieiccpbcabaaGreat
end Go.Proofs.YtjpieiccpbcabaaGreat
