/- Plain: numbers as bytes, what is read of them. Plain: the bits of a number's bytes. -/
import Derived.WalkKit
set_option linter.unusedVariables false
set_option linter.unusedSimpArgs false
namespace Go.Proofs.YtnkdnbjmhoegkaaGreat
def gnAux (most:Nat):Nat → Nat → List UInt8 → Option (Nat × List UInt8)
 | _,_,[]=>none
 | i,u,b :: t =>
  if 9 ≤ i then none else
  let u':=u + (b.toNat % 128) * 128 ^ i
  if 128 ≤ b.toNat then gnAux most (i + 1) u' t
  else if 4611686018427387904 < u' ∨ most < u' ∨ (b.toNat = 0 ∧ 0 < i) then none else some (u',t)
def getN (most:Nat) (l:List UInt8):Option (Nat × List UInt8):=gnAux most 0 0 l
abbrev RS:=List UInt8 × Bool
def rdNum (most:Nat) (s:RS):Nat × RS :=
 if s.2 then (0,([],true)) else
 match getN most s.1 with
 | none=>(0,([],true))
 | some (n,t)=>(n,(t,false))
theorem gnAux_le (most:Nat):∀ (l:List UInt8) (i u n:Nat) (t:List UInt8),gnAux most i u l = some (n,t) → n ≤ 4611686018427387904 ∧ n ≤ most ∧ t.length < l.length ∧ ∃ p,l = p ++ t:=by
 intro l
 induction l with
 | nil=>intro i u n t h;simp [gnAux] at h
 | cons b l ih =>
  intro i u n t h
  simp only [gnAux] at h
  split at h
  ·cases h
  ·split at h
   ·obtain ⟨h1,h2,h3,p,hp⟩:=ih _ _ _ _ h
    exact ⟨h1,h2,by simp;omega,b :: p,by simp [hp]⟩
   ·split at h
    ·cases h
    ·rename_i hc
     simp only [Option.some.injEq,Prod.mk.injEq] at h
     obtain ⟨rfl,rfl⟩:=h
     simp only [not_or] at hc
     exact ⟨by omega,by omega,by simp,[b],rfl⟩
theorem getN_le {most:Nat} {l t:List UInt8} {n:Nat} (h:getN most l = some (n,t)):n ≤ 4611686018427387904 ∧ n ≤ most ∧ t.length < l.length ∧ ∃ p,l = p ++ t:=gnAux_le most l 0 0 n t h
theorem rdNum_or {most:Nat} {s s':RS} {n:Nat} (h:rdNum most s = (n,s')) :
  (n = 0 ∧ s' = ([],true) ∧ (s.2 = true ∨ getN most s.1 = none)) ∨ (s.2 = false ∧ s'.2 = false ∧ getN most s.1 = some (n,s'.1) ∧ n ≤ most ∧ s'.1.length < s.1.length ∧ ∃ p,s.1 = p ++ s'.1):=by
 unfold rdNum at h
 split at h
 ·rename_i hb
  simp only [Prod.mk.injEq] at h
  exact .inl ⟨h.1.symm,h.2.symm,.inl hb⟩
 ·rename_i hb
  have hb':s.2 = false:=by simpa using hb
  cases hg:getN most s.1 with
  | none =>
   rw [hg] at h
   simp only [Prod.mk.injEq] at h
   exact .inl ⟨h.1.symm,h.2.symm,.inr rfl⟩
  | some x =>
   obtain ⟨m,t⟩:=x
   rw [hg] at h
   simp only [Prod.mk.injEq] at h
   obtain ⟨rfl,rfl⟩:=h
   have:=getN_le hg
   exact .inr ⟨hb',rfl,rfl,this.2.1,this.2.2.1,this.2.2.2⟩
def numB (n:Nat):List UInt8 :=
 if h:n < 128 then [UInt8.ofNat n] else UInt8.ofNat (n % 128 + 128) :: numB (n / 128)
termination_by n
decreasing_by omega
end Go.Proofs.YtnkdnbjmhoegkaaGreat
namespace Go.Proofs.YtnkdnbjmhoegkaaGreat
theorem pow128 (i:Nat):(2:Nat) ^ (7 * i) = 128 ^ i:=by rw [Nat.pow_mul]
theorem pow128_le (i:Nat) (hi:i < 9):128 ^ i ≤ 72057594037927936:=by
 have:i ≤ 8:=by omega
 calc 128 ^ i ≤ 128 ^ 8:=Nat.pow_le_pow_right (by decide) this
  _ = 72057594037927936:=by decide
theorem num_bits (b u i:Nat) (hb:b < 256) (hi:i < 9) (hu:u < 128 ^ i) :
  bits .or .u64 (u:Int) (IntKind.u64.wrap (IntKind.u64.wrap (bits .and .u8 (b:Int) 127) * 2 ^ (7 * i))) = ((u + b % 128 * 128 ^ i:Nat):Int):=by
 have hp:=pow128_le i hi
 have h1:bits .and .u8 (b:Int) 127 = ((b % 128:Nat):Int):=by
  have:=u8_and_nat b 127 hb (by decide)
  rw [nat_mask7] at this
  exact this
 rw [h1]
 have hm:b % 128 < 128:=Nat.mod_lt _ (by decide)
 have hmul:b % 128 * 128 ^ i ≤ 127 * 72057594037927936:=Nat.mul_le_mul (by omega) hp
 have h2:IntKind.u64.wrap ((b % 128:Nat):Int) = ((b % 128:Nat):Int):=by rw [IntKind.wrap_u64];omega
 rw [h2]
 have h3:(((b % 128:Nat):Int) * 2 ^ (7 * i)) = ((b % 128 * 128 ^ i:Nat):Int):=by
  rw [← pow128];simp
 rw [h3]
 generalize hx:b % 128 * 128 ^ i = x at *
 have h4:IntKind.u64.wrap (x:Int) = (x:Int):=by rw [IntKind.wrap_u64];omega
 rw [h4,u64_or_nat u x (by omega) (by omega),Nat.or_comm,nat_join (7 * i) x u (by rw [pow128,← hx];exact Nat.mul_mod_left _ _) (by rw [pow128];exact hu),Nat.add_comm]
theorem num_step (b u i:Nat) (hi:i < 9) (hu:u < 128 ^ i):u + b % 128 * 128 ^ i < 128 ^ (i + 1) ∧ u + b % 128 * 128 ^ i ≤ 9223372036854775807:=by
 have hm:b % 128 < 128:=Nat.mod_lt _ (by decide)
 have hp:=pow128_le i hi
 have h1:b % 128 * 128 ^ i ≤ 127 * 128 ^ i:=Nat.mul_le_mul_right _ (by omega)
 have h2:128 ^ (i + 1) = 128 * 128 ^ i:=by rw [Nat.pow_succ,Nat.mul_comm]
 generalize 128 ^ i = q at *
 generalize b % 128 * q = x at *
 rw [h2]
 omega
end Go.Proofs.YtnkdnbjmhoegkaaGreat
