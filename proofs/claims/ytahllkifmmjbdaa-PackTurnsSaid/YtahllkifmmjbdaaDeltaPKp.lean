/- Plain: numbers as bytes, what is read of them. Plain: the bits of a number's bytes. Plain: what comes out of a delta. -/
import Derived.WalkKit
set_option linter.unusedVariables false
set_option linter.unusedSimpArgs false
namespace Go.Proofs.Ytahllkifmmjbdaa
def gnAux (most:Nat):Nat → Nat → List UInt8 → Option (Nat × List UInt8)
 | _,_,[]=>none
 | i,u,b :: t =>
  if 9 ≤ i then none else
  let u':=u + (b.toNat % 128) * 128 ^ i
  if 128 ≤ b.toNat then gnAux most (i + 1) u' t
  else if 4611686018427387904 < u' ∨ most < u' ∨ (b.toNat = 0 ∧ 0 < i) then none else some (u',t)
def getN (most:Nat) (l:List UInt8):Option (Nat × List UInt8):=gnAux most 0 0 l
abbrev RS:=List UInt8 × Bool
def rdNum (most:Nat) (s:RS):Nat × RS :=
 if s.2 then (0,([],true)) else
 match getN most s.1 with
 | none=>(0,([],true))
 | some (n,t)=>(n,(t,false))
theorem gnAux_le (most:Nat):∀ (l:List UInt8) (i u n:Nat) (t:List UInt8),gnAux most i u l = some (n,t) → n ≤ 4611686018427387904 ∧ n ≤ most ∧ t.length < l.length ∧ ∃ p,l = p ++ t:=by
 intro l
 induction l with
 | nil=>intro i u n t h;simp [gnAux] at h
 | cons b l ih =>
  intro i u n t h
  simp only [gnAux] at h
  split at h
  ·cases h
  ·split at h
   ·obtain ⟨h1,h2,h3,p,hp⟩:=ih _ _ _ _ h
    exact ⟨h1,h2,by simp;omega,b :: p,by simp [hp]⟩
   ·split at h
    ·cases h
    ·rename_i hc
     simp only [Option.some.injEq,Prod.mk.injEq] at h
     obtain ⟨rfl,rfl⟩:=h
     simp only [not_or] at hc
     exact ⟨by omega,by omega,by simp,[b],rfl⟩
theorem getN_le {most:Nat} {l t:List UInt8} {n:Nat} (h:getN most l = some (n,t)):n ≤ 4611686018427387904 ∧ n ≤ most ∧ t.length < l.length ∧ ∃ p,l = p ++ t:=gnAux_le most l 0 0 n t h
theorem rdNum_or {most:Nat} {s s':RS} {n:Nat} (h:rdNum most s = (n,s')) :
  (n = 0 ∧ s' = ([],true) ∧ (s.2 = true ∨ getN most s.1 = none)) ∨ (s.2 = false ∧ s'.2 = false ∧ getN most s.1 = some (n,s'.1) ∧ n ≤ most ∧ s'.1.length < s.1.length ∧ ∃ p,s.1 = p ++ s'.1):=by
 unfold rdNum at h
 split at h
 ·rename_i hb
  simp only [Prod.mk.injEq] at h
  exact .inl ⟨h.1.symm,h.2.symm,.inl hb⟩
 ·rename_i hb
  have hb':s.2 = false:=by simpa using hb
  cases hg:getN most s.1 with
  | none =>
   rw [hg] at h
   simp only [Prod.mk.injEq] at h
   exact .inl ⟨h.1.symm,h.2.symm,.inr rfl⟩
  | some x =>
   obtain ⟨m,t⟩:=x
   rw [hg] at h
   simp only [Prod.mk.injEq] at h
   obtain ⟨rfl,rfl⟩:=h
   have:=getN_le hg
   exact .inr ⟨hb',rfl,rfl,this.2.1,this.2.2.1,this.2.2.2⟩
def numB (n:Nat):List UInt8 :=
 if h:n < 128 then [UInt8.ofNat n] else UInt8.ofNat (n % 128 + 128) :: numB (n / 128)
termination_by n
decreasing_by omega
end Go.Proofs.Ytahllkifmmjbdaa
namespace Go.Proofs.Ytahllkifmmjbdaa
theorem pow128 (i:Nat):(2:Nat) ^ (7 * i) = 128 ^ i:=by rw [Nat.pow_mul]
theorem pow128_le (i:Nat) (hi:i < 9):128 ^ i ≤ 72057594037927936:=by
 have:i ≤ 8:=by omega
 calc 128 ^ i ≤ 128 ^ 8:=Nat.pow_le_pow_right (by decide) this
  _ = 72057594037927936:=by decide
theorem num_bits (b u i:Nat) (hb:b < 256) (hi:i < 9) (hu:u < 128 ^ i) :
  bits .or .u64 (u:Int) (IntKind.u64.wrap (IntKind.u64.wrap (bits .and .u8 (b:Int) 127) * 2 ^ (7 * i))) = ((u + b % 128 * 128 ^ i:Nat):Int):=by
 have hp:=pow128_le i hi
 have h1:bits .and .u8 (b:Int) 127 = ((b % 128:Nat):Int):=by
  have:=u8_and_nat b 127 hb (by decide)
  rw [nat_mask7] at this
  exact this
 rw [h1]
 have hm:b % 128 < 128:=Nat.mod_lt _ (by decide)
 have hmul:b % 128 * 128 ^ i ≤ 127 * 72057594037927936:=Nat.mul_le_mul (by omega) hp
 have h2:IntKind.u64.wrap ((b % 128:Nat):Int) = ((b % 128:Nat):Int):=by rw [IntKind.wrap_u64];omega
 rw [h2]
 have h3:(((b % 128:Nat):Int) * 2 ^ (7 * i)) = ((b % 128 * 128 ^ i:Nat):Int):=by
  rw [← pow128];simp
 rw [h3]
 generalize hx:b % 128 * 128 ^ i = x at *
 have h4:IntKind.u64.wrap (x:Int) = (x:Int):=by rw [IntKind.wrap_u64];omega
 rw [h4,u64_or_nat u x (by omega) (by omega),Nat.or_comm,nat_join (7 * i) x u (by rw [pow128,← hx];exact Nat.mul_mod_left _ _) (by rw [pow128];exact hu),Nat.add_comm]
theorem num_step (b u i:Nat) (hi:i < 9) (hu:u < 128 ^ i):u + b % 128 * 128 ^ i < 128 ^ (i + 1) ∧ u + b % 128 * 128 ^ i ≤ 9223372036854775807:=by
 have hm:b % 128 < 128:=Nat.mod_lt _ (by decide)
 have hp:=pow128_le i hi
 have h1:b % 128 * 128 ^ i ≤ 127 * 128 ^ i:=Nat.mul_le_mul_right _ (by omega)
 have h2:128 ^ (i + 1) = 128 * 128 ^ i:=by rw [Nat.pow_succ,Nat.mul_comm]
 generalize 128 ^ i = q at *
 generalize b % 128 * q = x at *
 rw [h2]
 omega
end Go.Proofs.Ytahllkifmmjbdaa
namespace Go.Proofs.Ytahllkifmmjbdaa
def applyL (base:List UInt8):Nat → List UInt8 → List UInt8 → Except Nat (List UInt8)
 | 0,_,out=>.ok out
 | f + 1,l,out =>
  if l = [] then .ok out else
  match getN 4611686018427387904 l with
  | none=>.error 20
  | some (n,t) =>
   if n / 2 < 1 ∨ 1048576 < n / 2 + out.length then .error 20 else
   if n % 2 = 0 then
    if t.length < n / 2 then .error 20 else applyL base f (t.drop (n / 2)) (out ++ t.take (n / 2))
   else
    match getN 4611686018427387904 t with
    | none=>.error 20
    | some (o,t') =>
     if base.length < o + n / 2 then .error 70 else applyL base f t' (out ++ (base.drop o).take (n / 2))
def applyD (base d:List UInt8):Except Nat (List UInt8) :=
 match getN 1048576 d with
 | none=>.error 20
 | some (told,r) =>
  match applyL base (r.length + 1) r [] with
  | .error e=>.error e
  | .ok out=>if out.length = told then .ok out else .error 20
def resB:Except Nat (List UInt8) → List UInt8
 | .ok l=>l
 | .error _=>[]
def resE:Except Nat (List UInt8) → Nat
 | .ok _=>0
 | .error e=>e
theorem applyL_fuel (base:List UInt8):∀ (f g:Nat) (l out:List UInt8),l.length < f → l.length < g → applyL base f l out = applyL base g l out:=by
 intro f
 induction f with
 | zero=>intro g l out h;omega
 | succ f ih =>
  intro g l out hf hg
  cases g with
  | zero=>omega
  | succ g =>
   simp only [applyL]
   by_cases h0:l = []
   ·simp [h0]
   ·rw [if_neg h0,if_neg h0]
    cases h1:getN 4611686018427387904 l with
    | none=>rfl
    | some x =>
     obtain ⟨n,t⟩:=x
     have hl:=(getN_le h1).2.2.1
     simp only
     split
     ·rfl
     ·split
      ·split
       ·rfl
       ·exact ih _ _ _ (by simp;omega) (by simp;omega)
      ·cases h2:getN 4611686018427387904 t with
       | none=>rfl
       | some y =>
        obtain ⟨o,t'⟩:=y
        have hl':=(getN_le h2).2.2.1
        simp only
        split
        ·rfl
        ·exact ih _ _ _ (by omega) (by omega)
theorem applyL_out (base:List UInt8):∀ (f:Nat) (l out r:List UInt8),applyL base f l out = .ok r → out.length ≤ 1048576 → r.length ≤ 1048576:=by
 intro f
 induction f with
 | zero=>intro l out r h hl;simp only [applyL] at h;injection h with h;subst h;exact hl
 | succ f ih =>
  intro l out r h hl
  simp only [applyL] at h
  split at h
  ·injection h with h;subst h;exact hl
  ·split at h
   ·cases h
   ·split at h
    ·cases h
    ·rename_i hb
     split at h
     ·split at h
      ·cases h
      ·exact ih _ _ _ h (by simp;omega)
     ·split at h
      ·cases h
      ·split at h
       ·cases h
       ·exact ih _ _ _ h (by simp;omega)
def apS (base:List UInt8) (s:RS) (out:List UInt8):Except Nat (List UInt8):=if s.2 then .error 20 else applyL base (s.1.length + 1) s.1 out
def apT (told:Nat) (r:Except Nat (List UInt8)):Except Nat (List UInt8) :=
 match r with
 | .error e=>.error e
 | .ok out=>if out.length = told then .ok out else .error 20
theorem applyD_eq (base d:List UInt8):applyD base d = apT (rdNum 1048576 (d,false)).1 (apS base (rdNum 1048576 (d,false)).2 []):=by
 unfold applyD rdNum
 simp only [Bool.false_eq_true,if_false]
 cases getN 1048576 d with
 | none=>simp [apS,apT]
 | some x =>
  obtain ⟨n,t⟩:=x
  simp only [apS,apT,Bool.false_eq_true,if_false]
  try (cases applyL base (t.length + 1) t [] <;> rfl)
theorem apS_step (base l out:List UInt8) (hl:l ≠ []):apS base (l,false) out =
  match getN 4611686018427387904 l with
  | none=>.error 20
  | some (n,t) =>
   if n / 2 < 1 ∨ 1048576 < n / 2 + out.length then .error 20 else
   if n % 2 = 0 then
    if t.length < n / 2 then .error 20 else apS base (t.drop (n / 2),false) (out ++ t.take (n / 2))
   else
    match getN 4611686018427387904 t with
    | none=>.error 20
    | some (o,t') =>
     if base.length < o + n / 2 then .error 70 else apS base (t',false) (out ++ (base.drop o).take (n / 2)):=by
 simp only [apS,Bool.false_eq_true,if_false,applyL,if_neg hl]
 cases h1:getN 4611686018427387904 l with
 | none=>rfl
 | some x =>
  obtain ⟨n,t⟩:=x
  have hl:=(getN_le h1).2.2.1
  simp only
  split
  ·rfl
  ·split
   ·split
    ·rfl
    ·exact applyL_fuel base l.length _ _ _ (by simp only [List.length_drop];omega) (Nat.lt_succ_self _)
   ·cases h2:getN 4611686018427387904 t with
    | none=>rfl
    | some y =>
     obtain ⟨o,t'⟩:=y
     have hl':=(getN_le h2).2.2.1
     simp only
     split
     ·rfl
     ·exact applyL_fuel base l.length _ _ _ (by omega) (Nat.lt_succ_self _)
theorem apS_nil (base out:List UInt8):apS base ([],false) out = .ok out:=rfl
end Go.Proofs.Ytahllkifmmjbdaa
