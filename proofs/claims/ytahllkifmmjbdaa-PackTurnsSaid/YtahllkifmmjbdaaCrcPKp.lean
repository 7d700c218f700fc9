/- Plain: the sum of 32 bits (CRC): both ways of it are alike; a byte turned turns the sum. -/
import Derived.Test.YtahllkifmmjbdaaMemKp
set_option linter.unusedVariables false
set_option linter.unusedSimpArgs false
namespace Go.Proofs.Ytahllkifmmjbdaa
theorem xor_cr {a b c:Nat} (h:a ^^^ c = b ^^^ c):a = b:=by
 have:=congrArg (· ^^^ c) h
 simpa [Nat.xor_assoc] using this
theorem xor_cl {a b c:Nat} (h:c ^^^ a = c ^^^ b):a = b:=xor_cr (by rw [Nat.xor_comm a c,Nat.xor_comm b c];exact h)
def bitC (s:Nat):Nat:=if s % 2 = 1 then s / 2 ^^^ 3988292384 else s / 2
def bitsC:Nat → Nat → Nat
 | 0,s=>s
 | k + 1,s=>bitsC k (bitC s)
def byteC (s:Nat) (c:UInt8):Nat:=bitsC 8 (s ^^^ c.toNat)
def runC (s:Nat) (l:List UInt8):Nat:=l.foldl byteC s
def crcC (l:List UInt8):Nat:=runC 4294967295 l ^^^ 4294967295
theorem xor_lt32 {a b:Nat} (ha:a < 4294967296) (hb:b < 4294967296):a ^^^ b < 4294967296:=Nat.xor_lt_two_pow (n:=32) ha hb
theorem bitC_lt {s:Nat} (h:s < 4294967296):bitC s < 4294967296:=by
 unfold bitC
 split
 ·exact xor_lt32 (by omega) (by decide)
 ·omega
theorem bitsC_lt:∀ (k:Nat) {s:Nat},s < 4294967296 → bitsC k s < 4294967296
 | 0,_,h=>h
 | k + 1,_,h=>bitsC_lt k (bitC_lt h)
theorem byteC_lt {s:Nat} (h:s < 4294967296) (c:UInt8):byteC s c < 4294967296:=bitsC_lt 8 (xor_lt32 h (by have:=UInt8.toNat_lt c;omega))
theorem runC_lt:∀ (l:List UInt8) {s:Nat},s < 4294967296 → runC s l < 4294967296
 | [],_,h=>h
 | c :: l,_,h=>runC_lt l (byteC_lt h c)
theorem crcC_lt (l:List UInt8):crcC l < 4294967296:=xor_lt32 (runC_lt l (by decide)) (by decide)
theorem bitsC_snoc:∀ (k s:Nat),bitsC (k + 1) s = bitC (bitsC k s)
 | 0,_=>rfl
 | k + 1,s=>bitsC_snoc k (bitC s)
theorem high_xor (x:Nat) (h:x < 2147483648):2147483648 ≤ x ^^^ 3988292384:=by
 have h1:(x ^^^ 3988292384).testBit 31 = true:=by
  rw [Nat.testBit_xor,Nat.testBit_lt_two_pow (x:=x) (i:=31) h]
  decide
 exact Nat.ge_two_pow_of_testBit h1
theorem bitC_inj {s t:Nat} (hs:s < 4294967296) (ht:t < 4294967296) (h:bitC s = bitC t):s = t:=by
 unfold bitC at h
 have a1:=high_xor (s / 2) (by omega)
 have a2:=high_xor (t / 2) (by omega)
 by_cases c1:s % 2 = 1 <;> by_cases c2:t % 2 = 1
 ·rw [if_pos c1,if_pos c2] at h
  have:=xor_cr h
  omega
 ·rw [if_pos c1,if_neg c2] at h;omega
 ·rw [if_neg c1,if_pos c2] at h;omega
 ·rw [if_neg c1,if_neg c2] at h;omega
theorem bitsC_inj:∀ (k:Nat) {s t:Nat},s < 4294967296 → t < 4294967296 → bitsC k s = bitsC k t → s = t
 | 0,_,_,_,_,h=>h
 | k + 1,_,_,hs,ht,h=>bitC_inj hs ht (bitsC_inj k (bitC_lt hs) (bitC_lt ht) h)
theorem byteC_inj {s t:Nat} (hs:s < 4294967296) (ht:t < 4294967296) {c d:UInt8} (h:byteC s c = byteC t d):s ^^^ c.toNat = t ^^^ d.toNat :=
 bitsC_inj 8 (xor_lt32 hs (by have:=UInt8.toNat_lt c;omega)) (xor_lt32 ht (by have:=UInt8.toNat_lt d;omega)) h
theorem runC_inj:∀ (l:List UInt8) {s t:Nat},s < 4294967296 → t < 4294967296 → runC s l = runC t l → s = t
 | [],_,_,_,_,h=>h
 | c :: l,_,_,hs,ht,h=>xor_cr (byteC_inj hs ht (runC_inj l (byteC_lt hs c) (byteC_lt ht c) h))
theorem runC_app (l m:List UInt8) (s:Nat):runC s (l ++ m) = runC (runC s l) m:=List.foldl_append
theorem crcC_turn (l m:List UInt8) (x y:UInt8) (h:crcC (l ++ x :: m) = crcC (l ++ y :: m)):x = y:=by
 unfold crcC at h
 have h1:=xor_cr h
 rw [runC_app,runC_app] at h1
 have hl:=runC_lt l (show 4294967295 < 4294967296 by decide)
 have h2:byteC (runC 4294967295 l) x = byteC (runC 4294967295 l) y:=runC_inj m (byteC_lt hl x) (byteC_lt hl y) h1
 have h3:=xor_cl (byteC_inj hl hl h2)
 exact UInt8.toNat_inj.1 h3
def fourC (n:Nat):List UInt8:=[UInt8.ofNat n,UInt8.ofNat (n / 256),UInt8.ofNat (n / 65536),UInt8.ofNat (n / 16777216)]
def unfour (l:List UInt8):Nat:=(l.getD 0 0).toNat + (l.getD 1 0).toNat * 256 + (l.getD 2 0).toNat * 65536 + (l.getD 3 0).toNat * 16777216
theorem unfour_four {n:Nat} (h:n < 4294967296):unfour (fourC n) = n:=by
 unfold unfour fourC
 simp only [List.getD_cons_zero,List.getD_cons_succ,UInt8.toNat_ofNat']
 omega
theorem unfour_inj {l m:List UInt8} (hl:l.length = 4) (hm:m.length = 4) (h:unfour l = unfour m):l = m:=by
 match l,hl,m,hm with
 | [a,b,c,d],_,[a',b',c',d'],_ =>
  unfold unfour at h
  simp only [List.getD_cons_zero,List.getD_cons_succ] at h
  have:=UInt8.toNat_lt a;have:=UInt8.toNat_lt b;have:=UInt8.toNat_lt c;have:=UInt8.toNat_lt d
  have:=UInt8.toNat_lt a';have:=UInt8.toNat_lt b';have:=UInt8.toNat_lt c';have:=UInt8.toNat_lt d'
  obtain rfl:a = a':=UInt8.toNat_inj.1 (by omega)
  obtain rfl:b = b':=UInt8.toNat_inj.1 (by omega)
  obtain rfl:c = c':=UInt8.toNat_inj.1 (by omega)
  obtain rfl:d = d':=UInt8.toNat_inj.1 (by omega)
  rfl
def sealC (l:List UInt8):List UInt8:=l ++ fourC (crcC l)
def fitC (l:List UInt8):Prop:=4 ≤ l.length ∧ unfour (l.drop (l.length - 4)) = crcC (l.take (l.length - 4))
theorem fit_seal {l:List UInt8} (h:fitC l):sealC (l.take (l.length - 4)) = l:=by
 unfold sealC
 rw [← h.2]
 have h1:fourC (unfour (l.drop (l.length - 4))) = l.drop (l.length - 4):=by
  refine unfour_inj rfl (by rw [List.length_drop];have:=h.1;omega) (unfour_four ?_)
  rw [h.2];exact crcC_lt _
 rw [h1,List.take_append_drop]
theorem turn_unfit {l:List UInt8} {i:Nat} (hi:i < l.length) (hf:fitC l) {y:UInt8} (hy:l[i] ≠ y):¬ fitC (l.set i y):=by
 intro hg
 obtain ⟨h1,h2⟩:=hf
 obtain ⟨_,h4⟩:=hg
 rw [List.length_set] at h4
 by_cases hc:i < l.length - 4
 ·rw [List.drop_set_of_lt hc,h2,List.take_set] at h4
  have hlt:i < (l.take (l.length - 4)).length:=by rw [List.length_take];omega
  have e1:l.take (l.length - 4) = (l.take (l.length - 4)).take i ++ l[i] :: (l.take (l.length - 4)).drop (i + 1):=by
   have h5:(l.take (l.length - 4))[i] = l[i]:=List.getElem_take
   rw [← h5,List.getElem_cons_drop,List.take_append_drop]
  have e2:(l.take (l.length - 4)).set i y = (l.take (l.length - 4)).take i ++ y :: (l.take (l.length - 4)).drop (i + 1):=List.set_eq_take_append_cons_drop .. |>.trans (if_pos hlt)
  rw [e2] at h4
  exact hy (crcC_turn _ _ _ _ ((congrArg crcC e1.symm).trans h4))
 ·rw [List.take_set_of_le (by omega),← h2] at h4
  have h5:=unfour_inj (by rw [List.length_drop,List.length_set];omega) (by rw [List.length_drop];omega) h4
  have h6:((l.set i y).drop (l.length - 4))[i - (l.length - 4)]? = (l.drop (l.length - 4))[i - (l.length - 4)]?:=by rw [h5]
  rw [List.getElem?_drop,List.getElem?_drop,show l.length - 4 + (i - (l.length - 4)) = i by omega,List.getElem?_set_self hi,List.getElem?_eq_getElem hi] at h6
  exact hy (Option.some.inj h6).symm
theorem seal_fit (l:List UInt8):fitC (sealC l):=by
 have h4:(fourC (crcC l)).length = 4:=rfl
 have hl:(sealC l).length = l.length + 4:=by unfold sealC;rw [List.length_append,h4]
 refine ⟨by omega,?_⟩
 rw [hl,Nat.add_sub_cancel]
 unfold sealC
 rw [List.drop_left,List.take_left,unfour_four (crcC_lt l)]
def rbitC (s b k:Nat):Nat:=if (s % 2 = 1) = (b / 2 ^ k % 2 = 1) then s / 2 else s / 2 ^^^ 3988292384
def rbitsC (b:Nat):Nat → Nat → Nat
 | 0,s=>s
 | k + 1,s=>rbitC (rbitsC b k s) b k
theorem xor_mod2 (a b:Nat):(a ^^^ b) % 2 = (a + b) % 2:=by
 have h:=Nat.xor_mod_two_pow (a:=a) (b:=b) (n:=1)
 simp only [Nat.pow_one] at h
 rw [h,Nat.add_mod]
 rcases Nat.mod_two_eq_zero_or_one a with ha | ha <;> rcases Nat.mod_two_eq_zero_or_one b with hb | hb <;> rw [ha,hb] <;> rfl
theorem xor_div2 (a b:Nat):(a ^^^ b) / 2 = a / 2 ^^^ b / 2:=by
 have:=Nat.xor_div_two (a:=a) (b:=b)
 exact this
theorem rbits_eq (b s:Nat):∀ k,bitsC k (s ^^^ b) = rbitsC b k s ^^^ b / 2 ^ k
 | 0=>by simp [bitsC,rbitsC]
 | k + 1=>by
  rw [bitsC_snoc,rbits_eq b s k,rbitsC]
  unfold bitC rbitC
  have e:b / 2 ^ (k + 1) = b / 2 ^ k / 2:=by rw [Nat.pow_succ,Nat.div_div_eq_div_mul]
  rw [xor_mod2,xor_div2,e]
  generalize rbitsC b k s = r
  generalize b / 2 ^ k = c
  by_cases h1:r % 2 = 1 <;> by_cases h2:c % 2 = 1
  ·rw [if_neg (by omega),if_pos (by simp [h1,h2])]
  ·rw [if_pos (by omega),if_neg (by simp [h1,h2])]
   rw [Nat.xor_assoc,Nat.xor_assoc,Nat.xor_comm (c / 2)]
  ·rw [if_pos (by omega),if_neg (by simp [h1,h2])]
   rw [Nat.xor_assoc,Nat.xor_assoc,Nat.xor_comm (c / 2)]
  ·rw [if_neg (by omega),if_pos (by simp [h1,h2])]
theorem rbyte_eq (s:Nat) (c:UInt8):rbitsC c.toNat 8 s = byteC s c:=by
 unfold byteC
 rw [rbits_eq]
 have:c.toNat / 2 ^ 8 = 0:=Nat.div_eq_of_lt (UInt8.toNat_lt c)
 rw [this,Nat.xor_zero]
end Go.Proofs.Ytahllkifmmjbdaa
