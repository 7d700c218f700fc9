/- Plain: SHA-256, on numbers. Plain: a text's blocks, those of its beginning first. Contracts: pollardref01 right, blocked. -/
import Derived.Test.YtahllkifmmjbdaaMemKp
import Derived.Test.YtahllkifmmjbdaaDagQKp
import Derived.Laws.Bits64b
import Derived.Shelf.Spec.TrailingZeros
set_option linter.unusedVariables false
set_option linter.unusedSimpArgs false
namespace Go.Proofs.Ytahllkifmmjbdaa
def a32H (a b:Nat):Nat:=(a + b) % 4294967296
def rtH (n x:Nat):Nat:=x / 2 ^ n ||| x * 2 ^ (32 - n) % 4294967296
def g0H (x:Nat):Nat:=rtH 7 x ^^^ rtH 18 x ^^^ x / 8
def g1H (x:Nat):Nat:=rtH 17 x ^^^ rtH 19 x ^^^ x / 1024
def nxH (w:List Nat) (i:Nat):Nat:=a32H (a32H (a32H (g1H (w.getD (i - 2) 0)) (w.getD (i - 7) 0)) (g0H (w.getD (i - 15) 0))) (w.getD (i - 16) 0)
def exH:Nat → Nat → List Nat → List Nat
 | 0,_,w=>w
 | k + 1,i,w=>exH k (i + 1) (w ++ [nxH w i])
structure S8H where
 a:Nat
 b:Nat
 c:Nat
 d:Nat
 e:Nat
 f:Nat
 g:Nat
 x:Nat
def t1H (s:S8H) (k w:Nat):Nat:=a32H (a32H (a32H (a32H s.x (rtH 6 s.e ^^^ rtH 11 s.e ^^^ rtH 25 s.e)) (s.e &&& s.f ^^^ (4294967295 ^^^ s.e) &&& s.g)) k) w
def t2H (s:S8H):Nat:=a32H (rtH 2 s.a ^^^ rtH 13 s.a ^^^ rtH 22 s.a) (s.a &&& s.b ^^^ s.a &&& s.c ^^^ s.b &&& s.c)
def rdH (s:S8H) (k w:Nat):S8H:=⟨a32H (t1H s k w) (t2H s),s.a,s.b,s.c,a32H s.d (t1H s k w),s.e,s.f,s.g⟩
def rsH:Nat → Nat → List Nat → List Nat → S8H → S8H
 | 0,_,_,_,s=>s
 | n + 1,i,ks,ws,s=>rsH n (i + 1) ks ws (rdH s (ks.getD i 0) (ws.getD i 0))
def wdH (l:List UInt8) (p:Nat):Nat:=a32H (a32H (a32H ((l.getD p 0).toNat * 16777216) ((l.getD (p + 1) 0).toNat * 65536)) ((l.getD (p + 2) 0).toNat * 256)) (l.getD (p + 3) 0).toNat
def w16H (l:List UInt8) (at_:Nat):Nat → List Nat
 | 0=>[]
 | n + 1=>w16H l at_ n ++ [wdH l (at_ + 4 * n)]
def s8H (h:List Nat):S8H:=⟨h.getD 0 0,h.getD 1 0,h.getD 2 0,h.getD 3 0,h.getD 4 0,h.getD 5 0,h.getD 6 0,h.getD 7 0⟩
def adH (h:List Nat) (s:S8H):List Nat:=[a32H (h.getD 0 0) s.a,a32H (h.getD 1 0) s.b,a32H (h.getD 2 0) s.c,a32H (h.getD 3 0) s.d,a32H (h.getD 4 0) s.e,a32H (h.getD 5 0) s.f,a32H (h.getD 6 0) s.g,a32H (h.getD 7 0) s.x]
def bkH (ks:List Nat) (l:List UInt8) (at_:Nat) (h:List Nat):List Nat:=adH h (rsH 64 0 ks (exH 48 16 (w16H l at_ 16)) (s8H h))
def bksH (ks:List Nat) (l:List UInt8):Nat → Nat → List Nat → List Nat
 | 0,_,h=>h
 | n + 1,at_,h=>bksH ks l n (at_ + 64) (bkH ks l at_ h)
def be8H (n:Nat):Nat → List UInt8
 | 0=>[]
 | k + 1=>be8H n k ++ [UInt8.ofNat (n / 2 ^ (56 - 8 * k))]
def padH (b:List UInt8):List UInt8:=b ++ 128 :: List.replicate ((119 - b.length % 64) % 64) 0 ++ be8H (b.length * 8) 8
def btH (h:List Nat) (i:Nat):UInt8:=UInt8.ofNat (h.getD (i / 4) 0 / 2 ^ (24 - 8 * (i % 4)))
def outH (h:List Nat):Nat → List UInt8
 | 0=>[]
 | k + 1=>outH h k ++ [btH h k]
def fstH:List Nat:=[0x6a09e667,0xbb67ae85,0x3c6ef372,0xa54ff53a,0x510e527f,0x9b05688c,0x1f83d9ab,0x5be0cd19]
def rdsH:List Nat:=[
 0x428a2f98,0x71374491,0xb5c0fbcf,0xe9b5dba5,0x3956c25b,0x59f111f1,0x923f82a4,0xab1c5ed5,0xd807aa98,0x12835b01,0x243185be,0x550c7dc3,0x72be5d74,0x80deb1fe,0x9bdc06a7,0xc19bf174,
 0xe49b69c1,0xefbe4786,0x0fc19dc6,0x240ca1cc,0x2de92c6f,0x4a7484aa,0x5cb0a9dc,0x76f988da,0x983e5152,0xa831c66d,0xb00327c8,0xbf597fc7,0xc6e00bf3,0xd5a79147,0x06ca6351,0x14292967,
 0x27b70a85,0x2e1b2138,0x4d2c6dfc,0x53380d13,0x650a7354,0x766a0abb,0x81c2c92e,0x92722c85,0xa2bfe8a1,0xa81a664b,0xc24b8b70,0xc76c51a3,0xd192e819,0xd6990624,0xf40e3585,0x106aa070,
 0x19a4c116,0x1e376c08,0x2748774c,0x34b0bcb5,0x391c0cb3,0x4ed8aa4a,0x5b9cca4f,0x682e6ff3,0x748f82ee,0x78a5636f,0x84c87814,0x8cc70208,0x90befffa,0xa4506ceb,0xbef9a3f7,0xc67178f2]
theorem outH_len (h:List Nat):∀ k,(outH h k).length = k
 | 0=>rfl
 | k + 1=>by rw [outH,List.length_append,outH_len h k];rfl
theorem be8H_len (n:Nat):∀ k,(be8H n k).length = k
 | 0=>rfl
 | k + 1=>by rw [be8H,List.length_append,be8H_len n k];rfl
theorem w16H_len (l:List UInt8) (p:Nat):∀ k,(w16H l p k).length = k
 | 0=>rfl
 | k + 1=>by rw [w16H,List.length_append,w16H_len l p k];rfl
def sumH (b:List UInt8):List Nat:=bksH rdsH (padH b) ((padH b).length / 64) 0 fstH
def nameH (b:List UInt8):ID:=⟨outH (sumH b) 32,outH_len _ 32⟩
theorem padH_len (b:List UInt8):(padH b).length % 64 = 0:=by
 unfold padH
 rw [List.length_append,List.length_append,be8H_len,List.length_cons,List.length_replicate]
 omega
theorem bksH_snoc (ks:List Nat) (l:List UInt8):∀ (n at_:Nat) (h:List Nat),bksH ks l (n + 1) at_ h = bkH ks l (at_ + 64 * n) (bksH ks l n at_ h)
 | 0,at_,h=>rfl
 | n + 1,at_,h=>by
  rw [bksH,bksH_snoc ks l n,bksH]
  congr 1
  omega
theorem w16H_eq {l l':List UInt8} {at_:Nat} (h:∀ p,p < 64 → l'.getD p 0 = l.getD (at_ + p) 0):∀ n,n ≤ 16 → w16H l' 0 n = w16H l at_ n
 | 0,_=>rfl
 | n + 1,hn=>by
  rw [w16H,w16H,w16H_eq h n (by omega)]
  unfold wdH
  rw [h _ (by omega),h _ (by omega),h _ (by omega),h _ (by omega)]
  simp only [Nat.zero_add,Nat.add_assoc]
theorem bkH_eq {ks:List Nat} {l l':List UInt8} {at_:Nat} (h:∀ p,p < 64 → l'.getD p 0 = l.getD (at_ + p) 0) (s:List Nat):bkH ks l' 0 s = bkH ks l at_ s:=by
 unfold bkH
 rw [w16H_eq h 16 (Nat.le_refl _)]
def padT (r:List UInt8) (N:Nat):List UInt8:=r ++ 128 :: List.replicate ((119 - r.length % 64) % 64) 0 ++ be8H N 8
theorem padH_split (b:List UInt8) {q:Nat} (hq:q = b.length / 64):padH b = b.take (64 * q) ++ padT (b.drop (64 * q)) (b.length * 8):=by
 unfold padH padT
 have:(b.drop (64 * q)).length % 64 = b.length % 64:=by rw [List.length_drop];omega
 rw [this,← List.append_assoc,← List.append_assoc,List.take_append_drop]
theorem getD_drop (l:List UInt8) (k p:Nat):(l.drop k).getD p 0 = l.getD (k + p) 0:=by
 rw [List.getD_eq_getElem?_getD,List.getD_eq_getElem?_getD,List.getElem?_drop]
theorem getD_left {l m:List UInt8} {p:Nat} (h:p < l.length):(l ++ m).getD p 0 = l.getD p 0:=by
 rw [List.getD_eq_getElem?_getD,List.getD_eq_getElem?_getD,List.getElem?_append_left h]
theorem getD_right {l m:List UInt8} {p:Nat}:(l ++ m).getD (l.length + p) 0 = m.getD p 0:=by
 rw [List.getD_eq_getElem?_getD,List.getD_eq_getElem?_getD,List.getElem?_append_right (by omega)]
 congr 2
 omega
def hsJ (b:List UInt8) (j:Nat):List Nat:=bksH rdsH (padH b) j 0 fstH
theorem hsJ_head (b:List UInt8) (j:Nat) (h:64 * j + 64 ≤ b.length):hsJ b (j + 1) = bkH rdsH (b.drop (64 * j)) 0 (hsJ b j):=by
 unfold hsJ
 rw [bksH_snoc,Nat.zero_add]
 refine (bkH_eq (fun p hp=>?_) _).symm
 rw [getD_drop]
 unfold padH
 rw [List.append_assoc,getD_left (by omega)]
theorem hsJ_tail (b:List UInt8) {q:Nat} (hq:q = b.length / 64) (j:Nat):hsJ b (q + j + 1) = bkH rdsH ((padT (b.drop (64 * q)) (b.length * 8)).drop (64 * j)) 0 (hsJ b (q + j)):=by
 unfold hsJ
 rw [bksH_snoc,Nat.zero_add]
 refine (bkH_eq (fun p hp=>?_) _).symm
 rw [getD_drop,padH_split b hq]
 have hl:(b.take (64 * q)).length = 64 * q:=by rw [List.length_take];omega
 have:64 * (q + j) + p = (b.take (64 * q)).length + (64 * j + p):=by rw [hl];omega
 rw [this,getD_right]
theorem hsJ_len (b:List UInt8):∀ j,(hsJ b j).length = 8
 | 0=>rfl
 | j + 1=>by unfold hsJ;rw [bksH_snoc];rfl
theorem padT_len (r:List UInt8) (N:Nat):(padT r N).length % 64 = 0:=by
 unfold padT
 rw [List.length_append,List.length_append,be8H_len,List.length_cons,List.length_replicate]
 omega
theorem hsJ_end (b:List UInt8) {q:Nat} (hq:q = b.length / 64) {j:Nat} (hj:64 * j = (padT (b.drop (64 * q)) (b.length * 8)).length):hsJ b (q + j) = sumH b:=by
 have hl:(b.take (64 * q)).length = 64 * q:=by rw [List.length_take];omega
 have:(padH b).length / 64 = q + j:=by rw [padH_split b hq,List.length_append,hl,← hj];omega
 unfold sumH hsJ
 rw [this]
end Go.Proofs.Ytahllkifmmjbdaa
namespace Go.Proofs.Ytahllkifmmjbdaa
open Go.RowKit Go.Maps Go.Sort
set_option maxRecDepth 100000
theorem rtH_lt (n x:Nat) (hx:x < 4294967296):rtH n x < 4294967296:=by
 unfold rtH
 have h1:x / 2 ^ n < 2 ^ 32:=Nat.lt_of_le_of_lt (Nat.div_le_self _ _) hx
 have h2:x * 2 ^ (32 - n) % 4294967296 < 2 ^ 32:=Nat.mod_lt _ (by decide)
 exact Nat.or_lt_two_pow h1 h2
theorem bits_or_u32 (a b:Nat) (ha:a < 4294967296) (hb:b < 4294967296):bits .or .u32 (a:Int) (b:Int) = ((a ||| b:Nat):Int):=by
 have hx:a ||| b < 2 ^ 32:=Nat.or_lt_two_pow (by omega) (by omega)
 have h1:(BitVec.ofInt 32 (a:Int)).toNat = a:=by
  rw [BitVec.ofInt_natCast,BitVec.toNat_ofNat];exact Nat.mod_eq_of_lt (by omega)
 have h2:(BitVec.ofInt 32 (b:Int)).toNat = b:=by
  rw [BitVec.ofInt_natCast,BitVec.toNat_ofNat];exact Nat.mod_eq_of_lt (by omega)
 show IntKind.u32.wrap ((BitVec.ofInt 32 (a:Int) ||| BitVec.ofInt 32 (b:Int)).toNat:Int) = _
 rw [BitVec.toNat_or,h1,h2,show ∀ n:Int,IntKind.u32.wrap n = n % 4294967296 from fun n=>by simp [IntKind.wrap,IntKind.bits,IntKind.signed]]
 omega
theorem bits_xor_u32 (a b:Nat) (ha:a < 4294967296) (hb:b < 4294967296):bits .xor .u32 (a:Int) (b:Int) = ((a ^^^ b:Nat):Int):=by
 have hx:a ^^^ b < 2 ^ 32:=Nat.xor_lt_two_pow (by omega) (by omega)
 have h1:(BitVec.ofInt 32 (a:Int)).toNat = a:=by
  rw [BitVec.ofInt_natCast,BitVec.toNat_ofNat];exact Nat.mod_eq_of_lt (by omega)
 have h2:(BitVec.ofInt 32 (b:Int)).toNat = b:=by
  rw [BitVec.ofInt_natCast,BitVec.toNat_ofNat];exact Nat.mod_eq_of_lt (by omega)
 show IntKind.u32.wrap ((BitVec.ofInt 32 (a:Int) ^^^ BitVec.ofInt 32 (b:Int)).toNat:Int) = _
 rw [BitVec.toNat_xor,h1,h2,show ∀ n:Int,IntKind.u32.wrap n = n % 4294967296 from fun n=>by simp [IntKind.wrap,IntKind.bits,IntKind.signed]]
 omega
def RtTo (w:World) (n x:Nat) (e:Ending) (w':World):Prop:=e = .returned (.int .u32 ((rtH n x:Nat):Int)) ∧ w' = w
theorem right_2 (w:World) (x:Nat) (hx:x < 4294967296):Calls Try.prog 71 #[.int .u32 (x:Int),.int .u64 2] w (RtTo w 2 x):=by
 have e1:(x:Int) / 4 = ((x / 4:Nat):Int):=by omega
 have e2:(x:Int) * 1073741824 % 4294967296 = ((x * 1073741824 % 4294967296:Nat):Int):=by omega
 have e3:=bits_or_u32 (x / 4) (x * 1073741824 % 4294967296) (by omega) (by omega)
 have HE:=Lib.hid (show bits .or .u32 ((x:Int) / 4) ((x:Int) * 1073741824 % 4294967296) = ((rtH 2 x:Nat):Int) by rw [e1,e2,e3];simp [rtH])
 clear e1 e2 e3 hx
 go_enter Try.func71,Try.ntmps71
 go_wp2_with fail
 go_ret
 exact ⟨by rw [← HE.out];rfl,rfl⟩
theorem right_6 (w:World) (x:Nat) (hx:x < 4294967296):Calls Try.prog 71 #[.int .u32 (x:Int),.int .u64 6] w (RtTo w 6 x):=by
 have e1:(x:Int) / 64 = ((x / 64:Nat):Int):=by omega
 have e2:(x:Int) * 67108864 % 4294967296 = ((x * 67108864 % 4294967296:Nat):Int):=by omega
 have e3:=bits_or_u32 (x / 64) (x * 67108864 % 4294967296) (by omega) (by omega)
 have HE:=Lib.hid (show bits .or .u32 ((x:Int) / 64) ((x:Int) * 67108864 % 4294967296) = ((rtH 6 x:Nat):Int) by rw [e1,e2,e3];simp [rtH])
 clear e1 e2 e3 hx
 go_enter Try.func71,Try.ntmps71
 go_wp2_with fail
 go_ret
 exact ⟨by rw [← HE.out];rfl,rfl⟩
theorem right_7 (w:World) (x:Nat) (hx:x < 4294967296):Calls Try.prog 71 #[.int .u32 (x:Int),.int .u64 7] w (RtTo w 7 x):=by
 have e1:(x:Int) / 128 = ((x / 128:Nat):Int):=by omega
 have e2:(x:Int) * 33554432 % 4294967296 = ((x * 33554432 % 4294967296:Nat):Int):=by omega
 have e3:=bits_or_u32 (x / 128) (x * 33554432 % 4294967296) (by omega) (by omega)
 have HE:=Lib.hid (show bits .or .u32 ((x:Int) / 128) ((x:Int) * 33554432 % 4294967296) = ((rtH 7 x:Nat):Int) by rw [e1,e2,e3];simp [rtH])
 clear e1 e2 e3 hx
 go_enter Try.func71,Try.ntmps71
 go_wp2_with fail
 go_ret
 exact ⟨by rw [← HE.out];rfl,rfl⟩
theorem right_11 (w:World) (x:Nat) (hx:x < 4294967296):Calls Try.prog 71 #[.int .u32 (x:Int),.int .u64 11] w (RtTo w 11 x):=by
 have e1:(x:Int) / 2048 = ((x / 2048:Nat):Int):=by omega
 have e2:(x:Int) * 2097152 % 4294967296 = ((x * 2097152 % 4294967296:Nat):Int):=by omega
 have e3:=bits_or_u32 (x / 2048) (x * 2097152 % 4294967296) (by omega) (by omega)
 have HE:=Lib.hid (show bits .or .u32 ((x:Int) / 2048) ((x:Int) * 2097152 % 4294967296) = ((rtH 11 x:Nat):Int) by rw [e1,e2,e3];simp [rtH])
 clear e1 e2 e3 hx
 go_enter Try.func71,Try.ntmps71
 go_wp2_with fail
 go_ret
 exact ⟨by rw [← HE.out];rfl,rfl⟩
theorem right_13 (w:World) (x:Nat) (hx:x < 4294967296):Calls Try.prog 71 #[.int .u32 (x:Int),.int .u64 13] w (RtTo w 13 x):=by
 have e1:(x:Int) / 8192 = ((x / 8192:Nat):Int):=by omega
 have e2:(x:Int) * 524288 % 4294967296 = ((x * 524288 % 4294967296:Nat):Int):=by omega
 have e3:=bits_or_u32 (x / 8192) (x * 524288 % 4294967296) (by omega) (by omega)
 have HE:=Lib.hid (show bits .or .u32 ((x:Int) / 8192) ((x:Int) * 524288 % 4294967296) = ((rtH 13 x:Nat):Int) by rw [e1,e2,e3];simp [rtH])
 clear e1 e2 e3 hx
 go_enter Try.func71,Try.ntmps71
 go_wp2_with fail
 go_ret
 exact ⟨by rw [← HE.out];rfl,rfl⟩
theorem right_17 (w:World) (x:Nat) (hx:x < 4294967296):Calls Try.prog 71 #[.int .u32 (x:Int),.int .u64 17] w (RtTo w 17 x):=by
 have e1:(x:Int) / 131072 = ((x / 131072:Nat):Int):=by omega
 have e2:(x:Int) * 32768 % 4294967296 = ((x * 32768 % 4294967296:Nat):Int):=by omega
 have e3:=bits_or_u32 (x / 131072) (x * 32768 % 4294967296) (by omega) (by omega)
 have HE:=Lib.hid (show bits .or .u32 ((x:Int) / 131072) ((x:Int) * 32768 % 4294967296) = ((rtH 17 x:Nat):Int) by rw [e1,e2,e3];simp [rtH])
 clear e1 e2 e3 hx
 go_enter Try.func71,Try.ntmps71
 go_wp2_with fail
 go_ret
 exact ⟨by rw [← HE.out];rfl,rfl⟩
theorem right_18 (w:World) (x:Nat) (hx:x < 4294967296):Calls Try.prog 71 #[.int .u32 (x:Int),.int .u64 18] w (RtTo w 18 x):=by
 have e1:(x:Int) / 262144 = ((x / 262144:Nat):Int):=by omega
 have e2:(x:Int) * 16384 % 4294967296 = ((x * 16384 % 4294967296:Nat):Int):=by omega
 have e3:=bits_or_u32 (x / 262144) (x * 16384 % 4294967296) (by omega) (by omega)
 have HE:=Lib.hid (show bits .or .u32 ((x:Int) / 262144) ((x:Int) * 16384 % 4294967296) = ((rtH 18 x:Nat):Int) by rw [e1,e2,e3];simp [rtH])
 clear e1 e2 e3 hx
 go_enter Try.func71,Try.ntmps71
 go_wp2_with fail
 go_ret
 exact ⟨by rw [← HE.out];rfl,rfl⟩
theorem right_19 (w:World) (x:Nat) (hx:x < 4294967296):Calls Try.prog 71 #[.int .u32 (x:Int),.int .u64 19] w (RtTo w 19 x):=by
 have e1:(x:Int) / 524288 = ((x / 524288:Nat):Int):=by omega
 have e2:(x:Int) * 8192 % 4294967296 = ((x * 8192 % 4294967296:Nat):Int):=by omega
 have e3:=bits_or_u32 (x / 524288) (x * 8192 % 4294967296) (by omega) (by omega)
 have HE:=Lib.hid (show bits .or .u32 ((x:Int) / 524288) ((x:Int) * 8192 % 4294967296) = ((rtH 19 x:Nat):Int) by rw [e1,e2,e3];simp [rtH])
 clear e1 e2 e3 hx
 go_enter Try.func71,Try.ntmps71
 go_wp2_with fail
 go_ret
 exact ⟨by rw [← HE.out];rfl,rfl⟩
theorem right_22 (w:World) (x:Nat) (hx:x < 4294967296):Calls Try.prog 71 #[.int .u32 (x:Int),.int .u64 22] w (RtTo w 22 x):=by
 have e1:(x:Int) / 4194304 = ((x / 4194304:Nat):Int):=by omega
 have e2:(x:Int) * 1024 % 4294967296 = ((x * 1024 % 4294967296:Nat):Int):=by omega
 have e3:=bits_or_u32 (x / 4194304) (x * 1024 % 4294967296) (by omega) (by omega)
 have HE:=Lib.hid (show bits .or .u32 ((x:Int) / 4194304) ((x:Int) * 1024 % 4294967296) = ((rtH 22 x:Nat):Int) by rw [e1,e2,e3];simp [rtH])
 clear e1 e2 e3 hx
 go_enter Try.func71,Try.ntmps71
 go_wp2_with fail
 go_ret
 exact ⟨by rw [← HE.out];rfl,rfl⟩
theorem right_25 (w:World) (x:Nat) (hx:x < 4294967296):Calls Try.prog 71 #[.int .u32 (x:Int),.int .u64 25] w (RtTo w 25 x):=by
 have e1:(x:Int) / 33554432 = ((x / 33554432:Nat):Int):=by omega
 have e2:(x:Int) * 128 % 4294967296 = ((x * 128 % 4294967296:Nat):Int):=by omega
 have e3:=bits_or_u32 (x / 33554432) (x * 128 % 4294967296) (by omega) (by omega)
 have HE:=Lib.hid (show bits .or .u32 ((x:Int) / 33554432) ((x:Int) * 128 % 4294967296) = ((rtH 25 x:Nat):Int) by rw [e1,e2,e3];simp [rtH])
 clear e1 e2 e3 hx
 go_enter Try.func71,Try.ntmps71
 go_wp2_with fail
 go_ret
 exact ⟨by rw [← HE.out];rfl,rfl⟩
end Go.Proofs.Ytahllkifmmjbdaa
