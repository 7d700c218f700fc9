/- Contracts: the references' helpers on bytes (SameBytes, Join). Contracts: numbers written (the reference's Num, enc.Num). -/
import Derived.Test.YtahllkifmmjbdaaEncKp
import Derived.Deep.QuietTactic
import Derived.BigQuiet
import Derived.Deep.LoopGhost
set_option linter.unusedVariables false
set_option linter.unusedSimpArgs false
namespace Go.Proofs.Ytahllkifmmjbdaa
open Go.RowKit
theorem byte_ne {a b:UInt8} (h:(a.toNat:Int) = b.toNat):a = b:=UInt8.toNat_inj.1 (by omega)
def BoolTo (w:World) (b:Bool) (e:Ending) (w':World):Prop:=e = .returned (.bool b) ∧ Fr noB w w'
theorem Sl.bytes {w:World} {A:Option Addr} {l:List UInt8} (h:Sl w A (bv l)) (hne:0 < l.length):∃ g off,A = some ⟨g,off,none⟩ ∧ g < w.heap.size ∧ ∀ j (hj:j < l.length),w.cell? ⟨g,off + j,none⟩ = some (.int .u8 ((l[j]).toNat:Int)):=by
 obtain ⟨g,off,e,hg,hc⟩:=h (by intro h0;have:(bv l).length = 0:=by rw [h0];rfl
                               rw [bv_length] at this;omega)
 exact ⟨g,off,e,hg,fun j hj=>hc j _ (bv_get l j hj)⟩
set_option maxHeartbeats 400000 in
theorem same_any (w:World) (A B:Option Addr) (c d:Nat) (l m:List UInt8) (hA:Sl w A (bv l)) (hB:Sl w B (bv m)) (hl:l.length ≤ 140737488355328) (hm:m.length ≤ 140737488355328) :
  Calls Try.prog 12 #[.slice A l.length c,.slice B m.length d] w (BoolTo w (decide (l = m))):=by
 by_cases hlen:l.length = m.length
 ·have e1:(((l.length:Nat):Int) != ((m.length:Nat):Int)) = false:=by simp [hlen]
  have HL:=Lib.hid hlen
  have hle:l.length ≤ m.length:=by omega
  have hge:m.length ≤ l.length:=by omega
  clear hlen
  go_enter Try.func12,Try.ntmps12
  go_wp2
  go_loopw [5] (fun iv wr=>∃ k:Nat,k ≤ l.length ∧ iv = .int .i64 k ∧ Hid (l.take k = m.take k) ∧ Fr noB w wr) (fun iv _=>l.length - (intOf iv).toNat)
  case atStart=>exact ⟨0,Nat.zero_le _,rfl,by simp [Hid],Fr.refl _ _⟩
  case round =>
   obtain ⟨k,hk,rfl,hh,hf⟩:=hrel
   by_cases hlt:k < l.length
   ·obtain ⟨g,off,rfl,_,hc⟩:=(hA.fr0 hf).bytes (by omega)
    obtain ⟨g',off',rfl,_,hc'⟩:=(hB.fr0 hf).bytes (by omega)
    have c1:=hc k hlt
    have c2:=hc' k (by omega)
    clear hc hc'
    have hltm:k < m.length:=by omega
    by_cases he:l[k] = m[k]
    ·have e2:(((l[k]).toNat:Int) != ((m[k]).toNat:Int)) = false:=by rw [he];simp
     have HE:=Lib.hid he
     clear he
     go_wp2
     go_quiet (fail)
     go_wp2
     go_roundw
     case rel=>exact ⟨k + 1,by omega,by go_num,by rw [Hid,List.take_succ_eq_append_getElem hlt,List.take_succ_eq_append_getElem hltm,hh.out,HE.out],hf.drewN _⟩
     case measure=>simp [intOf];omega
    ·have e2:(((l[k]).toNat:Int) != ((m[k]).toNat:Int)) = true:=by
      rw [bne_iff_ne];intro h;exact he (byte_ne h)
     have HE:=Lib.hid he
     clear he
     go_wp2
     go_quiet (fail)
     go_wp2
     go_ret
     refine ⟨?_,hf.drewN _⟩
     have:l ≠ m:=by rintro rfl;exact HE.out rfl
     simp [this]
   ·go_wp2
    go_ret
    refine ⟨?_,hf⟩
    have h1:=hh.out
    rw [List.take_of_length_le (by omega),List.take_of_length_le (by omega)] at h1
    simp [h1]
 ·have e1:(((l.length:Nat):Int) != ((m.length:Nat):Int)) = true:=by rw [bne_iff_ne];omega
  have HL:=Lib.hid hlen
  clear hlen
  go_enter Try.func12,Try.ntmps12
  go_wp2
  go_ret
  refine ⟨?_,Fr.refl _ _⟩
  have:l ≠ m:=by rintro rfl;exact HL.out rfl
  simp [this]
set_option maxHeartbeats 1000000 in
theorem join_any (w:World) (A B:Option Addr) (c d:Nat) (l m:List UInt8) (hA:Sl w A (bv l)) (hB:Sl w B (bv m)) (hl:l.length + m.length ≤ 140737488355328) :
  Calls Try.prog 57 #[.slice A l.length c,.slice B m.length d] w (NewBytes w (l ++ m)):=by
 have hown:=World.ownsRow_lit (base:=w.heap.size) (e:=5) (size:=1) w #[] 0 (Nat.le_refl _) (by simp [maxLen]) rfl
 go_enter Try.func57,Try.ntmps57
 go_wp2
 go_loopw [5,6] (fun v iv wr=>∃ k:Nat,k ≤ l.length ∧ iv = .int .i64 k ∧ wr.ownsRow w.heap.size 5 1 v k (bv (l.take k)) ∧ Fr noB w wr) (fun _ iv _=>l.length - (intOf iv).toNat)
 case atStart=>exact ⟨0,Nat.zero_le _,rfl,hown,(Fr.refl noB w).alloc _⟩
 case round =>
  obtain ⟨k,hk,rfl,ho,hf⟩:=hrel
  by_cases hlt:k < l.length
  ·obtain ⟨g,off,rfl,_,hc⟩:=(hA.fr0 hf).bytes (by omega)
   have c1:=hc k hlt
   have HS:=Sl.new wr 5 [.int .u8 ((l[k]).toNat:Int)]
   clear hc
   go_wp2_with (at_builtin;refine wpList_app _ etBytes rfl _ _ rfl w.heap.size _ _ _ rfl (ho.alloc _) _ 1 1 [.int .u8 ((l[k]).toNat:Int)] rfl HS rfl (by simp [Value.oneCell']) (by omega) (by have:=hf.size;simp;omega) ?_;intro v' w1 h1 h2 h3)
   go_roundw
   case rel=>exact ⟨k + 1,by omega,by go_num,by rw [List.take_succ_eq_append_getElem hlt,bv_append];exact h1,(hf.alloc _).stepG h2 (fun g hg=>(ho.lt g hg).1)⟩
   case measure=>simp [intOf];omega
  ·obtain rfl:k = l.length:=by omega
   rw [List.take_length] at ho
   go_wp2
   go_loopw [5,7] (fun v iv wr=>∃ k:Nat,k ≤ m.length ∧ iv = .int .i64 k ∧ wr.ownsRow w.heap.size 5 1 v (l.length + k) (bv (l ++ m.take k)) ∧ Fr noB w wr) (fun _ iv _=>m.length - (intOf iv).toNat)
   case atStart=>exact ⟨0,Nat.zero_le _,rfl,by simpa using ho,hf⟩
   case round =>
    clear ho hf
    obtain ⟨k,hk,rfl,ho,hf⟩:=hrel
    by_cases hlt:k < m.length
    ·obtain ⟨g,off,rfl,_,hc⟩:=(hB.fr0 hf).bytes (by omega)
     have c1:=hc k hlt
     have HS:=Sl.new wr 5 [.int .u8 ((m[k]).toNat:Int)]
     clear hc
     go_wp2_with (at_builtin;refine wpList_app _ etBytes rfl _ _ rfl w.heap.size _ _ _ rfl (ho.alloc _) _ 1 1 [.int .u8 ((m[k]).toNat:Int)] rfl HS rfl (by simp [Value.oneCell']) (by omega) (by have:=hf.size;simp;omega) ?_;intro v' w1 h1 h2 h3)
     go_roundw
     case rel=>exact ⟨k + 1,by omega,by go_num,by rw [List.take_succ_eq_append_getElem hlt,← List.append_assoc,bv_append];exact h1,(hf.alloc _).stepG h2 (fun g hg=>(ho.lt g hg).1)⟩
     case measure=>simp [intOf];omega
    ·obtain rfl:k = m.length:=by omega
     rw [List.take_length] at ho
     go_wp2
     go_ret
     exact NewBytes.mk ho hf
theorem numB_small {n:Nat} (h:n < 128):numB n = [UInt8.ofNat n]:=by
 rw [numB,dif_pos h]
theorem numB_big {n:Nat} (h:¬ n < 128):numB n = UInt8.ofNat (n % 128 + 128) :: numB (n / 128):=by
 rw [numB,dif_neg h]
theorem numB_length (n:Nat) (hn:n ≤ 4611686018427387904):(numB n).length ≤ 9:=by
 have h:∀ (k n:Nat),n < 128 ^ (k + 1) → (numB n).length ≤ k + 1:=by
  intro k
  induction k with
  | zero=>intro n h;rw [numB_small (by simpa using h)];simp
  | succ k ih =>
   intro n h
   by_cases hs:n < 128
   ·rw [numB_small hs];simp
   ·rw [numB_big hs,List.length_cons]
    have:n / 128 < 128 ^ (k + 1):=Nat.div_lt_of_lt_mul (by rw [Nat.pow_succ] at h;omega)
    have:=ih _ this
    omega
 exact h 8 n (by have:(128:Nat) ^ (8 + 1) = 9223372036854775808:=by decide
                 omega)
theorem numB_pos (n:Nat):0 < (numB n).length:=by
 by_cases h:n < 128
 ·rw [numB_small h];simp
 ·rw [numB_big h];simp
theorem u8_low (n:Nat) (h:n < 256):(UInt8.ofNat n).toNat = n:=by rw [UInt8.toNat_ofNat'];omega
theorem or128 (m:Nat):bits .or .u8 (IntKind.u8.wrap (m:Int)) 128 = ((UInt8.ofNat (m % 128 + 128)).toNat:Int):=by
 rw [u8_low _ (by omega)]
 have h1:IntKind.u8.wrap (m:Int) = ((m % 256:Nat):Int):=by rw [IntKind.wrap_u8'];omega
 rw [h1]
 have:=u8_or_nat (m % 256) 128 (by omega) (by decide)
 have h2:(128:Int) = ((128:Nat):Int):=rfl
 rw [h2,this]
 have h3:m % 256 ||| 128 = m % 128 + 128:=by
  have h4:m % 256 = m % 128 + 128 * (m / 128 % 2):=by omega
  rcases (show m / 128 % 2 = 0 ∨ m / 128 % 2 = 1 by omega) with h | h
  ·rw [h4,h,Nat.mul_zero,Nat.add_zero,Nat.or_comm]
   rw [nat_join 7 128 (m % 128) (by decide) (by omega),Nat.add_comm]
  ·rw [h4,h,Nat.mul_one]
   have:m % 128 + 128 = 128 ||| m % 128:=by rw [nat_join 7 128 (m % 128) (by decide) (by omega),Nat.add_comm]
   rw [this,Nat.or_assoc,Nat.or_comm (m % 128) 128,← Nat.or_assoc,Nat.or_self]
 rw [h3]
def EnR (w:World) (l:List UInt8) (n0:Nat) (gk:Nat) (ov nv:Value) (wr:World):Prop :=
 ∃ (n:Nat) (out:List UInt8),nv = .int .u64 n ∧ n ≤ 4611686018427387904 ∧ wr.ownsRow w.heap.size 5 1 ov (l ++ out).length (bv (l ++ out)) ∧ Fr noB w wr ∧ n = gk ∧ numB n0 = out ++ numB n ∧ out.length ≤ 9
set_option maxRecDepth 100000 in
set_option maxHeartbeats 400000 in
theorem enum_any (w:World) (A:Option Addr) (c:Nat) (l:List UInt8) (hs:Sl w A (bv l)) (hl:l.length ≤ 140737488355000) (n:Nat) (hn:n ≤ 4611686018427387904) :
  Calls Try.prog 23 #[.slice A l.length c,.int .i64 n] w (NewBytes w (l ++ numB n)):=by
 go_enter Try.func23,Try.ntmps23
 go_wp2_with (go_at_call 35;refine (clone_n w A c l _ rfl hs (by omega)).mono ?_;rintro e w1 ⟨A1,c1,rfl,ho1,hf1⟩)
 go_loopg [5,6] n (fun gk ov nv wr=>EnR w l n gk ov nv wr)
 case atStart=>exact ⟨n,[],rfl,hn,by simpa using ho1,hf1,rfl,rfl,by simp⟩
 case round =>
  obtain ⟨m,out,rfl,hm,ho,hf,rfl,hh,hol⟩:=hrel
  have hle:=numB_length n hn
  have hlen:(numB n).length = out.length + (numB m).length:=by rw [hh];simp
  have hpos:=numB_pos m
  have hol2:out.length + 1 ≤ 9:=by omega
  have hhs:=hf.size
  clear hlen hpos hle
  by_cases hs':m < 128
  ·have HH:=Lib.hid hh
   clear hh
   have hw:IntKind.u8.wrap (m:Int) = ((UInt8.ofNat m).toNat:Int):=by rw [u8_low m (by omega),IntKind.wrap_u8'];omega
   have HB:=Lib.hid (numB_small hs')
   generalize UInt8.ofNat m = b at hw HB
   have HS:=Sl.new wr 5 (bv [b])
   go_wp2_with (at_builtin;refine wpList_appB _ etBytes rfl (.tmp 23) (.tmp 26) rfl w.heap.size _ _ (l ++ out) rfl (ho.alloc _) _ _ _ [b] rfl HS rfl (by simp only [List.length_append,List.length_cons,List.length_nil];omega) (by rw [World.size_alloc];omega) ?_;intro A2 c2 w2 hc1 hc2 h1 h2 h3)
   go_ret
   have hx:l ++ numB n = l ++ out ++ [b]:=by rw [HH.out,HB.out,List.append_assoc]
   rw [hx]
   exact NewBytes.mk (by simpa using h1) ((hf.alloc _).stepG h2 (fun g hg=>(ho.lt g hg).1))
  ·have HH:=Lib.hid hh
   clear hh
   have hw:bits .or .u8 ((m:Int) % 256) 128 = ((UInt8.ofNat (m % 128 + 128)).toNat:Int):=by rw [← or128 m,IntKind.wrap_u8']
   have HB:=Lib.hid (numB_big hs')
   generalize UInt8.ofNat (m % 128 + 128) = b at hw HB
   have HS:=Sl.new wr 5 (bv [b])
   go_wp2_with (at_builtin;refine wpList_appB _ etBytes rfl (.tmp 15) (.tmp 19) rfl w.heap.size _ _ (l ++ out) rfl (ho.alloc _) _ _ _ [b] rfl HS rfl (by simp only [List.length_append,List.length_cons,List.length_nil];omega) (by rw [World.size_alloc];omega) ?_;intro A2 c2 w2 hc1 hc2 h1 h2 h3)
   go_roundg (m / 128)
   case measure=>omega
   case rel=>exact ⟨m / 128,out ++ [b],by go_num,by omega,by simpa using h1,(hf.alloc _).stepG h2 (fun g hg=>(ho.lt g hg).1),rfl,HH.out.trans (by rw [HB.out];simp),by simp;omega⟩
theorem enum_n (w:World) (A:Option Addr) (c:Nat) (l:List UInt8) (k:Nat) (hk:l.length = k) (hs:Sl w A (bv l)) (hl:l.length ≤ 140737488355000) (n:Nat) (hn:n ≤ 4611686018427387904) :
  Calls Try.prog 23 #[.slice A k c,.int .i64 n] w (NewBytes w (l ++ numB n)):=by subst hk;exact enum_any w A c l hs hl n hn
end Go.Proofs.Ytahllkifmmjbdaa
