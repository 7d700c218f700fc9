/- Contracts of work: kids. (ex_ldR_at) Contracts of work: shown names. Contract of work: shown. -/
import Derived.Test.YthehiobacjjakaaGreatDoorLsPKp
import Derived.Test.YthehiobacjjakaaGreatDoorDifDKp
import Derived.Test.YthehiobacjjakaaGreatDoorGvEKp
import Derived.Lib.Bytealg
import Derived.Test.YthehiobacjjakaaGreatDoorStabCKp
import Derived.Test.YthehiobacjjakaaGreatDoorRegTKp
import Derived.Lib.ItoaLen
set_option linter.unusedVariables false
set_option linter.unusedSimpArgs false
namespace Go.Proofs.YthehiobacjjakaaGreatDoor
open Go.RowKit Go.Maps Go.Sort
def kidsM (rs:List RwW) (p:St):List RwW:=rs.filter fun r=>decide (r.Parent = p)
theorem kidsM_snoc (rs:List RwW) (p:St) (k:Nat) (h:k < rs.length):kidsM (rs.take (k + 1)) p = if rs[k].Parent = p then kidsM (rs.take k) p ++ [rs[k]] else kidsM (rs.take k) p:=by
 unfold kidsM
 rw [List.take_succ_eq_append_getElem h,List.filter_append]
 split <;> simp [*]
theorem kidsM_len (rs:List RwW) (p:St):(kidsM rs p).length ≤ rs.length:=List.length_filter_le _ _
theorem kidsM_in {w:World} {p:St}:∀ {rs:List RwW} {xs:List RwP},RwsIn w rs xs → RwsIn w (kidsM rs p) (kidsD xs p):=fun {rs xs} h=>by
 have key:∀ (rs:List RwW) (xs:List RwP),rs.length = xs.length → (∀ i (h:i < rs.length) (h':i < xs.length),RwIn w rs[i] xs[i]) → RwsIn w (kidsM rs p) (kidsD xs p):=by
  intro rs
  induction rs with
  | nil =>
   intro xs hl _
   cases xs with
   | nil=>exact ⟨rfl,fun i h=>absurd h (by simp [kidsM])⟩
   | cons x xs=>simp at hl
  | cons r rs ih =>
   intro xs hl hx
   cases xs with
   | nil=>simp at hl
   | cons x xs =>
    have h0:RwIn w r x:=hx 0 (by simp) (by simp)
    have ih':=ih xs (by simpa using hl) (fun i h h'=>hx (i + 1) (by simpa using h) (by simpa using h'))
    have e:x.Parent = r.Parent:=h0.parent
    unfold kidsM kidsD at ih' ⊢
    rw [List.filter_cons,List.filter_cons,e]
    by_cases hp:r.Parent = p
    ·rw [if_pos (by simpa using hp),if_pos (by simpa using hp)]
     refine ⟨by simp [ih'.len],fun i h h'=>?_⟩
     cases i with
     | zero=>exact h0
     | succ i=>exact ih'.at_ i (by simpa using h) (by simpa using h')
    ·rw [if_neg (by simpa using hp),if_neg (by simpa using hp)]
     exact ih'
 exact key rs xs h.len h.at_
theorem ownR0 (W w:World):OwnC codR W w none 0 []:=World.ownsRow_nil _ _ _ _
theorem wk_own {w0 w w':World} {e:TypeId} {size n c:Nat} {A:Option Addr} {xs:List Value} (f:Fr noB w0 w) (h:w.ownsRow w0.heap.size e size (.slice A n c) n xs) (hg:w.grownBy w' (A.map (·.block))):Fr noB w0 w' :=
 f.step (Fr.ofGrown (M:=fun b=>A.map (·.block) = some b) hg (fun g hg=>hg)) (fun b hb=>.inl (own_lt h b hb).1)
def KidTo (w:World) (ks:List RwW) (e:Ending) (w':World):Prop:=∃ A c,e = .returned (.slice A ks.length c) ∧ OwnC codR w w' A c ks ∧ Fr noB w w'
def KdR (w0:World) (rs:List RwW) (p:St) (gk:Nat) (ov iv:Value) (wr:World):Prop :=
 ∃ (k:Nat) (A:Option Addr) (c:Nat) (os:List RwW),iv = .int .i64 (k:Int) ∧ gk = rs.length - k ∧ k ≤ rs.length ∧ ov = .slice A os.length c ∧ OwnC codR w0 wr A c os ∧ os = kidsM (rs.take k) p ∧ Fr noB w0 wr
set_option maxRecDepth 100000 in
set_option maxHeartbeats 4000000 in
theorem kids_any (w:World) (A:Option Addr) (c n:Nat) (rs:List RwW) (hn:rs.length = n) (hs:Sl w A (codR.row rs)) (hb:rs.length ≤ 1000000) (p:St):Calls Tryz.prog 71 #[.slice A n c,.agg (codS.A p)] w (KidTo w (kidsM rs p)):=by
 subst hn
 have f0:Fr noB w (w.alloc (.cells (codS.A p) 24)):=(Fr.refl noB w).alloc _
 have q0:=Cod.rd_new (C:=codS) w 24 p
 have ow:OwnC codR (w.alloc (.cells (codS.A p) 24)) (w.alloc (.cells (codS.A p) 24)) none 0 []:=ownR0 _ _
 go_enter Tryz.func71,Tryz.ntmps71
 go_upto_region 2 with fail
 generalize w.alloc (.cells (codS.A p) 24) = w0 at f0 q0 ow ⊢
 generalize w.heap.size = P at q0 ⊢
 have hs0:=Lib.hid (hs.fr0 f0)
 have HB:=Lib.hid hb
 have Q0:=Lib.hid q0
 have F0:=Lib.hid f0
 clear hs hb q0 f0
 go_wp2_with fail
 go_loopg [5,10] rs.length (fun gk ov iv wr=>KdR w0 rs p gk ov iv wr)
 case atStart=>exact ⟨0,none,0,[],rfl,by omega,by omega,rfl,ow,rfl,Fr.refl _ _⟩
 case round =>
  clear ow
  obtain ⟨k,A1,c1,os,rfl,rfl,hk,rfl,ho,hos,hf⟩:=hrel
  by_cases hlt:k < rs.length
  ·have i1:(k:Int) < (rs.length:Int):=by omega
   have i0:(0:Int) ≤ (k:Int):=by omega
   obtain ⟨g,off,rfl,hg⟩:=Sl.addr hs0.out (by omega)
   have ro:codR.rd wr g (off + k * 8) = some rs[k]:=Cod.rd_fr0 (Sl.rd hs0.out k hlt) hf
   have HSN:=Lib.hid (kidsM_snoc rs p k hlt)
   have HOL:=Lib.hid (show os.length ≤ 1000000 by rw [hos];have:=kidsM_len (rs.take k) p;have:=HB.out;have:=List.length_take_le k rs;omega)
   have HOS:=Lib.hid hos
   have HK:=Lib.hid hlt
   generalize rs[k] = z at ro HSN
   clear hg hos hk hlt
   go_upto_region 5 with fail
   have f12:Fr noB wr (wr.alloc (codR.o z)):=(Fr.refl noB wr).alloc _
   have q12:=rwAt (Cod.rd_new' (C:=codR) wr z)
   have q1:=q12.self
   have q2:=q12.parent
   have o12:=own_new0 ho f12
   have F12:=hf.step0 f12
   have qp:=Cod.rd_fr0 Q0.out F12
   clear q12 ho hf f12 ro
   generalize wr.alloc (codR.o z) = W12 at q1 q2 o12 F12 qp ⊢
   generalize wr.heap.size = D2 at q1 q2 ⊢
   by_cases hpz:z.Parent = p
   ·have hd:decide (z.Parent = p) = true:=by simp [hpz]
    rw [hpz] at q2 hd
    have HPZ:=Lib.hid hpz
    clear hpz
    have sl:=Cod.sl_new (C:=codR) W12 [z]
    have fn:Fr noB W12 (W12.alloc (codR.ro [z])):=(Fr.refl noB W12).alloc _
    have o13:=own_new0 o12 fn
    have F13:=F12.step0 fn
    clear fn F12 o12
    go_wp2_with (at_builtin;refine wpList_appC' etR w0 _ rfl _ _ rfl A1 os.length c1 os rfl rfl o13 (some ⟨W12.heap.size,0,none⟩) 1 1 [z] rfl sl rfl (by have:=HOL.out;simp;omega) F13.size ?_;intro A7 c7 w7 hc7 hm7 o7 g7 hA7)
    go_roundg (rs.length - (k + 1))
    case measure=>have:=HK.out;omega
    case rel=>exact ⟨k + 1,A7,c7,os ++ [z],by first | (simp;done) | exact congrArg (Value.int .i64) (IntWalk.wrap64_in _ (by have:=HK.out;have:=HB.out;omega)),rfl,HK.out,by simp,o7,by rw [HSN.out,if_pos HPZ.out,HOS.out],wk_own F13 o13 g7⟩
   ·have hd:decide (z.Parent = p) = false:=by simp [hpz]
    have HPZ:=Lib.hid hpz
    clear hpz
    go_wp2_with fail
    go_roundg (rs.length - (k + 1))
    case measure=>have:=HK.out;omega
    case rel=>exact ⟨k + 1,A1,c1,os,by first | (simp;done) | exact congrArg (Value.int .i64) (IntWalk.wrap64_in _ (by have:=HK.out;have:=HB.out;omega)),rfl,HK.out,rfl,o12,by rw [HSN.out,if_neg HPZ.out,HOS.out],F12⟩
  ·have i1:¬ (k:Int) < (rs.length:Int):=by omega
   have hke:k = rs.length:=by omega
   rw [hke,List.take_length] at hos
   have HOS:=Lib.hid hos
   clear hos hke
   go_wp2_with fail
   go_ret
   have e:=HOS.out
   subst e
   exact ⟨A1,c1,rfl,own_base ho F0.out.size,F0.out.step0 hf⟩
theorem grow_frW (w:World) (q:Nat) (os:Array Obj):Fr noB w (grow (w.drewN q) os):=by
 refine ⟨rfl,rfl,rfl,by simp [grow,World.drewN],fun k hk _=>?_⟩
 simp [grow,World.drewN,Array.getElem?_append_left hk]
def HasT (w : World) : Prop := Lib.TabIs Tryz.prog w "internal/strconv.uint64pow10" .u64 Lib.pow10Tab
theorem HasT.fr {w w':World} (h:HasT w) (f:Fr noB w w'):HasT w':=by
 unfold HasT Lib.TabIs World.var? at h ⊢
 cases hg : Tryz.prog.globalNamed "internal/strconv.uint64pow10" with
 | none=>rw [hg] at h;cases h
 | some g =>
  rw [hg] at h
  simp only [Option.bind_some] at h ⊢
  have hlt:g < w.heap.size:=by
   rcases Nat.lt_or_ge g w.heap.size with h1 | h1
   ·exact h1
   ·rw [Array.getElem?_eq_none h1] at h;cases h
  rw [f.block g hlt (by simp [noB])]
  exact h
theorem fmt_any (w:World) (h:HasT w) (n:Int) (h0 : -9223372036854775808 ≤ n) (h1:n ≤ 9223372036854775807):Calls Tryz.prog 96 #[.int .i64 n,.int .i64 10] w (Gives w (.string (str (Lib.itoa n)))) :=
 (Tryz.strconv_FormatInt_10 n h0 h1 w h).mono fun e w' ⟨h2,k,os,h3⟩=>⟨h2,by rw [h3];exact grow_frW w k os⟩
theorem itoa_any (w:World) (h:HasT w) (n:Int) (h0 : -9223372036854775808 ≤ n) (h1:n ≤ 9223372036854775807):Calls Tryz.prog 97 #[.int .i64 n] w (Gives w (.string (str (Lib.itoa n)))) :=
 (Tryz.strconv_Itoa n h0 h1 w h).mono fun e w' ⟨h2,k,os,h3⟩=>⟨h2,by rw [h3];exact grow_frW w k os⟩
theorem idx_contains (l:List UInt8) (c:UInt8):decide (0 ≤ Lib.indexByte l c) = l.contains c:=by
 induction l with
 | nil=>rfl
 | cons b l ih =>
  unfold Lib.indexByte
  rw [List.contains_cons]
  by_cases h:b == c
  ·rw [if_pos h]
   have e:b = c:=eq_of_beq h
   subst e
   simp
  ·rw [if_neg h]
   have hne:(c == b) = false:=by
    rw [beq_eq_false_iff_ne]
    intro e
    subst e
    exact h (beq_self_eq_true _)
   rw [hne,Bool.false_or,← ih]
   have hge:=Lib.indexByte_ge l c
   by_cases h2:Lib.indexByte l c = -1
   ·simp [h2]
   ·have h3:(Lib.indexByte l c == -1) = false:=by simpa using h2
    rw [h3]
    simp only [Bool.false_eq_true,if_false]
    rw [decide_eq_true (by omega),decide_eq_true (by omega)]
theorem tilde_any (w:World) (l:List UInt8):Calls Tryz.prog 53 #[.string (str l),.string ⟨#[126]⟩] w (Gives w (.bool (l.contains 126))) :=
 (Tryz.strings_Contains_one (str l) 126 w).mono fun e w' ⟨h2,h3⟩=>⟨by rw [h2,← idx_contains];rfl,by rw [h3];exact Fr.refl _ _⟩
@[simp] theorem str_beqW (a b:List UInt8):((str a).toList == (str b).toList) = decide (a = b):=by
 rw [str_toList,str_toList,Bool.eq_iff_iff]
 simp
theorem str_appW (a b:List UInt8):str a ++ str b = str (a ++ b):=by
 apply ByteArray.ext
 simp [str,ByteArray.data_append]
theorem shown1_any (w:World) (x r:RwW) (P:Nat) (h:codR.rd w P 0 = some r):Calls Tryz.prog 95 #[.agg (codR.A x),.pointer (some ⟨P,0,none⟩)] w (Gives w (.bool (decide (x.Name = r.Name)))):=by
 have f0:Fr noB w (w.alloc (.cells (codR.A x) 60)):=(Fr.refl noB w).alloc _
 have q0:=(rwAt (Cod.rd_new (C:=codR) w 60 x)).name
 have q1:=(rwAt (Cod.rd_fr0 h f0)).name
 have F:=Lib.hid f0
 clear h f0
 go_enter Tryz.func95,Tryz.ntmps95
 go_wp2_with fail
 go_ret
 exact ⟨by first | rfl | simp,F.out⟩
set_option maxRecDepth 100000 in
set_option maxHeartbeats 1000000 in
theorem idxSh_any (w:World) (A:Option Addr) (c n:Nat) (l:List RwW) (hn:l.length = n) (hs:Sl w A (codR.row l)) (hb:l.length ≤ 140737488355328) (cp:Value) (p:Nat → Bool)
  (hf:∀ w',Fr noB w w' → ∀ i (hi:i < l.length),Calls Tryz.prog 95 #[.agg (codR.A l[i]),cp] w' (Gives w' (.bool (p i)))) :
  Calls Tryz.prog 87 #[.slice A n c,.func (.func 95) #[] #[cp]] w (FiTo w l.length p):=by
 subst hn
 go_enter Tryz.func87,Tryz.ntmps87
 go_wp2_with fail
 go_loopg [8] l.length (fun gk iv wr=>IxR w l.length p gk iv wr)
 case atStart=>exact ⟨0,rfl,by omega,by omega,fun j hj=>absurd hj (by omega),Fr.refl _ _⟩
 case round =>
  obtain ⟨k,rfl,rfl,hk,hj,hf0⟩:=hrel
  have HJ:=Lib.hid hj
  clear hj
  by_cases hlt:k < l.length
  ·have i1:(k:Int) < (l.length:Int):=by omega
   have i0:(0:Int) ≤ (k:Int):=by omega
   obtain ⟨g,off,rfl,hg⟩:=hs.adC (by omega)
   have e1:codR.rd wr g (off + k * 8) = some l[k]:=(hs.fr0 hf0).rd k hlt
   have hc:=hf wr hf0 k hlt
   generalize l[k] = x at e1 hc
   by_cases hp:p k = true
   ·rw [hp] at hc
    have HP:=Lib.hid hp
    clear hp
    go_wp2_with (go_at_call 95;refine hc.mono ?_;rintro e w1 ⟨rfl,f1⟩)
    go_ret
    exact ⟨k,rfl,.inl ⟨k,hlt,rfl,HP.out,HJ.out⟩,hf0.step0 f1⟩
   ·have hp':p k = false:=by simpa using hp
    rw [hp'] at hc
    have HP:=Lib.hid hp'
    clear hp hp'
    go_wp2_with (go_at_call 95;refine hc.mono ?_;rintro e w1 ⟨rfl,f1⟩)
    go_roundg (l.length - (k + 1))
    case measure=>omega
    case rel=>exact ⟨k + 1,by simp,rfl,by omega,fun j hj=>by
     rcases Nat.lt_or_ge j k with h | h
     ·exact HJ.out j h
     ·have:j = k:=by omega
      rw [this];exact HP.out,hf0.step0 f1⟩
  ·have hkl:k = l.length:=by omega
   subst hkl
   have i1:¬ (l.length:Int) < (l.length:Int):=by omega
   go_wp2_with fail
   go_ret
   exact ⟨-1,rfl,.inr ⟨rfl,HJ.out⟩,hf0⟩
set_option maxRecDepth 100000 in
set_option maxHeartbeats 1000000 in
theorem idxRm_any (w:World) (A:Option Addr) (c n:Nat) (l:List RwW) (hn:l.length = n) (hs:Sl w A (codR.row l)) (hb:l.length ≤ 140737488355328) (cp:Value) (p:Nat → Bool)
  (hf:∀ w',Fr noB w w' → ∀ i (hi:i < l.length),Calls Tryz.prog 82 #[.agg (codR.A l[i]),cp] w' (Gives w' (.bool (p i)))) :
  Calls Tryz.prog 87 #[.slice A n c,.func (.func 82) #[] #[cp]] w (FiTo w l.length p):=by
 subst hn
 go_enter Tryz.func87,Tryz.ntmps87
 go_wp2_with fail
 go_loopg [8] l.length (fun gk iv wr=>IxR w l.length p gk iv wr)
 case atStart=>exact ⟨0,rfl,by omega,by omega,fun j hj=>absurd hj (by omega),Fr.refl _ _⟩
 case round =>
  obtain ⟨k,rfl,rfl,hk,hj,hf0⟩:=hrel
  have HJ:=Lib.hid hj
  clear hj
  by_cases hlt:k < l.length
  ·have i1:(k:Int) < (l.length:Int):=by omega
   have i0:(0:Int) ≤ (k:Int):=by omega
   obtain ⟨g,off,rfl,hg⟩:=hs.adC (by omega)
   have e1:codR.rd wr g (off + k * 8) = some l[k]:=(hs.fr0 hf0).rd k hlt
   have hc:=hf wr hf0 k hlt
   generalize l[k] = x at e1 hc
   by_cases hp:p k = true
   ·rw [hp] at hc
    have HP:=Lib.hid hp
    clear hp
    go_wp2_with (go_at_call 82;refine hc.mono ?_;rintro e w1 ⟨rfl,f1⟩)
    go_ret
    exact ⟨k,rfl,.inl ⟨k,hlt,rfl,HP.out,HJ.out⟩,hf0.step0 f1⟩
   ·have hp':p k = false:=by simpa using hp
    rw [hp'] at hc
    have HP:=Lib.hid hp'
    clear hp hp'
    go_wp2_with (go_at_call 82;refine hc.mono ?_;rintro e w1 ⟨rfl,f1⟩)
    go_roundg (l.length - (k + 1))
    case measure=>omega
    case rel=>exact ⟨k + 1,by simp,rfl,by omega,fun j hj=>by
     rcases Nat.lt_or_ge j k with h | h
     ·exact HJ.out j h
     ·have:j = k:=by omega
      rw [this];exact HP.out,hf0.step0 f1⟩
  ·have hkl:k = l.length:=by omega
   subst hkl
   have i1:¬ (l.length:Int) < (l.length:Int):=by omega
   go_wp2_with fail
   go_ret
   exact ⟨-1,rfl,.inr ⟨rfl,HJ.out⟩,hf0⟩
set_option maxRecDepth 100000 in
set_option maxHeartbeats 1000000 in
theorem idxUn_any (w:World) (A:Option Addr) (c n:Nat) (l:List RwW) (hn:l.length = n) (hs:Sl w A (codR.row l)) (hb:l.length ≤ 140737488355328) (cp:Value) (p:Nat → Bool)
  (hf:∀ w',Fr noB w w' → ∀ i (hi:i < l.length),Calls Tryz.prog 88 #[.agg (codR.A l[i]),cp] w' (Gives w' (.bool (p i)))) :
  Calls Tryz.prog 87 #[.slice A n c,.func (.func 88) #[] #[cp]] w (FiTo w l.length p):=by
 subst hn
 go_enter Tryz.func87,Tryz.ntmps87
 go_wp2_with fail
 go_loopg [8] l.length (fun gk iv wr=>IxR w l.length p gk iv wr)
 case atStart=>exact ⟨0,rfl,by omega,by omega,fun j hj=>absurd hj (by omega),Fr.refl _ _⟩
 case round =>
  obtain ⟨k,rfl,rfl,hk,hj,hf0⟩:=hrel
  have HJ:=Lib.hid hj
  clear hj
  by_cases hlt:k < l.length
  ·have i1:(k:Int) < (l.length:Int):=by omega
   have i0:(0:Int) ≤ (k:Int):=by omega
   obtain ⟨g,off,rfl,hg⟩:=hs.adC (by omega)
   have e1:codR.rd wr g (off + k * 8) = some l[k]:=(hs.fr0 hf0).rd k hlt
   have hc:=hf wr hf0 k hlt
   generalize l[k] = x at e1 hc
   by_cases hp:p k = true
   ·rw [hp] at hc
    have HP:=Lib.hid hp
    clear hp
    go_wp2_with (go_at_call 88;refine hc.mono ?_;rintro e w1 ⟨rfl,f1⟩)
    go_ret
    exact ⟨k,rfl,.inl ⟨k,hlt,rfl,HP.out,HJ.out⟩,hf0.step0 f1⟩
   ·have hp':p k = false:=by simpa using hp
    rw [hp'] at hc
    have HP:=Lib.hid hp'
    clear hp hp'
    go_wp2_with (go_at_call 88;refine hc.mono ?_;rintro e w1 ⟨rfl,f1⟩)
    go_roundg (l.length - (k + 1))
    case measure=>omega
    case rel=>exact ⟨k + 1,by simp,rfl,by omega,fun j hj=>by
     rcases Nat.lt_or_ge j k with h | h
     ·exact HJ.out j h
     ·have:j = k:=by omega
      rw [this];exact HP.out,hf0.step0 f1⟩
  ·have hkl:k = l.length:=by omega
   subst hkl
   have i1:¬ (l.length:Int) < (l.length:Int):=by omega
   go_wp2_with fail
   go_ret
   exact ⟨-1,rfl,.inr ⟨rfl,HJ.out⟩,hf0⟩
theorem fst_any {n:Nat} {p:Nat → Bool} {z:Int} (h:FstI n p z):decide (0 ≤ z) = (List.range n).any p:=by
 rcases h with ⟨i,hi,rfl,hp,_⟩ | ⟨rfl,hno⟩
 ·rw [decide_eq_true (by omega)]
  exact (List.any_eq_true.2 ⟨i,List.mem_range.2 hi,hp⟩).symm
 ·rw [decide_eq_false (by omega)]
  symm
  rw [List.any_eq_false]
  intro i hi
  rw [hno i (List.mem_range.1 hi)]
  simp
set_option maxRecDepth 100000 in
theorem contSh_any (w:World) (A:Option Addr) (c n:Nat) (l:List RwW) (hn:l.length = n) (hs:Sl w A (codR.row l)) (hb:l.length ≤ 140737488355328) (cp:Value) (p:Nat → Bool)
  (hf:∀ w',Fr noB w w' → ∀ i (hi:i < l.length),Calls Tryz.prog 95 #[.agg (codR.A l[i]),cp] w' (Gives w' (.bool (p i)))) :
  Calls Tryz.prog 81 #[.slice A n c,.func (.func 95) #[] #[cp]] w (Gives w (.bool ((List.range l.length).any p))):=by
 have h:=Lib.hid (idxSh_any w A c n l hn hs hb cp p hf)
 clear hf hs
 subst hn
 go_enter Tryz.func81,Tryz.ntmps81
 go_wp2_with (go_at_call 87;refine h.out.mono ?_;rintro e w1 ⟨z,rfl,hz,f1⟩)
 go_ret
 exact ⟨by rw [← fst_any hz];rfl,f1⟩
set_option maxRecDepth 100000 in
theorem contRm_any (w:World) (A:Option Addr) (c n:Nat) (l:List RwW) (hn:l.length = n) (hs:Sl w A (codR.row l)) (hb:l.length ≤ 140737488355328) (cp:Value) (p:Nat → Bool)
  (hf:∀ w',Fr noB w w' → ∀ i (hi:i < l.length),Calls Tryz.prog 82 #[.agg (codR.A l[i]),cp] w' (Gives w' (.bool (p i)))) :
  Calls Tryz.prog 81 #[.slice A n c,.func (.func 82) #[] #[cp]] w (Gives w (.bool ((List.range l.length).any p))):=by
 have h:=Lib.hid (idxRm_any w A c n l hn hs hb cp p hf)
 clear hf hs
 subst hn
 go_enter Tryz.func81,Tryz.ntmps81
 go_wp2_with (go_at_call 87;refine h.out.mono ?_;rintro e w1 ⟨z,rfl,hz,f1⟩)
 go_ret
 exact ⟨by rw [← fst_any hz];rfl,f1⟩
def shownM (us:List RwW) (i:Nat) (r:RwW):List UInt8:=if ((us.take i).any fun x=>decide (x.Name = r.Name)) || r.Name.contains 126 then r.Name ++ sfxD r.Node else r.Name
theorem range_take (us:List RwW) (nm:List UInt8) (i:Nat) (hi:i ≤ us.length):((List.range (us.take i).length).any fun k=>if h:k < (us.take i).length then decide (((us.take i)[k]).Name = nm) else false) = (us.take i).any fun x=>decide (x.Name = nm):=by
 generalize us.take i = l
 rw [Bool.eq_iff_iff,List.any_eq_true,List.any_eq_true]
 constructor
 ·rintro ⟨k,hk,h⟩
  rw [List.mem_range] at hk
  rw [dif_pos hk] at h
  exact ⟨_,List.getElem_mem hk,h⟩
 ·rintro ⟨x,hx,h⟩
  obtain ⟨k,hk,rfl⟩:=List.getElem_of_mem hx
  exact ⟨k,List.mem_range.2 hk,by rw [dif_pos hk];exact h⟩
theorem ex_sadd_at {ρ:Operand → Value} {o:Oper} {a b:Operand} {w:World} {A B:ByteArray} (ho:o.op = .binOp .add 9 a b 9) (ha:ρ a = .string A) (hb:ρ b = .string B) (hl:A.size + B.size ≤ 9223372036854775807):(execOp ρ o).run Tryz.prog w = .ok (.value (.string (A ++ B))) w:=by
 obtain ⟨d,op,t,p,f,g⟩:=o
 simp only at ho
 subst ho
 have hl':¬ 9223372036854775807 < A.size + B.size:=by omega
 unfold execOp
 simp only [ha,hb]
 go_simp
theorem sz_str (l:List UInt8):(str l).size = l.length:=rfl
set_option maxRecDepth 100000 in
set_option maxHeartbeats 2000000 in
theorem shown_any (w:World) (A:Option Addr) (c n:Nat) (us:List RwW) (hn:us.length = n) (hs:Sl w A (codR.row us)) (hc:n ≤ c) (hb:us.length ≤ 1000000) (i:Nat) (hi:i < us.length) (hT:HasT w) (hw:wfS us[i].Node = true) (hnm:us[i].Name.length ≤ 140737488355328) :
  Calls Tryz.prog 72 #[.slice A n c,.int .i64 (i:Int)] w (Gives w (.string (str (shownM us i us[i])))):=by
 subst hn
 have i1:(i:Int) < (us.length:Int):=by omega
 have i0:(0:Int) ≤ (i:Int):=by omega
 obtain ⟨g,off,rfl,hg⟩:=Sl.addr hs (by omega)
 have ro:codR.rd w g (off + i * 8) = some us[i]:=Sl.rd hs i hi
 have htk:Sl w (some ⟨g,off,none⟩) (codR.row (us.take i)):=by
  rw [← Cod.row_take us i (by omega)]
  exact Sl.take hs
 have HTK:=Lib.hid htk
 have HSH:=Lib.hid (show shownM us i us[i] = if ((us.take i).any fun x=>decide (x.Name = us[i].Name)) || us[i].Name.contains 126 then us[i].Name ++ sfxD us[i].Node else us[i].Name from rfl)
 have HRT:=Lib.hid (fun nm=>range_take us nm i (by omega))
 have hlt:(us.take i).length = i:=by rw [List.length_take];omega
 generalize us.take i = l at HTK HSH HRT hlt
 generalize shownM us i us[i] = res at HSH ⊢
 generalize us[i] = r at ro HSH hw hnm
 have HNM:=Lib.hid hnm
 have HTB:=Lib.hid hT
 have HLB:=Lib.hid hb
 have HLT:=Lib.hid hlt
 have hic:i ≤ c:=by omega
 have HI:=Lib.hid hi
 clear hs hg hT htk hb hlt hnm
 go_enter Tryz.func72,Tryz.ntmps72
 go_upto_region 2 with fail
 have f1:Fr noB w (w.alloc (codR.o r)):=(Fr.refl noB w).alloc _
 have q1:=rwAt (Cod.rd_new' (C:=codR) w r)
 have F1:=Lib.hid f1
 clear ro f1
 generalize w.alloc (codR.o r) = w1 at q1 F1 ⊢
 generalize w.heap.size = P at q1 ⊢
 have CS:=Lib.hid (contSh_any w1 (some ⟨g,off,none⟩) c i l HLT.out (HTK.out.fr0 F1.out) (by have:=HLT.out;have:=HI.out;have:=HLB.out;omega) (.pointer (some ⟨P,0,none⟩)) (fun k=>if h:k < l.length then decide ((l[k]).Name = r.Name) else false) (fun w' f k hk=>by
  have:=shown1_any w' l[k] r P (Cod.rd_fr0 q1.self f)
  simpa [hk] using this))
 have Q1:=Lib.hid q1
 clear q1
 go_upto_region 3 with (go_at_call 81;refine CS.out.mono ?_;rintro e w2 ⟨rfl,f2⟩;rw [HRT.out])
 have q2:=rwAt (Cod.rd_fr0 Q1.out.self f2)
 have qn:=q2.name
 have c0:w2.cell? ⟨P,0,none⟩ = some (.int .i64 r.Node.T):=by simpa using Cod.rd_cell q2.node 0 (v:=.int .i64 r.Node.T) rfl
 have c1:w2.cell? ⟨P,1,none⟩ = some (.int .i64 r.Node.R):=by simpa using Cod.rd_cell q2.node 1 (v:=.int .i64 r.Node.R) rfl
 have F2:=Lib.hid (F1.out.step0 f2)
 have hb1:(-9223372036854775808 ≤ r.Node.T ∧ r.Node.T ≤ 9223372036854775807) ∧ (-9223372036854775808 ≤ r.Node.R ∧ r.Node.R ≤ 9223372036854775807):=by
  unfold wfS at hw
  simp only [Bool.and_eq_true,decide_eq_true_eq] at hw
  exact ⟨⟨hw.1.1.1,hw.1.1.2⟩,hw.1.2,hw.2⟩
 have HW:=Lib.hid hb1
 clear q2 f2 hw hb1
 generalize (l.any fun x=>decide (x.Name = r.Name)) = tw at HSH ⊢
 have HNS:r.Name ++ sfxD r.Node = ((((r.Name ++ [126]) ++ Lib.itoa r.Node.T) ++ [46]) ++ Lib.itoa r.Node.R):=by unfold sfxD;simp
 have HN:=Lib.hid HNS
 clear HNS
 cases tw with
 | true =>
  have HCT:=Lib.hid (rfl:r.Name.contains 126 = r.Name.contains 126)
  have HRES:=Lib.hid (show res = r.Name ++ sfxD r.Node by rw [HSH.out];simp)
  go_upto_region 5 with (go_at_call 53;refine (tilde_any _ _).mono ?_;rintro e w3 ⟨rfl,f3⟩;rw [HCT.out])
  have fd:Fr noB w2 (w2).drew:=(Fr.refl noB _).drew
  have keep:∀ w' w'':World,Fr noB w' w'' → (w'.cell? ⟨P,6,none⟩ = some (.string (str r.Name)) ∧ w'.cell? ⟨P,0,none⟩ = some (.int .i64 r.Node.T) ∧ w'.cell? ⟨P,1,none⟩ = some (.int .i64 r.Node.R)) → (w''.cell? ⟨P,6,none⟩ = some (.string (str r.Name)) ∧ w''.cell? ⟨P,0,none⟩ = some (.int .i64 r.Node.T) ∧ w''.cell? ⟨P,1,none⟩ = some (.int .i64 r.Node.R)):=fun w' w'' f h=>⟨cell_fr0 h.1 f,cell_fr0 h.2.1 f,cell_fr0 h.2.2 f⟩
  have hF0:=keep w2 (w2).drew (fd) ⟨qn,c0,c1⟩
  have FD:=Lib.hid (F2.out.step0 (fd))
  clear qn c0 c1 fd
  refine wp_region_M 14 15 [⟨67108864,32,0⟩,⟨134217728,67108864,1⟩,⟨268435456,134217728,2⟩,⟨536870912,32,0⟩,⟨1073741824,536870912,8⟩,⟨2147483648,1073741824,16⟩,⟨4294967296,2147483648,32⟩,⟨8589934592,4563402752,68⟩,⟨17179869184,8589934592,128⟩,⟨34359738368,32,0⟩,⟨68719476736,34359738368,512⟩,⟨137438953472,68719476736,1024⟩,⟨274877906944,137438953472,2112⟩,⟨549755813888,292057776128,4352⟩,⟨16,549755813888,16383⟩] [(true,0),(true,1),(true,2),(true,3),(true,4),(true,5),(true,9),(true,10),(true,11),(false,6),(true,7),(true,8),(false,12),(true,13)] (fun w'=>w'.cell? ⟨P,6,none⟩ = some (.string (str r.Name)) ∧ w'.cell? ⟨P,0,none⟩ = some (.int .i64 r.Node.T) ∧ w'.cell? ⟨P,1,none⟩ = some (.int .i64 r.Node.R)) (by kernel_rfl) rfl (by kernel_rfl) (by kernel_rfl) (by kernel_rfl) hF0 (fun hA hF=>?_)
  clear hF0
  generalize (w2).drew = V at hF FD ⊢
  have L1:=Lib.itoa_length_le r.Node.T HW.out.1.1 HW.out.1.2
  have L2:=Lib.itoa_length_le r.Node.R HW.out.2.1 HW.out.2.2
  have z1:(str r.Name).size + (⟨#[126]⟩:ByteArray).size ≤ 9223372036854775807:=by rw [sz_str];have:=HNM.out;show _ + 1 ≤ _;omega
  have z2:(str r.Name ++ ⟨#[126]⟩:ByteArray).size + (str (Lib.itoa r.Node.T)).size ≤ 9223372036854775807:=by rw [ByteArray.size_append,sz_str,sz_str];have:=HNM.out;show _ + 1 + _ ≤ _;omega
  have z3:(str r.Name ++ ⟨#[126]⟩ ++ str (Lib.itoa r.Node.T):ByteArray).size + (⟨#[46]⟩:ByteArray).size ≤ 9223372036854775807:=by rw [ByteArray.size_append,ByteArray.size_append,sz_str,sz_str];have:=HNM.out;show _ + 1 + _ + 1 ≤ _;omega
  have z4:(str r.Name ++ ⟨#[126]⟩ ++ str (Lib.itoa r.Node.T) ++ ⟨#[46]⟩:ByteArray).size + (str (Lib.itoa r.Node.R)).size ≤ 9223372036854775807:=by rw [ByteArray.size_append,ByteArray.size_append,ByteArray.size_append,sz_str,sz_str,sz_str];have:=HNM.out;show _ + 1 + _ + 1 + _ ≤ _;omega
  have ZZ:=Lib.hid (And.intro z1 (And.intro z2 (And.intro z3 z4)))
  clear z1 z2 z3 z4 L1 L2
  iterate 2
   refine wpAnyS_take (v:=?_) hA rfl (fun _ _ _ h=>h) (Or.inl ⟨by rfl,?_⟩) hF (fun hA=>?_)
   rotate_left
   ·intro wS hSw;(try dsimp only at hSw);obtain ⟨s1,s2,s3⟩:=hSw;(go_simp;try with_reducible rfl)
   try simp only [sA1,sA2,sA3,Act.put,sA4,sA5,sA6]
  refine wpAnyS_take (v:=.string (str r.Name ++ ⟨#[126]⟩)) hA rfl (fun _ _ _ h=>h) (Or.inl ⟨by rfl,fun wS hSw=>ex_sadd_at rfl rfl rfl ZZ.out.1⟩) hF (fun hA=>?_)
  try simp only [sA1,sA2,sA3,Act.put,sA4,sA5,sA6]
  iterate 6
   refine wpAnyS_take (v:=?_) hA rfl (fun _ _ _ h=>h) (Or.inl ⟨by rfl,?_⟩) hF (fun hA=>?_)
   rotate_left
   ·intro wS hSw;(try dsimp only at hSw);obtain ⟨s1,s2,s3⟩:=hSw;(go_simp;try with_reducible rfl)
   try simp only [sA1,sA2,sA3,Act.put,sA4,sA5,sA6]
  refine wpAnyS_one hA rfl (fun K' hK=>?_)
  go_simp
  go_at_call 96
  refine (fmt_any V (HTB.out.fr FD.out) r.Node.T HW.out.1.1 HW.out.1.2).mono ?_
  rintro e w5 ⟨rfl,f5⟩
  replace hF:=keep _ _ f5 hF
  refine hK.out _ _ hF (fun hA=>?_)
  clear hK K'
  try simp only [sA1,sA2,sA3,Act.put,sA4,sA5,sA6]
  refine wpAnyS_take (v:=.string ((str r.Name ++ ⟨#[126]⟩) ++ str (Lib.itoa r.Node.T))) hA rfl (fun _ _ _ h=>h) (Or.inl ⟨by rfl,fun wS hSw=>ex_sadd_at rfl rfl rfl ZZ.out.2.1⟩) hF (fun hA=>?_)
  try simp only [sA1,sA2,sA3,Act.put,sA4,sA5,sA6]
  refine wpAnyS_take (v:=.string ((str r.Name ++ ⟨#[126]⟩ ++ str (Lib.itoa r.Node.T)) ++ ⟨#[46]⟩)) hA rfl (fun _ _ _ h=>h) (Or.inl ⟨by rfl,fun wS hSw=>ex_sadd_at rfl rfl rfl ZZ.out.2.2.1⟩) hF (fun hA=>?_)
  try simp only [sA1,sA2,sA3,Act.put,sA4,sA5,sA6]
  refine wpAnyS_one hA rfl (fun K' hK=>?_)
  go_simp
  go_at_call 97
  refine (itoa_any w5 (HTB.out.fr (FD.out.step0 f5)) r.Node.R HW.out.2.1 HW.out.2.2).mono ?_
  rintro e w6 ⟨rfl,f6⟩
  replace hF:=keep _ _ f6 hF
  refine hK.out _ _ hF (fun hA=>?_)
  clear hK K'
  try simp only [sA1,sA2,sA3,Act.put,sA4,sA5,sA6]
  refine wpAnyS_take (v:=.string ((str r.Name ++ ⟨#[126]⟩ ++ str (Lib.itoa r.Node.T) ++ ⟨#[46]⟩) ++ str (Lib.itoa r.Node.R))) hA rfl (fun _ _ _ h=>h) (Or.inl ⟨by rfl,fun wS hSw=>ex_sadd_at rfl rfl rfl ZZ.out.2.2.2⟩) hF (fun hA=>?_)
  try simp only [sA1,sA2,sA3,Act.put,sA4,sA5,sA6]
  refine wpAnyS_end hA rfl ?_
  simp only [List.drop_succ_cons,List.drop_zero]
  go_wp2_with fail
  go_ret
  refine ⟨?_,FD.out.step0 (f5.step0 f6)⟩
  rw [HRES.out,HN.out,← str_appW,← str_appW,← str_appW,← str_appW]
  rfl
 | false =>
  cases hct:r.Name.contains 126 with
  | true =>
   have HCT:=Lib.hid hct
   rw [hct] at HSH
   clear hct
   have HRES:=Lib.hid (show res = r.Name ++ sfxD r.Node by rw [HSH.out];simp)
   go_upto_region 5 with (go_at_call 53;refine (tilde_any _ _).mono ?_;rintro e w3 ⟨rfl,f3⟩;rw [HCT.out])
   have fd:Fr noB w3 (w3).drew:=(Fr.refl noB _).drew
   have keep:∀ w' w'':World,Fr noB w' w'' → (w'.cell? ⟨P,6,none⟩ = some (.string (str r.Name)) ∧ w'.cell? ⟨P,0,none⟩ = some (.int .i64 r.Node.T) ∧ w'.cell? ⟨P,1,none⟩ = some (.int .i64 r.Node.R)) → (w''.cell? ⟨P,6,none⟩ = some (.string (str r.Name)) ∧ w''.cell? ⟨P,0,none⟩ = some (.int .i64 r.Node.T) ∧ w''.cell? ⟨P,1,none⟩ = some (.int .i64 r.Node.R)):=fun w' w'' f h=>⟨cell_fr0 h.1 f,cell_fr0 h.2.1 f,cell_fr0 h.2.2 f⟩
   have hF0:=keep w2 (w3).drew (f3.step0 fd) ⟨qn,c0,c1⟩
   have FD:=Lib.hid (F2.out.step0 (f3.step0 fd))
   clear qn c0 c1 fd
   refine wp_region_M 14 15 [⟨67108864,32,0⟩,⟨134217728,67108864,1⟩,⟨268435456,134217728,2⟩,⟨536870912,32,0⟩,⟨1073741824,536870912,8⟩,⟨2147483648,1073741824,16⟩,⟨4294967296,2147483648,32⟩,⟨8589934592,4563402752,68⟩,⟨17179869184,8589934592,128⟩,⟨34359738368,32,0⟩,⟨68719476736,34359738368,512⟩,⟨137438953472,68719476736,1024⟩,⟨274877906944,137438953472,2112⟩,⟨549755813888,292057776128,4352⟩,⟨16,549755813888,16383⟩] [(true,0),(true,1),(true,2),(true,3),(true,4),(true,5),(true,9),(true,10),(true,11),(false,6),(true,7),(true,8),(false,12),(true,13)] (fun w'=>w'.cell? ⟨P,6,none⟩ = some (.string (str r.Name)) ∧ w'.cell? ⟨P,0,none⟩ = some (.int .i64 r.Node.T) ∧ w'.cell? ⟨P,1,none⟩ = some (.int .i64 r.Node.R)) (by kernel_rfl) rfl (by kernel_rfl) (by kernel_rfl) (by kernel_rfl) hF0 (fun hA hF=>?_)
   clear hF0
   generalize (w3).drew = V at hF FD ⊢
   have L1:=Lib.itoa_length_le r.Node.T HW.out.1.1 HW.out.1.2
   have L2:=Lib.itoa_length_le r.Node.R HW.out.2.1 HW.out.2.2
   have z1:(str r.Name).size + (⟨#[126]⟩:ByteArray).size ≤ 9223372036854775807:=by rw [sz_str];have:=HNM.out;show _ + 1 ≤ _;omega
   have z2:(str r.Name ++ ⟨#[126]⟩:ByteArray).size + (str (Lib.itoa r.Node.T)).size ≤ 9223372036854775807:=by rw [ByteArray.size_append,sz_str,sz_str];have:=HNM.out;show _ + 1 + _ ≤ _;omega
   have z3:(str r.Name ++ ⟨#[126]⟩ ++ str (Lib.itoa r.Node.T):ByteArray).size + (⟨#[46]⟩:ByteArray).size ≤ 9223372036854775807:=by rw [ByteArray.size_append,ByteArray.size_append,sz_str,sz_str];have:=HNM.out;show _ + 1 + _ + 1 ≤ _;omega
   have z4:(str r.Name ++ ⟨#[126]⟩ ++ str (Lib.itoa r.Node.T) ++ ⟨#[46]⟩:ByteArray).size + (str (Lib.itoa r.Node.R)).size ≤ 9223372036854775807:=by rw [ByteArray.size_append,ByteArray.size_append,ByteArray.size_append,sz_str,sz_str,sz_str];have:=HNM.out;show _ + 1 + _ + 1 + _ ≤ _;omega
   have ZZ:=Lib.hid (And.intro z1 (And.intro z2 (And.intro z3 z4)))
   clear z1 z2 z3 z4 L1 L2
   iterate 2
    refine wpAnyS_take (v:=?_) hA rfl (fun _ _ _ h=>h) (Or.inl ⟨by rfl,?_⟩) hF (fun hA=>?_)
    rotate_left
    ·intro wS hSw;(try dsimp only at hSw);obtain ⟨s1,s2,s3⟩:=hSw;(go_simp;try with_reducible rfl)
    try simp only [sA1,sA2,sA3,Act.put,sA4,sA5,sA6]
   refine wpAnyS_take (v:=.string (str r.Name ++ ⟨#[126]⟩)) hA rfl (fun _ _ _ h=>h) (Or.inl ⟨by rfl,fun wS hSw=>ex_sadd_at rfl rfl rfl ZZ.out.1⟩) hF (fun hA=>?_)
   try simp only [sA1,sA2,sA3,Act.put,sA4,sA5,sA6]
   iterate 6
    refine wpAnyS_take (v:=?_) hA rfl (fun _ _ _ h=>h) (Or.inl ⟨by rfl,?_⟩) hF (fun hA=>?_)
    rotate_left
    ·intro wS hSw;(try dsimp only at hSw);obtain ⟨s1,s2,s3⟩:=hSw;(go_simp;try with_reducible rfl)
    try simp only [sA1,sA2,sA3,Act.put,sA4,sA5,sA6]
   refine wpAnyS_one hA rfl (fun K' hK=>?_)
   go_simp
   go_at_call 96
   refine (fmt_any V (HTB.out.fr FD.out) r.Node.T HW.out.1.1 HW.out.1.2).mono ?_
   rintro e w5 ⟨rfl,f5⟩
   replace hF:=keep _ _ f5 hF
   refine hK.out _ _ hF (fun hA=>?_)
   clear hK K'
   try simp only [sA1,sA2,sA3,Act.put,sA4,sA5,sA6]
   refine wpAnyS_take (v:=.string ((str r.Name ++ ⟨#[126]⟩) ++ str (Lib.itoa r.Node.T))) hA rfl (fun _ _ _ h=>h) (Or.inl ⟨by rfl,fun wS hSw=>ex_sadd_at rfl rfl rfl ZZ.out.2.1⟩) hF (fun hA=>?_)
   try simp only [sA1,sA2,sA3,Act.put,sA4,sA5,sA6]
   refine wpAnyS_take (v:=.string ((str r.Name ++ ⟨#[126]⟩ ++ str (Lib.itoa r.Node.T)) ++ ⟨#[46]⟩)) hA rfl (fun _ _ _ h=>h) (Or.inl ⟨by rfl,fun wS hSw=>ex_sadd_at rfl rfl rfl ZZ.out.2.2.1⟩) hF (fun hA=>?_)
   try simp only [sA1,sA2,sA3,Act.put,sA4,sA5,sA6]
   refine wpAnyS_one hA rfl (fun K' hK=>?_)
   go_simp
   go_at_call 97
   refine (itoa_any w5 (HTB.out.fr (FD.out.step0 f5)) r.Node.R HW.out.2.1 HW.out.2.2).mono ?_
   rintro e w6 ⟨rfl,f6⟩
   replace hF:=keep _ _ f6 hF
   refine hK.out _ _ hF (fun hA=>?_)
   clear hK K'
   try simp only [sA1,sA2,sA3,Act.put,sA4,sA5,sA6]
   refine wpAnyS_take (v:=.string ((str r.Name ++ ⟨#[126]⟩ ++ str (Lib.itoa r.Node.T) ++ ⟨#[46]⟩) ++ str (Lib.itoa r.Node.R))) hA rfl (fun _ _ _ h=>h) (Or.inl ⟨by rfl,fun wS hSw=>ex_sadd_at rfl rfl rfl ZZ.out.2.2.2⟩) hF (fun hA=>?_)
   try simp only [sA1,sA2,sA3,Act.put,sA4,sA5,sA6]
   refine wpAnyS_end hA rfl ?_
   simp only [List.drop_succ_cons,List.drop_zero]
   go_wp2_with fail
   go_ret
   refine ⟨?_,FD.out.step0 (f5.step0 f6)⟩
   rw [HRES.out,HN.out,← str_appW,← str_appW,← str_appW,← str_appW]
   rfl
  | false =>
   have HCT:=Lib.hid hct
   rw [hct] at HSH
   clear hct
   have HRES:=Lib.hid (show res = r.Name by rw [HSH.out];simp)
   go_upto_region 4 with (go_at_call 53;refine (tilde_any _ _).mono ?_;rintro e w3 ⟨rfl,f3⟩;rw [HCT.out])
   have qn3:=cell_fr0 qn f3
   go_wp2_with fail
   go_ret
   exact ⟨by rw [HRES.out];rfl,F2.out.step0 f3⟩
end Go.Proofs.YthehiobacjjakaaGreatDoor
