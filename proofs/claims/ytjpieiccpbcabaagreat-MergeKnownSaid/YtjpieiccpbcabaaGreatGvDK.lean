/- Contracts: the closure of grove's do, IndexFunc and DeleteFunc of heads with it. (ex_ldS_at) -/
import Derived.Test.YtjpieiccpbcabaaGreatGvCK
import Derived.Test.YtjpieiccpbcabaaGreatGvPK
namespace Go.Proofs.YtjpieiccpbcabaaGreat
open Go.RowKit
set_option linter.unusedVariables false
set_option linter.unusedSimpArgs false

set_option maxRecDepth 100000 in
theorem gvDo1_any (w:World) (O:Nat) (OA:Option Addr) (on oc:Nat) (ov:List St) (ho:w.cell? ⟨O,40,none⟩ = some (.slice OA on oc)) (hon:ov.length = on) (hs:Sl w OA (codS.row ov)) (hb:ov.length ≤ 140737488355328) (h:Hd) :
  Calls Tryz.prog 140 #[.agg (codH.A h),.pointer (some ⟨O,0,none⟩)] w (Gives w (.bool (decide (h.At ∈ ov)))):=by
 have f0:Fr noB w (w.alloc (.cells (codH.A h) 149)):=(Fr.refl noB w).alloc _
 have q1:=(hdAt (Cod.rd_new (C:=codH) w 149 h)).At
 have q2:=cell_fr0 ho f0
 have HC:=Lib.hid (ctStamps_any _ OA oc on ov hon (hs.fr0 f0) hb h.At)
 go_enter Tryz.func140,Tryz.ntmps140
 go_wp2_with (go_at_call 141;refine HC.out.mono ?_;rintro e w5 ⟨rfl,f5⟩)
 go_ret
 exact ⟨rfl,f0.step0 f5⟩
def FstI (n:Nat) (p:Nat → Bool) (z:Int):Prop:=(∃ i:Nat,i < n ∧ z = (i:Int) ∧ p i = true ∧ ∀ j,j < i → p j = false) ∨ (z = -1 ∧ ∀ j,j < n → p j = false)
def FiTo (w:World) (n:Nat) (p:Nat → Bool) (e:Ending) (w':World):Prop:=∃ z:Int,e = .returned (.int .i64 z) ∧ FstI n p z ∧ Fr noB w w'
set_option maxRecDepth 100000 in
set_option maxHeartbeats 1000000 in
theorem idxHeads_any (w:World) (A:Option Addr) (c n:Nat) (l:List Hd) (hn:l.length = n) (hs:Sl w A (codH.row l)) (hb:l.length ≤ 140737488355328) (cp:Value) (p:Nat → Bool)
  (hf:∀ w',Fr noB w w' → ∀ i (hi:i < l.length),Calls Tryz.prog 140 #[.agg (codH.A l[i]),cp] w' (Gives w' (.bool (p i)))) :
  Calls Tryz.prog 165 #[.slice A n c,.func (.func 140) #[] #[cp]] w (FiTo w l.length p):=by
 subst hn
 go_enter Tryz.func165,Tryz.ntmps165
 go_wp2_with fail
 go_loopg [8] l.length (fun gk iv wr=>IxR w l.length p gk iv wr)
 case atStart=>exact ⟨0,rfl,by omega,by omega,fun j hj=>absurd hj (by omega),Fr.refl _ _⟩
 case round =>
  obtain ⟨k,rfl,rfl,hk,hj,hf0⟩:=hrel
  have HJ:=Lib.hid hj
  clear hj
  by_cases hlt:k < l.length
  ·have i1:(k:Int) < (l.length:Int):=by omega
   have i0:(0:Int) ≤ (k:Int):=by omega
   obtain ⟨g,off,rfl,hg⟩:=hs.adC (by omega)
   have e1:codH.rd wr g (off + k * 34) = some l[k]:=(hs.fr0 hf0).rd k hlt
   have hc:=hf wr hf0 k hlt
   generalize l[k] = x at e1 hc
   by_cases hp:p k = true
   ·rw [hp] at hc
    have HP:=Lib.hid hp
    clear hp
    go_wp2_with (go_at_call 140;refine hc.mono ?_;rintro e w1 ⟨rfl,f1⟩)
    go_ret
    exact ⟨k,rfl,.inl ⟨k,hlt,rfl,HP.out,HJ.out⟩,hf0.step0 f1⟩
   ·have hp':p k = false:=by simpa using hp
    rw [hp'] at hc
    have HP:=Lib.hid hp'
    clear hp hp'
    go_wp2_with (go_at_call 140;refine hc.mono ?_;rintro e w1 ⟨rfl,f1⟩)
    go_roundg (l.length - (k + 1))
    case measure=>omega
    case rel=>exact ⟨k + 1,by simp,rfl,by omega,fun j hj=>by
     rcases Nat.lt_or_ge j k with h | h
     ·exact HJ.out j h
     ·have:j = k:=by omega
      rw [this];exact HP.out,hf0.step0 f1⟩
  ·have hkl:k = l.length:=by omega
   subst hkl
   have i1:¬ (l.length:Int) < (l.length:Int):=by omega
   go_wp2_with fail
   go_ret
   exact ⟨-1,rfl,.inr ⟨rfl,HJ.out⟩,hf0⟩
def DelTo (w0:World) (l:List Hd) (e:Ending) (w':World):Prop:=∃ A c,e = .returned (.slice A l.length c) ∧ OwnC codH w0 w' A c l ∧ Fr noB w0 w' ∧ l.length ≤ c
def DelR (w0:World) (A:Option Addr) (c g:Nat) (ov:List St) (l:List Hd) (gk:Nat) (iv jv:Value) (wr:World):Prop :=
 ∃ (m j:Nat) (d:List Hd),iv = .int .i64 (m:Int) ∧ jv = .int .i64 (j:Int) ∧ gk = l.length - j ∧ m < j ∧ j ≤ l.length ∧ d.length = l.length ∧ OwnC codH w0 wr A c d ∧ d.take m = leftH ov (l.take j) ∧ d.drop j = l.drop j ∧ Fr noB w0 wr
theorem leftH_none {ov:List St} {l:List Hd} {k:Nat} (hk:k ≤ l.length) (h:∀ j (hj:j < l.length),j < k → decide ((l[j]).At ∈ ov) = false):leftH ov (l.take k) = l.take k:=by
 unfold leftH
 rw [List.filter_eq_self]
 intro x hx
 obtain ⟨j,hj,rfl⟩:=List.getElem_of_mem hx
 rw [List.getElem_take]
 have hj':j < k:=by rw [List.length_take] at hj;omega
 rw [h j (by omega) hj'];rfl
theorem leftH_succ (ov:List St) (l:List Hd) (k:Nat) (hk:k < l.length):leftH ov (l.take (k + 1)) = leftH ov (l.take k) ++ (if decide ((l[k]).At ∈ ov) = true then [] else [l[k]]):=by
 unfold leftH
 rw [List.take_succ_eq_append_getElem hk,List.filter_append]
 congr 1
 cases h:decide ((l[k]).At ∈ ov) <;> simp [h]
set_option maxRecDepth 100000 in
set_option maxHeartbeats 4000000 in
theorem delHeads_any (w0 w:World) (fw:Fr noB w0 w) (A:Option Addr) (c n:Nat) (l:List Hd) (hn:l.length = n) (hown:OwnC codH w0 w A c l) (hcap:l.length ≤ c) (hb:l.length ≤ 2932031007402)
  (O:Nat) (OA:Option Addr) (on oc:Nat) (ov:List St) (ho:w0.cell? ⟨O,40,none⟩ = some (.slice OA on oc)) (hon:ov.length = on) (hs:Sl w0 OA (codS.row ov)) (hob:ov.length ≤ 140737488355328) :
  Calls Tryz.prog 139 #[.slice A n c,.func (.func 140) #[] #[.pointer (some ⟨O,0,none⟩)]] w (DelTo w0 (leftH ov l)):=by
 subst hn
 have HC:=Lib.hid (fun w' (f:Fr noB w0 w') h=>gvDo1_any w' O OA on oc ov (cell_fr0 ho f) hon (hs.fr0 f) hob h)
 have HI:=Lib.hid (idxHeads_any w A c l.length l rfl (Sl.own hown) (by omega) (.pointer (some ⟨O,0,none⟩)) (fun i=>if h:i < l.length then decide ((l[i]).At ∈ ov) else false) (fun w' f i hi=>by
  have:=HC.out w' (fw.step0 f) l[i]
  simpa [hi] using this))
 have hown0:=Lib.hid hown
 go_enter Tryz.func139,Tryz.ntmps139
 go_upto_region 2 with (go_at_call 165;refine HI.out.mono ?_;rintro e w1 ⟨z,rfl,hz,f1⟩)
 replace hown:=own_new0 hown f1
 replace fw:=fw.step0 f1
 clear HI hown0 f1
 rcases hz with ⟨i,hi,rfl,hp,hlo⟩ | ⟨rfl,hno⟩
 ·have hne:¬ ((i:Int) = -1):=by omega
  have hne2:((i:Int) == -1) = false:=by rw [beq_eq_false_iff_ne];omega
  have hl0:l ≠ []:=by intro h;rw [h] at hi;simp at hi
  obtain ⟨g,rfl,hg,_,_,_⟩:=RwA.own hown hl0
  have wi:IntKind.i64.wrap ((i:Int) + 1) = ((i + 1:Nat):Int):=by rw [IntKind.wrap_i64];omega
  have HS:=Lib.hid (show l.take i = leftH ov (l.take (i + 1)) by
   rw [leftH_succ ov l i hi,leftH_none (by omega) (fun j h1 h2=>by have:=hlo j h2;simpa [h1] using this)]
   have:decide ((l[i]).At ∈ ov) = true:=by simpa [hi] using hp
   rw [this];simp)
  clear hp hlo
  go_wp2_with fail
  clear wi hne hne2
  go_loopg [5,6] (l.length - (i + 1)) (fun gk iv jv wr=>DelR w0 (some ⟨g,0,none⟩) c g ov l gk iv jv wr)
  case atStart=>exact ⟨i,i + 1,l,rfl,by simp,rfl,by omega,by omega,rfl,hown,HS.out,rfl,fw⟩
  case round =>
   clear hown fw HS
   obtain ⟨m,j,d,rfl,rfl,rfl,hmj,hjl,hdl,hod,hdt,hdd,hfr⟩:=hrel
   have HDT:=Lib.hid hdt
   have HDD:=Lib.hid hdd
   clear hdt hdd
   by_cases hlt:j < l.length
   ·have i1:(j:Int) < (l.length:Int):=by omega
    have i0:(0:Int) ≤ (j:Int):=by omega
    obtain ⟨_,e0,_,_,_,hR⟩:=RwA.own hod (by intro h;rw [h] at hdl;simp at hdl;omega)
    injection e0 with e0
    injection e0 with e0
    subst e0
    have hdj:d[j]'(by omega) = l[j]:=by
     have h1:(d.drop j)[0]? = (l.drop j)[0]?:=by rw [HDD.out]
     rw [List.getElem?_drop,List.getElem?_drop,Nat.add_zero,List.getElem?_eq_getElem (by omega),List.getElem?_eq_getElem hlt] at h1
     injection h1
    have e1:codH.rd wr g (j * 34) = some l[j]:=by
     have:=(Sl.own hod).rd j (by omega)
     rw [hdj] at this
     simpa [show codH.n = 34 from rfl] using this
    have hsc:=leftH_succ ov l j hlt
    have hc:=fun w' (f:Fr noB wr w')=>HC.out w' (hfr.step0 f) l[j]
    have hdrop:d.drop (j + 1) = l.drop (j + 1):=by
     have:=congrArg (List.drop 1) HDD.out
     rwa [List.drop_drop,List.drop_drop] at this
    have HDR:=Lib.hid hdrop
    generalize l[j] = x at e1 hsc hc hdj
    have fa:Fr noB wr (wr.alloc (codH.o x)):=(Fr.refl noB wr).alloc _
    have n1:=Cod.rd_new' (C:=codH) wr x
    have hc':=hc _ fa
    obtain ⟨b,hbb⟩:∃ b,b = decide (x.At ∈ ov):=⟨_,rfl⟩
    rw [← hbb] at hc' hsc
    have HSC:=Lib.hid hsc
    clear hsc hc hbb hdrop hdj hR
    cases b with
    | true =>
     go_wp2_with (go_at_call 140;refine hc'.mono ?_;rintro e w2 ⟨rfl,f2⟩)
     go_roundg (l.length - (j + 1))
     case measure=>omega
     case rel=>exact ⟨m,j + 1,d,rfl,by simp,rfl,by omega,by omega,hdl,own_new0 (own_new0 hod fa) f2,by rw [HDT.out,HSC.out];simp,HDR.out,(hfr.step0 fa).step0 f2⟩
    | false =>
     go_upto_region 9 with (go_at_call 140;refine hc'.mono ?_;rintro e w2 ⟨rfl,f2⟩)
     have n2:=Cod.rd_fr0 n1 f2
     have hod2:=own_new0 (own_new0 hod fa) f2
     have hfr2:=(hfr.step0 fa).step0 f2
     have hmd:m < d.length:=by omega
     obtain ⟨_,e0,_,_,_,hR⟩:=RwA.own hod2 (by intro h;rw [h] at hmd;simp at hmd)
     injection e0 with e0
     injection e0 with e0
     subst e0
     have hst:=hR.st okH m (by simpa using hmd) x
     obtain ⟨o3,f3⟩:=OwnC.set hod2 rfl m hmd x
     have j2:(0:Int) ≤ (m:Int):=by omega
     have j3:(m:Int) < (l.length:Int):=by omega
     have HO:=Lib.hid o3
     have HF:=Lib.hid f3
     clear o3 f3 hR hod e1 fa n1 hod2
     have hcn:codH.n = 34:=rfl
     rw [hcn] at hst HO HF
     have wm1:IntKind.i64.wrap ((m:Int) + 1) = ((m + 1:Nat):Int):=by rw [IntKind.wrap_i64];omega
     go_wp2_with fail
     go_roundg (l.length - (j + 1))
     case measure=>omega
     case rel =>
      refine ⟨m + 1,j + 1,d.set m x,by simp,by simp,rfl,by omega,by omega,by simp [hdl],HO.out,?_,?_,hfr2.step1 HF.out hg⟩
      ·have h1:m < (d.set m x).length:=by simpa using hmd
       rw [HSC.out,← HDT.out,List.take_succ_eq_append_getElem h1]
       simp [List.take_set_of_le]
      ·rw [List.drop_set_of_lt (by omega)]
       exact HDR.out
   ·have hjl2:j = l.length:=by omega
    subst hjl2
    have i1:¬ (l.length:Int) < (l.length:Int):=by omega
    have k1:(0:Int) ≤ (m:Int):=by omega
    have k2:(m:Int) ≤ (l.length:Int):=by omega
    have k3:(m:Int) ≤ (c:Int):=by omega
    have hHD:=Lib.hid (show d.take m = leftH ov l by rw [HDT.out,List.take_length])
    have hml:(leftH ov l).length = m:=by
     rw [← hHD.out,List.length_take];omega
    have HML:=Lib.hid hml
    clear HDT HDD hml
    have hclr:=fun cc=>OwnC.clear okH Tryz.underlying108 hod rfl m (l.length - m) cc (by omega) (by omega)
    obtain ⟨o4,f4⟩:=OwnC.sets hod rfl m (List.replicate (l.length - m) codH.z) (by simp;omega) (by intro h;rw [h] at hdl;simp at hdl;omega)
    have hcn:codH.n = 34:=rfl
    rw [hcn] at hclr o4 f4
    have HO:=Lib.hid (OwnC.pre o4 m (by simp;omega))
    have HF:=Lib.hid f4
    clear o4 f4 hod
    go_wp2_with fail
    have he:(d.take m ++ List.replicate (l.length - m) codH.z ++ d.drop (m + (List.replicate (l.length - m) codH.z).length)).take m = leftH ov l:=by
     rw [List.append_assoc,List.take_left' (by rw [List.length_take];omega)]
     exact hHD.out
    have HO2:=HO.out
    rw [he] at HO2
    go_ret
    exact ⟨some ⟨g,0,none⟩,c,by rw [HML.out];rfl,HO2,hfr.step1 HF.out hg,by rw [HML.out];omega⟩
 ·have hid:leftH ov l = l:=by
   have:=leftH_none (ov:=ov) (l:=l) (k:=l.length) (Nat.le_refl _) (fun j h1 h2=>by have:=hno j h1;simpa [h1] using this)
   rwa [List.take_length] at this
  have HID:=Lib.hid hid
  clear hid hno
  go_wp2_with fail
  go_ret
  unfold DelTo
  rw [HID.out]
  exact ⟨A,c,rfl,hown,fw,hcap⟩
end Go.Proofs.YtjpieiccpbcabaaGreat
