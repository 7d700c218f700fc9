/- Contracts: the closure of grove's do, IndexFunc and DeleteFunc of heads with it. (ex_ldS_at) A tree (grove) in memory; contracts: fixed, above, undo. (ex_ldS_at, ex_ldR_at) Contracts: grove's above, undo. (ex_ldS_at, ex_ldR_at) Contract: grove's do. (ex_ldS_at, ex_ldR_at) Contracts: the closure of grove's Insert; slices.Backward of what has been done. (ex_ldS_at, ex_ldD_at) A tree of operations (grove) in memory; the range over what is undone. (ex_ldS_at, ex_ldD_at) A tree under change: what Insert and Clone hold in between. -/
import Derived.Test.YtjpieiccpbcabaaGreatGvCKu
import Derived.Test.YtjpieiccpbcabaaGreatGvPKu
import Derived.Test.YtjpieiccpbcabaaGreatGvMKu
import Derived.Test.YtjpieiccpbcabaaGreatTreeSKu
import Derived.Test.YtjpieiccpbcabaaGreatRdCKu
import Derived.RangeFuncNested
import Derived.RangeFuncBound
import Derived.RangeFuncCalls
import Derived.RangeFuncLeaves
import Derived.Shelf.Abstract
import Derived.Shelf.RegionOpen
import Derived.WalkKit
import Derived.OwnWalkIn
import Derived.TacticsInMore
import Derived.LoopNIn
import Derived.LoopIn
set_option linter.unusedVariables false
set_option linter.unusedSimpArgs false
namespace Go.Proofs.YtjpieiccpbcabaaGreat
open Go.RowKit
set_option maxRecDepth 100000 in
theorem gvDo1_any (w:World) (O:Nat) (OA:Option Addr) (on oc:Nat) (ov:List St) (ho:w.cell? ⟨O,40,none⟩ = some (.slice OA on oc)) (hon:ov.length = on) (hs:Sl w OA (codS.row ov)) (hb:ov.length ≤ 140737488355328) (h:Hd) :
  Calls Tryz.prog 140 #[.agg (codH.A h),.pointer (some ⟨O,0,none⟩)] w (Gives w (.bool (decide (h.At ∈ ov)))):=by
 have f0:Fr noB w (w.alloc (.cells (codH.A h) 149)):=(Fr.refl noB w).alloc _
 have q1:=(hdAt (Cod.rd_new (C:=codH) w 149 h)).At
 have q2:=cell_fr0 ho f0
 have HC:=Lib.hid (ctStamps_any _ OA oc on ov hon (hs.fr0 f0) hb h.At)
 go_enter Tryz.func140,Tryz.ntmps140
 go_wp2_with (go_at_call 141;refine HC.out.mono ?_;rintro e w5 ⟨rfl,f5⟩)
 go_ret
 exact ⟨rfl,f0.step0 f5⟩
def FstI (n:Nat) (p:Nat → Bool) (z:Int):Prop:=(∃ i:Nat,i < n ∧ z = (i:Int) ∧ p i = true ∧ ∀ j,j < i → p j = false) ∨ (z = -1 ∧ ∀ j,j < n → p j = false)
def FiTo (w:World) (n:Nat) (p:Nat → Bool) (e:Ending) (w':World):Prop:=∃ z:Int,e = .returned (.int .i64 z) ∧ FstI n p z ∧ Fr noB w w'
set_option maxRecDepth 100000 in
set_option maxHeartbeats 1000000 in
theorem idxHeads_any (w:World) (A:Option Addr) (c n:Nat) (l:List Hd) (hn:l.length = n) (hs:Sl w A (codH.row l)) (hb:l.length ≤ 140737488355328) (cp:Value) (p:Nat → Bool)
  (hf:∀ w',Fr noB w w' → ∀ i (hi:i < l.length),Calls Tryz.prog 140 #[.agg (codH.A l[i]),cp] w' (Gives w' (.bool (p i)))) :
  Calls Tryz.prog 165 #[.slice A n c,.func (.func 140) #[] #[cp]] w (FiTo w l.length p):=by
 subst hn
 go_enter Tryz.func165,Tryz.ntmps165
 go_wp2_with fail
 go_loopg [8] l.length (fun gk iv wr=>IxR w l.length p gk iv wr)
 case atStart=>exact ⟨0,rfl,by omega,by omega,fun j hj=>absurd hj (by omega),Fr.refl _ _⟩
 case round =>
  obtain ⟨k,rfl,rfl,hk,hj,hf0⟩:=hrel
  have HJ:=Lib.hid hj
  clear hj
  by_cases hlt:k < l.length
  ·have i1:(k:Int) < (l.length:Int):=by omega
   have i0:(0:Int) ≤ (k:Int):=by omega
   obtain ⟨g,off,rfl,hg⟩:=hs.adC (by omega)
   have e1:codH.rd wr g (off + k * 34) = some l[k]:=(hs.fr0 hf0).rd k hlt
   have hc:=hf wr hf0 k hlt
   generalize l[k] = x at e1 hc
   by_cases hp:p k = true
   ·rw [hp] at hc
    have HP:=Lib.hid hp
    clear hp
    go_wp2_with (go_at_call 140;refine hc.mono ?_;rintro e w1 ⟨rfl,f1⟩)
    go_ret
    exact ⟨k,rfl,.inl ⟨k,hlt,rfl,HP.out,HJ.out⟩,hf0.step0 f1⟩
   ·have hp':p k = false:=by simpa using hp
    rw [hp'] at hc
    have HP:=Lib.hid hp'
    clear hp hp'
    go_wp2_with (go_at_call 140;refine hc.mono ?_;rintro e w1 ⟨rfl,f1⟩)
    go_roundg (l.length - (k + 1))
    case measure=>omega
    case rel=>exact ⟨k + 1,by simp,rfl,by omega,fun j hj=>by
     rcases Nat.lt_or_ge j k with h | h
     ·exact HJ.out j h
     ·have:j = k:=by omega
      rw [this];exact HP.out,hf0.step0 f1⟩
  ·have hkl:k = l.length:=by omega
   subst hkl
   have i1:¬ (l.length:Int) < (l.length:Int):=by omega
   go_wp2_with fail
   go_ret
   exact ⟨-1,rfl,.inr ⟨rfl,HJ.out⟩,hf0⟩
def DelTo (w0:World) (l:List Hd) (e:Ending) (w':World):Prop:=∃ A c,e = .returned (.slice A l.length c) ∧ OwnC codH w0 w' A c l ∧ Fr noB w0 w' ∧ l.length ≤ c
def DelR (w0:World) (A:Option Addr) (c g:Nat) (ov:List St) (l:List Hd) (gk:Nat) (iv jv:Value) (wr:World):Prop :=
 ∃ (m j:Nat) (d:List Hd),iv = .int .i64 (m:Int) ∧ jv = .int .i64 (j:Int) ∧ gk = l.length - j ∧ m < j ∧ j ≤ l.length ∧ d.length = l.length ∧ OwnC codH w0 wr A c d ∧ d.take m = leftH ov (l.take j) ∧ d.drop j = l.drop j ∧ Fr noB w0 wr
theorem leftH_none {ov:List St} {l:List Hd} {k:Nat} (hk:k ≤ l.length) (h:∀ j (hj:j < l.length),j < k → decide ((l[j]).At ∈ ov) = false):leftH ov (l.take k) = l.take k:=by
 unfold leftH
 rw [List.filter_eq_self]
 intro x hx
 obtain ⟨j,hj,rfl⟩:=List.getElem_of_mem hx
 rw [List.getElem_take]
 have hj':j < k:=by rw [List.length_take] at hj;omega
 rw [h j (by omega) hj'];rfl
theorem leftH_succ (ov:List St) (l:List Hd) (k:Nat) (hk:k < l.length):leftH ov (l.take (k + 1)) = leftH ov (l.take k) ++ (if decide ((l[k]).At ∈ ov) = true then [] else [l[k]]):=by
 unfold leftH
 rw [List.take_succ_eq_append_getElem hk,List.filter_append]
 congr 1
 cases h:decide ((l[k]).At ∈ ov) <;> simp [h]
set_option maxRecDepth 100000 in
set_option maxHeartbeats 4000000 in
theorem delHeads_any (w0 w:World) (fw:Fr noB w0 w) (A:Option Addr) (c n:Nat) (l:List Hd) (hn:l.length = n) (hown:OwnC codH w0 w A c l) (hcap:l.length ≤ c) (hb:l.length ≤ 2932031007402)
  (O:Nat) (OA:Option Addr) (on oc:Nat) (ov:List St) (ho:w0.cell? ⟨O,40,none⟩ = some (.slice OA on oc)) (hon:ov.length = on) (hs:Sl w0 OA (codS.row ov)) (hob:ov.length ≤ 140737488355328) :
  Calls Tryz.prog 139 #[.slice A n c,.func (.func 140) #[] #[.pointer (some ⟨O,0,none⟩)]] w (DelTo w0 (leftH ov l)):=by
 subst hn
 have HC:=Lib.hid (fun w' (f:Fr noB w0 w') h=>gvDo1_any w' O OA on oc ov (cell_fr0 ho f) hon (hs.fr0 f) hob h)
 have HI:=Lib.hid (idxHeads_any w A c l.length l rfl (Sl.own hown) (by omega) (.pointer (some ⟨O,0,none⟩)) (fun i=>if h:i < l.length then decide ((l[i]).At ∈ ov) else false) (fun w' f i hi=>by
  have:=HC.out w' (fw.step0 f) l[i]
  simpa [hi] using this))
 have hown0:=Lib.hid hown
 go_enter Tryz.func139,Tryz.ntmps139
 go_upto_region 2 with (go_at_call 165;refine HI.out.mono ?_;rintro e w1 ⟨z,rfl,hz,f1⟩)
 replace hown:=own_new0 hown f1
 replace fw:=fw.step0 f1
 clear HI hown0 f1
 rcases hz with ⟨i,hi,rfl,hp,hlo⟩ | ⟨rfl,hno⟩
 ·have hne:¬ ((i:Int) = -1):=by omega
  have hne2:((i:Int) == -1) = false:=by rw [beq_eq_false_iff_ne];omega
  have hl0:l ≠ []:=by intro h;rw [h] at hi;simp at hi
  obtain ⟨g,rfl,hg,_,_,_⟩:=RwA.own hown hl0
  have wi:IntKind.i64.wrap ((i:Int) + 1) = ((i + 1:Nat):Int):=by rw [IntKind.wrap_i64];omega
  have HS:=Lib.hid (show l.take i = leftH ov (l.take (i + 1)) by
   rw [leftH_succ ov l i hi,leftH_none (by omega) (fun j h1 h2=>by have:=hlo j h2;simpa [h1] using this)]
   have:decide ((l[i]).At ∈ ov) = true:=by simpa [hi] using hp
   rw [this];simp)
  clear hp hlo
  go_wp2_with fail
  clear wi hne hne2
  go_loopg [5,6] (l.length - (i + 1)) (fun gk iv jv wr=>DelR w0 (some ⟨g,0,none⟩) c g ov l gk iv jv wr)
  case atStart=>exact ⟨i,i + 1,l,rfl,by simp,rfl,by omega,by omega,rfl,hown,HS.out,rfl,fw⟩
  case round =>
   clear hown fw HS
   obtain ⟨m,j,d,rfl,rfl,rfl,hmj,hjl,hdl,hod,hdt,hdd,hfr⟩:=hrel
   have HDT:=Lib.hid hdt
   have HDD:=Lib.hid hdd
   clear hdt hdd
   by_cases hlt:j < l.length
   ·have i1:(j:Int) < (l.length:Int):=by omega
    have i0:(0:Int) ≤ (j:Int):=by omega
    obtain ⟨_,e0,_,_,_,hR⟩:=RwA.own hod (by intro h;rw [h] at hdl;simp at hdl;omega)
    injection e0 with e0
    injection e0 with e0
    subst e0
    have hdj:d[j]'(by omega) = l[j]:=by
     have h1:(d.drop j)[0]? = (l.drop j)[0]?:=by rw [HDD.out]
     rw [List.getElem?_drop,List.getElem?_drop,Nat.add_zero,List.getElem?_eq_getElem (by omega),List.getElem?_eq_getElem hlt] at h1
     injection h1
    have e1:codH.rd wr g (j * 34) = some l[j]:=by
     have:=(Sl.own hod).rd j (by omega)
     rw [hdj] at this
     simpa [show codH.n = 34 from rfl] using this
    have hsc:=leftH_succ ov l j hlt
    have hc:=fun w' (f:Fr noB wr w')=>HC.out w' (hfr.step0 f) l[j]
    have hdrop:d.drop (j + 1) = l.drop (j + 1):=by
     have:=congrArg (List.drop 1) HDD.out
     rwa [List.drop_drop,List.drop_drop] at this
    have HDR:=Lib.hid hdrop
    generalize l[j] = x at e1 hsc hc hdj
    have fa:Fr noB wr (wr.alloc (codH.o x)):=(Fr.refl noB wr).alloc _
    have n1:=Cod.rd_new' (C:=codH) wr x
    have hc':=hc _ fa
    obtain ⟨b,hbb⟩:∃ b,b = decide (x.At ∈ ov):=⟨_,rfl⟩
    rw [← hbb] at hc' hsc
    have HSC:=Lib.hid hsc
    clear hsc hc hbb hdrop hdj hR
    cases b with
    | true =>
     go_wp2_with (go_at_call 140;refine hc'.mono ?_;rintro e w2 ⟨rfl,f2⟩)
     go_roundg (l.length - (j + 1))
     case measure=>omega
     case rel=>exact ⟨m,j + 1,d,rfl,by simp,rfl,by omega,by omega,hdl,own_new0 (own_new0 hod fa) f2,by rw [HDT.out,HSC.out];simp,HDR.out,(hfr.step0 fa).step0 f2⟩
    | false =>
     go_upto_region 9 with (go_at_call 140;refine hc'.mono ?_;rintro e w2 ⟨rfl,f2⟩)
     have n2:=Cod.rd_fr0 n1 f2
     have hod2:=own_new0 (own_new0 hod fa) f2
     have hfr2:=(hfr.step0 fa).step0 f2
     have hmd:m < d.length:=by omega
     obtain ⟨_,e0,_,_,_,hR⟩:=RwA.own hod2 (by intro h;rw [h] at hmd;simp at hmd)
     injection e0 with e0
     injection e0 with e0
     subst e0
     have hst:=hR.st okH m (by simpa using hmd) x
     obtain ⟨o3,f3⟩:=OwnC.set hod2 rfl m hmd x
     have j2:(0:Int) ≤ (m:Int):=by omega
     have j3:(m:Int) < (l.length:Int):=by omega
     have HO:=Lib.hid o3
     have HF:=Lib.hid f3
     clear o3 f3 hR hod e1 fa n1 hod2
     have hcn:codH.n = 34:=rfl
     rw [hcn] at hst HO HF
     have wm1:IntKind.i64.wrap ((m:Int) + 1) = ((m + 1:Nat):Int):=by rw [IntKind.wrap_i64];omega
     go_wp2_with fail
     go_roundg (l.length - (j + 1))
     case measure=>omega
     case rel =>
      refine ⟨m + 1,j + 1,d.set m x,by simp,by simp,rfl,by omega,by omega,by simp [hdl],HO.out,?_,?_,hfr2.step1 HF.out hg⟩
      ·have h1:m < (d.set m x).length:=by simpa using hmd
       rw [HSC.out,← HDT.out,List.take_succ_eq_append_getElem h1]
       simp [List.take_set_of_le]
      ·rw [List.drop_set_of_lt (by omega)]
       exact HDR.out
   ·have hjl2:j = l.length:=by omega
    subst hjl2
    have i1:¬ (l.length:Int) < (l.length:Int):=by omega
    have k1:(0:Int) ≤ (m:Int):=by omega
    have k2:(m:Int) ≤ (l.length:Int):=by omega
    have k3:(m:Int) ≤ (c:Int):=by omega
    have hHD:=Lib.hid (show d.take m = leftH ov l by rw [HDT.out,List.take_length])
    have hml:(leftH ov l).length = m:=by
     rw [← hHD.out,List.length_take];omega
    have HML:=Lib.hid hml
    clear HDT HDD hml
    have hclr:=fun cc=>OwnC.clear okH Tryz.underlying108 hod rfl m (l.length - m) cc (by omega) (by omega)
    obtain ⟨o4,f4⟩:=OwnC.sets hod rfl m (List.replicate (l.length - m) codH.z) (by simp;omega) (by intro h;rw [h] at hdl;simp at hdl;omega)
    have hcn:codH.n = 34:=rfl
    rw [hcn] at hclr o4 f4
    have HO:=Lib.hid (OwnC.pre o4 m (by simp;omega))
    have HF:=Lib.hid f4
    clear o4 f4 hod
    go_wp2_with fail
    have he:(d.take m ++ List.replicate (l.length - m) codH.z ++ d.drop (m + (List.replicate (l.length - m) codH.z).length)).take m = leftH ov l:=by
     rw [List.append_assoc,List.take_left' (by rw [List.length_take];omega)]
     exact hHD.out
    have HO2:=HO.out
    rw [he] at HO2
    go_ret
    exact ⟨some ⟨g,0,none⟩,c,by rw [HML.out];rfl,HO2,hfr.step1 HF.out hg,by rw [HML.out];omega⟩
 ·have hid:leftH ov l = l:=by
   have:=leftH_none (ov:=ov) (l:=l) (k:=l.length) (Nat.le_refl _) (fun j h1 h2=>by have:=hno j h1;simpa [h1] using this)
   rwa [List.take_length] at this
  have HID:=Lib.hid hid
  clear hid hno
  go_wp2_with fail
  go_ret
  unfold DelTo
  rw [HID.out]
  exact ⟨A,c,rfl,hown,fw,hcap⟩
theorem stp_skip {P:Program} {w:World} {ops:Array Oper} {o:Oper} {a:Act} {K:Act → World → Prop} {Q:Exit → Act → World → Prop} {E:Prop} (hgd:o.guard = none) (w':World)
  (hr:(execOp a.eval o).run P w = .ok .skip w') (h:K (a.put o.dst undef) w'):if Region.wanted o (yielded ops a.tmps) = true then Oper.wp P o a w K Q else E:=by
 have hw:Region.wanted o (yielded ops a.tmps) = true:=by simp [Region.wanted,hgd]
 rw [if_pos hw]
 unfold Oper.wp
 rw [hr]
 exact h
theorem ex_stV_at {α:Type} {C:Cod α} {ρ:Operand → Value} {o:Oper} {a x:Operand} {w w':World} {pa:Value} {v:α} (ho:o.op = .store C.t a x) (ha:ρ a = pa) (hx:ρ x = .agg (C.A v)) (hs:C.stR w pa (.agg (C.A v)) = .ok .skip w') :
  (execOp ρ o).run Tryz.prog w = .ok .skip w':=by
 rw [Cod.stOp (C:=C) ρ o a x ho w,ha,hx]
 exact hs
/-! rows, operations, what has been done: with rows of their own -/
structure RwO (w:World) (r:RwW) (x:RwP):Prop where
 inn:RwIn w r x
 own:w.ownsRow 0 149 34 (.slice r.A r.n r.c) r.n (codH.row x.Heads)
structure OpO (w:World) (r:OpW) (o:Opn):Prop where
 inn:OpIn w r o
 own:o.Over = [] ∨ w.ownsRow 0 80 2 (.slice r.A r.n r.c) r.n (codS.row o.Over)
structure DnO (w:World) (d:DnW) (x:DnP):Prop where
 op:OpO w d.op x.op
 tn:d.tn = x.tn
 was:RwO w d.was x.was
 was0:d.was0 = x.was0
def NoHS (M:Nat → Prop) (w:World):Prop:=∀ b,M b → ∀ cs z,w.heap[b]? ≠ some (.cells cs 149 z) ∧ w.heap[b]? ≠ some (.cells cs 80 z)
theorem NoHS.nob (w:World):NoHS noB w:=fun b h=>absurd h (by simp [noB])
theorem NoHS.map {w:World} {m:Nat} {kv:List (St × Value)} (h:mpT w m = some kv):NoHS (oneB m) w:=fun b hb cs z=>by
 obtain ⟨es,c,h1⟩:=mpT_blk h
 have e:b = m:=hb
 subst e
 rw [h1]
 exact ⟨fun h=>(by cases h),fun h=>(by cases h)⟩
theorem NoHS.blk {w:World} {g:Nat} {t:TypeId} {cs:List Value} (h:Blk w g t cs) (h1:t ≠ 149) (h2:t ≠ 80):NoHS (oneB g) w:=fun b hb c z=>by
 have e:b = g:=hb
 subst e
 have hh:w.heap[b]? = some (.cells cs.toArray t (0,0)):=h
 rw [hh]
 exact ⟨fun h=>by injection h with h;injection h with _ h _;exact h1 h,fun h=>by injection h with h;injection h with _ h _;exact h2 h⟩
theorem NoHS.own {w:World} {base size n:Nat} {e:TypeId} {v:Value} {xs:List Value} (h:w.ownsRow base e size v n xs) (h1:e ≠ 149) (h2:e ≠ 80):NoHS (fun b=>v.ownBlock = some b) w:=fun b hb c z=>by
 rcases h.2 with ⟨hv,_⟩ | ⟨blk,cap,cur,hv,_,hg,_⟩
 ·rw [hv] at hb;cases hb
 ·rw [hv] at hb
  have e:blk = b:=by simpa [Value.ownBlock] using hb
  subst e
  rw [hg]
  exact ⟨fun h=>by injection h with h;injection h with _ h _;exact h1 h,fun h=>by injection h with h;injection h with _ h _;exact h2 h⟩
theorem NoHS.or {M N:Nat → Prop} {w:World} (h:NoHS M w) (k:NoHS N w):NoHS (fun b=>M b ∨ N b) w:=fun b hb=>by
 rcases hb with hb | hb
 ·exact h b hb
 ·exact k b hb
theorem own_hs {M:Nat → Prop} {w w':World} {e:TypeId} {size n:Nat} {v:Value} {xs:List Value} (h:w.ownsRow 0 e size v n xs) (f:Fr M w w') (hM:∀ b,M b → ∀ cs z,w.heap[b]? ≠ some (.cells cs e z)):w'.ownsRow 0 e size v n xs :=
 own_fr h f (fun g hg hm=>by
  rcases h.2 with ⟨hv,_⟩ | ⟨blk,cap,cur,hv,_,hgg,_⟩
  ·rw [hv] at hg;cases hg
  ·rw [hv] at hg
   have e:blk = g:=by simpa [Value.ownBlock] using hg
   subst e
   exact hM blk hm _ _ hgg)
theorem RwIn.own_ {w w':World} {r:RwW} {x:RwP} (h:RwIn w r x) {base:Nat} (ho:w'.ownsRow base 149 34 (.slice r.A r.n r.c) r.n (codH.row x.Heads)):RwIn w' r x:=⟨h.eq,h.len,Sl.own ho,h.bd,h.nm,h.wn,h.wp⟩
theorem RwO.fr {M:Nat → Prop} {w w':World} {r:RwW} {x:RwP} (h:RwO w r x) (f:Fr M w w') (hM:NoHS M w):RwO w' r x:=by
 have ho:=own_hs h.own f (fun b hb cs z=>(hM b hb cs z).1)
 exact ⟨h.inn.own_ ho,ho⟩
theorem OpO.fr {M:Nat → Prop} {w w':World} {r:OpW} {x:Opn} (h:OpO w r x) (f:Fr M w w') (hM:NoHS M w):OpO w' r x:=by
 rcases h.own with h0 | h0
 ·exact ⟨⟨h.inn.eq,h.inn.len,by rw [h0];exact Sl.nil _ _,h.inn.bd,h.inn.nm⟩,.inl h0⟩
 ·have ho:=own_hs h0 f (fun b hb cs z=>(hM b hb cs z).2)
  exact ⟨⟨h.inn.eq,h.inn.len,Sl.own ho,h.inn.bd,h.inn.nm⟩,.inr ho⟩
theorem DnO.fr {M:Nat → Prop} {w w':World} {r:DnW} {x:DnP} (h:DnO w r x) (f:Fr M w w') (hM:NoHS M w):DnO w' r x:=⟨h.op.fr f hM,h.tn,h.was.fr f hM,h.was0⟩
def AllO {α β:Type} (R:World → α → β → Prop) (w:World) (rs:List α) (xs:List β):Prop:=rs.length = xs.length ∧ ∀ i (h:i < rs.length) (h':i < xs.length),R w rs[i] xs[i]
theorem AllO.map {α β:Type} {R:World → α → β → Prop} {w w':World} {rs:List α} {xs:List β} (h:AllO R w rs xs) (k:∀ r x,R w r x → R w' r x):AllO R w' rs xs:=⟨h.1,fun i h1 h2=>k _ _ (h.2 i h1 h2)⟩
theorem AllO.nil {α β:Type} {R:World → α → β → Prop} {w:World}:AllO R w [] []:=⟨rfl,fun i h=>absurd h (by simp)⟩
theorem AllO.cons {α β:Type} {R:World → α → β → Prop} {w:World} {r:α} {x:β} {rs:List α} {xs:List β} (h1:R w r x) (h2:AllO R w rs xs):AllO R w (r :: rs) (x :: xs) :=
 ⟨by simp [h2.1],fun i h3 h4=>by
  cases i with
  | zero=>exact h1
  | succ i=>exact h2.2 i (by simpa using h3) (by simpa using h4)⟩
theorem AllO.tail {α β:Type} {R:World → α → β → Prop} {w:World} {r:α} {x:β} {rs:List α} {xs:List β} (h:AllO R w (r :: rs) (x :: xs)):R w r x ∧ AllO R w rs xs :=
 ⟨h.2 0 (by simp) (by simp),by have:=h.1;simpa using this,fun i h1 h2=>h.2 (i + 1) (by simpa using h1) (by simpa using h2)⟩
theorem AllO.app {α β:Type} {R:World → α → β → Prop} {w:World} {rs ss:List α} {xs ys:List β} (h:AllO R w rs xs) (k:AllO R w ss ys):AllO R w (rs ++ ss) (xs ++ ys):=by
 induction rs generalizing xs with
 | nil =>
  obtain rfl:xs = []:=List.length_eq_zero_iff.1 (by simpa using h.1.symm)
  exact k
 | cons r rs ih =>
  match xs,h with
  | [],h=>have:=h.1;simp at this
  | x :: xs,h=>exact AllO.cons h.tail.1 (ih h.tail.2)
theorem AllO.snoc {α β:Type} {R:World → α → β → Prop} {w:World} {rs:List α} {xs:List β} {r:α} {x:β} (h:AllO R w rs xs) (k:R w r x):AllO R w (rs ++ [r]) (xs ++ [x]):=h.app (AllO.cons k AllO.nil)
theorem AllO.take {α β:Type} {R:World → α → β → Prop} {w:World} {rs:List α} {xs:List β} (h:AllO R w rs xs) (k:Nat):AllO R w (rs.take k) (xs.take k) :=
 ⟨by simp [h.1],fun i h1 h2=>by
  rw [List.getElem_take,List.getElem_take]
  exact h.2 i (by simp at h1;omega) (by simp at h2;omega)⟩
theorem AllO.drop {α β:Type} {R:World → α → β → Prop} {w:World} {rs:List α} {xs:List β} (h:AllO R w rs xs) (k:Nat):AllO R w (rs.drop k) (xs.drop k) :=
 ⟨by simp [h.1],fun i h1 h2=>by
  rw [List.getElem_drop,List.getElem_drop]
  exact h.2 (k + i) (by simp at h1;omega) (by simp at h2;omega)⟩
abbrev RwsO_:=AllO RwO
theorem RwsO_.rws {w:World} {rs:List RwW} {xs:List RwP} (h:AllO RwO w rs xs):RwsIn w rs xs:=⟨h.1,fun i h1 h2=>(h.2 i h1 h2).inn⟩
theorem RwsO_.find {w:World} {rs:List RwW} {xs:List RwP} (h:AllO RwO w rs xs) (s:St):(findW rs s = none ∧ findR xs s = none) ∨ ∃ r x,findW rs s = some r ∧ findR xs s = some x ∧ RwO w r x:=by
 induction rs generalizing xs with
 | nil =>
  obtain rfl:xs = []:=List.length_eq_zero_iff.1 (by simpa using h.1.symm)
  exact .inl ⟨rfl,rfl⟩
 | cons r rs ih =>
  match xs,h with
  | [],h=>have:=h.1;simp at this
  | x :: xs,h =>
   obtain ⟨h1,h2⟩:=h.tail
   unfold findW findR at ih ⊢
   rw [List.find?_cons,List.find?_cons]
   by_cases e:r.Node = s
   ·have e':x.Node = s:=by rw [h1.inn.node];exact e
    simp only [e,e',decide_true]
    exact .inr ⟨r,x,rfl,rfl,h1⟩
   ·have e':¬ x.Node = s:=by rw [h1.inn.node];exact e
    simp only [e,e',decide_false]
    exact ih h2
def putW (rs:List RwW) (r:RwW):List RwW:=if (findW rs r.Node).isSome then rs.map (fun x=>if x.Node = r.Node then r else x) else rs ++ [r]
theorem tab_putW (rs:List RwW) (r:RwW):putL (tab rs) r.Node (.agg (codR.A r)) = tab (putW rs r):=by
 unfold putL putW
 rw [look_tab]
 simp only [Option.isSome_map]
 split
 ·unfold tab
  rw [List.map_map,List.map_map]
  refine List.map_congr_left fun x _=>?_
  simp only [Function.comp_apply]
  by_cases e:x.Node = r.Node
  ·simp [e]
  ·simp [e]
 ·simp [tab]
theorem tab_delW (rs:List RwW) (s:St):delL (tab rs) s = tab (rs.filter fun x=>!decide (x.Node = s)):=by
 unfold delL tab
 rw [List.filter_map]
 rfl
theorem RwsO_.put {w:World} {rs:List RwW} {xs:List RwP} (h:AllO RwO w rs xs) {r:RwW} {x:RwP} (hr:RwO w r x):AllO RwO w (putW rs r) (putR xs x):=by
 have hn:x.Node = r.Node:=hr.inn.node
 have hs:(findW rs r.Node).isSome = (findR xs x.Node).isSome:=by
  rw [hn]
  rcases RwsO_.find h r.Node with ⟨h1,h2⟩ | ⟨q,y,h1,h2,_⟩
  ·rw [h1,h2];rfl
  ·rw [h1,h2];rfl
 unfold putW putR
 rw [hs]
 split
 ·refine ⟨by simp [h.1],fun i h1 h2=>?_⟩
  simp only [List.getElem_map]
  have hi:=h.2 i (by simpa using h1) (by simpa using h2)
  by_cases e:(rs[i]'(by simpa using h1)).Node = r.Node
  ·have e':(xs[i]'(by simpa using h2)).Node = x.Node:=by rw [hi.inn.node,hn];exact e
   rw [if_pos e,if_pos e']
   exact hr
  ·have e':¬ (xs[i]'(by simpa using h2)).Node = x.Node:=by rw [hi.inn.node,hn];exact e
   rw [if_neg e,if_neg e']
   exact hi
 ·exact h.snoc hr
theorem RwsO_.del {w:World} {rs:List RwW} {xs:List RwP} (h:AllO RwO w rs xs) (s:St):AllO RwO w (rs.filter fun x=>!decide (x.Node = s)) (xs.filter fun x=>!decide (x.Node = s)):=by
 induction rs generalizing xs with
 | nil =>
  obtain rfl:xs = []:=List.length_eq_zero_iff.1 (by simpa using h.1.symm)
  exact AllO.nil
 | cons r rs ih =>
  match xs,h with
  | [],h=>have:=h.1;simp at this
  | x :: xs,h =>
   obtain ⟨h1,h2⟩:=h.tail
   rw [List.filter_cons,List.filter_cons,h1.inn.node]
   split
   ·exact AllO.cons h1 (ih h2)
   ·exact ih h2
/-! contracts -/
set_option maxRecDepth 100000 in
theorem gvFixed_any (w:World) (s:St):Calls Tryz.prog 137 #[.agg (codS.A s)] w (Gives w (.bool (s.T == 0))):=by
 have f0:Fr noB w (w.alloc (.cells (codS.A s) 80)):=(Fr.refl noB w).alloc _
 obtain ⟨q1,q2⟩:=stCell (Cod.bxd_rd (bxS_box w s))
 go_enter Tryz.func137,Tryz.ntmps137
 go_wp2_with fail
 go_ret
 exact ⟨rfl,f0⟩
def AbvR (w:World) (P Q:Nat) (xs:List RwP) (n:St) (v:Bool) (gk:Nat) (wr:World):Prop :=
 ∃ p:St,codS.bxd wr Q = some p ∧ codS.rd wr P 0 = some n ∧ wfS p = true ∧ reach xs gk p = true ∧ aboveN xs gk n p = v ∧ Fr noB w wr
theorem aboveN_step {xs:List RwP} {k:Nat} {n p:St} {r:RwP} (h0:p.T ≠ 0) (hf:findR xs p = some r):aboveN xs (k + 1) n p = (decide (p = n) || aboveN xs k n r.Parent):=by
 show (if p.T = 0 then false else decide (p = n) || match findR xs p with | none=>false | some r=>aboveN xs k n r.Parent) = _
 rw [if_neg h0,hf]
theorem aboveN_zero {xs:List RwP} {k:Nat} {n p:St} (h0:p.T = 0):aboveN xs k n p = false:=by
 cases k with
 | zero=>rfl
 | succ k =>
  show (if p.T = 0 then false else _) = false
  rw [if_pos h0]
set_option maxRecDepth 100000 in
set_option maxHeartbeats 2000000 in
theorem gvAbove_any (w:World) (b:Nat) (t:TrW) (ht:TrB w b t) (rs:List RwW) (xs:List RwP) (hm:mpT w t.m = some (tab rs)) (hR:RwsIn w rs xs) (n p:St) (hp:wfS p = true) (k:Nat) (hk:reach xs k p = true) :
  Calls Tryz.prog 138 #[.pointer (some ⟨b,0,none⟩),.agg (codS.A n),.agg (codS.A p)] w (Gives w (.bool (aboveN xs k n p))):=by
 have f0:Fr noB w ((w.alloc (.cells (codS.A n) 80)).alloc (.cells (codS.A p) 80)):=((Fr.refl noB w).alloc _).alloc _
 have q0:=Cod.rd_fr0 (Cod.rd_new (C:=codS) w 80 n) ((Fr.refl noB _).alloc (.cells (codS.A p) 80))
 have b0:=bxS_box (w.alloc (.cells (codS.A n) 80)) p
 have hz:(w.alloc (.cells (codS.A n) 80)).heap.size = w.heap.size + 1:=by simp
 rw [hz] at b0
 obtain ⟨v,hv⟩:∃ v,v = aboveN xs k n p:=⟨_,rfl⟩
 rw [← hv]
 go_enter Tryz.func138,Tryz.ntmps138
 go_upto_region 1 with fail
 generalize (w.alloc (.cells (codS.A n) 80)).alloc (.cells (codS.A p) 80) = W0 at f0 b0 q0 ⊢
 obtain ⟨P,hP⟩:∃ t,t = w.heap.size:=⟨_,rfl⟩
 obtain ⟨Q,hQ⟩:∃ t,t = w.heap.size + 1:=⟨_,rfl⟩
 rw [← hP] at q0 ⊢
 rw [← hQ] at b0
 have HP:=Lib.hid (And.intro hP hQ)
 have eR:P + 1 = Q:=by omega
 rw [eR]
 clear hP hQ eR hz
 have HV:=Lib.hid hv
 clear hv
 go_loopg [6] k (fun gk vv wr=>vv = .bool false ∧ AbvR w P Q xs n v gk wr)
 case atStart=>exact ⟨rfl,p,b0,q0,hp,hk,HV.out.symm,f0⟩
 case round =>
  clear b0 q0 f0 hp hk HV
  obtain ⟨rfl,p,bq,qn,hp,hk,hv,hf⟩:=hrel
  have q3:=Cod.bxd_rd bq
  by_cases h0:p.T = 0
  ·have h0':(p.T == 0) = true:=by simp [h0]
   have HV:=Lib.hid (show v = false by rw [← hv,aboveN_zero h0])
   clear hv hk h0
   go_wp2_with (go_at_call 137;refine (gvFixed_any _ p).mono ?_;rintro e w2 ⟨rfl,f2⟩;rw [h0'])
   go_ret
   exact ⟨by rw [HV.out];rfl,hf.step0 f2⟩
  ·have h0':(p.T == 0) = false:=by rw [beq_eq_false_iff_ne];exact h0
   rcases reach_inv hk with h | ⟨j,x,rfl,hfx,hx⟩
   ·exact absurd (fixedS_T h) h0
   ·rw [aboveN_step h0 hfx] at hv
    by_cases hpn:p = n
    ·subst hpn
     have HV:=Lib.hid (show v = true by rw [← hv];simp)
     have d1:decide (p = p) = true:=by simp
     clear hv hk
     go_wp2_with (go_at_call 137;refine (gvFixed_any _ p).mono ?_;rintro e w2 ⟨rfl,f2⟩;rw [h0'];replace q3:=Cod.rd_fr0 q3 f2;replace qn:=Cod.rd_fr0 qn f2)
     go_ret
     exact ⟨by rw [HV.out];rfl,hf.step0 f2⟩
    ·have d1:decide (p = n) = false:=by simp [hpn]
     rw [d1,Bool.false_or] at hv
     have hmr:=mpT_fr0 hm hf
     have htr:=(ht.fr0 hf).m
     obtain ⟨r,hlk,hin⟩:∃ r,Go.Proofs.YtjpieiccpbcabaaGreat.look (tab rs) p = some (.agg (codR.A r)) ∧ RwIn w r x:=by
      rcases hR.find p with ⟨_,h2⟩ | ⟨r,y,h1,h2,h3⟩
      ·rw [h2] at hfx;cases hfx
      ·rw [h2] at hfx
       injection hfx with hfx
       subst hfx
       exact ⟨r,by rw [look_tab,h1];rfl,h3⟩
     have hpp:=hin.parent
     have hwp:=hin.wp
     have HV:=Lib.hid hv
     have HX:=Lib.hid (And.intro hx hpp)
     clear hv hx hpp hin hk hfx
     go_upto_region 4 with (go_at_call 137;refine (gvFixed_any _ p).mono ?_;rintro e w2 ⟨rfl,f2⟩;rw [h0'];replace q3:=Cod.rd_fr0 q3 f2;replace qn:=Cod.rd_fr0 qn f2)
     have bq2:=Cod.bxd_fr0 bq f2
     have hm2:=mpT_fr0 hmr f2
     have ht2:=cell_fr0 htr f2
     clear bq hmr htr
     have hk':∀ w' w'':World,Fr noB w' w'' → (w'.cell? ⟨b,0,none⟩ = some (.map (some t.m)) ∧ codS.rd w' Q 0 = some p ∧ mpT w' t.m = some (tab rs)) → (w''.cell? ⟨b,0,none⟩ = some (.map (some t.m)) ∧ codS.rd w'' Q 0 = some p ∧ mpT w'' t.m = some (tab rs)):=fun w' w'' f h=>⟨cell_fr0 h.1 f,Cod.rd_fr0 h.2.1 f,mpT_fr0 h.2.2 f⟩
     refine wp_region_M 7 8 [⟨8192,1,0⟩,⟨16384,8192,1⟩,⟨32768,16384,2⟩,⟨65536,32768,4⟩,⟨131072,32,0⟩,⟨262144,196608,24⟩,⟨524288,262144,32⟩,⟨0,524320,127⟩] [(true,0),(true,1),(true,2),(true,3),(true,4),(true,5),(true,6)] (fun w'=>w'.cell? ⟨b,0,none⟩ = some (.map (some t.m)) ∧ codS.rd w' Q 0 = some p ∧ mpT w' t.m = some (tab rs)) (by kernel_rfl) rfl (by kernel_rfl) (by kernel_rfl) (by kernel_rfl) (hk' _ _ ((Fr.refl noB w2).drew) ⟨ht2,q3,hm2⟩) (fun hA hF=>?_)
     iterate 7
      refine wpAnyS_take (v:=?_) hA rfl (fun _ _ _ h=>h) (Or.inl ⟨by rfl,?_⟩) hF (fun hA=>?_)
      rotate_left
      ·intro wS hSw;(try dsimp only at hSw);obtain ⟨s1,s2,s3⟩:=hSw;first | (apply Eq.trans;apply ex_ldR_at;exact rfl;exact rfl;assumption;with_reducible rfl) | (apply Eq.trans;apply ex_ldS_at;exact rfl;exact rfl;assumption;with_reducible rfl) | (go_simp;try with_reducible rfl)
      try simp only [sA1,sA2,sA3,Act.put,sA4,sA5,sA6]
     refine wpAnyS_end hA rfl ?_
     simp only [List.drop_succ_cons,List.drop_zero]
     clear hF hk'
     have fd:Fr noB w2 w2.drew:=(Fr.refl noB w2).drew
     have bq3:=Cod.bxd_fr0 bq2 fd
     have hst:=okS.stR_box bq3 r.Parent
     obtain ⟨p1,p2,p3⟩:=Cod.put_fr bq3 r.Parent
     have hPQ:=HP.out
     have qn2:=Cod.rd_fr (Cod.rd_fr0 qn fd) p1 (by show ¬ P = Q;omega)
     have F2:=((hf.step0 f2).step0 fd).step1 p1 (by omega)
     clear hPQ
     go_wp2_with fail
     go_roundg j
     case measure=>omega
     case rel =>
      obtain ⟨hx,hpp⟩:=HX.out
      exact ⟨rfl,r.Parent,p3,qn2,hwp,by rw [← hpp];exact hx,by rw [← hpp];exact HV.out,F2⟩
structure WasOk (d:DnP):Prop where
 wf:rightS d.op.Node = true
 was:d.was0 = true → d.was.Node = d.op.Node
theorem doD_was {xs:List RwP} {o:Opn} (h:rightS o.Node = true):WasOk (doD xs o):=by
 refine ⟨h,fun hw=>?_⟩
 unfold doD at hw ⊢
 simp only at hw ⊢
 cases hf:findR xs o.Node with
 | none=>rw [hf] at hw;cases hw
 | some r=>exact findR_node hf
def undoW (rs:List RwW) (d:DnW):List RwW:=if d.tn then (if d.was0 then putW rs d.was else rs.filter fun x=>!decide (x.Node = d.op.Node)) else rs
theorem RwsO_.undo {w:World} {rs:List RwW} {xs:List RwP} (h:AllO RwO w rs xs) {d:DnW} {x:DnP} (hd:DnO w d x):AllO RwO w (undoW rs d) (undoX xs x):=by
 unfold undoW undoX
 rw [hd.tn,hd.was0]
 split
 ·split
  ·exact RwsO_.put h hd.was
  ·have:x.op.Node = d.op.Node:=by rw [hd.op.inn.eq];rfl
   rw [this]
   exact RwsO_.del h _
 ·exact h
def UnTo (w:World) (m:Nat) (rs':List RwW) (e:Ending) (w':World):Prop:=e = .returned (.tuple #[]) ∧ mpT w' m = some (tab rs') ∧ Fr (oneB m) w w'
set_option maxRecDepth 100000 in
set_option maxHeartbeats 2000000 in
theorem gvUndo_any (w:World) (b:Nat) (t:TrW) (ht:TrB w b t) (rs:List RwW) (xs:List RwP) (hm:mpT w t.m = some (tab rs)) (hR:AllO RwO w rs xs) (d:DnW) (x:DnP) (hd:DnO w d x) (hw:WasOk x) :
  Calls Tryz.prog 110 #[.pointer (some ⟨b,0,none⟩),.agg (codD.A d)] w (UnTo w t.m (undoW rs d)):=by
 have f0:Fr noB w (w.alloc (.cells (codD.A d) 177)):=(Fr.refl noB w).alloc _
 have q:=dnAt (Cod.rd_new (C:=codD) w 177 d)
 obtain ⟨q1,q2,q3,q4,q5,q6,q7⟩:=q
 simp only [Nat.zero_add] at q2 q3 q4 q5 q6
 have hwn:wfS d.op.Node = true:=by
  have:=rightS_wf hw.wf
  rwa [show x.op.Node = d.op.Node by rw [hd.op.inn.eq];rfl] at this
 have hnd:x.op.Node = d.op.Node:=by rw [hd.op.inn.eq];rfl
 have F1:=ht.fr0 f0
 have hm0:=mpT_fr0 hm f0
 have HM:=Lib.hid hm
 have HD:=Lib.hid hd
 have HW:=Lib.hid hw
 have HRR:=Lib.hid hR
 have HT:=Lib.hid (show d.tn = x.tn ∧ d.was0 = x.was0 from ⟨hd.tn,hd.was0⟩)
 have hmS:=mpT_lt hm
 clear hd hw hm
 go_enter Tryz.func110,Tryz.ntmps110
 go_upto_region 2 with fail
 generalize w.alloc (.cells (codD.A d) 177) = W0 at f0 q1 q2 q3 q4 q5 q6 q7 F1 hm0 ⊢
 generalize w.heap.size = P at q1 q2 q3 q4 q5 q6 q7 ⊢
 cases ht1:d.tn with
 | false =>
  rw [ht1] at q4
  have HX:=Lib.hid (show undoW rs d = rs by unfold undoW;rw [ht1];rfl)
  clear hR ht1
  go_wp2_with fail
  refine bodyPost_ret (results_none rfl _ _ _) rfl ?_
  unfold UnTo
  rw [HX.out]
  exact ⟨rfl,hm0,(Fr.refl (oneB t.m) w).step0 f0⟩
 | true =>
  rw [ht1] at q4
  cases ht2:d.was0 with
  | true =>
   rw [ht2] at q6
   have HX:=Lib.hid (show undoW rs d = putW rs d.was by unfold undoW;rw [ht1,ht2];rfl)
   have hwas:d.was.Node = d.op.Node:=by
    have:=HW.out.was (by rw [← HT.out.2,ht2])
    rw [HD.out.was.inn.node,hnd] at this
    exact this
   have HWN:=Lib.hid hwas
   clear hR ht1 ht2 hwas
   go_upto_region 4 with fail
   have hk:∀ w' w'':World,Fr noB w' w'' → (w'.cell? ⟨b,0,none⟩ = some (.map (some t.m)) ∧ codS.rd w' P 3 = some d.op.Node ∧ codR.rd w' P 42 = some d.was) → (w''.cell? ⟨b,0,none⟩ = some (.map (some t.m)) ∧ codS.rd w'' P 3 = some d.op.Node ∧ codR.rd w'' P 42 = some d.was):=fun w' w'' f h=>⟨cell_fr0 h.1 f,Cod.rd_fr0 h.2.1 f,Cod.rd_fr0 h.2.2 f⟩
   refine wp_region_M 9 10 [⟨262144,1,0⟩,⟨524288,262144,1⟩,⟨1048576,524288,2⟩,⟨2097152,1048576,4⟩,⟨4194304,8,0⟩,⟨8388608,4194304,16⟩,⟨16777216,8388608,32⟩,⟨33554432,8,0⟩,⟨67108864,33554432,128⟩,⟨0,85983232,511⟩] [(true,0),(true,1),(true,2),(true,3),(true,4),(true,5),(true,6),(true,7),(true,8)] (fun w'=>w'.cell? ⟨b,0,none⟩ = some (.map (some t.m)) ∧ codS.rd w' P 3 = some d.op.Node ∧ codR.rd w' P 42 = some d.was) (by kernel_rfl) rfl (by kernel_rfl) (by kernel_rfl) (by kernel_rfl) (hk _ _ ((Fr.refl noB W0).drew) ⟨F1.m,q3,q5⟩) (fun hA hF=>?_)
   iterate 9
    refine wpAnyS_take (v:=?_) hA rfl (fun _ _ _ h=>h) (Or.inl ⟨by rfl,?_⟩) hF (fun hA=>?_)
    rotate_left
    ·intro wS hSw;(try dsimp only at hSw);obtain ⟨s1,s2,s3⟩:=hSw;first | (apply Eq.trans;apply ex_ldR_at;exact rfl;exact rfl;assumption;with_reducible rfl) | (apply Eq.trans;apply ex_ldS_at;exact rfl;exact rfl;assumption;with_reducible rfl) | (go_simp;try with_reducible rfl)
    try simp only [sA1,sA2,sA3,Act.put,sA4,sA5,sA6]
   refine wpAnyS_end hA rfl ?_
   simp only [List.drop_succ_cons,List.drop_zero]
   clear hF hk
   have fd:Fr noB W0 W0.drew:=(Fr.refl noB W0).drew
   have hm1:=mpT_fr0 hm0 fd
   obtain ⟨_,m1,m2,m3⟩:=mputT_all Tryz.underlying152 hm1 hwn (.agg (codR.A d.was))
   have HMM:=Lib.hid (And.intro m1 (And.intro m2 m3))
   clear m1 m2 m3
   go_wp2_with fail
   refine bodyPost_ret (results_none rfl _ _ _) rfl ?_
   obtain ⟨m1,m2,m3⟩:=HMM.out
   unfold UnTo
   rw [HX.out]
   have hf:=f0.step0 fd
   refine ⟨rfl,?_,((Fr.refl (oneB t.m) w).step0 hf).trans m2 (fun _ _ h=>h)⟩
   rw [m1,← HWN.out,tab_putW]
  | false =>
   rw [ht2] at q6
   have HX:=Lib.hid (show undoW rs d = rs.filter (fun y=>!decide (y.Node = d.op.Node)) by unfold undoW;rw [ht1,ht2];rfl)
   clear hR ht1 ht2
   go_upto_region 1 with fail
   have hk:∀ w' w'':World,Fr noB w' w'' → (w'.cell? ⟨b,0,none⟩ = some (.map (some t.m)) ∧ codS.rd w' P 3 = some d.op.Node) → (w''.cell? ⟨b,0,none⟩ = some (.map (some t.m)) ∧ codS.rd w'' P 3 = some d.op.Node):=fun w' w'' f h=>⟨cell_fr0 h.1 f,Cod.rd_fr0 h.2 f⟩
   refine wp_region_M 7 8 [⟨16,1,0⟩,⟨32,16,1⟩,⟨64,32,2⟩,⟨128,64,4⟩,⟨256,8,0⟩,⟨512,256,16⟩,⟨1024,512,32⟩,⟨0,1152,72⟩] [(true,0),(true,1),(true,2),(true,3),(true,4),(true,5),(true,6)] (fun w'=>w'.cell? ⟨b,0,none⟩ = some (.map (some t.m)) ∧ codS.rd w' P 3 = some d.op.Node) (by kernel_rfl) rfl (by kernel_rfl) (by kernel_rfl) (by kernel_rfl) (hk _ _ ((Fr.refl noB W0).drew) ⟨F1.m,q3⟩) (fun hA hF=>?_)
   iterate 7
    refine wpAnyS_take (v:=?_) hA rfl (fun _ _ _ h=>h) (Or.inl ⟨by rfl,?_⟩) hF (fun hA=>?_)
    rotate_left
    ·intro wS hSw;(try dsimp only at hSw);obtain ⟨s1,s2⟩:=hSw;first | (apply Eq.trans;apply ex_ldR_at;exact rfl;exact rfl;assumption;with_reducible rfl) | (apply Eq.trans;apply ex_ldS_at;exact rfl;exact rfl;assumption;with_reducible rfl) | (go_simp;try with_reducible rfl)
    try simp only [sA1,sA2,sA3,Act.put,sA4,sA5,sA6]
   refine wpAnyS_end hA rfl ?_
   simp only [List.drop_succ_cons,List.drop_zero]
   clear hF hk
   have fd:Fr noB W0 W0.drew:=(Fr.refl noB W0).drew
   have hm1:=mpT_fr0 hm0 fd
   obtain ⟨_,m1,m2,m3⟩:=mdelT_all Tryz.underlying152 hm1 hwn 0
   have HMM:=Lib.hid (And.intro m1 (And.intro m2 m3))
   clear m1 m2 m3
   go_wp2_with fail
   refine bodyPost_ret (results_none rfl _ _ _) rfl ?_
   obtain ⟨m1,m2,m3⟩:=HMM.out
   unfold UnTo
   rw [HX.out]
   have hf:=f0.step0 fd
   refine ⟨rfl,?_,((Fr.refl (oneB t.m) w).step0 hf).trans m2 (fun _ _ h=>h)⟩
   rw [m1,tab_delW]
theorem seD_tn (d:DnW) (b:Bool):(codD.cs d).set 41 (.bool b) = codD.cs { d with tn:=b }:=by
 have lo:(codO.cs d.op).length = 41:=codO.len _
 show (csD d).set 41 (.bool b) = csD { d with tn:=b }
 unfold csD
 rw [List.set_append_right _ _ (by omega),lo]
 rfl
theorem stw_Node {w:World} {b:Nat} {r:RwW} (h:codR.bxd w b = some r) (x:St):codS.stR w (.pointer (some ⟨b,0,none⟩)) (.agg (codS.A x)) = .ok .skip (codR.put w b { r with Node:=x }):=okS.stR_part h x 0 _ (by decide) rfl
theorem stw_Parent {w:World} {b:Nat} {r:RwW} (h:codR.bxd w b = some r) (x:St):codS.stR w (.pointer (some ⟨b,2,none⟩)) (.agg (codS.A x)) = .ok .skip (codR.put w b { r with Parent:=x }):=okS.stR_part h x 2 _ (by decide) rfl
theorem stw_At {w:World} {b:Nat} {r:RwW} (h:codR.bxd w b = some r) (x:St):codS.stR w (.pointer (some ⟨b,4,none⟩)) (.agg (codS.A x)) = .ok .skip (codR.put w b { r with At:=x }):=okS.stR_part h x 4 _ (by decide) rfl
theorem sew_Name (r:RwW) (l:List UInt8):(codR.cs r).set 6 (.string (str l)) = codR.cs { r with Name:=l }:=rfl
theorem sew_Heads (r:RwW) (A:Option Addr) (n c:Nat):(codR.cs r).set 7 (.slice A n c) = codR.cs { r with A:=A,n:=n,c:=c }:=rfl
theorem bldHd_2 (w:World) (s:St) (x:ID):(Instr.build 149 #[(0,.agg (codS.A s)),(1,encI x)]).run Tryz.prog w = .ok (.agg (codH.A ⟨s,x⟩)) w:=by
 have h1:∀ place:Nat → Option (Nat × Nat),place 0 = some (0,2) → place 1 = some (2,32) → Instr.fill place ([] ++ [Value.int .i64 0,Value.int .i64 0] ++ bv zID.1).toArray [(0,.agg (codS.A s)),(1,encI x)] = some (codH.cs ⟨s,x⟩).toArray:=by
  intro place p0 p1
  refine (fill_one place [] [.int .i64 0,.int .i64 0] (bv zID.1) [.int .i64 s.T,.int .i64 s.R] 0 (.agg (codS.A s)) _ (by rw [A_SS];rfl) (by simpa using p0) rfl).trans ?_
  have e1:=fill_one place [.int .i64 s.T,.int .i64 s.R] (bv zID.1) [] (bv x.1) 1 (encI x) [] (cellsI x) (by simpa [x.2] using p1) (by simp [x.2,zID])
  refine Eq.trans ?_ (e1.trans ?_)
  ·simp
  ·simp [Instr.fill,codH,csH]
 have hz:(zeroValue 149).run Tryz.prog w = .ok (.agg (codH.cs codH.z).toArray) w:=okH.zero w
 have hc:(Value.agg (codH.cs codH.z).toArray).cells = ([] ++ [Value.int .i64 0,Value.int .i64 0] ++ bv zID.1).toArray:=rfl
 have hsI:∀ w,(sizeOf 24).run Tryz.prog w = .ok 32 w:=fun w=>Tryz.sizeOf24 w
 simp only [Instr.build,Sem.run_bind,hz,Result.andThen_ok,run_underlying Tryz.underlying149,hc]
 simp only [List.mapM_toArray,List.mapM_cons,List.mapM_nil,Sem.run_bind,hsI,Tryz.sizeOf80,Result.andThen_ok,Sem.run_pure,Sem.run_map,map_pure,bind_pure_comp]
 rw [h1 _ rfl rfl]
 simp [Cod.A_eq]
@[simp ↓] theorem ex_bldHd2 (ρ:Operand → Value) (x0 x1:Operand) (d:Option Nat) (t:TypeId) (p:String) (f:Array Edge) (g:Option (Nat × Bool)) (w:World) :
  (execOp ρ { dst:=d,op:=.build 149 #[(0,x0),(1,x1)],type:=t,pos:=p,after:=f,guard:=g }).run Tryz.prog w = mkB 149 w [(0,ρ x0),(1,ρ x1)]:=(exB ρ _ _ _ rfl w).trans (by simp only [List.map_toArray,List.map_cons,List.map_nil])
@[simp] theorem mkB_Hd2 (w:World) (s:St) (x:ID):mkB 149 w [(0,.agg (codS.A s)),(1,encI x)] = .ok (.value (.agg (codH.A ⟨s,x⟩))) w:=mkB_ok (bldHd_2 w s x)
theorem gv_own {w0 w w':World} {e:TypeId} {size n c:Nat} {A:Option Addr} {xs:List Value} (f:Fr noB w0 w) (h:w.ownsRow w0.heap.size e size (.slice A n c) n xs) (hg:w.grownBy w' (A.map (·.block))):Fr noB w0 w' :=
 f.step (Fr.ofGrown (M:=fun b=>A.map (·.block) = some b) hg (fun g hg=>hg)) (fun b hb=>.inl (own_lt h b hb).1)
theorem gcell_fr {M:Nat → Prop} {w w':World} {b o:Nat} {v:Value} (h:w.cell? ⟨b,o,none⟩ = some v) (f:Fr M w w') (hM:¬ M b):w'.cell? ⟨b,o,none⟩ = some v :=
 (World.cell?_of_block (a:=⟨b,o,none⟩) (f.block b (World.block_lt_of_cell? _ _ h) hM)).trans h
theorem ex_stT_at {ρ:Operand → Value} {o:Oper} {a x:Operand} {w:World} {b k:Nat} {s:ByteArray} {u:Value} (ho:o.op = .store 9 a x) (ha:ρ a = .pointer (some ⟨b,k,none⟩)) (hx:ρ x = .string s) (hc:w.cell? ⟨b,k,none⟩ = some u) (hf:w.frozen? ⟨b,k,none⟩ = false) :
  (execOp ρ o).run Tryz.prog w = .ok .skip (w.setCell ⟨b,k,none⟩ (.string s)):=by
 obtain ⟨d,op,t,p,f,g⟩:=o
 simp only at ho
 subst ho
 go_simp
theorem own_zero {base:Nat} {w:World} {A:Option Addr} {c:Nat} {l:List Hd} (h:w.ownsRow base 149 34 (.slice A l.length c) l.length (codH.row l)):w.ownsRow 0 149 34 (.slice A l.length c) l.length (codH.row l):=own_base h (Nat.zero_le _)
theorem RwO.zero (w:World):RwO w zRwW zRwP:=⟨⟨rfl,rfl,Sl.nil _ _,by decide,by decide,by decide,by decide⟩,World.ownsRow_nil _ _ _ _⟩
theorem GvT.way {xs:List RwP} (h:GvT xs) {p:St} (hp:okP p = true) (hs:(findR xs p).isSome = true ∨ p.T = 0):reach xs xs.length p = true:=by
 unfold okP at hp
 rw [Bool.or_eq_true] at hp
 rcases hp with hp | hp
 ·rcases hs with hs | hs
  ·obtain ⟨q,hq⟩:=Option.isSome_iff_exists.1 hs
   obtain ⟨k,hk⟩:=h.up q (findR_some hq).1
   rw [findR_node hq] at hk
   exact reach_len hk
  ·exact absurd hs (rightS_T hp)
 ·exact reach_fixed hp _
theorem okP_wf {s:St} (h:okP s = true):wfS s = true:=by
 unfold okP at h
 rw [Bool.or_eq_true] at h
 rcases h with h | h
 ·exact rightS_wf h
 ·exact fixedS_wf h
def DoTo (w:World) (m:Nat) (xs:List RwP) (o:Opn) (e:Ending) (w':World):Prop :=
 ∃ d:DnW,e = .returned (.agg (codD.A d)) ∧ DnO w' d (doD xs o) ∧ (∃ rs',mpT w' m = some (tab rs') ∧ AllO RwO w' rs' (doX xs o)) ∧ Fr (oneB m) w w'
set_option maxRecDepth 100000 in
set_option maxHeartbeats 8000000 in
theorem gvDo_any (w:World) (b:Nat) (t:TrW) (ht:TrB w b t) (rs:List RwW) (xs:List RwP) (hm:mpT w t.m = some (tab rs)) (hR:AllO RwO w rs xs) (hT:GvT xs) (hbd:∀ x ∈ xs,x.Heads.length ≤ 1000000) (r:OpW) (o:Opn) (ho:OpO w r o) (hg:goodOp o = true) :
  Calls Tryz.prog 111 #[.pointer (some ⟨b,0,none⟩),.agg (codO.A r)] w (DoTo w t.m xs o):=by
 have f0:Fr noB w ((w.alloc (.cells (codO.A r) 83)).alloc (codD.o zDnW)):=((Fr.refl noB w).alloc _).alloc _
 have q:=opAt (Cod.rd_fr0 (Cod.rd_new (C:=codO) w 83 r) ((Fr.refl noB _).alloc (codD.o zDnW)))
 have bD:=Cod.bxd_new (C:=codD) (w.alloc (.cells (codO.A r) 83)) zDnW
 have hz:(w.alloc (.cells (codO.A r) 83)).heap.size = w.heap.size + 1:=by simp
 rw [hz] at bD
 have eK:o.Kind = r.Kind:=by rw [ho.inn.eq];rfl
 have eA:o.At = r.At:=by rw [ho.inn.eq];rfl
 have eN:o.Node = r.Node:=by rw [ho.inn.eq];rfl
 have eP:o.Parent = r.Parent:=by rw [ho.inn.eq];rfl
 have eM:o.Name = r.Name:=by rw [ho.inn.eq];rfl
 have eD:o.Data = r.Data:=by rw [ho.inn.eq];rfl
 have HE:=Lib.hid (show o.Kind = r.Kind ∧ o.At = r.At ∧ o.Node = r.Node ∧ o.Parent = r.Parent ∧ o.Name = r.Name ∧ o.Data = r.Data from ⟨eK,eA,eN,eP,eM,eD⟩)
 have hwn:wfS r.Node = true:=by rw [← eN];exact rightS_wf (goodOp_at hg).2.1
 have HG:=Lib.hid hg
 have HO:=Lib.hid ho
 have HR:=Lib.hid hR
 have HT:=Lib.hid hT
 have HBD:=Lib.hid hbd
 have hmS:=mpT_lt hm
 -- what lies at the node
 obtain ⟨rw0,b0,x0,hl1,hl2,h0,hx0⟩:∃ (rw0:RwW) (b0:Bool) (x0:RwP),(look (tab rs) r.Node).getD (.agg (codR.A zRwW)) = .agg (codR.A rw0) ∧ (look (tab rs) r.Node).isSome = b0 ∧ RwO w rw0 x0 ∧ x0 = (findR xs r.Node).getD zRwP ∧ b0 = (findR xs r.Node).isSome:=by
  rcases RwsO_.find hR r.Node with ⟨h1,h2⟩ | ⟨q,y,h1,h2,h3⟩
  ·exact ⟨zRwW,false,zRwP,by rw [look_tab,h1];rfl,by rw [look_tab,h1];rfl,RwO.zero w,by rw [h2];rfl,by rw [h2];rfl⟩
  ·exact ⟨q,true,y,by rw [look_tab,h1];rfl,by rw [look_tab,h1];rfl,h3,by rw [h2];rfl,by rw [h2];rfl⟩
 have H0:=Lib.hid h0
 have HX0:=Lib.hid hx0
 clear hz eK eA eN eP eM eD hg ho hR hT hbd h0 hx0
 have ht0:=ht.fr0 f0
 have hm0:=mpT_fr0 hm f0
 go_enter Tryz.func111,Tryz.ntmps111
 go_upto_region 1 with fail
 generalize (w.alloc (.cells (codO.A r) 83)).alloc (codD.o zDnW) = W0 at f0 q bD ht0 hm0 ⊢
 obtain ⟨O,hO⟩:∃ x,x = w.heap.size:=⟨_,rfl⟩
 obtain ⟨D,hD⟩:∃ x,x = w.heap.size + 1:=⟨_,rfl⟩
 rw [← hO] at q ⊢
 rw [← hD] at bD
 have eOD:O + 1 = D:=by omega
 rw [eOD]
 have HOD:=Lib.hid (And.intro hO hD)
 clear hO hD eOD
 obtain ⟨q1,q2,q3,q4,q5,q6,q7,q8,q9,q10⟩:=q
 clear q2 q3
 have b1:=ht0.m
 have hk:∀ w' w'':World,Fr noB w' w'' → (w'.cell? ⟨b,0,none⟩ = some (.map (some t.m)) ∧ codS.rd w' O 3 = some r.Node ∧ mpT w' t.m = some (tab rs)) → (w''.cell? ⟨b,0,none⟩ = some (.map (some t.m)) ∧ codS.rd w'' O 3 = some r.Node ∧ mpT w'' t.m = some (tab rs)):=fun w' w'' f h=>⟨cell_fr0 h.1 f,Cod.rd_fr0 h.2.1 f,mpT_fr0 h.2.2 f⟩
 have fd:Fr noB W0 W0.drew:=(Fr.refl noB W0).drew
 have hF0:=hk _ _ fd ⟨b1,q5,hm0⟩
 refine wp_region_M 12 13 [⟨4096,1,0⟩,⟨8192,4096,1⟩,⟨16384,8192,2⟩,⟨32768,16384,4⟩,⟨65536,8,0⟩,⟨131072,65536,16⟩,⟨262144,163840,40⟩,⟨2048,262144,64⟩,⟨524288,2048,128⟩,⟨1048576,2048,128⟩,⟨32,0,0⟩,⟨0,524320,1535⟩,⟨64,1048576,4095⟩] [(true,0),(true,1),(true,2),(true,3),(true,4),(true,5),(true,6),(true,7),(true,8),(true,9),(false,10),(false,11)] (fun w'=>w'.cell? ⟨b,0,none⟩ = some (.map (some t.m)) ∧ codS.rd w' O 3 = some r.Node ∧ mpT w' t.m = some (tab rs)) (by kernel_rfl) rfl (by kernel_rfl) (by kernel_rfl) (by kernel_rfl) hF0 (fun hA hF=>?_)
 iterate 10
  refine wpAnyS_take (v:=?_) hA rfl (fun _ _ _ h=>h) (Or.inl ⟨by rfl,?_⟩) hF (fun hA=>?_)
  rotate_left
  ·intro wS hSw;(try dsimp only at hSw);obtain ⟨s1,s2,s3⟩:=hSw;first | (apply Eq.trans;apply ex_ld_id;exact rfl;exact rfl;assumption;with_reducible rfl) | (apply Eq.trans;apply ex_ldR_at;exact rfl;exact rfl;assumption;with_reducible rfl) | (apply Eq.trans;apply ex_ldS_at;exact rfl;exact rfl;assumption;with_reducible rfl) | (go_simp;try with_reducible rfl)
  try simp only [sA1,sA2,sA3,Act.put,sA4,sA5,sA6]
 refine wpAnyS_one hA rfl (fun K' hK=>?_)
 refine step_runI rfl _ _ (okR.alOp _ _ rfl _) ?_
 have fa:Fr noB W0.drew (W0.drew.alloc (codR.o zRwW)):=(Fr.refl noB _).alloc _
 replace hF:=hk _ _ fa hF
 refine hK.out _ _ hF (fun hA=>?_)
 clear hK K'
 as_aux_lemma =>
 refine wpAnyS_one hA rfl (fun K' hK=>?_)
 refine stp_skip rfl _ (ex_stV_at (C:=codR) (v:=rw0) rfl rfl rfl (st_newR W0.drew rw0 zRwW)) ?_
 have fb:Fr noB W0.drew (W0.drew.alloc (codR.o rw0)):=(Fr.refl noB _).alloc _
 replace hF:=(hk _ _ fb hF0)
 refine hK.out _ _ hF (fun hA=>?_)
 clear hK K'
 as_aux_lemma =>
 refine wpAnyS_end hA rfl ?_
 simp only [List.drop_succ_cons,List.drop_zero]
 clear hF hk hF0 fa
 have bN:codR.bxd (W0.drew.alloc (codR.o rw0)) W0.drew.heap.size = some rw0:=Cod.bxd_new (C:=codR) W0.drew rw0
 have f1:=fd.step0 fb
 have HDN:=Lib.hid (show D < W0.drew.heap.size from Cod.bxd_lt bD)
 have bD1:=Cod.bxd_fr0 bD f1
 have bO1:=Cod.rd_fr0 q10 f1
 have b11:=cell_fr0 b1 f1
 have hm1:=mpT_fr0 hm0 f1
 have g1:=f0.step0 f1
 clear q1 q4 q5 q6 q7 q8 q9 q10 bD b1 hm0 ht0 f0 fd fb f1
 generalize W0.drew.alloc (codR.o rw0) = W1 at bN bD1 bO1 b11 hm1 g1 ⊢
 generalize W0.drew.heap.size = N at bN HDN ⊢
 go_upto_region 2 with fail
 have rN:=Cod.bxd_rd bN
 have fe:Fr noB W1 (W1.alloc (codD.o ⟨r,false,rw0,b0⟩)):=(Fr.refl noB W1).alloc _
 have bE:=Cod.bxd_new (C:=codD) W1 ⟨r,false,rw0,b0⟩
 have HNE:=Lib.hid (show N < W1.heap.size from Cod.bxd_lt bN)
 have bN2:=Cod.bxd_fr0 bN fe
 have bD2:=Cod.bxd_fr0 bD1 fe
 have q:=opAt (Cod.rd_fr0 bO1 fe)
 have b12:=cell_fr0 b11 fe
 have hm2:=mpT_fr0 hm1 fe
 have g2:=g1.step0 fe
 obtain ⟨q1,q2,q3,q4,q5,q6,q7,q8,q9,q10⟩:=q
 go_upto_region 3 with fail
 clear q2 q3 rN bN bD1 b11 hm1 g1 fe bO1
 generalize W1.alloc (codD.o ⟨r,false,rw0,b0⟩) = W2 at bE bN2 bD2 q1 q4 q5 q6 q7 q8 q9 q10 b12 hm2 g2 ⊢
 generalize W1.heap.size = E at bE HNE ⊢
 have HOO:=Lib.hid (show w.heap.size ≤ O ∧ O < D ∧ D < N ∧ N < E ∧ t.m < w.heap.size ∧ b < w.heap.size from ⟨by have:=HOD.out;omega,by have:=HOD.out;omega,HDN.out,HNE.out,hmS,Blk.lt ht⟩)
 clear HOD HDN HNE hl1 hl2 hmS
 by_cases hK:r.Kind = 1
 ·have k1:(r.Kind == 1) = true:=by simp [hK]
  have hKo:o.Kind = 1:=by rw [HE.out.1];exact hK
  obtain ⟨mv1,mv2,mv3,mv4⟩:=goodOp_move HG.out hKo
  have hwp:wfS r.Parent = true:=by rw [← HE.out.2.2.2.1];exact okP_wf mv1
  obtain ⟨rp,bp,hl3,hl4,hbp⟩:∃ (rp:RwW) (bp:Bool),(look (tab rs) r.Parent).getD (.agg (codR.A zRwW)) = .agg (codR.A rp) ∧ (look (tab rs) r.Parent).isSome = bp ∧ bp = (findR xs r.Parent).isSome:=by
   rcases RwsO_.find HR.out r.Parent with ⟨h1,h2⟩ | ⟨q,y,h1,h2,h3⟩
   ·exact ⟨zRwW,false,by rw [look_tab,h1];rfl,by rw [look_tab,h1];rfl,by rw [h2];rfl⟩
   ·exact ⟨q,true,by rw [look_tab,h1];rfl,by rw [look_tab,h1];rfl,by rw [h2];rfl⟩
  have HBP:=Lib.hid hbp
  have HMV:=Lib.hid (And.intro mv1 hKo)
  clear mv1 mv2 mv3 mv4 hbp hKo hK
  go_upto_region 4 with fail
  have hk:∀ w' w'':World,Fr noB w' w'' → (w'.cell? ⟨b,0,none⟩ = some (.map (some t.m)) ∧ codS.rd w' O 5 = some r.Parent ∧ mpT w' t.m = some (tab rs)) → (w''.cell? ⟨b,0,none⟩ = some (.map (some t.m)) ∧ codS.rd w'' O 5 = some r.Parent ∧ mpT w'' t.m = some (tab rs)):=fun w' w'' f h=>⟨cell_fr0 h.1 f,Cod.rd_fr0 h.2.1 f,mpT_fr0 h.2.2 f⟩
  have fd:Fr noB W2 W2.drew:=(Fr.refl noB W2).drew
  have hF0:=hk _ _ fd ⟨b12,q6,hm2⟩
  refine wp_region_M 12 13 [⟨536870912,1,0⟩,⟨1073741824,536870912,1⟩,⟨2147483648,1073741824,2⟩,⟨4294967296,2147483648,4⟩,⟨8589934592,8,0⟩,⟨17179869184,8589934592,16⟩,⟨34359738368,21474836480,40⟩,⟨268435456,34359738368,64⟩,⟨68719476736,268435456,128⟩,⟨137438953472,268435456,128⟩,⟨256,0,0⟩,⟨0,68719476992,1535⟩,⟨512,137438953472,4095⟩] [(true,0),(true,1),(true,2),(true,3),(true,4),(true,5),(true,6),(true,7),(true,8),(true,9),(false,10),(false,11)] (fun w'=>w'.cell? ⟨b,0,none⟩ = some (.map (some t.m)) ∧ codS.rd w' O 5 = some r.Parent ∧ mpT w' t.m = some (tab rs)) (by kernel_rfl) rfl (by kernel_rfl) (by kernel_rfl) (by kernel_rfl) hF0 (fun hA hF=>?_)
  iterate 10
   refine wpAnyS_take (v:=?_) hA rfl (fun _ _ _ h=>h) (Or.inl ⟨by rfl,?_⟩) hF (fun hA=>?_)
   rotate_left
   ·intro wS hSw;(try dsimp only at hSw);obtain ⟨s1,s2,s3⟩:=hSw;first | (apply Eq.trans;apply ex_ld_id;exact rfl;exact rfl;assumption;with_reducible rfl) | (apply Eq.trans;apply ex_ldR_at;exact rfl;exact rfl;assumption;with_reducible rfl) | (apply Eq.trans;apply ex_ldS_at;exact rfl;exact rfl;assumption;with_reducible rfl) | (go_simp;try with_reducible rfl)
   try simp only [sA1,sA2,sA3,Act.put,sA4,sA5,sA6]
  refine wpAnyS_one hA rfl (fun K' hK=>?_)
  refine step_runI rfl _ _ (okR.alOp _ _ rfl _) ?_
  have fa:Fr noB W2.drew (W2.drew.alloc (codR.o zRwW)):=(Fr.refl noB _).alloc _
  replace hF:=hk _ _ fa hF
  refine hK.out _ _ hF (fun hA=>?_)
  clear hK K'
  as_aux_lemma =>
  refine wpAnyS_one hA rfl (fun K' hK=>?_)
  refine stp_skip rfl _ (ex_stV_at (C:=codR) (v:=rp) rfl rfl rfl (st_newR W2.drew rp zRwW)) ?_
  have fb:Fr noB W2.drew (W2.drew.alloc (codR.o rp)):=(Fr.refl noB _).alloc _
  replace hF:=(hk _ _ fb hF0)
  refine hK.out _ _ hF (fun hA=>?_)
  clear hK K'
  as_aux_lemma =>
  refine wpAnyS_end hA rfl ?_
  simp only [List.drop_succ_cons,List.drop_zero]
  clear hF hk hF0 fa hl3 hl4
  have f3:=fd.step0 fb
  have bE3:=Cod.bxd_fr0 bE f3
  have bN3:=Cod.bxd_fr0 bN2 f3
  have bD3:=Cod.bxd_fr0 bD2 f3
  have b13:=cell_fr0 b12 f3
  have hm3:=mpT_fr0 hm2 f3
  have g3:=g2.step0 f3
  replace q10:=Cod.rd_fr0 q10 f3
  replace q5:=Cod.rd_fr0 q5 f3
  replace q6:=Cod.rd_fr0 q6 f3
  clear bE bN2 bD2 b12 hm2 g2 f3 fd fb q1 q4 q7 q8 q9
  generalize W2.drew.alloc (codR.o rp) = W3 at bE3 bN3 bD3 b13 hm3 g3 q5 q6 q10 ⊢
  have CA:=fun (hw:(findR xs r.Parent).isSome = true ∨ r.Parent.T = 0) w' (f:Fr noB W3 w')=>gvAbove_any w' b t (ht.fr0 (g3.step0 f)) rs xs (mpT_fr0 hm (g3.step0 f)) (RwsO_.rws (HR.out.map fun r y h=>h.fr (g3.step0 f) (NoHS.nob _))) r.Node r.Parent hwp xs.length (HT.out.way (by rw [← HE.out.2.2.2.1];exact HMV.out.1) hw)
  cases bp with
  | false =>
   by_cases hT0:r.Parent.T = 0
   ·have hT0':(r.Parent.T == 0) = true:=by simp [hT0]
    have CA':=Lib.hid (CA (.inr hT0))
    obtain ⟨v,hv⟩:∃ v,v = aboveN xs xs.length r.Node r.Parent:=⟨_,rfl⟩
    rw [← hv] at CA'
    have HV:=Lib.hid hv
    have HT0:=Lib.hid hT0
    clear CA hv hT0
    cases v with
    | true =>
     have HNONE:=Lib.hid (show newR xs o = none by
      unfold newR
      rw [if_pos HMV.out.2,if_pos]
      rw [Bool.or_eq_true]
      right
      unfold aboveR
      rw [HE.out.2.2.1,HE.out.2.2.2.1,← HV.out])
     go_upto_region 6 with (first
      | (go_at_call 137;refine (gvFixed_any _ r.Parent).mono ?_;rintro e w4 ⟨rfl,f4⟩;rw [hT0'];replace q5:=Cod.rd_fr0 q5 f4;replace q6:=Cod.rd_fr0 q6 f4)
      | (go_at_call 138;refine (CA'.out _ f4).mono ?_;rintro e wz ⟨rfl,f5⟩;have fz:=f4.step0 f5))
     have bEz:=Cod.bxd_fr0 bE3 fz
     have bDz:=Cod.bxd_fr0 bD3 fz
     have rEz:=Cod.bxd_rd bEz
     have hst:=okD.stR_box bDz ⟨r,false,rw0,b0⟩
     obtain ⟨p1,p2,p3⟩:=Cod.put_fr bDz ⟨r,false,rw0,b0⟩
     have HP1:=Lib.hid (And.intro p1 p3)
     have gz:=g3.step0 fz
     clear p1 p2 p3
     go_wp2_with fail
     obtain ⟨p1,p3⟩:=HP1.out
     refine bodyPost_ret (ret_row okD rfl _ _ D _ (by rfl) p3) rfl ?_
     have ge:=gz.step1 p1 (by have:=HOO.out;omega)
     have e1:doD xs o = ⟨o,false,x0,b0⟩:=by
      unfold doD
      rw [HNONE.out,HE.out.2.2.1,← HX0.out.1,← HX0.out.2];rfl
     have e2:doX xs o = xs:=by unfold doX;rw [HNONE.out]
     unfold DoTo
     rw [e1,e2]
     exact ⟨_,rfl,⟨HO.out.fr ge (NoHS.nob _),rfl,H0.out.fr ge (NoHS.nob _),rfl⟩,⟨rs,mpT_fr0 hm ge,HR.out.map fun r y h=>h.fr ge (NoHS.nob _)⟩,(Fr.refl (oneB t.m) w).step0 ge⟩
    | false =>
     have HNO:=Lib.hid (show (((findR xs o.Parent).isNone && !decide (o.Parent.T = 0)) || aboveR xs o.Node o.Parent) = false by
      unfold aboveR
      rw [HE.out.2.2.1,HE.out.2.2.2.1,← HV.out,HT0.out];simp)
     go_upto_region 7 with (first
      | (go_at_call 137;refine (gvFixed_any _ r.Parent).mono ?_;rintro e w4 ⟨rfl,f4⟩;rw [hT0'];replace q5:=Cod.rd_fr0 q5 f4;replace q6:=Cod.rd_fr0 q6 f4)
      | (go_at_call 138;refine (CA'.out _ f4).mono ?_;rintro e wz ⟨rfl,f5⟩;have fz:=f4.step0 f5))
     -- the move is done, from world wz on (fz)
     have hoo:=HOO.out
     have gz:=g3.step0 fz
     have fdz:Fr noB wz wz.drew:=(Fr.refl noB wz).drew
     have qq:=opAt (Cod.rd_fr0 q10 fz)
     have bNw:=Cod.bxd_fr0 (Cod.bxd_fr0 bN3 fz) fdz
     have hk7:∀ w' w'':World,Fr (oneB N) w' w'' → (codS.rd w' O 3 = some r.Node ∧ codS.rd w' O 5 = some r.Parent ∧ w'.cell? ⟨O,7,none⟩ = some (.string (str r.Name)) ∧ codS.rd w' O 1 = some r.At) → (codS.rd w'' O 3 = some r.Node ∧ codS.rd w'' O 5 = some r.Parent ∧ w''.cell? ⟨O,7,none⟩ = some (.string (str r.Name)) ∧ codS.rd w'' O 1 = some r.At):=fun w' w'' f h =>
      ⟨Cod.rd_fr h.1 f (by show ¬ O = N;omega),Cod.rd_fr h.2.1 f (by show ¬ O = N;omega),gcell_fr h.2.2.1 f (by show ¬ O = N;omega),Cod.rd_fr h.2.2.2 f (by show ¬ O = N;omega)⟩
     refine wp_region_M 15 16 [⟨36028797018963968,8,0⟩,⟨72057594037927936,36028797018963968,1⟩,⟨144115188075855872,8,0⟩,⟨288230376151711744,144115188075855872,4⟩,⟨576460752303423488,8,0⟩,⟨1152921504606846976,576460752303423488,16⟩,⟨2305843009213693952,8,0⟩,⟨4611686018427387904,2305843009213693952,64⟩,⟨9223372036854775808,32,3⟩,⟨0,9295429630892703744,259⟩,⟨18446744073709551616,32,783⟩,⟨0,18734974449861263360,1807⟩,⟨36893488147419103232,32,3903⟩,⟨0,38046409652025950208,7999⟩,⟨73786976294838206464,32,16383⟩,⟨0,78398662313265594368,32767⟩] [(true,0),(true,1),(true,2),(true,3),(true,4),(true,5),(true,6),(true,7),(true,8),(false,9),(true,10),(false,11),(true,12),(false,13),(true,14)] (fun w'=>codS.rd w' O 3 = some r.Node ∧ codS.rd w' O 5 = some r.Parent ∧ w'.cell? ⟨O,7,none⟩ = some (.string (str r.Name)) ∧ codS.rd w' O 1 = some r.At) (by kernel_rfl) rfl (by kernel_rfl) (by kernel_rfl) (by kernel_rfl) ⟨Cod.rd_fr0 qq.node fdz,Cod.rd_fr0 qq.parent fdz,cell_fr0 qq.name fdz,Cod.rd_fr0 qq.At fdz⟩ (fun hA hF=>?_)
     iterate 9
      refine wpAnyS_take (v:=?_) hA rfl (fun _ _ _ h=>h) (Or.inl ⟨by rfl,?_⟩) hF (fun hA=>?_)
      rotate_left
      ·intro wS hSw;(try dsimp only at hSw);obtain ⟨s1,s2,s3,s4⟩:=hSw;first | (apply Eq.trans;apply ex_ld_id;exact rfl;exact rfl;assumption;with_reducible rfl) | (apply Eq.trans;apply ex_ldR_at;exact rfl;exact rfl;assumption;with_reducible rfl) | (apply Eq.trans;apply ex_ldS_at;exact rfl;exact rfl;assumption;with_reducible rfl) | (go_simp;try with_reducible rfl)
      try simp only [sA1,sA2,sA3,Act.put,sA4,sA5,sA6]
     refine wpAnyS_one hA rfl (fun K' hK=>?_)
     refine stp_skip rfl _ (ex_stV_at (C:=codS) rfl rfl rfl (stw_Node bNw r.Node)) ?_
     obtain ⟨p1,_,n1⟩:=Cod.put_fr bNw { rw0 with Node:=r.Node }
     replace hF:=hk7 _ _ p1 hF
     refine hK.out _ _ hF (fun hA=>?_)
     clear hK K'
     as_aux_lemma =>
     refine wpAnyS_take (v:=?_) hA rfl (fun _ _ _ h=>h) (Or.inl ⟨by rfl,?_⟩) hF (fun hA=>?_)
     rotate_left
     ·intro wS hSw;(try dsimp only at hSw);obtain ⟨s1,s2,s3,s4⟩:=hSw;first | (apply Eq.trans;apply ex_ld_id;exact rfl;exact rfl;assumption;with_reducible rfl) | (apply Eq.trans;apply ex_ldR_at;exact rfl;exact rfl;assumption;with_reducible rfl) | (apply Eq.trans;apply ex_ldS_at;exact rfl;exact rfl;assumption;with_reducible rfl) | (go_simp;try with_reducible rfl)
     try simp only [sA1,sA2,sA3,Act.put,sA4,sA5,sA6]
     refine wpAnyS_one hA rfl (fun K' hK=>?_)
     refine stp_skip rfl _ (ex_stV_at (C:=codS) rfl rfl rfl (stw_Parent n1 r.Parent)) ?_
     obtain ⟨p2,_,n2⟩:=Cod.put_fr n1 { rw0 with Node:=r.Node,Parent:=r.Parent }
     replace hF:=hk7 _ _ p2 hF
     refine hK.out _ _ hF (fun hA=>?_)
     clear hK K'
     as_aux_lemma =>
     refine wpAnyS_take (v:=?_) hA rfl (fun _ _ _ h=>h) (Or.inl ⟨by rfl,?_⟩) hF (fun hA=>?_)
     rotate_left
     ·intro wS hSw;(try dsimp only at hSw);obtain ⟨s1,s2,s3,s4⟩:=hSw;first | (apply Eq.trans;apply ex_ld_id;exact rfl;exact rfl;assumption;with_reducible rfl) | (apply Eq.trans;apply ex_ldR_at;exact rfl;exact rfl;assumption;with_reducible rfl) | (apply Eq.trans;apply ex_ldS_at;exact rfl;exact rfl;assumption;with_reducible rfl) | (go_simp;try with_reducible rfl)
     try simp only [sA1,sA2,sA3,Act.put,sA4,sA5,sA6]
     refine wpAnyS_one hA rfl (fun K' hK=>?_)
     refine stp_skip rfl _ (ex_stT_at rfl rfl rfl (rwAt (Cod.bxd_rd n2)).name ((Cod.bxd_blk n2).frozen 6)) ?_
     have p3:=Cod.set_fr (codR.put (codR.put wz.drew N { rw0 with Node:=r.Node }) N { rw0 with Node:=r.Node,Parent:=r.Parent }) N 6 (.string (str r.Name))
     have n3:=Cod.bxd_set n2 6 (.string (str r.Name)) _ (sew_Name _ _)
     replace hF:=hk7 _ _ p3 hF
     refine hK.out _ _ hF (fun hA=>?_)
     clear hK K'
     as_aux_lemma =>
     refine wpAnyS_take (v:=?_) hA rfl (fun _ _ _ h=>h) (Or.inl ⟨by rfl,?_⟩) hF (fun hA=>?_)
     rotate_left
     ·intro wS hSw;(try dsimp only at hSw);obtain ⟨s1,s2,s3,s4⟩:=hSw;first | (apply Eq.trans;apply ex_ld_id;exact rfl;exact rfl;assumption;with_reducible rfl) | (apply Eq.trans;apply ex_ldR_at;exact rfl;exact rfl;assumption;with_reducible rfl) | (apply Eq.trans;apply ex_ldS_at;exact rfl;exact rfl;assumption;with_reducible rfl) | (go_simp;try with_reducible rfl)
     try simp only [sA1,sA2,sA3,Act.put,sA4,sA5,sA6]
     refine wpAnyS_end hA rfl ?_
     simp only [List.drop_succ_cons,List.drop_zero]
     have hst4:=stw_At n3 r.At
     obtain ⟨p4,_,n4⟩:=Cod.put_fr n3 { rw0 with Node:=r.Node,Parent:=r.Parent,Name:=r.Name,At:=r.At }
     have P4:=((p1.trans p2 (fun _ _ h=>h)).trans p3 (fun _ _ h=>h)).trans p4 (fun _ _ h=>h)
     have HP4:=Lib.hid (And.intro P4 n4)
     clear hF hk7 p1 p2 p3 p4 n1 n2 bNw qq P4 n4 hoo
     go_upto_region 12 with fail
     obtain ⟨r9,hr9⟩:∃ q:RwW,q = { rw0 with Node:=r.Node,Parent:=r.Parent,Name:=r.Name,At:=r.At }:=⟨_,rfl⟩
     have hP4:=HP4.out
     clear HP4 n3 hst4
     rw [← hr9] at hP4 ⊢
     generalize codR.put _ _ r9 = Wm at hP4 ⊢
     obtain ⟨P4,bNz⟩:=hP4
     have hoo:=HOO.out
     have bEz:=Cod.bxd_fr (Cod.bxd_fr0 (Cod.bxd_fr0 bE3 fz) fdz) P4 (by show ¬ E = N;omega)
     have bDz:=Cod.bxd_fr (Cod.bxd_fr0 (Cod.bxd_fr0 bD3 fz) fdz) P4 (by show ¬ D = N;omega)
     have qz:=Cod.rd_fr (Cod.rd_fr0 (opAt (Cod.rd_fr0 q10 fz)).node fdz) P4 (by show ¬ O = N;omega)
     have gz5:=(gz.step0 fdz).step1 P4 (by omega)
     have htz:=ht.fr0 gz5
     have hmz:=mpT_fr0 hm gz5
     replace gz:=gz5
     have h9:=Lib.hid (show r9.Node = r.Node by rw [hr9])
     obtain ⟨x9,hx9⟩:∃ q:RwP,q = ⟨o.Node,o.Parent,o.At,o.Name,hdsR xs o.Node⟩:=⟨_,rfl⟩
     have HNEW:=Lib.hid (show newR xs o = some x9 by
      unfold newR
      rw [if_pos HMV.out.2,if_neg (by rw [HNO.out];decide),hx9])
     have hh0:hdsR xs o.Node = x0.Heads:=by
      unfold hdsR
      rw [HX0.out.1,HE.out.2.2.1]
      cases findR xs r.Node <;> rfl
     have R9:=Lib.hid (show RwO Wm r9 x9 by
      have h0:=H0.out
      have ho:=HO.out.inn
      have e:=HE.out
      have base:RwO w r9 x9:=by
       rw [hr9,hx9,hh0]
       exact ⟨⟨by rw [e.2.2.1,e.2.2.2.1,e.2.1,e.2.2.2.2.1];rfl,h0.inn.len,h0.inn.sl,h0.inn.bd,ho.nm,hwn,hwp⟩,h0.own⟩
      exact base.fr gz5 (NoHS.nob _))
     clear gz5 fdz bE3 bD3 bN3 b13 hm3 g3 fz hr9 hx9 hh0 hoo P4
     have u12:=(dnAt (Cod.bxd_rd bEz)).tn
     rw [Nat.zero_add] at u12
     have z12:=(Cod.bxd_blk bEz).frozen 41
     go_upto_region 13 with fail
     have hoo:=HOO.out
     have g12:=Cod.set_fr Wm E 41 (.bool true)
     have bE13:=Cod.bxd_set bEz 41 (.bool true) _ (seD_tn _ _)
     have bN13:=Cod.bxd_fr bNz g12 (by show ¬ N = E;omega)
     have bD13:=Cod.bxd_fr bDz g12 (by show ¬ D = E;omega)
     have q13:=Cod.rd_fr qz g12 (by show ¬ O = E;omega)
     have b13:=(htz.fr g12 (by show ¬ b = E;omega)).m
     have hm13:=mpT_fr hmz g12 (by show ¬ t.m = E;omega)
     have gz13:=gz.step1 g12 (by omega)
     have R13:=Lib.hid (R9.out.fr g12 (NoHS.blk (Cod.bxd_blk bEz) (by decide) (by decide)))
     clear u12 z12 bEz bNz bDz qz htz hmz gz g12 hoo R9
     generalize World.setCell _ _ _ = W13 at bE13 bN13 bD13 q13 b13 hm13 gz13 R13 ⊢
     have rN13:=Cod.bxd_rd bN13
     have hk13:∀ w' w'':World,Fr noB w' w'' → (w'.cell? ⟨b,0,none⟩ = some (.map (some t.m)) ∧ codS.rd w' O 3 = some r.Node ∧ codR.rd w' N 0 = some r9) → (w''.cell? ⟨b,0,none⟩ = some (.map (some t.m)) ∧ codS.rd w'' O 3 = some r.Node ∧ codR.rd w'' N 0 = some r9):=fun w' w'' f h=>⟨cell_fr0 h.1 f,Cod.rd_fr0 h.2.1 f,Cod.rd_fr0 h.2.2 f⟩
     have fd13:Fr noB W13 W13.drew:=(Fr.refl noB W13).drew
     have fdR:=Lib.hid fd13
     refine wp_region_M 7 8 [⟨38685626227668133590597632,1,0⟩,⟨77371252455336267181195264,38685626227668133590597632,1⟩,⟨154742504910672534362390528,77371252455336267181195264,2⟩,⟨309485009821345068724781056,154742504910672534362390528,4⟩,⟨618970019642690137449562112,8,0⟩,⟨1237940039285380274899124224,618970019642690137449562112,16⟩,⟨2475880078570760549798248448,32,0⟩,⟨0,4023305127677485893422153728,127⟩] [(true,0),(true,1),(true,2),(true,3),(true,4),(true,5),(true,6)] (fun w'=>w'.cell? ⟨b,0,none⟩ = some (.map (some t.m)) ∧ codS.rd w' O 3 = some r.Node ∧ codR.rd w' N 0 = some r9) (by kernel_rfl) rfl (by kernel_rfl) (by kernel_rfl) (by kernel_rfl) (hk13 _ _ fd13 ⟨b13,q13,rN13⟩) (fun hA hF=>?_)
     iterate 7
      refine wpAnyS_take (v:=?_) hA rfl (fun _ _ _ h=>h) (Or.inl ⟨by rfl,?_⟩) hF (fun hA=>?_)
      rotate_left
      ·intro wS hSw;(try dsimp only at hSw);obtain ⟨s1,s2,s3⟩:=hSw;first | (apply Eq.trans;apply ex_ld_id;exact rfl;exact rfl;assumption;with_reducible rfl) | (apply Eq.trans;apply ex_ldR_at;exact rfl;exact rfl;assumption;with_reducible rfl) | (apply Eq.trans;apply ex_ldS_at;exact rfl;exact rfl;assumption;with_reducible rfl) | (go_simp;try with_reducible rfl)
      try simp only [sA1,sA2,sA3,Act.put,sA4,sA5,sA6]
     refine wpAnyS_end hA rfl ?_
     simp only [List.drop_succ_cons,List.drop_zero]
     clear hF hk13 rN13
     have hm14:=mpT_fr0 hm13 fd13
     have bE14':=Cod.bxd_fr0 bE13 fd13
     have bD14':=Cod.bxd_fr0 bD13 fd13
     have gz14:=gz13.step0 fd13
     have hoo:=HOO.out
     obtain ⟨_,m1,m2,m3⟩:=mputT_all Tryz.underlying152 hm14 hwn (.agg (codR.A r9))
     have bE14:=Cod.bxd_fr bE14' m2 (by show ¬ E = t.m;omega)
     have bD14:=Cod.bxd_fr bD14' m2 (by show ¬ D = t.m;omega)
     have rE14:=Cod.bxd_rd bE14
     have hst:=okD.stR_box bD14 ⟨r,true,rw0,b0⟩
     obtain ⟨p1,p2,p3⟩:=Cod.put_fr bD14 ⟨r,true,rw0,b0⟩
     have HP1:=Lib.hid (And.intro p1 (And.intro p3 (And.intro m1 m2)))
     clear p1 p2 p3 m1 m2 m3 hoo bE14' bD14' bE13 bD13 bN13 hm13 b13 q13 fd13
     go_wp2_with fail
     obtain ⟨p1,p3,m1,m2⟩:=HP1.out
     refine bodyPost_ret (ret_row okD rfl _ _ D _ (by rfl) p3) rfl ?_
     have hoo:=HOO.out
     have ge:Fr (oneB t.m) w _:=(((Fr.refl (oneB t.m) w).step0 gz14).trans m2 (fun _ _ h=>h)).step1 p1 (by omega)
     have nm:=NoHS.map hm
     have e1:doD xs o = ⟨o,true,x0,b0⟩:=by
      unfold doD
      rw [HNEW.out,HE.out.2.2.1,← HX0.out.1,← HX0.out.2];rfl
     have e2:doX xs o = putR xs x9:=by unfold doX;rw [HNEW.out]
     unfold DoTo
     rw [e1,e2]
     have n9:=h9.out
     refine ⟨_,rfl,⟨HO.out.fr ge nm,rfl,H0.out.fr ge nm,rfl⟩,⟨putW rs r9,?_,RwsO_.put (HR.out.map fun r y h=>h.fr ge nm) (((R13.out.fr fdR.out (NoHS.nob _)).fr m2 (NoHS.map hm14)).fr p1 (NoHS.blk (Cod.bxd_blk bD14) (by decide) (by decide)))⟩,ge⟩
     refine mpT_fr ?_ p1 (by show ¬ t.m = D;omega)
     rw [m1,← n9,tab_putW]
   ·have hT0':(r.Parent.T == 0) = false:=by rw [beq_eq_false_iff_ne];exact hT0
    have HNONE:=Lib.hid (show newR xs o = none by
     unfold newR
     rw [if_pos HMV.out.2,if_pos]
     rw [Bool.or_eq_true]
     left
     rw [HE.out.2.2.2.1]
     have h1:=HBP.out
     have h2:findR xs r.Parent = none:=by simpa using h1.symm
     rw [h2]
     simp [hT0])
    clear CA hT0
    go_upto_region 6 with (go_at_call 137;refine (gvFixed_any _ r.Parent).mono ?_;rintro e wz ⟨rfl,fz⟩;rw [hT0'])
    have bEz:=Cod.bxd_fr0 bE3 fz
    have bDz:=Cod.bxd_fr0 bD3 fz
    have rEz:=Cod.bxd_rd bEz
    have hst:=okD.stR_box bDz ⟨r,false,rw0,b0⟩
    obtain ⟨p1,p2,p3⟩:=Cod.put_fr bDz ⟨r,false,rw0,b0⟩
    have HP1:=Lib.hid (And.intro p1 p3)
    have gz:=g3.step0 fz
    clear p1 p2 p3
    go_wp2_with fail
    obtain ⟨p1,p3⟩:=HP1.out
    refine bodyPost_ret (ret_row okD rfl _ _ D _ (by rfl) p3) rfl ?_
    have ge:=gz.step1 p1 (by have:=HOO.out;omega)
    have e1:doD xs o = ⟨o,false,x0,b0⟩:=by
     unfold doD
     rw [HNONE.out,HE.out.2.2.1,← HX0.out.1,← HX0.out.2];rfl
    have e2:doX xs o = xs:=by unfold doX;rw [HNONE.out]
    unfold DoTo
    rw [e1,e2]
    exact ⟨_,rfl,⟨HO.out.fr ge (NoHS.nob _),rfl,H0.out.fr ge (NoHS.nob _),rfl⟩,⟨rs,mpT_fr0 hm ge,HR.out.map fun r y h=>h.fr ge (NoHS.nob _)⟩,(Fr.refl (oneB t.m) w).step0 ge⟩
  | true =>
   have CA':=Lib.hid (CA (.inl HBP.out.symm))
   obtain ⟨v,hv⟩:∃ v,v = aboveN xs xs.length r.Node r.Parent:=⟨_,rfl⟩
   rw [← hv] at CA'
   have HV:=Lib.hid hv
   clear CA hv
   cases v with
   | true =>
    have HNONE:=Lib.hid (show newR xs o = none by
     unfold newR
     rw [if_pos HMV.out.2,if_pos]
     rw [Bool.or_eq_true]
     right
     unfold aboveR
     rw [HE.out.2.2.1,HE.out.2.2.2.1,← HV.out])
    go_upto_region 6 with (go_at_call 138;refine (CA'.out _ (Fr.refl _ _)).mono ?_;rintro e wz ⟨rfl,fz⟩)
    have bEz:=Cod.bxd_fr0 bE3 fz
    have bDz:=Cod.bxd_fr0 bD3 fz
    have rEz:=Cod.bxd_rd bEz
    have hst:=okD.stR_box bDz ⟨r,false,rw0,b0⟩
    obtain ⟨p1,p2,p3⟩:=Cod.put_fr bDz ⟨r,false,rw0,b0⟩
    have HP1:=Lib.hid (And.intro p1 p3)
    have gz:=g3.step0 fz
    clear p1 p2 p3
    go_wp2_with fail
    obtain ⟨p1,p3⟩:=HP1.out
    refine bodyPost_ret (ret_row okD rfl _ _ D _ (by rfl) p3) rfl ?_
    have ge:=gz.step1 p1 (by have:=HOO.out;omega)
    have e1:doD xs o = ⟨o,false,x0,b0⟩:=by
     unfold doD
     rw [HNONE.out,HE.out.2.2.1,← HX0.out.1,← HX0.out.2];rfl
    have e2:doX xs o = xs:=by unfold doX;rw [HNONE.out]
    unfold DoTo
    rw [e1,e2]
    exact ⟨_,rfl,⟨HO.out.fr ge (NoHS.nob _),rfl,H0.out.fr ge (NoHS.nob _),rfl⟩,⟨rs,mpT_fr0 hm ge,HR.out.map fun r y h=>h.fr ge (NoHS.nob _)⟩,(Fr.refl (oneB t.m) w).step0 ge⟩
   | false =>
    have HNO:=Lib.hid (show (((findR xs o.Parent).isNone && !decide (o.Parent.T = 0)) || aboveR xs o.Node o.Parent) = false by
     unfold aboveR
     have h1:=HBP.out
     have h2:(findR xs r.Parent).isNone = false:=by
      cases h:findR xs r.Parent with
      | none=>rw [h] at h1;cases h1
      | some q=>rfl
     rw [HE.out.2.2.1,HE.out.2.2.2.1,← HV.out,h2];simp)
    go_upto_region 7 with (go_at_call 138;refine (CA'.out _ (Fr.refl _ _)).mono ?_;rintro e wz ⟨rfl,fz⟩)
    -- the move is done, from world wz on (fz)
    have hoo:=HOO.out
    have gz:=g3.step0 fz
    have fdz:Fr noB wz wz.drew:=(Fr.refl noB wz).drew
    have qq:=opAt (Cod.rd_fr0 q10 fz)
    have bNw:=Cod.bxd_fr0 (Cod.bxd_fr0 bN3 fz) fdz
    have hk7:∀ w' w'':World,Fr (oneB N) w' w'' → (codS.rd w' O 3 = some r.Node ∧ codS.rd w' O 5 = some r.Parent ∧ w'.cell? ⟨O,7,none⟩ = some (.string (str r.Name)) ∧ codS.rd w' O 1 = some r.At) → (codS.rd w'' O 3 = some r.Node ∧ codS.rd w'' O 5 = some r.Parent ∧ w''.cell? ⟨O,7,none⟩ = some (.string (str r.Name)) ∧ codS.rd w'' O 1 = some r.At):=fun w' w'' f h =>
     ⟨Cod.rd_fr h.1 f (by show ¬ O = N;omega),Cod.rd_fr h.2.1 f (by show ¬ O = N;omega),gcell_fr h.2.2.1 f (by show ¬ O = N;omega),Cod.rd_fr h.2.2.2 f (by show ¬ O = N;omega)⟩
    refine wp_region_M 15 16 [⟨36028797018963968,8,0⟩,⟨72057594037927936,36028797018963968,1⟩,⟨144115188075855872,8,0⟩,⟨288230376151711744,144115188075855872,4⟩,⟨576460752303423488,8,0⟩,⟨1152921504606846976,576460752303423488,16⟩,⟨2305843009213693952,8,0⟩,⟨4611686018427387904,2305843009213693952,64⟩,⟨9223372036854775808,32,3⟩,⟨0,9295429630892703744,259⟩,⟨18446744073709551616,32,783⟩,⟨0,18734974449861263360,1807⟩,⟨36893488147419103232,32,3903⟩,⟨0,38046409652025950208,7999⟩,⟨73786976294838206464,32,16383⟩,⟨0,78398662313265594368,32767⟩] [(true,0),(true,1),(true,2),(true,3),(true,4),(true,5),(true,6),(true,7),(true,8),(false,9),(true,10),(false,11),(true,12),(false,13),(true,14)] (fun w'=>codS.rd w' O 3 = some r.Node ∧ codS.rd w' O 5 = some r.Parent ∧ w'.cell? ⟨O,7,none⟩ = some (.string (str r.Name)) ∧ codS.rd w' O 1 = some r.At) (by kernel_rfl) rfl (by kernel_rfl) (by kernel_rfl) (by kernel_rfl) ⟨Cod.rd_fr0 qq.node fdz,Cod.rd_fr0 qq.parent fdz,cell_fr0 qq.name fdz,Cod.rd_fr0 qq.At fdz⟩ (fun hA hF=>?_)
    iterate 9
     refine wpAnyS_take (v:=?_) hA rfl (fun _ _ _ h=>h) (Or.inl ⟨by rfl,?_⟩) hF (fun hA=>?_)
     rotate_left
     ·intro wS hSw;(try dsimp only at hSw);obtain ⟨s1,s2,s3,s4⟩:=hSw;first | (apply Eq.trans;apply ex_ld_id;exact rfl;exact rfl;assumption;with_reducible rfl) | (apply Eq.trans;apply ex_ldR_at;exact rfl;exact rfl;assumption;with_reducible rfl) | (apply Eq.trans;apply ex_ldS_at;exact rfl;exact rfl;assumption;with_reducible rfl) | (go_simp;try with_reducible rfl)
     try simp only [sA1,sA2,sA3,Act.put,sA4,sA5,sA6]
    refine wpAnyS_one hA rfl (fun K' hK=>?_)
    refine stp_skip rfl _ (ex_stV_at (C:=codS) rfl rfl rfl (stw_Node bNw r.Node)) ?_
    obtain ⟨p1,_,n1⟩:=Cod.put_fr bNw { rw0 with Node:=r.Node }
    replace hF:=hk7 _ _ p1 hF
    refine hK.out _ _ hF (fun hA=>?_)
    clear hK K'
    as_aux_lemma =>
    refine wpAnyS_take (v:=?_) hA rfl (fun _ _ _ h=>h) (Or.inl ⟨by rfl,?_⟩) hF (fun hA=>?_)
    rotate_left
    ·intro wS hSw;(try dsimp only at hSw);obtain ⟨s1,s2,s3,s4⟩:=hSw;first | (apply Eq.trans;apply ex_ld_id;exact rfl;exact rfl;assumption;with_reducible rfl) | (apply Eq.trans;apply ex_ldR_at;exact rfl;exact rfl;assumption;with_reducible rfl) | (apply Eq.trans;apply ex_ldS_at;exact rfl;exact rfl;assumption;with_reducible rfl) | (go_simp;try with_reducible rfl)
    try simp only [sA1,sA2,sA3,Act.put,sA4,sA5,sA6]
    refine wpAnyS_one hA rfl (fun K' hK=>?_)
    refine stp_skip rfl _ (ex_stV_at (C:=codS) rfl rfl rfl (stw_Parent n1 r.Parent)) ?_
    obtain ⟨p2,_,n2⟩:=Cod.put_fr n1 { rw0 with Node:=r.Node,Parent:=r.Parent }
    replace hF:=hk7 _ _ p2 hF
    refine hK.out _ _ hF (fun hA=>?_)
    clear hK K'
    as_aux_lemma =>
    refine wpAnyS_take (v:=?_) hA rfl (fun _ _ _ h=>h) (Or.inl ⟨by rfl,?_⟩) hF (fun hA=>?_)
    rotate_left
    ·intro wS hSw;(try dsimp only at hSw);obtain ⟨s1,s2,s3,s4⟩:=hSw;first | (apply Eq.trans;apply ex_ld_id;exact rfl;exact rfl;assumption;with_reducible rfl) | (apply Eq.trans;apply ex_ldR_at;exact rfl;exact rfl;assumption;with_reducible rfl) | (apply Eq.trans;apply ex_ldS_at;exact rfl;exact rfl;assumption;with_reducible rfl) | (go_simp;try with_reducible rfl)
    try simp only [sA1,sA2,sA3,Act.put,sA4,sA5,sA6]
    refine wpAnyS_one hA rfl (fun K' hK=>?_)
    refine stp_skip rfl _ (ex_stT_at rfl rfl rfl (rwAt (Cod.bxd_rd n2)).name ((Cod.bxd_blk n2).frozen 6)) ?_
    have p3:=Cod.set_fr (codR.put (codR.put wz.drew N { rw0 with Node:=r.Node }) N { rw0 with Node:=r.Node,Parent:=r.Parent }) N 6 (.string (str r.Name))
    have n3:=Cod.bxd_set n2 6 (.string (str r.Name)) _ (sew_Name _ _)
    replace hF:=hk7 _ _ p3 hF
    refine hK.out _ _ hF (fun hA=>?_)
    clear hK K'
    as_aux_lemma =>
    refine wpAnyS_take (v:=?_) hA rfl (fun _ _ _ h=>h) (Or.inl ⟨by rfl,?_⟩) hF (fun hA=>?_)
    rotate_left
    ·intro wS hSw;(try dsimp only at hSw);obtain ⟨s1,s2,s3,s4⟩:=hSw;first | (apply Eq.trans;apply ex_ld_id;exact rfl;exact rfl;assumption;with_reducible rfl) | (apply Eq.trans;apply ex_ldR_at;exact rfl;exact rfl;assumption;with_reducible rfl) | (apply Eq.trans;apply ex_ldS_at;exact rfl;exact rfl;assumption;with_reducible rfl) | (go_simp;try with_reducible rfl)
    try simp only [sA1,sA2,sA3,Act.put,sA4,sA5,sA6]
    refine wpAnyS_end hA rfl ?_
    simp only [List.drop_succ_cons,List.drop_zero]
    have hst4:=stw_At n3 r.At
    obtain ⟨p4,_,n4⟩:=Cod.put_fr n3 { rw0 with Node:=r.Node,Parent:=r.Parent,Name:=r.Name,At:=r.At }
    have P4:=((p1.trans p2 (fun _ _ h=>h)).trans p3 (fun _ _ h=>h)).trans p4 (fun _ _ h=>h)
    have HP4:=Lib.hid (And.intro P4 n4)
    clear hF hk7 p1 p2 p3 p4 n1 n2 bNw qq P4 n4 hoo
    go_upto_region 12 with fail
    obtain ⟨r9,hr9⟩:∃ q:RwW,q = { rw0 with Node:=r.Node,Parent:=r.Parent,Name:=r.Name,At:=r.At }:=⟨_,rfl⟩
    have hP4:=HP4.out
    clear HP4 n3 hst4
    rw [← hr9] at hP4 ⊢
    generalize codR.put _ _ r9 = Wm at hP4 ⊢
    obtain ⟨P4,bNz⟩:=hP4
    have hoo:=HOO.out
    have bEz:=Cod.bxd_fr (Cod.bxd_fr0 (Cod.bxd_fr0 bE3 fz) fdz) P4 (by show ¬ E = N;omega)
    have bDz:=Cod.bxd_fr (Cod.bxd_fr0 (Cod.bxd_fr0 bD3 fz) fdz) P4 (by show ¬ D = N;omega)
    have qz:=Cod.rd_fr (Cod.rd_fr0 (opAt (Cod.rd_fr0 q10 fz)).node fdz) P4 (by show ¬ O = N;omega)
    have gz5:=(gz.step0 fdz).step1 P4 (by omega)
    have htz:=ht.fr0 gz5
    have hmz:=mpT_fr0 hm gz5
    replace gz:=gz5
    have h9:=Lib.hid (show r9.Node = r.Node by rw [hr9])
    obtain ⟨x9,hx9⟩:∃ q:RwP,q = ⟨o.Node,o.Parent,o.At,o.Name,hdsR xs o.Node⟩:=⟨_,rfl⟩
    have HNEW:=Lib.hid (show newR xs o = some x9 by
     unfold newR
     rw [if_pos HMV.out.2,if_neg (by rw [HNO.out];decide),hx9])
    have hh0:hdsR xs o.Node = x0.Heads:=by
     unfold hdsR
     rw [HX0.out.1,HE.out.2.2.1]
     cases findR xs r.Node <;> rfl
    have R9:=Lib.hid (show RwO Wm r9 x9 by
     have h0:=H0.out
     have ho:=HO.out.inn
     have e:=HE.out
     have base:RwO w r9 x9:=by
      rw [hr9,hx9,hh0]
      exact ⟨⟨by rw [e.2.2.1,e.2.2.2.1,e.2.1,e.2.2.2.2.1];rfl,h0.inn.len,h0.inn.sl,h0.inn.bd,ho.nm,hwn,hwp⟩,h0.own⟩
     exact base.fr gz5 (NoHS.nob _))
    clear gz5 fdz bE3 bD3 bN3 b13 hm3 g3 fz hr9 hx9 hh0 hoo P4
    have u12:=(dnAt (Cod.bxd_rd bEz)).tn
    rw [Nat.zero_add] at u12
    have z12:=(Cod.bxd_blk bEz).frozen 41
    go_upto_region 13 with fail
    have hoo:=HOO.out
    have g12:=Cod.set_fr Wm E 41 (.bool true)
    have bE13:=Cod.bxd_set bEz 41 (.bool true) _ (seD_tn _ _)
    have bN13:=Cod.bxd_fr bNz g12 (by show ¬ N = E;omega)
    have bD13:=Cod.bxd_fr bDz g12 (by show ¬ D = E;omega)
    have q13:=Cod.rd_fr qz g12 (by show ¬ O = E;omega)
    have b13:=(htz.fr g12 (by show ¬ b = E;omega)).m
    have hm13:=mpT_fr hmz g12 (by show ¬ t.m = E;omega)
    have gz13:=gz.step1 g12 (by omega)
    have R13:=Lib.hid (R9.out.fr g12 (NoHS.blk (Cod.bxd_blk bEz) (by decide) (by decide)))
    clear u12 z12 bEz bNz bDz qz htz hmz gz g12 hoo R9
    generalize World.setCell _ _ _ = W13 at bE13 bN13 bD13 q13 b13 hm13 gz13 R13 ⊢
    have rN13:=Cod.bxd_rd bN13
    have hk13:∀ w' w'':World,Fr noB w' w'' → (w'.cell? ⟨b,0,none⟩ = some (.map (some t.m)) ∧ codS.rd w' O 3 = some r.Node ∧ codR.rd w' N 0 = some r9) → (w''.cell? ⟨b,0,none⟩ = some (.map (some t.m)) ∧ codS.rd w'' O 3 = some r.Node ∧ codR.rd w'' N 0 = some r9):=fun w' w'' f h=>⟨cell_fr0 h.1 f,Cod.rd_fr0 h.2.1 f,Cod.rd_fr0 h.2.2 f⟩
    have fd13:Fr noB W13 W13.drew:=(Fr.refl noB W13).drew
    have fdR:=Lib.hid fd13
    refine wp_region_M 7 8 [⟨38685626227668133590597632,1,0⟩,⟨77371252455336267181195264,38685626227668133590597632,1⟩,⟨154742504910672534362390528,77371252455336267181195264,2⟩,⟨309485009821345068724781056,154742504910672534362390528,4⟩,⟨618970019642690137449562112,8,0⟩,⟨1237940039285380274899124224,618970019642690137449562112,16⟩,⟨2475880078570760549798248448,32,0⟩,⟨0,4023305127677485893422153728,127⟩] [(true,0),(true,1),(true,2),(true,3),(true,4),(true,5),(true,6)] (fun w'=>w'.cell? ⟨b,0,none⟩ = some (.map (some t.m)) ∧ codS.rd w' O 3 = some r.Node ∧ codR.rd w' N 0 = some r9) (by kernel_rfl) rfl (by kernel_rfl) (by kernel_rfl) (by kernel_rfl) (hk13 _ _ fd13 ⟨b13,q13,rN13⟩) (fun hA hF=>?_)
    iterate 7
     refine wpAnyS_take (v:=?_) hA rfl (fun _ _ _ h=>h) (Or.inl ⟨by rfl,?_⟩) hF (fun hA=>?_)
     rotate_left
     ·intro wS hSw;(try dsimp only at hSw);obtain ⟨s1,s2,s3⟩:=hSw;first | (apply Eq.trans;apply ex_ld_id;exact rfl;exact rfl;assumption;with_reducible rfl) | (apply Eq.trans;apply ex_ldR_at;exact rfl;exact rfl;assumption;with_reducible rfl) | (apply Eq.trans;apply ex_ldS_at;exact rfl;exact rfl;assumption;with_reducible rfl) | (go_simp;try with_reducible rfl)
     try simp only [sA1,sA2,sA3,Act.put,sA4,sA5,sA6]
    refine wpAnyS_end hA rfl ?_
    simp only [List.drop_succ_cons,List.drop_zero]
    clear hF hk13 rN13
    have hm14:=mpT_fr0 hm13 fd13
    have bE14':=Cod.bxd_fr0 bE13 fd13
    have bD14':=Cod.bxd_fr0 bD13 fd13
    have gz14:=gz13.step0 fd13
    have hoo:=HOO.out
    obtain ⟨_,m1,m2,m3⟩:=mputT_all Tryz.underlying152 hm14 hwn (.agg (codR.A r9))
    have bE14:=Cod.bxd_fr bE14' m2 (by show ¬ E = t.m;omega)
    have bD14:=Cod.bxd_fr bD14' m2 (by show ¬ D = t.m;omega)
    have rE14:=Cod.bxd_rd bE14
    have hst:=okD.stR_box bD14 ⟨r,true,rw0,b0⟩
    obtain ⟨p1,p2,p3⟩:=Cod.put_fr bD14 ⟨r,true,rw0,b0⟩
    have HP1:=Lib.hid (And.intro p1 (And.intro p3 (And.intro m1 m2)))
    clear p1 p2 p3 m1 m2 m3 hoo bE14' bD14' bE13 bD13 bN13 hm13 b13 q13 fd13
    go_wp2_with fail
    obtain ⟨p1,p3,m1,m2⟩:=HP1.out
    refine bodyPost_ret (ret_row okD rfl _ _ D _ (by rfl) p3) rfl ?_
    have hoo:=HOO.out
    have ge:Fr (oneB t.m) w _:=(((Fr.refl (oneB t.m) w).step0 gz14).trans m2 (fun _ _ h=>h)).step1 p1 (by omega)
    have nm:=NoHS.map hm
    have e1:doD xs o = ⟨o,true,x0,b0⟩:=by
     unfold doD
     rw [HNEW.out,HE.out.2.2.1,← HX0.out.1,← HX0.out.2];rfl
    have e2:doX xs o = putR xs x9:=by unfold doX;rw [HNEW.out]
    unfold DoTo
    rw [e1,e2]
    have n9:=h9.out
    refine ⟨_,rfl,⟨HO.out.fr ge nm,rfl,H0.out.fr ge nm,rfl⟩,⟨putW rs r9,?_,RwsO_.put (HR.out.map fun r y h=>h.fr ge nm) (((R13.out.fr fdR.out (NoHS.nob _)).fr m2 (NoHS.map hm14)).fr p1 (NoHS.blk (Cod.bxd_blk bD14) (by decide) (by decide)))⟩,ge⟩
    refine mpT_fr ?_ p1 (by show ¬ t.m = D;omega)
    rw [m1,← n9,tab_putW]
 ·have k1:(r.Kind == 1) = false:=by rw [beq_eq_false_iff_ne];exact hK
  have hKo:¬ o.Kind = 1:=by rw [HE.out.1];exact hK
  have HKO:=Lib.hid hKo
  clear hKo hK
  cases b0 with
  | false =>
   have HNONE:=Lib.hid (show newR xs o = none by
    unfold newR
    rw [if_neg HKO.out,HE.out.2.2.1]
    have h1:=HX0.out.2
    have h2:findR xs r.Node = none:=by simpa using h1.symm
    rw [h2])
   have bE3:=bE
   have bD3:=bD2
   have g3:=g2
   go_upto_region 9 with fail
   have fz:Fr noB W2 W2:=Fr.refl _ _
   have bEz:=Cod.bxd_fr0 bE3 fz
   have bDz:=Cod.bxd_fr0 bD3 fz
   have rEz:=Cod.bxd_rd bEz
   have hst:=okD.stR_box bDz ⟨r,false,rw0,false⟩
   obtain ⟨p1,p2,p3⟩:=Cod.put_fr bDz ⟨r,false,rw0,false⟩
   have HP1:=Lib.hid (And.intro p1 p3)
   have gz:=g3.step0 fz
   clear p1 p2 p3
   go_wp2_with fail
   obtain ⟨p1,p3⟩:=HP1.out
   refine bodyPost_ret (ret_row okD rfl _ _ D _ (by rfl) p3) rfl ?_
   have ge:=gz.step1 p1 (by have:=HOO.out;omega)
   have e1:doD xs o = ⟨o,false,x0,false⟩:=by
    unfold doD
    rw [HNONE.out,HE.out.2.2.1,← HX0.out.1,← HX0.out.2];rfl
   have e2:doX xs o = xs:=by unfold doX;rw [HNONE.out]
   unfold DoTo
   rw [e1,e2]
   exact ⟨_,rfl,⟨HO.out.fr ge (NoHS.nob _),rfl,H0.out.fr ge (NoHS.nob _),rfl⟩,⟨rs,mpT_fr0 hm ge,HR.out.map fun r y h=>h.fr ge (NoHS.nob _)⟩,(Fr.refl (oneB t.m) w).step0 ge⟩
  | true =>
   have hf0:findR xs r.Node = some x0:=by
    have h1:=HX0.out.1
    have h2:=HX0.out.2
    cases h:findR xs r.Node with
    | none=>rw [h] at h2;cases h2
    | some q=>rw [h] at h1;rw [h1];rfl
   have HF0:=Lib.hid hf0
   have HLB:=Lib.hid (HBD.out x0 (findR_some hf0).1)
   clear hf0
   have u2:=(rwAt (Cod.bxd_rd bN2)).heads
   have h02:=H0.out.fr g2 (NoHS.nob _)
   have HO2:=Lib.hid (HO.out.fr g2 (NoHS.nob _))
   have CH:=Lib.hid (clHeads_any W2 rw0.A rw0.c x0.Heads rw0.n h02.inn.len h02.inn.sl (by have:=HLB.out;omega))
   have CD:=Lib.hid (fun w' (f:Fr noB W2 w') A c n (l:List Hd) hn hown hcap hb=>delHeads_any W2 w' f A c n l hn hown hcap hb O r.A r.n r.c o.Over q9 HO2.out.inn.len HO2.out.inn.sl HO2.out.inn.bd)
   have ro:=q10
   clear h02
   go_upto_region 11 with (first
    | (go_at_call 112;refine CH.out.mono ?_;rintro e w4 ⟨A4,c4,rfl,o4,f4⟩;have hc4:x0.Heads.length ≤ c4:=by (obtain ⟨_,_,e,hc,_⟩:=own_form o4;injection e with _ _ e;omega))
    | (go_at_call 139;refine (CD.out w4 f4 A4 c4 x0.Heads.length x0.Heads rfl o4 hc4 (by have:=HLB.out;omega)).mono ?_;rintro e w5 ⟨A5,c5,rfl,o5,f5,hc5⟩))
   obtain ⟨hs5,hhs5⟩:∃ l:List Hd,l = leftH o.Over x0.Heads:=⟨_,rfl⟩
   rw [← hhs5] at o5 hc5 ⊢
   have HHS:=Lib.hid hhs5
   have HL5:=Lib.hid (show hs5.length ≤ 1000000 by
    rw [hhs5]
    have:=List.length_filter_le (fun h:Hd=>!decide (h.At ∈ o.Over)) x0.Heads
    have:=HLB.out
    unfold leftH
    omega)
   clear hhs5 CH CD u2 f4 o4 hc4
   have q4':=Cod.rd_fr0 q4 f5
   have q8':=rdI_fr q8 (rdI_lt q8) f5 (by simp [noB])
   have bN5:=Cod.bxd_fr0 bN2 f5
   have fn:Fr noB w5 (w5.alloc (codH.ro [⟨r.At,r.Data⟩])):=(Fr.refl noB w5).alloc _
   have sl:=Cod.sl_new (C:=codH) w5 [⟨r.At,r.Data⟩]
   have o6:=own_new0 o5 fn
   have f6:=f5.step0 fn
   have bN6:=Cod.bxd_fr0 bN5 fn
   clear o5 hc5 fn q1 q4 q5 q6 q7 q8 q9
   go_upto_region 12 with (at_builtin;refine wpList_appC' etH W2 _ rfl _ _ rfl A5 hs5.length c5 hs5 rfl rfl o6 (some ⟨w5.heap.size,0,none⟩) 1 1 [⟨r.At,r.Data⟩] rfl sl rfl (by have:=HL5.out;simp;omega) f6.size ?_;intro A7 c7 w7 hc7 hm7 o7 g7 hA7;have bN7:=Cod.bxd_fr bN6 (Fr.ofGrown (M:=fun b=>A5.map (·.block) = some b) g7 (fun g hg=>hg)) (fun e=>Blk.ne_own (Cod.bxd_blk bN6) o6 (by decide) N (by rw [ownBlock_sl'];exact e) rfl);have u7:=(rwAt (Cod.bxd_rd bN7)).heads;have z7:=(Cod.bxd_blk bN7).frozen 7)
   obtain ⟨hd,hhd⟩:∃ h:Hd,h = ⟨r.At,r.Data⟩:=⟨_,rfl⟩
   rw [← hhd] at o7
   have hdl:(hs5 ++ [hd]).length = hs5.length + 1:=by simp
   have F7:=gv_own f6 o6 g7
   obtain ⟨r9,hr9⟩:∃ q:RwW,q = { rw0 with A:=A7,n:=hs5.length + 1,c:=c7 }:=⟨_,rfl⟩
   have bNz:=Cod.bxd_set bN7 7 (.slice A7 (hs5.length + 1) c7) _ (sew_Heads _ _ _ _)
   have g8:=Cod.set_fr w7 N 7 (.slice A7 (hs5.length + 1) c7)
   have hoo:=HOO.out
   have o8:=own_zero (own_box (Cod.bxd_blk bN7) o7 (by decide) g8)
   have bEz:=Cod.bxd_fr (Cod.bxd_fr0 bE F7) g8 (by show ¬ E = N;omega)
   have bDz:=Cod.bxd_fr (Cod.bxd_fr0 bD2 F7) g8 (by show ¬ D = N;omega)
   have qz:=Cod.rd_fr (opAt (Cod.rd_fr0 q10 F7)).node g8 (by show ¬ O = N;omega)
   have gz:=(g2.step0 F7).step1 g8 (by omega)
   have htz:=ht.fr0 gz
   have hmz:=mpT_fr0 hm gz
   rw [← hr9] at bNz
   obtain ⟨x9,hx9⟩:∃ q:RwP,q = ⟨x0.Node,x0.Parent,x0.At,x0.Name,hs5 ++ [hd]⟩:=⟨_,rfl⟩
   have HNEW:=Lib.hid (show newR xs o = some x9 by
    unfold newR
    rw [if_neg HKO.out,HE.out.2.2.1,HF0.out,hx9,HHS.out,hhd,HE.out.2.1,HE.out.2.2.2.2.2])
   have h9:=Lib.hid (show r9.Node = r.Node by
    rw [hr9]
    have:=H0.out.inn.node
    rw [findR_node HF0.out] at this
    exact this.symm)
   have R9:=Lib.hid (show RwO (w7.setCell ⟨N,7,none⟩ (.slice A7 (hs5.length + 1) c7)) r9 x9 by
    have h0:=H0.out.inn
    rw [hr9,hx9]
    rw [hdl] at o8
    refine ⟨⟨by rw [h0.node,h0.parent,h0.at_,h0.name];rfl,hdl,Sl.own o8,?_,h0.nm,h0.wn,h0.wp⟩,o8⟩
    show (hs5 ++ [hd]).length ≤ _
    rw [hdl]
    have:=HL5.out
    omega)
   clear hdl F7 g8 hoo o8 bN7 o7 g7 hA7 u7 z7 hc7 hm7 o6 sl bN6 bN5 f6 f5 hr9 hx9 hhd bE bN2 bD2 b12 hm2 g2 q4' q8' ro q10
   generalize w7.setCell ⟨N,7,none⟩ (.slice A7 (hs5.length + 1) c7) = Wm at bNz bEz bDz qz gz htz hmz R9 ⊢
   have u12:=(dnAt (Cod.bxd_rd bEz)).tn
   rw [Nat.zero_add] at u12
   have z12:=(Cod.bxd_blk bEz).frozen 41
   go_upto_region 13 with fail
   have hoo:=HOO.out
   have g12:=Cod.set_fr Wm E 41 (.bool true)
   have bE13:=Cod.bxd_set bEz 41 (.bool true) _ (seD_tn _ _)
   have bN13:=Cod.bxd_fr bNz g12 (by show ¬ N = E;omega)
   have bD13:=Cod.bxd_fr bDz g12 (by show ¬ D = E;omega)
   have q13:=Cod.rd_fr qz g12 (by show ¬ O = E;omega)
   have b13:=(htz.fr g12 (by show ¬ b = E;omega)).m
   have hm13:=mpT_fr hmz g12 (by show ¬ t.m = E;omega)
   have gz13:=gz.step1 g12 (by omega)
   have R13:=Lib.hid (R9.out.fr g12 (NoHS.blk (Cod.bxd_blk bEz) (by decide) (by decide)))
   clear u12 z12 bEz bNz bDz qz htz hmz gz g12 hoo R9
   generalize World.setCell _ _ _ = W13 at bE13 bN13 bD13 q13 b13 hm13 gz13 R13 ⊢
   have rN13:=Cod.bxd_rd bN13
   have hk13:∀ w' w'':World,Fr noB w' w'' → (w'.cell? ⟨b,0,none⟩ = some (.map (some t.m)) ∧ codS.rd w' O 3 = some r.Node ∧ codR.rd w' N 0 = some r9) → (w''.cell? ⟨b,0,none⟩ = some (.map (some t.m)) ∧ codS.rd w'' O 3 = some r.Node ∧ codR.rd w'' N 0 = some r9):=fun w' w'' f h=>⟨cell_fr0 h.1 f,Cod.rd_fr0 h.2.1 f,Cod.rd_fr0 h.2.2 f⟩
   have fd13:Fr noB W13 W13.drew:=(Fr.refl noB W13).drew
   have fdR:=Lib.hid fd13
   refine wp_region_M 7 8 [⟨38685626227668133590597632,1,0⟩,⟨77371252455336267181195264,38685626227668133590597632,1⟩,⟨154742504910672534362390528,77371252455336267181195264,2⟩,⟨309485009821345068724781056,154742504910672534362390528,4⟩,⟨618970019642690137449562112,8,0⟩,⟨1237940039285380274899124224,618970019642690137449562112,16⟩,⟨2475880078570760549798248448,32,0⟩,⟨0,4023305127677485893422153728,127⟩] [(true,0),(true,1),(true,2),(true,3),(true,4),(true,5),(true,6)] (fun w'=>w'.cell? ⟨b,0,none⟩ = some (.map (some t.m)) ∧ codS.rd w' O 3 = some r.Node ∧ codR.rd w' N 0 = some r9) (by kernel_rfl) rfl (by kernel_rfl) (by kernel_rfl) (by kernel_rfl) (hk13 _ _ fd13 ⟨b13,q13,rN13⟩) (fun hA hF=>?_)
   iterate 7
    refine wpAnyS_take (v:=?_) hA rfl (fun _ _ _ h=>h) (Or.inl ⟨by rfl,?_⟩) hF (fun hA=>?_)
    rotate_left
    ·intro wS hSw;(try dsimp only at hSw);obtain ⟨s1,s2,s3⟩:=hSw;first | (apply Eq.trans;apply ex_ld_id;exact rfl;exact rfl;assumption;with_reducible rfl) | (apply Eq.trans;apply ex_ldR_at;exact rfl;exact rfl;assumption;with_reducible rfl) | (apply Eq.trans;apply ex_ldS_at;exact rfl;exact rfl;assumption;with_reducible rfl) | (go_simp;try with_reducible rfl)
    try simp only [sA1,sA2,sA3,Act.put,sA4,sA5,sA6]
   refine wpAnyS_end hA rfl ?_
   simp only [List.drop_succ_cons,List.drop_zero]
   clear hF hk13 rN13
   have hm14:=mpT_fr0 hm13 fd13
   have bE14':=Cod.bxd_fr0 bE13 fd13
   have bD14':=Cod.bxd_fr0 bD13 fd13
   have gz14:=gz13.step0 fd13
   have hoo:=HOO.out
   obtain ⟨_,m1,m2,m3⟩:=mputT_all Tryz.underlying152 hm14 hwn (.agg (codR.A r9))
   have bE14:=Cod.bxd_fr bE14' m2 (by show ¬ E = t.m;omega)
   have bD14:=Cod.bxd_fr bD14' m2 (by show ¬ D = t.m;omega)
   have rE14:=Cod.bxd_rd bE14
   have hst:=okD.stR_box bD14 ⟨r,true,rw0,true⟩
   obtain ⟨p1,p2,p3⟩:=Cod.put_fr bD14 ⟨r,true,rw0,true⟩
   have HP1:=Lib.hid (And.intro p1 (And.intro p3 (And.intro m1 m2)))
   clear p1 p2 p3 m1 m2 m3 hoo bE14' bD14' bE13 bD13 bN13 hm13 b13 q13 fd13
   go_wp2_with fail
   obtain ⟨p1,p3,m1,m2⟩:=HP1.out
   refine bodyPost_ret (ret_row okD rfl _ _ D _ (by rfl) p3) rfl ?_
   have hoo:=HOO.out
   have ge:Fr (oneB t.m) w _:=(((Fr.refl (oneB t.m) w).step0 gz14).trans m2 (fun _ _ h=>h)).step1 p1 (by omega)
   have nm:=NoHS.map hm
   have e1:doD xs o = ⟨o,true,x0,true⟩:=by
    unfold doD
    rw [HNEW.out,HE.out.2.2.1,← HX0.out.1,← HX0.out.2];rfl
   have e2:doX xs o = putR xs x9:=by unfold doX;rw [HNEW.out]
   unfold DoTo
   rw [e1,e2]
   have n9:=h9.out
   refine ⟨_,rfl,⟨HO.out.fr ge nm,rfl,H0.out.fr ge nm,rfl⟩,⟨putW rs r9,?_,RwsO_.put (HR.out.map fun r y h=>h.fr ge nm) (((R13.out.fr fdR.out (NoHS.nob _)).fr m2 (NoHS.map hm14)).fr p1 (NoHS.blk (Cod.bxd_blk bD14) (by decide) (by decide)))⟩,ge⟩
   refine mpT_fr ?_ p1 (by show ¬ t.m = D;omega)
   rw [m1,← n9,tab_putW]
end Go.Proofs.YtjpieiccpbcabaaGreat
namespace Go.Proofs.YtjpieiccpbcabaaGreat
open Go.RowKit Go.Shelf
set_option maxRecDepth 100000 in
set_option maxHeartbeats 1000000 in
theorem gvInsert1_any (w:World) (TB b O:Nat) (t:TrW) (hTB:w.cell? ⟨TB,0,none⟩ = some (.pointer (some ⟨b,0,none⟩))) (ht:TrB w b t) (ds:List DnW) (hn:ds.length = t.n) (hs:Sl w t.A (codD.row ds)) (s:St) (hO:codS.rd w O 1 = some s) (i:Nat) (hi:i < ds.length) :
  Calls Tryz.prog 107 #[.int .i64 (i:Int),.pointer (some ⟨TB,0,none⟩),.pointer (some ⟨O,0,none⟩)] w (Gives w (.bool (decide (0 ≤ cmpS ds[i].op.At s)))):=by
 have hl:=ht.log
 rw [← hn] at hl
 generalize hA:t.A = A at hl hs
 obtain ⟨g,off,rfl,hg⟩:=hs.adC (by omega)
 have e1:codS.rd w g (off + i * 51 + 1) = some ds[i].op.At:=(dnAt (hs.rd i hi)).At
 generalize ds[i].op.At = a at e1
 generalize t.c = c at hl
 have i0:(0:Int) ≤ (i:Int):=by omega
 have i1:(i:Int) < (ds.length:Int):=by omega
 generalize ds.length = n at hl i1
 have CC:=Lib.hid (fun w'=>scmp_v w' a s)
 generalize hz:cmpS a s = z at CC
 clear hz hs ht hA
 go_enter Tryz.func107,Tryz.ntmps107
 go_upto_region 1 with fail
 have hk:∀ w' w'':World,Fr noB w' w'' → (w'.cell? ⟨TB,0,none⟩ = some (.pointer (some ⟨b,0,none⟩)) ∧ w'.cell? ⟨b,1,none⟩ = some (.slice (some ⟨g,off,none⟩) n c) ∧ codS.rd w' g (off + i * 51 + 1) = some a ∧ codS.rd w' O 1 = some s) → (w''.cell? ⟨TB,0,none⟩ = some (.pointer (some ⟨b,0,none⟩)) ∧ w''.cell? ⟨b,1,none⟩ = some (.slice (some ⟨g,off,none⟩) n c) ∧ codS.rd w'' g (off + i * 51 + 1) = some a ∧ codS.rd w'' O 1 = some s):=fun w' w'' f h=>⟨cell_fr0 h.1 f,cell_fr0 h.2.1 f,Cod.rd_fr0 h.2.2.1 f,Cod.rd_fr0 h.2.2.2 f⟩
 have fd:Fr noB w w.drew:=(Fr.refl noB w).drew
 refine wp_region_M 13 14 [⟨32,2,0⟩,⟨64,32,1⟩,⟨128,64,2⟩,⟨256,128,4⟩,⟨512,1,0⟩,⟨1024,768,24⟩,⟨2048,1024,32⟩,⟨4096,2048,64⟩,⟨8192,4096,128⟩,⟨16384,4,0⟩,⟨32768,16384,512⟩,⟨65536,40960,1280⟩,⟨131072,65536,2048⟩,⟨16,131072,8191⟩] [(true,0),(true,1),(true,2),(true,3),(true,4),(true,5),(true,6),(true,7),(true,8),(true,9),(true,10),(false,11),(true,12)] (fun w'=>w'.cell? ⟨TB,0,none⟩ = some (.pointer (some ⟨b,0,none⟩)) ∧ w'.cell? ⟨b,1,none⟩ = some (.slice (some ⟨g,off,none⟩) n c) ∧ codS.rd w' g (off + i * 51 + 1) = some a ∧ codS.rd w' O 1 = some s) (by kernel_rfl) rfl (by kernel_rfl) (by kernel_rfl) (by kernel_rfl) (hk _ _ fd ⟨hTB,hl,e1,hO⟩) (fun hA hF=>?_)
 iterate 11
  refine wpAnyS_take (v:=?_) hA rfl (fun _ _ _ h=>h) (Or.inl ⟨by rfl,?_⟩) hF (fun hA=>?_)
  rotate_left
  ·intro wS hSw;(try dsimp only at hSw);obtain ⟨s1,s2,s3,s4⟩:=hSw;first | (apply Eq.trans;apply ex_ldS_at;exact rfl;exact rfl;assumption;with_reducible rfl) | (go_simp;try with_reducible rfl)
  try simp only [sA1,sA2,sA3,Act.put,sA4,sA5,sA6]
 refine wpAnyS_one hA rfl (fun K' hK=>?_)
 go_simp
 go_at_call 76
 refine (CC.out _).mono ?_
 rintro e w2 ⟨rfl,f2⟩
 replace hF:=hk _ _ f2 hF
 refine hK.out _ _ hF (fun hA=>?_)
 clear hK K'
 as_aux_lemma =>
 refine wpAnyS_take (v:=?_) hA rfl (fun _ _ _ h=>h) (Or.inl ⟨by rfl,?_⟩) hF (fun hA=>?_)
 rotate_left
 ·intro wS hSw;(try dsimp only at hSw);obtain ⟨s1,s2,s3,s4⟩:=hSw;first | (apply Eq.trans;apply ex_ldS_at;exact rfl;exact rfl;assumption;with_reducible rfl) | (go_simp;try with_reducible rfl)
 try simp only [sA1,sA2,sA3,Act.put,sA4,sA5,sA6]
 refine wpAnyS_end hA rfl ?_
 simp only [List.drop_succ_cons,List.drop_zero]
 clear hF hk
 go_wp2_with fail
 go_ret
 exact ⟨rfl,fd.step0 f2⟩
def BkTo (w:World) (A:Option Addr) (n c:Nat) (e:Ending) (w':World):Prop:=e = .returned (.func (.func 136) #[] #[.pointer (some ⟨w.heap.size,0,none⟩)]) ∧ w' = w.alloc (.cells #[.slice A n c] 153)
set_option maxRecDepth 100000 in
theorem bkDones_any (w:World) (A:Option Addr) (n c:Nat):Calls Tryz.prog 109 #[.slice A n c] w (BkTo w A n c):=by
 go_enter Tryz.func109,Tryz.ntmps109
 go_wp2_with fail
 go_ret
 exact ⟨rfl,rfl⟩
def upF (N k:Nat):List (Fin N):=((List.finRange N).drop k).reverse
theorem upF_succ {N k:Nat} (h:k < N):upF N k = upF N (k + 1) ++ [⟨k,h⟩]:=by
 unfold upF
 have hk:k < (List.finRange N).length:=by simpa using h
 rw [List.drop_eq_getElem_cons hk,List.reverse_cons]
 simp
theorem upF_all (N:Nat):upF N N = []:=by
 unfold upF
 rw [List.drop_of_length_le (by simp)];rfl
theorem upF_len (N k:Nat):(upF N k).length = N - k:=by simp [upF]
def KpB (m n₀:Nat) (W W':World):Prop:=Fr (fun k=>k = m ∨ n₀ ≤ k) W W'
theorem KpB.refl {m n₀:Nat} (W:World):KpB m n₀ W W:=Fr.refl _ _
theorem KpB.trans {m n₀:Nat} {A B C:World} (h:KpB m n₀ A B) (k:KpB m n₀ B C):KpB m n₀ A C:=Fr.trans h k (fun _ _ h=>h)
theorem KpB.book {m n₀:Nat} {w:World} (hn:n₀ ≤ w.heap.size) (W:World) (l:Nat) (o o':Obj) (hl:w.heap.size ≤ l) (h:W.heap[l]? = some o) (_:o.isCells = false) (_:o.isWalk = false):KpB m n₀ W (W.putObj l o'):=by
 have g:=grownBy_putObj' W l o'
 exact Fr.ofGrown g (fun r e=>.inr (by cases e;omega))
attribute [local go_sem] Oper.semAt_some
/-! inside a fence the operations are those outside: the rules on values of several cells are met -/
theorem sem_w (ρ:Operand → Value) (o:Oper) (w:World):(Oper.semAt Fence.wide.round ρ o).run Tryz.prog w = (execOp ρ o).run Tryz.prog w:=rfl
theorem sem_ld (l:Nat) (ρ:Operand → Value) (d:Option Nat) (ty:TypeId) (a:Operand) (t:TypeId) (p:String) (f:Array Edge) (g:Option (Nat × Bool)) (w:World) :
  (Oper.semAt (Fence.wide.inRound l).round ρ { dst:=d,op:=.load ty a,type:=t,pos:=p,after:=f,guard:=g }).run Tryz.prog w = (execOp ρ { dst:=d,op:=.load ty a,type:=t,pos:=p,after:=f,guard:=g }).run Tryz.prog w:=by rw [Oper.semAt_eq _ _ _ (by simp)]
theorem sem_st (l:Nat) (ρ:Operand → Value) (d:Option Nat) (ty:TypeId) (a x:Operand) (t:TypeId) (p:String) (f:Array Edge) (g:Option (Nat × Bool)) (w:World) :
  (Oper.semAt (Fence.wide.inRound l).round ρ { dst:=d,op:=.store ty a x,type:=t,pos:=p,after:=f,guard:=g }).run Tryz.prog w = (execOp ρ { dst:=d,op:=.store ty a x,type:=t,pos:=p,after:=f,guard:=g }).run Tryz.prog w:=by rw [Oper.semAt_eq _ _ _ (by simp)]
theorem sem_al (l:Nat) (ρ:Operand → Value) (d:Option Nat) (ty:TypeId) (t:TypeId) (p:String) (f:Array Edge) (g:Option (Nat × Bool)) (w:World) :
  (Oper.semAt (Fence.wide.inRound l).round ρ { dst:=d,op:=.alloc ty,type:=t,pos:=p,after:=f,guard:=g }).run Tryz.prog w = (execOp ρ { dst:=d,op:=.alloc ty,type:=t,pos:=p,after:=f,guard:=g }).run Tryz.prog w:=by rw [Oper.semAt_eq _ _ _ (by simp)]
attribute [local simp ↓] sem_w sem_ld sem_st sem_al
set_option maxRecDepth 100000 in
set_option maxHeartbeats 2000000 in
theorem bk1_in (n:Nat) (hn:1 ≤ n) (N:Nat) (ds:List DnW) (hN:ds.length = N) (hb:N ≤ 100000) (l Bs n₀ m cap:Nat) (A:Option Addr) (hBn:Bs < n₀ ∧ Bs ≠ m) (hA:∀ g,A.map (·.block) = some g → g < n₀ ∧ g ≠ m) (J Jx:List (Fin N) → World → Prop)
  (hY:∀ pre (x:Fin N) W,J pre W → pre.length < N → YieldAt Fence.wide (n - 1) Tryz.prog l #[.int .i64 (x.1:Int),.agg (codD.A (ds[x.1]'(by rw [hN];exact x.2)))] W fun e W' =>
   (e = .returned (.bool true) ∧ J (pre ++ [x]) W' ∧ KpB m n₀ W W') ∨ (e = .returned (.bool false) ∧ Jx (pre ++ [x]) W'))
  (W:World) (hBs:W.cell? ⟨Bs,0,none⟩ = some (.slice A N cap)) (hs:Sl W A (codD.row ds)) (h0:J [] W) :
  CallsIn Fence.wide n Tryz.prog 136 #[.func (.yield l) #[] #[],.pointer (some ⟨Bs,0,none⟩)] W fun e W'=>(∃ v,e = .returned v) ∧
   ((∃ ys,ys = upF N 0 ∧ J ys W') ∨ (∃ pre,True ∧ Jx pre W')):=by
 refine callsIn_of_wp Tryz.func136 rfl trivial ?_ rfl
 simp only [Tryz.ntmps136,List.size_toArray,List.length_cons,List.length_nil,Nat.reduceAdd,Nat.reduceSub,Array.replicate_succ,Array.replicate_zero,List.push_toArray,List.append_toArray,List.nil_append,List.cons_append]
 have wN:IntKind.i64.wrap ((N:Int) - 1) = (N:Int) - 1:=by rw [IntKind.wrap_i64];omega
 gi_wp2
 gi_loopw [3] (fun i wr=>∃ (k:Nat) (z:Int),k ≤ N ∧ i = .int .i64 z ∧ z = (k:Int) - 1 ∧ J (upF N k) wr ∧ KpB m n₀ W wr)
  (fun i _=>(intOf i + 1).toNat)
 case atStart=>exact ⟨N,(N:Int) - 1,Nat.le_refl _,by first | rfl | simp,rfl,by rw [upF_all];exact h0,KpB.refl _⟩
 case round =>
  obtain ⟨k,z,hk,rfl,hz,hJs,hnx⟩:=hrel
  cases k with
  | zero =>
   have hz':¬ (0:Int) ≤ z:=by omega
   clear hz
   gi_wp2
   go_end0
   first | exact ⟨⟨_,rfl⟩,.inl ⟨_,rfl,hJs⟩⟩ | exact ⟨⟨_,rfl⟩,.inl hJs⟩
  | succ q =>
   have hz':z = (q:Int):=by omega
   clear hz
   subst hz'
   have hq:q < N:=by omega
   obtain ⟨g,off,rfl,hg⟩:=hs.adC (by omega)
   obtain ⟨hg1,hg2⟩:=hA g rfl
   have e0:codD.rd W g (off + q * 51) = some (ds[q]'(by omega)):=hs.rd q (by omega)
   have e1:=Cod.rd_fr e0 hnx (by rintro (h | h) <;> omega)
   have eB:wr.cell? ⟨Bs,0,none⟩ = some (.slice (some ⟨g,off,none⟩) N cap):=gcell_fr hBs hnx (by rintro (h | h) <;> omega)
   obtain ⟨fn,tmps,assign,body,hy,hR⟩:=hY _ ⟨q,hq⟩ wr hJs (by rw [upF_len];omega)
   dsimp only at hy
   have i0:(0:Int) ≤ (q:Int):=by omega
   have i1:(q:Int) < (N:Int):=by omega
   have wq:IntKind.i64.wrap ((q:Int) - 1) = (q:Int) - 1:=by rw [IntKind.wrap_i64];omega
   generalize (ds[q]'(by omega)) = d at e1 hy
   gi_wp2
   refine hR.mono ?_
   rintro e W3 (⟨rfl,hJ3,hk3⟩ | ⟨rfl,hJx3⟩)
   ·gi_wp2
    go_roundw
    case rel=>exact ⟨q,(q:Int) - 1,by omega,by first | rfl | simp,rfl,by rw [upF_succ hq];exact hJ3,hnx.trans hk3⟩
    case measure=>first | (simp [intOf];done) | (simp [intOf];omega)
   ·gi_wp2
    refine bodyPost_ret (results_none rfl _ _ _) rfl ?_
    exact ⟨⟨_,rfl⟩,.inr ⟨_,trivial,hJx3⟩⟩
end Go.Proofs.YtjpieiccpbcabaaGreat
namespace Go.Proofs.YtjpieiccpbcabaaGreat
open Go.RowKit Go.Shelf
def SrtL (L:List Opn):Prop:=L.Pairwise (fun a b=>cmpS a.At b.At < 0)
structure GvS (base:Nat) (w:World) (b:Nat) (t:TrW) (L:List Opn):Prop where
 tr:TrB w b t
 bb:base ≤ b
 mm:base ≤ t.m
 rows:∃ rs,mpT w t.m = some (tab rs) ∧ AllO RwO w rs (runX [] L)
 log:∃ ds:List DnW,ds.length = t.n ∧ w.ownsRow base 177 51 (.slice t.A t.n t.c) t.n (codD.row ds) ∧ AllO DnO w ds (logX [] L)
 ok:∀ o ∈ L,goodOp o = true
def trM (b:Nat) (t:TrW):Nat → Prop:=fun k=>k = b ∨ k = t.m ∨ t.A.map (·.block) = some k
theorem runX_heads (L:List Opn) (xs:List RwP) (N:Nat) (h:∀ x ∈ xs,x.Heads.length ≤ N):∀ x ∈ runX xs L,x.Heads.length ≤ N + L.length:=by
 induction L generalizing xs N with
 | nil=>simpa [runX] using h
 | cons o L ih =>
  intro x hx
  have:=ih (doX xs o) (N + 1) (fun y hy=>by
   unfold doX at hy
   cases hn:newR xs o with
   | none=>rw [hn] at hy;have:=h y hy;omega
   | some r =>
    rw [hn] at hy
    rcases mem_put hy with rfl | ⟨hy,_⟩
    ·unfold newR at hn
     split at hn
     ·split at hn
      ·cases hn
      ·injection hn with hn
       subst hn
       show (hdsR xs o.Node).length ≤ _
       unfold hdsR
       cases hf:findR xs o.Node with
       | none=>simp
       | some q=>have:=h q (findR_some hf).1;simp only;omega
     ·cases hf:findR xs o.Node with
      | none=>rw [hf] at hn;cases hn
      | some q =>
       rw [hf] at hn
       injection hn with hn
       subst hn
       have:=h q (findR_some hf).1
       have:=List.length_filter_le (fun h:Hd=>!decide (h.At ∈ o.Over)) q.Heads
       show (leftH o.Over q.Heads ++ [_]).length ≤ _
       unfold leftH
       simp only [List.length_append,List.length_singleton]
       omega
    ·have:=h y hy;omega) x hx
  simp only [List.length_cons]
  omega
theorem GvS.heads {base:Nat} {w:World} {b:Nat} {t:TrW} {L:List Opn} (h:GvS base w b t L) (hL:L.length ≤ 1000000):∀ x ∈ runX [] L,x.Heads.length ≤ 1000000:=fun x hx=>by
 have:=runX_heads L [] 0 (by simp) x hx
 omega
theorem GvS.len {base:Nat} {w:World} {b:Nat} {t:TrW} {L:List Opn} (h:GvS base w b t L):t.n = L.length:=by
 obtain ⟨ds,h1,_,h2⟩:=h.log
 rw [← h1,h2.1,logX_len]
theorem GvS.fr {base:Nat} {w w':World} {b:Nat} {t:TrW} {L:List Opn} (h:GvS base w b t L) {M:Nat → Prop} (f:Fr M w w') (hs:NoHS M w) (h1:¬ M b) (h2:¬ M t.m) (h3:∀ g,t.A.map (·.block) = some g → ¬ M g):GvS base w' b t L:=by
 obtain ⟨rs,r1,r2⟩:=h.rows
 obtain ⟨ds,d1,d2,d3⟩:=h.log
 exact ⟨h.tr.fr f h1,h.bb,h.mm,⟨rs,mpT_fr r1 f h2,r2.map fun r x k=>k.fr f hs⟩,⟨ds,d1,own_fr d2 f (fun g hg=>h3 g (by rw [ownBlock_sl'] at hg;exact hg)),d3.map fun r x k=>k.fr f hs⟩,h.ok⟩
theorem GvS.fr0 {base:Nat} {w w':World} {b:Nat} {t:TrW} {L:List Opn} (h:GvS base w b t L) (f:Fr noB w w'):GvS base w' b t L :=
 h.fr f (NoHS.nob _) (by simp [noB]) (by simp [noB]) (fun _ _=>by simp [noB])
set_option maxRecDepth 100000 in
@[simp] theorem dns_l (w:World) (a:Option Addr) (n c:Nat) (k:IntKind) (l:Int) :
  (Instr.slice 153 (.slice a n c) (some (.int k l)) none none).run Tryz.prog w = if 0 ≤ l ∧ l ≤ n then .ok (.slice (cutA a c l.toNat 51) (n - l.toNat) (c - l.toNat)) w else elseR ((Instr.slice 153 (.slice a n c) (some (.int k l)) none none).run Tryz.prog w):=by
 split
 ·rename_i h
  rw [run_slice_l w 153 a n c Tryz.underlying153 k l h.1 h.2];rfl
 ·exact elseR_eq _
def undoWs (rs:List RwW) (N:Nat) (ds:List DnW) (hN:ds.length = N) (pre:List (Fin N)):List RwW:=pre.foldl (fun rs i=>undoW rs (ds[i.1]'(by rw [hN];exact i.2))) rs
def undoXs (xs:List RwP) (N:Nat) (ys:List DnP) (hN:ys.length = N) (pre:List (Fin N)):List RwP:=pre.foldl (fun xs i=>undoX xs (ys[i.1]'(by rw [hN];exact i.2))) xs
theorem undoWs_all {w:World} {N:Nat} {ds:List DnW} {ys:List DnP} (hN:ds.length = N) (hM:ys.length = N) (hd:AllO DnO w ds ys) (pre:List (Fin N)):∀ {rs:List RwW} {xs:List RwP},AllO RwO w rs xs → AllO RwO w (undoWs rs N ds hN pre) (undoXs xs N ys hM pre):=by
 induction pre with
 | nil=>exact fun h=>h
 | cons i pre ih =>
  intro rs xs h
  exact ih (RwsO_.undo h (hd.2 i.1 (by rw [hN];exact i.2) (by rw [hM];exact i.2)))
theorem undoXs_rev (xs:List RwP) (N:Nat) (ys:List DnP) (hN:ys.length = N):undoXs xs N ys hN (upF N 0) = ys.reverse.foldl undoX xs:=by
 have e:ys.reverse = (upF N 0).map (fun i=>ys[i.1]'(by rw [hN];exact i.2)):=by
  subst hN
  unfold upF
  rw [List.drop_zero,List.map_reverse]
  congr 1
  apply List.ext_getElem
  ·simp
  ·intro i h1 h2
   simp
 rw [e,List.foldl_map]
 rfl
structure GvW (base:Nat) (w:World) (b:Nat) (t:TrW) (xs:List RwP) (ys:List DnP):Prop where
 tr:TrB w b t
 bb:base ≤ b
 mm:base ≤ t.m
 rows:∃ rs,mpT w t.m = some (tab rs) ∧ AllO RwO w rs xs
 log:∃ ds:List DnW,ds.length = t.n ∧ w.ownsRow base 177 51 (.slice t.A t.n t.c) t.n (codD.row ds) ∧ AllO DnO w ds ys
theorem GvS.wk {base:Nat} {w:World} {b:Nat} {t:TrW} {L:List Opn} (h:GvS base w b t L):GvW base w b t (runX [] L) (logX [] L):=⟨h.tr,h.bb,h.mm,h.rows,h.log⟩
theorem GvW.tree {base:Nat} {w:World} {b:Nat} {t:TrW} {L:List Opn} (h:GvW base w b t (runX [] L) (logX [] L)) (ok:∀ o ∈ L,goodOp o = true):GvS base w b t L:=⟨h.tr,h.bb,h.mm,h.rows,h.log,ok⟩
theorem GvW.bm {base:Nat} {w:World} {b:Nat} {t:TrW} {xs:List RwP} {ys:List DnP} (h:GvW base w b t xs ys):b ≠ t.m:=by
 obtain ⟨rs,h1,_⟩:=h.rows
 exact mpT_ne h1 h.tr
theorem GvW.ml {base:Nat} {w:World} {b:Nat} {t:TrW} {xs:List RwP} {ys:List DnP} (h:GvW base w b t xs ys):t.m < w.heap.size:=by
 obtain ⟨rs,h1,_⟩:=h.rows
 exact mpT_lt h1
theorem own_blk {w:World} {base:Nat} {e:TypeId} {size n c:Nat} {A:Option Addr} {xs:List Value} (h:w.ownsRow base e size (.slice A n c) n xs) {g:Nat} (hg:A.map (·.block) = some g):base ≤ g ∧ ∃ cur z,w.heap[g]? = some (.cells cur e z):=by
 rcases h.2 with ⟨hv,_⟩ | ⟨blk,cap,cur,hv,hb,hgg,_⟩
 ·injection hv with h1
  rw [h1] at hg;cases hg
 ·injection hv with h1
  rw [h1] at hg
  have e:blk = g:=by simpa using hg
  subst e
  exact ⟨hb,_,_,hgg⟩
theorem GvW.ab {base:Nat} {w:World} {b:Nat} {t:TrW} {xs:List RwP} {ys:List DnP} (h:GvW base w b t xs ys) {g:Nat} (hg:t.A.map (·.block) = some g):g ≠ b ∧ g ≠ t.m ∧ base ≤ g ∧ g < w.heap.size:=by
 obtain ⟨rs,h1,_⟩:=h.rows
 obtain ⟨ds,_,h2,_⟩:=h.log
 obtain ⟨h3,cur,z,h4⟩:=own_blk h2 hg
 refine ⟨Blk.ne_own h.tr h2 (by decide) g (by rw [ownBlock_sl'];exact hg),mpT_ne h1 h4,h3,(Array.getElem?_eq_some_iff.1 h4).1⟩
theorem NoHS.new {M:Nat → Prop} {w:World} (h:∀ b,M b → w.heap.size ≤ b):NoHS M w:=fun b hb cs z=>by
 have:=h b hb
 rw [Array.getElem?_eq_none this]
 exact ⟨fun h=>(by cases h),fun h=>(by cases h)⟩
theorem GvW.fr {base:Nat} {w w':World} {b:Nat} {t:TrW} {xs:List RwP} {ys:List DnP} (h:GvW base w b t xs ys) {M:Nat → Prop} (f:Fr M w w') (hs:NoHS M w) (h1:¬ M b) (h2:¬ M t.m) (h3:∀ g,t.A.map (·.block) = some g → ¬ M g):GvW base w' b t xs ys:=by
 obtain ⟨rs,r1,r2⟩:=h.rows
 obtain ⟨ds,d1,d2,d3⟩:=h.log
 exact ⟨h.tr.fr f h1,h.bb,h.mm,⟨rs,mpT_fr r1 f h2,r2.map fun r x k=>k.fr f hs⟩,⟨ds,d1,own_fr d2 f (fun g hg=>h3 g (by rw [ownBlock_sl'] at hg;exact hg)),d3.map fun r x k=>k.fr f hs⟩⟩
theorem GvW.fr0 {base:Nat} {w w':World} {b:Nat} {t:TrW} {xs:List RwP} {ys:List DnP} (h:GvW base w b t xs ys) (f:Fr noB w w'):GvW base w' b t xs ys :=
 h.fr f (NoHS.nob _) (by simp [noB]) (by simp [noB]) (fun _ _=>by simp [noB])
theorem GvW.setU {base:Nat} {w:World} {b:Nat} {t:TrW} {xs:List RwP} {ys:List DnP} (h:GvW base w b t xs ys) (u:Int):GvW base (w.setCell ⟨b,2,none⟩ (.int .i64 u)) b { t with u:=u } xs ys ∧ Fr (oneB b) w (w.setCell ⟨b,2,none⟩ (.int .i64 u)):=by
 have f:=Cod.set_fr w b 2 (.int .i64 u)
 have hs:NoHS (oneB b) w:=NoHS.blk h.tr (by decide) (by decide)
 obtain ⟨rs,r1,r2⟩:=h.rows
 obtain ⟨ds,d1,d2,d3⟩:=h.log
 refine ⟨⟨?_,h.bb,h.mm,⟨rs,mpT_fr r1 f (fun e=>h.bm (Eq.symm e)),r2.map fun r x k=>k.fr f hs⟩,⟨ds,d1,own_box h.tr d2 (by decide) f,d3.map fun r x k=>k.fr f hs⟩⟩,f⟩
 exact Blk.set h.tr 2 (.int .i64 u)
theorem ex_world (w:World) (base:Nat):∃ w0:World,w0.heap.size = base:=⟨{ w with heap:=Array.replicate base (.map #[] 0) },by simp⟩
theorem GvW.app {base:Nat} {W W1 W2 W3:World} {b:Nat} {t:TrW} {xs:List RwP} {ys:List DnP} (H:GvW base W b t xs ys) (k:Nat) (hk:k ≤ t.n) (f0:Fr (oneB t.m) W W1) {xs':List RwP} {y:DnP}
  (hr:∃ rs',mpT W1 t.m = some (tab rs') ∧ AllO RwO W1 rs' xs') {d:DnW} (hd:DnO W1 d y) (f2:Fr noB W1 W2) {ds:List DnW} (hds:AllO DnO W ds ys) (hdo:W.ownsRow base 177 51 (.slice t.A t.n t.c) t.n (codD.row ds))
  {w0:World} (hw0:w0.heap.size = base) {A':Option Addr} {c':Nat} {l:List DnW} (hl:l = ds.take k ++ [d]) (hl2:l.length = k + 1) (o3:OwnC codD w0 W3 A' c' l) (hg:W2.grownBy W3 (t.A.map (·.block))) (hA':A'.map (·.block) = t.A.map (·.block) ∨ A'.map (·.block) = some W2.heap.size) :
  GvW base (W3.setCell ⟨b,1,none⟩ (.slice A' (k + 1) c')) b { t with A:=A',n:=k + 1,c:=c' } xs' (ys.take k ++ [y]) ∧ Fr (trM b t) W (W3.setCell ⟨b,1,none⟩ (.slice A' (k + 1) c')):=by
 have f3:Fr (fun q=>t.A.map (·.block) = some q) W2 W3:=Fr.ofGrown hg (fun g hg=>hg)
 have f4:=Cod.set_fr W3 b 1 (.slice A' (k + 1) c')
 have bm:=H.bm
 have t1:TrB W1 b t:=H.tr.fr f0 (fun e=>bm e)
 have t2:=t1.fr0 f2
 have t3:TrB W3 b t:=t2.fr f3 (fun e=>(H.ab e).1 rfl)
 have o1:W1.ownsRow base 177 51 (.slice t.A t.n t.c) t.n (codD.row ds):=own_fr hdo f0 (fun g hg hm=>(H.ab (by rw [ownBlock_sl'] at hg;exact hg)).2.1 hm)
 have o2:=own_new0 o1 f2
 have n0:NoHS (oneB t.m) W:=by
  obtain ⟨rs,h1,_⟩:=H.rows
  exact NoHS.map h1
 have n3:NoHS (fun q=>t.A.map (·.block) = some q) W2:=by
  have:=NoHS.own o2 (by decide) (by decide)
  rw [ownBlock_sl'] at this
  exact this
 have n4:NoHS (oneB b) W3:=NoHS.blk t3 (by decide) (by decide)
 obtain ⟨rs',r1,r2⟩:=hr
 have hbs:=Blk.lt H.tr
 have sz:W.heap.size ≤ W2.heap.size:=Nat.le_trans f0.size f2.size
 have hne:∀ g,A'.map (·.block) = some g → g ≠ b:=fun g hg=>by
  rcases hA' with h | h
  ·exact (H.ab (h ▸ hg)).1
  ·rw [h] at hg
   injection hg with hg
   omega
 have bnd:∀ q,t.A.map (·.block) = some q → ¬ t.m = q:=fun q hq e=>(H.ab hq).2.1 e.symm
 have o3':W3.ownsRow base 177 51 (.slice A' (k + 1) c') (k + 1) (codD.row l):=by rw [← hw0,← hl2];exact o3
 refine ⟨⟨Blk.set t3 1 _,H.bb,H.mm,⟨rs',?_,?_⟩,⟨l,hl2,?_,?_⟩⟩,?_⟩
 ·exact mpT_fr (mpT_fr (mpT_fr0 r1 f2) f3 (fun e=>bnd t.m e rfl)) f4 (fun e=>bm (Eq.symm e))
 ·exact r2.map fun r x h=>((h.fr f2 (NoHS.nob _)).fr f3 n3).fr f4 n4
 ·exact own_fr o3' f4 (fun g hg hm=>hne g (by rw [ownBlock_sl'] at hg;exact hg) hm)
 ·rw [hl]
  refine AllO.snoc ((hds.take k).map fun r x h=>(((h.fr f0 n0).fr f2 (NoHS.nob _)).fr f3 n3).fr f4 n4) (((hd.fr f2 (NoHS.nob _)).fr f3 n3).fr f4 n4)
 ·have g1:Fr (trM b t) W W1:=f0.mono (fun q e=>.inr (.inl e))
  have g3:Fr (trM b t) W W3:=(g1.step0 f2).trans f3 (fun q _ e=>.inr (.inr e))
  exact g3.trans f4 (fun q _ e=>.inl e)
def retP (fn:Func) (R:Ending → World → Prop):Exit → Act → World → Prop
 | .ret,a,w=>LeavesInM Fence.wide 8 Tryz.prog fn a.tmps R a.defers .returning w
 | _,_,_=>False
theorem callsM {f:FuncId} {fn:Func} {c:Code} {args:Array Value} {w:World} {R:Ending → World → Prop} (hf:Tryz.prog.funcs[f]? = some fn) (hb:fn.body = some c)
  (h:c.wp Tryz.prog (retP fn R) { tmps:=args ++ Array.replicate (fn.ntmps - args.size) undef,defers:=[] } w):Calls Tryz.prog f args w R :=
 callsIn_wide.1 (callsIn_of_wp_marks (n:=8) hf hb trivial (wpIn_wide.2 (wp_mono h (fun e a w h=>by cases e <;> first | exact h | exact h.elim))) rfl)
theorem leaveM0 {fn:Func} {R:Ending → World → Prop} {a:Act} {w:World} {v:Value} (hd:a.defers = []) (hv:(results fn a.tmps).run Tryz.prog w = .ok v w) (hR:R (.returned v) w):retP fn R .ret a w:=by
 show LeavesInM Fence.wide 8 Tryz.prog fn a.tmps R a.defers .returning w
 rw [hd]
 exact ⟨v,hv,hR⟩
theorem leaveM1 {fn:Func} {R:Ending → World → Prop} {a:Act} {w:World} {v:Value} {D:Nat} (hd:a.defers = [{ target:=.collected D,args:=#[] }]) (hD:w.heap[D]? = some (.deferred (some []))) (hv:(results fn a.tmps).run Tryz.prog (w.putObj D (.deferred none)) = .ok v (w.putObj D (.deferred none))) (hR:R (.returned v) (w.putObj D (.deferred none))):retP fn R .ret a w:=by
 show LeavesInM Fence.wide 8 Tryz.prog fn a.tmps R a.defers .returning w
 rw [hd]
 exact ⟨by simp,.inl ⟨_,_,rfl,run_takeDeferred hD,⟨v,hv,hR⟩⟩⟩
theorem own_capV {w:World} {base:Nat} {e:TypeId} {size n c:Nat} {A:Option Addr} {xs:List Value} (h:w.ownsRow base e size (.slice A n c) n xs):n ≤ c:=by
 obtain ⟨A',c',ev,hcc,_⟩:=own_form h
 injection ev with e1 e2 e3
 omega
theorem dnsCut {w:World} {A:Option Addr} {l:List DnW} (h:Sl w A (codD.row l)) {k c:Nat} (hk:k ≤ l.length) (hc:l.length ≤ c):Sl w (cutA A c k 51) (codD.row (l.drop k)):=by
 have:=h.cut (k:=k) (c:=c) (size:=51) (n:=l.length) (Cod.row_len l) (by decide) hc
 rw [← Cod.row_drop l k hk]
 exact this
set_option maxRecDepth 100000 in
@[simp] theorem dns_h (w:World) (a:Option Addr) (n c:Nat) (k:IntKind) (l:Int) :
  (Instr.slice 153 (.slice a n c) none (some (.int k l)) none).run Tryz.prog w = if 0 ≤ l ∧ l ≤ c then .ok (.slice a l.toNat c) w else elseR ((Instr.slice 153 (.slice a n c) none (some (.int k l)) none).run Tryz.prog w):=by
 split
 ·rename_i h
  have e:(Instr.slice 153 (.slice a n c) none (some (.int k l)) none).run Tryz.prog w = .ok (.slice (cutA a c 0 51) l.toNat c) w:=by
   rw [run_slice_h w 153 a n c Tryz.underlying153 k l h.1 h.2];rfl
  rw [e,cutA_zero]
 ·exact elseR_eq _
theorem logX_take (xs:List RwP) (L:List Opn) (k:Nat) (h:k ≤ L.length):(logX xs L).take k = logX xs (L.take k):=by
 have h1:=logX_app xs (L.take k) (L.drop k)
 rw [List.take_append_drop] at h1
 have h2:(logX xs (L.take k)).length = k:=by rw [logX_len,List.length_take];omega
 rw [h1,List.take_append_of_le_length (by omega),List.take_of_length_le (by omega)]
theorem logX_drop (xs:List RwP) (L:List Opn) (k:Nat) (h:k ≤ L.length):(logX xs L).drop k = logX (runX xs (L.take k)) (L.drop k):=by
 have h1:=logX_app xs (L.take k) (L.drop k)
 rw [List.take_append_drop] at h1
 have h2:(logX xs (L.take k)).length = k:=by rw [logX_len,List.length_take];omega
 rw [h1,List.drop_append_of_le_length (by omega),List.drop_of_length_le (by omega),List.nil_append]
theorem undo_back (L:List Opn) (k:Nat) (h:k ≤ L.length) (ok:∀ o ∈ L,goodOp o = true) (N:Nat) (hN:(logX (runX [] (L.take k)) (L.drop k)).length = N):undoXs (runX [] L) N (logX (runX [] (L.take k)) (L.drop k)) hN (upF N 0) = runX [] (L.take k):=by
 rw [undoXs_rev]
 have h1:=runX_app [] (L.take k) (L.drop k)
 rw [List.take_append_drop] at h1
 rw [h1]
 exact undo_all (runX_gvt GvT.nil fun o ho=>ok o (List.mem_of_mem_take ho)).nd _
theorem logX_was (xs:List RwP) (L:List Opn) (ok:∀ o ∈ L,goodOp o = true) (i:Nat) (h:i < (logX xs L).length):WasOk (logX xs L)[i]:=by
 have h2:i < L.length:=by rw [logX_len] at h;exact h
 rw [logX_get xs L i h2]
 exact doD_was (goodOp_at (ok _ (List.getElem_mem h2))).2.1
def bkA (a:Act) (z:Int) (d:DnW) (Bx:Nat):Act:={ tmps:=((a.tmps.setIfInBounds 69 (.int .i64 z)).setIfInBounds 70 (.agg (codD.A d))).setIfInBounds 8 (.pointer (some ⟨Bx,0,none⟩)),defers:=[] }
theorem undoWs_snoc (rs:List RwW) (N:Nat) (ds:List DnW) (hN:ds.length = N) (pre:List (Fin N)) (x:Fin N):undoWs rs N ds hN (pre ++ [x]) = undoW (undoWs rs N ds hN pre) (ds[x.1]'(by rw [hN];exact x.2)):=by
 unfold undoWs
 rw [List.foldl_append];rfl
set_option maxRecDepth 100000 in
theorem wp_bk {asg body:Code} {Q:Exit → Act → World → Prop} {a:Act} {w:World} {Bs N m c:Nat} {A:Option Addr} {dl:List DnW} (hN:dl.length = N) (hb:N ≤ 100000) (hm:m < w.heap.size) (hg:a.eval (.tmp 68) = .func (.func 136) #[] #[.pointer (some ⟨Bs,0,none⟩)])
  (hBs:w.cell? ⟨Bs,0,none⟩ = some (.slice A N c)) (hBm:Bs ≠ m) (hs:Sl w A (codD.row dl)) (hA:∀ g,A.map (·.block) = some g → g < w.heap.size ∧ g ≠ m) (rs:List RwW) (hr:mpT w m = some (tab rs))
  (hassign:∀ (l:Nat) (z:Int) (d:DnW) (W:World) (K:Act → World → Prop),K (bkA a z d W.heap.size) (W.alloc (codD.o d)) → asg.wpIn (Fence.wide.inRound l) 6 Tryz.prog (Exit.then K (fun _ _ _=>False)) { tmps:=(a.tmps.setIfInBounds 69 (.int .i64 z)).setIfInBounds 70 (.agg (codD.A d)),defers:=[] } W)
  (hbody:∀ (l:Nat) (x:Fin N) (pre:List (Fin N)) (Bx:Nat) (W:World),w.heap.size ≤ Bx → KpB m w.heap.size w W → mpT W m = some (tab (undoWs rs N dl hN pre)) → codD.bxd W Bx = some (dl[x.1]'(by rw [hN];exact x.2)) →
   ∀ K:Act → World → Prop,(∀ a' W',mpT W' m = some (tab (undoWs rs N dl hN (pre ++ [x]))) → Fr (oneB m) W W' → K a' W') → body.wpIn (Fence.wide.inRound l) 6 Tryz.prog (Exit.then K (fun _ _ _=>False)) (bkA a (x.1:Int) (dl[x.1]'(by rw [hN];exact x.2)) Bx) W)
  (hdone:∀ (D:Nat) (W:World),w.heap.size ≤ D → mpT W m = some (tab (undoWs rs N dl hN (upF N 0))) → KpB m w.heap.size w W → W.heap[D]? = some (.deferred (some [])) → Q .normal { a with defers:={ target:=.collected D,args:=#[] } :: a.defers } W) :
  (Code.rangeFunc (.tmp 68) #[69,70] asg body).wp Tryz.prog Q a w:=by
 have hseq:SeqStopsK Fence.wide 7 Tryz.prog 136 #[.pointer (some ⟨Bs,0,none⟩)] (fun x:Fin N=>#[.int .i64 (x.1:Int),.agg (codD.A (dl[x.1]'(by rw [hN];exact x.2)))]) (KpB m w.heap.size) (fun ys=>ys = upF N 0) (fun _=>True) N w:=by
  intro l J Jx W hW _ _ hY h0
  have f:Fr noB w W:=Fr.ofBelow hW
  exact bk1_in 7 (by omega) N dl hN hb l Bs w.heap.size m c A ⟨World.block_lt_of_cell? _ _ hBs,hBm⟩ hA J Jx hY W (cell_fr0 hBs f) (hs.fr0 f) h0
 refine wpIn_wide.1 (wpIn_rangeFunc_ownH (F:=Fence.wide) (n:=8) rfl (by omega) hg trivial (enters_of Tryz.func136 (by kernel_rfl) rfl) hseq KpB.trans (fun W l o o' hl h h1 h2=>KpB.book (Nat.le_refl _) W l o o' hl h h1 h2) (Below.refl _ _) (fun _=>rfl)
  (fun pre W=>mpT W m = some (tab (undoWs rs N dl hN pre)) ∧ KpB m w.heap.size w W) (fun _ _ _=>False) ?own (fun _ _ _ _ _ h _ _=>h) ⟨hr,KpB.refl _⟩
  (fun x a' W=>∃ Bx,w.heap.size ≤ Bx ∧ codD.bxd W Bx = some (dl[x.1]'(by rw [hN];exact x.2)) ∧ a' = bkA a (x.1:Int) (dl[x.1]'(by rw [hN];exact x.2)) Bx) ?ownx ?assign ?body ?done ?stop)
 case own =>
  rintro pre W W' row ⟨h1,h2⟩ hgr hrow
  have f:Fr (fun k=>row = some k) W W':=Fr.ofGrown hgr (fun g hg=>hg)
  refine ⟨mpT_fr h1 f (fun e=>by have:=(hrow m e).1;omega),KpB.trans h2 (f.mono fun k hk=>.inr (hrow k hk).1)⟩
 case ownx =>
  rintro x a' _ W W' row ⟨Bx,h1,h2,h3⟩ hgr hrow
  have f:Fr (fun k=>row = some k) W W':=Fr.ofGrown hgr (fun g hg=>hg)
  refine ⟨Bx,h1,Cod.bxd_fr h2 f (fun e=>?_),h3⟩
  obtain ⟨_,o,ho,hc⟩:=hrow Bx e
  have hh:=Cod.bxd_blk h2
  unfold Blk at hh
  rw [ho] at hh
  injection hh with hh
  subst hh
  cases hc
 case assign =>
  rintro l pre x W K ⟨h1,h2⟩ hK
  have hx:=hassign l (x.1:Int) (dl[x.1]'(by rw [hN];exact x.2)) W K (hK _ _ ((KeepsOthers.alloc _ _).from _) ((Fr.refl _ W).alloc _) ⟨mpT_fr0 h1 ((Fr.refl _ W).alloc _),h2.trans ((Fr.refl _ W).alloc _)⟩ ⟨W.heap.size,h2.size,Cod.bxd_new (C:=codD) W _,rfl⟩)
  refine cast (congrArg (fun t=>Code.wpIn (Fence.wide.inRound l) 6 Tryz.prog asg (Exit.then K (fun _ _ _=>False)) { tmps:=t,defers:=[] } W) ?_) hx
  simp
 case body =>
  rintro l pre x a' W _ _ ⟨h1,h2⟩ ⟨Bx,h3,h4,rfl⟩ _
  refine wpIn_mono (hbody l x pre Bx W h3 h2 h1 h4 (fun a' W'=>KeepsFrom w.heap.size W W' ∧ KpB m w.heap.size W W' ∧ mpT W' m = some (tab (undoWs rs N dl hN (pre ++ [x]))) ∧ KpB m w.heap.size w W') (fun a' W' g1 g2=>?_)) ?_
  ·have g3:KpB m w.heap.size W W':=g2.mono fun k hk=>.inl hk
   refine ⟨⟨g2.size,fun k o hk ho _=>(g2.block k (Array.getElem?_eq_some_iff.1 ho).1 (fun e=>by have:k = m:=e;omega)).trans ho⟩,g3,g1,h2.trans g3⟩
  ·intro e a'' W' h
   cases e <;> first | exact h | exact h.elim
 case done =>
  rintro D xs W hD rfl ⟨h1,h2⟩ hD'
  exact hdone D W hD h1 h2 hD'
 case stop =>
  rintro D c pre W _ _ h _
  exact h.elim
end Go.Proofs.YtjpieiccpbcabaaGreat
