/- Contract of work: names; slices.ContainsFunc at strings. Contracts of work: Next, Find. -/
import Derived.Test.YthehiobacjjakaaGreatDoorWkFKc
set_option linter.unusedVariables false
set_option linter.unusedSimpArgs false
namespace Go.Proofs.YthehiobacjjakaaGreatDoor
open Go.RowKit Go.Maps Go.Sort
theorem nms_cell {w:World} {A:Option Addr} {l:List (List UInt8)} (h:Sl w A (nmsV l)) {k:Nat} (hk:k < l.length):∃ g off,A = some ⟨g,off,none⟩ ∧ w.cell? ⟨g,off + k,none⟩ = some (.string (str l[k])):=by
 obtain ⟨g,off,e,_,hc⟩:=h (by intro e;have h0:=congrArg List.length e;rw [nmsV_len] at h0;have h1:l.length = 0:=h0;omega)
 exact ⟨g,off,e,hc k _ (by unfold nmsV;rw [List.getElem?_map,List.getElem?_eq_getElem hk];rfl)⟩
set_option maxRecDepth 100000 in
set_option maxHeartbeats 1000000 in
theorem contNames_any (w:World) (A:Option Addr) (c n:Nat) (l:List (List UInt8)) (hn:l.length = n) (hs:Sl w A (nmsV l)) (hb:l.length ≤ 140737488355328) (p:List UInt8 → Bool)
  (hf:∀ w',Fr noB w w' → ∀ s ∈ l,Calls Tryz.prog 69 #[.string (str s)] w' (Gives w' (.bool (p s)))) :
  Calls Tryz.prog 51 #[.slice A n c,.func (.func 69) #[] #[]] w (Gives w (.bool (l.any p))):=by
 have key:Calls Tryz.prog 79 #[.slice A n c,.func (.func 69) #[] #[]] w (FiTo w l.length fun i=>if h:i < l.length then p l[i] else false):=by
  subst hn
  go_enter Tryz.func79,Tryz.ntmps79
  go_wp2_with fail
  go_loopg [8] l.length (fun gk iv wr=>IxR w l.length (fun i=>if h:i < l.length then p l[i] else false) gk iv wr)
  case atStart=>exact ⟨0,rfl,by omega,by omega,fun j hj=>absurd hj (by omega),Fr.refl _ _⟩
  case round =>
   obtain ⟨k,rfl,rfl,hk,hj,hf0⟩:=hrel
   have HJ:=Lib.hid hj
   clear hj
   by_cases hlt:k < l.length
   ·have i1:(k:Int) < (l.length:Int):=by omega
    have i0:(0:Int) ≤ (k:Int):=by omega
    obtain ⟨g,off,rfl,e1⟩:=nms_cell (hs.fr0 hf0) hlt
    have hc:=hf wr hf0 _ (List.getElem_mem hlt)
    have hpk:(fun i=>if h:i < l.length then p l[i] else false) k = p l[k]:=by simp [hlt]
    have HPK:=Lib.hid hpk
    clear hpk
    generalize l[k] = x at e1 hc HPK
    by_cases hp:p x = true
    ·rw [hp] at hc
     have HP:=Lib.hid (HPK.out.trans hp)
     clear hp
     go_wp2_with (go_at_call 69;refine hc.mono ?_;rintro e w1 ⟨rfl,f1⟩)
     go_ret
     exact ⟨k,rfl,.inl ⟨k,hlt,rfl,HP.out,HJ.out⟩,hf0.step0 f1⟩
    ·have hp':p x = false:=by simpa using hp
     rw [hp'] at hc
     have HP:=Lib.hid (HPK.out.trans hp')
     clear hp hp'
     go_wp2_with (go_at_call 69;refine hc.mono ?_;rintro e w1 ⟨rfl,f1⟩)
     go_roundg (l.length - (k + 1))
     case measure=>omega
     case rel=>exact ⟨k + 1,by simp,rfl,by omega,fun j hj=>by
      rcases Nat.lt_or_ge j k with h | h
      ·exact HJ.out j h
      ·have:j = k:=by omega
       rw [this];exact HP.out,hf0.step0 f1⟩
   ·have hkl:k = l.length:=by omega
    subst hkl
    have i1:¬ (l.length:Int) < (l.length:Int):=by omega
    go_wp2_with fail
    go_ret
    exact ⟨-1,rfl,.inr ⟨rfl,HJ.out⟩,hf0⟩
 have hany:((List.range l.length).any fun i=>if h:i < l.length then p l[i] else false) = l.any p:=by
  rw [Bool.eq_iff_iff,List.any_eq_true,List.any_eq_true]
  constructor
  ·rintro ⟨i,hi,h⟩
   rw [List.mem_range] at hi
   rw [dif_pos hi] at h
   exact ⟨_,List.getElem_mem hi,h⟩
  ·rintro ⟨x,hx,h⟩
   obtain ⟨i,hi,rfl⟩:=List.getElem_of_mem hx
   exact ⟨i,List.mem_range.2 hi,by rw [dif_pos hi];exact h⟩
 have HA:=Lib.hid hany
 have HK:=Lib.hid key
 clear key hany hf hs hb
 subst hn
 go_enter Tryz.func51,Tryz.ntmps51
 go_wp2_with (go_at_call 79;refine HK.out.mono ?_;rintro e w1 ⟨z,rfl,hz,f1⟩)
 go_ret
 exact ⟨by rw [← HA.out,← fst_any hz];rfl,f1⟩
set_option maxRecDepth 100000 in
set_option maxHeartbeats 1000000 in
theorem contPut_any (w:World) (A:Option Addr) (c n:Nat) (l:List (List UInt8)) (hn:l.length = n) (hs:Sl w A (nmsV l)) (hb:l.length ≤ 140737488355328) (p:List UInt8 → Bool)
  (hf:∀ w',Fr noB w w' → ∀ s ∈ l,Calls Tryz.prog 52 #[.string (str s)] w' (Gives w' (.bool (p s)))) :
  Calls Tryz.prog 51 #[.slice A n c,.func (.func 52) #[] #[]] w (Gives w (.bool (l.any p))):=by
 have key:Calls Tryz.prog 79 #[.slice A n c,.func (.func 52) #[] #[]] w (FiTo w l.length fun i=>if h:i < l.length then p l[i] else false):=by
  subst hn
  go_enter Tryz.func79,Tryz.ntmps79
  go_wp2_with fail
  go_loopg [8] l.length (fun gk iv wr=>IxR w l.length (fun i=>if h:i < l.length then p l[i] else false) gk iv wr)
  case atStart=>exact ⟨0,rfl,by omega,by omega,fun j hj=>absurd hj (by omega),Fr.refl _ _⟩
  case round =>
   obtain ⟨k,rfl,rfl,hk,hj,hf0⟩:=hrel
   have HJ:=Lib.hid hj
   clear hj
   by_cases hlt:k < l.length
   ·have i1:(k:Int) < (l.length:Int):=by omega
    have i0:(0:Int) ≤ (k:Int):=by omega
    obtain ⟨g,off,rfl,e1⟩:=nms_cell (hs.fr0 hf0) hlt
    have hc:=hf wr hf0 _ (List.getElem_mem hlt)
    have hpk:(fun i=>if h:i < l.length then p l[i] else false) k = p l[k]:=by simp [hlt]
    have HPK:=Lib.hid hpk
    clear hpk
    generalize l[k] = x at e1 hc HPK
    by_cases hp:p x = true
    ·rw [hp] at hc
     have HP:=Lib.hid (HPK.out.trans hp)
     clear hp
     go_wp2_with (go_at_call 52;refine hc.mono ?_;rintro e w1 ⟨rfl,f1⟩)
     go_ret
     exact ⟨k,rfl,.inl ⟨k,hlt,rfl,HP.out,HJ.out⟩,hf0.step0 f1⟩
    ·have hp':p x = false:=by simpa using hp
     rw [hp'] at hc
     have HP:=Lib.hid (HPK.out.trans hp')
     clear hp hp'
     go_wp2_with (go_at_call 52;refine hc.mono ?_;rintro e w1 ⟨rfl,f1⟩)
     go_roundg (l.length - (k + 1))
     case measure=>omega
     case rel=>exact ⟨k + 1,by simp,rfl,by omega,fun j hj=>by
      rcases Nat.lt_or_ge j k with h | h
      ·exact HJ.out j h
      ·have:j = k:=by omega
       rw [this];exact HP.out,hf0.step0 f1⟩
   ·have hkl:k = l.length:=by omega
    subst hkl
    have i1:¬ (l.length:Int) < (l.length:Int):=by omega
    go_wp2_with fail
    go_ret
    exact ⟨-1,rfl,.inr ⟨rfl,HJ.out⟩,hf0⟩
 have hany:((List.range l.length).any fun i=>if h:i < l.length then p l[i] else false) = l.any p:=by
  rw [Bool.eq_iff_iff,List.any_eq_true,List.any_eq_true]
  constructor
  ·rintro ⟨i,hi,h⟩
   rw [List.mem_range] at hi
   rw [dif_pos hi] at h
   exact ⟨_,List.getElem_mem hi,h⟩
  ·rintro ⟨x,hx,h⟩
   obtain ⟨i,hi,rfl⟩:=List.getElem_of_mem hx
   exact ⟨i,List.mem_range.2 hi,by rw [dif_pos hi];exact h⟩
 have HA:=Lib.hid hany
 have HK:=Lib.hid key
 clear key hany hf hs hb
 subst hn
 go_enter Tryz.func51,Tryz.ntmps51
 go_wp2_with (go_at_call 79;refine HK.out.mono ?_;rintro e w1 ⟨z,rfl,hz,f1⟩)
 go_ret
 exact ⟨by rw [← HA.out,← fst_any hz];rfl,f1⟩
def NmTo (w:World) (p:List UInt8) (e:Ending) (w':World):Prop:=∃ A c,e = .returned (.tuple #[.slice A (splitD p).length c,.bool (namesOk p)]) ∧ ((splitD p).length ≤ c ∧ Off A (fun b=>w.heap.size ≤ b)) ∧ Sl w' A (nmsV (splitD p)) ∧ Fr noB w w'
theorem split_lenle (p:List UInt8):(splitD p).length ≤ p.length + 1 ∧ ∀ s ∈ splitD p,s.length ≤ p.length:=by
 induction p with
 | nil=>simp [splitD]
 | cons b l ih =>
  unfold splitD
  split
  ·refine ⟨by simp only [List.length_cons];omega,fun s hs=>?_⟩
   rcases List.mem_cons.1 hs with rfl | hs
   ·simp
   ·have:=ih.2 s hs;simp only [List.length_cons];omega
  ·cases hs:splitD l with
   | nil=>exact absurd hs (split_ne l)
   | cons x t =>
    rw [hs] at ih
    simp only [List.length_cons] at ih ⊢
    refine ⟨by omega,fun s hs'=>?_⟩
    rcases List.mem_cons.1 hs' with rfl | hs'
    ·have:=ih.2 x (by simp);simp only [List.length_cons];omega
    ·have:=ih.2 s (by simp [hs']);omega
set_option maxRecDepth 100000 in
set_option maxHeartbeats 1000000 in
theorem names_any (w:World) (h:HasMW w) (p:List UInt8) (hp:p.length < 4294967281):Calls Tryz.prog 38 #[.string (str p)] w (NmTo w p):=by
 have HSP:=Lib.hid (split_any w h p hp)
 have HLE:=Lib.hid (split_lenle p)
 have HP:=Lib.hid hp
 have HNO:=Lib.hid (show namesOk p = ((!(splitD p).any fun s=>!nameOk s) && decide ((splitD p).length ≤ 20) && decide (p.length ≤ 1000)) by
  unfold namesOk
  congr 2
  rw [Bool.eq_iff_iff,List.all_eq_true]
  simp)
 clear h hp
 go_enter Tryz.func38,Tryz.ntmps38
 go_upto_region 2 with (go_at_call 68;refine HSP.out.mono ?_;rintro e w1 ⟨A1,c1,rfl,hc1,s1,f1⟩)
 have CN:=Lib.hid (contNames_any w1 A1 c1 _ (splitD p) rfl s1 (by have:=HLE.out.1;have:=HP.out;omega) (fun s=>!nameOk s) (fun w' f s hs=>names1_any w' s (by have:=HLE.out.2 s hs;have:=HP.out;omega)))
 have S1:=Lib.hid (And.intro hc1 s1)
 clear hc1 s1
 go_upto_region 3 with (go_at_call 51;refine CN.out.mono ?_;rintro e w2 ⟨rfl,f2⟩)
 generalize ((splitD p).any fun s=>!nameOk s) = bad at HNO ⊢
 have hsz:((str p).size:Int) = (p.length:Int):=rfl
 cases bad with
 | true =>
  go_wp2_with fail
  go_ret2
  refine ⟨A1,c1,?_,S1.out.1,S1.out.2.fr0 f2,f1.step0 f2⟩
  rw [HNO.out]
  rfl
 | false =>
  by_cases h20:(splitD p).length ≤ 20
  ·have g20:((splitD p).length:Int) ≤ 20:=by omega
   by_cases h1k:p.length ≤ 1000
   ·have g1k:(p.length:Int) ≤ 1000:=by omega
    have HD:=Lib.hid (And.intro h20 h1k)
    clear h20 h1k
    go_wp2_with fail
    go_ret2
    refine ⟨A1,c1,?_,S1.out.1,S1.out.2.fr0 f2,f1.step0 f2⟩
    rw [HNO.out,decide_eq_true HD.out.1,decide_eq_true HD.out.2]
    rfl
   ·have g1k:¬ (p.length:Int) ≤ 1000:=by omega
    have HD:=Lib.hid (And.intro h20 h1k)
    clear h20 h1k
    go_wp2_with fail
    go_ret2
    refine ⟨A1,c1,?_,S1.out.1,S1.out.2.fr0 f2,f1.step0 f2⟩
    rw [HNO.out,decide_eq_true HD.out.1,decide_eq_false HD.out.2]
    rfl
  ·have g20:¬ ((splitD p).length:Int) ≤ 20:=by omega
   have HD:=Lib.hid h20
   clear h20
   go_wp2_with fail
   go_ret2
   refine ⟨A1,c1,?_,S1.out.1,S1.out.2.fr0 f2,f1.step0 f2⟩
   rw [HNO.out,decide_eq_false HD.out]
   rfl
set_option maxRecDepth 100000 in
theorem next_any (w:World) (P:Nat) (d:DfW) (hP:codDf.bxd w P = some d):Calls Tryz.prog 15 #[.pointer (some ⟨P,0,none⟩)] w (Gives w (.agg (codS.A d.next))):=by
 have HPP:=Lib.hid hP
 clear hP
 go_enter Tryz.func15,Tryz.ntmps15
 go_upto_region 1 with fail
 have f0:Fr noB w (w.alloc (codS.o zSt)):=(Fr.refl noB w).alloc _
 have b0:=Cod.bxd_new (C:=codS) w zSt
 have q0:=(dfAt (Cod.bxd_fr0 HPP.out f0)).next
 generalize w.alloc (codS.o zSt) = w0 at f0 b0 q0 ⊢
 obtain ⟨R,eR⟩:∃ R,R = w.heap.size:=⟨_,rfl⟩
 rw [← eR] at b0 ⊢
 have HER:=Lib.hid (show w.heap.size ≤ R by omega)
 clear eR
 have F0:=Lib.hid f0
 have hst:=okS.stR_box b0 d.next
 obtain ⟨p1,p2,p3⟩:=Cod.put_fr b0 d.next
 have PP:=Lib.hid (And.intro p1 p3)
 clear p1 p2 p3 b0 f0
 go_wp2_with fail
 refine bodyPost_ret (ret_row okS rfl _ _ R _ (by rfl) PP.out.2) rfl ?_
 exact ⟨rfl,F0.out.step1 PP.out.1 HER.out⟩
def findM (rs:List RwW) (p:List UInt8):St × Bool:=if namesOk p && decide ((splitD p).length ≤ (walkM rs zRwW (splitD p)).2) then ((walkM rs zRwW (splitD p)).1.Node,true) else (zSt,false)
def FdTo (w:World) (o:St × Bool) (e:Ending) (w':World):Prop:=e = .returned (.tuple #[.agg (codS.A o.1),.bool o.2]) ∧ Fr noB w w'
set_option maxRecDepth 100000 in
set_option maxHeartbeats 1000000 in
theorem find_any (w:World) (P:Nat) (d:DfW) (hP:codDf.bxd w P = some d) (rs:List RwW) (hn:rs.length = d.n) (hs:Sl w d.A (codR.row rs)) (hb:rs.length ≤ 1000000) (hok:RowsOk rs) (hT:HasT w) (hM:HasMW w) (p:List UInt8) (hp:p.length < 4294967281) :
  Calls Tryz.prog 18 #[.pointer (some ⟨P,0,none⟩),.string (str p)] w (FdTo w (findM rs p)):=by
 have NM:=Lib.hid (fun w' (f:Fr noB w w')=>names_any w' (hM.fr f) p hp)
 have WK:=Lib.hid (fun w' (f:Fr noB w w') A c n (l:List (List UInt8)) hl hsl hlb=>walk_any w' P d (Cod.bxd_fr0 hP f) rs hn (hs.fr0 f) hb hok (hT.fr f) A c n l hl hsl hlb)
 have HLE:=Lib.hid (split_lenle p)
 have HP:=Lib.hid hp
 have HFM:=Lib.hid (show findM rs p = if namesOk p && decide ((splitD p).length ≤ (walkM rs zRwW (splitD p)).2) then ((walkM rs zRwW (splitD p)).1.Node,true) else (zSt,false) from rfl)
 clear hP hs hb hok hT hM hn hp
 go_enter Tryz.func18,Tryz.ntmps18
 go_upto_region 1 with fail
 have f0:Fr noB w (w.alloc (codS.o zSt)):=(Fr.refl noB w).alloc _
 have b0:=Cod.bxd_new (C:=codS) w zSt
 generalize w.alloc (codS.o zSt) = w0 at f0 b0 ⊢
 obtain ⟨R,eR⟩:∃ R,R = w.heap.size:=⟨_,rfl⟩
 rw [← eR] at b0 ⊢
 have HER:=Lib.hid (show w.heap.size ≤ R by omega)
 have F0:=Lib.hid f0
 have B0:=Lib.hid b0
 clear eR f0 b0
 go_upto_region 2 with (go_at_call 38;refine (NM.out w0 F0.out).mono ?_;rintro e w1 ⟨A1,c1,rfl,hc1,s1,f1⟩)
 have S1:=Lib.hid s1
 have F1:=Lib.hid f1
 clear hc1 s1 f1
 go_upto_region 3 with (go_at_call 39;refine (WK.out w1 (F0.out.step0 F1.out) A1 c1 _ (splitD p) rfl S1.out (by have:=HLE.out.1;have:=HP.out;omega)).mono ?_;rintro e w2 ⟨rfl,f2⟩)
 generalize walkM rs zRwW (splitD p) = o at HFM ⊢
 have f3:Fr noB w2 (w2.alloc (codR.o o.1)):=(Fr.refl noB w2).alloc _
 have q3:=(rwAt (Cod.rd_new' (C:=codR) w2 o.1)).node
 have F3:=Lib.hid (F1.out.step0 (f2.step0 f3))
 clear f2 f3
 generalize w2.alloc (codR.o o.1) = w3 at q3 F3 ⊢
 generalize w2.heap.size = D at q3 ⊢
 have bR:=Cod.bxd_fr0 B0.out F3.out
 cases hnk:namesOk p with
 | false =>
  have HNO:=Lib.hid (show findM rs p = (zSt,false) by rw [HFM.out];simp [hnk])
  have hst:=okS.stR_box bR zSt
  obtain ⟨p1,p2,p3⟩:=Cod.put_fr bR zSt
  have PP:=Lib.hid (And.intro p1 p3)
  clear p1 p2 p3 bR HFM
  go_wp2_with fail
  refine bodyPost_ret (ret_row_tmp okS rfl _ _ R _ (by rfl) PP.out.2) rfl ?_
  exact ⟨by rw [HNO.out];rfl,(F0.out.step0 F3.out).step1 PP.out.1 HER.out⟩
 | true =>
  by_cases hlt:(splitD p).length ≤ o.2
  ·have g1:¬ (o.2:Int) < ((splitD p).length:Int):=by omega
   have HNO:=Lib.hid (show findM rs p = (o.1.Node,true) by rw [HFM.out];simp [hnk,hlt])
   have hst:=okS.stR_box bR o.1.Node
   obtain ⟨p1,p2,p3⟩:=Cod.put_fr bR o.1.Node
   have PP:=Lib.hid (And.intro p1 p3)
   clear p1 p2 p3 bR HFM hlt
   go_wp2_with fail
   refine bodyPost_ret (ret_row_tmp okS rfl _ _ R _ (by rfl) PP.out.2) rfl ?_
   exact ⟨by rw [HNO.out];rfl,(F0.out.step0 F3.out).step1 PP.out.1 HER.out⟩
  ·have g1:(o.2:Int) < ((splitD p).length:Int):=by omega
   have HNO:=Lib.hid (show findM rs p = (zSt,false) by rw [HFM.out];simp [hlt])
   have hst:=okS.stR_box bR zSt
   obtain ⟨p1,p2,p3⟩:=Cod.put_fr bR zSt
   have PP:=Lib.hid (And.intro p1 p3)
   clear p1 p2 p3 bR HFM
   go_wp2_with fail
   refine bodyPost_ret (ret_row_tmp okS rfl _ _ R _ (by rfl) PP.out.2) rfl ?_
   exact ⟨by rw [HNO.out];rfl,(F0.out.step0 F3.out).step1 PP.out.1 HER.out⟩
end Go.Proofs.YthehiobacjjakaaGreatDoor
