/- Contracts: the reference's item, Last, Right over rows (Right: true just for a tree). (ex_ldR_at, ex_ldS_at, ex_bldA0_at) -/
import Derived.Test.YthehiobacjjakaaGreatDoorR12Kp
import Derived.Test.YthehiobacjjakaaGreatDoorDifDKp
import Derived.Test.YthehiobacjjakaaGreatDoorLsPKp
set_option linter.unusedVariables false
set_option linter.unusedSimpArgs false
namespace Go.Proofs.YthehiobacjjakaaGreatDoor
open Go.RowKit
def itW (r:RwW) (sub:ID):ItW:=⟨r.Node,r.At,r.Name,sub,r.A,r.n,r.c⟩
set_option maxRecDepth 100000 in
set_option maxHeartbeats 1000000 in
theorem r13item_any (w:World) (r:RwW) (sub:ID):Calls Tryz.prog 48 #[.agg (codR.A r),encI sub] w (Gives w (.agg (codT.A (itW r sub)))):=by
 have fa:Fr noB w (w.alloc (.cells (codR.A r) 60)):=(Fr.refl noB w).alloc _
 have fb:Fr noB (w.alloc (.cells (codR.A r) 60)) ((w.alloc (.cells (codR.A r) 60)).alloc (aro sub)):=(Fr.refl noB _).alloc _
 have fc:Fr noB ((w.alloc (.cells (codR.A r) 60)).alloc (aro sub)) (((w.alloc (.cells (codR.A r) 60)).alloc (aro sub)).alloc (codT.o zItW)):=(Fr.refl noB _).alloc _
 have q:=rwAt (Cod.rd_fr0 (Cod.rd_new (C:=codR) w 60 r) (fb.step0 fc))
 have z1:(w.alloc (.cells (codR.A r) 60)).heap.size = w.heap.size + 1:=by simp
 have z2:((w.alloc (.cells (codR.A r) 60)).alloc (aro sub)).heap.size = w.heap.size + 2:=by simp
 have i1:rdI (((w.alloc (.cells (codR.A r) 60)).alloc (aro sub)).alloc (codT.o zItW)) (w.heap.size + 1) 0 = some sub:=by
  have:=bxA_rd (bxA_new (w.alloc (.cells (codR.A r) 60)) sub)
  rw [z1] at this
  exact rdI_fr this (rdI_lt this) fc (by simp [noB])
 have b1:=Cod.bxd_new (C:=codT) ((w.alloc (.cells (codR.A r) 60)).alloc (aro sub)) zItW
 rw [z2] at b1
 have f0:=(fa.step0 fb).step0 fc
 clear fa fb fc z1 z2
 go_enter Tryz.func48,Tryz.ntmps48
 go_upto_region 1 with fail
 generalize ((w.alloc (.cells (codR.A r) 60)).alloc (aro sub)).alloc (codT.o zItW) = W0 at q i1 b1 f0 ⊢
 obtain ⟨P,hP⟩:∃ x,x = w.heap.size:=⟨_,rfl⟩
 rw [← hP] at q i1 b1 ⊢
 have HP:=Lib.hid hP
 clear hP
 obtain ⟨q1,q2,q3,q4,q5,q6⟩:=q
 clear q2 q6
 have hst:=okT.stR_box b1 (itW r sub)
 obtain ⟨p1,p2,p3⟩:=Cod.put_fr b1 (itW r sub)
 unfold itW at hst p1 p2 p3 ⊢
 go_wp2_with fail
 refine bodyPost_ret (ret_row okT rfl _ _ (P + 2) _ (by rfl) p3) rfl ?_
 exact ⟨rfl,f0.step1 p1 (by have:=HP.out;omega)⟩
set_option maxRecDepth 100000 in
theorem r13last_any (w:World):Calls Tryz.prog 49 #[] w (Gives w (.agg (codS.A lastS))):=by
 go_enter Tryz.func49,Tryz.ntmps49
 go_wp2_with fail
 refine bodyPost_ret (ret_row okS rfl _ _ w.heap.size lastS (by rfl) (Cod.bxd_new w _)) rfl ?_
 exact ⟨rfl,(Fr.refl noB w).alloc _⟩
theorem RwIn.itW {w:World} {r:RwW} {x:RwP} (h:RwIn w r x):ItsIn w [itW r zID] [itR x zID]:=h.item h.sl
def RtTo (w:World) (xs:List RwP) (e:Ending) (w':World):Prop:=∃ b:Bool,e = .returned (.bool b) ∧ Fr noB w w' ∧ (b = true ↔ TreeOk xs)
theorem lies_up {xs:List RwP}:∀ (k:Nat) (s:St),reach xs k s = true → fixedS s = false → liesN xs k s zSt = true ∨ liesN xs k s trS = true
 | 0,s,h,hf=>by rw [show reach xs 0 s = fixedS s from rfl,hf] at h;cases h
 | k + 1,s,h,hf=>by
  have h:(fixedS s || match findR xs s with | none=>false | some r=>reach xs k r.Parent) = true:=h
  rw [hf,Bool.false_or] at h
  show (match findR xs s with | none=>false | some r=>decide (r.Parent = zSt) || liesN xs k r.Parent zSt) = true ∨ (match findR xs s with | none=>false | some r=>decide (r.Parent = trS) || liesN xs k r.Parent trS) = true
  cases hr:findR xs s with
  | none=>rw [hr] at h;cases h
  | some r =>
   rw [hr] at h
   by_cases hp:fixedS r.Parent = true
   ·unfold fixedS at hp
    simp only [Bool.and_eq_true,Bool.or_eq_true,decide_eq_true_eq] at hp
    rcases hp.2 with h2 | h2
    ·left
     rw [Bool.or_eq_true]
     left
     exact decide_eq_true (by have e:r.Parent = ⟨r.Parent.T,r.Parent.R⟩:=rfl;rw [e,hp.1,h2];rfl)
    ·right
     rw [Bool.or_eq_true]
     left
     exact decide_eq_true (by have e:r.Parent = ⟨r.Parent.T,r.Parent.R⟩:=rfl;rw [e,hp.1,h2];rfl)
   ·rcases lies_up k r.Parent h (by simpa using hp) with h3 | h3
    ·left
     show (decide _ || _) = true
     rw [h3,Bool.or_true]
    ·right
     show (decide _ || _) = true
     rw [h3,Bool.or_true]
theorem TreeOk.lies {xs:List RwP} (h:TreeOk xs) {x:RwP} (hx:x ∈ xs):liesR xs x.Node zSt = true ∨ liesR xs x.Node trS = true:=by
 obtain ⟨k,hk⟩:=h.up x hx
 have hr:=(rightR_iff x).1 (h.ok x hx)
 have hf:fixedS x.Node = false:=by
  cases e:fixedS x.Node with
  | false=>rfl
  | true=>exact absurd (fixedS_T e) (by
    have h1:=hr.1.1
    unfold rightS at h1
    simp only [Bool.and_eq_true,decide_eq_true_eq] at h1
    omega)
 exact lies_up xs.length x.Node (reach_len hk) hf
def RtL (w:World) (n:Nat) (xs:List RwP) (gk:Nat) (iv:Value) (wr:World):Prop :=
 ∃ k:Nat,iv = .int .i64 (k:Int) ∧ gk = n - k ∧ k ≤ n ∧ Fr noB w wr ∧ (∀ i (h:i < xs.length),i < k → rightR xs[i] = true ∧ ∃ m,reach xs m xs[i].Node = true) ∧ PwT xs k
set_option maxRecDepth 100000 in
set_option maxHeartbeats 4000000 in
theorem r13right_any (w:World) (A:Option Addr) (c n:Nat) (rs:List RwW) (xs:List RwP) (hn:rs.length = n) (hs:Sl w A (codR.row rs)) (hb:rs.length ≤ 140737488355328) (h:RwsIn w rs xs) :
  Calls Tryz.prog 23 #[.slice A n c] w (RtTo w xs):=by
 subst hn
 have HLX:=Lib.hid h.len
 by_cases hl5:rs.length ≤ 5000
 ·have n5:¬ (5000:Int) < (rs.length:Int):=by omega
  go_enter Tryz.func23,Tryz.ntmps23
  go_wp2_with fail
  go_loopg [3] rs.length (fun gk iv wr=>RtL w rs.length xs gk iv wr)
  case atStart=>exact ⟨0,rfl,rfl,by omega,Fr.refl _ _,fun i h1 h2=>by omega,PwT.zero xs⟩
  case round =>
   obtain ⟨k,rfl,rfl,hk,hf,hok,hpw⟩:=hrel
   have HOK:=Lib.hid hok
   have HPW:=Lib.hid hpw
   clear hok hpw
   by_cases hlt:k < rs.length
   ·have hlt2:k < xs.length:=by rw [← HLX.out];exact hlt
    have i1:(k:Int) < (rs.length:Int):=by omega
    have i0:(0:Int) ≤ (k:Int):=by omega
    have HTK:=Lib.hid (fun (h1:rightR xs[k] = true) (h2:∃ m,reach xs m xs[k].Node = true)=>(fun i (h:i < xs.length) (hi:i < k + 1)=>by
     rcases Nat.lt_succ_iff_lt_or_eq.1 hi with h3 | rfl
     ·exact HOK.out i h h3
     ·exact ⟨h1,h2⟩:∀ i (h:i < xs.length),i < k + 1 → rightR xs[i] = true ∧ ∃ m,reach xs m xs[i].Node = true))
    have HST:=Lib.hid (fun hc=>HPW.out.step hlt2 hc)
    have hin:RwIn wr rs[k] xs[k]:=(h.at_ k hlt hlt2).fr hf
    have HLI:=Lib.hid (fun w' (f:Fr noB wr w') p=>r12lies_any w' A c rs.length rs xs rfl ((hs.fr0 hf).fr0 f) hb ((h.fr hf).fr f) xs[k].Node p)
    have HL0:=Lib.hid (fun (p:St) (hp:fixedS p = true) (hl:liesR xs xs[k].Node p = true)=>(⟨_,lies_reach hp _ _ hl⟩:∃ m,reach xs m xs[k].Node = true))
    have HD:=Lib.hid (fun w' (f:Fr noB wr w') (A':Option Addr) (c':Nat) (s':Sl w' A' (codT.row [itW rs[k] zID]))=>r4dir_any w' A' c' 1 [itW rs[k] zID] [itR xs[k] zID] rfl s' (by simp) (hin.fr f).itW)
    have HNR:=Lib.hid (fun ht:TreeOk xs=>ht.ok _ (List.getElem_mem hlt2))
    have HNL:=Lib.hid (fun ht:TreeOk xs=>ht.lies (List.getElem_mem hlt2))
    have HNC0:=Lib.hid (fun (ht:TreeOk xs) (q:Nat) (hq:q + 1 = k)=>(List.pairwise_iff_getElem.1 (riseR_pw ht.rise) q k (by omega) hlt2 (by omega):cmpS (xs[q]'(by omega)).Node xs[k].Node < 0))
    have HRT:=Lib.hid (show rightR xs[k] = (rightDr [itR xs[k] zID] && decide (xs[k].Node ≠ lastS)) from rfl)
    have hprev:∀ q (hq:q + 1 = k),∃ g off,A = some ⟨g,off,none⟩ ∧ codS.rd wr g (off + q * 8) = some (xs[q]'(by omega)).Node:=fun q hq=>by
     obtain ⟨g,off,rfl,hg⟩:=hs.adC (by omega)
     refine ⟨g,off,rfl,?_⟩
     have h1:codR.rd wr g (off + q * 8) = some (rs[q]'(by omega)):=(hs.fr0 hf).rd q (by omega)
     rw [(h.at_ q (by omega) (by omega)).node]
     exact (rwAtO h1).node
    have HPV:=Lib.hid hprev
    obtain ⟨g,off,rfl,hg⟩:=hs.adC (by omega)
    have e1:codR.rd wr g (off + k * 8) = some rs[k]:=(hs.fr0 hf).rd k hlt
    have hnd:=hin.node
    obtain ⟨r,hr⟩:∃ r,r = rs[k]:=⟨_,rfl⟩
    rw [← hr] at e1 HD hnd hin
    obtain ⟨x,hx⟩:∃ x,x = xs[k]:=⟨_,rfl⟩
    rw [← hx] at HTK HST HLI HL0 HD HRT hnd HNR HNL HNC0
    have fa:Fr noB wr (wr.alloc (codR.o r)):=(Fr.refl noB wr).alloc _
    have q:=rwAt (Cod.rd_new' (C:=codR) wr r)
    obtain ⟨q1,q2,q3,q4,q5,q6⟩:=q
    rw [← hnd] at q1
    clear q2 q3 q4 q5 hprev hin hnd hr hx
    go_upto_region 7 with fail
    have hf0:=hf.step0 fa
    generalize wr.alloc (codR.o r) = W1 at fa q1 q6 hf0 ⊢
    obtain ⟨N,hN⟩:∃ t,t = wr.heap.size:=⟨_,rfl⟩
    rw [← hN] at q1 q6 ⊢
    clear hN
    have HD2:=Lib.hid (fun w' (f:Fr noB W1 w') c' A' (s':Sl w' A' (codT.row [itW r zID]))=>HD.out w' (fa.step0 f) A' c' s')
    clear HD
    obtain ⟨b,hbr⟩:∃ b,b = rightDr [itR x zID]:=⟨_,rfl⟩
    rw [← hbr] at HD2 HRT
    clear hbr
    have hk':∀ w' w'':World,Fr noB w' w'' → (codR.rd w' N 0 = some r ∧ codS.rd w' N 0 = some x.Node) → (codR.rd w'' N 0 = some r ∧ codS.rd w'' N 0 = some x.Node):=fun w' w'' f h=>⟨Cod.rd_fr0 h.1 f,Cod.rd_fr0 h.2 f⟩
    cases b with
    | false =>
     have hk:=hk'
     refine wp_region_M 27 28 [⟨262144,16,0⟩,⟨524288,0,0⟩,⟨1048576,786432,3⟩,⟨2097152,1048576,4⟩,⟨4194304,2097152,12⟩,⟨8388608,4194304,16⟩,⟨16777216,8388608,48⟩,⟨33554432,16777232,64⟩,⟨67108864,50331648,192⟩,⟨134217728,16777216,64⟩,⟨268435456,218103808,832⟩,⟨536870912,285212672,1088⟩,⟨1073741824,536870912,2560⟩,⟨2147483648,1073741832,4096⟩,⟨4294967296,3221225472,12288⟩,⟨8589934592,5368709120,20480⟩,⟨17179869184,8589934593,32768⟩,⟨34359738368,8589934600,32768⟩,⟨68719476736,42949672960,163840⟩,⟨137438953472,94489280512,360448⟩,⟨274877906944,146028888064,557056⟩,⟨549755813888,283467841536,1081344⟩,⟨1099511627776,8589934608,32768⟩,⟨2199023255552,1108101562368,4227072⟩,⟨4398046511104,2757369004032,10518528⟩,⟨8796093022208,4406636445696,16809984⟩,⟨17592186044416,8805756698624,33591296⟩,⟨35184372088832,17593259786240,67112960⟩] [(true,0),(true,1),(false,2),(false,3),(false,4),(true,5),(true,6),(true,7),(true,8),(true,9),(true,10),(true,11),(true,12),(true,13),(true,14),(true,15),(true,16),(true,17),(true,18),(true,19),(true,20),(true,21),(true,22),(true,23),(true,24),(true,25),(true,26)] (fun w'=>codR.rd w' N 0 = some r ∧ codS.rd w' N 0 = some x.Node) (by kernel_rfl) rfl (by kernel_rfl) (by kernel_rfl) (by kernel_rfl) (hk _ _ ((Fr.refl noB W1).drew) ⟨q6,q1⟩) (fun hA hF=>?_)
     have fd:Fr noB W1 W1.drew:=(Fr.refl noB W1).drew
     iterate 2
      refine wpAnyS_take (v:=?_) hA rfl (fun _ _ _ h=>h) (Or.inl ⟨by rfl,?_⟩) hF (fun hA=>?_)
      rotate_left
      ·intro wS hSw;(try dsimp only at hSw);obtain ⟨s1,s2⟩:=hSw;first | (apply Eq.trans;apply ex_ld_id;exact rfl;exact rfl;assumption;with_reducible rfl) | (apply Eq.trans;apply ex_ldR_at;exact rfl;exact rfl;assumption;with_reducible rfl) | (apply Eq.trans;apply ex_ldS_at;exact rfl;exact rfl;assumption;with_reducible rfl) | (apply Eq.trans;apply ex_bldA0_at;exact rfl;with_reducible rfl) | (go_simp;try with_reducible rfl)
      try simp only [sA1,sA2,sA3,Act.put,sA4,sA5,sA6]
     refine wpAnyS_one hA rfl (fun K' hK=>?_)
     go_simp
     go_at_call 48
     refine (r13item_any _ r zID).mono ?_
     rintro e w2 ⟨rfl,f2⟩
     replace hF:=hk _ _ f2 hF
     refine hK.out _ _ hF (fun hA=>?_)
     clear hK K'
     as_aux_lemma =>
     refine wpAnyS_one hA rfl (fun K' hK=>?_)
     refine step_runI rfl _ _ (ex_bsT_at (x:=itW r zID) rfl rfl) ?_
     have fn:Fr noB w2 (w2.alloc (codT.ro [itW r zID])):=(Fr.refl noB w2).alloc _
     have sl:=Cod.sl_new (C:=codT) w2 [itW r zID]
     have g3:=(fd.step0 f2).step0 fn
     replace hF:=hk _ _ fn hF
     refine hK.out _ _ hF (fun hA=>?_)
     clear hK K'
     as_aux_lemma =>
     refine wpAnyS_one hA rfl (fun K' hK=>?_)
     go_simp
     go_at_call 47
     refine (HD2.out _ g3 1 _ sl).mono ?_
     rintro e w4 ⟨rfl,f4⟩
     replace g3:=g3.step0 f4
     replace hF:=hk _ _ f4 hF
     refine hK.out _ _ hF (fun hA=>?_)
     clear hK K'
     as_aux_lemma =>
     iterate 2
      refine wpAnyS_take (v:=?_) hA rfl (fun _ _ _ h=>h) (Or.inl ⟨by rfl,?_⟩) hF (fun hA=>?_)
      rotate_left
      ·intro wS hSw;(try dsimp only at hSw);obtain ⟨s1,s2⟩:=hSw;first | (apply Eq.trans;apply ex_ld_id;exact rfl;exact rfl;assumption;with_reducible rfl) | (apply Eq.trans;apply ex_ldR_at;exact rfl;exact rfl;assumption;with_reducible rfl) | (apply Eq.trans;apply ex_ldS_at;exact rfl;exact rfl;assumption;with_reducible rfl) | (apply Eq.trans;apply ex_bldA0_at;exact rfl;with_reducible rfl) | (go_simp;try with_reducible rfl)
      try simp only [sA1,sA2,sA3,Act.put,sA4,sA5,sA6]
     iterate 4
      refine wpAnyS_take (v:=undef) hA rfl (fun _ _ _ h=>h) (Or.inr ⟨by rfl,rfl⟩) hF (fun hA=>?_)
      try simp only [sA1,sA2,sA3,Act.put,sA4,sA5,sA6]
     iterate 2
      refine wpAnyS_take (v:=?_) hA rfl (fun _ _ _ h=>h) (Or.inl ⟨by rfl,?_⟩) hF (fun hA=>?_)
      rotate_left
      ·intro wS hSw;(try dsimp only at hSw);obtain ⟨s1,s2⟩:=hSw;first | (apply Eq.trans;apply ex_ld_id;exact rfl;exact rfl;assumption;with_reducible rfl) | (apply Eq.trans;apply ex_ldR_at;exact rfl;exact rfl;assumption;with_reducible rfl) | (apply Eq.trans;apply ex_ldS_at;exact rfl;exact rfl;assumption;with_reducible rfl) | (apply Eq.trans;apply ex_bldA0_at;exact rfl;with_reducible rfl) | (go_simp;try with_reducible rfl)
      try simp only [sA1,sA2,sA3,Act.put,sA4,sA5,sA6]
     iterate 14
      refine wpAnyS_take (v:=undef) hA rfl (fun _ _ _ h=>h) (Or.inr ⟨by rfl,rfl⟩) hF (fun hA=>?_)
      try simp only [sA1,sA2,sA3,Act.put,sA4,sA5,sA6]
     refine wpAnyS_end hA rfl ?_
     simp only [List.drop_succ_cons,List.drop_zero]
     go_wp2_with fail
     go_ret
     exact ⟨false,rfl,hf0.step0 g3,⟨fun h=>(by cases h),fun ht=>(by have h1:=HNR.out ht;rw [HRT.out] at h1;cases h1)⟩⟩
    | true =>
     by_cases hla:x.Node = lastS
     ·have hla':decide (x.Node = lastS) = true:=by simp [hla]
      have hk:=hk'
      refine wp_region_M 27 28 [⟨262144,16,0⟩,⟨524288,0,0⟩,⟨1048576,786432,3⟩,⟨2097152,1048576,4⟩,⟨4194304,2097152,12⟩,⟨8388608,4194304,16⟩,⟨16777216,8388608,48⟩,⟨33554432,16777232,64⟩,⟨67108864,50331648,192⟩,⟨134217728,16777216,64⟩,⟨268435456,218103808,832⟩,⟨536870912,285212672,1088⟩,⟨1073741824,536870912,2560⟩,⟨2147483648,1073741832,4096⟩,⟨4294967296,3221225472,12288⟩,⟨8589934592,5368709120,20480⟩,⟨17179869184,8589934593,32768⟩,⟨34359738368,8589934600,32768⟩,⟨68719476736,42949672960,163840⟩,⟨137438953472,94489280512,360448⟩,⟨274877906944,146028888064,557056⟩,⟨549755813888,283467841536,1081344⟩,⟨1099511627776,8589934608,32768⟩,⟨2199023255552,1108101562368,4227072⟩,⟨4398046511104,2757369004032,10518528⟩,⟨8796093022208,4406636445696,16809984⟩,⟨17592186044416,8805756698624,33591296⟩,⟨35184372088832,17593259786240,67112960⟩] [(true,0),(true,1),(false,2),(false,3),(false,4),(true,5),(true,6),(true,7),(true,8),(false,9),(true,10),(true,11),(true,12),(true,13),(true,14),(true,15),(true,16),(true,17),(true,18),(true,19),(true,20),(true,21),(true,22),(true,23),(true,24),(true,25),(true,26)] (fun w'=>codR.rd w' N 0 = some r ∧ codS.rd w' N 0 = some x.Node) (by kernel_rfl) rfl (by kernel_rfl) (by kernel_rfl) (by kernel_rfl) (hk _ _ ((Fr.refl noB W1).drew) ⟨q6,q1⟩) (fun hA hF=>?_)
      have fd:Fr noB W1 W1.drew:=(Fr.refl noB W1).drew
      iterate 2
       refine wpAnyS_take (v:=?_) hA rfl (fun _ _ _ h=>h) (Or.inl ⟨by rfl,?_⟩) hF (fun hA=>?_)
       rotate_left
       ·intro wS hSw;(try dsimp only at hSw);obtain ⟨s1,s2⟩:=hSw;first | (apply Eq.trans;apply ex_ld_id;exact rfl;exact rfl;assumption;with_reducible rfl) | (apply Eq.trans;apply ex_ldR_at;exact rfl;exact rfl;assumption;with_reducible rfl) | (apply Eq.trans;apply ex_ldS_at;exact rfl;exact rfl;assumption;with_reducible rfl) | (apply Eq.trans;apply ex_bldA0_at;exact rfl;with_reducible rfl) | (go_simp;try with_reducible rfl)
       try simp only [sA1,sA2,sA3,Act.put,sA4,sA5,sA6]
      refine wpAnyS_one hA rfl (fun K' hK=>?_)
      go_simp
      go_at_call 48
      refine (r13item_any _ r zID).mono ?_
      rintro e w2 ⟨rfl,f2⟩
      replace hF:=hk _ _ f2 hF
      refine hK.out _ _ hF (fun hA=>?_)
      clear hK K'
      as_aux_lemma =>
      refine wpAnyS_one hA rfl (fun K' hK=>?_)
      refine step_runI rfl _ _ (ex_bsT_at (x:=itW r zID) rfl rfl) ?_
      have fn:Fr noB w2 (w2.alloc (codT.ro [itW r zID])):=(Fr.refl noB w2).alloc _
      have sl:=Cod.sl_new (C:=codT) w2 [itW r zID]
      have g3:=(fd.step0 f2).step0 fn
      replace hF:=hk _ _ fn hF
      refine hK.out _ _ hF (fun hA=>?_)
      clear hK K'
      as_aux_lemma =>
      refine wpAnyS_one hA rfl (fun K' hK=>?_)
      go_simp
      go_at_call 47
      refine (HD2.out _ g3 1 _ sl).mono ?_
      rintro e w4 ⟨rfl,f4⟩
      replace g3:=g3.step0 f4
      replace hF:=hk _ _ f4 hF
      refine hK.out _ _ hF (fun hA=>?_)
      clear hK K'
      as_aux_lemma =>
      iterate 4
       refine wpAnyS_take (v:=?_) hA rfl (fun _ _ _ h=>h) (Or.inl ⟨by rfl,?_⟩) hF (fun hA=>?_)
       rotate_left
       ·intro wS hSw;(try dsimp only at hSw);obtain ⟨s1,s2⟩:=hSw;first | (apply Eq.trans;apply ex_ld_id;exact rfl;exact rfl;assumption;with_reducible rfl) | (apply Eq.trans;apply ex_ldR_at;exact rfl;exact rfl;assumption;with_reducible rfl) | (apply Eq.trans;apply ex_ldS_at;exact rfl;exact rfl;assumption;with_reducible rfl) | (apply Eq.trans;apply ex_bldA0_at;exact rfl;with_reducible rfl) | (go_simp;try with_reducible rfl)
       try simp only [sA1,sA2,sA3,Act.put,sA4,sA5,sA6]
      refine wpAnyS_one hA rfl (fun K' hK=>?_)
      rw [if_pos (by rfl)]
      go_simp
      go_at_call 49
      refine (r13last_any _).mono ?_
      rintro e w5 ⟨rfl,f5⟩
      replace g3:=g3.step0 f5
      replace hF:=hk _ _ f5 hF
      refine hK.out _ _ hF (fun hA=>?_)
      clear hK K'
      as_aux_lemma =>
      iterate 3
       refine wpAnyS_take (v:=?_) hA rfl (fun _ _ _ h=>h) (Or.inl ⟨by rfl,?_⟩) hF (fun hA=>?_)
       rotate_left
       ·intro wS hSw;(try dsimp only at hSw);obtain ⟨s1,s2⟩:=hSw;first | (apply Eq.trans;apply ex_ld_id;exact rfl;exact rfl;assumption;with_reducible rfl) | (apply Eq.trans;apply ex_ldR_at;exact rfl;exact rfl;assumption;with_reducible rfl) | (apply Eq.trans;apply ex_ldS_at;exact rfl;exact rfl;assumption;with_reducible rfl) | (apply Eq.trans;apply ex_bldA0_at;exact rfl;with_reducible rfl) | (go_simp;try with_reducible rfl)
       try simp only [sA1,sA2,sA3,Act.put,sA4,sA5,sA6]
      iterate 14
       refine wpAnyS_take (v:=undef) hA rfl (fun _ _ _ h=>h) (Or.inr ⟨by rfl,rfl⟩) hF (fun hA=>?_)
       try simp only [sA1,sA2,sA3,Act.put,sA4,sA5,sA6]
      refine wpAnyS_end hA rfl ?_
      simp only [List.drop_succ_cons,List.drop_zero]
      go_wp2_with fail
      go_ret
      exact ⟨false,rfl,hf0.step0 g3,⟨fun h=>(by cases h),fun ht=>(by have h1:=HNR.out ht;rw [HRT.out] at h1;simp [hla] at h1)⟩⟩
     ·have HRR:=Lib.hid (show rightR x = true by rw [HRT.out];simp [hla])
      by_cases hk0:k = 0
      ·have HP:=Lib.hid (HST.out (.inl hk0))
       have n0:¬ (0:Int) < (k:Int):=by omega
       have n0':¬ 0 < k:=by omega
       have hk:=hk'
       clear HPV HST hk0
       refine wp_region_M 27 28 [⟨262144,16,0⟩,⟨524288,0,0⟩,⟨1048576,786432,3⟩,⟨2097152,1048576,4⟩,⟨4194304,2097152,12⟩,⟨8388608,4194304,16⟩,⟨16777216,8388608,48⟩,⟨33554432,16777232,64⟩,⟨67108864,50331648,192⟩,⟨134217728,16777216,64⟩,⟨268435456,218103808,832⟩,⟨536870912,285212672,1088⟩,⟨1073741824,536870912,2560⟩,⟨2147483648,1073741832,4096⟩,⟨4294967296,3221225472,12288⟩,⟨8589934592,5368709120,20480⟩,⟨17179869184,8589934593,32768⟩,⟨34359738368,8589934600,32768⟩,⟨68719476736,42949672960,163840⟩,⟨137438953472,94489280512,360448⟩,⟨274877906944,146028888064,557056⟩,⟨549755813888,283467841536,1081344⟩,⟨1099511627776,8589934608,32768⟩,⟨2199023255552,1108101562368,4227072⟩,⟨4398046511104,2757369004032,10518528⟩,⟨8796093022208,4406636445696,16809984⟩,⟨17592186044416,8805756698624,33591296⟩,⟨35184372088832,17593259786240,67112960⟩] [(true,0),(true,1),(false,2),(false,3),(false,4),(true,5),(true,6),(true,7),(true,8),(false,9),(true,10),(true,11),(true,12),(true,13),(true,14),(true,15),(true,16),(true,17),(true,18),(true,19),(true,20),(true,21),(true,22),(true,23),(true,24),(true,25),(true,26)] (fun w'=>codR.rd w' N 0 = some r ∧ codS.rd w' N 0 = some x.Node) (by kernel_rfl) rfl (by kernel_rfl) (by kernel_rfl) (by kernel_rfl) (hk _ _ ((Fr.refl noB W1).drew) ⟨q6,q1⟩) (fun hA hF=>?_)
       have fd:Fr noB W1 W1.drew:=(Fr.refl noB W1).drew
       iterate 2
        refine wpAnyS_take (v:=?_) hA rfl (fun _ _ _ h=>h) (Or.inl ⟨by rfl,?_⟩) hF (fun hA=>?_)
        rotate_left
        ·intro wS hSw;(try dsimp only at hSw);obtain ⟨s1,s2⟩:=hSw;first | (apply Eq.trans;apply ex_ld_id;exact rfl;exact rfl;assumption;with_reducible rfl) | (apply Eq.trans;apply ex_ldR_at;exact rfl;exact rfl;assumption;with_reducible rfl) | (apply Eq.trans;apply ex_ldS_at;exact rfl;exact rfl;assumption;with_reducible rfl) | (apply Eq.trans;apply ex_bldA0_at;exact rfl;with_reducible rfl) | (go_simp;try with_reducible rfl)
        try simp only [sA1,sA2,sA3,Act.put,sA4,sA5,sA6]
       refine wpAnyS_one hA rfl (fun K' hK=>?_)
       go_simp
       go_at_call 48
       refine (r13item_any _ r zID).mono ?_
       rintro e w2 ⟨rfl,f2⟩
       replace hF:=hk _ _ f2 hF
       refine hK.out _ _ hF (fun hA=>?_)
       clear hK K'
       as_aux_lemma =>
       refine wpAnyS_one hA rfl (fun K' hK=>?_)
       refine step_runI rfl _ _ (ex_bsT_at (x:=itW r zID) rfl rfl) ?_
       have fn:Fr noB w2 (w2.alloc (codT.ro [itW r zID])):=(Fr.refl noB w2).alloc _
       have sl:=Cod.sl_new (C:=codT) w2 [itW r zID]
       have g3:=(fd.step0 f2).step0 fn
       replace hF:=hk _ _ fn hF
       refine hK.out _ _ hF (fun hA=>?_)
       clear hK K'
       as_aux_lemma =>
       refine wpAnyS_one hA rfl (fun K' hK=>?_)
       go_simp
       go_at_call 47
       refine (HD2.out _ g3 1 _ sl).mono ?_
       rintro e w4 ⟨rfl,f4⟩
       replace g3:=g3.step0 f4
       replace hF:=hk _ _ f4 hF
       refine hK.out _ _ hF (fun hA=>?_)
       clear hK K'
       as_aux_lemma =>
       iterate 4
        refine wpAnyS_take (v:=?_) hA rfl (fun _ _ _ h=>h) (Or.inl ⟨by rfl,?_⟩) hF (fun hA=>?_)
        rotate_left
        ·intro wS hSw;(try dsimp only at hSw);obtain ⟨s1,s2⟩:=hSw;first | (apply Eq.trans;apply ex_ld_id;exact rfl;exact rfl;assumption;with_reducible rfl) | (apply Eq.trans;apply ex_ldR_at;exact rfl;exact rfl;assumption;with_reducible rfl) | (apply Eq.trans;apply ex_ldS_at;exact rfl;exact rfl;assumption;with_reducible rfl) | (apply Eq.trans;apply ex_bldA0_at;exact rfl;with_reducible rfl) | (go_simp;try with_reducible rfl)
        try simp only [sA1,sA2,sA3,Act.put,sA4,sA5,sA6]
       refine wpAnyS_one hA rfl (fun K' hK=>?_)
       rw [if_pos (by rfl)]
       go_simp
       go_at_call 49
       refine (r13last_any _).mono ?_
       rintro e w5 ⟨rfl,f5⟩
       replace g3:=g3.step0 f5
       replace hF:=hk _ _ f5 hF
       refine hK.out _ _ hF (fun hA=>?_)
       clear hK K'
       as_aux_lemma =>
       iterate 6
        refine wpAnyS_take (v:=?_) hA rfl (fun _ _ _ h=>h) (Or.inl ⟨by rfl,?_⟩) hF (fun hA=>?_)
        rotate_left
        ·intro wS hSw;(try dsimp only at hSw);obtain ⟨s1,s2⟩:=hSw;first | (apply Eq.trans;apply ex_ld_id;exact rfl;exact rfl;assumption;with_reducible rfl) | (apply Eq.trans;apply ex_ldR_at;exact rfl;exact rfl;assumption;with_reducible rfl) | (apply Eq.trans;apply ex_ldS_at;exact rfl;exact rfl;assumption;with_reducible rfl) | (apply Eq.trans;apply ex_bldA0_at;exact rfl;with_reducible rfl) | (go_simp;try with_reducible rfl)
        try simp only [sA1,sA2,sA3,Act.put,sA4,sA5,sA6]
       iterate 10
        refine wpAnyS_take (v:=undef) hA rfl (fun _ _ _ h=>h) (Or.inr ⟨by rfl,rfl⟩) hF (fun hA=>?_)
        try simp only [sA1,sA2,sA3,Act.put,sA4,sA5,sA6]
       refine wpAnyS_take (v:=?_) hA rfl (fun _ _ _ h=>h) (Or.inl ⟨by rfl,?_⟩) hF (fun hA=>?_)
       rotate_left
       ·intro wS hSw;(try dsimp only at hSw);obtain ⟨s1,s2⟩:=hSw;first | (apply Eq.trans;apply ex_ld_id;exact rfl;exact rfl;assumption;with_reducible rfl) | (apply Eq.trans;apply ex_ldR_at;exact rfl;exact rfl;assumption;with_reducible rfl) | (apply Eq.trans;apply ex_ldS_at;exact rfl;exact rfl;assumption;with_reducible rfl) | (apply Eq.trans;apply ex_bldA0_at;exact rfl;with_reducible rfl) | (go_simp;try with_reducible rfl)
       try simp only [sA1,sA2,sA3,Act.put,sA4,sA5,sA6]
       refine wpAnyS_end hA rfl ?_
       simp only [List.drop_succ_cons,List.drop_zero]
       clear hk
       clear hF hk'
       have q1z:=Cod.rd_fr0 q1 g3
       have gz:=fa.step0 g3
       clear q1 q6 g3
       by_cases l0:liesR xs x.Node zSt = true
       ·have C0:=HLI.out w5 gz zSt
        rw [l0] at C0
        have HW:=Lib.hid (HTK.out HRR.out (HL0.out zSt rfl l0))
        clear l0
        go_wp2_with (go_at_call 35;refine C0.mono ?_;rintro e w5 ⟨rfl,f5⟩)
        go_roundg (rs.length - (k + 1))
        case measure=>omega
        case rel=>exact ⟨k + 1,by simp,rfl,by omega,(hf.step0 gz).step0 f5,HW.out,HP.out⟩
       ·have l0':liesR xs x.Node zSt = false:=by simpa using l0
        have C0:=HLI.out w5 gz zSt
        rw [l0'] at C0
        have HF0:=Lib.hid l0'
        clear l0 l0'
        by_cases l1:liesR xs x.Node trS = true
        ·have HW:=Lib.hid (HTK.out HRR.out (HL0.out trS rfl l1))
         go_wp2_with (first
          | (go_at_call 35;refine C0.mono ?_;rintro e w5 ⟨rfl,f5⟩;clear C0;have C1:=HLI.out _ (gz.step0 f5) trS;rw [l1] at C1;replace q1z:=Cod.rd_fr0 q1z f5)
          | (go_at_call 35;refine C1.mono ?_;rintro e w6 ⟨rfl,f6⟩))
         go_roundg (rs.length - (k + 1))
         case measure=>omega
         case rel=>exact ⟨k + 1,by simp,rfl,by omega,((hf.step0 gz).step0 f5).step0 f6,HW.out,HP.out⟩
        ·have l1':liesR xs x.Node trS = false:=by simpa using l1
         have HF1:=Lib.hid l1'
         clear l1
         go_wp2_with (first
          | (go_at_call 35;refine C0.mono ?_;rintro e w5 ⟨rfl,f5⟩;clear C0;have C1:=HLI.out _ (gz.step0 f5) trS;rw [l1'] at C1;replace q1z:=Cod.rd_fr0 q1z f5)
          | (go_at_call 35;refine C1.mono ?_;rintro e w6 ⟨rfl,f6⟩))
         go_ret
         exact ⟨false,rfl,((hf.step0 gz).step0 f5).step0 f6,⟨fun h=>(by cases h),fun ht=>Or.elim (HNL.out ht) (fun h=>(by rw [HF0.out] at h;cases h)) (fun h=>(by rw [HF1.out] at h;cases h))⟩⟩
      ·obtain ⟨qk,hqk⟩:∃ q:Nat,q + 1 = k:=⟨k - 1,by omega⟩
       have n0:(0:Int) < (k:Int):=by omega
       have n0':0 < k:=by omega
       clear hk0
       have wq:IntKind.i64.wrap ((k:Int) - 1) = (qk:Int):=by rw [IntKind.wrap_i64];omega
       have c0:(0:Int) ≤ (qk:Int):=by omega
       have c1:(qk:Int) < (rs.length:Int):=by omega
       obtain ⟨g',off',hgg,p1⟩:=HPV.out qk hqk
       injection hgg with hgg
       injection hgg with hg1 hg2 _
       subst hg1 hg2
       replace p1:=Cod.rd_fr0 p1 fa
       have HST':=Lib.hid (fun hc:cmpS (xs[qk]'(by omega)).Node x.Node < 0=>HST.out (.inr ⟨qk,hqk,hc⟩))
       have HNC:=Lib.hid (fun ht:TreeOk xs=>HNC0.out ht qk hqk)
       generalize (xs[qk]'(by omega)).Node = pn at p1 HST' HNC
       obtain ⟨z,hz⟩:∃ z,z = cmpS pn x.Node:=⟨_,rfl⟩
       have HC2:=Lib.hid (fun wS:World=>r3cmp_any wS pn x.Node)
       rw [← hz] at HC2 HST' HNC
       clear hqk HST HPV hk'
       have hk:∀ w' w'':World,Fr noB w' w'' → (codR.rd w' N 0 = some r ∧ codS.rd w' N 0 = some x.Node ∧ codS.rd w' g (off + qk * 8) = some pn) → (codR.rd w'' N 0 = some r ∧ codS.rd w'' N 0 = some x.Node ∧ codS.rd w'' g (off + qk * 8) = some pn):=fun w' w'' f h=>⟨Cod.rd_fr0 h.1 f,Cod.rd_fr0 h.2.1 f,Cod.rd_fr0 h.2.2 f⟩
       by_cases hneg:z < 0
       ·have HP:=Lib.hid (HST'.out hneg)
        have hz1:z = -1:=by rw [hz] at hneg ⊢;exact cmpS_neg hneg
        subst hz1
        have hk':=True.intro
        clear hneg hz
        refine wp_region_M 27 28 [⟨262144,16,0⟩,⟨524288,0,0⟩,⟨1048576,786432,3⟩,⟨2097152,1048576,4⟩,⟨4194304,2097152,12⟩,⟨8388608,4194304,16⟩,⟨16777216,8388608,48⟩,⟨33554432,16777232,64⟩,⟨67108864,50331648,192⟩,⟨134217728,16777216,64⟩,⟨268435456,218103808,832⟩,⟨536870912,285212672,1088⟩,⟨1073741824,536870912,2560⟩,⟨2147483648,1073741832,4096⟩,⟨4294967296,3221225472,12288⟩,⟨8589934592,5368709120,20480⟩,⟨17179869184,8589934593,32768⟩,⟨34359738368,8589934600,32768⟩,⟨68719476736,42949672960,163840⟩,⟨137438953472,94489280512,360448⟩,⟨274877906944,146028888064,557056⟩,⟨549755813888,283467841536,1081344⟩,⟨1099511627776,8589934608,32768⟩,⟨2199023255552,1108101562368,4227072⟩,⟨4398046511104,2757369004032,10518528⟩,⟨8796093022208,4406636445696,16809984⟩,⟨17592186044416,8805756698624,33591296⟩,⟨35184372088832,17593259786240,67112960⟩] [(true,0),(true,1),(false,2),(false,3),(false,4),(true,5),(true,6),(true,7),(true,8),(false,9),(true,10),(true,11),(true,12),(true,13),(true,14),(true,15),(true,16),(true,17),(true,18),(true,19),(true,20),(true,21),(true,22),(true,23),(false,24),(true,25),(true,26)] (fun w'=>codR.rd w' N 0 = some r ∧ codS.rd w' N 0 = some x.Node ∧ codS.rd w' g (off + qk * 8) = some pn) (by kernel_rfl) rfl (by kernel_rfl) (by kernel_rfl) (by kernel_rfl) (hk _ _ ((Fr.refl noB W1).drew) ⟨q6,q1,p1⟩) (fun hA hF=>?_)
        have fd:Fr noB W1 W1.drew:=(Fr.refl noB W1).drew
        iterate 2
         refine wpAnyS_take (v:=?_) hA rfl (fun _ _ _ h=>h) (Or.inl ⟨by rfl,?_⟩) hF (fun hA=>?_)
         rotate_left
         ·intro wS hSw;(try dsimp only at hSw);obtain ⟨s1,s2,s3⟩:=hSw;first | (apply Eq.trans;apply ex_ld_id;exact rfl;exact rfl;assumption;with_reducible rfl) | (apply Eq.trans;apply ex_ldR_at;exact rfl;exact rfl;assumption;with_reducible rfl) | (apply Eq.trans;apply ex_ldS_at;exact rfl;exact rfl;assumption;with_reducible rfl) | (apply Eq.trans;apply ex_bldA0_at;exact rfl;with_reducible rfl) | (go_simp;try with_reducible rfl)
         try simp only [sA1,sA2,sA3,Act.put,sA4,sA5,sA6]
        refine wpAnyS_one hA rfl (fun K' hK=>?_)
        go_simp
        go_at_call 48
        refine (r13item_any _ r zID).mono ?_
        rintro e w2 ⟨rfl,f2⟩
        replace hF:=hk _ _ f2 hF
        refine hK.out _ _ hF (fun hA=>?_)
        clear hK K'
        as_aux_lemma =>
        refine wpAnyS_one hA rfl (fun K' hK=>?_)
        refine step_runI rfl _ _ (ex_bsT_at (x:=itW r zID) rfl rfl) ?_
        have fn:Fr noB w2 (w2.alloc (codT.ro [itW r zID])):=(Fr.refl noB w2).alloc _
        have sl:=Cod.sl_new (C:=codT) w2 [itW r zID]
        have g3:=(fd.step0 f2).step0 fn
        replace hF:=hk _ _ fn hF
        refine hK.out _ _ hF (fun hA=>?_)
        clear hK K'
        as_aux_lemma =>
        refine wpAnyS_one hA rfl (fun K' hK=>?_)
        go_simp
        go_at_call 47
        refine (HD2.out _ g3 1 _ sl).mono ?_
        rintro e w4 ⟨rfl,f4⟩
        replace g3:=g3.step0 f4
        replace hF:=hk _ _ f4 hF
        refine hK.out _ _ hF (fun hA=>?_)
        clear hK K'
        as_aux_lemma =>
        iterate 4
         refine wpAnyS_take (v:=?_) hA rfl (fun _ _ _ h=>h) (Or.inl ⟨by rfl,?_⟩) hF (fun hA=>?_)
         rotate_left
         ·intro wS hSw;(try dsimp only at hSw);obtain ⟨s1,s2,s3⟩:=hSw;first | (apply Eq.trans;apply ex_ld_id;exact rfl;exact rfl;assumption;with_reducible rfl) | (apply Eq.trans;apply ex_ldR_at;exact rfl;exact rfl;assumption;with_reducible rfl) | (apply Eq.trans;apply ex_ldS_at;exact rfl;exact rfl;assumption;with_reducible rfl) | (apply Eq.trans;apply ex_bldA0_at;exact rfl;with_reducible rfl) | (go_simp;try with_reducible rfl)
         try simp only [sA1,sA2,sA3,Act.put,sA4,sA5,sA6]
        refine wpAnyS_one hA rfl (fun K' hK=>?_)
        rw [if_pos (by rfl)]
        go_simp
        go_at_call 49
        refine (r13last_any _).mono ?_
        rintro e w5 ⟨rfl,f5⟩
        replace g3:=g3.step0 f5
        replace hF:=hk _ _ f5 hF
        refine hK.out _ _ hF (fun hA=>?_)
        clear hK K'
        as_aux_lemma =>
        iterate 14
         refine wpAnyS_take (v:=?_) hA rfl (fun _ _ _ h=>h) (Or.inl ⟨by rfl,?_⟩) hF (fun hA=>?_)
         rotate_left
         ·intro wS hSw;(try dsimp only at hSw);obtain ⟨s1,s2,s3⟩:=hSw;first | (apply Eq.trans;apply ex_ld_id;exact rfl;exact rfl;assumption;with_reducible rfl) | (apply Eq.trans;apply ex_ldR_at;exact rfl;exact rfl;assumption;with_reducible rfl) | (apply Eq.trans;apply ex_ldS_at;exact rfl;exact rfl;assumption;with_reducible rfl) | (apply Eq.trans;apply ex_bldA0_at;exact rfl;with_reducible rfl) | (go_simp;try with_reducible rfl)
         try simp only [sA1,sA2,sA3,Act.put,sA4,sA5,sA6]
        refine wpAnyS_one hA rfl (fun K' hK=>?_)
        rw [if_pos (by rfl)]
        go_simp
        go_at_call 50
        refine (HC2.out _).mono ?_
        rintro e w6 ⟨rfl,f6⟩
        replace g3:=g3.step0 f6
        replace hF:=hk _ _ f6 hF
        refine hK.out _ _ hF (fun hA=>?_)
        clear hK K'
        as_aux_lemma =>
        iterate 2
         refine wpAnyS_take (v:=?_) hA rfl (fun _ _ _ h=>h) (Or.inl ⟨by rfl,?_⟩) hF (fun hA=>?_)
         rotate_left
         ·intro wS hSw;(try dsimp only at hSw);obtain ⟨s1,s2,s3⟩:=hSw;first | (apply Eq.trans;apply ex_ld_id;exact rfl;exact rfl;assumption;with_reducible rfl) | (apply Eq.trans;apply ex_ldR_at;exact rfl;exact rfl;assumption;with_reducible rfl) | (apply Eq.trans;apply ex_ldS_at;exact rfl;exact rfl;assumption;with_reducible rfl) | (apply Eq.trans;apply ex_bldA0_at;exact rfl;with_reducible rfl) | (go_simp;try with_reducible rfl)
         try simp only [sA1,sA2,sA3,Act.put,sA4,sA5,sA6]
        refine wpAnyS_end hA rfl ?_
        simp only [List.drop_succ_cons,List.drop_zero]
        clear hk
        clear hF hk'
        have q1z:=Cod.rd_fr0 q1 g3
        have gz:=fa.step0 g3
        clear q1 q6 g3
        by_cases l0:liesR xs x.Node zSt = true
        ·have C0:=HLI.out w6 gz zSt
         rw [l0] at C0
         have HW:=Lib.hid (HTK.out HRR.out (HL0.out zSt rfl l0))
         clear l0
         go_wp2_with (go_at_call 35;refine C0.mono ?_;rintro e w5 ⟨rfl,f5⟩)
         go_roundg (rs.length - (k + 1))
         case measure=>omega
         case rel=>exact ⟨k + 1,by simp,rfl,by omega,(hf.step0 gz).step0 f5,HW.out,HP.out⟩
        ·have l0':liesR xs x.Node zSt = false:=by simpa using l0
         have C0:=HLI.out w6 gz zSt
         rw [l0'] at C0
         have HF0:=Lib.hid l0'
         clear l0 l0'
         by_cases l1:liesR xs x.Node trS = true
         ·have HW:=Lib.hid (HTK.out HRR.out (HL0.out trS rfl l1))
          go_wp2_with (first
           | (go_at_call 35;refine C0.mono ?_;rintro e w5 ⟨rfl,f5⟩;clear C0;have C1:=HLI.out _ (gz.step0 f5) trS;rw [l1] at C1;replace q1z:=Cod.rd_fr0 q1z f5)
           | (go_at_call 35;refine C1.mono ?_;rintro e w6 ⟨rfl,f6⟩))
          go_roundg (rs.length - (k + 1))
          case measure=>omega
          case rel=>exact ⟨k + 1,by simp,rfl,by omega,((hf.step0 gz).step0 f5).step0 f6,HW.out,HP.out⟩
         ·have l1':liesR xs x.Node trS = false:=by simpa using l1
          have HF1:=Lib.hid l1'
          clear l1
          go_wp2_with (first
           | (go_at_call 35;refine C0.mono ?_;rintro e w5 ⟨rfl,f5⟩;clear C0;have C1:=HLI.out _ (gz.step0 f5) trS;rw [l1'] at C1;replace q1z:=Cod.rd_fr0 q1z f5)
           | (go_at_call 35;refine C1.mono ?_;rintro e w6 ⟨rfl,f6⟩))
          go_ret
          exact ⟨false,rfl,((hf.step0 gz).step0 f5).step0 f6,⟨fun h=>(by cases h),fun ht=>Or.elim (HNL.out ht) (fun h=>(by rw [HF0.out] at h;cases h)) (fun h=>(by rw [HF1.out] at h;cases h))⟩⟩
       ·have hz1:(z != -1) = true:=by rw [bne_iff_ne];omega
        have hz2:¬ z = -1:=by omega
        have HZN:=Lib.hid hneg
        clear hz hneg
        refine wp_region_M 27 28 [⟨262144,16,0⟩,⟨524288,0,0⟩,⟨1048576,786432,3⟩,⟨2097152,1048576,4⟩,⟨4194304,2097152,12⟩,⟨8388608,4194304,16⟩,⟨16777216,8388608,48⟩,⟨33554432,16777232,64⟩,⟨67108864,50331648,192⟩,⟨134217728,16777216,64⟩,⟨268435456,218103808,832⟩,⟨536870912,285212672,1088⟩,⟨1073741824,536870912,2560⟩,⟨2147483648,1073741832,4096⟩,⟨4294967296,3221225472,12288⟩,⟨8589934592,5368709120,20480⟩,⟨17179869184,8589934593,32768⟩,⟨34359738368,8589934600,32768⟩,⟨68719476736,42949672960,163840⟩,⟨137438953472,94489280512,360448⟩,⟨274877906944,146028888064,557056⟩,⟨549755813888,283467841536,1081344⟩,⟨1099511627776,8589934608,32768⟩,⟨2199023255552,1108101562368,4227072⟩,⟨4398046511104,2757369004032,10518528⟩,⟨8796093022208,4406636445696,16809984⟩,⟨17592186044416,8805756698624,33591296⟩,⟨35184372088832,17593259786240,67112960⟩] [(true,0),(true,1),(false,2),(false,3),(false,4),(true,5),(true,6),(true,7),(true,8),(false,9),(true,10),(true,11),(true,12),(true,13),(true,14),(true,15),(true,16),(true,17),(true,18),(true,19),(true,20),(true,21),(true,22),(true,23),(false,24),(true,25),(true,26)] (fun w'=>codR.rd w' N 0 = some r ∧ codS.rd w' N 0 = some x.Node ∧ codS.rd w' g (off + qk * 8) = some pn) (by kernel_rfl) rfl (by kernel_rfl) (by kernel_rfl) (by kernel_rfl) (hk _ _ ((Fr.refl noB W1).drew) ⟨q6,q1,p1⟩) (fun hA hF=>?_)
        have fd:Fr noB W1 W1.drew:=(Fr.refl noB W1).drew
        iterate 2
         refine wpAnyS_take (v:=?_) hA rfl (fun _ _ _ h=>h) (Or.inl ⟨by rfl,?_⟩) hF (fun hA=>?_)
         rotate_left
         ·intro wS hSw;(try dsimp only at hSw);obtain ⟨s1,s2,s3⟩:=hSw;first | (apply Eq.trans;apply ex_ld_id;exact rfl;exact rfl;assumption;with_reducible rfl) | (apply Eq.trans;apply ex_ldR_at;exact rfl;exact rfl;assumption;with_reducible rfl) | (apply Eq.trans;apply ex_ldS_at;exact rfl;exact rfl;assumption;with_reducible rfl) | (apply Eq.trans;apply ex_bldA0_at;exact rfl;with_reducible rfl) | (go_simp;try with_reducible rfl)
         try simp only [sA1,sA2,sA3,Act.put,sA4,sA5,sA6]
        refine wpAnyS_one hA rfl (fun K' hK=>?_)
        go_simp
        go_at_call 48
        refine (r13item_any _ r zID).mono ?_
        rintro e w2 ⟨rfl,f2⟩
        replace hF:=hk _ _ f2 hF
        refine hK.out _ _ hF (fun hA=>?_)
        clear hK K'
        as_aux_lemma =>
        refine wpAnyS_one hA rfl (fun K' hK=>?_)
        refine step_runI rfl _ _ (ex_bsT_at (x:=itW r zID) rfl rfl) ?_
        have fn:Fr noB w2 (w2.alloc (codT.ro [itW r zID])):=(Fr.refl noB w2).alloc _
        have sl:=Cod.sl_new (C:=codT) w2 [itW r zID]
        have g3:=(fd.step0 f2).step0 fn
        replace hF:=hk _ _ fn hF
        refine hK.out _ _ hF (fun hA=>?_)
        clear hK K'
        as_aux_lemma =>
        refine wpAnyS_one hA rfl (fun K' hK=>?_)
        go_simp
        go_at_call 47
        refine (HD2.out _ g3 1 _ sl).mono ?_
        rintro e w4 ⟨rfl,f4⟩
        replace g3:=g3.step0 f4
        replace hF:=hk _ _ f4 hF
        refine hK.out _ _ hF (fun hA=>?_)
        clear hK K'
        as_aux_lemma =>
        iterate 4
         refine wpAnyS_take (v:=?_) hA rfl (fun _ _ _ h=>h) (Or.inl ⟨by rfl,?_⟩) hF (fun hA=>?_)
         rotate_left
         ·intro wS hSw;(try dsimp only at hSw);obtain ⟨s1,s2,s3⟩:=hSw;first | (apply Eq.trans;apply ex_ld_id;exact rfl;exact rfl;assumption;with_reducible rfl) | (apply Eq.trans;apply ex_ldR_at;exact rfl;exact rfl;assumption;with_reducible rfl) | (apply Eq.trans;apply ex_ldS_at;exact rfl;exact rfl;assumption;with_reducible rfl) | (apply Eq.trans;apply ex_bldA0_at;exact rfl;with_reducible rfl) | (go_simp;try with_reducible rfl)
         try simp only [sA1,sA2,sA3,Act.put,sA4,sA5,sA6]
        refine wpAnyS_one hA rfl (fun K' hK=>?_)
        rw [if_pos (by rfl)]
        go_simp
        go_at_call 49
        refine (r13last_any _).mono ?_
        rintro e w5 ⟨rfl,f5⟩
        replace g3:=g3.step0 f5
        replace hF:=hk _ _ f5 hF
        refine hK.out _ _ hF (fun hA=>?_)
        clear hK K'
        as_aux_lemma =>
        iterate 14
         refine wpAnyS_take (v:=?_) hA rfl (fun _ _ _ h=>h) (Or.inl ⟨by rfl,?_⟩) hF (fun hA=>?_)
         rotate_left
         ·intro wS hSw;(try dsimp only at hSw);obtain ⟨s1,s2,s3⟩:=hSw;first | (apply Eq.trans;apply ex_ld_id;exact rfl;exact rfl;assumption;with_reducible rfl) | (apply Eq.trans;apply ex_ldR_at;exact rfl;exact rfl;assumption;with_reducible rfl) | (apply Eq.trans;apply ex_ldS_at;exact rfl;exact rfl;assumption;with_reducible rfl) | (apply Eq.trans;apply ex_bldA0_at;exact rfl;with_reducible rfl) | (go_simp;try with_reducible rfl)
         try simp only [sA1,sA2,sA3,Act.put,sA4,sA5,sA6]
        refine wpAnyS_one hA rfl (fun K' hK=>?_)
        rw [if_pos (by rfl)]
        go_simp
        go_at_call 50
        refine (HC2.out _).mono ?_
        rintro e w6 ⟨rfl,f6⟩
        replace g3:=g3.step0 f6
        replace hF:=hk _ _ f6 hF
        refine hK.out _ _ hF (fun hA=>?_)
        clear hK K'
        as_aux_lemma =>
        iterate 2
         refine wpAnyS_take (v:=?_) hA rfl (fun _ _ _ h=>h) (Or.inl ⟨by rfl,?_⟩) hF (fun hA=>?_)
         rotate_left
         ·intro wS hSw;(try dsimp only at hSw);obtain ⟨s1,s2,s3⟩:=hSw;first | (apply Eq.trans;apply ex_ld_id;exact rfl;exact rfl;assumption;with_reducible rfl) | (apply Eq.trans;apply ex_ldR_at;exact rfl;exact rfl;assumption;with_reducible rfl) | (apply Eq.trans;apply ex_ldS_at;exact rfl;exact rfl;assumption;with_reducible rfl) | (apply Eq.trans;apply ex_bldA0_at;exact rfl;with_reducible rfl) | (go_simp;try with_reducible rfl)
         try simp only [sA1,sA2,sA3,Act.put,sA4,sA5,sA6]
        refine wpAnyS_end hA rfl ?_
        simp only [List.drop_succ_cons,List.drop_zero]
        go_wp2_with fail
        go_ret
        exact ⟨false,rfl,hf0.step0 g3,⟨fun h=>(by cases h),fun ht=>absurd (HNC.out ht) (by have:=HZN.out;omega)⟩⟩
   ·have hkn:k = rs.length:=by omega
    subst hkn
    have i1:¬ (rs.length:Int) < (rs.length:Int):=by omega
    go_wp2_with fail
    go_ret
    exact ⟨true,rfl,hf,⟨fun _=>treeOk_of (by rw [← HLX.out];exact hl5) (fun i h=>(HOK.out i h (by rw [HLX.out];exact h)).1) (by rw [← HLX.out];exact HPW.out) (fun i h=>(HOK.out i h (by rw [HLX.out];exact h)).2),fun _=>rfl⟩⟩
 ·have n5:(5000:Int) < (rs.length:Int):=by omega
  go_enter Tryz.func23,Tryz.ntmps23
  go_wp2_with fail
  go_ret
  exact ⟨false,rfl,Fr.refl _ _,⟨fun h=>(by cases h),fun ht=>(by have:=ht.len;have:=HLX.out;omega)⟩⟩
end Go.Proofs.YthehiobacjjakaaGreatDoor
