/- Contract of work: take, put$1. (ex_ldS_at) Contract of slices.BinarySearchFunc over rows. (Fr.sameR) Contracts: rows that are owned and stored into; slices.Insert at the end; put. (Fr.sameR ex_ldS_at ex_ldR_at) Contract of work: put. (ex_ldS_at ex_ldR_at) -/
import Derived.Test.YthehiobacjjakaaGreatDoorWkIKp
set_option linter.unusedVariables false
set_option linter.unusedSimpArgs false
namespace Go.Proofs.YthehiobacjjakaaGreatDoor
open Go.RowKit Go.Maps Go.Sort
theorem wk0 {M:Nat → Prop} {w w':World} (f:Fr noB w w'):Fr M w w':=f.mono (fun b h=>absurd h (by simp [noB]))
def tickW (s:St):St:=⟨s.T + 1,s.R⟩
structure TkTo (w:World) (P:Nat) (d:DfW) (e:Ending) (w':World):Prop where
 ret:e = .returned (.agg (codS.A d.next))
 bx:codDf.bxd w' P = some { d with next:=tickW d.next }
 fr:Fr (oneB P) w w'
set_option maxRecDepth 100000 in
set_option maxHeartbeats 1000000 in
theorem wtake_any (w:World) (P:Nat) (d:DfW) (hP:codDf.bxd w P = some d) (hb : -9223372036854775808 ≤ d.next.T ∧ d.next.T < 9223372036854775807):Calls Tryz.prog 56 #[.pointer (some ⟨P,0,none⟩)] w (TkTo w P d):=by
 have HB:=Lib.hid hb
 have HP:=Lib.hid hP
 have hlt:=Cod.bxd_lt hP
 clear hb hP
 go_enter Tryz.func56,Tryz.ntmps56
 go_upto_region 1 with fail
 have f0:Fr noB w (w.alloc (codS.o zSt)):=(Fr.refl noB w).alloc _
 have b0:=Cod.bxd_new (C:=codS) w zSt
 generalize w.alloc (codS.o zSt) = w0 at f0 b0 ⊢
 obtain ⟨R,eR⟩:∃ R,R = w.heap.size:=⟨_,rfl⟩
 rw [← eR] at b0 ⊢
 have HER:=Lib.hid (show P < R ∧ w.heap.size ≤ R by omega)
 clear eR
 have q0:=(dfAt (Cod.bxd_fr0 HP.out f0)).next
 go_upto_region 2 with fail
 have f1:Fr noB w0 (w0.alloc (codS.o d.next)):=(Fr.refl noB w0).alloc _
 have r1:=Cod.rd_new' (C:=codS) w0 d.next
 have B1:=Lib.hid (Cod.bxd_fr0 b0 f1)
 have F1:=Lib.hid (f0.step0 f1)
 have HS:=Lib.hid (show P < w0.heap.size from by have:=f0.size;omega)
 clear f0 b0 f1 q0
 generalize w0.alloc (codS.o d.next) = w1 at r1 B1 F1 ⊢
 obtain ⟨S,eS⟩:∃ S,S = w0.heap.size:=⟨_,rfl⟩
 rw [← eS] at r1 ⊢
 have HPS:=Lib.hid (show S ≠ P by have:=HS.out;omega)
 clear eS HS
 have bP:=Cod.bxd_fr0 HP.out F1.out
 have qT:=(dfAt bP).T
 have zz:=(Cod.bxd_blk bP).frozen 1
 have st:=Cod.set_fr w1 P 1 (.int .i64 (d.next.T + 1))
 have bs:=Cod.bxd_set bP 1 (.int .i64 (d.next.T + 1)) { d with next:=tickW d.next } rfl
 have hw1:wrap64 (d.next.T + 1) = d.next.T + 1:=IntWalk.wrap64_in _ (by have:=HB.out;omega)
 clear bP hlt
 go_upto_region 3 with fail
 have ST:=Lib.hid st
 have BS:=Lib.hid bs
 have r2:=Cod.rd_fr r1 st HPS.out
 have bR:=Cod.bxd_fr B1.out st (show ¬ R = P by have:=HER.out;omega)
 clear r1 st bs hw1 zz qT
 generalize w1.setCell ⟨P,1,none⟩ (.int .i64 (d.next.T + 1)) = w2 at r2 bR ST BS ⊢
 have hst:=okS.stR_box bR d.next
 obtain ⟨p1,p2,p3⟩:=Cod.put_fr bR d.next
 have PP:=Lib.hid (And.intro p1 p3)
 clear p1 p2 p3 bR
 go_wp2_with fail
 refine bodyPost_ret (ret_row okS rfl _ _ R _ (by rfl) PP.out.2) rfl ?_
 exact ⟨rfl,Cod.bxd_fr BS.out PP.out.1 (show ¬ P = R by have:=HER.out;omega),(((wk0 F1.out).trans ST.out (fun _ _ hb=>hb)).step1 PP.out.1 HER.out.2)⟩
set_option maxRecDepth 100000 in
theorem put1_any (w:World) (x:RwW) (s:St):Calls Tryz.prog 85 #[.agg (codR.A x),.agg (codS.A s)] w (Gives w (.int .i64 (cmpS x.Node s))):=by
 have f0:Fr noB w ((w.alloc (.cells (codR.A x) 60)).alloc (.cells (codS.A s) 24)):=((Fr.refl noB w).alloc _).alloc _
 have q0:=(rwAt (Cod.rd_fr0 (Cod.rd_new (C:=codR) w 60 x) ((Fr.refl noB _).alloc (.cells (codS.A s) 24)))).node
 have q1:=Cod.rd_new (C:=codS) (w.alloc (.cells (codR.A x) 60)) 24 s
 rw [show (w.alloc (.cells (codR.A x) 60)).heap.size = w.heap.size + 1 by simp] at q1
 have F0:=Lib.hid f0
 clear f0
 go_enter Tryz.func85,Tryz.ntmps85
 go_upto_region 1 with fail
 go_wp2_with (go_at_call 45;refine (scmp_v _ x.Node s).mono ?_;rintro e w4 ⟨rfl,f4⟩)
 go_ret
 exact ⟨rfl,F0.out.step0 f4⟩
def RisM (rs:List RwW):Prop:=rs.Pairwise fun a b=>cmpS a.Node b.Node < 0
structure BsI (rs:List RwW) (s:St) (i j:Nat):Prop where
 le:i ≤ j
 jn:j ≤ rs.length
 lo:∀ k (h:k < rs.length),k < i → cmpS rs[k].Node s < 0
 hi:∀ k (h:k < rs.length),j ≤ k → ¬ cmpS rs[k].Node s < 0
theorem BsI.left {rs:List RwW} {s:St} {i j h:Nat} (hr:RisM rs) (b:BsI rs s i j) (h1:i ≤ h) (h2:h < j) (hlt:h < rs.length) (hc:cmpS rs[h].Node s < 0):BsI rs s (h + 1) j where
 le:=by omega
 jn:=b.jn
 lo:=fun k hk hki=>by
  rcases Nat.lt_or_ge k h with e | e
  ·exact cmpS_trans (List.pairwise_iff_getElem.1 hr k h hk hlt e) hc
  ·have e:k = h:=by omega
   subst e
   exact hc
 hi:=b.hi
theorem BsI.right {rs:List RwW} {s:St} {i j h:Nat} (hr:RisM rs) (b:BsI rs s i j) (h1:i ≤ h) (h2:h < j) (hlt:h < rs.length) (hc:¬ cmpS rs[h].Node s < 0):BsI rs s i h where
 le:=by omega
 jn:=by omega
 lo:=b.lo
 hi:=fun k hk hki=>by
  rcases Nat.lt_or_ge h k with e | e
  ·intro hk2
   exact hc (cmpS_trans (List.pairwise_iff_getElem.1 hr h k hlt hk e) hk2)
  ·have e:k = h:=by omega
   subst e
   exact hc
structure BsTo (w:World) (rs:List RwW) (s:St) (e:Ending) (w':World):Prop where
 ex:∃ (i:Nat) (b:Bool),e = .returned (.tuple #[.int .i64 (i:Int),.bool b]) ∧ BsI rs s i i ∧ (b = true ↔ ∃ h:i < rs.length,cmpS rs[i].Node s = 0)
 fr:Fr noB w w'
set_option maxRecDepth 100000 in
set_option maxHeartbeats 4000000 in
theorem bsf_any (w:World) (A:Option Addr) (c n:Nat) (rs:List RwW) (hn:rs.length = n) (hs:Sl w A (codR.row rs)) (hb:rs.length ≤ 1000000) (hr:RisM rs) (s:St) :
  Calls Tryz.prog 84 #[.slice A n c,.agg (codS.A s),.func (.func 85) #[] #[]] w (BsTo w rs s):=by
 subst hn
 have HR:=Lib.hid hr
 have HB:=Lib.hid hb
 have f0:Fr noB w (w.alloc (.cells (codS.A s) 24)):=(Fr.refl noB w).alloc _
 have q0:=Cod.rd_new (C:=codS) w 24 s
 have HS:=Lib.hid (hs.fr0 f0)
 clear hr hb hs
 go_enter Tryz.func84,Tryz.ntmps84
 go_upto_region 1 with fail
 generalize w.alloc (.cells (codS.A s) 24) = w0 at f0 q0 HS ⊢
 generalize w.heap.size = P at q0 ⊢
 have F0:=Lib.hid f0
 have Q0:=Lib.hid q0
 clear f0 q0
 go_wp2_with fail
 go_loopg [9,10] rs.length (fun gk iv jv wr=>∃ i j:Nat,iv = .int .i64 (i:Int) ∧ jv = .int .i64 (j:Int) ∧ gk = j - i ∧ BsI rs s i j ∧ Fr noB w0 wr)
 case atStart=>exact ⟨0,rs.length,rfl,rfl,by omega,⟨by omega,by omega,fun k _ h=>by omega,fun k h1 h2=>by omega⟩,Fr.refl _ _⟩
 case round =>
  obtain ⟨i,j,rfl,rfl,rfl,hbs,hf⟩:=hrel
  by_cases hij:i < j
  ·have i1:(i:Int) < (j:Int):=by omega
   have hjn:=hbs.jn
   obtain ⟨h,hh⟩:∃ h:Nat,h = (i + j) / 2:=⟨_,rfl⟩
   have hlt:h < rs.length:=by omega
   have hih:i ≤ h ∧ h < j:=by omega
   obtain ⟨g,off,rfl,hg⟩:=Sl.addr HS.out (by omega)
   have ro:codR.rd wr g (off + h * 8) = some rs[h]:=Cod.rd_fr0 (Sl.rd HS.out h hlt) hf
   have q0:=Cod.rd_fr0 Q0.out hf
   have l0:=Cod.rd_lt ro
   have l1:=Cod.rd_lt q0
   have eW:wrap64 (IntKind.u64.wrap (wrap64 ((i:Int) + (j:Int))) / 2) = (h:Int):=by
    have:=HB.out
    have e1:wrap64 ((i:Int) + (j:Int)) = (i:Int) + (j:Int):=IntWalk.wrap64_in _ (by omega)
    have e2:IntKind.u64.wrap ((i:Int) + (j:Int)) = (i:Int) + (j:Int):=IntWalk.u64_in _ (by omega)
    have e3:((i:Int) + (j:Int)) / 2 = (h:Int):=by omega
    rw [e1,e2,e3]
    exact IntWalk.wrap64_in _ (by omega)
   have EW:=Lib.hid eW
   have HLO:=Lib.hid (fun hc:cmpS rs[h].Node s < 0=>hbs.left HR.out hih.1 hih.2 hlt hc)
   have HHI:=Lib.hid (fun hc:¬ cmpS rs[h].Node s < 0=>hbs.right HR.out hih.1 hih.2 hlt hc)
   generalize rs[h] = z at ro HLO HHI
   have HIH:=Lib.hid hih
   have HLT:=Lib.hid hlt
   have HBS:=Lib.hid hbs
   have HH:=Lib.hid hh
   clear eW hih hlt hbs hh hjn hg
   go_upto_region 5 with fail
   rw [EW.out]
   have i0:(0:Int) ≤ (h:Int):=by omega
   have i2:(h:Int) < (rs.length:Int):=by have:=HLT.out;omega
   have C1:∀ wS,Calls Tryz.prog 85 #[.agg (codR.A z),.agg (codS.A s)] wS (Gives wS (.int .i64 (cmpS z.Node s))):=fun wS=>put1_any wS _ _
   refine wp_region_fr (by kernel_rfl) (by kernel_rfl) ?_
   iterate 6
    refine wpQ_take (v:=?_) (by rfl) (fun wS hS=>?_) ?_
    rotate_left
    ·obtain ⟨L1,L2,L3,L4,L5,L6⟩:=Fr.same hS;have L7:=Fr.sameR hS;go_simp;try with_reducible rfl
    try simp only [sA1,sA2,sA3,Act.put,sA4,sA5,sA6]
   refine wpQ_call (by rfl) (fun wS hS=>⟨_,_,?qh99,Calls.fr hS (C1 _)⟩) ?qk99
   case qh99=>obtain ⟨L1,L2,L3,L4,L5,L6⟩:=Fr.same hS;go_simp;try with_reducible rfl
   try simp only [sA1,sA2,sA3,Act.put,sA4,sA5,sA6]
   refine wpQ_take (v:=?_) (by rfl) (fun wS hS=>?_) ?_
   rotate_left
   ·obtain ⟨L1,L2,L3,L4,L5,L6⟩:=Fr.same hS;have L7:=Fr.sameR hS;go_simp;try with_reducible rfl
   try simp only [sA1,sA2,sA3,Act.put,sA4,sA5,sA6]
   refine wpQ_nil ?_
   intro w1 f1
   have F1:=Lib.hid (hf.step0 f1)
   clear hf f1 C1 ro q0 l0 l1
   by_cases hc:cmpS z.Node s < 0
   ·have HBL:=Lib.hid (HLO.out hc)
    go_wp2_with fail
    go_roundg (j - (h + 1))
    case measure=>have:=HIH.out;omega
    case rel=>exact ⟨h + 1,j,by first | (simp;done) | exact congrArg (Value.int .i64) (IntWalk.wrap64_in _ (by have:=HLT.out;have:=HB.out;omega)),rfl,rfl,HBL.out,F1.out⟩
   ·have HBL:=Lib.hid (HHI.out hc)
    go_wp2_with fail
    go_roundg (h - i)
    case measure=>have:=HIH.out;omega
    case rel=>exact ⟨i,h,rfl,rfl,rfl,HBL.out,F1.out⟩
  ·have i1:¬ (i:Int) < (j:Int):=by omega
   have hle:=hbs.le
   have hjn:=hbs.jn
   have e:j = i:=by omega
   subst e
   have HBS:=Lib.hid hbs
   clear hbs hle
   go_upto_region 8 with fail
   by_cases hlt:j < rs.length
   ·have i2:(j:Int) < (rs.length:Int):=by omega
    have i0:(0:Int) ≤ (j:Int):=by omega
    obtain ⟨g,off,rfl,hg⟩:=Sl.addr HS.out (by omega)
    have ro:codR.rd wr g (off + j * 8) = some rs[j]:=Cod.rd_fr0 (Sl.rd HS.out j hlt) hf
    have q0:=Cod.rd_fr0 Q0.out hf
    have l0:=Cod.rd_lt ro
    have l1:=Cod.rd_lt q0
    have C1:∀ wS,Calls Tryz.prog 85 #[.agg (codR.A rs[j]),.agg (codS.A s)] wS (Gives wS (.int .i64 (cmpS rs[j].Node s))):=fun wS=>put1_any wS _ _
    refine wp_region_fr (by kernel_rfl) (by kernel_rfl) ?_
    iterate 11
     refine wpQ_take (v:=?_) (by rfl) (fun wS hS=>?_) ?_
     rotate_left
     ·obtain ⟨L1,L2,L3,L4,L5,L6⟩:=Fr.same hS;have L7:=Fr.sameR hS;go_simp;try with_reducible rfl
     try simp only [sA1,sA2,sA3,Act.put,sA4,sA5,sA6]
    refine wpQ_call (by rfl) (fun wS hS=>⟨_,_,?qh144,Calls.fr hS (C1 _)⟩) ?qk144
    case qh144=>obtain ⟨L1,L2,L3,L4,L5,L6⟩:=Fr.same hS;go_simp;try with_reducible rfl
    try simp only [sA1,sA2,sA3,Act.put,sA4,sA5,sA6]
    iterate 4
     refine wpQ_take (v:=?_) (by rfl) (fun wS hS=>?_) ?_
     rotate_left
     ·obtain ⟨L1,L2,L3,L4,L5,L6⟩:=Fr.same hS;have L7:=Fr.sameR hS;go_simp;try with_reducible rfl
     try simp only [sA1,sA2,sA3,Act.put,sA4,sA5,sA6]
    refine wpQ_nil ?_
    intro w1 f1
    have F1:=Lib.hid (hf.step0 f1)
    have HLT:=Lib.hid hlt
    go_wp2_with fail
    go_ret2
    exact ⟨⟨j,decide (cmpS rs[j].Node s = 0),rfl,HBS.out,⟨fun h=>⟨HLT.out,eq_of_beq h⟩,fun ⟨_,h⟩=>beq_iff_eq.2 h⟩⟩,F0.out.step0 F1.out⟩
   ·have i2:¬ (j:Int) < (rs.length:Int):=by omega
    refine wp_region_fr (by kernel_rfl) (by kernel_rfl) ?_
    iterate 5
     refine wpQ_take (v:=?_) (by rfl) (fun wS hS=>?_) ?_
     rotate_left
     ·obtain ⟨L1,L2,L3,L4,L5,L6⟩:=Fr.same hS;have L7:=Fr.sameR hS;go_simp;try with_reducible rfl
     try simp only [sA1,sA2,sA3,Act.put,sA4,sA5,sA6]
    iterate 8
     refine wpQ_off (by rfl) ?_
     try simp only [sA1,sA2,sA3,Act.put,sA4,sA5,sA6]
    iterate 3
     refine wpQ_take (v:=?_) (by rfl) (fun wS hS=>?_) ?_
     rotate_left
     ·obtain ⟨L1,L2,L3,L4,L5,L6⟩:=Fr.same hS;have L7:=Fr.sameR hS;go_simp;try with_reducible rfl
     try simp only [sA1,sA2,sA3,Act.put,sA4,sA5,sA6]
    refine wpQ_nil ?_
    intro w1 f1
    have F1:=Lib.hid (hf.step0 f1)
    have HLT:=Lib.hid hlt
    go_wp2_with fail
    go_ret2
    exact ⟨⟨j,false,rfl,HBS.out,by simp [HLT.out]⟩,F0.out.step0 F1.out⟩
theorem Cod.row_set {α:Type} {C:Cod α} {o:Nat} {u:Value}:∀ (l:List α) (k:Nat) (hk:k < l.length) (x':α) (_:o < C.n) (_:(C.cs l[k]).set o u = C.cs x'),(C.row l).set (k * C.n + o) u = C.row (l.set k x')
 | [],k,hk,_,_,_=>absurd hk (by simp)
 | x :: t,0,_,x',ho,h=>by
  have e:C.row (x :: t) = C.cs x ++ C.row t:=by simp [Cod.row]
  have e':C.row (x' :: t) = C.cs x' ++ C.row t:=by simp [Cod.row]
  simp only [List.getElem_cons_zero] at h
  rw [Nat.zero_mul,Nat.zero_add,List.set_cons_zero,e,e',List.set_append_left _ _ (by rw [C.len];exact ho),h]
 | x :: t,k + 1,hk,x',ho,h=>by
  have e:C.row (x :: t) = C.cs x ++ C.row t:=by simp [Cod.row]
  have e':C.row (x :: t.set k x') = C.cs x ++ C.row (t.set k x'):=by simp [Cod.row]
  have ih:=Cod.row_set t k (by simpa using hk) x' ho (by simpa using h)
  have e3:(k + 1) * C.n + o = k * C.n + o + C.n:=by rw [Nat.add_mul];omega
  rw [List.set_cons_succ,e,e',List.set_append_right _ _ (by rw [C.len,e3];omega),C.len,e3,Nat.add_sub_cancel,ih]
theorem OwnC.put1 {α:Type} {C:Cod α} {w0 w:World} {A:Option Addr} {c g:Nat} {l:List α} (h:OwnC C w0 w A c l) (hA:A = some ⟨g,0,none⟩) (k:Nat) (hk:k < l.length) (o:Nat) (ho:o < C.n) (u:Value) (x':α) (hx:(C.cs l[k]).set o u = C.cs x') :
  OwnC C w0 (w.setCell ⟨g,k * C.n + o,none⟩ u) A c (l.set k x') ∧ Fr (oneB g) w (w.setCell ⟨g,k * C.n + o,none⟩ u) ∧ w.frozen? ⟨g,k * C.n + o,none⟩ = false:=by
 have hlen:(l.set k x').length = l.length:=by simp
 rcases h.2 with ⟨hv,h00⟩ | ⟨blk,cap,cur,hv,hb,hg,hnc,hm,hs,ht⟩
 ·omega
 ·injection hv with h1 _ h3
  rw [hA] at h1
  injection h1 with h1
  injection h1 with h1
  subst h1;subst h3
  have hg':Blk w g C.t cur.toList:=by unfold Blk;rw [Array.toArray_toList];exact hg
  have hst:=Blk.set hg' (k * C.n + o) u
  refine ⟨⟨by rw [Cod.row_len],.inr ⟨g,c,(cur.toList.set (k * C.n + o) u).toArray,by rw [hA,hlen],hb,hst,by rw [hlen];exact hnc,hm,?_,?_⟩⟩,Cod.set_fr w g _ u,Blk.frozen hg' _⟩
  ·simp only [List.size_toArray,List.length_set]
   rw [← hs];simp
  ·rw [hlen,← Cod.row_set l k hk x' ho hx,← ht]
   simp [List.take_set]
theorem CodOk.stR_own {α:Type} [Inhabited α] {C:Cod α} (H:CodOk Tryz.prog C) {w0 w:World} {A:Option Addr} {c g:Nat} {l:List α} (h:OwnC C w0 w A c l) (hA:A = some ⟨g,0,none⟩) (k:Nat) (hk:k < l.length) (x:α) :
  C.stR w (.pointer (some ⟨g,k * C.n,none⟩)) (.agg (C.A x)) = .ok .skip (w.setCells g (k * C.n) (C.cs x)):=by
 have hs:C.rd w g (0 + k * C.n) = some l[k]:=by
  subst hA
  exact Sl.rd (Sl.own h) k hk
 rw [Nat.zero_add] at hs
 have hfz:∀ i,w.frozen? ⟨g,i,none⟩ = false:=by
  rcases h.2 with ⟨hv,h00⟩ | ⟨blk,cap,cur,hv,hb,hg,_⟩
  ·omega
  ·injection hv with h1 _ h3
   rw [hA] at h1
   injection h1 with h1
   injection h1 with h1
   subst h1
   have hg':Blk w g C.t cur.toList:=by unfold Blk;rw [Array.toArray_toList];exact hg
   exact fun i=>Blk.frozen hg' i
 have hrun:=run_storeAt_mid (P:=Tryz.prog) w g (k * C.n) C.t (C.cs x).toArray (fun i hi=>by
  rw [List.size_toArray,C.len] at hi
  have hlt:i < (C.cs l[k]).length:=by rw [C.len];omega
  have hc:=Cod.rd_cell hs i (List.getElem?_eq_getElem hlt)
  exact ⟨by rw [hc];rfl,hfz _⟩) (by rw [List.size_toArray,C.len];exact H.info) (all_oneCell_toArray (C.one x))
 unfold Cod.stR
 rw [C.A_eq,hrun]
 rfl
theorem own_blkW {w:World} {base:Nat} {e:TypeId} {size n c:Nat} {A:Option Addr} {xs:List Value} (h:w.ownsRow base e size (.slice A n c) n xs) {g:Nat} (hg:A.map (·.block) = some g):base ≤ g ∧ ∃ cur z,w.heap[g]? = some (.cells cur e z):=by
 rcases h.2 with ⟨hv,_⟩ | ⟨blk,cap,cur,hv,hb,hgg,_⟩
 ·injection hv with h1
  rw [h1] at hg;cases hg
 ·injection hv with h1
  rw [h1] at hg
  simp only [Option.map_some,Option.some.injEq] at hg
  subst hg
  exact ⟨hb,cur,_,hgg⟩
theorem cell_frM {M:Nat → Prop} {w w':World} {b o:Nat} {v:Value} (h:w.cell? ⟨b,o,none⟩ = some v) (f:Fr M w w') (hM:¬ M b):w'.cell? ⟨b,o,none⟩ = some v:=by
 have hl:=World.block_lt_of_cell? _ _ h
 exact (World.cell?_of_block (w:=w) (a:=⟨b,o,none⟩) (f.block b hl hM)).trans h
def InsTo (W w:World) (A:Option Addr) (rs:List RwW) (e:Ending) (w':World):Prop :=
 ∃ A' c',e = .returned (.slice A' rs.length c') ∧ OwnC codR W w' A' c' rs ∧ w.grownBy w' (A.map (·.block)) ∧ (A'.map (·.block) = A.map (·.block) ∨ A'.map (·.block) = some w.heap.size)
set_option maxRecDepth 100000 in
set_option maxHeartbeats 1000000 in
theorem insR_any (W w:World) (A:Option Addr) (c n:Nat) (rs:List RwW) (hn:rs.length = n) (ho:OwnC codR W w A c rs) (hW:W.heap.size ≤ w.heap.size) (hb:rs.length ≤ 1000000) (B:Option Addr) (r:RwW) (hB:Sl w B (codR.row [r])) :
  Calls Tryz.prog 86 #[.slice A n c,.int .i64 (n:Int),.slice B 1 1] w (InsTo W w A (rs ++ [r])):=by
 subst hn
 have HB:=Lib.hid hb
 have hc:=own_cap ho
 go_enter Tryz.func86,Tryz.ntmps86
 go_wp2_with (at_builtin;refine wpList_appC' etR W _ rfl _ _ rfl A rs.length c rs rfl rfl ho B 1 1 [r] rfl hB rfl (by have:=HB.out;simp;omega) hW ?_;intro A7 c7 w7 hc7 hm7 o7 g7 hA7)
 all_goals
  go_ret
  exact ⟨A7,c7,by simp,o7,g7,hA7⟩
def dM (P:Nat) (d:DfW):Nat → Prop:=fun b=>b = P ∨ d.A.map (·.block) = some b
def dN (w:World) (d d':DfW):Prop:=d'.A.map (·.block) = d.A.map (·.block) ∨ ∀ b,d'.A.map (·.block) = some b → w.heap.size ≤ b
theorem putW_set {rs:List RwW} (h:RisM rs) {r:RwW} {i:Nat} (hi:i < rs.length) (e:rs[i].Node = r.Node):putW rs r = rs.set i r:=by
 have hf:(findW rs r.Node).isSome = true:=by
  cases hf:findW rs r.Node with
  | some x=>rfl
  | none =>
   unfold findW at hf
   rw [List.find?_eq_none] at hf
   exact absurd (by simpa using e) (hf _ (List.getElem_mem hi))
 unfold putW
 rw [if_pos hf]
 refine List.ext_getElem (by simp) fun j h1 h2=>?_
 rw [List.getElem_map,List.getElem_set]
 have hj:j < rs.length:=by simpa using h1
 by_cases hij:i = j
 ·subst hij
  rw [if_pos e,if_pos rfl]
 ·rw [if_neg hij,if_neg]
  intro e2
  have e3:cmpS rs[i].Node rs[j].Node = 0:=by rw [e,e2,cmpS_self]
  rcases Nat.lt_or_gt_of_ne hij with hl | hl
  ·have:=List.pairwise_iff_getElem.1 h i j hi hj hl
   omega
  ·have:=List.pairwise_iff_getElem.1 h j i hj hi hl
   rw [cmpS_flip] at e3
   omega
theorem putW_end {rs:List RwW} {r:RwW} (h:∀ x ∈ rs,cmpS x.Node r.Node < 0):putW rs r = rs ++ [r]:=by
 unfold putW
 rw [if_neg]
 intro hs
 obtain ⟨x,hx⟩:=Option.isSome_iff_exists.1 hs
 obtain ⟨h1,h2⟩:=findW_some hx
 have:=h x h1
 rw [h2,cmpS_self] at this
 omega
theorem bs_yes {rs:List RwW} {s:St} {i:Nat} {b:Bool} (hb:b = true ↔ ∃ h:i < rs.length,cmpS rs[i].Node s = 0) (e:b = true):∃ h:i < rs.length,rs[i].Node = s:=by
 obtain ⟨h,e⟩:=hb.1 e
 exact ⟨h,cmpS_zero.1 e⟩
theorem bs_no {rs:List RwW} {s:St} {i:Nat} {b:Bool} (hr:RisM rs) (hi:BsI rs s i i) (hb:b = true ↔ ∃ h:i < rs.length,cmpS rs[i].Node s = 0) (e:b = false) (hq:(∃ x ∈ rs,x.Node = s) ∨ ∀ x ∈ rs,cmpS x.Node s < 0):i = rs.length ∧ ∀ x ∈ rs,cmpS x.Node s < 0:=by
 have hall:∀ x ∈ rs,cmpS x.Node s < 0:=by
  rcases hq with ⟨x,hx,hs⟩ | hq
  ·obtain ⟨k,hk,rfl⟩:=List.getElem_of_mem hx
   have e0:cmpS rs[k].Node s = 0:=by rw [hs,cmpS_self]
   rcases Nat.lt_trichotomy k i with hl | hl | hl
   ·have:=hi.lo k hk hl
    omega
   ·subst hl
    rw [hb.2 ⟨hk,e0⟩] at e
    cases e
   ·have h1:=List.pairwise_iff_getElem.1 hr i k (by omega) hk hl
    rw [hs] at h1
    exact absurd h1 (hi.hi i (by omega) (Nat.le_refl _))
  ·exact hq
 refine ⟨?_,hall⟩
 have:=hi.jn
 rcases Nat.lt_or_ge i rs.length with hl | hl
 ·exact absurd (hall _ (List.getElem_mem hl)) (hi.hi i hl (Nat.le_refl _))
 ·omega
structure PuTo (W w:World) (P:Nat) (d:DfW) (rs:List RwW) (e:Ending) (w':World):Prop where
 ret:e = .returned (.tuple #[])
 ex:∃ d',codDf.bxd w' P = some d' ∧ d'.next = d.next ∧ OwnC codR W w' d'.A d'.c rs ∧ rs.length = d'.n ∧ dN w d d'
 fr:Fr (dM P d) w w'
set_option maxRecDepth 100000 in
set_option maxHeartbeats 4000000 in
theorem put_any' (W w:World) (P:Nat) (d:DfW) (hP:codDf.bxd w P = some d) (rs:List RwW) (hn:rs.length = d.n) (ho:OwnC codR W w d.A d.c rs) (hW:W.heap.size ≤ w.heap.size) (hb:rs.length ≤ 100000) (hr:RisM rs) (r:RwW)
  (hq:(∃ x ∈ rs,x.Node = r.Node) ∨ ∀ x ∈ rs,cmpS x.Node r.Node < 0):Calls Tryz.prog 57 #[.pointer (some ⟨P,0,none⟩),.agg (codR.A r)] w (PuTo W w P d (putW rs r)):=by
 have HP:=Lib.hid hP
 have HNN:=Lib.hid hn
 have HO:=Lib.hid ho
 have HWW:=Lib.hid hW
 have HB:=Lib.hid hb
 have HR:=Lib.hid hr
 have HQ:=Lib.hid hq
 have hlt:=Cod.bxd_lt hP
 have f0:Fr noB w (w.alloc (.cells (codR.A r) 60)):=(Fr.refl noB w).alloc _
 have q0:=Cod.rd_new (C:=codR) w 60 r
 clear hP hn ho hW hb hr hq
 go_enter Tryz.func57,Tryz.ntmps57
 go_upto_region 1 with fail
 generalize w.alloc (.cells (codR.A r) 60) = w0 at f0 q0 ⊢
 obtain ⟨Q,eQ⟩:∃ Q,Q = w.heap.size:=⟨_,rfl⟩
 rw [← eQ] at q0 ⊢
 have HPQ:=Lib.hid (show P < Q ∧ w.heap.size ≤ Q by omega)
 clear eQ hlt
 have F0:=Lib.hid f0
 have QR:=Lib.hid q0
 have keep:∀ w' w'':World,Fr noB w' w'' → (w'.cell? ⟨P,0,none⟩ = some (.slice d.A d.n d.c) ∧ codS.rd w' Q 0 = some r.Node) → (w''.cell? ⟨P,0,none⟩ = some (.slice d.A d.n d.c) ∧ codS.rd w'' Q 0 = some r.Node):=fun w' w'' f h=>⟨cell_fr0 h.1 f,Cod.rd_fr0 h.2 f⟩
 have hF0:=keep w0 w0.drew (Fr.refl noB w0).drew ⟨(dfAt (Cod.bxd_fr0 HP.out f0)).rows,(rwAt q0).node⟩
 have FD:=Lib.hid (show Fr noB w0 w0.drew from (Fr.refl noB w0).drew)
 clear f0 q0
 refine wp_region_M 11 12 [⟨128,1,0⟩,⟨256,128,1⟩,⟨512,256,2⟩,⟨1024,512,4⟩,⟨2048,8,0⟩,⟨4096,2048,16⟩,⟨8192,5120,40⟩,⟨64,8192,64⟩,⟨16384,64,128⟩,⟨32768,64,128⟩,⟨16,16384,511⟩,⟨32,32768,2047⟩] [(true,0),(true,1),(true,2),(true,3),(true,4),(true,5),(false,6),(true,7),(true,8),(true,9),(true,10)] (fun w'=>w'.cell? ⟨P,0,none⟩ = some (.slice d.A d.n d.c) ∧ codS.rd w' Q 0 = some r.Node) (by kernel_rfl) rfl (by kernel_rfl) (by kernel_rfl) (by kernel_rfl) hF0 (fun hA hF=>?_)
 clear hF0
 generalize w0.drew = V at FD hF ⊢
 iterate 6
  refine wpAnyS_take (v:=?_) hA rfl (fun _ _ _ h=>h) (Or.inl ⟨by rfl,?_⟩) hF (fun hA=>?_)
  rotate_left
  ·intro wS hSw;(try dsimp only at hSw);obtain ⟨s1,s2⟩:=hSw;first | (apply Eq.trans;apply ex_ldR_at;exact rfl;exact rfl;assumption;with_reducible rfl) | (apply Eq.trans;apply ex_ldS_at;exact rfl;exact rfl;assumption;with_reducible rfl) | (go_simp;try with_reducible rfl)
  try simp only [sA1,sA2,sA3,Act.put,sA4,sA5,sA6]
 refine wpAnyS_one hA rfl (fun K' hK=>?_)
 go_simp
 go_at_call 84
 refine (bsf_any V d.A d.c d.n rs HNN.out ((Sl.own HO.out).fr0 (F0.out.step0 FD.out)) (by have:=HB.out;omega) HR.out r.Node).mono ?_
 rintro e w1 ⟨⟨i,b,rfl,hbi,hbb⟩,f1⟩
 replace hF:=keep _ _ f1 hF
 refine hK.out _ _ hF (fun hA=>?_)
 clear hK K'
 try simp only [sA1,sA2,sA3,Act.put,sA4,sA5,sA6]
 iterate 4
  refine wpAnyS_take (v:=?_) hA rfl (fun _ _ _ h=>h) (Or.inl ⟨by rfl,?_⟩) hF (fun hA=>?_)
  rotate_left
  ·intro wS hSw;(try dsimp only at hSw);obtain ⟨s1,s2⟩:=hSw;first | (apply Eq.trans;apply ex_ldR_at;exact rfl;exact rfl;assumption;with_reducible rfl) | (apply Eq.trans;apply ex_ldS_at;exact rfl;exact rfl;assumption;with_reducible rfl) | (go_simp;try with_reducible rfl)
  try simp only [sA1,sA2,sA3,Act.put,sA4,sA5,sA6]
 refine wpAnyS_end hA rfl ?_
 simp only [List.drop_succ_cons,List.drop_zero]
 clear hF keep
 have HBI:=Lib.hid hbi
 have HBB:=Lib.hid hbb
 have F1:=Lib.hid (FD.out.step0 f1)
 clear hbi hbb f1
 have HPP:=Lib.hid (Cod.bxd_fr0 HP.out (F0.out.step0 F1.out))
 have r1:=Cod.rd_fr0 QR.out F1.out
 have FD1:=Lib.hid (show Fr noB w1 w1.drew from (Fr.refl noB w1).drew)
 cases b with
 | true =>
  obtain ⟨hi,he⟩:=bs_yes HBB.out rfl
  have HPW:=Lib.hid (putW_set HR.out hi he)
  have HNI:=Lib.hid hi
  have i1:(i:Int) < (d.n:Int):=by have:=HNN.out;omega
  have i0:(0:Int) ≤ (i:Int):=by omega
  obtain ⟨g,eA,hg,_,_,_⟩:=RwA.own HO.out (by intro h;rw [h] at hi;simp at hi)
  have HEA:=Lib.hid eA
  have hF0:w1.drew.cell? ⟨P,0,none⟩ = some (.slice (some ⟨g,0,none⟩) d.n d.c) ∧ codR.rd w1.drew Q 0 = some r:=⟨by rw [← eA];exact cell_fr0 (dfAt HPP.out).rows FD1.out,Cod.rd_fr0 r1 FD1.out⟩
  clear he hi r1 eA
  go_upto_region 3 with fail
  refine wp_region_M 7 8 [⟨131072,1,0⟩,⟨262144,131072,1⟩,⟨524288,262144,2⟩,⟨1048576,524288,4⟩,⟨2097152,16,0⟩,⟨4194304,8,0⟩,⟨8388608,3145728,63⟩,⟨0,12582912,127⟩] [(true,0),(true,1),(true,2),(true,3),(true,4),(true,5),(true,6)] (fun w'=>w'.cell? ⟨P,0,none⟩ = some (.slice (some ⟨g,0,none⟩) d.n d.c) ∧ codR.rd w' Q 0 = some r) (by kernel_rfl) rfl (by kernel_rfl) (by kernel_rfl) (by kernel_rfl) hF0 (fun hA hF=>?_)
  clear hF0
  generalize w1.drew = V2 at FD1 hF ⊢
  iterate 7
   refine wpAnyS_take (v:=?_) hA rfl (fun _ _ _ h=>h) (Or.inl ⟨by rfl,?_⟩) hF (fun hA=>?_)
   rotate_left
   ·intro wS hSw;(try dsimp only at hSw);obtain ⟨s1,s2⟩:=hSw;first | (apply Eq.trans;apply ex_ldR_at;exact rfl;exact rfl;assumption;with_reducible rfl) | (apply Eq.trans;apply ex_ldS_at;exact rfl;exact rfl;assumption;with_reducible rfl) | (go_simp;try with_reducible rfl)
   try simp only [sA1,sA2,sA3,Act.put,sA4,sA5,sA6]
  refine wpAnyS_end hA rfl ?_
  simp only [List.drop_succ_cons,List.drop_zero]
  clear hF
  have o2:=own_new0 HO.out (F0.out.step0 (F1.out.step0 FD1.out))
  have hst:codR.stR V2 (.pointer (some ⟨g,i * 8,none⟩)) (.agg (codR.A r)) = .ok .skip (V2.setCells g (i * 8) (codR.cs r)):=okR.stR_own o2 HEA.out i HNI.out r
  have OS:=Lib.hid (OwnC.set o2 HEA.out i HNI.out r)
  obtain ⟨hgl,cur,zz,hgb⟩:=own_blkW o2 (g:=g) (by rw [HEA.out];rfl)
  have HGB:=Lib.hid hgb
  clear o2 hgb hgl hg
  go_wp2_with fail
  refine bodyPost_ret (results_none rfl _ _ _) rfl ?_
  have bP:=Cod.bxd_fr0 HPP.out FD1.out
  have hne:¬ oneB g P:=fun e=>by
   have e:P = g:=e
   have h1:=Cod.bxd_blk bP
   unfold Blk at h1
   rw [e,HGB.out] at h1
   injection h1 with h1
   injection h1 with _ h1
   exact absurd h1 (by decide)
  refine ⟨rfl,⟨d,Cod.bxd_fr bP OS.out.2 hne,rfl,by rw [HPW.out];exact OS.out.1,by rw [HPW.out,List.length_set];exact HNN.out,.inl rfl⟩,?_⟩
  exact (wk0 (F0.out.step0 (F1.out.step0 FD1.out))).trans OS.out.2 (fun b _ hb=>.inr (by rw [HEA.out,show b = g from hb];rfl))
 | false =>
  obtain ⟨hi,hall⟩:=bs_no HR.out HBI.out HBB.out rfl HQ.out
  have HPW:=Lib.hid (putW_end hall)
  have HIN:=Lib.hid (show i = d.n by rw [hi];exact HNN.out)
  clear hi hall
  go_upto_region 4 with fail
  have keep:∀ w' w'':World,Fr noB w' w'' → (w'.cell? ⟨P,0,none⟩ = some (.slice d.A d.n d.c) ∧ codR.rd w' Q 0 = some r) → (w''.cell? ⟨P,0,none⟩ = some (.slice d.A d.n d.c) ∧ codR.rd w'' Q 0 = some r):=fun w' w'' f h=>⟨cell_fr0 h.1 f,Cod.rd_fr0 h.2 f⟩
  have hF0:=keep w1 w1.drew FD1.out ⟨(dfAt HPP.out).rows,r1⟩
  clear r1
  refine wp_region_M 11 12 [⟨16777216,1,0⟩,⟨33554432,1,0⟩,⟨67108864,33554432,2⟩,⟨134217728,67108864,4⟩,⟨268435456,134217728,8⟩,⟨536870912,16,0⟩,⟨1073741824,8,0⟩,⟨2147483648,1073741824,64⟩,⟨4294967296,2952790016,176⟩,⟨8589934592,16777216,511⟩,⟨17179869184,8589934592,1023⟩,⟨0,21474836480,1535⟩] [(true,0),(true,1),(true,2),(true,3),(true,4),(true,5),(true,6),(false,7),(false,8),(true,9),(true,10)] (fun w'=>w'.cell? ⟨P,0,none⟩ = some (.slice d.A d.n d.c) ∧ codR.rd w' Q 0 = some r) (by kernel_rfl) rfl (by kernel_rfl) (by kernel_rfl) (by kernel_rfl) hF0 (fun hA hF=>?_)
  clear hF0
  generalize w1.drew = V2 at FD1 hF ⊢
  iterate 7
   refine wpAnyS_take (v:=?_) hA rfl (fun _ _ _ h=>h) (Or.inl ⟨by rfl,?_⟩) hF (fun hA=>?_)
   rotate_left
   ·intro wS hSw;(try dsimp only at hSw);obtain ⟨s1,s2⟩:=hSw;first | (apply Eq.trans;apply ex_ldR_at;exact rfl;exact rfl;assumption;with_reducible rfl) | (apply Eq.trans;apply ex_ldS_at;exact rfl;exact rfl;assumption;with_reducible rfl) | (go_simp;try with_reducible rfl)
   try simp only [sA1,sA2,sA3,Act.put,sA4,sA5,sA6]
  refine wpAnyS_one hA rfl (fun K' hK=>?_)
  refine wk_runV _ _ (ex_bsR_at (x:=r) rfl rfl) ?_
  have fa:Fr noB V2 (V2.alloc (codR.ro [r])):=(Fr.refl noB V2).alloc _
  have sl:=Cod.sl_new (C:=codR) V2 [r]
  replace hF:=keep _ _ fa hF
  refine hK.out _ _ hF (fun hA=>?_)
  clear hK K'
  try simp only [sA1,sA2,sA3,Act.put,sA4,sA5,sA6]
  have FA:=Lib.hid (F0.out.step0 (F1.out.step0 (FD1.out.step0 fa)))
  have SLN:=Lib.hid sl
  clear fa sl
  generalize V2.alloc (codR.ro [r]) = V3 at FA SLN hF ⊢
  generalize V2.heap.size = BN at SLN ⊢
  refine wpAnyS_one hA rfl (fun K' hK=>?_)
  go_simp
  go_at_call 86
  rw [HIN.out]
  refine (insR_any W V3 d.A d.c d.n rs HNN.out (own_new0 HO.out FA.out) (Nat.le_trans HWW.out FA.out.size) (by have:=HB.out;omega) (some ⟨BN,0,none⟩) r SLN.out).mono ?_
  rintro e w4 ⟨A4,c4,rfl,o4,g4,hA4⟩
  have hn4:(rs ++ [r]).length = d.n + 1:=by rw [List.length_append,HNN.out];rfl
  rw [hn4]
  have f4:Fr (fun b=>d.A.map (·.block) = some b) V3 w4:=Fr.ofGrown (M:=fun b=>d.A.map (·.block) = some b) g4 (fun g hg=>hg)
  have bP3:=Cod.bxd_fr0 HP.out FA.out
  have hne:∀ g,d.A.map (·.block) = some g → P ≠ g:=fun g hg e=>by
   obtain ⟨_,cur,zz,hgb⟩:=own_blkW (own_new0 HO.out FA.out) (g:=g) hg
   have h1:=Cod.bxd_blk bP3
   unfold Blk at h1
   rw [e,hgb] at h1
   injection h1 with h1
   injection h1 with _ h1
   exact absurd h1 (by decide)
  have bP4:=Cod.bxd_fr bP3 f4 (fun e=>hne P e rfl)
  have hnq:∀ g,d.A.map (·.block) = some g → Q ≠ g:=fun g hg e=>by
   have h1:=(own_lt HO.out g hg).2
   have h2:=HPQ.out.2
   omega
  replace hF:=And.intro (cell_frM hF.1 f4 (fun e=>hne P e rfl)) (Cod.rd_fr hF.2 f4 (fun e=>hnq Q e rfl))
  refine hK.out _ _ hF (fun hA=>?_)
  clear hK K'
  try simp only [sA1,sA2,sA3,Act.put,sA4,sA5,sA6]
  iterate 2
   refine wpAnyS_take (v:=?_) hA rfl (fun _ _ _ h=>h) (Or.inl ⟨by rfl,?_⟩) hF (fun hA=>?_)
   rotate_left
   ·intro wS hSw;(try dsimp only at hSw);obtain ⟨s1,s2⟩:=hSw;first | (apply Eq.trans;apply ex_ldR_at;exact rfl;exact rfl;assumption;with_reducible rfl) | (apply Eq.trans;apply ex_ldS_at;exact rfl;exact rfl;assumption;with_reducible rfl) | (go_simp;try with_reducible rfl)
   try simp only [sA1,sA2,sA3,Act.put,sA4,sA5,sA6]
  refine wpAnyS_end hA rfl ?_
  simp only [List.drop_succ_cons,List.drop_zero]
  clear hF keep
  have zz:=(Cod.bxd_blk bP4).frozen 0
  have u0:=(dfAt bP4).rows
  have st:=Cod.set_fr w4 P 0 (.slice A4 (d.n + 1) c4)
  have bs:=Cod.bxd_set bP4 0 (.slice A4 (d.n + 1) c4) { d with A:=A4,n:=d.n + 1,c:=c4 } rfl
  have ST:=Lib.hid st
  have BS:=Lib.hid bs
  have O4:=Lib.hid o4
  have F4:=Lib.hid f4
  have HA4:=Lib.hid hA4
  have HNE:=Lib.hid hne
  have BP4:=Lib.hid bP4
  have HSZ:=Lib.hid (Nat.le_trans FA.out.size f4.size)
  clear st bs o4 f4 hA4 hne hnq bP3 bP4 g4
  go_wp2_with fail
  refine bodyPost_end (results_none rfl _ _ _) rfl ?_
  have HN4:=HNN.out
  have hA5:dN w d { d with A:=A4,n:=d.n + 1,c:=c4 }:=by
   rcases HA4.out with e | e
   ·exact .inl e
   ·refine .inr fun b hb=>?_
    rw [show A4.map (·.block) = some V3.heap.size from e] at hb
    injection hb with hb
    have:=FA.out.size
    omega
  refine ⟨rfl,⟨{ d with A:=A4,n:=d.n + 1,c:=c4 },BS.out,rfl,?_,?_,hA5⟩,?_⟩
  ·rw [HPW.out]
   refine own_fr O4.out ST.out (fun g hg e=>?_)
   rw [ownBlock_sl'] at hg
   obtain ⟨_,cur,z2,hgb⟩:=own_blkW O4.out (g:=g) hg
   have e:g = P:=e
   have h1:=Cod.bxd_blk BP4.out
   unfold Blk at h1
   rw [← e,hgb] at h1
   injection h1 with h1
   injection h1 with _ h1
   exact absurd h1 (by decide)
  ·rw [HPW.out,List.length_append,HN4]
   rfl
  ·refine ((wk0 FA.out).trans F4.out (fun b _ hb=>.inr hb)).trans ST.out (fun b _ hb=>.inl hb)
end Go.Proofs.YthehiobacjjakaaGreatDoor
