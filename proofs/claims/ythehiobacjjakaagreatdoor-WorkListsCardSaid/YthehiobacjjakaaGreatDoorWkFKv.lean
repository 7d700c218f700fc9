/- Contract of work: kid; a draft in memory. (rdI, ex_ldS_at) Contract of work: walk. (rdI, ex_ldS_at) Contract of work: names. -/
import Derived.Test.YthehiobacjjakaaGreatDoorWkCKv
import Derived.Test.YthehiobacjjakaaGreatDoorFrameOKv
import Derived.Test.YthehiobacjjakaaGreatDoorRightCKv
import Derived.Lib.Split
set_option linter.unusedVariables false
set_option linter.unusedSimpArgs false
namespace Go.Proofs.YthehiobacjjakaaGreatDoor
open Go.RowKit Go.Maps Go.Sort
structure DfW where
 A:Option Addr
 n:Nat
 c:Nat
 next:St
def csDf (x:DfW):List Value:=[.slice x.A x.n x.c,.int .i64 x.next.T,.int .i64 x.next.R]
def zDfW:DfW:=⟨none,0,0,zSt⟩
def codDf:Cod DfW:=⟨68,3,csDf,zDfW,fun x=>rfl,by decide,fun x u hu=>by
  simp only [csDf,List.mem_cons,List.not_mem_nil,or_false] at hu
  rcases hu with rfl | rfl | rfl <;> rfl,fun x y h=>by
 obtain ⟨A,n,c,⟨t,r⟩⟩:=x;obtain ⟨A',n',c',⟨t',r'⟩⟩:=y
 simp only [csDf,List.cons.injEq,Value.slice.injEq,Value.int.injEq,and_true,true_and] at h
 obtain ⟨⟨rfl,h1,h2⟩,rfl,rfl⟩:=h
 have e1:n = n':=by omega
 have e2:c = c':=by omega
 subst e1 e2
 rfl⟩
structure DfAt (w:World) (P:Nat) (d:DfW):Prop where
 rows:w.cell? ⟨P,0,none⟩ = some (.slice d.A d.n d.c)
 T:w.cell? ⟨P,1,none⟩ = some (.int .i64 d.next.T)
 R:w.cell? ⟨P,2,none⟩ = some (.int .i64 d.next.R)
 next:codS.rd w P 1 = some d.next
theorem dfAt {w:World} {P:Nat} {d:DfW} (h:codDf.bxd w P = some d):DfAt w P d:=by
 have h0:=Cod.bxd_rd h
 exact ⟨by simpa using Cod.rd_cell h0 0 (v:=.slice d.A d.n d.c) rfl,by simpa using Cod.rd_cell h0 1 (v:=.int .i64 d.next.T) rfl,by simpa using Cod.rd_cell h0 2 (v:=.int .i64 d.next.R) rfl,by simpa using Cod.rd_part (C':=codS) (y:=d.next) h0 1 (get2 _ _ 1 rfl rfl)⟩
/-! the first that is shown by a name -/
def kidFromM (us:List RwW) (nm:List UInt8):Nat → List RwW → Option RwW
 | _,[]=>none
 | i,r :: l=>if shownM us i r = nm then some r else kidFromM us nm (i + 1) l
def kidM (rs:List RwW) (p:St) (nm:List UInt8):Option RwW:=kidFromM (kidsM rs p) nm 0 (kidsM rs p)
theorem kidFromM_hit {us:List RwW} {nm:List UInt8}:∀ (l:List RwW) (i k:Nat) (hk:k < l.length),(∀ j (h:j < l.length),j < k → shownM us (i + j) l[j] ≠ nm) → shownM us (i + k) l[k] = nm → kidFromM us nm i l = some l[k]
 | r :: l,i,0,_,_,e=>by
  unfold kidFromM
  rw [if_pos (by simpa using e)]
  rfl
 | r :: l,i,k + 1,hk,h,e=>by
  unfold kidFromM
  rw [if_neg (show ¬ shownM us i r = nm from h 0 (by simp) (by omega))]
  exact kidFromM_hit l (i + 1) k (by simpa using hk) (fun j hj hjk=>by
   have:=h (j + 1) (by simpa using hj) (by omega)
   rw [show i + 1 + j = i + (j + 1) by omega]
   simpa using this) (by rw [show i + 1 + k = i + (k + 1) by omega];simpa using e)
theorem kidFromM_none {us:List RwW} {nm:List UInt8}:∀ (l:List RwW) (i:Nat),(∀ j (h:j < l.length),shownM us (i + j) l[j] ≠ nm) → kidFromM us nm i l = none
 | [],i,_=>rfl
 | r :: l,i,h=>by
  unfold kidFromM
  rw [if_neg (show ¬ shownM us i r = nm from h 0 (by simp))]
  exact kidFromM_none l (i + 1) (fun j hj=>by
   have:=h (j + 1) (by simpa using hj)
   rw [show i + 1 + j = i + (j + 1) by omega]
   simpa using this)
def KdTo (w:World) (o:Option RwW) (e:Ending) (w':World):Prop:=e = .returned (.tuple #[.agg (codR.A (o.getD zRwW)),.bool o.isSome]) ∧ Fr noB w w'
def RowsOk (rs:List RwW):Prop:=∀ r ∈ rs,wfS r.Node = true ∧ r.Name.length ≤ 140737488355328
theorem RowsOk.kids {rs:List RwW} (h:RowsOk rs) (p:St):RowsOk (kidsM rs p):=fun r hr=>h r (List.mem_filter.1 hr).1
set_option maxRecDepth 100000 in
set_option maxHeartbeats 4000000 in
theorem kid_any (w:World) (P:Nat) (d:DfW) (hP:codDf.bxd w P = some d) (rs:List RwW) (hn:rs.length = d.n) (hs:Sl w d.A (codR.row rs)) (hb:rs.length ≤ 1000000) (hok:RowsOk rs) (hT:HasT w) (p:St) (nm:List UInt8) :
  Calls Tryz.prog 58 #[.pointer (some ⟨P,0,none⟩),.agg (codS.A p),.string (str nm)] w (KdTo w (kidM rs p nm)):=by
 have f0:Fr noB w ((w.alloc (.cells (codS.A p) 24)).alloc (codR.o zRwW)):=((Fr.refl noB w).alloc _).alloc _
 have z0:(w.alloc (.cells (codS.A p) 24)).heap.size = w.heap.size + 1:=by simp
 have q0:codS.rd ((w.alloc (.cells (codS.A p) 24)).alloc (codR.o zRwW)) w.heap.size 0 = some p:=Cod.rd_fr0 (Cod.rd_new (C:=codS) w 24 p) ((Fr.refl noB _).alloc (codR.o zRwW))
 have b0:=Cod.bxd_new (C:=codR) (w.alloc (.cells (codS.A p) 24)) zRwW
 rw [z0] at b0
 have r0:=(dfAt (Cod.bxd_fr0 hP f0)).rows
 have HSL:=Lib.hid hs
 have HB:=Lib.hid hb
 have HOK:=Lib.hid hok
 have HT:=Lib.hid hT
 have HNN:=Lib.hid hn
 clear hs hb hok hT z0 hP hn
 go_enter Tryz.func58,Tryz.ntmps58
 go_upto_region 1 with fail
 generalize (w.alloc (.cells (codS.A p) 24)).alloc (codR.o zRwW) = w0 at f0 q0 b0 r0 ⊢
 obtain ⟨B,eB⟩:∃ B,B = w.heap.size + 1:=⟨_,rfl⟩
 rw [← eB] at b0 ⊢
 have HEB:=Lib.hid (show w.heap.size ≤ B by omega)
 clear eB
 generalize w.heap.size = Q at q0 ⊢
 have F0:=Lib.hid f0
 have B0:=Lib.hid b0
 have fd:Fr noB w0 w0.drew:=(Fr.refl noB w0).drew
 have hF0:w0.drew.cell? ⟨P,0,none⟩ = some (.slice d.A d.n d.c) ∧ codS.rd w0.drew Q 0 = some p:=⟨cell_fr0 r0 fd,Cod.rd_fr0 q0 fd⟩
 have FD:=Lib.hid fd
 clear r0 q0 fd f0 b0
 refine wp_region_M 6 7 [⟨2048,1,0⟩,⟨4096,2048,1⟩,⟨8192,4096,2⟩,⟨16384,8192,4⟩,⟨32768,16,0⟩,⟨65536,49152,24⟩,⟨256,65536,63⟩] [(true,0),(true,1),(true,2),(true,3),(true,4),(false,5)] (fun w'=>w'.cell? ⟨P,0,none⟩ = some (.slice d.A d.n d.c) ∧ codS.rd w' Q 0 = some p) (by kernel_rfl) rfl (by kernel_rfl) (by kernel_rfl) (by kernel_rfl) hF0 (fun hA hF=>?_)
 clear hF0
 generalize w0.drew = V at FD hF ⊢
 iterate 5
  refine wpAnyS_take (v:=?_) hA rfl (fun _ _ _ h=>h) (Or.inl ⟨by rfl,?_⟩) hF (fun hA=>?_)
  rotate_left
  ·intro wS hSw;(try dsimp only at hSw);obtain ⟨s1,s2⟩:=hSw;first | (apply Eq.trans;apply ex_ld_id;exact rfl;exact rfl;assumption;with_reducible rfl) | (apply Eq.trans;apply ex_ldS_at;exact rfl;exact rfl;assumption;with_reducible rfl) | (go_simp;try with_reducible rfl)
  try simp only [sA1,sA2,sA3,Act.put,sA4,sA5,sA6]
 refine wpAnyS_one hA rfl (fun K' hK=>?_)
 go_simp
 go_at_call 71
 refine (kids_any V d.A d.c d.n rs HNN.out (HSL.out.fr0 (F0.out.step0 FD.out)) HB.out p).mono ?_
 rintro e w1 ⟨A1,c1,rfl,o1,f1⟩
 replace hF:=And.intro (cell_fr0 hF.1 f1) (Cod.rd_fr0 hF.2 f1)
 refine hK.out _ _ hF (fun hA=>?_)
 clear hK K'
 try simp only [sA1,sA2,sA3,Act.put,sA4,sA5,sA6]
 refine wpAnyS_end hA rfl ?_
 simp only [List.drop_succ_cons,List.drop_zero]
 clear hF
 have HKM:=Lib.hid (show kidM rs p nm = kidFromM (kidsM rs p) nm 0 (kidsM rs p) from rfl)
 have HOKK:=Lib.hid (HOK.out.kids p)
 have HKL:=Lib.hid (Nat.le_trans (kidsM_len rs p) HB.out)
 have hcap:(kidsM rs p).length ≤ c1 ∨ True:=.inr trivial
 generalize kidsM rs p = us at o1 HKM HOKK HKL ⊢
 have HO:=Lib.hid o1
 have HSU:=Lib.hid (Sl.own o1)
 have F1:=Lib.hid (FD.out.step0 f1)
 have HCC:=Lib.hid (show us.length ≤ c1 from (own_cap o1))
 clear o1 f1 hcap
 go_wp2_with fail
 go_loopg [19] us.length (fun gk iv wr=>∃ k:Nat,iv = .int .i64 (k:Int) ∧ gk = us.length - k ∧ k ≤ us.length ∧ (∀ j (h:j < us.length),j < k → shownM us j us[j] ≠ nm) ∧ Fr noB w1 wr)
 case atStart=>exact ⟨0,rfl,by omega,by omega,fun j h hj=>by omega,Fr.refl _ _⟩
 case round =>
  obtain ⟨k,rfl,rfl,hk,hno,hf⟩:=hrel
  by_cases hlt:k < us.length
  ·have i1:(k:Int) < (us.length:Int):=by omega
   have i0:(0:Int) ≤ (k:Int):=by omega
   obtain ⟨g,off,rfl,hg⟩:=Sl.addr HSU.out (by omega)
   have ro:codR.rd wr g (off + k * 8) = some us[k]:=Cod.rd_fr0 (Sl.rd HSU.out k hlt) hf
   have hww:=HOKK.out _ (List.getElem_mem hlt)
   obtain ⟨s,hs⟩:∃ s,s = shownM us k us[k]:=⟨_,rfl⟩
   have SH:∀ w',Fr noB wr w' → Calls Tryz.prog 72 #[.slice (some ⟨g,off,none⟩) us.length c1,.int .i64 (k:Int)] w' (Gives w' (.string (str s))):=fun w' f=>by
    rw [hs]
    exact shown_any w' (some ⟨g,off,none⟩) c1 us.length us rfl ((HSU.out.fr0 hf).fr0 f) HCC.out HKL.out k hlt (HT.out.fr ((F0.out.step0 F1.out).step0 (hf.step0 f))) hww.1 hww.2
   replace SH:=Lib.hid SH
   have hit:s = nm → kidFromM us nm 0 us = some us[k]:=fun e=>kidFromM_hit (us:=us) us 0 k hlt (fun j h hj=>by rw [Nat.zero_add];exact hno j h hj) (by rw [Nat.zero_add];exact hs.symm.trans e)
   have HST2:=Lib.hid (show s ≠ nm → ∀ j (h:j < us.length),j < k + 1 → shownM us j us[j] ≠ nm from fun hsn j h hj=>by
    rcases Nat.lt_or_ge j k with h1 | h1
    ·exact hno j h h1
    ·have e:j = k:=by omega
     subst e
     exact fun h'=>hsn (hs.trans h'))
   have HKK:=Lib.hid hlt
   generalize us[k] = r at ro hit
   have HIT:=Lib.hid hit
   clear hs hww hg hno hit hk hlt
   go_upto_region 5 with fail
   have f12:Fr noB wr (wr.alloc (codR.o r)):=(Fr.refl noB wr).alloc _
   have b12:=Cod.bxd_rd (Cod.bxd_new (C:=codR) wr r)
   have F12:=Lib.hid f12
   have F12h:=Lib.hid (hf.step0 f12)
   clear ro f12 hf
   generalize wr.alloc (codR.o r) = W1 at b12 F12 F12h ⊢
   generalize wr.heap.size = D2 at b12 ⊢
   by_cases he:s = nm
   ·have hdec:decide (s = nm) = true:=by simp [he]
    have HE:=Lib.hid (HIT.out he)
    clear he
    go_upto_region 6 with (go_at_call 72;refine (SH.out W1 F12.out).mono ?_;rintro e w5 ⟨rfl,f5⟩)
    have b13:=Cod.rd_fr0 b12 f5
    have bB:=Cod.bxd_fr0 B0.out (F1.out.step0 (F12h.out.step0 f5))
    have hst:=okR.stR_box bB r
    obtain ⟨p1,p2,p3⟩:=Cod.put_fr bB r
    have PP:=Lib.hid (And.intro p1 p3)
    clear p1 p2 p3 bB
    go_wp2_with fail
    refine bodyPost_ret (ret_row_tmp okR rfl _ _ B _ (by rfl) PP.out.2) rfl ?_
    exact ⟨by rw [HKM.out,HE.out];rfl,(F0.out.step0 (F1.out.step0 (F12h.out.step0 f5))).step1 PP.out.1 HEB.out⟩
   ·have hdec:decide (s = nm) = false:=by simp [he]
    have HE:=Lib.hid (HST2.out he)
    clear he
    go_wp2_with (go_at_call 72;refine (SH.out W1 F12.out).mono ?_;rintro e w5 ⟨rfl,f5⟩)
    go_roundg (us.length - (k + 1))
    case measure=>have:=HKK.out;omega
    case rel=>exact ⟨k + 1,by first | (simp;done) | exact congrArg (Value.int .i64) (IntWalk.wrap64_in _ (by have:=HKK.out;have:=HKL.out;omega)),rfl,HKK.out,HE.out,F12h.out.step0 f5⟩
  ·have i1:¬ (k:Int) < (us.length:Int):=by omega
   have hno2:∀ j (h:j < us.length),shownM us (0 + j) us[j] ≠ nm:=fun j h=>by rw [Nat.zero_add];exact hno j h (by omega)
   have HE:=Lib.hid (kidFromM_none us 0 hno2)
   clear hno2 hno
   have bB:=Cod.bxd_fr0 B0.out (F1.out.step0 hf)
   have hst:=okR.stR_box bB zRwW
   obtain ⟨p1,p2,p3⟩:=Cod.put_fr bB zRwW
   have PP:=Lib.hid (And.intro p1 p3)
   clear p1 p2 p3 bB
   go_wp2_with fail
   refine bodyPost_ret (ret_row_tmp okR rfl _ _ B _ (by rfl) PP.out.2) rfl ?_
   exact ⟨by rw [HKM.out,HE.out];rfl,(F0.out.step0 (F1.out.step0 hf)).step1 PP.out.1 HEB.out⟩
def nmsV (l:List (List UInt8)):List Value:=l.map fun s=>.string (str s)
theorem nmsV_len (l:List (List UInt8)):(nmsV l).length = l.length:=by simp [nmsV]
def walkM (rs:List RwW):RwW → List (List UInt8) → RwW × Nat
 | a,[]=>(a,0)
 | a,nm :: l=>match kidM rs a.Node nm with
  | none=>(a,0)
  | some r=>((walkM rs r l).1,(walkM rs r l).2 + 1)
def WkTo (w:World) (o:RwW × Nat) (e:Ending) (w':World):Prop:=e = .returned (.tuple #[.agg (codR.A o.1),.int .i64 (o.2:Int)]) ∧ Fr noB w w'
def WkR (w1:World) (B:Nat) (rs:List RwW) (l:List (List UInt8)) (gk:Nat) (iv:Value) (wr:World):Prop :=
 ∃ (k:Nat) (a:RwW),iv = .int .i64 (k:Int) ∧ gk = l.length - k ∧ k ≤ l.length ∧ codR.bxd wr B = some a ∧ walkM rs zRwW l = ((walkM rs a (l.drop k)).1,(walkM rs a (l.drop k)).2 + k) ∧ Fr (oneB B) w1 wr
set_option maxRecDepth 100000 in
set_option maxHeartbeats 4000000 in
theorem walk_any (w:World) (P:Nat) (d:DfW) (hP:codDf.bxd w P = some d) (rs:List RwW) (hn:rs.length = d.n) (hs:Sl w d.A (codR.row rs)) (hb:rs.length ≤ 1000000) (hok:RowsOk rs) (hT:HasT w) (A:Option Addr) (c n:Nat) (l:List (List UInt8)) (hl:l.length = n) (hsl:Sl w A (nmsV l)) (hlb:l.length ≤ 100000000000000) :
  Calls Tryz.prog 39 #[.pointer (some ⟨P,0,none⟩),.slice A n c] w (WkTo w (walkM rs zRwW l)):=by
 subst hl
 have HPP:=Lib.hid hP
 have HSL:=Lib.hid hs
 have HB:=Lib.hid hb
 have HOK:=Lib.hid hok
 have HT:=Lib.hid hT
 have HNN:=Lib.hid hn
 have HSS:=Lib.hid hsl
 have HLB:=Lib.hid hlb
 clear hs hb hok hT hP hn hsl hlb
 go_enter Tryz.func39,Tryz.ntmps39
 go_upto_region 1 with fail
 have f0:Fr noB w (w.alloc (codR.o zRwW)):=(Fr.refl noB w).alloc _
 have b0:=Cod.bxd_new (C:=codR) w zRwW
 generalize w.alloc (codR.o zRwW) = w0 at f0 b0 ⊢
 obtain ⟨R,eR⟩:∃ R,R = w.heap.size:=⟨_,rfl⟩
 rw [← eR] at b0 ⊢
 have HER:=Lib.hid (show w.heap.size ≤ R by omega)
 clear eR
 go_upto_region 2 with fail
 have f1:Fr noB w0 (w0.alloc (codR.o zRwW)):=(Fr.refl noB w0).alloc _
 have b1:=Cod.bxd_new (C:=codR) w0 zRwW
 have hlt0:=Cod.bxd_lt b0
 have B0:=Lib.hid (Cod.bxd_fr0 b0 f1)
 have F0:=Lib.hid (f0.step0 f1)
 have HZ:=Lib.hid (show w.heap.size ≤ w0.heap.size from f0.size)
 generalize w0.alloc (codR.o zRwW) = w1 at b1 B0 F0 ⊢
 obtain ⟨B,eB⟩:∃ B,B = w0.heap.size:=⟨_,rfl⟩
 rw [← eB] at b1 ⊢
 have HEB:=Lib.hid (show w.heap.size ≤ B ∧ R < B by have:=HZ.out;omega)
 have B1:=Lib.hid b1
 clear eB b0 b1 f0 f1 hlt0
 go_wp2_with fail
 go_loopg [13] l.length (fun gk iv wr=>WkR w1 B rs l gk iv wr)
 case atStart=>exact ⟨0,zRwW,rfl,by omega,by omega,B1.out,by simp,Fr.refl _ _⟩
 case round =>
  obtain ⟨k,a,rfl,rfl,hk,hbx,hwk,hf⟩:=hrel
  have FF:=Lib.hid (F0.out.step1 hf HEB.out.1)
  have hfR:=Cod.bxd_fr B0.out hf (show ¬ R = B by have:=HEB.out.2;omega)
  have BR:=Lib.hid hfR
  have HF:=Lib.hid hf
  have HBX:=Lib.hid hbx
  have HWK:=Lib.hid hwk
  clear hfR hf
  by_cases hlt:k < l.length
  ·have i1:(k:Int) < (l.length:Int):=by omega
   have i0:(0:Int) ≤ (k:Int):=by omega
   have hsl:=HSS.out.fr0 FF.out
   obtain ⟨g,off,rfl,hg,hcell⟩:=hsl (by intro e;have h0:=congrArg List.length e;rw [nmsV_len] at h0;have h1:l.length = 0:=h0;omega)
   have cs:=hcell k (.string (str l[k])) (by unfold nmsV;rw [List.getElem?_map,List.getElem?_eq_getElem hlt];rfl)
   have hdr:l.drop k = l[k] :: l.drop (k + 1):=List.drop_eq_getElem_cons hlt
   have HDR:=Lib.hid hdr
   have qn:=(rwAt (Cod.bxd_rd hbx)).node
   generalize l[k] = nm at cs HDR
   have HKK:=Lib.hid hlt
   have KD:=Lib.hid (kid_any wr P d (Cod.bxd_fr0 HPP.out FF.out) rs HNN.out (HSL.out.fr0 FF.out) HB.out HOK.out (HT.out.fr FF.out) a.Node nm)
   clear hsl hg hcell hdr hbx hwk hk hlt
   go_upto_region 6 with (go_at_call 58;refine KD.out.mono ?_;rintro e w5 ⟨rfl,f5⟩)
   obtain ⟨o,ho⟩:∃ o,o = kidM rs a.Node nm:=⟨_,rfl⟩
   rw [← ho]
   have HO:=Lib.hid ho
   have f6:Fr noB w5 (w5.alloc (codR.o (o.getD zRwW))):=(Fr.refl noB w5).alloc _
   have b6:=Cod.bxd_new (C:=codR) w5 (o.getD zRwW)
   have F6:=Lib.hid (f5.step0 f6)
   clear ho f5 f6 qn cs
   generalize w5.alloc (codR.o (o.getD zRwW)) = w6 at b6 F6 ⊢
   generalize w5.heap.size = D2 at b6 ⊢
   cases o with
   | none =>
    have bB:=Cod.bxd_fr0 HBX.out F6.out
    have bR:=Cod.bxd_fr0 BR.out F6.out
    have rB:=Cod.bxd_rd bB
    have hst:=okR.stR_box bR a
    obtain ⟨p1,p2,p3⟩:=Cod.put_fr bR a
    have PP:=Lib.hid (And.intro p1 p3)
    clear p1 p2 p3 bB bR
    go_wp2_with fail
    refine bodyPost_ret (ret_row_tmp okR rfl _ _ R _ (by rfl) PP.out.2) rfl ?_
    refine ⟨?_,(FF.out.step0 F6.out).step1 PP.out.1 HER.out⟩
    have e:walkM rs zRwW l = (a,k):=by
     rw [HWK.out,HDR.out]
     unfold walkM
     rw [← HO.out]
     simp
    rw [e]
    rfl
   | some r =>
    have rD:=Cod.bxd_rd b6
    have bB:=Cod.bxd_fr0 HBX.out F6.out
    have hst:=okR.stR_box bB r
    obtain ⟨p1,p2,p3⟩:=Cod.put_fr bB r
    have PP:=Lib.hid (And.intro p1 p3)
    clear p1 p2 p3 bB
    simp only [Option.getD_some] at rD
    go_wp2_with fail
    go_roundg (l.length - (k + 1))
    case measure=>have:=HKK.out;omega
    case rel =>
     refine ⟨k + 1,r,by first | (simp;done) | exact congrArg (Value.int .i64) (IntWalk.wrap64_in _ (by have:=HKK.out;have:=HLB.out;omega)),rfl,HKK.out,PP.out.2,?_,(HF.out.step0 F6.out).trans PP.out.1 (fun _ _ h=>h)⟩
     rw [HWK.out,HDR.out]
     conv=>lhs;unfold walkM
     rw [← HO.out]
     simp only
     rw [Nat.add_assoc,Nat.add_comm 1 k]
  ·have i1:¬ (k:Int) < (l.length:Int):=by omega
   have hke:k = l.length:=by omega
   have rB:=Cod.bxd_rd hbx
   have bR:=BR.out
   have hst:=okR.stR_box bR a
   obtain ⟨p1,p2,p3⟩:=Cod.put_fr bR a
   have PP:=Lib.hid (And.intro p1 p3)
   have HKE:=Lib.hid hke
   clear p1 p2 p3 bR hbx hwk hke hk
   go_wp2_with fail
   refine bodyPost_ret (ret_row_tmp okR rfl _ _ R _ (by rfl) PP.out.2) rfl ?_
   refine ⟨?_,FF.out.step1 PP.out.1 HER.out⟩
   have e:walkM rs zRwW l = (a,l.length):=by
    rw [HWK.out,HKE.out,List.drop_length]
    unfold walkM
    simp
   rw [e]
   rfl
theorem index_none {p:List UInt8} (h:(47:UInt8) ∉ p):Lib.index p [47] = -1:=by
 induction p with
 | nil=>rfl
 | cons b l ih =>
  have hb:((47:UInt8) == b) = false:=by
   rw [beq_eq_false_iff_ne]
   intro e
   exact h (by rw [e];simp)
  unfold Lib.index
  rw [if_neg (by simp [List.isPrefixOf,hb]),ih (fun hm=>h (List.mem_cons_of_mem _ hm))]
  rfl
theorem index_at {x m:List UInt8} (h:(47:UInt8) ∉ x):Lib.index (x ++ 47 :: m) [47] = x.length:=by
 induction x with
 | nil =>
  show Lib.index (47 :: m) [47] = 0
  unfold Lib.index
  rw [if_pos (by simp [List.isPrefixOf])]
 | cons b x ih =>
  have hb:((47:UInt8) == b) = false:=by
   rw [beq_eq_false_iff_ne]
   intro e
   exact h (by rw [e];simp)
  have ih:=ih (fun hm=>h (List.mem_cons_of_mem _ hm))
  show Lib.index (b :: (x ++ 47 :: m)) [47] = _
  unfold Lib.index
  rw [if_neg (by simp [List.isPrefixOf,hb]),ih,if_neg (by
   intro e
   have:=beq_iff_eq.1 e
   omega)]
  simp
theorem split_k:∀ (n:Nat) (p:List UInt8),p.length ≤ n → Lib.splitK [47] 0 (Lib.count p [47]) p = splitD p ∧ Lib.count p [47] + 1 = (splitD p).length
 | n,p,hn=>by
  by_cases hm:(47:UInt8) ∈ p
  ·obtain ⟨x,m,e,hx⟩:=List.eq_append_cons_of_mem hm
   have hi:=index_at (m:=m) hx
   rw [← e] at hi
   have hc:=Lib.count_hit (s:=p) (sub:=[47]) (by simp) hi
   have hd:p.drop (x.length + [(47:UInt8)].length) = m:=by rw [e];simp
   rw [hd] at hc
   cases n with
   | zero=>rw [e] at hn;simp at hn
   | succ n =>
    obtain ⟨h1,h2⟩:=split_k n m (by rw [e] at hn;simp at hn;omega)
    have hs:splitD p = x :: splitD m:=by rw [e];exact split_more hx
    rw [hs,hc,Nat.add_comm 1]
    refine ⟨?_,by rw [List.length_cons,← h2]⟩
    have hne:¬ (Lib.index p [47] == -1) = true:=fun e'=>by
     have:=beq_iff_eq.1 e'
     omega
    conv=>lhs;unfold Lib.splitK
    rw [if_neg hne,hi]
    have e1:((x.length:Int)).toNat + 0 = x.length:=by simp
    have e2:((x.length:Int)).toNat + [(47:UInt8)].length = x.length + [(47:UInt8)].length:=by simp
    rw [e1,e2,hd,h1,e]
    simp
  ·have hi:=index_none hm
   have hc:Lib.count p [47] = 0:=Lib.count_miss hi
   rw [hc,split_one hm]
   exact ⟨rfl,rfl⟩
theorem splitB_str (p:List UInt8):(Lib.splitB ⟨#[47]⟩ 0 (Lib.countB (str p) ⟨#[47]⟩) (str p)).map Value.string = nmsV (splitD p) ∧ Lib.countB (str p) ⟨#[47]⟩ + 1 = (splitD p).length:=by
 obtain ⟨h1,h2⟩:=split_k p.length p (Nat.le_refl _)
 refine ⟨?_,h2⟩
 have h3:=Lib.splitB_data ⟨#[47]⟩ 0 (Lib.count p [47]) (str p)
 have h4:(Lib.splitB ⟨#[47]⟩ 0 (Lib.count p [47]) (str p)).map (·.data.toList) = splitD p:=h3.trans h1
 show (Lib.splitB ⟨#[47]⟩ 0 (Lib.count p [47]) (str p)).map Value.string = _
 unfold nmsV
 rw [← h4,List.map_map]
 refine List.map_congr_left fun s _=>?_
 show Value.string s = Value.string (str s.data.toList)
 congr 1
structure HasMW (w:World):Prop where
 ex:∃ m,w.cell? ⟨0,0,none⟩ = some (.int .i64 m)
 lt:0 < w.heap.size
theorem HasMW.fr {w w':World} (h:HasMW w) (f:Fr noB w w'):HasMW w':=by
 obtain ⟨⟨m,hm⟩,hl⟩:=h
 exact ⟨⟨m,(World.cell?_of_block (a:=⟨0,0,none⟩) (f.block 0 hl (by simp [noB]))).trans hm⟩,Nat.lt_of_lt_of_le hl f.size⟩
def SpTo (w:World) (p:List UInt8) (e:Ending) (w':World):Prop:=∃ A c,e = .returned (.slice A (splitD p).length c) ∧ ((splitD p).length ≤ c ∧ Off A (fun b=>w.heap.size ≤ b)) ∧ Sl w' A (nmsV (splitD p)) ∧ Fr noB w w'
theorem split_any (w:World) (h:HasMW w) (p:List UInt8) (hp:p.length < 4294967281):Calls Tryz.prog 68 #[.string (str p),.string ⟨#[47]⟩] w (SpTo w p):=by
 obtain ⟨m,hm⟩:=h.ex
 refine (Tryz.strings_Split (str p) ⟨#[47]⟩ m w hp hm (by decide)).mono fun e w' ⟨h1,h2⟩=>?_
 obtain ⟨e1,e2⟩:=splitB_str p
 rw [e1] at h2
 rw [e2] at h1
 subst h2
 exact ⟨_,_,h1,⟨Nat.le_refl _,fun a e=>by injection e with e;subst e;exact Nat.le_refl _⟩,Sl.new w 9 _,(Fr.refl noB w).alloc _⟩
theorem names1_any (w:World) (l:List UInt8) (hl:l.length ≤ 140737488355328):Calls Tryz.prog 69 #[.string (str l)] w (Gives w (.bool (!nameOk l))):=by
 have HN:=Lib.hid (name_any w l hl)
 go_enter Tryz.func69,Tryz.ntmps69
 go_wp2_with (go_at_call 70;refine HN.out.mono ?_;rintro e w2 ⟨rfl,f2⟩)
 go_ret
 exact ⟨rfl,f2⟩
end Go.Proofs.YthehiobacjjakaaGreatDoor
