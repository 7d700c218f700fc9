/- Contract of work: kid; a draft in memory. (rdI, ex_ldS_at) Contract of work: walk. (rdI, ex_ldS_at) Contract of work: names. Contract of work: names; slices.ContainsFunc at strings. Contracts of work: Next, Find. Contract of work: room. (ex_ldS_at ex_bldS2_at) -/
import Derived.Test.YthehiobacjjakaaGreatDoorWkCKp
import Derived.Test.YthehiobacjjakaaGreatDoorFrameOKp
import Derived.Test.YthehiobacjjakaaGreatDoorRightCKp
import Derived.Lib.Split
import Derived.Test.YthehiobacjjakaaGreatDoorQFrKp
set_option linter.unusedVariables false
set_option linter.unusedSimpArgs false
namespace Go.Proofs.YthehiobacjjakaaGreatDoor
open Go.RowKit Go.Maps Go.Sort
structure DfW where
 A:Option Addr
 n:Nat
 c:Nat
 next:St
def csDf (x:DfW):List Value:=[.slice x.A x.n x.c,.int .i64 x.next.T,.int .i64 x.next.R]
def zDfW:DfW:=⟨none,0,0,zSt⟩
def codDf:Cod DfW:=⟨68,3,csDf,zDfW,fun x=>rfl,by decide,fun x u hu=>by
  simp only [csDf,List.mem_cons,List.not_mem_nil,or_false] at hu
  rcases hu with rfl | rfl | rfl <;> rfl,fun x y h=>by
 obtain ⟨A,n,c,⟨t,r⟩⟩:=x;obtain ⟨A',n',c',⟨t',r'⟩⟩:=y
 simp only [csDf,List.cons.injEq,Value.slice.injEq,Value.int.injEq,and_true,true_and] at h
 obtain ⟨⟨rfl,h1,h2⟩,rfl,rfl⟩:=h
 have e1:n = n':=by omega
 have e2:c = c':=by omega
 subst e1 e2
 rfl⟩
structure DfAt (w:World) (P:Nat) (d:DfW):Prop where
 rows:w.cell? ⟨P,0,none⟩ = some (.slice d.A d.n d.c)
 T:w.cell? ⟨P,1,none⟩ = some (.int .i64 d.next.T)
 R:w.cell? ⟨P,2,none⟩ = some (.int .i64 d.next.R)
 next:codS.rd w P 1 = some d.next
theorem dfAt {w:World} {P:Nat} {d:DfW} (h:codDf.bxd w P = some d):DfAt w P d:=by
 have h0:=Cod.bxd_rd h
 exact ⟨by simpa using Cod.rd_cell h0 0 (v:=.slice d.A d.n d.c) rfl,by simpa using Cod.rd_cell h0 1 (v:=.int .i64 d.next.T) rfl,by simpa using Cod.rd_cell h0 2 (v:=.int .i64 d.next.R) rfl,by simpa using Cod.rd_part (C':=codS) (y:=d.next) h0 1 (get2 _ _ 1 rfl rfl)⟩
/-! the first that is shown by a name -/
def kidFromM (us:List RwW) (nm:List UInt8):Nat → List RwW → Option RwW
 | _,[]=>none
 | i,r :: l=>if shownM us i r = nm then some r else kidFromM us nm (i + 1) l
def kidM (rs:List RwW) (p:St) (nm:List UInt8):Option RwW:=kidFromM (kidsM rs p) nm 0 (kidsM rs p)
theorem kidFromM_hit {us:List RwW} {nm:List UInt8}:∀ (l:List RwW) (i k:Nat) (hk:k < l.length),(∀ j (h:j < l.length),j < k → shownM us (i + j) l[j] ≠ nm) → shownM us (i + k) l[k] = nm → kidFromM us nm i l = some l[k]
 | r :: l,i,0,_,_,e=>by
  unfold kidFromM
  rw [if_pos (by simpa using e)]
  rfl
 | r :: l,i,k + 1,hk,h,e=>by
  unfold kidFromM
  rw [if_neg (show ¬ shownM us i r = nm from h 0 (by simp) (by omega))]
  exact kidFromM_hit l (i + 1) k (by simpa using hk) (fun j hj hjk=>by
   have:=h (j + 1) (by simpa using hj) (by omega)
   rw [show i + 1 + j = i + (j + 1) by omega]
   simpa using this) (by rw [show i + 1 + k = i + (k + 1) by omega];simpa using e)
theorem kidFromM_none {us:List RwW} {nm:List UInt8}:∀ (l:List RwW) (i:Nat),(∀ j (h:j < l.length),shownM us (i + j) l[j] ≠ nm) → kidFromM us nm i l = none
 | [],i,_=>rfl
 | r :: l,i,h=>by
  unfold kidFromM
  rw [if_neg (show ¬ shownM us i r = nm from h 0 (by simp))]
  exact kidFromM_none l (i + 1) (fun j hj=>by
   have:=h (j + 1) (by simpa using hj)
   rw [show i + 1 + j = i + (j + 1) by omega]
   simpa using this)
def KdTo (w:World) (o:Option RwW) (e:Ending) (w':World):Prop:=e = .returned (.tuple #[.agg (codR.A (o.getD zRwW)),.bool o.isSome]) ∧ Fr noB w w'
def RowsOk (rs:List RwW):Prop:=∀ r ∈ rs,wfS r.Node = true ∧ r.Name.length ≤ 140737488355328
theorem RowsOk.kids {rs:List RwW} (h:RowsOk rs) (p:St):RowsOk (kidsM rs p):=fun r hr=>h r (List.mem_filter.1 hr).1
set_option maxRecDepth 100000 in
set_option maxHeartbeats 4000000 in
theorem kid_any (w:World) (P:Nat) (d:DfW) (hP:codDf.bxd w P = some d) (rs:List RwW) (hn:rs.length = d.n) (hs:Sl w d.A (codR.row rs)) (hb:rs.length ≤ 1000000) (hok:RowsOk rs) (hT:HasT w) (p:St) (nm:List UInt8) :
  Calls Tryz.prog 58 #[.pointer (some ⟨P,0,none⟩),.agg (codS.A p),.string (str nm)] w (KdTo w (kidM rs p nm)):=by
 have f0:Fr noB w ((w.alloc (.cells (codS.A p) 24)).alloc (codR.o zRwW)):=((Fr.refl noB w).alloc _).alloc _
 have z0:(w.alloc (.cells (codS.A p) 24)).heap.size = w.heap.size + 1:=by simp
 have q0:codS.rd ((w.alloc (.cells (codS.A p) 24)).alloc (codR.o zRwW)) w.heap.size 0 = some p:=Cod.rd_fr0 (Cod.rd_new (C:=codS) w 24 p) ((Fr.refl noB _).alloc (codR.o zRwW))
 have b0:=Cod.bxd_new (C:=codR) (w.alloc (.cells (codS.A p) 24)) zRwW
 rw [z0] at b0
 have r0:=(dfAt (Cod.bxd_fr0 hP f0)).rows
 have HSL:=Lib.hid hs
 have HB:=Lib.hid hb
 have HOK:=Lib.hid hok
 have HT:=Lib.hid hT
 have HNN:=Lib.hid hn
 clear hs hb hok hT z0 hP hn
 go_enter Tryz.func58,Tryz.ntmps58
 go_upto_region 1 with fail
 generalize (w.alloc (.cells (codS.A p) 24)).alloc (codR.o zRwW) = w0 at f0 q0 b0 r0 ⊢
 obtain ⟨B,eB⟩:∃ B,B = w.heap.size + 1:=⟨_,rfl⟩
 rw [← eB] at b0 ⊢
 have HEB:=Lib.hid (show w.heap.size ≤ B by omega)
 clear eB
 generalize w.heap.size = Q at q0 ⊢
 have F0:=Lib.hid f0
 have B0:=Lib.hid b0
 have fd:Fr noB w0 w0.drew:=(Fr.refl noB w0).drew
 have hF0:w0.drew.cell? ⟨P,0,none⟩ = some (.slice d.A d.n d.c) ∧ codS.rd w0.drew Q 0 = some p:=⟨cell_fr0 r0 fd,Cod.rd_fr0 q0 fd⟩
 have FD:=Lib.hid fd
 clear r0 q0 fd f0 b0
 refine wp_region_M 6 7 [⟨2048,1,0⟩,⟨4096,2048,1⟩,⟨8192,4096,2⟩,⟨16384,8192,4⟩,⟨32768,16,0⟩,⟨65536,49152,24⟩,⟨256,65536,63⟩] [(true,0),(true,1),(true,2),(true,3),(true,4),(false,5)] (fun w'=>w'.cell? ⟨P,0,none⟩ = some (.slice d.A d.n d.c) ∧ codS.rd w' Q 0 = some p) (by kernel_rfl) rfl (by kernel_rfl) (by kernel_rfl) (by kernel_rfl) hF0 (fun hA hF=>?_)
 clear hF0
 generalize w0.drew = V at FD hF ⊢
 iterate 5
  refine wpAnyS_take (v:=?_) hA rfl (fun _ _ _ h=>h) (Or.inl ⟨by rfl,?_⟩) hF (fun hA=>?_)
  rotate_left
  ·intro wS hSw;(try dsimp only at hSw);obtain ⟨s1,s2⟩:=hSw;first | (apply Eq.trans;apply ex_ld_id;exact rfl;exact rfl;assumption;with_reducible rfl) | (apply Eq.trans;apply ex_ldS_at;exact rfl;exact rfl;assumption;with_reducible rfl) | (go_simp;try with_reducible rfl)
  try simp only [sA1,sA2,sA3,Act.put,sA4,sA5,sA6]
 refine wpAnyS_one hA rfl (fun K' hK=>?_)
 go_simp
 go_at_call 71
 refine (kids_any V d.A d.c d.n rs HNN.out (HSL.out.fr0 (F0.out.step0 FD.out)) HB.out p).mono ?_
 rintro e w1 ⟨A1,c1,rfl,o1,f1⟩
 replace hF:=And.intro (cell_fr0 hF.1 f1) (Cod.rd_fr0 hF.2 f1)
 refine hK.out _ _ hF (fun hA=>?_)
 clear hK K'
 try simp only [sA1,sA2,sA3,Act.put,sA4,sA5,sA6]
 refine wpAnyS_end hA rfl ?_
 simp only [List.drop_succ_cons,List.drop_zero]
 clear hF
 have HKM:=Lib.hid (show kidM rs p nm = kidFromM (kidsM rs p) nm 0 (kidsM rs p) from rfl)
 have HOKK:=Lib.hid (HOK.out.kids p)
 have HKL:=Lib.hid (Nat.le_trans (kidsM_len rs p) HB.out)
 have hcap:(kidsM rs p).length ≤ c1 ∨ True:=.inr trivial
 generalize kidsM rs p = us at o1 HKM HOKK HKL ⊢
 have HO:=Lib.hid o1
 have HSU:=Lib.hid (Sl.own o1)
 have F1:=Lib.hid (FD.out.step0 f1)
 have HCC:=Lib.hid (show us.length ≤ c1 from (own_cap o1))
 clear o1 f1 hcap
 go_wp2_with fail
 go_loopg [19] us.length (fun gk iv wr=>∃ k:Nat,iv = .int .i64 (k:Int) ∧ gk = us.length - k ∧ k ≤ us.length ∧ (∀ j (h:j < us.length),j < k → shownM us j us[j] ≠ nm) ∧ Fr noB w1 wr)
 case atStart=>exact ⟨0,rfl,by omega,by omega,fun j h hj=>by omega,Fr.refl _ _⟩
 case round =>
  obtain ⟨k,rfl,rfl,hk,hno,hf⟩:=hrel
  by_cases hlt:k < us.length
  ·have i1:(k:Int) < (us.length:Int):=by omega
   have i0:(0:Int) ≤ (k:Int):=by omega
   obtain ⟨g,off,rfl,hg⟩:=Sl.addr HSU.out (by omega)
   have ro:codR.rd wr g (off + k * 8) = some us[k]:=Cod.rd_fr0 (Sl.rd HSU.out k hlt) hf
   have hww:=HOKK.out _ (List.getElem_mem hlt)
   obtain ⟨s,hs⟩:∃ s,s = shownM us k us[k]:=⟨_,rfl⟩
   have SH:∀ w',Fr noB wr w' → Calls Tryz.prog 72 #[.slice (some ⟨g,off,none⟩) us.length c1,.int .i64 (k:Int)] w' (Gives w' (.string (str s))):=fun w' f=>by
    rw [hs]
    exact shown_any w' (some ⟨g,off,none⟩) c1 us.length us rfl ((HSU.out.fr0 hf).fr0 f) HCC.out HKL.out k hlt (HT.out.fr ((F0.out.step0 F1.out).step0 (hf.step0 f))) hww.1 hww.2
   replace SH:=Lib.hid SH
   have hit:s = nm → kidFromM us nm 0 us = some us[k]:=fun e=>kidFromM_hit (us:=us) us 0 k hlt (fun j h hj=>by rw [Nat.zero_add];exact hno j h hj) (by rw [Nat.zero_add];exact hs.symm.trans e)
   have HST2:=Lib.hid (show s ≠ nm → ∀ j (h:j < us.length),j < k + 1 → shownM us j us[j] ≠ nm from fun hsn j h hj=>by
    rcases Nat.lt_or_ge j k with h1 | h1
    ·exact hno j h h1
    ·have e:j = k:=by omega
     subst e
     exact fun h'=>hsn (hs.trans h'))
   have HKK:=Lib.hid hlt
   generalize us[k] = r at ro hit
   have HIT:=Lib.hid hit
   clear hs hww hg hno hit hk hlt
   go_upto_region 5 with fail
   have f12:Fr noB wr (wr.alloc (codR.o r)):=(Fr.refl noB wr).alloc _
   have b12:=Cod.bxd_rd (Cod.bxd_new (C:=codR) wr r)
   have F12:=Lib.hid f12
   have F12h:=Lib.hid (hf.step0 f12)
   clear ro f12 hf
   generalize wr.alloc (codR.o r) = W1 at b12 F12 F12h ⊢
   generalize wr.heap.size = D2 at b12 ⊢
   by_cases he:s = nm
   ·have hdec:decide (s = nm) = true:=by simp [he]
    have HE:=Lib.hid (HIT.out he)
    clear he
    go_upto_region 6 with (go_at_call 72;refine (SH.out W1 F12.out).mono ?_;rintro e w5 ⟨rfl,f5⟩)
    have b13:=Cod.rd_fr0 b12 f5
    have bB:=Cod.bxd_fr0 B0.out (F1.out.step0 (F12h.out.step0 f5))
    have hst:=okR.stR_box bB r
    obtain ⟨p1,p2,p3⟩:=Cod.put_fr bB r
    have PP:=Lib.hid (And.intro p1 p3)
    clear p1 p2 p3 bB
    go_wp2_with fail
    refine bodyPost_ret (ret_row_tmp okR rfl _ _ B _ (by rfl) PP.out.2) rfl ?_
    exact ⟨by rw [HKM.out,HE.out];rfl,(F0.out.step0 (F1.out.step0 (F12h.out.step0 f5))).step1 PP.out.1 HEB.out⟩
   ·have hdec:decide (s = nm) = false:=by simp [he]
    have HE:=Lib.hid (HST2.out he)
    clear he
    go_wp2_with (go_at_call 72;refine (SH.out W1 F12.out).mono ?_;rintro e w5 ⟨rfl,f5⟩)
    go_roundg (us.length - (k + 1))
    case measure=>have:=HKK.out;omega
    case rel=>exact ⟨k + 1,by first | (simp;done) | exact congrArg (Value.int .i64) (IntWalk.wrap64_in _ (by have:=HKK.out;have:=HKL.out;omega)),rfl,HKK.out,HE.out,F12h.out.step0 f5⟩
  ·have i1:¬ (k:Int) < (us.length:Int):=by omega
   have hno2:∀ j (h:j < us.length),shownM us (0 + j) us[j] ≠ nm:=fun j h=>by rw [Nat.zero_add];exact hno j h (by omega)
   have HE:=Lib.hid (kidFromM_none us 0 hno2)
   clear hno2 hno
   have bB:=Cod.bxd_fr0 B0.out (F1.out.step0 hf)
   have hst:=okR.stR_box bB zRwW
   obtain ⟨p1,p2,p3⟩:=Cod.put_fr bB zRwW
   have PP:=Lib.hid (And.intro p1 p3)
   clear p1 p2 p3 bB
   go_wp2_with fail
   refine bodyPost_ret (ret_row_tmp okR rfl _ _ B _ (by rfl) PP.out.2) rfl ?_
   exact ⟨by rw [HKM.out,HE.out];rfl,(F0.out.step0 (F1.out.step0 hf)).step1 PP.out.1 HEB.out⟩
def nmsV (l:List (List UInt8)):List Value:=l.map fun s=>.string (str s)
theorem nmsV_len (l:List (List UInt8)):(nmsV l).length = l.length:=by simp [nmsV]
def walkM (rs:List RwW):RwW → List (List UInt8) → RwW × Nat
 | a,[]=>(a,0)
 | a,nm :: l=>match kidM rs a.Node nm with
  | none=>(a,0)
  | some r=>((walkM rs r l).1,(walkM rs r l).2 + 1)
def WkTo (w:World) (o:RwW × Nat) (e:Ending) (w':World):Prop:=e = .returned (.tuple #[.agg (codR.A o.1),.int .i64 (o.2:Int)]) ∧ Fr noB w w'
def WkR (w1:World) (B:Nat) (rs:List RwW) (l:List (List UInt8)) (gk:Nat) (iv:Value) (wr:World):Prop :=
 ∃ (k:Nat) (a:RwW),iv = .int .i64 (k:Int) ∧ gk = l.length - k ∧ k ≤ l.length ∧ codR.bxd wr B = some a ∧ walkM rs zRwW l = ((walkM rs a (l.drop k)).1,(walkM rs a (l.drop k)).2 + k) ∧ Fr (oneB B) w1 wr
set_option maxRecDepth 100000 in
set_option maxHeartbeats 4000000 in
theorem walk_any (w:World) (P:Nat) (d:DfW) (hP:codDf.bxd w P = some d) (rs:List RwW) (hn:rs.length = d.n) (hs:Sl w d.A (codR.row rs)) (hb:rs.length ≤ 1000000) (hok:RowsOk rs) (hT:HasT w) (A:Option Addr) (c n:Nat) (l:List (List UInt8)) (hl:l.length = n) (hsl:Sl w A (nmsV l)) (hlb:l.length ≤ 100000000000000) :
  Calls Tryz.prog 39 #[.pointer (some ⟨P,0,none⟩),.slice A n c] w (WkTo w (walkM rs zRwW l)):=by
 subst hl
 have HPP:=Lib.hid hP
 have HSL:=Lib.hid hs
 have HB:=Lib.hid hb
 have HOK:=Lib.hid hok
 have HT:=Lib.hid hT
 have HNN:=Lib.hid hn
 have HSS:=Lib.hid hsl
 have HLB:=Lib.hid hlb
 clear hs hb hok hT hP hn hsl hlb
 go_enter Tryz.func39,Tryz.ntmps39
 go_upto_region 1 with fail
 have f0:Fr noB w (w.alloc (codR.o zRwW)):=(Fr.refl noB w).alloc _
 have b0:=Cod.bxd_new (C:=codR) w zRwW
 generalize w.alloc (codR.o zRwW) = w0 at f0 b0 ⊢
 obtain ⟨R,eR⟩:∃ R,R = w.heap.size:=⟨_,rfl⟩
 rw [← eR] at b0 ⊢
 have HER:=Lib.hid (show w.heap.size ≤ R by omega)
 clear eR
 go_upto_region 2 with fail
 have f1:Fr noB w0 (w0.alloc (codR.o zRwW)):=(Fr.refl noB w0).alloc _
 have b1:=Cod.bxd_new (C:=codR) w0 zRwW
 have hlt0:=Cod.bxd_lt b0
 have B0:=Lib.hid (Cod.bxd_fr0 b0 f1)
 have F0:=Lib.hid (f0.step0 f1)
 have HZ:=Lib.hid (show w.heap.size ≤ w0.heap.size from f0.size)
 generalize w0.alloc (codR.o zRwW) = w1 at b1 B0 F0 ⊢
 obtain ⟨B,eB⟩:∃ B,B = w0.heap.size:=⟨_,rfl⟩
 rw [← eB] at b1 ⊢
 have HEB:=Lib.hid (show w.heap.size ≤ B ∧ R < B by have:=HZ.out;omega)
 have B1:=Lib.hid b1
 clear eB b0 b1 f0 f1 hlt0
 go_wp2_with fail
 go_loopg [13] l.length (fun gk iv wr=>WkR w1 B rs l gk iv wr)
 case atStart=>exact ⟨0,zRwW,rfl,by omega,by omega,B1.out,by simp,Fr.refl _ _⟩
 case round =>
  obtain ⟨k,a,rfl,rfl,hk,hbx,hwk,hf⟩:=hrel
  have FF:=Lib.hid (F0.out.step1 hf HEB.out.1)
  have hfR:=Cod.bxd_fr B0.out hf (show ¬ R = B by have:=HEB.out.2;omega)
  have BR:=Lib.hid hfR
  have HF:=Lib.hid hf
  have HBX:=Lib.hid hbx
  have HWK:=Lib.hid hwk
  clear hfR hf
  by_cases hlt:k < l.length
  ·have i1:(k:Int) < (l.length:Int):=by omega
   have i0:(0:Int) ≤ (k:Int):=by omega
   have hsl:=HSS.out.fr0 FF.out
   obtain ⟨g,off,rfl,hg,hcell⟩:=hsl (by intro e;have h0:=congrArg List.length e;rw [nmsV_len] at h0;have h1:l.length = 0:=h0;omega)
   have cs:=hcell k (.string (str l[k])) (by unfold nmsV;rw [List.getElem?_map,List.getElem?_eq_getElem hlt];rfl)
   have hdr:l.drop k = l[k] :: l.drop (k + 1):=List.drop_eq_getElem_cons hlt
   have HDR:=Lib.hid hdr
   have qn:=(rwAt (Cod.bxd_rd hbx)).node
   generalize l[k] = nm at cs HDR
   have HKK:=Lib.hid hlt
   have KD:=Lib.hid (kid_any wr P d (Cod.bxd_fr0 HPP.out FF.out) rs HNN.out (HSL.out.fr0 FF.out) HB.out HOK.out (HT.out.fr FF.out) a.Node nm)
   clear hsl hg hcell hdr hbx hwk hk hlt
   go_upto_region 6 with (go_at_call 58;refine KD.out.mono ?_;rintro e w5 ⟨rfl,f5⟩)
   obtain ⟨o,ho⟩:∃ o,o = kidM rs a.Node nm:=⟨_,rfl⟩
   rw [← ho]
   have HO:=Lib.hid ho
   have f6:Fr noB w5 (w5.alloc (codR.o (o.getD zRwW))):=(Fr.refl noB w5).alloc _
   have b6:=Cod.bxd_new (C:=codR) w5 (o.getD zRwW)
   have F6:=Lib.hid (f5.step0 f6)
   clear ho f5 f6 qn cs
   generalize w5.alloc (codR.o (o.getD zRwW)) = w6 at b6 F6 ⊢
   generalize w5.heap.size = D2 at b6 ⊢
   cases o with
   | none =>
    have bB:=Cod.bxd_fr0 HBX.out F6.out
    have bR:=Cod.bxd_fr0 BR.out F6.out
    have rB:=Cod.bxd_rd bB
    have hst:=okR.stR_box bR a
    obtain ⟨p1,p2,p3⟩:=Cod.put_fr bR a
    have PP:=Lib.hid (And.intro p1 p3)
    clear p1 p2 p3 bB bR
    go_wp2_with fail
    refine bodyPost_ret (ret_row_tmp okR rfl _ _ R _ (by rfl) PP.out.2) rfl ?_
    refine ⟨?_,(FF.out.step0 F6.out).step1 PP.out.1 HER.out⟩
    have e:walkM rs zRwW l = (a,k):=by
     rw [HWK.out,HDR.out]
     unfold walkM
     rw [← HO.out]
     simp
    rw [e]
    rfl
   | some r =>
    have rD:=Cod.bxd_rd b6
    have bB:=Cod.bxd_fr0 HBX.out F6.out
    have hst:=okR.stR_box bB r
    obtain ⟨p1,p2,p3⟩:=Cod.put_fr bB r
    have PP:=Lib.hid (And.intro p1 p3)
    clear p1 p2 p3 bB
    simp only [Option.getD_some] at rD
    go_wp2_with fail
    go_roundg (l.length - (k + 1))
    case measure=>have:=HKK.out;omega
    case rel =>
     refine ⟨k + 1,r,by first | (simp;done) | exact congrArg (Value.int .i64) (IntWalk.wrap64_in _ (by have:=HKK.out;have:=HLB.out;omega)),rfl,HKK.out,PP.out.2,?_,(HF.out.step0 F6.out).trans PP.out.1 (fun _ _ h=>h)⟩
     rw [HWK.out,HDR.out]
     conv=>lhs;unfold walkM
     rw [← HO.out]
     simp only
     rw [Nat.add_assoc,Nat.add_comm 1 k]
  ·have i1:¬ (k:Int) < (l.length:Int):=by omega
   have hke:k = l.length:=by omega
   have rB:=Cod.bxd_rd hbx
   have bR:=BR.out
   have hst:=okR.stR_box bR a
   obtain ⟨p1,p2,p3⟩:=Cod.put_fr bR a
   have PP:=Lib.hid (And.intro p1 p3)
   have HKE:=Lib.hid hke
   clear p1 p2 p3 bR hbx hwk hke hk
   go_wp2_with fail
   refine bodyPost_ret (ret_row_tmp okR rfl _ _ R _ (by rfl) PP.out.2) rfl ?_
   refine ⟨?_,FF.out.step1 PP.out.1 HER.out⟩
   have e:walkM rs zRwW l = (a,l.length):=by
    rw [HWK.out,HKE.out,List.drop_length]
    unfold walkM
    simp
   rw [e]
   rfl
theorem index_none {p:List UInt8} (h:(47:UInt8) ∉ p):Lib.index p [47] = -1:=by
 induction p with
 | nil=>rfl
 | cons b l ih =>
  have hb:((47:UInt8) == b) = false:=by
   rw [beq_eq_false_iff_ne]
   intro e
   exact h (by rw [e];simp)
  unfold Lib.index
  rw [if_neg (by simp [List.isPrefixOf,hb]),ih (fun hm=>h (List.mem_cons_of_mem _ hm))]
  rfl
theorem index_at {x m:List UInt8} (h:(47:UInt8) ∉ x):Lib.index (x ++ 47 :: m) [47] = x.length:=by
 induction x with
 | nil =>
  show Lib.index (47 :: m) [47] = 0
  unfold Lib.index
  rw [if_pos (by simp [List.isPrefixOf])]
 | cons b x ih =>
  have hb:((47:UInt8) == b) = false:=by
   rw [beq_eq_false_iff_ne]
   intro e
   exact h (by rw [e];simp)
  have ih:=ih (fun hm=>h (List.mem_cons_of_mem _ hm))
  show Lib.index (b :: (x ++ 47 :: m)) [47] = _
  unfold Lib.index
  rw [if_neg (by simp [List.isPrefixOf,hb]),ih,if_neg (by
   intro e
   have:=beq_iff_eq.1 e
   omega)]
  simp
theorem split_k:∀ (n:Nat) (p:List UInt8),p.length ≤ n → Lib.splitK [47] 0 (Lib.count p [47]) p = splitD p ∧ Lib.count p [47] + 1 = (splitD p).length
 | n,p,hn=>by
  by_cases hm:(47:UInt8) ∈ p
  ·obtain ⟨x,m,e,hx⟩:=List.eq_append_cons_of_mem hm
   have hi:=index_at (m:=m) hx
   rw [← e] at hi
   have hc:=Lib.count_hit (s:=p) (sub:=[47]) (by simp) hi
   have hd:p.drop (x.length + [(47:UInt8)].length) = m:=by rw [e];simp
   rw [hd] at hc
   cases n with
   | zero=>rw [e] at hn;simp at hn
   | succ n =>
    obtain ⟨h1,h2⟩:=split_k n m (by rw [e] at hn;simp at hn;omega)
    have hs:splitD p = x :: splitD m:=by rw [e];exact split_more hx
    rw [hs,hc,Nat.add_comm 1]
    refine ⟨?_,by rw [List.length_cons,← h2]⟩
    have hne:¬ (Lib.index p [47] == -1) = true:=fun e'=>by
     have:=beq_iff_eq.1 e'
     omega
    conv=>lhs;unfold Lib.splitK
    rw [if_neg hne,hi]
    have e1:((x.length:Int)).toNat + 0 = x.length:=by simp
    have e2:((x.length:Int)).toNat + [(47:UInt8)].length = x.length + [(47:UInt8)].length:=by simp
    rw [e1,e2,hd,h1,e]
    simp
  ·have hi:=index_none hm
   have hc:Lib.count p [47] = 0:=Lib.count_miss hi
   rw [hc,split_one hm]
   exact ⟨rfl,rfl⟩
theorem splitB_str (p:List UInt8):(Lib.splitB ⟨#[47]⟩ 0 (Lib.countB (str p) ⟨#[47]⟩) (str p)).map Value.string = nmsV (splitD p) ∧ Lib.countB (str p) ⟨#[47]⟩ + 1 = (splitD p).length:=by
 obtain ⟨h1,h2⟩:=split_k p.length p (Nat.le_refl _)
 refine ⟨?_,h2⟩
 have h3:=Lib.splitB_data ⟨#[47]⟩ 0 (Lib.count p [47]) (str p)
 have h4:(Lib.splitB ⟨#[47]⟩ 0 (Lib.count p [47]) (str p)).map (·.data.toList) = splitD p:=h3.trans h1
 show (Lib.splitB ⟨#[47]⟩ 0 (Lib.count p [47]) (str p)).map Value.string = _
 unfold nmsV
 rw [← h4,List.map_map]
 refine List.map_congr_left fun s _=>?_
 show Value.string s = Value.string (str s.data.toList)
 congr 1
structure HasMW (w:World):Prop where
 ex:∃ m,w.cell? ⟨0,0,none⟩ = some (.int .i64 m)
 lt:0 < w.heap.size
theorem HasMW.fr {w w':World} (h:HasMW w) (f:Fr noB w w'):HasMW w':=by
 obtain ⟨⟨m,hm⟩,hl⟩:=h
 exact ⟨⟨m,(World.cell?_of_block (a:=⟨0,0,none⟩) (f.block 0 hl (by simp [noB]))).trans hm⟩,Nat.lt_of_lt_of_le hl f.size⟩
def SpTo (w:World) (p:List UInt8) (e:Ending) (w':World):Prop:=∃ A c,e = .returned (.slice A (splitD p).length c) ∧ ((splitD p).length ≤ c ∧ Off A (fun b=>w.heap.size ≤ b)) ∧ Sl w' A (nmsV (splitD p)) ∧ Fr noB w w'
theorem split_any (w:World) (h:HasMW w) (p:List UInt8) (hp:p.length < 4294967281):Calls Tryz.prog 68 #[.string (str p),.string ⟨#[47]⟩] w (SpTo w p):=by
 obtain ⟨m,hm⟩:=h.ex
 refine (Tryz.strings_Split (str p) ⟨#[47]⟩ m w hp hm (by decide)).mono fun e w' ⟨h1,h2⟩=>?_
 obtain ⟨e1,e2⟩:=splitB_str p
 rw [e1] at h2
 rw [e2] at h1
 subst h2
 exact ⟨_,_,h1,⟨Nat.le_refl _,fun a e=>by injection e with e;subst e;exact Nat.le_refl _⟩,Sl.new w 9 _,(Fr.refl noB w).alloc _⟩
theorem names1_any (w:World) (l:List UInt8) (hl:l.length ≤ 140737488355328):Calls Tryz.prog 69 #[.string (str l)] w (Gives w (.bool (!nameOk l))):=by
 have HN:=Lib.hid (name_any w l hl)
 go_enter Tryz.func69,Tryz.ntmps69
 go_wp2_with (go_at_call 70;refine HN.out.mono ?_;rintro e w2 ⟨rfl,f2⟩)
 go_ret
 exact ⟨rfl,f2⟩
theorem nms_cell {w:World} {A:Option Addr} {l:List (List UInt8)} (h:Sl w A (nmsV l)) {k:Nat} (hk:k < l.length):∃ g off,A = some ⟨g,off,none⟩ ∧ w.cell? ⟨g,off + k,none⟩ = some (.string (str l[k])):=by
 obtain ⟨g,off,e,_,hc⟩:=h (by intro e;have h0:=congrArg List.length e;rw [nmsV_len] at h0;have h1:l.length = 0:=h0;omega)
 exact ⟨g,off,e,hc k _ (by unfold nmsV;rw [List.getElem?_map,List.getElem?_eq_getElem hk];rfl)⟩
set_option maxRecDepth 100000 in
set_option maxHeartbeats 1000000 in
theorem contNames_any (w:World) (A:Option Addr) (c n:Nat) (l:List (List UInt8)) (hn:l.length = n) (hs:Sl w A (nmsV l)) (hb:l.length ≤ 140737488355328) (p:List UInt8 → Bool)
  (hf:∀ w',Fr noB w w' → ∀ s ∈ l,Calls Tryz.prog 69 #[.string (str s)] w' (Gives w' (.bool (p s)))) :
  Calls Tryz.prog 51 #[.slice A n c,.func (.func 69) #[] #[]] w (Gives w (.bool (l.any p))):=by
 have key:Calls Tryz.prog 79 #[.slice A n c,.func (.func 69) #[] #[]] w (FiTo w l.length fun i=>if h:i < l.length then p l[i] else false):=by
  subst hn
  go_enter Tryz.func79,Tryz.ntmps79
  go_wp2_with fail
  go_loopg [8] l.length (fun gk iv wr=>IxR w l.length (fun i=>if h:i < l.length then p l[i] else false) gk iv wr)
  case atStart=>exact ⟨0,rfl,by omega,by omega,fun j hj=>absurd hj (by omega),Fr.refl _ _⟩
  case round =>
   obtain ⟨k,rfl,rfl,hk,hj,hf0⟩:=hrel
   have HJ:=Lib.hid hj
   clear hj
   by_cases hlt:k < l.length
   ·have i1:(k:Int) < (l.length:Int):=by omega
    have i0:(0:Int) ≤ (k:Int):=by omega
    obtain ⟨g,off,rfl,e1⟩:=nms_cell (hs.fr0 hf0) hlt
    have hc:=hf wr hf0 _ (List.getElem_mem hlt)
    have hpk:(fun i=>if h:i < l.length then p l[i] else false) k = p l[k]:=by simp [hlt]
    have HPK:=Lib.hid hpk
    clear hpk
    generalize l[k] = x at e1 hc HPK
    by_cases hp:p x = true
    ·rw [hp] at hc
     have HP:=Lib.hid (HPK.out.trans hp)
     clear hp
     go_wp2_with (go_at_call 69;refine hc.mono ?_;rintro e w1 ⟨rfl,f1⟩)
     go_ret
     exact ⟨k,rfl,.inl ⟨k,hlt,rfl,HP.out,HJ.out⟩,hf0.step0 f1⟩
    ·have hp':p x = false:=by simpa using hp
     rw [hp'] at hc
     have HP:=Lib.hid (HPK.out.trans hp')
     clear hp hp'
     go_wp2_with (go_at_call 69;refine hc.mono ?_;rintro e w1 ⟨rfl,f1⟩)
     go_roundg (l.length - (k + 1))
     case measure=>omega
     case rel=>exact ⟨k + 1,by simp,rfl,by omega,fun j hj=>by
      rcases Nat.lt_or_ge j k with h | h
      ·exact HJ.out j h
      ·have:j = k:=by omega
       rw [this];exact HP.out,hf0.step0 f1⟩
   ·have hkl:k = l.length:=by omega
    subst hkl
    have i1:¬ (l.length:Int) < (l.length:Int):=by omega
    go_wp2_with fail
    go_ret
    exact ⟨-1,rfl,.inr ⟨rfl,HJ.out⟩,hf0⟩
 have hany:((List.range l.length).any fun i=>if h:i < l.length then p l[i] else false) = l.any p:=by
  rw [Bool.eq_iff_iff,List.any_eq_true,List.any_eq_true]
  constructor
  ·rintro ⟨i,hi,h⟩
   rw [List.mem_range] at hi
   rw [dif_pos hi] at h
   exact ⟨_,List.getElem_mem hi,h⟩
  ·rintro ⟨x,hx,h⟩
   obtain ⟨i,hi,rfl⟩:=List.getElem_of_mem hx
   exact ⟨i,List.mem_range.2 hi,by rw [dif_pos hi];exact h⟩
 have HA:=Lib.hid hany
 have HK:=Lib.hid key
 clear key hany hf hs hb
 subst hn
 go_enter Tryz.func51,Tryz.ntmps51
 go_wp2_with (go_at_call 79;refine HK.out.mono ?_;rintro e w1 ⟨z,rfl,hz,f1⟩)
 go_ret
 exact ⟨by rw [← HA.out,← fst_any hz];rfl,f1⟩
set_option maxRecDepth 100000 in
set_option maxHeartbeats 1000000 in
theorem contPut_any (w:World) (A:Option Addr) (c n:Nat) (l:List (List UInt8)) (hn:l.length = n) (hs:Sl w A (nmsV l)) (hb:l.length ≤ 140737488355328) (p:List UInt8 → Bool)
  (hf:∀ w',Fr noB w w' → ∀ s ∈ l,Calls Tryz.prog 52 #[.string (str s)] w' (Gives w' (.bool (p s)))) :
  Calls Tryz.prog 51 #[.slice A n c,.func (.func 52) #[] #[]] w (Gives w (.bool (l.any p))):=by
 have key:Calls Tryz.prog 79 #[.slice A n c,.func (.func 52) #[] #[]] w (FiTo w l.length fun i=>if h:i < l.length then p l[i] else false):=by
  subst hn
  go_enter Tryz.func79,Tryz.ntmps79
  go_wp2_with fail
  go_loopg [8] l.length (fun gk iv wr=>IxR w l.length (fun i=>if h:i < l.length then p l[i] else false) gk iv wr)
  case atStart=>exact ⟨0,rfl,by omega,by omega,fun j hj=>absurd hj (by omega),Fr.refl _ _⟩
  case round =>
   obtain ⟨k,rfl,rfl,hk,hj,hf0⟩:=hrel
   have HJ:=Lib.hid hj
   clear hj
   by_cases hlt:k < l.length
   ·have i1:(k:Int) < (l.length:Int):=by omega
    have i0:(0:Int) ≤ (k:Int):=by omega
    obtain ⟨g,off,rfl,e1⟩:=nms_cell (hs.fr0 hf0) hlt
    have hc:=hf wr hf0 _ (List.getElem_mem hlt)
    have hpk:(fun i=>if h:i < l.length then p l[i] else false) k = p l[k]:=by simp [hlt]
    have HPK:=Lib.hid hpk
    clear hpk
    generalize l[k] = x at e1 hc HPK
    by_cases hp:p x = true
    ·rw [hp] at hc
     have HP:=Lib.hid (HPK.out.trans hp)
     clear hp
     go_wp2_with (go_at_call 52;refine hc.mono ?_;rintro e w1 ⟨rfl,f1⟩)
     go_ret
     exact ⟨k,rfl,.inl ⟨k,hlt,rfl,HP.out,HJ.out⟩,hf0.step0 f1⟩
    ·have hp':p x = false:=by simpa using hp
     rw [hp'] at hc
     have HP:=Lib.hid (HPK.out.trans hp')
     clear hp hp'
     go_wp2_with (go_at_call 52;refine hc.mono ?_;rintro e w1 ⟨rfl,f1⟩)
     go_roundg (l.length - (k + 1))
     case measure=>omega
     case rel=>exact ⟨k + 1,by simp,rfl,by omega,fun j hj=>by
      rcases Nat.lt_or_ge j k with h | h
      ·exact HJ.out j h
      ·have:j = k:=by omega
       rw [this];exact HP.out,hf0.step0 f1⟩
   ·have hkl:k = l.length:=by omega
    subst hkl
    have i1:¬ (l.length:Int) < (l.length:Int):=by omega
    go_wp2_with fail
    go_ret
    exact ⟨-1,rfl,.inr ⟨rfl,HJ.out⟩,hf0⟩
 have hany:((List.range l.length).any fun i=>if h:i < l.length then p l[i] else false) = l.any p:=by
  rw [Bool.eq_iff_iff,List.any_eq_true,List.any_eq_true]
  constructor
  ·rintro ⟨i,hi,h⟩
   rw [List.mem_range] at hi
   rw [dif_pos hi] at h
   exact ⟨_,List.getElem_mem hi,h⟩
  ·rintro ⟨x,hx,h⟩
   obtain ⟨i,hi,rfl⟩:=List.getElem_of_mem hx
   exact ⟨i,List.mem_range.2 hi,by rw [dif_pos hi];exact h⟩
 have HA:=Lib.hid hany
 have HK:=Lib.hid key
 clear key hany hf hs hb
 subst hn
 go_enter Tryz.func51,Tryz.ntmps51
 go_wp2_with (go_at_call 79;refine HK.out.mono ?_;rintro e w1 ⟨z,rfl,hz,f1⟩)
 go_ret
 exact ⟨by rw [← HA.out,← fst_any hz];rfl,f1⟩
def NmTo (w:World) (p:List UInt8) (e:Ending) (w':World):Prop:=∃ A c,e = .returned (.tuple #[.slice A (splitD p).length c,.bool (namesOk p)]) ∧ ((splitD p).length ≤ c ∧ Off A (fun b=>w.heap.size ≤ b)) ∧ Sl w' A (nmsV (splitD p)) ∧ Fr noB w w'
theorem split_lenle (p:List UInt8):(splitD p).length ≤ p.length + 1 ∧ ∀ s ∈ splitD p,s.length ≤ p.length:=by
 induction p with
 | nil=>simp [splitD]
 | cons b l ih =>
  unfold splitD
  split
  ·refine ⟨by simp only [List.length_cons];omega,fun s hs=>?_⟩
   rcases List.mem_cons.1 hs with rfl | hs
   ·simp
   ·have:=ih.2 s hs;simp only [List.length_cons];omega
  ·cases hs:splitD l with
   | nil=>exact absurd hs (split_ne l)
   | cons x t =>
    rw [hs] at ih
    simp only [List.length_cons] at ih ⊢
    refine ⟨by omega,fun s hs'=>?_⟩
    rcases List.mem_cons.1 hs' with rfl | hs'
    ·have:=ih.2 x (by simp);simp only [List.length_cons];omega
    ·have:=ih.2 s (by simp [hs']);omega
set_option maxRecDepth 100000 in
set_option maxHeartbeats 1000000 in
theorem names_any (w:World) (h:HasMW w) (p:List UInt8) (hp:p.length < 4294967281):Calls Tryz.prog 38 #[.string (str p)] w (NmTo w p):=by
 have HSP:=Lib.hid (split_any w h p hp)
 have HLE:=Lib.hid (split_lenle p)
 have HP:=Lib.hid hp
 have HNO:=Lib.hid (show namesOk p = ((!(splitD p).any fun s=>!nameOk s) && decide ((splitD p).length ≤ 20) && decide (p.length ≤ 1000)) by
  unfold namesOk
  congr 2
  rw [Bool.eq_iff_iff,List.all_eq_true]
  simp)
 clear h hp
 go_enter Tryz.func38,Tryz.ntmps38
 go_upto_region 2 with (go_at_call 68;refine HSP.out.mono ?_;rintro e w1 ⟨A1,c1,rfl,hc1,s1,f1⟩)
 have CN:=Lib.hid (contNames_any w1 A1 c1 _ (splitD p) rfl s1 (by have:=HLE.out.1;have:=HP.out;omega) (fun s=>!nameOk s) (fun w' f s hs=>names1_any w' s (by have:=HLE.out.2 s hs;have:=HP.out;omega)))
 have S1:=Lib.hid (And.intro hc1 s1)
 clear hc1 s1
 go_upto_region 3 with (go_at_call 51;refine CN.out.mono ?_;rintro e w2 ⟨rfl,f2⟩)
 generalize ((splitD p).any fun s=>!nameOk s) = bad at HNO ⊢
 have hsz:((str p).size:Int) = (p.length:Int):=rfl
 cases bad with
 | true =>
  go_wp2_with fail
  go_ret2
  refine ⟨A1,c1,?_,S1.out.1,S1.out.2.fr0 f2,f1.step0 f2⟩
  rw [HNO.out]
  rfl
 | false =>
  by_cases h20:(splitD p).length ≤ 20
  ·have g20:((splitD p).length:Int) ≤ 20:=by omega
   by_cases h1k:p.length ≤ 1000
   ·have g1k:(p.length:Int) ≤ 1000:=by omega
    have HD:=Lib.hid (And.intro h20 h1k)
    clear h20 h1k
    go_wp2_with fail
    go_ret2
    refine ⟨A1,c1,?_,S1.out.1,S1.out.2.fr0 f2,f1.step0 f2⟩
    rw [HNO.out,decide_eq_true HD.out.1,decide_eq_true HD.out.2]
    rfl
   ·have g1k:¬ (p.length:Int) ≤ 1000:=by omega
    have HD:=Lib.hid (And.intro h20 h1k)
    clear h20 h1k
    go_wp2_with fail
    go_ret2
    refine ⟨A1,c1,?_,S1.out.1,S1.out.2.fr0 f2,f1.step0 f2⟩
    rw [HNO.out,decide_eq_true HD.out.1,decide_eq_false HD.out.2]
    rfl
  ·have g20:¬ ((splitD p).length:Int) ≤ 20:=by omega
   have HD:=Lib.hid h20
   clear h20
   go_wp2_with fail
   go_ret2
   refine ⟨A1,c1,?_,S1.out.1,S1.out.2.fr0 f2,f1.step0 f2⟩
   rw [HNO.out,decide_eq_false HD.out]
   rfl
set_option maxRecDepth 100000 in
theorem next_any (w:World) (P:Nat) (d:DfW) (hP:codDf.bxd w P = some d):Calls Tryz.prog 15 #[.pointer (some ⟨P,0,none⟩)] w (Gives w (.agg (codS.A d.next))):=by
 have HPP:=Lib.hid hP
 clear hP
 go_enter Tryz.func15,Tryz.ntmps15
 go_upto_region 1 with fail
 have f0:Fr noB w (w.alloc (codS.o zSt)):=(Fr.refl noB w).alloc _
 have b0:=Cod.bxd_new (C:=codS) w zSt
 have q0:=(dfAt (Cod.bxd_fr0 HPP.out f0)).next
 generalize w.alloc (codS.o zSt) = w0 at f0 b0 q0 ⊢
 obtain ⟨R,eR⟩:∃ R,R = w.heap.size:=⟨_,rfl⟩
 rw [← eR] at b0 ⊢
 have HER:=Lib.hid (show w.heap.size ≤ R by omega)
 clear eR
 have F0:=Lib.hid f0
 have hst:=okS.stR_box b0 d.next
 obtain ⟨p1,p2,p3⟩:=Cod.put_fr b0 d.next
 have PP:=Lib.hid (And.intro p1 p3)
 clear p1 p2 p3 b0 f0
 go_wp2_with fail
 refine bodyPost_ret (ret_row okS rfl _ _ R _ (by rfl) PP.out.2) rfl ?_
 exact ⟨rfl,F0.out.step1 PP.out.1 HER.out⟩
def findM (rs:List RwW) (p:List UInt8):St × Bool:=if namesOk p && decide ((splitD p).length ≤ (walkM rs zRwW (splitD p)).2) then ((walkM rs zRwW (splitD p)).1.Node,true) else (zSt,false)
def FdTo (w:World) (o:St × Bool) (e:Ending) (w':World):Prop:=e = .returned (.tuple #[.agg (codS.A o.1),.bool o.2]) ∧ Fr noB w w'
set_option maxRecDepth 100000 in
set_option maxHeartbeats 1000000 in
theorem find_any (w:World) (P:Nat) (d:DfW) (hP:codDf.bxd w P = some d) (rs:List RwW) (hn:rs.length = d.n) (hs:Sl w d.A (codR.row rs)) (hb:rs.length ≤ 1000000) (hok:RowsOk rs) (hT:HasT w) (hM:HasMW w) (p:List UInt8) (hp:p.length < 4294967281) :
  Calls Tryz.prog 18 #[.pointer (some ⟨P,0,none⟩),.string (str p)] w (FdTo w (findM rs p)):=by
 have NM:=Lib.hid (fun w' (f:Fr noB w w')=>names_any w' (hM.fr f) p hp)
 have WK:=Lib.hid (fun w' (f:Fr noB w w') A c n (l:List (List UInt8)) hl hsl hlb=>walk_any w' P d (Cod.bxd_fr0 hP f) rs hn (hs.fr0 f) hb hok (hT.fr f) A c n l hl hsl hlb)
 have HLE:=Lib.hid (split_lenle p)
 have HP:=Lib.hid hp
 have HFM:=Lib.hid (show findM rs p = if namesOk p && decide ((splitD p).length ≤ (walkM rs zRwW (splitD p)).2) then ((walkM rs zRwW (splitD p)).1.Node,true) else (zSt,false) from rfl)
 clear hP hs hb hok hT hM hn hp
 go_enter Tryz.func18,Tryz.ntmps18
 go_upto_region 1 with fail
 have f0:Fr noB w (w.alloc (codS.o zSt)):=(Fr.refl noB w).alloc _
 have b0:=Cod.bxd_new (C:=codS) w zSt
 generalize w.alloc (codS.o zSt) = w0 at f0 b0 ⊢
 obtain ⟨R,eR⟩:∃ R,R = w.heap.size:=⟨_,rfl⟩
 rw [← eR] at b0 ⊢
 have HER:=Lib.hid (show w.heap.size ≤ R by omega)
 have F0:=Lib.hid f0
 have B0:=Lib.hid b0
 clear eR f0 b0
 go_upto_region 2 with (go_at_call 38;refine (NM.out w0 F0.out).mono ?_;rintro e w1 ⟨A1,c1,rfl,hc1,s1,f1⟩)
 have S1:=Lib.hid s1
 have F1:=Lib.hid f1
 clear hc1 s1 f1
 go_upto_region 3 with (go_at_call 39;refine (WK.out w1 (F0.out.step0 F1.out) A1 c1 _ (splitD p) rfl S1.out (by have:=HLE.out.1;have:=HP.out;omega)).mono ?_;rintro e w2 ⟨rfl,f2⟩)
 generalize walkM rs zRwW (splitD p) = o at HFM ⊢
 have f3:Fr noB w2 (w2.alloc (codR.o o.1)):=(Fr.refl noB w2).alloc _
 have q3:=(rwAt (Cod.rd_new' (C:=codR) w2 o.1)).node
 have F3:=Lib.hid (F1.out.step0 (f2.step0 f3))
 clear f2 f3
 generalize w2.alloc (codR.o o.1) = w3 at q3 F3 ⊢
 generalize w2.heap.size = D at q3 ⊢
 have bR:=Cod.bxd_fr0 B0.out F3.out
 cases hnk:namesOk p with
 | false =>
  have HNO:=Lib.hid (show findM rs p = (zSt,false) by rw [HFM.out];simp [hnk])
  have hst:=okS.stR_box bR zSt
  obtain ⟨p1,p2,p3⟩:=Cod.put_fr bR zSt
  have PP:=Lib.hid (And.intro p1 p3)
  clear p1 p2 p3 bR HFM
  go_wp2_with fail
  refine bodyPost_ret (ret_row_tmp okS rfl _ _ R _ (by rfl) PP.out.2) rfl ?_
  exact ⟨by rw [HNO.out];rfl,(F0.out.step0 F3.out).step1 PP.out.1 HER.out⟩
 | true =>
  by_cases hlt:(splitD p).length ≤ o.2
  ·have g1:¬ (o.2:Int) < ((splitD p).length:Int):=by omega
   have HNO:=Lib.hid (show findM rs p = (o.1.Node,true) by rw [HFM.out];simp [hnk,hlt])
   have hst:=okS.stR_box bR o.1.Node
   obtain ⟨p1,p2,p3⟩:=Cod.put_fr bR o.1.Node
   have PP:=Lib.hid (And.intro p1 p3)
   clear p1 p2 p3 bR HFM hlt
   go_wp2_with fail
   refine bodyPost_ret (ret_row_tmp okS rfl _ _ R _ (by rfl) PP.out.2) rfl ?_
   exact ⟨by rw [HNO.out];rfl,(F0.out.step0 F3.out).step1 PP.out.1 HER.out⟩
  ·have g1:(o.2:Int) < ((splitD p).length:Int):=by omega
   have HNO:=Lib.hid (show findM rs p = (zSt,false) by rw [HFM.out];simp [hlt])
   have hst:=okS.stR_box bR zSt
   obtain ⟨p1,p2,p3⟩:=Cod.put_fr bR zSt
   have PP:=Lib.hid (And.intro p1 p3)
   clear p1 p2 p3 bR HFM
   go_wp2_with fail
   refine bodyPost_ret (ret_row_tmp okS rfl _ _ R _ (by rfl) PP.out.2) rfl ?_
   exact ⟨by rw [HNO.out];rfl,(F0.out.step0 F3.out).step1 PP.out.1 HER.out⟩
set_option maxRecDepth 100000 in
set_option maxHeartbeats 1000000 in
theorem room1_any (w:World) (r:RwW) (B P:Nat) (d:DfW) (hB:w.cell? ⟨B,0,none⟩ = some (.pointer (some ⟨P,0,none⟩))) (hP:codDf.bxd w P = some d) :
  Calls Tryz.prog 82 #[.agg (codR.A r),.pointer (some ⟨B,0,none⟩)] w (Gives w (.bool (decide (0 ≤ cmpS r.Node d.next)))):=by
 have f0:Fr noB w (w.alloc (.cells (codR.A r) 60)):=(Fr.refl noB w).alloc _
 have q0:=(rwAt (Cod.rd_new (C:=codR) w 60 r)).node
 have qB:=cell_fr0 hB f0
 have qn:=(dfAt (Cod.bxd_fr0 hP f0)).next
 have C1:∀ wS,Calls Tryz.prog 45 #[.agg (codS.A r.Node),.agg (codS.A d.next)] wS (Gives wS (.int .i64 (cmpS r.Node d.next))):=fun wS=>scmp_v wS _ _
 have F0:=Lib.hid f0
 have cP:=(dfAt (Cod.bxd_fr0 hP f0)).rows
 clear hB hP f0
 go_enter Tryz.func82,Tryz.ntmps82
 go_upto_region 1 with fail
 generalize w.alloc (.cells (codR.A r) 60) = W at q0 qB qn cP F0 ⊢
 generalize w.heap.size = Q at q0 ⊢
 have l0:=Cod.rd_lt q0
 have l1:=World.block_lt_of_cell? _ _ qB
 have l2:P < W.heap.size:=Cod.rd_lt qn
 simp only at l1
 clear cP
 refine wp_region_fr (by kernel_rfl) (by kernel_rfl) ?_
 iterate 6
  refine wpQ_take (v:=?_) (by rfl) (fun wS hS=>?_) ?_
  rotate_left
  ·obtain ⟨L1,L2,L3,L4,L5,L6⟩:=Fr.same hS;go_simp;try with_reducible rfl
  try simp only [sA1,sA2,sA3,Act.put,sA4,sA5,sA6]
 refine wpQ_call (by rfl) (fun wS hS=>⟨_,_,?qh35,Calls.fr hS (C1 _)⟩) ?qk35
 case qh35=>obtain ⟨L1,L2,L3,L4,L5,L6⟩:=Fr.same hS;go_simp;try with_reducible rfl
 try simp only [sA1,sA2,sA3,Act.put,sA4,sA5,sA6]
 iterate 2
  refine wpQ_take (v:=?_) (by rfl) (fun wS hS=>?_) ?_
  rotate_left
  ·obtain ⟨L1,L2,L3,L4,L5,L6⟩:=Fr.same hS;go_simp;try with_reducible rfl
  try simp only [sA1,sA2,sA3,Act.put,sA4,sA5,sA6]
 refine wpQ_nil ?_
 intro w1 f1
 go_wp2_with fail
 go_ret
 exact ⟨by first | rfl | simp,F0.out.step0 f1⟩
def roomM (rs:List RwW) (d:DfW) (n:Nat):Bool:=rightS d.next && rightS ⟨d.next.T + n - 1,d.next.R⟩ && !((List.range rs.length).any fun k=>if h:k < rs.length then decide (0 ≤ cmpS rs[k].Node d.next) else false)
theorem wk_runV {P:Program} {w:World} {o:Oper} {a:Act} {K:Act → World → Prop} {Q:Exit → Act → World → Prop} (v:Value) (w':World)
  (hr:(execOp a.eval o).run P w = .ok (.value v) w') (h:K (a.put o.dst v) w'):Oper.wp P o a w K Q:=by
 unfold Oper.wp
 rw [hr]
 exact h
theorem wk_skipV {P:Program} {w:World} {o:Oper} {a:Act} {K:Act → World → Prop} {Q:Exit → Act → World → Prop} (w':World)
  (hr:(execOp a.eval o).run P w = .ok .skip w') (h:K (a.put o.dst undef) w'):Oper.wp P o a w K Q:=by
 unfold Oper.wp
 rw [hr]
 exact h
theorem ex_alS_at {ρ:Operand → Value} {o:Oper} (ho:o.op = .alloc 24) (w:World):(execOp ρ o).run Tryz.prog w = .ok (.value (.pointer (some ⟨w.heap.size,0,none⟩))) (w.alloc (codS.o zSt)):=okS.alOp ρ o ho w
theorem ex_bldS2_at {ρ:Operand → Value} {o:Oper} {x y:Operand} {w:World} {a b:Int} (ho:o.op = .build 24 #[(0,x),(1,y)]) (hx:ρ x = .int .i64 a) (hy:ρ y = .int .i64 b) :
  (execOp ρ o).run Tryz.prog w = .ok (.value (.agg (codS.A ⟨a,b⟩))) w:=by
 refine ex_buildG 24 ρ o #[(0,x),(1,y)] w w _ ho ?_
 simp [hx,hy,bldS2 w a b]
theorem room_wrap (s:St) (n:Nat) (hw:wfS s = true) (hn:n ≤ 1000000):(rightS s && rightS ⟨(IntKind.i64.wrap ((IntKind.i64.wrap (s.T + (n:Int))) - 1)),s.R⟩) = (rightS s && rightS ⟨s.T + n - 1,s.R⟩):=by
 cases h:rightS s with
 | false=>rfl
 | true =>
  unfold rightS at h
  simp only [Bool.and_eq_true,decide_eq_true_eq] at h
  have e1:IntKind.i64.wrap (s.T + (n:Int)) = s.T + n:=IntWalk.i64_in _ (by omega)
  rw [e1]
  have e2:IntKind.i64.wrap (s.T + (n:Int) - 1) = s.T + n - 1:=IntWalk.i64_in _ (by omega)
  rw [e2]
set_option maxRecDepth 100000 in
set_option maxHeartbeats 2000000 in
theorem room_any (w:World) (P:Nat) (d:DfW) (hP:codDf.bxd w P = some d) (rs:List RwW) (hn:rs.length = d.n) (hs:Sl w d.A (codR.row rs)) (hb:rs.length ≤ 1000000) (hw:wfS d.next = true) (n:Nat) (hnn:n ≤ 1000000) :
  Calls Tryz.prog 55 #[.pointer (some ⟨P,0,none⟩),.int .i64 (n:Int)] w (Gives w (.bool (roomM rs d n))):=by
 have HS:=Lib.hid hs
 have HN:=Lib.hid hn
 have HB:=Lib.hid hb
 have HW:=Lib.hid hw
 have HNN:=Lib.hid hnn
 have f0:Fr noB w (w.alloc (.cells #[Value.pointer (some ⟨P,0,none⟩)] 27)):=(Fr.refl noB w).alloc _
 have qB:(w.alloc (.cells #[Value.pointer (some ⟨P,0,none⟩)] 27)).cell? ⟨w.heap.size,0,none⟩ = some (.pointer (some ⟨P,0,none⟩)):=by
  simp
 have HP0:=Lib.hid (Cod.bxd_fr0 hP f0)
 have HRM:=Lib.hid (show roomM rs d n = (rightS d.next && rightS ⟨d.next.T + n - 1,d.next.R⟩ && !((List.range rs.length).any fun k=>if h:k < rs.length then decide (0 ≤ cmpS rs[k].Node d.next) else false)) from rfl)
 clear hs hn hb hw hnn hP
 go_enter Tryz.func55,Tryz.ntmps55
 go_upto_region 1 with fail
 generalize w.alloc (.cells #[Value.pointer (some ⟨P,0,none⟩)] 27) = w0 at f0 qB HP0 ⊢
 generalize w.heap.size = B at qB ⊢
 have F0:=Lib.hid f0
 have da:=dfAt HP0.out
 have hF0:w0.drew.cell? ⟨B,0,none⟩ = some (.pointer (some ⟨P,0,none⟩)) ∧ w0.drew.cell? ⟨P,1,none⟩ = some (.int .i64 d.next.T) ∧ w0.drew.cell? ⟨P,2,none⟩ = some (.int .i64 d.next.R):=⟨cell_fr0 qB (Fr.refl noB w0).drew,cell_fr0 da.T (Fr.refl noB w0).drew,cell_fr0 da.R (Fr.refl noB w0).drew⟩
 have FD:=Lib.hid (show Fr noB w0 w0.drew from (Fr.refl noB w0).drew)
 have QB:=Lib.hid qB
 clear qB da f0
 refine wp_region_M 15 16 [⟨128,4,0⟩,⟨256,128,1⟩,⟨512,256,2⟩,⟨1024,512,4⟩,⟨2048,1024,8⟩,⟨4096,2,0⟩,⟨8192,6144,48⟩,⟨16384,8192,64⟩,⟨32768,4,0⟩,⟨65536,32768,256⟩,⟨131072,65536,512⟩,⟨262144,131072,1024⟩,⟨524288,262144,2048⟩,⟨1048576,540672,4224⟩,⟨32,0,0⟩,⟨0,1048608,32767⟩] [(true,0),(true,1),(true,2),(true,3),(true,4),(true,5),(true,6),(true,7),(true,8),(true,9),(true,10),(true,11),(true,12),(true,13),(false,14)] (fun w'=>w'.cell? ⟨B,0,none⟩ = some (.pointer (some ⟨P,0,none⟩)) ∧ w'.cell? ⟨P,1,none⟩ = some (.int .i64 d.next.T) ∧ w'.cell? ⟨P,2,none⟩ = some (.int .i64 d.next.R)) (by kernel_rfl) rfl (by kernel_rfl) (by kernel_rfl) (by kernel_rfl) hF0 (fun hA hF=>?_)
 clear hF0
 generalize w0.drew = V at FD hF ⊢
 iterate 14
  refine wpAnyS_take (v:=?_) hA rfl (fun _ _ _ h=>h) (Or.inl ⟨by rfl,?_⟩) hF (fun hA=>?_)
  rotate_left
  ·intro wS hSw;(try dsimp only at hSw);obtain ⟨s1,s2,s3⟩:=hSw;first | (apply Eq.trans;apply ex_ldS_at;exact rfl;exact rfl;assumption;with_reducible rfl) | (apply Eq.trans;apply ex_bldS2_at;exact rfl;exact rfl;exact rfl;with_reducible rfl) | (go_simp;try with_reducible rfl)
  try simp only [sA1,sA2,sA3,Act.put,sA4,sA5,sA6]
 obtain ⟨en,hen⟩:∃ en:St,en = ⟨IntKind.i64.wrap (IntKind.i64.wrap (d.next.T + (n:Int)) - 1),d.next.R⟩:=⟨_,rfl⟩
 have HEN:=Lib.hid (show (rightS d.next && rightS en) = (rightS d.next && rightS ⟨d.next.T + n - 1,d.next.R⟩) by rw [hen];exact room_wrap _ _ HW.out HNN.out)
 rw [← hen]
 clear hen
 refine wpAnyS_one hA rfl (fun K' hK=>?_)
 refine wk_runV _ _ (ex_alS_at rfl V) ?_
 have fa:Fr noB V (V.alloc (codS.o zSt)):=(Fr.refl noB V).alloc _
 replace hF:=And.intro (cell_fr0 hF.1 fa) (And.intro (cell_fr0 hF.2.1 fa) (cell_fr0 hF.2.2 fa))
 refine hK.out _ _ hF (fun hA=>?_)
 clear hK K'
 as_aux_lemma =>
 try simp only [sA1,sA2,sA3,Act.put,sA4,sA5,sA6]
 refine wpAnyS_end hA rfl ?_
 simp only [List.drop_succ_cons,List.drop_zero]
 clear hF
 go_upto_region 2 with fail
 have f2:Fr noB V (V.alloc (codS.o en)):=(Fr.refl noB V).alloc _
 have e2:=Cod.rd_new' (C:=codS) V en
 have F2:=Lib.hid (FD.out.step0 f2)
 clear f2
 generalize V.alloc (codS.o en) = w2 at e2 F2 ⊢
 generalize V.heap.size = E at e2 ⊢
 have qB:=cell_fr0 QB.out F2.out
 have hP2:=Cod.bxd_fr0 HP0.out F2.out
 have cr:=(dfAt hP2).rows
 have CR:=Lib.hid (contRm_any w2 d.A d.c d.n rs HN.out (HS.out.fr0 (F0.out.step0 F2.out)) (by have:=HB.out;omega) (.pointer (some ⟨B,0,none⟩)) (fun k=>if h:k < rs.length then decide (0 ≤ cmpS rs[k].Node d.next) else false) (fun w' f k hk=>by
  have:=room1_any w' rs[k] B P d (cell_fr0 qB f) (Cod.bxd_fr0 hP2 f)
  simpa [hk] using this))
 have QB2:=Lib.hid qB
 have HP2:=Lib.hid hP2
 have E2:=Lib.hid e2
 clear hP2 e2
 generalize ((List.range rs.length).any fun k=>if h:k < rs.length then decide (0 ≤ cmpS rs[k].Node d.next) else false) = late at HRM CR
 go_upto_region 3 with (go_at_call 81;refine CR.out.mono ?_;rintro e w3 ⟨rfl,f3⟩)
 clear qB cr
 have qB:=cell_fr0 QB2.out f3
 have da:=dfAt (Cod.bxd_fr0 HP2.out f3)
 have cr:=da.rows
 have cn:=da.next
 have ce:=Cod.rd_fr0 E2.out f3
 have l0:=World.block_lt_of_cell? _ _ qB
 have l1:P < w3.heap.size:=Cod.rd_lt cn
 have l2:=Cod.rd_lt ce
 have F3:=Lib.hid (F0.out.step0 (F2.out.step0 f3))
 simp only at l0
 clear da f3
 generalize hb3:rightS ⟨d.next.T + n - 1,d.next.R⟩ = b3 at HEN HRM
 cases hb1:rightS d.next with
 | false =>
  have HB1:=Lib.hid hb1
  have HB2:=Lib.hid trivial
  clear hb1
  go_wp2_with (go_at_call 83;refine (right_v _ d.next).mono ?_;rintro e w4 ⟨rfl,f4⟩;rw [HB1.out])
  go_ret
  refine ⟨?_,F3.out.step0 f4⟩
  have e1:=HEN.out
  have e2:=HRM.out
  rw [HB1.out] at e1 e2
  skip
  show _ = Ending.returned (.bool (roomM rs d n))
  rw [e2]
  revert e1
  clear HB1 HB2 HEN HRM e2
  cases b3 <;> cases late <;> intro e1 <;> first | rfl | cases e1
 | true =>
  have HB1:=Lib.hid hb1
  clear hb1
  cases hb2:rightS en with
  | false =>
   have HB2:=Lib.hid hb2
   clear hb2
   have tok:True:=trivial
   go_wp2_with first
    | (go_at_call 83;have _t:=tok;refine (right_v _ d.next).mono ?_;rintro e w4 ⟨rfl,f4⟩;rw [HB1.out];have ce4:=Cod.rd_fr0 ce f4;clear tok)
    | (go_at_call 83;refine (right_v _ en).mono ?_;rintro e w5 ⟨rfl,f5⟩;rw [HB2.out])
   go_ret
   refine ⟨?_,F3.out.step0 (f4.step0 f5)⟩
   have e1:=HEN.out
   have e2:=HRM.out
   rw [HB1.out] at e1 e2
   rw [HB2.out] at e1
   show _ = Ending.returned (.bool (roomM rs d n))
   rw [e2]
   revert e1
   clear HB1 HB2 HEN HRM e2
   cases b3 <;> cases late <;> intro e1 <;> first | rfl | cases e1
  | true =>
   have HB2:=Lib.hid hb2
   clear hb2
   have tok:True:=trivial
   go_wp2_with first
    | (go_at_call 83;have _t:=tok;refine (right_v _ d.next).mono ?_;rintro e w4 ⟨rfl,f4⟩;rw [HB1.out];have ce4:=Cod.rd_fr0 ce f4;clear tok)
    | (go_at_call 83;refine (right_v _ en).mono ?_;rintro e w5 ⟨rfl,f5⟩;rw [HB2.out])
   go_ret
   refine ⟨?_,F3.out.step0 (f4.step0 f5)⟩
   have e1:=HEN.out
   have e2:=HRM.out
   rw [HB1.out] at e1 e2
   rw [HB2.out] at e1
   show _ = Ending.returned (.bool (roomM rs d n))
   rw [e2]
   revert e1
   clear HB1 HB2 HEN HRM e2
   cases b3 <;> cases late <;> intro e1 <;> first | rfl | cases e1
end Go.Proofs.YthehiobacjjakaaGreatDoor
