/- Contracts: pollardref17 Find, Remove. (ex_ldS_at ex_ldR_at) Contract: pollardref17 Remove. (ex_ldS_at ex_ldR_at) -/
import Derived.Test.YthehiobacjjakaaGreatDoorRfKKp
import Derived.Test.YthehiobacjjakaaGreatDoorWlFKp
import Derived.Test.YthehiobacjjakaaGreatDoorClkPKp
import Derived.Test.YthehiobacjjakaaGreatDoorDifCKp
set_option linter.unusedVariables false
set_option linter.unusedSimpArgs false
namespace Go.Proofs.YthehiobacjjakaaGreatDoor
open Go.RowKit Go.Maps Go.Sort
theorem ok_nodes {xs:List RwP} (h:TreeOk xs):NodesOk xs:=fun r hr=>by
 have h1:=rightR_node (h.ok r hr)
 unfold rightS at h1
 simp only [Bool.and_eq_true,decide_eq_true_eq] at h1
 omega
theorem findD_F {xs:List RwP} (h:TreeOk xs) (p:List UInt8) {r:RwP} {n:Nat} {b:Bool} (hw:walkF xs zRwP false (splitD p) = (r,n,b)):(walkD xs zRwP (splitD p)) = (r,n) ∧ b = fileD xs (splitD p) n:=by
 rw [walkF_D h] at hw
 simp only [Prod.mk.injEq] at hw
 obtain ⟨h1,h2,h3⟩:=hw
 exact ⟨Prod.ext h1 h2,by rw [← h3,h2]⟩
set_option maxRecDepth 100000 in
set_option maxHeartbeats 4000000 in
theorem rfind_any (w:World) (d:DfW) (rs:List RwW) (D:Dft) (h:Dv w d rs D) (ht:TreeOk D.rows) (p:List UInt8) (hp:p.length ≤ 3000000) :
  Calls Tryz.prog 19 #[.agg (codDv.A d),.string (str p)] w (Gives w (.tuple #[.agg (codS.A (findD D.rows p).1),.bool (findD D.rows p).2])):=by
 have f0:Fr noB w (w.alloc (.cells (codDv.A d) 30)):=(Fr.refl noB w).alloc _
 have b0:codDv.bxd (w.alloc (.cells (codDv.A d) 30)) w.heap.size = some d:=Cod.bxd_box (C:=codDv) w d
 generalize hw0:w.alloc (.cells (codDv.A d) 30) = w0 at f0 b0
 have HZ:=Lib.hid (show w0.heap.size = w.heap.size + 1 by rw [← hw0];simp)
 have HW0:=Lib.hid hw0
 have f1:Fr noB w0 (w0.alloc (codS.o zSt)):=(Fr.refl noB w0).alloc _
 have b1:codS.bxd (w0.alloc (codS.o zSt)) w0.heap.size = some zSt:=Cod.bxd_new w0 zSt
 have b2:=Cod.bxd_fr0 b0 f1
 have F1:=Lib.hid (f0.step0 f1)
 have HD:=Lib.hid h
 have HT:=Lib.hid ht
 have HP:=Lib.hid hp
 have HLE:=Lib.hid (split_lenle p)
 have HFD:=Lib.hid (show findD D.rows p = if namesOk p && decide ((splitD p).length ≤ (walkD D.rows zRwP (splitD p)).2) then ((walkD D.rows zRwP (splitD p)).1.Node,true) else (zSt,false) from rfl)
 generalize findD D.rows p = res at HFD ⊢
 clear h ht hp f0 f1 b0 hw0
 go_enter Tryz.func19,Tryz.ntmps19
 go_upto_region 1 with fail
 rw [HW0.out,← HZ.out]
 generalize w0.alloc (codS.o zSt) = w1 at b1 b2 F1 ⊢
 have HQ:=Lib.hid (show w.heap.size ≤ w0.heap.size by rw [HZ.out];omega)
 generalize w0.heap.size = R at b1 HQ ⊢
 generalize w.heap.size = P at b2 ⊢
 have B1:=Lib.hid b1
 have B2:=Lib.hid b2
 have NM:=Lib.hid (rnames_any w1 p (by have:=HP.out;omega))
 clear b1 b2 HW0 HZ
 go_upto_region 2 with (go_at_call 30;refine NM.out.mono ?_;rintro e w2 ⟨A2,c2,rfl,hcc,s2,f2⟩;clear hcc)
 have F2:=Lib.hid (F1.out.step0 f2)
 have q0:=(dvAt (Cod.bxd_rd (Cod.bxd_fr0 B2.out f2))).rows
 have B3:=Lib.hid (Cod.bxd_fr0 B1.out f2)
 have WK:=Lib.hid (rwalk_any w2 d.A d.c d.n rs D.rows HD.out.n (HD.out.sl.fr0 F2.out) (by have:=HD.out.rows.len;have:=HT.out.len;omega) F2.out HD.out.rows (ok_nodes HT.out) A2 c2 _ (splitD p) rfl s2 (by have:=HLE.out.1;have:=HP.out;omega))
 clear s2 f2
 obtain ⟨r,n,fb,hwf⟩:∃ r n b,walkF D.rows zRwP false (splitD p) = (r,n,b):=⟨_,_,_,rfl⟩
 obtain ⟨hwd,_⟩:=findD_F HT.out p hwf
 have HFD:=Lib.hid (show res = if namesOk p && decide ((splitD p).length ≤ n) then (r.Node,true) else (zSt,false) by rw [HFD.out,hwd])
 rw [hwf] at WK
 clear hwf hwd
 go_upto_region 3 with (go_at_call 31;refine WK.out.mono ?_;rintro e w3 ⟨⟨rr,rfl,hr,hrm⟩,f3⟩)
 have f4:Fr noB w3 (w3.alloc (codR.o rr)):=(Fr.refl noB w3).alloc _
 have q4:=(rwAt (Cod.rd_new' (C:=codR) w3 rr)).node
 rw [← hr.node] at q4
 have B4:=Lib.hid (Cod.bxd_fr0 B3.out (f3.step0 f4))
 have F4:=Lib.hid (F2.out.step0 (f3.step0 f4))
 generalize w3.alloc (codR.o rr) = w4 at q4 B4 F4 ⊢
 generalize w3.heap.size = U at q4 ⊢
 clear f3 f4 q0 hr
 cases hok:namesOk p with
 | false =>
  have HN:=Lib.hid (show res = (zSt,false) by rw [HFD.out,if_neg (by simp [hok])])
  have hst:=okS.stR_box B4.out zSt
  obtain ⟨p1,_,p3⟩:=Cod.put_fr B4.out zSt
  have HBX:=Lib.hid p3
  have HFE:=Lib.hid (F4.out.step1 p1 HQ.out)
  clear p1 p3 q4 hok
  go_wp2_with fail
  refine bodyPost_ret (ret_row_tmp okS rfl _ _ _ _ (by rfl) HBX.out) rfl ?_
  exact ⟨by rw [HN.out];rfl,HFE.out⟩
 | true =>
  by_cases hlt:n < (splitD p).length
  ·have i1:(n:Int) < ((splitD p).length:Int):=by omega
   have hlt':¬ (splitD p).length ≤ n:=by omega
   have HN:=Lib.hid (show res = (zSt,false) by rw [HFD.out,if_neg (by simp [hlt'])])
   have hst:=okS.stR_box B4.out zSt
   obtain ⟨p1,_,p3⟩:=Cod.put_fr B4.out zSt
   have HBX:=Lib.hid p3
   have HFE:=Lib.hid (F4.out.step1 p1 HQ.out)
   clear p1 p3 q4 hlt'
   go_wp2_with fail
   refine bodyPost_ret (ret_row_tmp okS rfl _ _ _ _ (by rfl) HBX.out) rfl ?_
   exact ⟨by rw [HN.out];rfl,HFE.out⟩
  ·have i1:¬ (n:Int) < ((splitD p).length:Int):=by omega
   have HN:=Lib.hid (show res = (r.Node,true) by rw [HFD.out,if_pos (by simp [hok];omega)])
   have hst:=okS.stR_box B4.out r.Node
   obtain ⟨p1,_,p3⟩:=Cod.put_fr B4.out r.Node
   have HBX:=Lib.hid p3
   have HFE:=Lib.hid (F4.out.step1 p1 HQ.out)
   clear p1 p3 hlt hok
   go_wp2_with fail
   refine bodyPost_ret (ret_row_tmp okS rfl _ _ _ _ (by rfl) HBX.out) rfl ?_
   exact ⟨by rw [HN.out];rfl,HFE.out⟩
def OffH (Q:Nat → Prop) (r:RwW):Prop:=r.n ≠ 0 → ∀ b,r.A.map (·.block) = some b → ¬ Q b
structure OffR (Q:Nat → Prop) (d:DfW) (rs:List RwW):Prop where
 a:rs ≠ [] → ∀ b,d.A.map (·.block) = some b → ¬ Q b
 h:∀ r ∈ rs,OffH Q r
structure DvTo (Q:Nat → Prop) (w:World) (o:Dft × Int) (e:Ending) (w':World):Prop where
 ex:∃ d rs,e = .returned (.tuple #[.agg (codDv.A d),.int .i64 o.2]) ∧ Dv w' d rs o.1 ∧ OffR Q d rs
 fr:Fr noB w w'
theorem DvTo.of {Q:Nat → Prop} {w w1:World} {d:DfW} {rs:List RwW} {D:Dft} {k:Int} (h:Dv w d rs D) (o:OffR Q d rs) (f:Fr noB w w1):DvTo Q w (D,k) (.returned (.tuple #[.agg (codDv.A d),.int .i64 k])) w1:=⟨⟨d,rs,rfl,h.fr f,o⟩,f⟩
theorem mem_putG {α:Type} {f:α → St} {x y:α}:∀ (b:Bool) {l:List α},y ∈ putG f x b l → y = x ∨ y ∈ l
 | b,[],h=>by
  unfold putG at h
  split at h
  ·simp at h
  ·simp at h;exact .inl h
 | b,z :: l,h=>by
  unfold putG at h
  rw [List.mem_append,List.mem_append] at h
  rcases h with h | h | h
  ·split at h
   ·simp at h;exact .inl h
   ·simp at h
  ·split at h
   ·simp at h
   ·simp at h;exact .inr (by simp [h])
  ·rcases mem_putG _ h with h | h
   ·exact .inl h
   ·exact .inr (by simp [h])
theorem OffH.zero (Q:Nat → Prop):OffH Q zRwW:=fun h=>absurd rfl h
theorem OffH.mem {Q:Nat → Prop} {d:DfW} {rs:List RwW} {r:RwW} (h:OffR Q d rs) (hr:r ∈ rs ∨ r = zRwW):OffH Q r:=by
 rcases hr with hr | rfl
 ·exact h.h r hr
 ·exact OffH.zero Q
theorem rws_putG {w:World} {r:RwW} {x:RwP} (hx:RwIn w r x) {rs:List RwW} {xs:List RwP} (h:RwsIn w rs xs):RwsIn w (putG RwW.Node r false rs) (putG RwP.Node x false xs):=by
 have k:=AllO.putG hx false (show AllO RwIn w rs xs from ⟨h.len,fun i h1 h2=>h.at_ i h1 h2⟩)
 exact ⟨k.1,fun i h1 h2=>k.2 i h1 h2⟩
theorem RwIn.turn {w:World} {r:RwW} {x:RwP} (h:RwIn w r x) (p a:St) (nm:List UInt8) (hp:wfS p = true) (hn:nm.length ≤ 140737488355328):RwIn w { r with Parent:=p,At:=a,Name:=nm } { x with Parent:=p,At:=a,Name:=nm } :=
 ⟨by rw [h.eq];rfl,h.len,h.sl,h.bd,hn,h.wn,hp⟩
/-! what lies in a row of heads is more than fits into a small block -/
theorem Sl.small {w w':World} {A:Option Addr} {xs:List Value} {b:Nat} {t:TypeId} {cs:List Value} (h:Sl w A xs) (f:Fr (oneB b) w w') (hb:Blk w b t cs) (hl:xs = [] ∨ cs.length < xs.length):Sl w' A xs:=by
 rcases hl with rfl | hl
 ·exact Sl.nil _ _
 refine h.fr f (fun a e hab=>?_)
 obtain ⟨g,off,rfl,_,hc⟩:=h (by intro e;rw [e] at hl;simp at hl)
 injection e with e
 subst e
 have hab:g = b:=hab
 subst hab
 have hj:=hc (xs.length - 1) (xs[xs.length - 1]'(by omega)) (List.getElem?_eq_getElem _)
 rw [hb.cell,List.getElem?_eq_none (by omega)] at hj
 cases hj
theorem RwIn.small {w w':World} {r:RwW} {x:RwP} {b:Nat} {t:TypeId} {cs:List Value} (h:RwIn w r x) (f:Fr (oneB b) w w') (hb:Blk w b t cs) (hl:cs.length < 34):RwIn w' r x:=by
 refine ⟨h.eq,h.len,h.sl.small f hb ?_,h.bd,h.nm,h.wn,h.wp⟩
 rw [Cod.row_len]
 rcases Nat.eq_zero_or_pos x.Heads.length with e | e
 ·left;rw [List.length_eq_zero_iff.1 e];rfl
 ·right;show cs.length < x.Heads.length * 34;omega
theorem RwsIn.small {w w':World} {rs:List RwW} {xs:List RwP} {b:Nat} {t:TypeId} {cs:List Value} (h:RwsIn w rs xs) (f:Fr (oneB b) w w') (hb:Blk w b t cs) (hl:cs.length < 34):RwsIn w' rs xs:=⟨h.len,fun i h1 h2=>(h.at_ i h1 h2).small f hb hl⟩
structure PvK (V:World) (Q:Nat → Prop) (P B R:Nat) (X:Dft) (x:RwP) (wr:World) (d:DfW) (rs:List RwW) (r:RwW):Prop where
 n:rs.length = d.n
 sl:Sl wr d.A (codR.row rs)
 rows:RwsIn wr rs X.rows
 next:d.next = X.next
 bP:codDv.bxd wr P = some d
 bB:codR.bxd wr B = some r
 hr:RwIn wr r x
 bR:codDv.bxd wr R = some zDfW
 off:rs ≠ [] → ∀ b,d.A.map (·.block) = some b → b ≠ P ∧ b ≠ B ∧ b ≠ R
 fr:Fr noB V wr
 q:OffR Q d rs
 qr:OffH Q r
structure PvC (V:World) (Q:Nat → Prop) (P B R:Nat):Prop where
 q:∀ b,Q b → b < V.heap.size
 p:V.heap.size ≤ P
 b:V.heap.size ≤ B
 r:V.heap.size ≤ R
 pb:P ≠ B
 pr:P ≠ R
 br:B ≠ R
section
variable {V wr w':World} {Q:Nat → Prop} {P B R:Nat} {X:Dft} {x:RwP} {d:DfW} {rs:List RwW} {r:RwW}
theorem Sl.frO {A:Option Addr} {l:List RwW} {M:Nat → Prop} (h:Sl wr A (codR.row l)) (f:Fr M wr w') (hM:l ≠ [] → ∀ b,A.map (·.block) = some b → ¬ M b):Sl w' A (codR.row l):=by
 by_cases hl:l = []
 ·subst hl;exact Sl.nil _ _
 ·exact h.fr f (fun a e=>hM hl a.block (by rw [e];rfl))
theorem PvK.fr0 (h:PvK V Q P B R X x wr d rs r) (f:Fr noB wr w'):PvK V Q P B R X x w' d rs r :=
 ⟨h.n,h.sl.fr0 f,h.rows.fr f,h.next,Cod.bxd_fr0 h.bP f,Cod.bxd_fr0 h.bB f,h.hr.fr f,Cod.bxd_fr0 h.bR f,h.off,h.fr.step0 f,h.q,h.qr⟩
theorem csR_lt (r:RwW):(codR.cs r).length < 34:=by rw [codR.len];decide
theorem csDv_lt (r:DfW):(codDv.cs r).length < 34:=by rw [codDv.len];decide
theorem PvK.row (h:PvK V Q P B R X x wr d rs r) (c:PvC V Q P B R) {r':RwW} {x':RwP} (f:Fr (oneB B) wr w') (hb:codR.bxd w' B = some r') (hr:RwIn wr r' x') (hq:OffH Q r'):PvK V Q P B R X x' w' d rs r' :=
 ⟨h.n,h.sl.frO f (fun hl b hb=>(h.off hl b hb).2.1),h.rows.small f (Cod.bxd_blk h.bB) (csR_lt _),h.next,Cod.bxd_fr h.bP f c.pb,hb,hr.small f (Cod.bxd_blk h.bB) (csR_lt _),Cod.bxd_fr h.bR f (fun e=>c.br e.symm),h.off,h.fr.step1 f c.b,h.q,hq⟩
theorem PvK.setRows (h:PvK V Q P B R X x wr d rs r) (c:PvC V Q P B R) {W1:World} {A:Option Addr} {k:Nat} {ls:List RwW} {zs:List RwP} (ho:OwnC codR W1 wr A k ls) (hW:P < W1.heap.size ∧ B < W1.heap.size ∧ R < W1.heap.size) (hz:RwsIn wr ls zs) (hq:∀ r ∈ ls,OffH Q r) :
  PvK V Q P B R ⟨zs,X.next⟩ x (wr.setCell ⟨P,0,none⟩ (.slice A ls.length k)) { d with A:=A,n:=ls.length,c:=k } ls r:=by
 have f:=Cod.set_fr wr P 0 (.slice A ls.length k)
 have hb:=fun b hb=>(own_lt ho b hb).1
 refine ⟨rfl,(Sl.own ho).frO f (fun _ b e=>by have:=hb b e;show ¬ b = P;omega),hz.small f (Cod.bxd_blk h.bP) (csDv_lt _),h.next,Cod.bxd_set h.bP 0 _ { d with A:=A,n:=ls.length,c:=k } rfl,Cod.bxd_fr h.bB f (fun e=>c.pb e.symm),h.hr.small f (Cod.bxd_blk h.bP) (csDv_lt _),Cod.bxd_fr h.bR f (fun e=>c.pr e.symm),fun _ b e=>?_,h.fr.step1 f c.p,⟨fun _ b e hqb=>by have h1:=hb b e;have h2:=c.q b hqb;have h3:=c.p;omega,hq⟩,h.qr⟩
 have:=hb b e
 exact ⟨by omega,by omega,by omega⟩
theorem PvK.tick (h:PvK V Q P B R X x wr d rs r) (c:PvC V Q P B R) :
  PvK V Q P B R ⟨X.rows,tickD X.next 1⟩ x (wr.setCell ⟨P,1,none⟩ (.int .i64 (X.next.T + 1))) { d with next:=tickD X.next 1 } rs r:=by
 have f:=Cod.set_fr wr P 1 (.int .i64 (X.next.T + 1))
 exact ⟨h.n,h.sl.frO f (fun hl b hb=>(h.off hl b hb).1),h.rows.small f (Cod.bxd_blk h.bP) (csDv_lt _),rfl,Cod.bxd_set h.bP 1 _ { d with next:=tickD X.next 1 } (by rw [show X.next = d.next from h.next.symm];rfl),Cod.bxd_fr h.bB f (fun e=>c.pb e.symm),h.hr.small f (Cod.bxd_blk h.bP) (csDv_lt _),Cod.bxd_fr h.bR f (fun e=>c.pr e.symm),h.off,h.fr.step1 f c.p,⟨h.q.a,h.q.h⟩,h.qr⟩
theorem PvK.fin (h:PvK V Q P B R X x wr d rs r) (c:PvC V Q P B R) (f:Fr (oneB R) wr w') (k:Int):DvTo Q V (X,k) (.returned (.tuple #[.agg (codDv.A d),.int .i64 k])) w' :=
 ⟨⟨d,rs,rfl,⟨h.n,h.sl.frO f (fun hl b hb=>(h.off hl b hb).2.2),h.rows.small f (Cod.bxd_blk h.bR) (csDv_lt _),h.next⟩,h.q⟩,h.fr.step1 f c.r⟩
theorem PvK.memq (h:PvK V Q P B R X x wr d rs r):∀ r' ∈ putG RwW.Node r false rs,OffH Q r':=fun r' hm=>by
 rcases mem_putG _ hm with rfl | hm
 ·exact h.qr
 ·exact h.q.h _ hm
theorem PvK.of {D:Dft} (h:Dv V d rs D) (hq:OffR Q d rs) (hqr:OffH Q r) (F:Fr noB V wr) (c:PvC V Q P B R) (bP:codDv.bxd wr P = some d) (bR:codDv.bxd wr R = some zDfW) (bB:codR.bxd wr B = some r) (hr:RwIn wr r x):PvK V Q P B R D x wr d rs r :=
 ⟨h.n,h.sl.fr0 F,h.rows.fr F,h.next,bP,bB,hr,bR,fun hl b e=>by
  obtain ⟨g,off,hA,hg⟩:=h.sl.adC (List.length_pos_iff.2 hl)
  rw [hA] at e
  injection e with e
  have e:g = b:=e
  have:=c.p;have:=c.b;have:=c.r
  exact ⟨by omega,by omega,by omega⟩,F,hq,hqr⟩
end
end Go.Proofs.YthehiobacjjakaaGreatDoor
namespace Go.Proofs.YthehiobacjjakaaGreatDoor
open Go.RowKit Go.Maps Go.Sort
theorem room_Tv {D:Dft} {n:Nat} (h:roomD D (n + 1) = true):wrap64 (D.next.T + 1) = D.next.T + 1:=by
 have:=room_right h 0 (by omega)
 rw [tick_zero] at this
 unfold rightS at this
 simp only [Bool.and_eq_true,decide_eq_true_eq] at this
 exact IntWalk.wrap64_in _ (by omega)
set_option maxRecDepth 100000 in
set_option maxHeartbeats 4000000 in
theorem rremove_any (w:World) (d:DfW) (rs:List RwW) (D:Dft) (h:Dv w d rs D) (Q:Nat → Prop) (hQ:∀ b,Q b → b < w.heap.size) (hO:OffR Q d rs) (ht:TreeOk D.rows) (p:List UInt8) (hp:p.length ≤ 3000000) :
  Calls Tryz.prog 14 #[.agg (codDv.A d),.string (str p)] w (DvTo Q w (removeF D p)):=by
 have f0:Fr noB w (w.alloc (.cells (codDv.A d) 30)):=(Fr.refl noB w).alloc _
 have b0:codDv.bxd (w.alloc (.cells (codDv.A d) 30)) w.heap.size = some d:=Cod.bxd_box (C:=codDv) w d
 generalize hw0:w.alloc (.cells (codDv.A d) 30) = w0 at f0 b0
 have HZ:=Lib.hid (show w0.heap.size = w.heap.size + 1 by rw [← hw0];simp)
 have HW0:=Lib.hid hw0
 have f1:Fr noB w0 (w0.alloc (codDv.o zDfW)):=(Fr.refl noB w0).alloc _
 have b1:codDv.bxd (w0.alloc (codDv.o zDfW)) w0.heap.size = some zDfW:=Cod.bxd_new w0 zDfW
 have b2:=Cod.bxd_fr0 b0 f1
 have F1:=Lib.hid (f0.step0 f1)
 have HD:=Lib.hid h
 have HQQ:=Lib.hid hQ
 have HO:=Lib.hid hO
 clear hQ hO
 have HT:=Lib.hid ht
 have HP:=Lib.hid hp
 have HLE:=Lib.hid (split_lenle p)
 have HSP:=Lib.hid (List.length_pos_iff.2 (split_ne p))
 have HRF:=Lib.hid (show removeF D p = if namesOk p = false then (D,170)
  else if (walkD D.rows zRwP (splitD p)).2 < (splitD p).length then (D,4)
  else if roomD D 1 = false then (D,1)
  else (⟨putR D.rows { (walkD D.rows zRwP (splitD p)).1 with Parent:=trS,At:=D.next },tickD D.next 1⟩,0) from rfl)
 generalize removeF D p = res at HRF ⊢
 clear h ht hp f0 f1 b0 hw0
 go_enter Tryz.func14,Tryz.ntmps14
 go_upto_region 1 with fail
 rw [HW0.out,← HZ.out]
 generalize w0.alloc (codDv.o zDfW) = w1 at b1 b2 F1 ⊢
 have HQ:=Lib.hid (show w.heap.size ≤ w0.heap.size by rw [HZ.out];omega)
 have HPR:=Lib.hid (show w.heap.size < w0.heap.size by rw [HZ.out];omega)
 generalize w0.heap.size = R at b1 HQ HPR ⊢
 have HPP:=Lib.hid (show w.heap.size ≤ w.heap.size from Nat.le_refl _)
 generalize hP:w.heap.size = P at b2 HPR ⊢
 have HPP:=Lib.hid (show w.heap.size ≤ P by omega)
 have B1:=Lib.hid b1
 have B2:=Lib.hid b2
 have NM:=Lib.hid (rnames_any w1 p (by have:=HP.out;omega))
 have HR1:=Lib.hid (Cod.bxd_lt b1)
 clear b1 b2 HW0 HZ hP
 go_upto_region 2 with (go_at_call 30;refine NM.out.mono ?_;rintro e w2 ⟨A2,c2,rfl,hcc,s2,f2⟩;clear hcc)
 have F2:=Lib.hid (F1.out.step0 f2)
 have S2:=Lib.hid s2
 have B3:=Lib.hid (Cod.bxd_fr0 B1.out f2)
 have B4:=Lib.hid (Cod.bxd_fr0 B2.out f2)
 have HR2:=Lib.hid (show R < w2.heap.size by have h1:=HR1.out;have h2:=f2.size;omega)
 clear s2 f2
 cases hok:namesOk p with
 | false =>
  have HN:=Lib.hid (show res = (D,170) by rw [HRF.out,hok];rfl)
  clear hok
  have hst:=okDv.stR_box B3.out d
  have qp:=Cod.bxd_rd B4.out
  obtain ⟨p1,_,p3⟩:=Cod.put_fr B3.out d
  have HBX:=Lib.hid p3
  have HFE:=Lib.hid (Fr.step1 F2.out p1 HQ.out)
  clear p1 p3
  go_wp2_with fail
  refine bodyPost_ret (ret_row_tmp okDv rfl _ _ _ _ (by rfl) HBX.out) rfl ?_
  rw [HN.out]
  exact DvTo.of HD.out HO.out HFE.out
 | true =>
  have HRF:=Lib.hid (show res = if (walkD D.rows zRwP (splitD p)).2 < (splitD p).length then (D,4)
   else if roomD D 1 = false then (D,1)
   else (⟨putR D.rows { (walkD D.rows zRwP (splitD p)).1 with Parent:=trS,At:=D.next },tickD D.next 1⟩,0) by rw [HRF.out,hok];rfl)
  clear hok
  have WK:=Lib.hid (rwalk_any w2 d.A d.c d.n rs D.rows HD.out.n (HD.out.sl.fr0 F2.out) (by have:=HD.out.rows.len;have:=HT.out.len;omega) F2.out HD.out.rows (ok_nodes HT.out) A2 c2 _ (splitD p) rfl S2.out (by have:=HLE.out.1;have:=HP.out;omega))
  have HMM:=Lib.hid (walkD_mem D.rows zRwP (splitD p))
  obtain ⟨x,n,fb,hwf⟩:∃ r n b,walkF D.rows zRwP false (splitD p) = (r,n,b):=⟨_,_,_,rfl⟩
  obtain ⟨hwd,_⟩:=findD_F HT.out p hwf
  rw [hwd] at HRF HMM
  rw [hwf] at WK
  have q0:=(dvAt (Cod.bxd_rd B4.out)).rows
  clear hwf hwd
  go_upto_region 5 with (go_at_call 31;refine WK.out.mono ?_;rintro e w3 ⟨⟨rr,rfl,hr,hrm⟩,f3⟩)
  have f4:Fr noB w3 (w3.alloc (codR.o rr)):=(Fr.refl noB w3).alloc _
  have b5:codR.bxd (w3.alloc (codR.o rr)) w3.heap.size = some rr:=Cod.bxd_new w3 rr
  have bR:=Cod.bxd_fr0 B3.out (f3.step0 f4)
  have bP:=Cod.bxd_fr0 B4.out (f3.step0 f4)
  have F4:=F2.out.step0 (f3.step0 f4)
  have hU:R < w3.heap.size:=by have h1:=HR2.out;have h2:=f3.size;omega
  generalize w3.alloc (codR.o rr) = w4 at b5 bR bP F4 ⊢
  generalize w3.heap.size = U at b5 hU ⊢
  have PC:=Lib.hid (show PvC w Q P U R from ⟨HQQ.out,HPP.out,by have:=HQ.out;omega,HQ.out,by have:=HPR.out;omega,by have:=HPR.out;omega,by omega⟩)
  have K:=Lib.hid (PvK.of HD.out HO.out (OffH.mem HO.out hrm) F4 PC.out bP bR b5 (hr.fr F4))
  have HUR:=Lib.hid (And.intro HPR.out hU)
  clear f3 f4 q0 hr hrm b5 bR bP F4 hU
  by_cases hlt:n < (splitD p).length
  ·have i1:(n:Int) < ((splitD p).length:Int):=by omega
   have HN:=Lib.hid (show res = (D,4) by rw [HRF.out,if_pos hlt])
   clear hlt
   have hst:=okDv.stR_box K.out.bR d
   have qp:=Cod.bxd_rd K.out.bP
   obtain ⟨p1,_,p3⟩:=Cod.put_fr K.out.bR d
   have HBX:=Lib.hid p3
   have HFE:=Lib.hid (Fr.step1 K.out.fr p1 HQ.out)
   clear p1 p3
   go_wp2_with fail
   refine bodyPost_ret (ret_row_tmp okDv rfl _ _ _ _ (by rfl) HBX.out) rfl ?_
   rw [HN.out]
   exact DvTo.of HD.out HO.out HFE.out
  ·have i1:¬ (n:Int) < ((splitD p).length:Int):=by omega
   have HX:=Lib.hid (show x ∈ D.rows from by
    rcases HMM.out with h | h
    ·have h1:=HSP.out;have h2:n = 0:=h.2;omega
    ·exact h)
   have HRF:=Lib.hid (HRF.out.trans (if_neg hlt))
   have q0:=Cod.bxd_rd K.out.bP
   clear hlt
   have RM:=Lib.hid (rroom_any w4 d rs D (HD.out.fr K.out.fr) (by have:=HD.out.rows.len;have:=HT.out.len;omega) 1 (by omega))
   have RM:=Lib.hid (show Calls Tryz.prog 33 #[.agg (codDv.A d),.int .i64 1] w4 (Gives w4 (.bool (roomD D 1))) from RM.out)
   cases hrm:roomD D 1 with
   | false =>
    have HRM:=Lib.hid hrm
    have HN:=Lib.hid (show res = (D,1) by rw [HRF.out,hrm];rfl)
    clear hrm
    go_upto_region 8 with (go_at_call 33;refine RM.out.mono ?_;rintro e w5 ⟨rfl,f5⟩;rw [HRM.out])
    have K5:=Lib.hid (K.out.fr0 f5)
    clear f5 q0
    have hst:=okDv.stR_box K5.out.bR d
    have qp:=Cod.bxd_rd K5.out.bP
    obtain ⟨p1,_,p3⟩:=Cod.put_fr K5.out.bR d
    have HBX:=Lib.hid p3
    have HFE:=Lib.hid (Fr.step1 K5.out.fr p1 HQ.out)
    clear p1 p3
    go_wp2_with fail
    refine bodyPost_ret (ret_row_tmp okDv rfl _ _ _ _ (by rfl) HBX.out) rfl ?_
    rw [HN.out]
    exact DvTo.of HD.out HO.out HFE.out
   | true =>
    have HRM:=Lib.hid hrm
    have HN:=Lib.hid (show res = (⟨putR D.rows { x with Parent:=trS,At:=D.next },tickD D.next 1⟩,0) by rw [HRF.out,hrm];rfl)
    have hwT:=room_Tv (n:=0) hrm
    clear hrm
    go_upto_region 9 with (go_at_call 33;refine RM.out.mono ?_;rintro e w5 ⟨rfl,f5⟩;rw [HRM.out])
    have K5:=K.out.fr0 f5
    clear f5 q0
    have s1:=wst_Parent K5.bB ⟨0,1⟩
    obtain ⟨p1,_,p3⟩:=Cod.put_fr K5.bB { rr with Parent:=⟨0,1⟩ }
    have K6:=Lib.hid (K5.row PC.out p1 p3 (show RwIn w5 { rr with Parent:=⟨0,1⟩ } { x with Parent:=trS,At:=rr.At,Name:=rr.Name } from K5.hr.turn trS rr.At rr.Name wf_trS K5.hr.nm) K5.qr)
    clear p1 p3 K5
    go_upto_region 10 with fail
    generalize codR.put _ _ _ = w6 at K6 ⊢
    clear s1
    have qn:=(dvAt (Cod.bxd_rd K6.out.bP)).next
    rw [K6.out.next] at qn
    have s2:=wst_At K6.out.bB D.next
    obtain ⟨p1,_,p3⟩:=Cod.put_fr K6.out.bB { rr with Parent:=⟨0,1⟩,At:=D.next }
    have K7:=Lib.hid (K6.out.row PC.out p1 p3 (show RwIn w6 { rr with Parent:=⟨0,1⟩,At:=D.next } { x with Parent:=trS,At:=D.next,Name:=rr.Name } from K6.out.hr.turn trS D.next rr.Name wf_trS K6.out.hr.nm) K6.out.qr)
    clear p1 p3
    go_upto_region 11 with fail
    generalize codR.put _ _ _ = w7 at K7 ⊢
    clear s2 qn
    have q7:=(dvAt (Cod.bxd_rd K7.out.bP)).rows
    have r7:=Cod.bxd_rd K7.out.bB
    have PT:=Lib.hid (rput_any w7 d.A d.c d.n rs K7.out.n K7.out.sl (by have:=K7.out.rows.len;have:=HT.out.len;omega) { rr with Parent:=⟨0,1⟩,At:=D.next })
    have HZ:=Lib.hid (rws_putG K7.out.hr K7.out.rows)
    have HL:=Lib.hid (And.intro (Cod.bxd_lt K7.out.bP) (And.intro (Cod.bxd_lt K7.out.bB) (Cod.bxd_lt K7.out.bR)))
    have HMQ:=Lib.hid K7.out.memq
    generalize putG RwW.Node _ false rs = ls at PT HZ HMQ
    have hfz:=(Cod.bxd_blk K7.out.bP).frozen 0
    go_upto_region 12 with (go_at_call 34;refine PT.out.mono ?_;rintro e w8 ⟨A8,c8,rfl,o8,f8⟩;have q8:=cell_fr0 q7 f8;have hf8:=(Cod.bxd_blk (Cod.bxd_fr0 K7.out.bP f8)).frozen 0)
    have K8:=Lib.hid (PvK.setRows (K7.out.fr0 f8) PC.out o8 HL.out (HZ.out.fr f8) HMQ.out)
    clear o8 f8 q8 hf8 hfz q7 r7
    generalize w8.setCell _ _ = w9 at K8 ⊢
    have qT:=(dvAt (Cod.bxd_rd K8.out.bP)).T
    rw [K8.out.next] at qT
    have hfz:=(Cod.bxd_blk K8.out.bP).frozen 1
    have K9:=Lib.hid (K8.out.tick PC.out)
    go_upto_region 13 with fail
    generalize w9.setCell _ _ = w10 at K9 ⊢
    clear qT hfz
    have qp:=Cod.bxd_rd K9.out.bP
    have hst:=okDv.stR_box K9.out.bR { d with A:=A8,n:=ls.length,c:=c8,next:=tickD D.next 1 }
    obtain ⟨p1,_,p3⟩:=Cod.put_fr K9.out.bR { d with A:=A8,n:=ls.length,c:=c8,next:=tickD D.next 1 }
    have HBX:=Lib.hid p3
    have HFE:=Lib.hid (K9.out.fin PC.out p1 0)
    have HEQ:=Lib.hid (show putG RwP.Node { x with Parent:=trS,At:=D.next,Name:=rr.Name } false D.rows = putR D.rows { x with Parent:=trS,At:=D.next } by
     rw [← K.out.hr.name]
     exact putG_eq (riseR_pw HT.out.rise) (.inl (by show (findR D.rows x.Node).isSome = true;rw [HT.out.find HX.out];rfl)))
    clear p1 p3 hwT
    go_wp2_with fail
    refine bodyPost_ret (ret_row_tmp okDv rfl _ _ _ _ (by rfl) HBX.out) rfl ?_
    rw [HN.out]
    have:=HFE.out
    rw [HEQ.out] at this
    exact this
end Go.Proofs.YthehiobacjjakaaGreatDoor
