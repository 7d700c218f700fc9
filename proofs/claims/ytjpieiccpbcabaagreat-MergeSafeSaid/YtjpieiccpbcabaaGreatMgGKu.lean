/- Contracts: merge's Ops, Rows. (rdI, ex_ldS_at, ex_ldO_at) Contracts: the closures of merge's Add, right, clash; right, clash. (rdI, ex_ldS_at, ex_ldO_at, ex_ldC_at) Contracts: merge's right, clash. (rdI, ex_ldS_at, ex_ldO_at, ex_ldC_at) Contract: merge's Add. (rdI, ex_ldS_at, ex_ldO_at, ex_ldC_at) -/
import Derived.Test.YtjpieiccpbcabaaGreatMgCKu
set_option linter.unusedVariables false
set_option linter.unusedSimpArgs false
namespace Go.Proofs.YtjpieiccpbcabaaGreat
open Go.RowKit Go.Maps Go.Sort Go.Shelf
attribute [local go_sem] Oper.semAt_some
@[simp] theorem fldC_3 (w:World) (r:CgW):(Instr.field 35 (.agg (codC.A r)) 3).run Tryz.prog w = .ok (.slice r.OA r.on r.oc) w:=by
 rw [Cod.A_eq]
 kernel_rfl
def opsAt (L:Hst) (x:ID):List Opn:=((findC L x).getD zChg).Ops
theorem riseD_nd {G:Dg} {l:List ID} (h:Rise (cfD G) l):l.Nodup:=by
 refine List.Pairwise.imp (fun {a b} hab e=>?_) h
 subst e
 rw [cfD_lt] at hab
 rcases hab with hab | ⟨_,hab⟩
 ·omega
 ·rw [cmpD_self] at hab
  omega
def NdH (L:Hst):Prop:=((opsH L).map (·.At)).Nodup
theorem flat_nd {L:Hst} (hk:HOk L) (hn:NdH L) {l:List ID} (h:l.Nodup):((l.flatMap (opsAt L)).map (·.At)).Nodup:=by
 have hn':(L.flatMap fun p=>p.2.Ops.map (·.At)).Nodup:=by
  unfold NdH opsH at hn
  rwa [List.map_flatMap] at hn
 rw [List.map_flatMap]
 unfold List.Nodup at hn' ⊢
 rw [List.pairwise_flatMap] at hn' ⊢
 constructor
 ·intro x hx
  unfold opsAt
  cases hf:findC L x with
  | none=>simp [zChg]
  | some c=>exact srt_nd (rightCh_parts (hk.right _ (findC_mem hf))).2.2.2.2.1
 ·refine List.Pairwise.imp (fun {x y} hxy=>?_) h
  rintro a ha b hb rfl
  unfold opsAt at ha hb
  cases hfx:findC L x with
  | none=>rw [hfx] at ha;simp [zChg] at ha
  | some c =>
   cases hfy:findC L y with
   | none=>rw [hfy] at hb;simp [zChg] at hb
   | some d =>
    rw [hfx] at ha
    rw [hfy] at hb
    obtain ⟨i,hi,ei⟩:=List.getElem_of_mem (findC_mem hfx)
    obtain ⟨j,hj,ej⟩:=List.getElem_of_mem (findC_mem hfy)
    have hp:=List.pairwise_iff_getElem.1 hn'.2
    rcases Nat.lt_trichotomy i j with hij | rfl | hij
    ·have:=hp i j hi hj hij
     rw [ei,ej] at this
     exact this a ha a hb rfl
    ·rw [ei] at ej
     injection ej with e1 e2
     exact hxy e1
    ·have:=hp j i hj hi hij
     rw [ei,ej] at this
     exact this a hb a ha rfl
theorem ops_of {L:Hst} {ids as_:List ID} {l:List Opn} (hm:∀ y,y ∈ as_ ↔ Reached (dgH L) ids y) (hp:l.Perm (as_.flatMap (opsAt L))) (hs:SrtL l):OpsP L ids l:=by
 refine ⟨hs,fun o=>?_⟩
 rw [hp.mem_iff,List.mem_flatMap]
 constructor
 ·rintro ⟨x,hx,ho⟩
  unfold opsAt at ho
  cases hf:findC L x with
  | none=>rw [hf] at ho;simp [zChg] at ho
  | some c =>
   rw [hf] at ho
   exact ⟨x,c,hf,(hm x).1 hx,ho⟩
 ·rintro ⟨x,c,hf,hr,ho⟩
  exact ⟨x,(hm x).2 hr,by unfold opsAt;rw [hf];exact ho⟩
theorem flat_le {L:Hst} (hk:HOk L):∀ l:List ID,(l.flatMap (opsAt L)).length ≤ 64 * l.length
 | []=>by simp
 | x :: l=>by
  have ih:=flat_le hk l
  have:(opsAt L x).length ≤ 64:=by
   unfold opsAt
   cases hf:findC L x with
   | none=>simp [zChg]
   | some c=>exact (rightCh_parts (hk.right _ (findC_mem hf))).2.2.2.2.2.1
  simp only [List.flatMap_cons,List.length_append,List.length_cons]
  omega
def OpTo (w:World) (L:Hst) (ids:List ID) (e:Ending) (w':World):Prop :=
 ∃ A c rs l,e = .returned (.slice A rs.length c) ∧ OpsP L ids l ∧ l.length ≤ 64000 ∧ Sl w' A (codO.row rs) ∧ AllO (OpN w.heap.size) w' rs l ∧ Fr noB w w'
def MoLoop (w w1:World) (L:Hst) (as_:List ID) (gk:Nat) (iv ov:Value) (wr:World):Prop :=
 ∃ (k:Nat) (A:Option Addr) (c:Nat) (raw:List OpW),iv = .int .i64 (k:Int) ∧ ov = .slice A raw.length c ∧ gk = as_.length - k ∧ k ≤ as_.length ∧ OwnC codO w1 wr A c raw ∧ AllO OpIn w raw ((as_.take k).flatMap (opsAt L)) ∧ Fr noB w1 wr
set_option maxRecDepth 100000 in
set_option maxHeartbeats 4000000 in
theorem mgOps_any {w:World} {H:Nat} {S:Nat → Prop} {L:Hst} (h:Hs w H S L) (hn:NdH L) (hl:L.length ≤ 1000) (P:Option Addr) (c n:Nat) (ids:List ID) (hi:ids.length = n) (hs:Sl w P (idc ids)) (hb:ids.length ≤ 1000000000) :
  Calls Tryz.prog 17 #[.pointer (some ⟨H,0,none⟩),.slice P n c] w (OpTo w L ids):=by
 subst hi
 obtain ⟨D,A,O,kvA,kvO,F,Q,h1,h2,h3⟩:=h
 have HA:=Lib.hid h1
 have HN:=Lib.hid hn
 have HL:=Lib.hid hl
 have c0:=h1.c0
 have AN:=Lib.hid (ancestors_any w D F (dgH L) h1.dag P c _ ids rfl hs hb)
 clear h1 h2 h3 hn hl hs hb
 go_enter Tryz.func17,Tryz.ntmps17
 go_upto_region 3 with (go_at_call 43;refine AN.out.mono ?_;rintro e w1 ⟨as_,⟨A1,c1,rfl,o1,f1⟩,hr1,hm1,hb1⟩)
 have HND:=Lib.hid (riseD_nd hr1)
 have HM:=Lib.hid hm1
 have hle:=reached_len HA.out.ok.ok (riseD_nd hr1) hm1
 have HLE:=Lib.hid (show as_.length ≤ 1000 by have:=HL.out;unfold dgH at hle;rw [List.length_map] at hle;omega)
 have HCL:=Lib.hid (show H < w1.heap.size ∧ A < w1.heap.size from ⟨Nat.lt_of_lt_of_le (Blk.lt HA.out.blk) f1.size,Nat.lt_of_lt_of_le (mpI_lt HA.out.all) f1.size⟩)
 have h0:MoLoop w w1 L as_ as_.length (.int .i64 ((0:Nat):Int)) (.slice none 0 0) w1:=⟨0,none,0,[],rfl,rfl,rfl,Nat.zero_le _,World.ownsRow_nil _ _ _ _,AllO.nil,Fr.refl _ _⟩
 have HS1:=Lib.hid (Sl.own o1)
 clear hr1 hm1 hb1 hle o1 AN c0
 have HF1:=Lib.hid f1
 go_loopg [15,5] as_.length (fun gk iv ov wr=>MoLoop w w1 L as_ gk iv ov wr)
 case atStart=>exact h0
 case round =>
  clear h0 f1
  obtain ⟨k,A2,c2,raw,rfl,rfl,rfl,hk,ho,hx,hf1⟩:=hrel
  have hf:=HF1.out.step0 hf1
  by_cases hlt:k < as_.length
  ·have j0:(0:Int) ≤ (k:Int):=by omega
   have j1:(k:Int) < (as_.length:Int):=by omega
   obtain ⟨g,off,rfl⟩:=Sl.adG HS1.out (by omega)
   have e1:rdI wr g (off + k * 32) = some as_[k]:=(HS1.out.fr0 hf1).id k hlt
   have HTK:=Lib.hid (show (as_.take (k + 1)).flatMap (opsAt L) = (as_.take k).flatMap (opsAt L) ++ opsAt L as_[k] by
    rw [List.take_succ_eq_append_getElem hlt,List.flatMap_append];simp)
   obtain ⟨rw0,rs0,c0,b0,hl1,hl2,ee1,ee2,hc0,hs0,hn0,hv0,hp0⟩:=HA.out.getC as_[k]
   have HC0:=Lib.hid hc0.inn
   have HE0:=Lib.hid (show opsAt L as_[k] = c0.Ops by unfold opsAt;rw [ee1])
   generalize as_[k] = x at e1 HTK hl1 hl2 ee1 ee2 HE0
   have HX:=Lib.hid hx
   have HO:=Lib.hid ho
   have HLT:=Lib.hid hlt
   have HF:=Lib.hid hf
   have HFa:=Lib.hid hf1
   have HN0:=Lib.hid hn0
   have cc1:=cell_fr0 HA.out.c1 hf
   have mm1:=mpI_fr HA.out.all hf (by simp [noB])
   clear hk hlt ee1 ee2 hc0 hs0 hn0 hv0 hp0 hx ho hf hf1
   go_upto_region 5 with fail
   have fz:Fr noB wr (wr.alloc (ido zID)):=(Fr.refl noB wr).alloc _
   have bz:bxI (wr.alloc (ido zID)) wr.heap.size = some zID:=bxI_new wr zID
   obtain ⟨p1,p2,p3⟩:=putB_fr bz x
   have f12:Fr noB wr (putB (wr.alloc (ido zID)) wr.heap.size x):=fz.step1 p1 (Nat.le_refl _)
   have q12:=bxI_rd p3
   obtain ⟨D2,hD2⟩:∃ x,x = wr.heap.size:=⟨_,rfl⟩
   rw [← hD2] at q12 f12 ⊢
   have cc2:=cell_fr0 cc1 f12
   have mm2:=mpI_fr mm1 f12 (by simp [noB])
   have HD2:=Lib.hid hD2
   have HF12:=Lib.hid (HF.out.step0 f12)
   have HO12:=Lib.hid (own_new0 HO.out f12)
   have HFb:=Lib.hid (HFa.out.step0 f12)
   clear hD2 e1 f12 cc1 mm1 fz bz p1 p2 p3
   generalize putB (wr.alloc (ido zID)) D2 x = W12 at q12 cc2 mm2 HF12 HO12 HFb ⊢
   have hk5:∀ w' w'':World,Fr noB w' w'' → (w'.cell? ⟨H,1,none⟩ = some (.map (some A)) ∧ rdI w' D2 0 = some x ∧ mpI w' A = some kvA) → (w''.cell? ⟨H,1,none⟩ = some (.map (some A)) ∧ rdI w'' D2 0 = some x ∧ mpI w'' A = some kvA):=fun w' w'' f h=>⟨cell_fr0 h.1 f,rdI_fr h.2.1 (rdI_lt h.2.1) f (by simp [noB]),mpI_fr h.2.2 f (by simp [noB])⟩
   have fd:Fr noB W12 W12.drew:=(Fr.refl noB W12).drew
   have hF0:=hk5 _ _ fd ⟨cc2,q12,mm2⟩
   refine wp_region_M 9 10 [⟨524288,32,0⟩,⟨1048576,1,0⟩,⟨2097152,1048576,2⟩,⟨4194304,2097152,4⟩,⟨8388608,4194304,8⟩,⟨16777216,128,0⟩,⟨33554432,25165824,48⟩,⟨67108864,33554432,64⟩,⟨134217728,67633152,129⟩,⟨32,134217728,511⟩] [(true,0),(true,1),(true,2),(true,3),(true,4),(true,5),(true,6),(true,7),(false,8)] (fun w'=>w'.cell? ⟨H,1,none⟩ = some (.map (some A)) ∧ rdI w' D2 0 = some x ∧ mpI w' A = some kvA) (by kernel_rfl) rfl (by kernel_rfl) (by kernel_rfl) (by kernel_rfl) hF0 (fun hA hF=>?_)
   iterate 8
    refine wpAnyS_take (v:=?_) hA rfl (fun _ _ _ h=>h) (Or.inl ⟨by rfl,?_⟩) hF (fun hA=>?_)
    rotate_left
    ·intro wS hSw;(try dsimp only at hSw);obtain ⟨s1,s2,s3⟩:=hSw;first | (apply Eq.trans;apply ex_ld_id;exact rfl;exact rfl;assumption;with_reducible rfl) | (apply Eq.trans;apply ex_ldO_at;exact rfl;exact rfl;assumption;with_reducible rfl) | (apply Eq.trans;apply ex_ldS_at;exact rfl;exact rfl;assumption;with_reducible rfl) | (go_simp;try with_reducible rfl)
    try simp only [sA1,sA2,sA3,Act.put,sA4,sA5,sA6]
   refine wpAnyS_one hA rfl (fun K' hK=>?_)
   have hxl:=HX.out.1
   have hfl:=flat_le HA.out.ok (as_.take k)
   have hlen:raw.length ≤ 64000:=by
    have:=HLE.out
    have:=HLT.out
    rw [List.length_take] at hfl
    omega
   have hrl:rs0.length ≤ 64:=by rw [HC0.out.ops.len];exact HN0.out
   refine step_appC' etO w1 _ rfl _ _ rfl A2 raw.length c2 raw rfl rfl (own_new0 HO12.out fd) rw0.OA rw0.on rw0.oc rs0 rfl ((HC0.out.os.fr0 HF12.out).fr0 fd) HC0.out.ol (by omega) (HFb.out.step0 fd).size ?_
   intro A7 c7 w7 hc7 hm7 o7 g7 hA7
   have oo:=own_new0 HO12.out fd
   have fg:Fr noB w1 w7:=gv_own (HFb.out.step0 fd) oo g7
   have fm:Fr (fun b=>A2.map (·.block) = some b) W12.drew w7:=Fr.ofGrown g7 (fun g hg=>hg)
   replace hF:=And.intro (gcell_fr hF0.1 fm (fun h=>by have:=(own_lt oo _ h).1;have:=HCL.out.1;omega)) (And.intro (rdI_fr hF0.2.1 (rdI_lt hF0.2.1) fm (fun h=>by have:=(own_lt HO.out _ h).2;have:=HD2.out;omega)) (mpI_fr hF0.2.2 fm (fun h=>by have:=(own_lt oo _ h).1;have:=HCL.out.2;omega)))
   refine hK.out _ _ hF (fun hA=>?_)
   clear hK K'
   as_aux_lemma =>
   refine wpAnyS_end hA rfl ?_
   simp only [List.drop_succ_cons,List.drop_zero]
   clear hF hk5 hF0 oo fm
   have hll:(raw ++ rs0).length = raw.length + rs0.length:=List.length_append
   rw [hll]
   have HNX:=Lib.hid (And.intro o7 (And.intro fg hll))
   clear o7 g7 hA7 fg cc2 mm2 q12 fd hll hfl hxl
   go_wp2_with fail
   go_roundg (as_.length - (k + 1))
   case measure=>have:=HLT.out;omega
   case rel =>
    refine ⟨k + 1,A7,c7,raw ++ rs0,congrArg (Value.int .i64) (IntWalk.wrap64_in _ (by have:=HLT.out;have:=HLE.out;omega)),by rw [HNX.out.2.2],rfl,HLT.out,HNX.out.1,?_,HNX.out.2.1⟩
    rw [HTK.out,HE0.out]
    exact HX.out.app ⟨HC0.out.ops.len,HC0.out.ops.at_⟩
  ·have j1:¬ (k:Int) < (as_.length:Int):=by omega
   have hke:k = as_.length:=by omega
   have hxl:=hx.1
   rw [hke,List.take_length] at hx hxl
   have hfl:=flat_le HA.out.ok as_
   have hrb:raw.length ≤ 64000:=by have:=HLE.out;omega
   have hov:∀ o ∈ as_.flatMap (opsAt L),o.Over.length ≤ 1000000:=fun o ho=>by
    obtain ⟨x,_,hx2⟩:=List.mem_flatMap.1 ho
    unfold opsAt at hx2
    cases hfx:findC L x with
    | none=>rw [hfx] at hx2;simp [zChg] at hx2
    | some c =>
     rw [hfx] at hx2
     have:=goodOp_over ((rightCh_parts (HA.out.ok.right _ (findC_mem hfx))).2.2.2.1 o hx2).1
     omega
   have CS:=Lib.hid (sSortD_any wr A2 c2 _ raw (as_.flatMap (opsAt L)) rfl (Sl.own ho) (hx.map fun r o h=>h.fr hf) (flat_nd HA.out.ok HN.out HND.out) (by rw [← hxl];omega) hov)
   have HXL:=Lib.hid (And.intro hxl hrb)
   clear hx hxl hfl hrb hov hk hlt ho
   go_wp2_with (go_at_call 44;refine CS.out.mono ?_;rintro e w6 ⟨A6,c6,rs6,L6,rfl,hp6,hs6,hsl6,ha6,_,f6⟩)
   go_ret
   refine ⟨A6,c6,rs6,L6,rfl,ops_of HM.out hp6 hs6,by rw [hp6.length_eq,← HXL.out.1];exact HXL.out.2,hsl6,⟨ha6.1,fun i a b=>?_⟩,hf.step0 f6⟩
   have hq:=ha6.2 i a b
   exact ⟨hq.op,own_base hq.own hf.size⟩
def RwsTo (w:World) (L:Hst) (ids:List ID) (e:Ending) (w':World):Prop:=∃ l wa,OpsP L ids l ∧ l.length ≤ 64000 ∧ Fr noB w wa ∧ RowsTo wa (runX [] l) e w'
set_option maxRecDepth 100000 in
theorem mgRows_any {w:World} {H:Nat} {S:Nat → Prop} {L:Hst} (h:Hs w H S L) (hn:NdH L) (hl:L.length ≤ 1000) (P:Option Addr) (c n:Nat) (ids:List ID) (hi:ids.length = n) (hs:Sl w P (idc ids)) (hb:ids.length ≤ 1000000000) :
  Calls Tryz.prog 20 #[.pointer (some ⟨H,0,none⟩),.slice P n c] w (RwsTo w L ids):=by
 have CO:=Lib.hid (mgOps_any h hn hl P c n ids hi hs hb)
 have HK:=Lib.hid h.ok
 clear h hn hl hi hs hb
 go_enter Tryz.func20,Tryz.ntmps20
 go_wp2_with (first
  | (go_at_call 17;refine CO.out.mono ?_;rintro e w1 ⟨A1,c1,rs1,l1,rfl,p1,b1,s1,a1,f1⟩)
  | (go_at_call 48;refine (mgTree_any w1 A1 c1 _ rs1 l1 rfl s1 ⟨a1.1,fun i h h'=>(a1.2 i h h').op.inn⟩ (p1.good HK.out) p1.srt (by omega)).mono ?_;rintro e w2 ⟨b2,t2,rfl,g2,f2⟩)
  | (go_at_call 49;refine (gvRows_any g2 (by omega)).mono ?_;rintro e w3 ⟨A3,c3,rs3,ys3,rfl,o3,x3,ap3,p3,q3,f3⟩))
 go_ret
 exact ⟨l1,w2,p1,b1,f1.step0 f2,A3,c3,rs3,ys3,rfl,o3,x3,ap3,p3,q3,f3⟩
end Go.Proofs.YtjpieiccpbcabaaGreat
namespace Go.Proofs.YtjpieiccpbcabaaGreat
open Go.RowKit Go.Maps Go.Sort Go.Shelf
attribute [local go_sem] Oper.semAt_some
theorem any_rangeD {α:Type} (l:List α) (d:α) (q:α → Bool):(List.range l.length).any (fun i=>q (l.getD i d)) = l.any q:=by
 rw [Bool.eq_iff_iff,List.any_eq_true,List.any_eq_true]
 constructor
 ·rintro ⟨i,hi,h⟩
  have hi':=List.mem_range.1 hi
  rw [List.getD_eq_getElem?_getD,List.getElem?_eq_getElem hi'] at h
  exact ⟨_,List.getElem_mem hi',h⟩
 ·rintro ⟨x,hx,h⟩
  obtain ⟨i,hi,rfl⟩:=List.getElem_of_mem hx
  refine ⟨i,List.mem_range.2 hi,?_⟩
  rw [List.getD_eq_getElem?_getD,List.getElem?_eq_getElem hi]
  exact h
set_option maxRecDepth 100000 in
theorem mgAdd1_any {w:World} {H:Nat} {S:Nat → Prop} {L:Hst} (h:Hs w H S L) (B:Nat) (hB:w.cell? ⟨B,0,none⟩ = some (.pointer (some ⟨H,0,none⟩))) (x:ID) :
  Calls Tryz.prog 34 #[encI x,.pointer (some ⟨B,0,none⟩)] w (Gives w (.bool (!hasG (dgH L) x))):=by
 obtain ⟨D,A,O,kvA,kvO,F,Q,h1,h2,h3⟩:=h
 have f0:Fr noB w (w.alloc (ido x)):=(Fr.refl noB w).alloc _
 have q0:rdI (w.alloc (ido x)) w.heap.size 0 = some x:=rdI_new w x
 have b0:=cell_fr0 hB f0
 have c0:=cell_fr0 h1.c0 f0
 have hd:=h1.dag
 have CH:=Lib.hid (fun w' (f:Fr noB w w')=>has_any w' D F (dgH L) (hd.fr0 f) x)
 clear h1 h2 h3 hd hB
 go_enter Tryz.func34,Tryz.ntmps34
 go_upto_region 1 with fail
 generalize w.alloc (ido x) = W0 at f0 q0 b0 c0 ⊢
 generalize w.heap.size = X at q0 ⊢
 have hk:∀ w' w'':World,Fr noB w' w'' → (w'.cell? ⟨B,0,none⟩ = some (.pointer (some ⟨H,0,none⟩)) ∧ w'.cell? ⟨H,0,none⟩ = some (.pointer (some ⟨D,0,none⟩)) ∧ rdI w' X 0 = some x) → (w''.cell? ⟨B,0,none⟩ = some (.pointer (some ⟨H,0,none⟩)) ∧ w''.cell? ⟨H,0,none⟩ = some (.pointer (some ⟨D,0,none⟩)) ∧ rdI w'' X 0 = some x):=fun w' w'' f h=>⟨cell_fr0 h.1 f,cell_fr0 h.2.1 f,rdI_fr h.2.2 (rdI_lt h.2.2) f (by simp [noB])⟩
 have fd:Fr noB W0 W0.drew:=(Fr.refl noB W0).drew
 have hF0:=hk _ _ fd ⟨b0,c0,q0⟩
 refine wp_region_M 7 8 [⟨16,2,0⟩,⟨32,16,1⟩,⟨64,32,2⟩,⟨128,64,4⟩,⟨256,4,0⟩,⟨512,384,24⟩,⟨1024,512,32⟩,⟨8,1024,127⟩] [(true,0),(true,1),(true,2),(true,3),(true,4),(false,5),(true,6)] (fun w'=>w'.cell? ⟨B,0,none⟩ = some (.pointer (some ⟨H,0,none⟩)) ∧ w'.cell? ⟨H,0,none⟩ = some (.pointer (some ⟨D,0,none⟩)) ∧ rdI w' X 0 = some x) (by kernel_rfl) rfl (by kernel_rfl) (by kernel_rfl) (by kernel_rfl) hF0 (fun hA hF=>?_)
 iterate 5
  refine wpAnyS_take (v:=?_) hA rfl (fun _ _ _ h=>h) (Or.inl ⟨by rfl,?_⟩) hF (fun hA=>?_)
  rotate_left
  ·intro wS hSw;(try dsimp only at hSw);obtain ⟨s1,s2,s3⟩:=hSw;first | (apply Eq.trans;apply ex_ld_id;exact rfl;exact rfl;assumption;with_reducible rfl) | (apply Eq.trans;apply ex_ldO_at;exact rfl;exact rfl;assumption;with_reducible rfl) | (apply Eq.trans;apply ex_ldC_at;exact rfl;exact rfl;assumption;with_reducible rfl) | (apply Eq.trans;apply ex_ldS_at;exact rfl;exact rfl;assumption;with_reducible rfl) | (go_simp;try with_reducible rfl)
  try simp only [sA1,sA2,sA3,Act.put,sA4,sA5,sA6]
 refine wpAnyS_one hA rfl (fun K' hK=>?_)
 go_simp
 go_at_call 32
 refine (CH.out _ (f0.step0 fd)).mono ?_
 rintro e w2 ⟨rfl,f2⟩
 replace hF:=hk _ _ f2 hF
 refine hK.out _ _ hF (fun hA=>?_)
 clear hK K'
 as_aux_lemma =>
 refine wpAnyS_take (v:=?_) hA rfl (fun _ _ _ h=>h) (Or.inl ⟨by rfl,?_⟩) hF (fun hA=>?_)
 rotate_left
 ·intro wS hSw;(try dsimp only at hSw);obtain ⟨s1,s2,s3⟩:=hSw;first | (apply Eq.trans;apply ex_ld_id;exact rfl;exact rfl;assumption;with_reducible rfl) | (apply Eq.trans;apply ex_ldO_at;exact rfl;exact rfl;assumption;with_reducible rfl) | (apply Eq.trans;apply ex_ldC_at;exact rfl;exact rfl;assumption;with_reducible rfl) | (apply Eq.trans;apply ex_ldS_at;exact rfl;exact rfl;assumption;with_reducible rfl) | (go_simp;try with_reducible rfl)
 try simp only [sA1,sA2,sA3,Act.put,sA4,sA5,sA6]
 refine wpAnyS_end hA rfl ?_
 simp only [List.drop_succ_cons,List.drop_zero]
 clear hF hk hF0
 go_wp2_with fail
 go_ret
 exact ⟨rfl,(f0.step0 fd).step0 f2⟩
set_option maxRecDepth 100000 in
theorem mgRight1_any {w:World} {H:Nat} {S:Nat → Prop} {L:Hst} (h:Hs w H S L) (B C:Nat) (T:Int) (hB:w.cell? ⟨B,0,none⟩ = some (.pointer (some ⟨H,0,none⟩))) (hC:w.cell? ⟨C,1,none⟩ = some (.int .i64 T)) (x:ID) :
  Calls Tryz.prog 65 #[encI x,.pointer (some ⟨B,0,none⟩),.pointer (some ⟨C,0,none⟩)] w (Gives w (.bool (match findC L x with | none=>false | some d=>decide (T ≤ d.Time)))):=by
 obtain ⟨D,A,O,kvA,kvO,F,Q,h1,h2,h3⟩:=h
 have f0:Fr noB w (w.alloc (ido x)):=(Fr.refl noB w).alloc _
 have q0:rdI (w.alloc (ido x)) w.heap.size 0 = some x:=rdI_new w x
 have b0':=cell_fr0 hB f0
 have t0:=cell_fr0 hC f0
 have c1:=cell_fr0 h1.c1 f0
 have m1:=mpI_fr h1.all f0 (by simp [noB])
 obtain ⟨rw0,rs0,c0,b0,hl1,hl2,e1,e2,hc0,_⟩:=h1.getC x
 have hres:(match findC L x with | none=>false | some d=>decide (T ≤ d.Time)) = (b0 && decide (T ≤ rw0.Time)):=by
  cases hf:findC L x with
  | none=>rw [hf] at e2;rw [e2];rfl
  | some d =>
   rw [hf] at e1 e2
   have:d.Time = rw0.Time:=by rw [← hc0.inn.time,e1];rfl
   rw [e2,← this];rfl
 rw [hres]
 clear h1 h2 h3 hB hC hc0 e1 e2 hres
 go_enter Tryz.func65,Tryz.ntmps65
 go_upto_region 1 with fail
 generalize w.alloc (ido x) = W0 at f0 q0 b0' t0 c1 m1 ⊢
 generalize w.heap.size = X at q0 ⊢
 have hk:∀ w' w'':World,Fr noB w' w'' → (w'.cell? ⟨B,0,none⟩ = some (.pointer (some ⟨H,0,none⟩)) ∧ w'.cell? ⟨H,1,none⟩ = some (.map (some A)) ∧ rdI w' X 0 = some x ∧ mpI w' A = some kvA) → (w''.cell? ⟨B,0,none⟩ = some (.pointer (some ⟨H,0,none⟩)) ∧ w''.cell? ⟨H,1,none⟩ = some (.map (some A)) ∧ rdI w'' X 0 = some x ∧ mpI w'' A = some kvA):=fun w' w'' f h=>⟨cell_fr0 h.1 f,cell_fr0 h.2.1 f,rdI_fr h.2.2.1 (rdI_lt h.2.2.1) f (by simp [noB]),mpI_fr h.2.2.2 f (by simp [noB])⟩
 have fd:Fr noB W0 W0.drew:=(Fr.refl noB W0).drew
 have hF0:=hk _ _ fd ⟨b0',c1,q0,m1⟩
 refine wp_region_M 11 12 [⟨256,2,0⟩,⟨512,256,1⟩,⟨1024,512,2⟩,⟨2048,1024,4⟩,⟨4096,8,0⟩,⟨8192,6144,24⟩,⟨128,8192,32⟩,⟨16384,128,64⟩,⟨32768,128,64⟩,⟨32,0,0⟩,⟨0,16416,767⟩,⟨64,32768,2047⟩] [(true,0),(true,1),(true,2),(true,3),(true,4),(true,5),(true,6),(true,7),(true,8),(false,9),(false,10)] (fun w'=>w'.cell? ⟨B,0,none⟩ = some (.pointer (some ⟨H,0,none⟩)) ∧ w'.cell? ⟨H,1,none⟩ = some (.map (some A)) ∧ rdI w' X 0 = some x ∧ mpI w' A = some kvA) (by kernel_rfl) rfl (by kernel_rfl) (by kernel_rfl) (by kernel_rfl) hF0 (fun hA hF=>?_)
 iterate 9
  refine wpAnyS_take (v:=?_) hA rfl (fun _ _ _ h=>h) (Or.inl ⟨by rfl,?_⟩) hF (fun hA=>?_)
  rotate_left
  ·intro wS hSw;(try dsimp only at hSw);obtain ⟨s1,s2,s3,s4⟩:=hSw;first | (apply Eq.trans;apply ex_ld_id;exact rfl;exact rfl;assumption;with_reducible rfl) | (apply Eq.trans;apply ex_ldO_at;exact rfl;exact rfl;assumption;with_reducible rfl) | (apply Eq.trans;apply ex_ldC_at;exact rfl;exact rfl;assumption;with_reducible rfl) | (apply Eq.trans;apply ex_ldS_at;exact rfl;exact rfl;assumption;with_reducible rfl) | (go_simp;try with_reducible rfl)
  try simp only [sA1,sA2,sA3,Act.put,sA4,sA5,sA6]
 refine wpAnyS_one hA rfl (fun K' hK=>?_)
 refine step_runI rfl _ _ (okC.alOp _ _ rfl _) ?_
 have fa:Fr noB W0.drew (W0.drew.alloc (codC.o zCgW)):=(Fr.refl noB _).alloc _
 replace hF:=hk _ _ fa hF
 refine hK.out _ _ hF (fun hA=>?_)
 clear hK K'
 as_aux_lemma =>
 refine wpAnyS_one hA rfl (fun K' hK=>?_)
 refine stp_skip rfl _ (ex_stV_at (C:=codC) (v:=rw0) rfl rfl rfl (st_newC W0.drew rw0 zCgW)) ?_
 have fb:Fr noB W0.drew (W0.drew.alloc (codC.o rw0)):=(Fr.refl noB _).alloc _
 replace hF:=(hk _ _ fb hF0)
 refine hK.out _ _ hF (fun hA=>?_)
 clear hK K'
 as_aux_lemma =>
 refine wpAnyS_end hA rfl ?_
 simp only [List.drop_succ_cons,List.drop_zero]
 clear hF hk hF0 fa hl1 hl2
 have u:=(cgAt (Cod.bxd_rd (Cod.bxd_new (C:=codC) W0.drew rw0))).time
 have t1:=cell_fr0 (cell_fr0 t0 fd) fb
 have g1:=(f0.step0 fd).step0 fb
 clear f0 fd fb q0 b0' c1 m1 t0
 generalize W0.drew.alloc (codC.o rw0) = W1 at u t1 g1 ⊢
 generalize W0.drew.heap.size = N at u ⊢
 cases b0 with
 | false =>
  go_wp2_with fail
  go_ret
  exact ⟨rfl,g1⟩
 | true =>
  go_wp2_with fail
  go_ret
  exact ⟨by simp,g1⟩
set_option maxRecDepth 100000 in
theorem mgClash1_any {w:World} {H:Nat} {S:Nat → Prop} {L:Hst} (h:Hs w H S L) (B:Nat) (hB:w.cell? ⟨B,0,none⟩ = some (.pointer (some ⟨H,0,none⟩))) (r:OpW) (o:Opn) (ho:OpIn w r o) (hw:wfS o.At = true) :
  Calls Tryz.prog 67 #[.agg (codO.A r),.pointer (some ⟨B,0,none⟩)] w (Gives w (.bool (match findO (opsH L) o.At with | none=>false | some x=>!decide (x = o)))):=by
 obtain ⟨D,A,O,kvA,kvO,F,Q,h1,h2,h3⟩:=h
 have f0:Fr noB w (w.alloc (.cells (codO.A r) 83)):=(Fr.refl noB w).alloc _
 have q0:codO.rd (w.alloc (.cells (codO.A r) 83)) w.heap.size 0 = some r:=Cod.rd_new w 83 r
 have a0:=(opAt q0).At
 have b0':=cell_fr0 hB f0
 have c2:=cell_fr0 h1.c2 f0
 have m2:=mpT_fr0 h1.ops f0
 have ea:o.At = r.At:=by rw [ho.eq];rfl
 obtain ⟨rw0,x0,b0,hl1,hl2,e1,hx0⟩:∃ (rw0:OpW) (x0:Opn) (b0:Bool),(look kvO r.At).getD (.agg (codO.A zOpW)) = .agg (codO.A rw0) ∧ (look kvO r.At).isSome = b0 ∧ (match findO (opsH L) o.At with | none=>false | some x=>!decide (x = o)) = (b0 && !sameO x0 o) ∧ (b0 = true → OpIn w rw0 x0):=by
  rcases h1.os r.At with ⟨g1,g2⟩ | ⟨x,q,g1,g2,g3⟩
  ·exact ⟨zOpW,o,false,by rw [g2];rfl,by rw [g2];rfl,by rw [ea,g1];rfl,fun h=>(by cases h)⟩
  ·refine ⟨q,x,true,by rw [g2];rfl,by rw [g2];rfl,?_,fun _=>g3.inn⟩
   rw [ea,g1]
   have:sameO x o = decide (x = o):=by
    rw [Bool.eq_iff_iff,sameO_iff,decide_eq_true_eq]
   rw [this];rfl
 rw [e1]
 have HO:=Lib.hid ho
 have HX:=Lib.hid hx0
 rw [ea] at hw
 clear h1 h2 h3 hB e1 ho hx0 ea
 go_enter Tryz.func67,Tryz.ntmps67
 go_upto_region 1 with fail
 generalize w.alloc (.cells (codO.A r) 83) = W0 at f0 q0 a0 b0' c2 m2 ⊢
 generalize w.heap.size = X at q0 a0 ⊢
 have hk:∀ w' w'':World,Fr noB w' w'' → (w'.cell? ⟨B,0,none⟩ = some (.pointer (some ⟨H,0,none⟩)) ∧ w'.cell? ⟨H,2,none⟩ = some (.map (some O)) ∧ codS.rd w' X 1 = some r.At ∧ mpT w' O = some kvO) → (w''.cell? ⟨B,0,none⟩ = some (.pointer (some ⟨H,0,none⟩)) ∧ w''.cell? ⟨H,2,none⟩ = some (.map (some O)) ∧ codS.rd w'' X 1 = some r.At ∧ mpT w'' O = some kvO):=fun w' w'' f h=>⟨cell_fr0 h.1 f,cell_fr0 h.2.1 f,Cod.rd_fr0 h.2.2.1 f,mpT_fr0 h.2.2.2 f⟩
 have fd:Fr noB W0 W0.drew:=(Fr.refl noB W0).drew
 have hF0:=hk _ _ fd ⟨b0',c2,a0,m2⟩
 refine wp_region_M 12 13 [⟨128,2,0⟩,⟨256,128,1⟩,⟨512,256,2⟩,⟨1024,512,4⟩,⟨2048,4,0⟩,⟨4096,2048,16⟩,⟨8192,5120,40⟩,⟨64,8192,64⟩,⟨16384,64,128⟩,⟨32768,64,128⟩,⟨16,0,0⟩,⟨0,16400,1535⟩,⟨32,32768,4095⟩] [(true,0),(true,1),(true,2),(true,3),(true,4),(true,5),(true,6),(true,7),(true,8),(true,9),(false,10),(false,11)] (fun w'=>w'.cell? ⟨B,0,none⟩ = some (.pointer (some ⟨H,0,none⟩)) ∧ w'.cell? ⟨H,2,none⟩ = some (.map (some O)) ∧ codS.rd w' X 1 = some r.At ∧ mpT w' O = some kvO) (by kernel_rfl) rfl (by kernel_rfl) (by kernel_rfl) (by kernel_rfl) hF0 (fun hA hF=>?_)
 iterate 10
  refine wpAnyS_take (v:=?_) hA rfl (fun _ _ _ h=>h) (Or.inl ⟨by rfl,?_⟩) hF (fun hA=>?_)
  rotate_left
  ·intro wS hSw;(try dsimp only at hSw);obtain ⟨s1,s2,s3,s4⟩:=hSw;first | (apply Eq.trans;apply ex_ld_id;exact rfl;exact rfl;assumption;with_reducible rfl) | (apply Eq.trans;apply ex_ldO_at;exact rfl;exact rfl;assumption;with_reducible rfl) | (apply Eq.trans;apply ex_ldC_at;exact rfl;exact rfl;assumption;with_reducible rfl) | (apply Eq.trans;apply ex_ldS_at;exact rfl;exact rfl;assumption;with_reducible rfl) | (go_simp;try with_reducible rfl)
  try simp only [sA1,sA2,sA3,Act.put,sA4,sA5,sA6]
 refine wpAnyS_one hA rfl (fun K' hK=>?_)
 refine step_runI rfl _ _ (okO.alOp _ _ rfl _) ?_
 have fa:Fr noB W0.drew (W0.drew.alloc (codO.o zOpW)):=(Fr.refl noB _).alloc _
 replace hF:=hk _ _ fa hF
 refine hK.out _ _ hF (fun hA=>?_)
 clear hK K'
 as_aux_lemma =>
 refine wpAnyS_one hA rfl (fun K' hK=>?_)
 refine stp_skip rfl _ (ex_stV_at (C:=codO) (v:=rw0) rfl rfl rfl (st_newO W0.drew rw0 zOpW)) ?_
 have fb:Fr noB W0.drew (W0.drew.alloc (codO.o rw0)):=(Fr.refl noB _).alloc _
 replace hF:=(hk _ _ fb hF0)
 refine hK.out _ _ hF (fun hA=>?_)
 clear hK K'
 as_aux_lemma =>
 refine wpAnyS_end hA rfl ?_
 simp only [List.drop_succ_cons,List.drop_zero]
 clear hF hk hF0 fa hl1 hl2
 have u:=Cod.bxd_rd (Cod.bxd_new (C:=codO) W0.drew rw0)
 have q1:=Cod.rd_fr0 (Cod.rd_fr0 q0 fd) fb
 have g1:=(f0.step0 fd).step0 fb
 clear f0 fd fb q0 b0' c2 m2 a0
 generalize W0.drew.alloc (codO.o rw0) = W1 at u q1 g1 ⊢
 generalize W0.drew.heap.size = N at u ⊢
 cases b0 with
 | false =>
  go_wp2_with fail
  go_ret
  exact ⟨rfl,g1⟩
 | true =>
  have hx:=HX.out rfl
  have CS:=Lib.hid (sSame_any W1 rw0 r x0 o (hx.fr g1) (HO.out.fr g1))
  go_wp2_with (go_at_call 68;refine CS.out.mono ?_;rintro e w2 ⟨rfl,f2⟩)
  go_ret
  exact ⟨by simp,g1.step0 f2⟩
set_option maxRecDepth 100000 in
set_option maxHeartbeats 1000000 in
theorem ixA1_ix (w:World) (A:Option Addr) (c n:Nat) (l:List ID) (hn:l.length = n) (hs:Sl w A (idc l)) (hb:l.length ≤ 1000000000) (c1:Value) (p:Nat → Bool)
  (hf:∀ w',Fr noB w w' → ∀ i (hi:i < l.length),Calls Tryz.prog 34 #[encI l[i],c1] w' (Gives w' (.bool (p i)))) :
  Calls Tryz.prog 60 #[.slice A n c,.func (.func 34) #[] #[c1]] w (IxTo w ((List.range l.length).any p)):=by
 subst hn
 go_enter Tryz.func60,Tryz.ntmps60
 go_wp2_with fail
 go_loopg [8] l.length (fun gk iv wr=>IxR w l.length p gk iv wr)
 case atStart=>exact ⟨0,rfl,by omega,by omega,fun j hj=>absurd hj (by omega),Fr.refl _ _⟩
 case round =>
  obtain ⟨k,rfl,rfl,hk,hj,hf0⟩:=hrel
  have HJ:=Lib.hid hj
  clear hj
  by_cases hlt:k < l.length
  ·have i1:(k:Int) < (l.length:Int):=by omega
   have i0:(0:Int) ≤ (k:Int):=by omega
   obtain ⟨g,off,rfl⟩:∃ g off,A = some ⟨g,off,none⟩:=Sl.adG hs (by omega)
   have e1:rdI wr g (off + k * 32) = some l[k]:=(hs.fr0 hf0).id k hlt
   have hc:=hf wr hf0 k hlt
   generalize l[k] = x at e1 hc
   by_cases hp:p k = true
   ·rw [hp] at hc
    have HP:=Lib.hid (any_hit hlt hp)
    clear hp
    go_wp2_with (go_at_call 34;refine hc.mono ?_;rintro e w1 ⟨rfl,f1⟩)
    go_ret
    exact ⟨k,rfl,by rw [HP.out];simp,hf0.step0 f1⟩
   ·have hp':p k = false:=by simpa using hp
    rw [hp'] at hc
    have HP:=Lib.hid hp'
    clear hp hp'
    go_wp2_with (go_at_call 34;refine hc.mono ?_;rintro e w1 ⟨rfl,f1⟩)
    go_roundg (l.length - (k + 1))
    case measure=>omega
    case rel=>exact ⟨k + 1,by simp,rfl,by omega,fun j hj=>by
     rcases Nat.lt_or_ge j k with h | h
     ·exact HJ.out j h
     ·have:j = k:=by omega
      rw [this];exact HP.out,hf0.step0 f1⟩
  ·have hkl:k = l.length:=by omega
   subst hkl
   have i1:¬ (l.length:Int) < (l.length:Int):=by omega
   have HP:=Lib.hid (any_none HJ.out)
   go_wp2_with fail
   go_ret
   exact ⟨-1,rfl,by rw [HP.out];rfl,hf0⟩
set_option maxRecDepth 100000 in
theorem ixA1_ct (w:World) (A:Option Addr) (c n:Nat) (l:List ID) (hn:l.length = n) (hs:Sl w A (idc l)) (hb:l.length ≤ 1000000000) (c1:Value) (p:Nat → Bool)
  (hf:∀ w',Fr noB w w' → ∀ i (hi:i < l.length),Calls Tryz.prog 34 #[encI l[i],c1] w' (Gives w' (.bool (p i)))) :
  Calls Tryz.prog 33 #[.slice A n c,.func (.func 34) #[] #[c1]] w (Gives w (.bool ((List.range l.length).any p))):=by
 have h:=Lib.hid (ixA1_ix w A c n l hn hs hb c1 p hf)
 clear hf hs
 subst hn
 generalize (List.range l.length).any p = b at h
 go_enter Tryz.func33,Tryz.ntmps33
 go_wp2_with (go_at_call 60;refine h.out.mono ?_;rintro e w1 ⟨z,rfl,hz,f1⟩)
 go_ret
 exact ⟨by rw [← hz];rfl,f1⟩
set_option maxRecDepth 100000 in
set_option maxHeartbeats 1000000 in
theorem ixR1_ix (w:World) (A:Option Addr) (c n:Nat) (l:List ID) (hn:l.length = n) (hs:Sl w A (idc l)) (hb:l.length ≤ 1000000000) (c1 c2:Value) (p:Nat → Bool)
  (hf:∀ w',Fr noB w w' → ∀ i (hi:i < l.length),Calls Tryz.prog 65 #[encI l[i],c1,c2] w' (Gives w' (.bool (p i)))) :
  Calls Tryz.prog 60 #[.slice A n c,.func (.func 65) #[] #[c1,c2]] w (IxTo w ((List.range l.length).any p)):=by
 subst hn
 go_enter Tryz.func60,Tryz.ntmps60
 go_wp2_with fail
 go_loopg [8] l.length (fun gk iv wr=>IxR w l.length p gk iv wr)
 case atStart=>exact ⟨0,rfl,by omega,by omega,fun j hj=>absurd hj (by omega),Fr.refl _ _⟩
 case round =>
  obtain ⟨k,rfl,rfl,hk,hj,hf0⟩:=hrel
  have HJ:=Lib.hid hj
  clear hj
  by_cases hlt:k < l.length
  ·have i1:(k:Int) < (l.length:Int):=by omega
   have i0:(0:Int) ≤ (k:Int):=by omega
   obtain ⟨g,off,rfl⟩:∃ g off,A = some ⟨g,off,none⟩:=Sl.adG hs (by omega)
   have e1:rdI wr g (off + k * 32) = some l[k]:=(hs.fr0 hf0).id k hlt
   have hc:=hf wr hf0 k hlt
   generalize l[k] = x at e1 hc
   by_cases hp:p k = true
   ·rw [hp] at hc
    have HP:=Lib.hid (any_hit hlt hp)
    clear hp
    go_wp2_with (go_at_call 65;refine hc.mono ?_;rintro e w1 ⟨rfl,f1⟩)
    go_ret
    exact ⟨k,rfl,by rw [HP.out];simp,hf0.step0 f1⟩
   ·have hp':p k = false:=by simpa using hp
    rw [hp'] at hc
    have HP:=Lib.hid hp'
    clear hp hp'
    go_wp2_with (go_at_call 65;refine hc.mono ?_;rintro e w1 ⟨rfl,f1⟩)
    go_roundg (l.length - (k + 1))
    case measure=>omega
    case rel=>exact ⟨k + 1,by simp,rfl,by omega,fun j hj=>by
     rcases Nat.lt_or_ge j k with h | h
     ·exact HJ.out j h
     ·have:j = k:=by omega
      rw [this];exact HP.out,hf0.step0 f1⟩
  ·have hkl:k = l.length:=by omega
   subst hkl
   have i1:¬ (l.length:Int) < (l.length:Int):=by omega
   have HP:=Lib.hid (any_none HJ.out)
   go_wp2_with fail
   go_ret
   exact ⟨-1,rfl,by rw [HP.out];rfl,hf0⟩
set_option maxRecDepth 100000 in
theorem ixR1_ct (w:World) (A:Option Addr) (c n:Nat) (l:List ID) (hn:l.length = n) (hs:Sl w A (idc l)) (hb:l.length ≤ 1000000000) (c1 c2:Value) (p:Nat → Bool)
  (hf:∀ w',Fr noB w w' → ∀ i (hi:i < l.length),Calls Tryz.prog 65 #[encI l[i],c1,c2] w' (Gives w' (.bool (p i)))) :
  Calls Tryz.prog 33 #[.slice A n c,.func (.func 65) #[] #[c1,c2]] w (Gives w (.bool ((List.range l.length).any p))):=by
 have h:=Lib.hid (ixR1_ix w A c n l hn hs hb c1 c2 p hf)
 clear hf hs
 subst hn
 generalize (List.range l.length).any p = b at h
 go_enter Tryz.func33,Tryz.ntmps33
 go_wp2_with (go_at_call 60;refine h.out.mono ?_;rintro e w1 ⟨z,rfl,hz,f1⟩)
 go_ret
 exact ⟨by rw [← hz];rfl,f1⟩
set_option maxRecDepth 100000 in
set_option maxHeartbeats 1000000 in
theorem ixC1_ix (w:World) (A:Option Addr) (c n:Nat) (l:List OpW) (hn:l.length = n) (hs:Sl w A (codO.row l)) (hb:l.length ≤ 1000000000) (c1:Value) (p:Nat → Bool)
  (hf:∀ w',Fr noB w w' → ∀ i (hi:i < l.length),Calls Tryz.prog 67 #[.agg (codO.A l[i]),c1] w' (Gives w' (.bool (p i)))) :
  Calls Tryz.prog 97 #[.slice A n c,.func (.func 67) #[] #[c1]] w (IxTo w ((List.range l.length).any p)):=by
 subst hn
 go_enter Tryz.func97,Tryz.ntmps97
 go_wp2_with fail
 go_loopg [8] l.length (fun gk iv wr=>IxR w l.length p gk iv wr)
 case atStart=>exact ⟨0,rfl,by omega,by omega,fun j hj=>absurd hj (by omega),Fr.refl _ _⟩
 case round =>
  obtain ⟨k,rfl,rfl,hk,hj,hf0⟩:=hrel
  have HJ:=Lib.hid hj
  clear hj
  by_cases hlt:k < l.length
  ·have i1:(k:Int) < (l.length:Int):=by omega
   have i0:(0:Int) ≤ (k:Int):=by omega
   obtain ⟨g,off,rfl⟩:∃ g off,A = some ⟨g,off,none⟩:=(by obtain ⟨g,off,h,_⟩:=hs.adC (by omega);exact ⟨g,off,h⟩)
   have e1:codO.rd wr g (off + k * 41) = some l[k]:=(hs.fr0 hf0).rd k hlt
   have hc:=hf wr hf0 k hlt
   generalize l[k] = x at e1 hc
   by_cases hp:p k = true
   ·rw [hp] at hc
    have HP:=Lib.hid (any_hit hlt hp)
    clear hp
    go_wp2_with (go_at_call 67;refine hc.mono ?_;rintro e w1 ⟨rfl,f1⟩)
    go_ret
    exact ⟨k,rfl,by rw [HP.out];simp,hf0.step0 f1⟩
   ·have hp':p k = false:=by simpa using hp
    rw [hp'] at hc
    have HP:=Lib.hid hp'
    clear hp hp'
    go_wp2_with (go_at_call 67;refine hc.mono ?_;rintro e w1 ⟨rfl,f1⟩)
    go_roundg (l.length - (k + 1))
    case measure=>omega
    case rel=>exact ⟨k + 1,by simp,rfl,by omega,fun j hj=>by
     rcases Nat.lt_or_ge j k with h | h
     ·exact HJ.out j h
     ·have:j = k:=by omega
      rw [this];exact HP.out,hf0.step0 f1⟩
  ·have hkl:k = l.length:=by omega
   subst hkl
   have i1:¬ (l.length:Int) < (l.length:Int):=by omega
   have HP:=Lib.hid (any_none HJ.out)
   go_wp2_with fail
   go_ret
   exact ⟨-1,rfl,by rw [HP.out];rfl,hf0⟩
set_option maxRecDepth 100000 in
theorem ixC1_ct (w:World) (A:Option Addr) (c n:Nat) (l:List OpW) (hn:l.length = n) (hs:Sl w A (codO.row l)) (hb:l.length ≤ 1000000000) (c1:Value) (p:Nat → Bool)
  (hf:∀ w',Fr noB w w' → ∀ i (hi:i < l.length),Calls Tryz.prog 67 #[.agg (codO.A l[i]),c1] w' (Gives w' (.bool (p i)))) :
  Calls Tryz.prog 66 #[.slice A n c,.func (.func 67) #[] #[c1]] w (Gives w (.bool ((List.range l.length).any p))):=by
 have h:=Lib.hid (ixC1_ix w A c n l hn hs hb c1 p hf)
 clear hf hs
 subst hn
 generalize (List.range l.length).any p = b at h
 go_enter Tryz.func66,Tryz.ntmps66
 go_wp2_with (go_at_call 97;refine h.out.mono ?_;rintro e w1 ⟨z,rfl,hz,f1⟩)
 go_ret
 exact ⟨by rw [← hz];rfl,f1⟩
end Go.Proofs.YtjpieiccpbcabaaGreat
namespace Go.Proofs.YtjpieiccpbcabaaGreat
open Go.RowKit Go.Maps Go.Sort Go.Shelf
attribute [local go_sem] Oper.semAt_some
theorem timeOk_any (L:Hst) (c:Chg):timeOk L c = !(List.range c.Parents.length).any (fun i=>match findC L (c.Parents.getD i zID) with | none=>false | some d=>decide (c.Time ≤ d.Time)):=by
 rw [any_rangeD c.Parents zID (fun p=>match findC L p with | none=>false | some d=>decide (c.Time ≤ d.Time))]
 unfold timeOk
 rw [List.all_eq_not_any_not]
 congr 2
 funext p
 cases findC L p with
 | none=>rfl
 | some d =>
  simp only
  rw [← decide_not]
  congr 1
  rw [eq_iff_iff]
  omega
set_option maxRecDepth 100000 in
set_option maxHeartbeats 1000000 in
theorem mgRight_any {w:World} {H:Nat} {S:Nat → Prop} {L:Hst} (h:Hs w H S L) (r:CgW) (rs:List OpW) (c:Chg) (hc:CgIn w r rs c) :
  Calls Tryz.prog 36 #[.pointer (some ⟨H,0,none⟩),.agg (codC.A r)] w (Gives w (.bool (rightCh c && timeOk L c))):=by
 have f0:Fr noB w ((w.alloc (.cells #[.pointer (some ⟨H,0,none⟩)] 25)).alloc (.cells (codC.A r) 35)):=((Fr.refl noB w).alloc _).alloc _
 have hz:(w.alloc (.cells #[.pointer (some ⟨H,0,none⟩)] 25)).heap.size = w.heap.size + 1:=by simp
 have b0:((w.alloc (.cells #[.pointer (some ⟨H,0,none⟩)] 25)).alloc (.cells (codC.A r) 35)).cell? ⟨w.heap.size,0,none⟩ = some (.pointer (some ⟨H,0,none⟩)):=cell_fr0 ((Blk.new w 25 [.pointer (some ⟨H,0,none⟩)]).cell 0) ((Fr.refl noB _).alloc _)
 have q0:codC.rd ((w.alloc (.cells #[.pointer (some ⟨H,0,none⟩)] 25)).alloc (.cells (codC.A r) 35)) (w.alloc (.cells #[.pointer (some ⟨H,0,none⟩)] 25)).heap.size 0 = some r:=Cod.rd_new _ 35 r
 rw [hz] at q0
 have CP:=Lib.hid (fun w' (f:Fr noB w w')=>putChange_any w' r rs c (hc.fr f))
 have HS:=Lib.hid h
 have HC:=Lib.hid hc
 have hrm:(rightCh c && timeOk L c) = (rightCh c && !(List.range c.Parents.length).any (fun i=>match findC L (c.Parents.getD i zID) with | none=>false | some d=>decide (c.Time ≤ d.Time))):=by rw [timeOk_any]
 rw [hrm]
 obtain ⟨bad,hbad⟩:∃ b,b = (List.range c.Parents.length).any (fun i=>match findC L (c.Parents.getD i zID) with | none=>false | some d=>decide (c.Time ≤ d.Time)):=⟨_,rfl⟩
 rw [← hbad]
 have HB:=Lib.hid hbad
 clear hbad hrm h hc
 go_enter Tryz.func36,Tryz.ntmps36
 go_upto_region 1 with fail
 generalize (w.alloc (.cells #[.pointer (some ⟨H,0,none⟩)] 25)).alloc (.cells (codC.A r) 35) = W0 at f0 b0 q0 ⊢
 generalize w.heap.size = P at b0 q0 ⊢
 cases hr:rightCh c with
 | false =>
  have HR:=Lib.hid (show putCh c = none by unfold putCh;rw [hr];rfl)
  have HG:=Lib.hid hr
  clear hr
  go_wp2_with (go_at_call 64;refine (CP.out _ f0).mono ?_;rintro e w2 ⟨A2,c2,rfl,_,f2,_⟩;rw [HR.out])
  go_ret
  exact ⟨by rw [HG.out];rfl,f0.step0 f2⟩
 | true =>
  have HR:=Lib.hid (show putCh c = some (chB c) by unfold putCh;rw [hr];rfl)
  have HG:=Lib.hid hr
  clear hr
  go_upto_region 2 with (go_at_call 64;refine (CP.out _ f0).mono ?_;rintro e w2 ⟨A2,c2,rfl,_,f2,_⟩;rw [HR.out])
  have g2:=f0.step0 f2
  have b2:=cell_fr0 b0 f2
  have q2:=Cod.rd_fr0 q0 f2
  have qa:=cgAt q2
  have u1:=qa.parents
  have t1:=qa.time
  rw [← HC.out.time] at t1
  rw [← HC.out.pl] at u1
  have CI:=Lib.hid (ixR1_ct w2 r.PA r.pc c.Parents.length c.Parents rfl (HC.out.ps.fr0 g2) (by have:=(rightCh_parts HG.out).1;omega) (.pointer (some ⟨P,0,none⟩)) (.pointer (some ⟨P + 1,0,none⟩)) (fun i=>match findC L (c.Parents.getD i zID) with | none=>false | some d=>decide (c.Time ≤ d.Time)) (fun w' f i hi=>by
   have h1:=mgRight1_any ((HS.out.fr0 g2).fr0 f) P (P + 1) c.Time (cell_fr0 b2 f) (cell_fr0 t1 f) c.Parents[i]
   have e:c.Parents.getD i zID = c.Parents[i]:=by rw [List.getD_eq_getElem?_getD,List.getElem?_eq_getElem hi];rfl
   rw [e]
   exact h1))
  rw [← HB.out] at CI
  clear q2 q0 b0 t1 qa
  go_wp2_with (go_at_call 33;refine CI.out.mono ?_;rintro e w3 ⟨rfl,f3⟩)
  go_ret
  exact ⟨by rw [HG.out];rfl,g2.step0 f3⟩
theorem clash_any (P os:List Opn):clashO P os = (List.range os.length).any (fun i=>match findO P (os.getD i (opOf zOpW [])).At with | none=>false | some x=>!decide (x = os.getD i (opOf zOpW []))) :=
 (any_rangeD os (opOf zOpW []) (fun o=>match findO P o.At with | none=>false | some x=>!decide (x = o))).symm
set_option maxRecDepth 100000 in
set_option maxHeartbeats 1000000 in
theorem mgClash_any {w:World} {H:Nat} {S:Nat → Prop} {L:Hst} (h:Hs w H S L) (A:Option Addr) (c n:Nat) (rs:List OpW) (os:List Opn) (hn:rs.length = n) (hs:Sl w A (codO.row rs)) (hX:AllO OpIn w rs os) (hb:os.length ≤ 1000000) (hw:∀ o ∈ os,wfS o.At = true) :
  Calls Tryz.prog 37 #[.pointer (some ⟨H,0,none⟩),.slice A n c] w (Gives w (.bool (clashO (opsH L) os))):=by
 have f0:Fr noB w (w.alloc (.cells #[.pointer (some ⟨H,0,none⟩)] 25)):=(Fr.refl noB w).alloc _
 have b0:(w.alloc (.cells #[.pointer (some ⟨H,0,none⟩)] 25)).cell? ⟨w.heap.size,0,none⟩ = some (.pointer (some ⟨H,0,none⟩)):=(Blk.new w 25 [.pointer (some ⟨H,0,none⟩)]).cell 0
 have hrl:=hX.1
 have CI:=Lib.hid (ixC1_ct (w.alloc (.cells #[.pointer (some ⟨H,0,none⟩)] 25)) A c n rs hn (hs.fr0 f0) (by omega) (.pointer (some ⟨w.heap.size,0,none⟩)) (fun i=>match findO (opsH L) (os.getD i (opOf zOpW [])).At with | none=>false | some x=>!decide (x = os.getD i (opOf zOpW []))) (fun w' f i hi=>by
  have hi':i < os.length:=by omega
  have h1:=mgClash1_any ((h.fr0 f0).fr0 f) w.heap.size (cell_fr0 b0 f) rs[i] os[i] (((hX.2 i hi hi').fr f0).fr f) (hw _ (List.getElem_mem hi'))
  have e:os.getD i (opOf zOpW []) = os[i]:=by rw [List.getD_eq_getElem?_getD,List.getElem?_eq_getElem hi'];rfl
  rw [e]
  exact h1))
 rw [hrl,← clash_any] at CI
 generalize clashO (opsH L) os = b at CI ⊢
 clear h hs hX hw hrl
 go_enter Tryz.func37,Tryz.ntmps37
 go_wp2_with (go_at_call 66;refine CI.out.mono ?_;rintro e w3 ⟨rfl,f3⟩)
 go_ret
 exact ⟨rfl,f0.step0 f3⟩
end Go.Proofs.YtjpieiccpbcabaaGreat
namespace Go.Proofs.YtjpieiccpbcabaaGreat
open Go.RowKit Go.Maps Go.Sort Go.Shelf
attribute [local go_sem] Oper.semAt_some
def Add15 (w:World) (H:Nat) (S:Nat → Prop) (L:Hst) (x:ID) (c:Chg) (e:Ending) (w':World):Prop :=
 e = .returned (.int .i64 (addH L x c).1) ∧ Hs w' H (grF S w w') (addH L x c).2 ∧ Fr S w w'
theorem Hs.same {w w':World} {H:Nat} {S:Nat → Prop} {L:Hst} (h:Hs w H S L) (f:Fr noB w w'):Hs w' H (grF S w w') L:=by
 obtain ⟨D,A,O,kvA,kvO,F,Q,h1,h2,h3⟩:=h
 exact ⟨D,A,O,kvA,kvO,F,Q,h1.fr0 f,fun b hb=>.inl (h2 b hb),fun b hb=>hb.elim (fun h=>Nat.lt_of_lt_of_le (h3 b h) f.size) (fun h=>h.2)⟩
theorem HsA.dag0 {w w':World} {H D A O:Nat} {kvA:List (ID × Value)} {kvO:List (St × Value)} {F Q:Nat → Prop} {L:Hst} (h:HsA w H D A O kvA kvO F Q L) (hd:DagAt w' D (grF F w w') (dgH L)) (f:Fr F w w'):HsA w' H D A O kvA kvO (grF F w w') Q L:=by
 have lH:=Blk.lt h.blk
 have lA:=mpI_lt h.all
 have lO:=mpT_lt h.ops
 have hq:∀ g,Q g → ¬ F g:=fun g hg=>(h.q g hg).1
 refine ⟨h.blk.fr f h.nFH,hd,mpI_fr h.all f h.nFA,mpT_fr h.ops f h.nFO,h.cn,fun y d hy=>?_,h.os.fr f hq,h.ok,fun hb=>?_,fun hb=>?_,fun hb=>?_,h.nAO,fun g hg=>?_,fun b hb=>?_⟩
 ·obtain ⟨r,rs,h1,h2⟩:=h.cs y d hy
  exact ⟨r,rs,h1,h2.fr f hq⟩
 ·rcases hb with hb | hb
  ·exact h.nFH hb
  ·omega
 ·rcases hb with hb | hb
  ·exact h.nFA hb
  ·omega
 ·rcases hb with hb | hb
  ·exact h.nFO hb
  ·omega
 ·obtain ⟨a,b,c,d⟩:=h.q g hg
  exact ⟨fun hb=>hb.elim a (fun hb=>by omega),b,c,Nat.lt_of_lt_of_le d f.size⟩
 ·exact hb.elim (fun hb=>Nat.lt_of_lt_of_le (h.lt b hb) f.size) (fun hb=>hb.2)
theorem findO_comm {P R:List Opn} (h:SameO (P ++ R)) (s:St):findO (P ++ R) s = findO (R ++ P) s:=by
 cases h1:findO (P ++ R) s with
 | none =>
  symm
  rw [findO_none] at h1 ⊢
  exact fun o ho=>h1 o (by simpa [or_comm] using ho)
 | some o =>
  obtain ⟨m1,e1⟩:=findO_some h1
  cases h2:findO (R ++ P) s with
  | none=>exact absurd e1 (findO_none.1 h2 o (by simpa [or_comm] using m1))
  | some o' =>
   obtain ⟨m2,e2⟩:=findO_some h2
   rw [h o m1 o' (by simpa [or_comm] using m2) (e1.trans e2.symm)]
theorem SameO.sub {P R:List Opn} (h:SameO P) (hs:∀ o ∈ R,o ∈ P):SameO R:=fun o ho o' ho' e=>h o (hs o ho) o' (hs o' ho') e
theorem HsA.more {w w':World} {H D A O:Nat} {kvA:List (ID × Value)} {kvO kvO':List (St × Value)} {F F' Q Q' M:Nat → Prop} {L:Hst} {x:ID} {c:Chg} {r:CgW} {rs:List OpW}
  (h:HsA w H D A O kvA kvO F Q L) (f:Fr M w w') (hMH:¬ M H) (hMQ:∀ g,Q g → ¬ M g) (hd:DagAt w' D F' (dgH ((x,c) :: L))) (hx:findC L x = none)
  (hA:mpI w' A = some (putL kvA x (.agg (codC.A r)))) (hO:mpT w' O = some kvO') (hos:OpsM (fun g=>Q g ∨ Q' g) w' kvO' (opsH L ++ c.Ops)) (hc:CgQ Q' w' r rs c) (ok:HOk ((x,c) :: L))
  (n1:¬ F' H) (n2:¬ F' A) (n3:¬ F' O) (hq:∀ g,Q g → ¬ F' g) (hq':∀ g,Q' g → ¬ F' g ∧ g ≠ A ∧ g ≠ O ∧ g < w'.heap.size) (hl:∀ b,F' b → b < w'.heap.size) :
  HsA w' H D A O (putL kvA x (.agg (codC.A r))) kvO' F' (fun g=>Q g ∨ Q' g) ((x,c) :: L):=by
 refine ⟨h.blk.fr f hMH,hd,hA,hO,fun y hy=>?_,fun y d hy=>?_,hos.congr fun s=>?_,ok,n1,n2,n3,h.nAO,fun g hg=>?_,hl⟩
 ·have hy':(if y = x then some c else findC L y) = none:=hy
  by_cases e:y = x
  ·rw [if_pos e] at hy';cases hy'
  ·rw [if_neg e] at hy'
   rw [look_putA,if_neg (fun e'=>e e'.symm)]
   exact h.cn y hy'
 ·have hy':(if y = x then some c else findC L y) = some d:=hy
  by_cases e:y = x
  ·rw [if_pos e] at hy'
   injection hy' with hy'
   subst hy'
   exact ⟨r,rs,by rw [look_putA,if_pos e.symm],hc.mono fun g hg=>.inr hg⟩
  ·rw [if_neg e] at hy'
   obtain ⟨r',rs',h1,h2⟩:=h.cs y d hy'
   exact ⟨r',rs',by rw [look_putA,if_neg (fun e'=>e e'.symm)];exact h1,(h2.fr f hMQ).mono fun g hg=>.inl hg⟩
 ·have e:opsH ((x,c) :: L) = c.Ops ++ opsH L:=rfl
  rw [e]
  have hs:SameO (opsH L ++ c.Ops):=ok.same.sub fun o ho=>by rw [e];simpa [or_comm] using ho
  exact findO_comm hs s
 ·rcases hg with hg | hg
  ·obtain ⟨a,b,d,g'⟩:=h.q g hg
   exact ⟨hq g hg,b,d,Nat.lt_of_lt_of_le g' f.size⟩
  ·exact hq' g hg
end Go.Proofs.YtjpieiccpbcabaaGreat
