/- Contract: stamp.Sort of operations of unlike times. (ex_ldO_at, ex_ldD_at) -/
import Derived.Test.YtjpieiccpbcabaaGreatGwAKu
set_option linter.unusedVariables false
set_option linter.unusedSimpArgs false
namespace Go.Proofs.YtjpieiccpbcabaaGreat
open Go.RowKit Go.Sort
attribute [local go_sem] Oper.semAt_some
def SrtdTo (w:World) (os:List Opn) (e:Ending) (w':World):Prop :=
 ∃ (A:Option Addr) (c:Nat) (rs:List OpW) (L:List Opn),e = .returned (.slice A rs.length c) ∧ L.Perm os ∧ SrtL L ∧ Sl w' A (codO.row rs) ∧ AllO (OpN w.heap.size) w' rs L ∧ (rs ≠ [] → ∃ g,A = some ⟨g,0,none⟩ ∧ w.heap.size ≤ g ∧ RwA codO w' g rs.toArray) ∧ Fr noB w w'
set_option maxRecDepth 100000 in
set_option maxHeartbeats 4000000 in
theorem sSortD_any (w:World) (A:Option Addr) (c n:Nat) (rs:List OpW) (os:List Opn) (hn:rs.length = n) (hs:Sl w A (codO.row rs)) (hX:AllO OpIn w rs os) (hr:(os.map (·.At)).Nodup) (hb:os.length ≤ 1000000) (hov:∀ o ∈ os,o.Over.length ≤ 1000000) :
  Calls Tryz.prog 44 #[.slice A n c] w (SrtdTo w os):=by
 subst hn
 have HXL:=Lib.hid hX.1
 have HX:=Lib.hid hX
 have HR:=Lib.hid hr
 have HB:=Lib.hid hb
 have HOV:=Lib.hid hov
 have CO:=Lib.hid (clOps_any w A c rs rs.length rfl hs (by have:=hX.1;omega))
 clear hs hX hr hb hov
 go_enter Tryz.func44,Tryz.ntmps44
 go_upto_region 2 with (go_at_call 72;refine CO.out.mono ?_;rintro e w1 ⟨A1,c1,rfl,o1,f1,hc1⟩)
 have h0:SoLoop w A1 c1 os os.length (.int .i64 ((0:Nat):Int)) w1:=⟨0,rs,rfl,rfl,Nat.zero_le _,HXL.out,o1,fun i h h'=>⟨fun _=>HX.out.2 i h h',fun h=>absurd h (by omega)⟩,f1⟩
 rw [HXL.out]
 clear CO o1 f1 hc1
 go_wp2_with fail
 go_loopg [9] os.length (fun gk iv wr=>SoLoop w A1 c1 os gk iv wr)
 case atStart=>exact h0
 case round =>
  clear h0
  obtain ⟨k,qs,rfl,rfl,hk,hql,ho,hq,hf⟩:=hrel
  have HQ:=Lib.hid hq
  clear hq
  by_cases hlt:k < os.length
  ·have i2:(k:Int) < (os.length:Int):=by omega
   have i0:(0:Int) ≤ (k:Int):=by omega
   have hkq:k < qs.length:=by omega
   obtain ⟨g,rfl,hg,_,_,_⟩:=RwA.own ho (by intro h;rw [h] at hkq;simp at hkq)
   have e1:codO.rd wr g (k * 41) = some qs[k]:=by
    have:=(Sl.own ho).rd k hkq
    simpa [show codO.n = 41 from rfl] using this
   have u1:wr.cell? ⟨g,k * 41 + 40,none⟩ = some (.slice (qs[k]).A (qs[k]).n (qs[k]).c):=Cod.rd_cell e1 40 (getEnd (qs[k]).Data (opL qs[k]) [.slice (qs[k]).A (qs[k]).n (qs[k]).c] 40 rfl 0)
   have hin:=((HQ.out k hkq hlt).1 (Nat.le_refl _)).fr hf
   have CS:=Lib.hid (clStamps_any wr (qs[k]).A (qs[k]).c (os[k]).Over (qs[k]).n hin.len hin.sl (by have:=HOV.out _ (List.getElem_mem hlt);omega))
   have HIN:=Lib.hid hin
   have HO:=Lib.hid ho
   obtain ⟨x,hx⟩:∃ x,x = qs[k]:=⟨_,rfl⟩
   obtain ⟨ov,hov⟩:∃ ov,ov = (os[k]).Over:=⟨_,rfl⟩
   rw [← hov] at CS
   rw [← hx] at CS u1
   have HXE:=Lib.hid (And.intro hx hov)
   have HKQ:=Lib.hid hkq
   have HQL:=Lib.hid hql
   clear hin ho e1 hx hov hql
   go_upto_region 6 with (go_at_call 73;go_loud (refine CS.out.mono ?_;rintro e w4 ⟨A4,c4,rfl,o4,f4,hc4⟩;have u4:=cell_fr0 u1 f4;have z4:w4.frozen? ⟨g,k * 41 + 40,none⟩ = false:=(OwnC.put1 (C:=codO) (w0:=w) (own_new0 HO.out f4) rfl k HKQ.out 40 (by decide) (.slice A4 ov.length c4) { qs[k]'HKQ.out with A:=A4,n:=ov.length,c:=c4 } (seO_Over _ _ _ _)).2.2))
   obtain ⟨hp1,hp2,_⟩:=OwnC.put1 (C:=codO) (w0:=w) (own_new0 HO.out f4) rfl k HKQ.out 40 (by decide) (.slice A4 ov.length c4) { qs[k]'HKQ.out with A:=A4,n:=ov.length,c:=c4 } (seO_Over _ _ _ _)
   obtain ⟨hgl,cur,zz,hgb⟩:=own_blk (own_new0 HO.out f4) (g:=g) rfl
   have o5:=own_fr o4 hp2 (fun q hq hm=>by
    rw [ownBlock_sl'] at hq
    obtain ⟨_,cur',z',h4⟩:=own_blk o4 hq
    have e:q = g:=hm
    subst e
    rw [hgb] at h4
    injection h4 with h4
    injection h4 with _ h4
    exact absurd h4 (by decide))
   have hF5:=(hf.step0 f4).step1 hp2 hgl
   have hN5:∀ i (h:i < (qs.set k { qs[k]'HKQ.out with A:=A4,n:=ov.length,c:=c4 }).length) (h':i < os.length),(k + 1 ≤ i → OpIn w (qs.set k { qs[k]'HKQ.out with A:=A4,n:=ov.length,c:=c4 })[i] os[i]) ∧ (i < k + 1 → OpN w.heap.size (w4.setCell ⟨g,k * 41 + 40,none⟩ (.slice A4 ov.length c4)) (qs.set k { qs[k]'HKQ.out with A:=A4,n:=ov.length,c:=c4 })[i] os[i]):=by
    intro i h h'
    have hi:i < qs.length:=by simpa using h
    by_cases e:i = k
    ·subst e
     rw [List.getElem_set_self]
     have h0:=HIN.out
     have o6:=own_base o5 hf.size
     refine ⟨fun h=>absurd h (by omega),fun _=>⟨⟨⟨h0.eq,by rw [HXE.out.2],by rw [← HXE.out.2];exact Sl.own o6,h0.bd,h0.nm⟩,.inr (by rw [← HXE.out.2];exact own_base o6 (Nat.zero_le _))⟩,by rw [← HXE.out.2];exact o6⟩⟩
    ·rw [List.getElem_set_ne (Ne.symm e)]
     exact ⟨fun h=>(HQ.out i hi h').1 (by omega),fun h=>(((HQ.out i hi h').2 (by omega)).fr0 f4).frG hgb hp2⟩
   have HNX:=Lib.hid (And.intro hp1 (And.intro hN5 hF5))
   clear hp1 hN5 hF5 o5 hgb hgl hp2 u4 z4
   have hi9:k ≤ 1000000:=by have:=HB.out;omega
   have HLT:=Lib.hid hlt
   go_wp2_with fail
   go_roundg (os.length - (k + 1))
   case measure=>have:=HLT.out;omega
   case rel=>exact ⟨k + 1,_,by first | rfl | simp | exact congrArg (Value.int .i64) (IntWalk.wrap64_in _ (by omega)),rfl,HLT.out,by rw [List.length_set];exact HQL.out,HNX.out.1,HNX.out.2.1,HNX.out.2.2⟩
  ·have i2:¬ (k:Int) < (os.length:Int):=by omega
   have hke:k = os.length:=by omega
   have hqa:AllO (OpN w.heap.size) wr qs os:=⟨hql,fun i h h'=>(HQ.out i h h').2 (by omega)⟩
   have hat:∀ i (h:i < qs.length) (h':i < os.length),qs[i].At = os[i].At:=fun i h h'=>by rw [(hqa.2 i h h').op.inn.eq];rfl
   have hrs:(qs.map (·.At)).Nodup:=by
    have e:qs.map (·.At) = os.map (·.At):=by
     apply List.ext_getElem
     ·simp [hql]
     ·intro i h1 h2
      rw [List.getElem_map,List.getElem_map]
      exact hat i (by simpa using h1) (by simpa using h2)
    rw [e]
    exact HR.out
   have SS:=Lib.hid (ssOp_any (fun _=>True) (fun x y=>cmpS x.At y.At) swoS wr w.heap.size A1 c1 os.length qs undef hql (by rw [← hql];exact ho) (fun _ _=>trivial) (by have:=HB.out;omega) (fun g hg W d hd hS x y _ _=>sSort1_any W x y))
   have HQA:=Lib.hid hqa
   have HRS:=Lib.hid hrs
   have HOW:=Lib.hid ho
   have HQL:=Lib.hid hql
   clear hke hqa hat hrs ho hql
   have key:∀ l5:List OpW,l5.Perm qs → l5.Pairwise (fun x y=>ltC (fun x y:OpW=>cmpS x.At y.At) y x = false) → l5.Pairwise fun a b=>cmpS a.At b.At < 0:=fun l5 hp hw=>by
    have hnd:(l5.map (·.At)).Nodup:=(hp.map (·.At)).nodup_iff.2 HRS.out
    rw [List.Nodup,List.pairwise_map] at hnd
    refine hw.imp₂ (fun a b h1 h2=>?_) hnd
    have h1:¬ cmpS b.At a.At < 0:=by simpa [ltC] using h1
    have h3:cmpS a.At b.At ≠ 0:=fun e=>h2 (cmpS_zero.1 e)
    have:=cmpS_flip a.At b.At
    omega
   have HKEY:=Lib.hid key
   clear key
   go_wp2_with (first
    | (go_at_call 74;refine SS.out.mono ?_;rintro e w5 ⟨rfl,l5,hpm,hpw,hs5,hf5,hr5⟩;have hsr:=HKEY.out l5 hpm hpw)
    | (go_at_call 77;refine (cptOps_none w5 A1 c1 os.length l5 (by rw [hpm.length_eq];exact HQL.out) hs5 (fun i h=>fun e=>by have:=List.pairwise_iff_getElem.1 hsr i (i + 1) (by omega) h (by omega);rw [e,cmpS_self] at this;omega) (by have:=HB.out;have:=HQL.out;have:=hpm.length_eq;omega)).mono ?_;rintro e w6 ⟨rfl,f6⟩))
   go_ret
   have hall:AllO (OpN w.heap.size) w6 qs os:=HQA.out.map fun r x h=>(h.frA HOW.out hf5).fr0 f6
   obtain ⟨L,hLp,hLa⟩:=AllO.perm hpm hall
   have hLs:SrtL L:=by
    unfold SrtL
    rw [List.pairwise_iff_getElem]
    intro i j hi hj hij
    have h1:=List.pairwise_iff_getElem.1 hsr i j (by rw [hLa.1];exact hi) (by rw [hLa.1];exact hj) hij
    have e1:L[i].At = (l5[i]'(by rw [hLa.1];exact hi)).At:=by rw [(hLa.2 i (by rw [hLa.1];exact hi) hi).op.inn.eq];rfl
    have e2:L[j].At = (l5[j]'(by rw [hLa.1];exact hj)).At:=by rw [(hLa.2 j (by rw [hLa.1];exact hj) hj).op.inn.eq];rfl
    rw [e1,e2]
    exact h1
   refine ⟨A1,c1,l5,L,by rw [hpm.length_eq,HQL.out];rfl,hLp,hLs,hs5.fr0 f6,hLa,fun hne=>?_,(hf.step hf5 (fun b hb=>.inl (own_lt HOW.out b hb).1)).step0 f6⟩
   have hq0:qs ≠ []:=fun h0=>hne (by rw [h0] at hpm;exact hpm.eq_nil)
   obtain ⟨g,hg1,_⟩:=RwA.own HOW.out hq0
   exact ⟨g,hg1,(own_lt HOW.out g (by rw [hg1];rfl)).1,(hr5 g hg1 hne).fr0 f6⟩
end Go.Proofs.YtjpieiccpbcabaaGreat
