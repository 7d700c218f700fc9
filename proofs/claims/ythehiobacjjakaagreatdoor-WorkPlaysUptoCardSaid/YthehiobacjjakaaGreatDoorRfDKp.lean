/- Contract: pollardref17.List. (ex_ldS_at ex_ldR_at ex_ldEv_at ex_bldEv_at) -/
import Derived.Test.YthehiobacjjakaaGreatDoorSmVKp
import Derived.Test.YthehiobacjjakaaGreatDoorWkIKp
import Derived.Test.YthehiobacjjakaaGreatDoorRegTKp
import Derived.Deep.CutRange
set_option linter.unusedVariables false
set_option linter.unusedSimpArgs false
namespace Go.Proofs.YthehiobacjjakaaGreatDoor
open Go.RowKit Go.Maps Go.Sort
def RlTo (w:World) (ys:List EnP) (e:Ending) (w':World):Prop:=∃ (A:Option Addr) (c:Nat) (os:List EnW),e = .returned (.slice A os.length c) ∧ Sl w' A (codEv.row os) ∧ AllO EvO w' os ys ∧ Fr noB w w'
def RlR (W:World) (xs:List RwP) (pt:RwP → List UInt8) (gk:Nat) (iv ov:Value) (wr:World):Prop :=
 ∃ (k:Nat) (A:Option Addr) (c:Nat) (os:List EnW),iv = .int .i64 (k:Int) ∧ ov = .slice A os.length c ∧ gk = xs.length - k ∧ k ≤ xs.length ∧ Sl wr A (codEv.row os) ∧ AllO EvO wr os (refL xs pt (xs.take k)) ∧ Fr noB W wr
def RlI (w:World) (Q:Nat) (x:EnW) (os:List EnW) (gk:Nat) (nv dv kv:Value) (wr:World):Prop :=
 ∃ (k:Nat) (b:Bool) (A:Option Addr) (c:Nat) (nx:List EnW),kv = .int .i64 (k:Int) ∧ dv = .bool b ∧ nv = .slice A nx.length c ∧ gk = os.length - k ∧ k ≤ os.length ∧ OwnC codEv w wr A c nx ∧ InsS x os nx b k ∧ nx.length ≤ k + b.toNat ∧ Fr noB w wr
set_option maxRecDepth 100000 in
set_option maxHeartbeats 4000000 in
theorem rlist_any (w:World) (A:Option Addr) (c n:Nat) (rs:List RwW) (xs:List RwP) (hn:rs.length = n) (hs:Sl w A (codR.row rs)) (hb:rs.length ≤ 1000000) (hX:RwsIn w rs xs) (hok:NodesOk xs) (pt:RwP → List UInt8)
  (hpt:∀ x ∈ xs,liesR xs x.Node zSt = true → PathOf xs x (pt x)) :
  Calls Tryz.prog 22 #[.slice A n c] w (RlTo w (refL xs pt xs)):=by
 subst hn
 have HLX:=Lib.hid hX.len
 have HS:=Lib.hid hs
 have HX:=Lib.hid hX
 have HB:=Lib.hid hb
 have PA:=Lib.hid (fun x hx hl w' f r hr=>rpath_any (c:=c) hs hb hX hok (hpt x hx hl) w' f r hr)
 have LI:=Lib.hid (fun s w' (f:Fr noB w w')=>r12lies_any w' A c rs.length rs xs rfl (hs.fr0 f) (by omega) (hX.fr f) s zSt)
 clear hs hX hb hok hpt
 go_enter Tryz.func22,Tryz.ntmps22
 go_upto_region 2 with fail
 have fa:Fr noB w (w.alloc (.cells #[] 85)):=(Fr.refl noB w).alloc _
 have H0:=Lib.hid (show RlR w xs pt xs.length (.int .i64 ((0:Nat):Int)) (.slice (some ⟨w.heap.size,0,none⟩) 0 0) (w.alloc (.cells #[] 85)) from ⟨0,_,0,[],rfl,rfl,rfl,Nat.zero_le _,Sl.nil _ _,by simp [refL,AllO.nil],fa⟩)
 clear fa
 generalize w.alloc (.cells #[] 85) = w1 at H0 ⊢
 generalize (some ⟨w.heap.size,0,none⟩:Option Addr) = B0 at H0 ⊢
 go_wp2_with fail
 go_loopg [4,3] xs.length (fun gk iv ov wr=>RlR w xs pt gk iv ov wr)
 case atStart=>exact H0.out
 case round =>
  clear H0
  obtain ⟨k,Ao,co,os,rfl,rfl,rfl,hk,hso,hao,hf⟩:=hrel
  have HSO:=Lib.hid hso
  have HAO:=Lib.hid hao
  have HF:=Lib.hid hf
  clear hso hao hf
  by_cases hlx:k < xs.length
  ·have hlt:k < rs.length:=by rw [HLX.out];exact hlx
   have i1:(k:Int) < (rs.length:Int):=by omega
   have i0:(0:Int) ≤ (k:Int):=by omega
   obtain ⟨g,off,rfl,hg⟩:=HS.out.adC (by omega)
   have hin:=HX.out.at_ k hlt hlx
   have ro:codR.rd wr g (off + k * 8) = some rs[k]:=(HS.out.fr0 HF.out).rd k hlt
   have hmem:=List.getElem_mem hlx
   have HTK:=Lib.hid (show refL xs pt (xs.take (k + 1)) = if liesR xs (xs[k]).Node zSt = true then insB EnP.Path ⟨pt xs[k],(xs[k]).Node,(xs[k]).Heads⟩ (refL xs pt (xs.take k)) else refL xs pt (xs.take k) by rw [List.take_succ_eq_append_getElem hlx,refL_snoc])
   have PX:=Lib.hid (PA.out xs[k] hmem)
   have HIN:=Lib.hid hin
   have HOL:=Lib.hid (show os.length ≤ k by rw [HAO.out.1];have:=refL_len xs pt (xs.take k);simp at this;omega)
   have hnd:=hin.node
   generalize xs[k] = x at hin HTK PX HIN hnd
   generalize rs[k] = r at hin ro HIN hnd
   have wk:wrap64 ((k:Int) + 1) = (k:Int) + 1:=IntWalk.wrap64_in _ (by have:=HB.out;omega)
   have LX:=Lib.hid (LI.out x.Node wr HF.out)
   have HLT:=Lib.hid hlx
   clear hlt hlx hk hin hmem hg
   have rn:=(rwAtO ro).node
   rw [← hnd] at rn
   clear hnd
   cases hli:liesR xs x.Node zSt with
   | false =>
    have HTF:=Lib.hid (show refL xs pt (xs.take (k + 1)) = refL xs pt (xs.take k) by rw [HTK.out,hli];rfl)
    rw [hli] at LX
    clear hli HTK PX
    go_wp2_with (go_at_call 35;refine LX.out.mono ?_;rintro e w2 ⟨rfl,f2⟩)
    go_roundg (xs.length - (k + 1))
    case measure=>have:=HLT.out;omega
    case rel=>exact ⟨k + 1,Ao,co,os,by first | exact congrArg (Value.int .i64) wk | simp,rfl,rfl,by have:=HLT.out;omega,HSO.out.fr0 f2,by rw [HTF.out];exact HAO.out.map fun r x h=>h.fr f2,HF.out.step0 f2⟩
   | true =>
    rw [hli] at LX HTK
    have hq:=PX.out hli
    generalize hpp:pt x = pp at hq HTK
    have HTT:=Lib.hid (show refL xs pt (xs.take (k + 1)) = insB EnP.Path ⟨pp,x.Node,x.Heads⟩ (refL xs pt (xs.take k)) by rw [HTK.out];rfl)
    have PW:=Lib.hid (fun w' (f:Fr noB w w')=>hq w' f r (HIN.out.fr f))
    clear hli HTK PX hq hpp
    have rh:=(rwAtO ro).heads
    have R0:=Lib.hid ro
    have R1:=Lib.hid rn
    have R2:=Lib.hid rh
    clear rh ro
    go_upto_region 6 with (go_at_call 35;refine LX.out.mono ?_;rintro e w2 ⟨rfl,f2⟩)
    have fd:Fr noB w2 w2.drew:=(Fr.refl noB _).drew
    have keep:∀ w' w'':World,Fr noB w' w'' → (codR.rd w' g (off + k * 8) = some r ∧ codS.rd w' g (off + k * 8) = some x.Node ∧ w'.cell? ⟨g,off + k * 8 + 7,none⟩ = some (.slice r.A r.n r.c)) → (codR.rd w'' g (off + k * 8) = some r ∧ codS.rd w'' g (off + k * 8) = some x.Node ∧ w''.cell? ⟨g,off + k * 8 + 7,none⟩ = some (.slice r.A r.n r.c)):=fun w' w'' f h=>⟨Cod.rd_fr0 h.1 f,Cod.rd_fr0 h.2.1 f,cell_fr0 h.2.2 f⟩
    have hF0:=keep wr w2.drew (f2.step0 fd) ⟨R0.out,R1.out,R2.out⟩
    have FV:=Lib.hid (f2.step0 fd)
    clear fd f2 rn
    refine wp_region_T 18 19 [⟨33554432,1,0⟩,⟨67108864,1,0⟩,⟨134217728,16,0⟩,⟨268435456,201326592,6⟩,⟨536870912,268435456,8⟩,⟨1073741824,570425344,17⟩,⟨2147483648,1,0⟩,⟨4294967296,16,0⟩,⟨8589934592,6442450944,192⟩,⟨17179869184,8589934592,256⟩,⟨34359738368,17179869184,512⟩,⟨68719476736,1,0⟩,⟨137438953472,16,0⟩,⟨274877906944,206158430208,6144⟩,⟨549755813888,274877906944,8192⟩,⟨1099511627776,549755813888,16384⟩,⟨2199023255552,1134945107968,33824⟩,⟨32,0,0⟩,⟨0,2199023255584,262143⟩] (.take 0 (.take 1 (.take 2 (.take 3 (.take 4 (.take 6 (.take 7 (.take 8 (.take 9 (.take 10 (.take 11 (.take 12 (.take 13 (.take 14 (.take 15 (.two 5 17 (.take 16 (.one 17 .done)) (.one 5 (.take 16 .done)))))))))))))))))) (fun w'=>codR.rd w' g (off + k * 8) = some r ∧ codS.rd w' g (off + k * 8) = some x.Node ∧ w'.cell? ⟨g,off + k * 8 + 7,none⟩ = some (.slice r.A r.n r.c)) (by kernel_rfl) rfl (by kernel_rfl) (by kernel_rfl) (by kernel_rfl) hF0 (fun hA hF=>?_)
    clear hF0
    generalize w2.drew = V at hF FV ⊢
    iterate 15
     refine wpAnyT_take (v:=?_) hA rfl (fun _ _ _ h=>h) (Or.inl ⟨by rfl,?_⟩) hF (fun hA=>?_)
     rotate_left
     ·intro wS hSw;(try dsimp only at hSw);obtain ⟨s1,s2,s3⟩:=hSw;first | (apply Eq.trans;apply ex_ldR_at;exact rfl;exact rfl;assumption;with_reducible rfl) | (apply Eq.trans;apply ex_ldS_at;exact rfl;exact rfl;assumption;with_reducible rfl) | (apply Eq.trans;apply ex_bldEv_at;exact rfl;exact rfl;exact rfl;exact rfl;with_reducible rfl) | (go_simp;try with_reducible rfl)
     try simp only [sA1,sA2,sA3,Act.put,sA4,sA5,sA6]
    refine wpAnyT_two (i:=5) (j:=17) hA rfl rfl (fun K' hK=>?_) (fun K' hK=>?_)
    ·rw [if_pos (by rfl)]
     go_simp
     go_at_call 46
     refine (PW.out V (HF.out.step0 FV.out)).mono ?_
     rintro e u1 ⟨rfl,f5⟩
     replace hF:=keep _ _ f5 hF
     refine hK.out _ _ hF (fun hA=>?_)
     clear hK K'
     try simp only [sA1,sA2,sA3,Act.put,sA4,sA5,sA6]
     refine wpAnyT_take (v:=?_) hA rfl (fun _ _ _ h=>h) (Or.inl ⟨by rfl,?_⟩) hF (fun hA=>?_)
     rotate_left
     ·intro wS hSw;(try dsimp only at hSw);obtain ⟨s1,s2,s3⟩:=hSw;first | (apply Eq.trans;apply ex_ldR_at;exact rfl;exact rfl;assumption;with_reducible rfl) | (apply Eq.trans;apply ex_ldS_at;exact rfl;exact rfl;assumption;with_reducible rfl) | (apply Eq.trans;apply ex_bldEv_at;exact rfl;exact rfl;exact rfl;exact rfl;with_reducible rfl) | (go_simp;try with_reducible rfl)
     try simp only [sA1,sA2,sA3,Act.put,sA4,sA5,sA6]
     refine wpAnyT_one hA rfl (fun K' hK=>?_)
     refine wk_runV _ _ (ex_alEv_at rfl u1) ?_
     have f6:Fr noB u1 (u1.alloc (codEv.o zEnW)):=(Fr.refl noB u1).alloc _
     have hbx:codEv.bxd (u1.alloc (codEv.o zEnW)) u1.heap.size = some zEnW:=Cod.bxd_new u1 zEnW
     replace hF:=keep _ _ f6 hF
     refine hK.out _ _ hF (fun hA=>?_)
     clear hK K'
     try simp only [sA1,sA2,sA3,Act.put,sA4,sA5,sA6]
     have FU:=FV.out.step0 (f5.step0 f6)
     have hQ:wr.heap.size ≤ u1.heap.size:=(FV.out.step0 f5).size
     generalize u1.alloc (codEv.o zEnW) = u at hbx FU hF ⊢
     generalize u1.heap.size = Q at hbx hQ ⊢
     refine wpAnyT_end hA rfl ?_
     simp only [List.drop_succ_cons,List.drop_zero]
     clear hF keep
     have hst:=okEv.stR_box hbx ⟨pp,x.Node,r.A,r.n,r.c⟩
     obtain ⟨p1,p2,p3⟩:=Cod.put_fr hbx ⟨pp,x.Node,r.A,r.n,r.c⟩
     have FP:=Lib.hid (FU.step1 p1 hQ)
     clear p1 p2
     go_upto_region 7 with fail
     generalize codEv.put u Q ⟨pp,x.Node,r.A,r.n,r.c⟩ = w7 at p3 FP ⊢
     obtain ⟨ex,hex⟩:∃ ex:EnW,ex = ⟨pp,x.Node,r.A,r.n,r.c⟩:=⟨_,rfl⟩
     rw [← hex] at p3
     have HEX:=Lib.hid hex
     have HBX:=Lib.hid p3
     have HSO7:=Lib.hid (HSO.out.fr0 FP.out)
     have fa:Fr noB w7 (w7.alloc (.cells #[] 85)):=(Fr.refl noB w7).alloc _
     have own0:OwnC codEv w7 (w7.alloc (.cells #[] 85)) (some ⟨w7.heap.size,0,none⟩) 0 []:=World.ownsRow_lit (base:=w7.heap.size) (e:=85) (size:=4) w7 #[] 0 (Nat.le_refl _) (by unfold maxLen;omega) (by simp)
     have I0:=Lib.hid (show RlI w7 Q ex os os.length (.slice (some ⟨w7.heap.size,0,none⟩) 0 0) (.bool false) (.int .i64 ((0:Nat):Int)) (w7.alloc (.cells #[] 85)) from ⟨0,false,_,0,[],rfl,rfl,rfl,rfl,Nat.zero_le _,own0,InsS.zero ex os,by simp,fa⟩)
     clear fa own0 p3 hex hst hbx FU hQ
     go_wp2_with fail
     go_loopg [6,7,8] os.length (fun gk nv dv kv wz=>RlI w7 Q ex os gk nv dv kv wz)
     case atStart=>exact I0.out
     case round =>
      clear I0
      obtain ⟨j,b,A9,c9,nx,rfl,rfl,rfl,rfl,hj,ho,hins,hnl,hfr⟩:=hrel
      have HO:=Lib.hid ho
      have HI:=Lib.hid hins
      have HNL:=Lib.hid hnl
      have HFR:=Lib.hid hfr
      have HJO:=Lib.hid hj
      clear ho hins hnl hfr
      by_cases hjl:j < os.length
      ·have j1:(j:Int) < (os.length:Int):=by omega
       have j0:(0:Int) ≤ (j:Int):=by omega
       have hsl:=HSO7.out.fr0 HFR.out
       obtain ⟨g2,off2,rfl,hg2⟩:=Sl.addr hsl (by omega)
       have ry:codEv.rd wr g2 (off2 + j * 4) = some os[j]:=Sl.rd hsl j hjl
       have HJL:=Lib.hid hjl
       generalize hy:os[j] = y at ry
       have HY:=Lib.hid (show os[j]'HJL.out = y from hy)
       have RY7:=Lib.hid (show codEv.rd w7 g2 (off2 + j * 4) = some y by rw [← HY.out];exact Sl.rd HSO7.out j HJL.out)
       have hbq:=Cod.bxd_fr0 HBX.out HFR.out
       have fdz:Fr noB wr wr.drew:=(Fr.refl noB _).drew
       have hF0:(fun w':World=>w'.cell? ⟨Q,0,none⟩ = some (.string (str ex.Path)) ∧ w'.cell? ⟨g2,off2 + j * 4,none⟩ = some (.string (str y.Path))) wr.drew:=⟨cell_fr0 (evAt (Cod.bxd_rd hbq)).path fdz,cell_fr0 (evAtO ry).path fdz⟩
       have wj:wrap64 ((j:Int) + 1) = (j:Int) + 1:=IntWalk.wrap64_in _ (by have:=HOL.out;have:=HB.out;have:=HLX.out;have:=HLT.out;omega)
       have FZ:=Lib.hid (HFR.out.step0 fdz)
       have QY:=Lib.hid (Cod.rd_fr0 ry fdz)
       have QX:=Lib.hid (Cod.bxd_rd (Cod.bxd_fr0 hbq fdz))
       have HZO:=Lib.hid (own_new0 HO.out fdz)
       clear hsl hg2 hjl hy hbq fdz hj ry
       cases b with
       | true =>
        go_upto_region 12 with fail
        refine wp_region_M 11 12 [⟨562949953421312,128,0⟩,⟨1125899906842624,562949953421312,1⟩,⟨2251799813685248,1125899906842624,2⟩,⟨4503599627370496,2251799813685280,4⟩,⟨9007199254740992,6755399441055744,12⟩,⟨18014398509481984,2251799813685256,4⟩,⟨36028797018963968,2251799813685504,4⟩,⟨72057594037927936,56294995342131200,100⟩,⟨144115188075855872,74309393851613184,132⟩,⟨288230376151711744,146366987889541120,260⟩,⟨576460752303423488,299489375220137984,532⟩,⟨1152921504606846976,578712552117108736,1028⟩] [(true,0),(true,1),(true,2),(true,3),(true,4),(true,5),(true,6),(true,7),(true,8),(true,9),(true,10)] (fun w'=>w'.cell? ⟨Q,0,none⟩ = some (.string (str ex.Path)) ∧ w'.cell? ⟨g2,off2 + j * 4,none⟩ = some (.string (str y.Path))) (by kernel_rfl) rfl (by kernel_rfl) (by kernel_rfl) (by kernel_rfl) hF0 (fun hA hF=>?_)
        iterate 3
         refine wpAnyS_take (v:=?_) hA rfl (fun _ _ _ h=>h) (Or.inl ⟨by rfl,?_⟩) hF (fun hA=>?_)
         rotate_left
         ·intro wS hSw;(try dsimp only at hSw);obtain ⟨s1,s2⟩:=hSw;first | (apply Eq.trans;apply ex_ldR_at;exact rfl;exact rfl;assumption;with_reducible rfl) | (apply Eq.trans;apply ex_ldS_at;exact rfl;exact rfl;assumption;with_reducible rfl) | (apply Eq.trans;apply ex_bldEv_at;exact rfl;exact rfl;exact rfl;exact rfl;with_reducible rfl) | (go_simp;try with_reducible rfl)
         try simp only [sA1,sA2,sA3,Act.put,sA4,sA5,sA6]
        iterate 8
         refine wpAnyS_take (v:=undef) hA rfl (fun _ _ _ h=>h) (Or.inr ⟨by rfl,rfl⟩) hF (fun hA=>?_)
         try simp only [sA1,sA2,sA3,Act.put,sA4,sA5,sA6]
        refine wpAnyS_end hA rfl ?_
        simp only [List.drop_succ_cons,List.drop_zero]
        clear hF hF0
        have HI2:=HI.out.on HJL.out
        rw [HY.out] at HI2
        have HI2:=Lib.hid HI2
        have QY1:=QY.out
        have ho1:=HZO.out
        have FV1:=FZ.out
        have hl1:=Lib.hid (show nx.length ≤ j + 1 from HNL.out)
        generalize wr.drew = wv at QY1 ho1 FV1 ⊢
        obtain ⟨A1,c1,nx1,rfl,rfl,rfl⟩:∃ A1 c1 nx1,A1 = A9 ∧ c1 = c9 ∧ nx1 = nx:=⟨_,_,_,rfl,rfl,rfl⟩
        have qy:=QY1
        have hsy:=Cod.sl_new (C:=codEv) wv [y]
        have fny:Fr noB wv (wv.alloc (codEv.ro [y])):=(Fr.refl noB wv).alloc _
        have hoy:=Lib.hid (own_new0 ho1 fny)
        have szy:=(FV1.step0 fny).size
        have FY:=Lib.hid (FV1.step0 fny)
        clear fny
        go_wp2_with (at_builtin;refine wpList_appC' etEv w7 _ rfl _ _ rfl A1 nx1.length c1 nx1 rfl rfl hoy.out (some ⟨wv.heap.size,0,none⟩) 1 1 [y] rfl hsy rfl (by have:=hl1.out;have:=HOL.out;have:=HB.out;have:=HLX.out;have:=HLT.out;have:=HJL.out;simp;omega) szy ?_;intro A8 c8 w8 hc8 hmx8 ho8 hg8 hA8)
        have F8:=Fr.own' FY.out hoy.out hg8
        go_roundg (os.length - (j + 1))
        case measure=>have:=HJL.out;omega
        case rel=>exact ⟨j + 1,true,A8,c8,nx1 ++ [y],by first | exact congrArg (Value.int .i64) wj | simp,rfl,by first | rfl | simp,rfl,by have:=HJL.out;omega,ho8,HI2.out,by have:=hl1.out;(show (_:Nat) ≤ j + 1 + 1;simp;omega),F8⟩
       | false =>
        go_upto_region 12 with fail
        refine wp_region_M 11 12 [⟨562949953421312,128,0⟩,⟨1125899906842624,562949953421312,1⟩,⟨2251799813685248,1125899906842624,2⟩,⟨4503599627370496,2251799813685280,4⟩,⟨9007199254740992,6755399441055744,12⟩,⟨18014398509481984,2251799813685256,4⟩,⟨36028797018963968,2251799813685504,4⟩,⟨72057594037927936,56294995342131200,100⟩,⟨144115188075855872,74309393851613184,132⟩,⟨288230376151711744,146366987889541120,260⟩,⟨576460752303423488,299489375220137984,532⟩,⟨1152921504606846976,578712552117108736,1028⟩] [(true,0),(true,1),(true,2),(true,3),(true,4),(true,5),(true,6),(true,7),(true,8),(true,9),(true,10)] (fun w'=>w'.cell? ⟨Q,0,none⟩ = some (.string (str ex.Path)) ∧ w'.cell? ⟨g2,off2 + j * 4,none⟩ = some (.string (str y.Path))) (by kernel_rfl) rfl (by kernel_rfl) (by kernel_rfl) (by kernel_rfl) hF0 (fun hA hF=>?_)
        iterate 10
         refine wpAnyS_take (v:=?_) hA rfl (fun _ _ _ h=>h) (Or.inl ⟨by rfl,?_⟩) hF (fun hA=>?_)
         rotate_left
         ·intro wS hSw;(try dsimp only at hSw);obtain ⟨s1,s2⟩:=hSw;first | (apply Eq.trans;apply ex_ldR_at;exact rfl;exact rfl;assumption;with_reducible rfl) | (apply Eq.trans;apply ex_ldS_at;exact rfl;exact rfl;assumption;with_reducible rfl) | (apply Eq.trans;apply ex_bldEv_at;exact rfl;exact rfl;exact rfl;exact rfl;with_reducible rfl) | (go_simp;try with_reducible rfl)
         try simp only [sA1,sA2,sA3,Act.put,sA4,sA5,sA6]
        refine wpAnyS_take (v:=.bool (Op.bytesLess ex.Path y.Path)) hA rfl (fun _ _ _ h=>h) (Or.inl ⟨by rfl,fun wS hSw=>ex_ltS_at rfl rfl rfl⟩) hF (fun hA=>?_)
        try simp only [sA1,sA2,sA3,Act.put,sA4,sA5,sA6]
        refine wpAnyS_end hA rfl ?_
        simp only [List.drop_succ_cons,List.drop_zero]
        clear hF hF0
        cases hbl:Op.bytesLess ex.Path y.Path with
        | true =>
         have HI2:=HI.out.put HJL.out (by rw [HY.out];exact hbl)
         rw [HY.out] at HI2
         have HI2:=Lib.hid HI2
         have qx:=QX.out
         have QY0:=QY
         have ho0:=HZO
         have FV0:=FZ
         have HB0:=Lib.hid (show nx.length ≤ j from HNL.out)
         clear hbl
         generalize wr.drew = wd at QY0 qx ho0 FV0 ⊢
         have hsx:=Cod.sl_new (C:=codEv) wd [ex]
         have fnx:Fr noB wd (wd.alloc (codEv.ro [ex])):=(Fr.refl noB wd).alloc _
         have hox:=Lib.hid (own_new0 ho0.out fnx)
         have szx:=(FV0.out.step0 fnx).size
         have FX:=Lib.hid (FV0.out.step0 fnx)
         have QY2:=Lib.hid (Cod.rd_fr0 QY0.out fnx)
         go_upto_region 15 with (at_builtin;refine wpList_appC' etEv w7 _ rfl _ _ rfl A9 nx.length c9 nx rfl rfl hox.out (some ⟨wd.heap.size,0,none⟩) 1 1 [ex] rfl hsx rfl (by have:=HB0.out;have:=HOL.out;have:=HB.out;have:=HLX.out;have:=HLT.out;have:=HJL.out;simp;omega) szx ?_;intro A1 c1 wv hc1 hmx1 ho1 hg1 hA1;obtain ⟨nx1,hnx⟩:∃ n1:List EnW,n1 = nx ++ [ex]:=⟨_,rfl⟩;rw [← hnx] at ho1 ⊢;have HNX:=Lib.hid hnx;clear hnx hc1 hmx1)
         have FV1:=Fr.own' FX.out hox.out hg1
         have QY1:=Cod.rd_fr0 RY7.out FV1
         have hl1:=Lib.hid (show nx1.length ≤ j + 1 by rw [HNX.out];have:=HB0.out;simp;omega)
         rw [← HNX.out] at HI2
         clear hg1 hA1
         have qy:=QY1
         have hsy:=Cod.sl_new (C:=codEv) wv [y]
         have fny:Fr noB wv (wv.alloc (codEv.ro [y])):=(Fr.refl noB wv).alloc _
         have hoy:=Lib.hid (own_new0 ho1 fny)
         have szy:=(FV1.step0 fny).size
         have FY:=Lib.hid (FV1.step0 fny)
         clear fny
         go_wp2_with (at_builtin;refine wpList_appC' etEv w7 _ rfl _ _ rfl A1 nx1.length c1 nx1 rfl rfl hoy.out (some ⟨wv.heap.size,0,none⟩) 1 1 [y] rfl hsy rfl (by have:=hl1.out;have:=HOL.out;have:=HB.out;have:=HLX.out;have:=HLT.out;have:=HJL.out;simp;omega) szy ?_;intro A8 c8 w8 hc8 hmx8 ho8 hg8 hA8)
         have F8:=Fr.own' FY.out hoy.out hg8
         go_roundg (os.length - (j + 1))
         case measure=>have:=HJL.out;omega
         case rel=>exact ⟨j + 1,true,A8,c8,nx1 ++ [y],by first | exact congrArg (Value.int .i64) wj | simp,rfl,by first | rfl | simp,rfl,by have:=HJL.out;omega,ho8,HI2.out,by have:=hl1.out;(show (_:Nat) ≤ j + 1 + 1;simp;omega),F8⟩
        | false =>
         have HI2:=HI.out.skip HJL.out (by rw [HY.out];exact hbl)
         rw [HY.out] at HI2
         have HI2:=Lib.hid HI2
         clear hbl
         have QY1:=QY.out
         have ho1:=HZO.out
         have FV1:=FZ.out
         have hl1:=Lib.hid (show nx.length ≤ j from HNL.out)
         generalize wr.drew = wv at QY1 ho1 FV1 ⊢
         obtain ⟨A1,c1,nx1,rfl,rfl,rfl⟩:∃ A1 c1 nx1,A1 = A9 ∧ c1 = c9 ∧ nx1 = nx:=⟨_,_,_,rfl,rfl,rfl⟩
         have qy:=QY1
         have hsy:=Cod.sl_new (C:=codEv) wv [y]
         have fny:Fr noB wv (wv.alloc (codEv.ro [y])):=(Fr.refl noB wv).alloc _
         have hoy:=Lib.hid (own_new0 ho1 fny)
         have szy:=(FV1.step0 fny).size
         have FY:=Lib.hid (FV1.step0 fny)
         clear fny
         go_wp2_with (at_builtin;refine wpList_appC' etEv w7 _ rfl _ _ rfl A1 nx1.length c1 nx1 rfl rfl hoy.out (some ⟨wv.heap.size,0,none⟩) 1 1 [y] rfl hsy rfl (by have:=hl1.out;have:=HOL.out;have:=HB.out;have:=HLX.out;have:=HLT.out;have:=HJL.out;simp;omega) szy ?_;intro A8 c8 w8 hc8 hmx8 ho8 hg8 hA8)
         have F8:=Fr.own' FY.out hoy.out hg8
         go_roundg (os.length - (j + 1))
         case measure=>have:=HJL.out;omega
         case rel=>exact ⟨j + 1,false,A8,c8,nx1 ++ [y],by first | exact congrArg (Value.int .i64) wj | simp,rfl,by first | rfl | simp,rfl,by have:=HJL.out;omega,ho8,HI2.out,by have:=hl1.out;(show (_:Nat) ≤ j + 1 + 0;simp;omega),F8⟩
      ·have hje:os.length ≤ j:=by omega
       have j1:¬ (j:Int) < (os.length:Int):=by omega
       have HFIN:=Lib.hid (InsS.fin (x:=ex) (os:=os) (nx:=nx) hje)
       clear hje hjl hj
       cases b with
       | true =>
        have hne:=HFIN.out.1 HI.out
        have ho1:=HO.out
        have FV1:=HFR.out
        obtain ⟨A1,c1,nx1,rfl,rfl,rfl⟩:∃ A1 c1 nx1,A1 = A9 ∧ c1 = c9 ∧ nx1 = nx:=⟨_,_,_,rfl,rfl,rfl⟩
        have HNE:=Lib.hid hne
        clear hne
        go_wp2_with fail
        go_roundg (xs.length - (k + 1))
        case measure=>have:=HLT.out;omega
        case rel=>exact ⟨k + 1,A1,c1,nx1,by first | exact congrArg (Value.int .i64) wk | simp,rfl,rfl,by have:=HLT.out;omega,Sl.own ho1,by
         rw [HTT.out,HNE.out]
         have hfw:=HF.out.step0 (FP.out.step0 FV1)
         exact AllO.insB ⟨by rw [HEX.out],by rw [HEX.out];exact HIN.out.len,by rw [HEX.out];exact HIN.out.sl.fr0 hfw,HIN.out.bd⟩ (HAO.out.map fun r x h=>h.fr (FP.out.step0 FV1)),HF.out.step0 (FP.out.step0 FV1)⟩
       | false =>
        have qx:=Cod.bxd_rd (Cod.bxd_fr0 HBX.out HFR.out)
        have hsx:=Cod.sl_new (C:=codEv) wr [ex]
        have fnx:Fr noB wr (wr.alloc (codEv.ro [ex])):=(Fr.refl noB wr).alloc _
        have hox:=Lib.hid (own_new0 HO.out fnx)
        have szx:=(HFR.out.step0 fnx).size
        have FX:=Lib.hid (HFR.out.step0 fnx)
        have HB0:=Lib.hid (show nx.length ≤ j from HNL.out)
        have HJ:=Lib.hid (show j ≤ os.length from HJO.out)
        clear fnx
        go_upto_region 18 with (at_builtin;refine wpList_appC' etEv w7 _ rfl _ _ rfl A9 nx.length c9 nx rfl rfl hox.out (some ⟨wr.heap.size,0,none⟩) 1 1 [ex] rfl hsx rfl (by have:=HB0.out;have:=HJ.out;have:=HOL.out;have:=HB.out;have:=HLX.out;have:=HLT.out;simp;omega) szx ?_;intro A1 c1 wv hc1 hmx1 ho1 hg1 hA1;obtain ⟨nx1,hnx⟩:∃ n1:List EnW,n1 = nx ++ [ex]:=⟨_,rfl⟩;rw [← hnx] at ho1 ⊢;have HNX:=Lib.hid hnx;clear hnx hc1 hmx1)
        have FV1:=Fr.own' FX.out hox.out hg1
        have hne:nx1 = insB EnW.Path ex os:=by rw [HNX.out];exact HFIN.out.2 HI.out
        clear hg1 hA1
        have HNE:=Lib.hid hne
        clear hne
        go_wp2_with fail
        go_roundg (xs.length - (k + 1))
        case measure=>have:=HLT.out;omega
        case rel=>exact ⟨k + 1,A1,c1,nx1,by first | exact congrArg (Value.int .i64) wk | simp,rfl,rfl,by have:=HLT.out;omega,Sl.own ho1,by
         rw [HTT.out,HNE.out]
         have hfw:=HF.out.step0 (FP.out.step0 FV1)
         exact AllO.insB ⟨by rw [HEX.out],by rw [HEX.out];exact HIN.out.len,by rw [HEX.out];exact HIN.out.sl.fr0 hfw,HIN.out.bd⟩ (HAO.out.map fun r x h=>h.fr (FP.out.step0 FV1)),HF.out.step0 (FP.out.step0 FV1)⟩
    ·rw [if_pos (by rfl)]
     refine wk_runV _ _ (ex_alEv_at rfl V) ?_
     have f6:Fr noB V (V.alloc (codEv.o zEnW)):=(Fr.refl noB V).alloc _
     have hbx1:codEv.bxd (V.alloc (codEv.o zEnW)) V.heap.size = some zEnW:=Cod.bxd_new V zEnW
     replace hF:=keep _ _ f6 hF
     refine hK.out _ _ hF (fun hA=>?_)
     clear hK K'
     try simp only [sA1,sA2,sA3,Act.put,sA4,sA5,sA6]
     have FU1:=FV.out.step0 f6
     have hQ:wr.heap.size ≤ V.heap.size:=FV.out.size
     generalize V.alloc (codEv.o zEnW) = u1 at hbx1 FU1 hF ⊢
     generalize V.heap.size = Q at hbx1 hQ ⊢
     refine wpAnyT_one hA rfl (fun K' hK=>?_)
     go_simp
     go_at_call 46
     refine (PW.out u1 (HF.out.step0 FU1)).mono ?_
     rintro e u ⟨rfl,f5⟩
     replace hF:=keep _ _ f5 hF
     refine hK.out _ _ hF (fun hA=>?_)
     clear hK K'
     try simp only [sA1,sA2,sA3,Act.put,sA4,sA5,sA6]
     have FU:=FU1.step0 f5
     have hbx:=Cod.bxd_fr0 hbx1 f5
     refine wpAnyT_take (v:=?_) hA rfl (fun _ _ _ h=>h) (Or.inl ⟨by rfl,?_⟩) hF (fun hA=>?_)
     rotate_left
     ·intro wS hSw;(try dsimp only at hSw);obtain ⟨s1,s2,s3⟩:=hSw;first | (apply Eq.trans;apply ex_ldR_at;exact rfl;exact rfl;assumption;with_reducible rfl) | (apply Eq.trans;apply ex_ldS_at;exact rfl;exact rfl;assumption;with_reducible rfl) | (apply Eq.trans;apply ex_bldEv_at;exact rfl;exact rfl;exact rfl;exact rfl;with_reducible rfl) | (go_simp;try with_reducible rfl)
     try simp only [sA1,sA2,sA3,Act.put,sA4,sA5,sA6]
     refine wpAnyT_end hA rfl ?_
     simp only [List.drop_succ_cons,List.drop_zero]
     clear hF keep
     have hst:=okEv.stR_box hbx ⟨pp,x.Node,r.A,r.n,r.c⟩
     obtain ⟨p1,p2,p3⟩:=Cod.put_fr hbx ⟨pp,x.Node,r.A,r.n,r.c⟩
     have FP:=Lib.hid (FU.step1 p1 hQ)
     clear p1 p2
     go_upto_region 7 with fail
     generalize codEv.put u Q ⟨pp,x.Node,r.A,r.n,r.c⟩ = w7 at p3 FP ⊢
     obtain ⟨ex,hex⟩:∃ ex:EnW,ex = ⟨pp,x.Node,r.A,r.n,r.c⟩:=⟨_,rfl⟩
     rw [← hex] at p3
     have HEX:=Lib.hid hex
     have HBX:=Lib.hid p3
     have HSO7:=Lib.hid (HSO.out.fr0 FP.out)
     have fa:Fr noB w7 (w7.alloc (.cells #[] 85)):=(Fr.refl noB w7).alloc _
     have own0:OwnC codEv w7 (w7.alloc (.cells #[] 85)) (some ⟨w7.heap.size,0,none⟩) 0 []:=World.ownsRow_lit (base:=w7.heap.size) (e:=85) (size:=4) w7 #[] 0 (Nat.le_refl _) (by unfold maxLen;omega) (by simp)
     have I0:=Lib.hid (show RlI w7 Q ex os os.length (.slice (some ⟨w7.heap.size,0,none⟩) 0 0) (.bool false) (.int .i64 ((0:Nat):Int)) (w7.alloc (.cells #[] 85)) from ⟨0,false,_,0,[],rfl,rfl,rfl,rfl,Nat.zero_le _,own0,InsS.zero ex os,by simp,fa⟩)
     clear fa own0 p3 hex hst hbx FU hQ
     go_wp2_with fail
     go_loopg [6,7,8] os.length (fun gk nv dv kv wz=>RlI w7 Q ex os gk nv dv kv wz)
     case atStart=>exact I0.out
     case round =>
      clear I0
      obtain ⟨j,b,A9,c9,nx,rfl,rfl,rfl,rfl,hj,ho,hins,hnl,hfr⟩:=hrel
      have HO:=Lib.hid ho
      have HI:=Lib.hid hins
      have HNL:=Lib.hid hnl
      have HFR:=Lib.hid hfr
      have HJO:=Lib.hid hj
      clear ho hins hnl hfr
      by_cases hjl:j < os.length
      ·have j1:(j:Int) < (os.length:Int):=by omega
       have j0:(0:Int) ≤ (j:Int):=by omega
       have hsl:=HSO7.out.fr0 HFR.out
       obtain ⟨g2,off2,rfl,hg2⟩:=Sl.addr hsl (by omega)
       have ry:codEv.rd wr g2 (off2 + j * 4) = some os[j]:=Sl.rd hsl j hjl
       have HJL:=Lib.hid hjl
       generalize hy:os[j] = y at ry
       have HY:=Lib.hid (show os[j]'HJL.out = y from hy)
       have RY7:=Lib.hid (show codEv.rd w7 g2 (off2 + j * 4) = some y by rw [← HY.out];exact Sl.rd HSO7.out j HJL.out)
       have hbq:=Cod.bxd_fr0 HBX.out HFR.out
       have fdz:Fr noB wr wr.drew:=(Fr.refl noB _).drew
       have hF0:(fun w':World=>w'.cell? ⟨Q,0,none⟩ = some (.string (str ex.Path)) ∧ w'.cell? ⟨g2,off2 + j * 4,none⟩ = some (.string (str y.Path))) wr.drew:=⟨cell_fr0 (evAt (Cod.bxd_rd hbq)).path fdz,cell_fr0 (evAtO ry).path fdz⟩
       have wj:wrap64 ((j:Int) + 1) = (j:Int) + 1:=IntWalk.wrap64_in _ (by have:=HOL.out;have:=HB.out;have:=HLX.out;have:=HLT.out;omega)
       have FZ:=Lib.hid (HFR.out.step0 fdz)
       have QY:=Lib.hid (Cod.rd_fr0 ry fdz)
       have QX:=Lib.hid (Cod.bxd_rd (Cod.bxd_fr0 hbq fdz))
       have HZO:=Lib.hid (own_new0 HO.out fdz)
       clear hsl hg2 hjl hy hbq fdz hj ry
       cases b with
       | true =>
        go_upto_region 12 with fail
        refine wp_region_M 11 12 [⟨562949953421312,128,0⟩,⟨1125899906842624,562949953421312,1⟩,⟨2251799813685248,1125899906842624,2⟩,⟨4503599627370496,2251799813685280,4⟩,⟨9007199254740992,6755399441055744,12⟩,⟨18014398509481984,2251799813685256,4⟩,⟨36028797018963968,2251799813685504,4⟩,⟨72057594037927936,56294995342131200,100⟩,⟨144115188075855872,74309393851613184,132⟩,⟨288230376151711744,146366987889541120,260⟩,⟨576460752303423488,299489375220137984,532⟩,⟨1152921504606846976,578712552117108736,1028⟩] [(true,0),(true,1),(true,2),(true,3),(true,4),(true,5),(true,6),(true,7),(true,8),(true,9),(true,10)] (fun w'=>w'.cell? ⟨Q,0,none⟩ = some (.string (str ex.Path)) ∧ w'.cell? ⟨g2,off2 + j * 4,none⟩ = some (.string (str y.Path))) (by kernel_rfl) rfl (by kernel_rfl) (by kernel_rfl) (by kernel_rfl) hF0 (fun hA hF=>?_)
        iterate 3
         refine wpAnyS_take (v:=?_) hA rfl (fun _ _ _ h=>h) (Or.inl ⟨by rfl,?_⟩) hF (fun hA=>?_)
         rotate_left
         ·intro wS hSw;(try dsimp only at hSw);obtain ⟨s1,s2⟩:=hSw;first | (apply Eq.trans;apply ex_ldR_at;exact rfl;exact rfl;assumption;with_reducible rfl) | (apply Eq.trans;apply ex_ldS_at;exact rfl;exact rfl;assumption;with_reducible rfl) | (apply Eq.trans;apply ex_bldEv_at;exact rfl;exact rfl;exact rfl;exact rfl;with_reducible rfl) | (go_simp;try with_reducible rfl)
         try simp only [sA1,sA2,sA3,Act.put,sA4,sA5,sA6]
        iterate 8
         refine wpAnyS_take (v:=undef) hA rfl (fun _ _ _ h=>h) (Or.inr ⟨by rfl,rfl⟩) hF (fun hA=>?_)
         try simp only [sA1,sA2,sA3,Act.put,sA4,sA5,sA6]
        refine wpAnyS_end hA rfl ?_
        simp only [List.drop_succ_cons,List.drop_zero]
        clear hF hF0
        have HI2:=HI.out.on HJL.out
        rw [HY.out] at HI2
        have HI2:=Lib.hid HI2
        have QY1:=QY.out
        have ho1:=HZO.out
        have FV1:=FZ.out
        have hl1:=Lib.hid (show nx.length ≤ j + 1 from HNL.out)
        generalize wr.drew = wv at QY1 ho1 FV1 ⊢
        obtain ⟨A1,c1,nx1,rfl,rfl,rfl⟩:∃ A1 c1 nx1,A1 = A9 ∧ c1 = c9 ∧ nx1 = nx:=⟨_,_,_,rfl,rfl,rfl⟩
        have qy:=QY1
        have hsy:=Cod.sl_new (C:=codEv) wv [y]
        have fny:Fr noB wv (wv.alloc (codEv.ro [y])):=(Fr.refl noB wv).alloc _
        have hoy:=Lib.hid (own_new0 ho1 fny)
        have szy:=(FV1.step0 fny).size
        have FY:=Lib.hid (FV1.step0 fny)
        clear fny
        go_wp2_with (at_builtin;refine wpList_appC' etEv w7 _ rfl _ _ rfl A1 nx1.length c1 nx1 rfl rfl hoy.out (some ⟨wv.heap.size,0,none⟩) 1 1 [y] rfl hsy rfl (by have:=hl1.out;have:=HOL.out;have:=HB.out;have:=HLX.out;have:=HLT.out;have:=HJL.out;simp;omega) szy ?_;intro A8 c8 w8 hc8 hmx8 ho8 hg8 hA8)
        have F8:=Fr.own' FY.out hoy.out hg8
        go_roundg (os.length - (j + 1))
        case measure=>have:=HJL.out;omega
        case rel=>exact ⟨j + 1,true,A8,c8,nx1 ++ [y],by first | exact congrArg (Value.int .i64) wj | simp,rfl,by first | rfl | simp,rfl,by have:=HJL.out;omega,ho8,HI2.out,by have:=hl1.out;(show (_:Nat) ≤ j + 1 + 1;simp;omega),F8⟩
       | false =>
        go_upto_region 12 with fail
        refine wp_region_M 11 12 [⟨562949953421312,128,0⟩,⟨1125899906842624,562949953421312,1⟩,⟨2251799813685248,1125899906842624,2⟩,⟨4503599627370496,2251799813685280,4⟩,⟨9007199254740992,6755399441055744,12⟩,⟨18014398509481984,2251799813685256,4⟩,⟨36028797018963968,2251799813685504,4⟩,⟨72057594037927936,56294995342131200,100⟩,⟨144115188075855872,74309393851613184,132⟩,⟨288230376151711744,146366987889541120,260⟩,⟨576460752303423488,299489375220137984,532⟩,⟨1152921504606846976,578712552117108736,1028⟩] [(true,0),(true,1),(true,2),(true,3),(true,4),(true,5),(true,6),(true,7),(true,8),(true,9),(true,10)] (fun w'=>w'.cell? ⟨Q,0,none⟩ = some (.string (str ex.Path)) ∧ w'.cell? ⟨g2,off2 + j * 4,none⟩ = some (.string (str y.Path))) (by kernel_rfl) rfl (by kernel_rfl) (by kernel_rfl) (by kernel_rfl) hF0 (fun hA hF=>?_)
        iterate 10
         refine wpAnyS_take (v:=?_) hA rfl (fun _ _ _ h=>h) (Or.inl ⟨by rfl,?_⟩) hF (fun hA=>?_)
         rotate_left
         ·intro wS hSw;(try dsimp only at hSw);obtain ⟨s1,s2⟩:=hSw;first | (apply Eq.trans;apply ex_ldR_at;exact rfl;exact rfl;assumption;with_reducible rfl) | (apply Eq.trans;apply ex_ldS_at;exact rfl;exact rfl;assumption;with_reducible rfl) | (apply Eq.trans;apply ex_bldEv_at;exact rfl;exact rfl;exact rfl;exact rfl;with_reducible rfl) | (go_simp;try with_reducible rfl)
         try simp only [sA1,sA2,sA3,Act.put,sA4,sA5,sA6]
        refine wpAnyS_take (v:=.bool (Op.bytesLess ex.Path y.Path)) hA rfl (fun _ _ _ h=>h) (Or.inl ⟨by rfl,fun wS hSw=>ex_ltS_at rfl rfl rfl⟩) hF (fun hA=>?_)
        try simp only [sA1,sA2,sA3,Act.put,sA4,sA5,sA6]
        refine wpAnyS_end hA rfl ?_
        simp only [List.drop_succ_cons,List.drop_zero]
        clear hF hF0
        cases hbl:Op.bytesLess ex.Path y.Path with
        | true =>
         have HI2:=HI.out.put HJL.out (by rw [HY.out];exact hbl)
         rw [HY.out] at HI2
         have HI2:=Lib.hid HI2
         have qx:=QX.out
         have QY0:=QY
         have ho0:=HZO
         have FV0:=FZ
         have HB0:=Lib.hid (show nx.length ≤ j from HNL.out)
         clear hbl
         generalize wr.drew = wd at QY0 qx ho0 FV0 ⊢
         have hsx:=Cod.sl_new (C:=codEv) wd [ex]
         have fnx:Fr noB wd (wd.alloc (codEv.ro [ex])):=(Fr.refl noB wd).alloc _
         have hox:=Lib.hid (own_new0 ho0.out fnx)
         have szx:=(FV0.out.step0 fnx).size
         have FX:=Lib.hid (FV0.out.step0 fnx)
         have QY2:=Lib.hid (Cod.rd_fr0 QY0.out fnx)
         go_upto_region 15 with (at_builtin;refine wpList_appC' etEv w7 _ rfl _ _ rfl A9 nx.length c9 nx rfl rfl hox.out (some ⟨wd.heap.size,0,none⟩) 1 1 [ex] rfl hsx rfl (by have:=HB0.out;have:=HOL.out;have:=HB.out;have:=HLX.out;have:=HLT.out;have:=HJL.out;simp;omega) szx ?_;intro A1 c1 wv hc1 hmx1 ho1 hg1 hA1;obtain ⟨nx1,hnx⟩:∃ n1:List EnW,n1 = nx ++ [ex]:=⟨_,rfl⟩;rw [← hnx] at ho1 ⊢;have HNX:=Lib.hid hnx;clear hnx hc1 hmx1)
         have FV1:=Fr.own' FX.out hox.out hg1
         have QY1:=Cod.rd_fr0 RY7.out FV1
         have hl1:=Lib.hid (show nx1.length ≤ j + 1 by rw [HNX.out];have:=HB0.out;simp;omega)
         rw [← HNX.out] at HI2
         clear hg1 hA1
         have qy:=QY1
         have hsy:=Cod.sl_new (C:=codEv) wv [y]
         have fny:Fr noB wv (wv.alloc (codEv.ro [y])):=(Fr.refl noB wv).alloc _
         have hoy:=Lib.hid (own_new0 ho1 fny)
         have szy:=(FV1.step0 fny).size
         have FY:=Lib.hid (FV1.step0 fny)
         clear fny
         go_wp2_with (at_builtin;refine wpList_appC' etEv w7 _ rfl _ _ rfl A1 nx1.length c1 nx1 rfl rfl hoy.out (some ⟨wv.heap.size,0,none⟩) 1 1 [y] rfl hsy rfl (by have:=hl1.out;have:=HOL.out;have:=HB.out;have:=HLX.out;have:=HLT.out;have:=HJL.out;simp;omega) szy ?_;intro A8 c8 w8 hc8 hmx8 ho8 hg8 hA8)
         have F8:=Fr.own' FY.out hoy.out hg8
         go_roundg (os.length - (j + 1))
         case measure=>have:=HJL.out;omega
         case rel=>exact ⟨j + 1,true,A8,c8,nx1 ++ [y],by first | exact congrArg (Value.int .i64) wj | simp,rfl,by first | rfl | simp,rfl,by have:=HJL.out;omega,ho8,HI2.out,by have:=hl1.out;(show (_:Nat) ≤ j + 1 + 1;simp;omega),F8⟩
        | false =>
         have HI2:=HI.out.skip HJL.out (by rw [HY.out];exact hbl)
         rw [HY.out] at HI2
         have HI2:=Lib.hid HI2
         clear hbl
         have QY1:=QY.out
         have ho1:=HZO.out
         have FV1:=FZ.out
         have hl1:=Lib.hid (show nx.length ≤ j from HNL.out)
         generalize wr.drew = wv at QY1 ho1 FV1 ⊢
         obtain ⟨A1,c1,nx1,rfl,rfl,rfl⟩:∃ A1 c1 nx1,A1 = A9 ∧ c1 = c9 ∧ nx1 = nx:=⟨_,_,_,rfl,rfl,rfl⟩
         have qy:=QY1
         have hsy:=Cod.sl_new (C:=codEv) wv [y]
         have fny:Fr noB wv (wv.alloc (codEv.ro [y])):=(Fr.refl noB wv).alloc _
         have hoy:=Lib.hid (own_new0 ho1 fny)
         have szy:=(FV1.step0 fny).size
         have FY:=Lib.hid (FV1.step0 fny)
         clear fny
         go_wp2_with (at_builtin;refine wpList_appC' etEv w7 _ rfl _ _ rfl A1 nx1.length c1 nx1 rfl rfl hoy.out (some ⟨wv.heap.size,0,none⟩) 1 1 [y] rfl hsy rfl (by have:=hl1.out;have:=HOL.out;have:=HB.out;have:=HLX.out;have:=HLT.out;have:=HJL.out;simp;omega) szy ?_;intro A8 c8 w8 hc8 hmx8 ho8 hg8 hA8)
         have F8:=Fr.own' FY.out hoy.out hg8
         go_roundg (os.length - (j + 1))
         case measure=>have:=HJL.out;omega
         case rel=>exact ⟨j + 1,false,A8,c8,nx1 ++ [y],by first | exact congrArg (Value.int .i64) wj | simp,rfl,by first | rfl | simp,rfl,by have:=HJL.out;omega,ho8,HI2.out,by have:=hl1.out;(show (_:Nat) ≤ j + 1 + 0;simp;omega),F8⟩
      ·have hje:os.length ≤ j:=by omega
       have j1:¬ (j:Int) < (os.length:Int):=by omega
       have HFIN:=Lib.hid (InsS.fin (x:=ex) (os:=os) (nx:=nx) hje)
       clear hje hjl hj
       cases b with
       | true =>
        have hne:=HFIN.out.1 HI.out
        have ho1:=HO.out
        have FV1:=HFR.out
        obtain ⟨A1,c1,nx1,rfl,rfl,rfl⟩:∃ A1 c1 nx1,A1 = A9 ∧ c1 = c9 ∧ nx1 = nx:=⟨_,_,_,rfl,rfl,rfl⟩
        have HNE:=Lib.hid hne
        clear hne
        go_wp2_with fail
        go_roundg (xs.length - (k + 1))
        case measure=>have:=HLT.out;omega
        case rel=>exact ⟨k + 1,A1,c1,nx1,by first | exact congrArg (Value.int .i64) wk | simp,rfl,rfl,by have:=HLT.out;omega,Sl.own ho1,by
         rw [HTT.out,HNE.out]
         have hfw:=HF.out.step0 (FP.out.step0 FV1)
         exact AllO.insB ⟨by rw [HEX.out],by rw [HEX.out];exact HIN.out.len,by rw [HEX.out];exact HIN.out.sl.fr0 hfw,HIN.out.bd⟩ (HAO.out.map fun r x h=>h.fr (FP.out.step0 FV1)),HF.out.step0 (FP.out.step0 FV1)⟩
       | false =>
        have qx:=Cod.bxd_rd (Cod.bxd_fr0 HBX.out HFR.out)
        have hsx:=Cod.sl_new (C:=codEv) wr [ex]
        have fnx:Fr noB wr (wr.alloc (codEv.ro [ex])):=(Fr.refl noB wr).alloc _
        have hox:=Lib.hid (own_new0 HO.out fnx)
        have szx:=(HFR.out.step0 fnx).size
        have FX:=Lib.hid (HFR.out.step0 fnx)
        have HB0:=Lib.hid (show nx.length ≤ j from HNL.out)
        have HJ:=Lib.hid (show j ≤ os.length from HJO.out)
        clear fnx
        go_upto_region 18 with (at_builtin;refine wpList_appC' etEv w7 _ rfl _ _ rfl A9 nx.length c9 nx rfl rfl hox.out (some ⟨wr.heap.size,0,none⟩) 1 1 [ex] rfl hsx rfl (by have:=HB0.out;have:=HJ.out;have:=HOL.out;have:=HB.out;have:=HLX.out;have:=HLT.out;simp;omega) szx ?_;intro A1 c1 wv hc1 hmx1 ho1 hg1 hA1;obtain ⟨nx1,hnx⟩:∃ n1:List EnW,n1 = nx ++ [ex]:=⟨_,rfl⟩;rw [← hnx] at ho1 ⊢;have HNX:=Lib.hid hnx;clear hnx hc1 hmx1)
        have FV1:=Fr.own' FX.out hox.out hg1
        have hne:nx1 = insB EnW.Path ex os:=by rw [HNX.out];exact HFIN.out.2 HI.out
        clear hg1 hA1
        have HNE:=Lib.hid hne
        clear hne
        go_wp2_with fail
        go_roundg (xs.length - (k + 1))
        case measure=>have:=HLT.out;omega
        case rel=>exact ⟨k + 1,A1,c1,nx1,by first | exact congrArg (Value.int .i64) wk | simp,rfl,rfl,by have:=HLT.out;omega,Sl.own ho1,by
         rw [HTT.out,HNE.out]
         have hfw:=HF.out.step0 (FP.out.step0 FV1)
         exact AllO.insB ⟨by rw [HEX.out],by rw [HEX.out];exact HIN.out.len,by rw [HEX.out];exact HIN.out.sl.fr0 hfw,HIN.out.bd⟩ (HAO.out.map fun r x h=>h.fr (FP.out.step0 FV1)),HF.out.step0 (FP.out.step0 FV1)⟩
  ·have hke:k = xs.length:=by omega
   have i1:¬ (k:Int) < (rs.length:Int):=by rw [HLX.out];omega
   have htk:xs.take k = xs:=List.take_of_length_le (by omega)
   rw [htk] at HAO
   clear htk hke hlx hk
   go_wp2_with fail
   go_ret
   exact ⟨Ao,co,os,rfl,HSO.out,HAO.out,HF.out⟩
end Go.Proofs.YthehiobacjjakaaGreatDoor
