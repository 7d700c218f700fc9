/- Contract: pollardlaw15.grown. (rdI) -/
import Derived.Test.YtjpieiccpbcabaaGreatMgTsKu
import Derived.Test.YtjpieiccpbcabaaGreatMgOKu
import Derived.Deep.LoopGhost
import Derived.Deep.CutRange
set_option linter.unusedVariables false
set_option linter.unusedSimpArgs false
namespace Go.Proofs.YtjpieiccpbcabaaGreat
open Go.RowKit Go.Maps Go.Sort
def Grown15 (w:World) (e:Ending) (w':World):Prop:=∃ H S L ts A cA,e = .returned (.tuple #[.pointer (some ⟨H,0,none⟩),.slice A ts.length cA]) ∧ Hs w' H S L ∧ Gw L ts ∧ OwnC codI w w' A cA (rowG ts.length) ∧ (∀ g,A.map (·.block) = some g → ¬ S g) ∧ (∀ b,S b → w.heap.size ≤ b) ∧ Fr noB w w'
def GroR15 (w0:World) (H:Nat) (nums:List Tri) (gk:Nat) (iv tv kv:Value) (wr:World):Prop :=
 ∃ ts S A cA B cB L,kv = .int .i64 ((ts.length:Nat):Int) ∧ gk = nums.length - ts.length ∧ ts.length ≤ nums.length ∧ iv = .slice A ts.length cA ∧ tv = .slice B ts.length cB ∧ GR w0 wr H S L ts A cA B cB
set_option maxRecDepth 100000 in
set_option maxHeartbeats 8000000 in
theorem l15grown_any (w:World) (A0:Option Addr) (c0 n:Nat) (nums:List Tri) (hn:nums.length = n) (hs:Sl w A0 (codTr.row nums)) (hb:nums.length ≤ 200000000000000) :
  Calls Tryz.prog 26 #[.slice A0 n c0] w (Grown15 w):=by
 go_enter Tryz.func26,Tryz.ntmps26
 go_upto_region 2 with (go_at_call 8;refine (mgNew_any _).mono ?_;rintro e w1 ⟨H,rfl,h1,f1⟩)
 subst hn
 have HS0:=Lib.hid h1
 have F0:=Lib.hid f1
 clear h1 f1
 go_upto_region 4 with fail
 go_wp2_with fail
 go_loopg [5,6,23] nums.length (fun gk iv tv kv wr=>GroR15 w H nums gk iv tv kv wr)
 case atStart =>
  have e0:GR w w1 H (grF (fun _=>False) w w1) [] [] none 0 none 0:=⟨HS0.out,Gw.nil,World.ownsRow_nil _ _ _ _,World.ownsRow_nil _ _ _ _,(fun g hg=>by cases hg),(fun g hg=>by cases hg),fun b e=>e.elim False.elim (fun e=>e.1),F0.out⟩
  have fa:Fr noB w1 (w1.alloc (.cells #[] 24)):=(Fr.refl noB w1).alloc _
  have fb:Fr noB (w1.alloc (.cells #[] 24)) ((w1.alloc (.cells #[] 24)).alloc (.cells #[] 2)):=(Fr.refl noB _).alloc _
  have la:=F0.out.size
  have no:∀ b,w1.heap.size ≤ b → ¬ grF (fun _=>False) w w1 b:=fun b hb e=>e.elim False.elim (fun e=>by omega)
  refine ⟨[],_,_,0,_,0,[],rfl,rfl,Nat.zero_le _,rfl,rfl,e0.hs.fr0 (fa.step0 fb),Gw.nil,?_,?_,?_,?_,e0.lo,e0.fr.step0 (fa.step0 fb)⟩
  ·have:=World.ownsRow_lit (base:=w1.heap.size) (e:=24) (size:=32) w1 #[] 0 (Nat.le_refl _) (by simp [maxLen]) rfl
   exact own_base (own_new0 this fb) la
  ·have:=World.ownsRow_lit (base:=(w1.alloc (.cells #[] 24)).heap.size) (e:=2) (size:=1) (w1.alloc (.cells #[] 24)) #[] 0 (Nat.le_refl _) (by simp [maxLen]) rfl
   simp only [World.size_alloc] at this
   exact own_base this (by omega)
  ·intro g hg
   simp only [Option.map_some,Option.some.injEq] at hg
   exact no g (by omega)
  ·intro g hg
   simp only [Option.map_some,Option.some.injEq] at hg
   exact no g (by omega)
 case round =>
  clear HS0 F0
  obtain ⟨ts,S,A,cA,B,cB,L,rfl,rfl,hkn,rfl,rfl,hR⟩:=hrel
  obtain ⟨k,hk⟩:∃ k,k = ts.length:=⟨_,rfl⟩
  rw [← hk] at hkn ⊢
  have HK:=Lib.hid hk
  have HR:=Lib.hid hR
  clear hk hR
  by_cases hlt:k < nums.length
  ·by_cases h16:k < 16
   ·have i1:(k:Int) < (nums.length:Int):=by omega
    have i2:(k:Int) < 16:=by omega
    obtain ⟨gN,oN,rfl,hgN⟩:=Sl.addr hs (by omega)
    have rx:codTr.rd wr gN (oN + k * 3) = some nums[k]:=Sl.rd (hs.fr0 HR.out.fr) k hlt
    have HNX:=Lib.hid rx
    generalize nums[k] = x at rx
    have hi:(0:Int) ≤ (k:Int):=by omega
    have v1:wrap64 ((k:Int) + 1) = k + 1:=by unfold wrap64;omega
    have v2:wrap64 (1 + (k:Int)) = k + 1:=by unfold wrap64;omega
    have v3:IntKind.u8.wrap ((k:Int) + 1) = k + 1:=by rw [IntKind.wrap_u8];omega
    have t1:((k:Int) + 1).toNat = k + 1:=by omega
    have u1:(0:Int) ≤ k + 1:=by omega
    have u2:(k + 1:Int) < 256:=by omega
    go_upto_region 8 with fail
    clear HNX rx hgN
    have fa:Fr noB wr (wr.alloc (codTr.o x)):=(Fr.refl noB wr).alloc _
    have qa:=Cod.rd_new' (C:=codTr) wr x
    have za:(wr.alloc (codTr.o x)).heap.size = wr.heap.size + 1:=by simp
    obtain ⟨P,hP⟩:∃ P,P = wr.heap.size:=⟨_,rfl⟩
    rw [← hP] at qa za ⊢
    generalize wr.alloc (codTr.o x) = Wa at fa qa za ⊢
    have HZ:=Lib.hid (And.intro hP za)
    clear hP za
    go_upto_region 9 with fail
    obtain ⟨a1,a2,a3⟩:=putB_fr (bxI_new Wa zID) (id2 (k + 1) 0)
    have fb:Fr noB Wa (putB (Wa.alloc (ido zID)) Wa.heap.size (id2 (k + 1) 0)):=((Fr.refl noB Wa).alloc _).step1 a1 (Nat.le_refl _)
    have zb:(putB (Wa.alloc (ido zID)) Wa.heap.size (id2 (k + 1) 0)).heap.size = P + 2:=by rw [a2,World.size_alloc,HZ.out.2]
    have qb:=Cod.rd_fr0 qa fb
    have Fb:=fa.step0 fb
    clear qa a1 a2 fa fb
    rw [HZ.out.2] at a3 zb Fb qb ⊢
    generalize putB (Wa.alloc (ido zID)) (P + 1) (id2 (k + 1) 0) = Wb at a3 zb Fb qb ⊢
    have HZb:=Lib.hid zb
    clear zb
    go_upto_region 10 with fail
    have fc:Fr noB Wb (Wb.alloc (codC.o ⟨zCgW.PA,zCgW.pn,zCgW.pc,1,1 + (k:Int),zCgW.OA,zCgW.on,zCgW.oc,id2 1 0,zCgW.Msg⟩)):=(Fr.refl noB Wb).alloc _
    have b1:=Cod.bxd_new (C:=codC) Wb ⟨zCgW.PA,zCgW.pn,zCgW.pc,1,1 + (k:Int),zCgW.OA,zCgW.on,zCgW.oc,id2 1 0,zCgW.Msg⟩
    have zc:(Wb.alloc (codC.o ⟨zCgW.PA,zCgW.pn,zCgW.pc,1,1 + (k:Int),zCgW.OA,zCgW.on,zCgW.oc,id2 1 0,zCgW.Msg⟩)).heap.size = P + 3:=by rw [World.size_alloc,HZb.out]
    have qi:=rdI_fr (bxI_rd a3) (rdI_lt (bxI_rd a3)) fc (by simp [noB])
    rw [HZb.out] at b1 ⊢
    obtain ⟨W,hW⟩:∃ W,W = Wb.alloc (codC.o ⟨zCgW.PA,zCgW.pn,zCgW.pc,1,1 + (k:Int),zCgW.OA,zCgW.on,zCgW.oc,id2 1 0,zCgW.Msg⟩):=⟨_,rfl⟩
    rw [← hW] at fc b1 zc qi ⊢
    have hB:GB wr W W P x k (cwG none 0 0 1 k none 0 0):=⟨Cod.rd_fr0 qb fc,qi,b1,Fb.step0 fc,Nat.le_refl _,HZ.out.1,zc⟩
    clear hW fc b1 zc qi qb Fb a3 HZ HZb v1 v2 v3 t1 u1 u2
    obtain ⟨d1,d2,d3⟩:=hB.tri
    have HB:=Lib.hid hB
    clear hB
    go_cut [44] from 24 to 165 (fun v wx=>∃ b:Bool,v = .bool b ∧ (b = true → 0 < k) ∧ W = wx)
    case first =>
     by_cases hk0:0 < k
     ·have e0:decide (0 < (k:Int)) = true:=by simpa using hk0
      by_cases ha:0 ≤ x.a
      ·have e1:decide (0 ≤ x.a) = true:=by simpa using ha
       go_wp2_with fail
       go_meet
       case rel=>exact ⟨true,rfl,fun _=>hk0,rfl⟩
      ·have e1:decide (0 ≤ x.a) = false:=by simpa using ha
       go_wp2_with fail
       go_meet
       case rel=>exact ⟨false,rfl,fun h=>absurd h (by decide),rfl⟩
     ·have e0:decide (0 < (k:Int)) = false:=by simpa using hk0
      go_wp2_with fail
      go_meet
      case rel=>exact ⟨false,rfl,fun h=>absurd h (by decide),rfl⟩
    case rest =>
     obtain ⟨b0,rfl,hb0,rfl⟩:=hcut
     have HB0:=Lib.hid hb0
     clear hb0
     go_upto_if 44 with fail
     go_cut [11,12] from 24 to 165 (fun va vb wx=>∃ ps t PA pc,GB wr W wx P x k (cwG PA ps.length pc t k none 0 0) ∧ OwnC codI W wx PA pc ps ∧ PsG ts t ps 1)
     case first =>
      cases b0
      case true =>
       have hk0:=HB0.out rfl
       obtain ⟨ra,era,hra⟩:=and_maskM x.a 1023 (by omega)
       obtain ⟨rb,erb,hrb⟩:=and_maskM x.b 1023 (by omega)
       have la:ra % k < k:=Nat.mod_lt _ hk0
       have lb:rb % k < k:=Nat.mod_lt _ hk0
       have hkz:¬ (k = 0):=by omega
       have ha:(bits BinOp.and IntKind.i64 x.a 1023).tmod (k:Int) = ((ra % k:Nat):Int):=by rw [show bits BinOp.and IntKind.i64 x.a 1023 = (ra:Int) from era];rfl
       have hb':(bits BinOp.and IntKind.i64 x.b 1023).tmod (k:Int) = ((rb % k:Nat):Int):=by rw [show bits BinOp.and IntKind.i64 x.b 1023 = (rb:Int) from erb];rfl
       generalize ra % k = a at la ha
       generalize rb % k = b at lb hb'
       clear era erb hra hrb HB0
       go_upto_region 11 with fail
       refine wp_region_H (fun w'=>w'.cell? ⟨P,0,none⟩ = some (.int .i64 x.a) ∧ w'.cell? ⟨P,1,none⟩ = some (.int .i64 x.b)) (by kernel_rfl) ⟨d1,d2⟩ (fun hF=>?_)
       refine wpAnyH_take (i:=0) (v:=?_) rfl (by kernel_rfl) (by kernel_rfl) (by kernel_rfl) (fun _ _ _ h=>h) (Or.inl ⟨by rfl,?_⟩) hF ?_
       rotate_left
       ·intro wS hSw;(try dsimp only at hSw);obtain ⟨s1,s2⟩:=hSw;first | (apply Eq.trans;apply ex_ld_id;exact rfl;exact rfl;assumption;with_reducible rfl) | (go_simp;try with_reducible rfl)
       try simp only [sA1,sA2,sA3,Act.put,sA4,sA5,sA6]
       refine wpAnyH_take (i:=1) (v:=?_) rfl (by kernel_rfl) (by kernel_rfl) (by kernel_rfl) (fun _ _ _ h=>h) (Or.inl ⟨by rfl,?_⟩) hF ?_
       rotate_left
       ·intro wS hSw;(try dsimp only at hSw);obtain ⟨s1,s2⟩:=hSw;first | (apply Eq.trans;apply ex_ld_id;exact rfl;exact rfl;assumption;with_reducible rfl) | (go_simp;try with_reducible rfl)
       try simp only [sA1,sA2,sA3,Act.put,sA4,sA5,sA6]
       refine wpAnyH_take (i:=2) (v:=?_) rfl (by kernel_rfl) (by kernel_rfl) (by kernel_rfl) (fun _ _ _ h=>h) (Or.inl ⟨by rfl,?_⟩) hF ?_
       rotate_left
       ·intro wS hSw;(try dsimp only at hSw);obtain ⟨s1,s2⟩:=hSw;first | (apply Eq.trans;apply ex_ld_id;exact rfl;exact rfl;assumption;with_reducible rfl) | (go_simp;try with_reducible rfl)
       try simp only [sA1,sA2,sA3,Act.put,sA4,sA5,sA6]
       refine wpAnyH_take (i:=3) (v:=?_) rfl (by kernel_rfl) (by kernel_rfl) (by kernel_rfl) (fun _ _ _ h=>h) (Or.inl ⟨by rfl,?_⟩) hF ?_
       rotate_left
       ·intro wS hSw;(try dsimp only at hSw);obtain ⟨s1,s2⟩:=hSw;first | (apply Eq.trans;apply ex_ld_id;exact rfl;exact rfl;assumption;with_reducible rfl) | (go_simp;try with_reducible rfl)
       try simp only [sA1,sA2,sA3,Act.put,sA4,sA5,sA6]
       refine wpAnyH_take (i:=4) (v:=?_) rfl (by kernel_rfl) (by kernel_rfl) (by kernel_rfl) (fun _ _ _ h=>h) (Or.inl ⟨by rfl,?_⟩) hF ?_
       rotate_left
       ·intro wS hSw;(try dsimp only at hSw);obtain ⟨s1,s2⟩:=hSw;first | (apply Eq.trans;apply ex_ld_id;exact rfl;exact rfl;assumption;with_reducible rfl) | (go_simp;try with_reducible rfl)
       try simp only [sA1,sA2,sA3,Act.put,sA4,sA5,sA6]
       refine wpAnyH_take (i:=5) (v:=?_) rfl (by kernel_rfl) (by kernel_rfl) (by kernel_rfl) (fun _ _ _ h=>h) (Or.inl ⟨by rfl,?_⟩) hF ?_
       rotate_left
       ·intro wS hSw;(try dsimp only at hSw);obtain ⟨s1,s2⟩:=hSw;first | (apply Eq.trans;apply ex_ld_id;exact rfl;exact rfl;assumption;with_reducible rfl) | (go_simp;try with_reducible rfl)
       try simp only [sA1,sA2,sA3,Act.put,sA4,sA5,sA6]
       refine wpAnyH_take (i:=6) (v:=?_) rfl (by kernel_rfl) (by kernel_rfl) (by kernel_rfl) (fun _ _ _ h=>h) (Or.inl ⟨by rfl,?_⟩) hF ?_
       rotate_left
       ·intro wS hSw;(try dsimp only at hSw);obtain ⟨s1,s2⟩:=hSw;first | (apply Eq.trans;apply ex_ld_id;exact rfl;exact rfl;assumption;with_reducible rfl) | (go_simp;try with_reducible rfl)
       try simp only [sA1,sA2,sA3,Act.put,sA4,sA5,sA6]
       refine wpAnyH_take (i:=7) (v:=?_) rfl (by kernel_rfl) (by kernel_rfl) (by kernel_rfl) (fun _ _ _ h=>h) (Or.inl ⟨by rfl,?_⟩) hF ?_
       rotate_left
       ·intro wS hSw;(try dsimp only at hSw);obtain ⟨s1,s2⟩:=hSw;first | (apply Eq.trans;apply ex_ld_id;exact rfl;exact rfl;assumption;with_reducible rfl) | (go_simp;try with_reducible rfl)
       try simp only [sA1,sA2,sA3,Act.put,sA4,sA5,sA6]
       refine wpAnyH_take (i:=8) (v:=?_) rfl (by kernel_rfl) (by kernel_rfl) (by kernel_rfl) (fun _ _ _ h=>h) (Or.inl ⟨by rfl,?_⟩) hF ?_
       rotate_left
       ·intro wS hSw;(try dsimp only at hSw);obtain ⟨s1,s2⟩:=hSw;first | (apply Eq.trans;apply ex_ld_id;exact rfl;exact rfl;assumption;with_reducible rfl) | (go_simp;try with_reducible rfl)
       try simp only [sA1,sA2,sA3,Act.put,sA4,sA5,sA6]
       refine wpAnyH_take (i:=9) (v:=?_) rfl (by kernel_rfl) (by kernel_rfl) (by kernel_rfl) (fun _ _ _ h=>h) (Or.inl ⟨by rfl,?_⟩) hF ?_
       rotate_left
       ·intro wS hSw;(try dsimp only at hSw);obtain ⟨s1,s2⟩:=hSw;first | (apply Eq.trans;apply ex_ld_id;exact rfl;exact rfl;assumption;with_reducible rfl) | (go_simp;try with_reducible rfl)
       try simp only [sA1,sA2,sA3,Act.put,sA4,sA5,sA6]
       refine wpAnyH_take (i:=10) (v:=?_) rfl (by kernel_rfl) (by kernel_rfl) (by kernel_rfl) (fun _ _ _ h=>h) (Or.inl ⟨by rfl,?_⟩) hF ?_
       rotate_left
       ·intro wS hSw;(try dsimp only at hSw);obtain ⟨s1,s2⟩:=hSw;first | (apply Eq.trans;apply ex_ld_id;exact rfl;exact rfl;assumption;with_reducible rfl) | (go_simp;try with_reducible rfl)
       try simp only [sA1,sA2,sA3,Act.put,sA4,sA5,sA6]
       refine wpAnyH_take (i:=11) (v:=?_) rfl (by kernel_rfl) (by kernel_rfl) (by kernel_rfl) (fun _ _ _ h=>h) (Or.inl ⟨by rfl,?_⟩) hF ?_
       rotate_left
       ·intro wS hSw;(try dsimp only at hSw);obtain ⟨s1,s2⟩:=hSw;first | (apply Eq.trans;apply ex_ld_id;exact rfl;exact rfl;assumption;with_reducible rfl) | (go_simp;try with_reducible rfl)
       try simp only [sA1,sA2,sA3,Act.put,sA4,sA5,sA6]
       refine wpAnyH_done (by kernel_rfl) ?_ _
       clear hF ha hb' d1 d2 d3
       have hB1:=HB.out.new (Fr.refl noB W).drew
       generalize W.drew = V at hB1 ⊢
       have hkt:=HK.out
       have oA:=HR.out.ia
       rw [← hkt] at oA
       obtain ⟨gA,oA',rfl⟩:=(Sl.own oA).adG (by rw [rowG_len];omega)
       have gm:=(Sl.own oA).id (min a b) (by rw [rowG_len];omega)
       have gx:=(Sl.own oA).id (max a b) (by rw [rowG_len];omega)
       rw [rowG_get] at gm gx
       obtain ⟨gT,oT,rfl⟩:∃ g o,B = some ⟨g,o,none⟩:=by
        obtain ⟨g,o,e,_⟩:=Sl.addr (Sl.own HR.out.tm) (by omega)
        exact ⟨g,o,e⟩
       have ca:=Sl.cell1 rfl (Sl.own HR.out.tm) a (by omega) rfl
       have cb:=Sl.cell1 rfl (Sl.own HR.out.tm) b (by omega) rfl
       have hta:=HR.out.g.tm _ (List.getElem_mem (show a < ts.length by omega))
       have htb:=HR.out.g.tm _ (List.getElem_mem (show b < ts.length by omega))
       have la2:a < ts.length:=by omega
       have lb2:b < ts.length:=by omega
       obtain ⟨ta,eta⟩:∃ ta,ta = ts[a]'la2:=⟨_,rfl⟩
       obtain ⟨tb,etb⟩:∃ tb,tb = ts[b]'lb2:=⟨_,rfl⟩
       rw [← eta] at ca hta
       rw [← etb] at cb htb
       rw [← hkt] at hta htb
       have HT:=Lib.hid (And.intro eta etb)
       have m3:min (a:Int) (b:Int) = ((min a b:Nat):Int):=by omega
       have m4:max (a:Int) (b:Int) = ((max a b:Nat):Int):=by omega
       have z1:(0:Int) ≤ ((min a b:Nat):Int):=by omega
       have z2:((min a b:Nat):Int) < (k:Int):=by omega
       have z3:(0:Int) ≤ ((max a b:Nat):Int):=by omega
       have z4:((max a b:Nat):Int) < (k:Int):=by omega
       have HM:=Lib.hid (And.intro gm gx)
       have HC:=Lib.hid (And.intro ca cb)
       have HW0:=Lib.hid (And.intro hta htb)
       clear eta etb hkt oA gm gx ca cb hta htb
       go_upto_region 12 with fail
       have hB2:=hB1.new (Fr.refl noB V).drew
       have rd:∀ (w':World) (cw:CgW),GB wr W w' P x k cw → rdI w' gA (oA' + min a b * 32) = some (idG (min a b)) ∧ rdI w' gA (oA' + max a b * 32) = some (idG (max a b)):=fun w' cw h=>⟨rdI_fr HM.out.1 (rdI_lt HM.out.1) h.fr (by simp [noB]),rdI_fr HM.out.2 (rdI_lt HM.out.2) h.fr (by simp [noB])⟩
       have RD:=Lib.hid rd
       clear rd hB1
       have hF0:V.drew.cell? ⟨P + 2,0,none⟩ = some (.slice none 0 0) ∧ rdI V.drew gA (oA' + min a b * 32) = some (idG (min a b)):=⟨(cgAt (Cod.bxd_rd hB2.c)).parents,(RD.out _ _ hB2).1⟩
       refine wp_region_M 11 12 [⟨36028797018963968,1024,0⟩,⟨72057594037927936,36028797018963968,1⟩,⟨144115188075855872,32,0⟩,⟨288230376151711744,2048,0⟩,⟨576460752303423488,4096,0⟩,⟨1152921504606846976,864691128455135232,24⟩,⟨2305843009213693952,1297036692682702848,36⟩,⟨4611686018427387904,2305843009213693952,64⟩,⟨9223372036854775808,4611686018427387904,128⟩,⟨18446744073709551616,9295429630892703744,258⟩,⟨36893488147419103232,1024,1023⟩,⟨0,55340232221128654848,2047⟩] [(true,0),(true,1),(true,2),(true,3),(true,4),(true,5),(true,6),(true,7),(false,8),(false,9),(true,10)] (fun w'=>w'.cell? ⟨P + 2,0,none⟩ = some (.slice none 0 0) ∧ rdI w' gA (oA' + min a b * 32) = some (idG (min a b))) (by kernel_rfl) rfl (by kernel_rfl) (by kernel_rfl) (by kernel_rfl) hF0 (fun hA hF=>?_)
       clear hF0
       iterate 8
        refine wpAnyS_take (v:=?_) hA rfl (fun _ _ _ h=>h) (Or.inl ⟨by rfl,?_⟩) hF (fun hA=>?_)
        rotate_left
        ·intro wS hSw;(try dsimp only at hSw);obtain ⟨s1,s2⟩:=hSw;first | (apply Eq.trans;apply ex_ld_id;exact rfl;exact rfl;assumption;with_reducible rfl) | (go_simp;try with_reducible rfl)
        try simp only [sA1,sA2,sA3,Act.put,sA4,sA5,sA6]
       refine wpAnyS_one hA rfl (fun K' hK=>?_)
       refine step_runI rfl _ _ (ex_bsI_at (x:=idG (min a b)) rfl rfl) ?_
       have fn:Fr noB V.drew (V.drew.alloc (rowo [idG (min a b)])):=(Fr.refl noB _).alloc _
       have sl:Sl (V.drew.alloc (rowo [idG (min a b)])) (some ⟨V.drew.heap.size,0,none⟩) (codI.row [idG (min a b)]):=sl_new V.drew [idG (min a b)]
       have hB3:=hB2.new fn
       replace hF:=(And.intro (cgAt (Cod.bxd_rd hB3.c)).parents (RD.out _ _ hB3).1)
       refine hK.out _ _ hF (fun hA=>?_)
       clear hK K'
       refine wpAnyS_one hA rfl (fun K' hK=>?_)
       refine step_appC' etI W _ rfl _ _ rfl none 0 0 [] rfl rfl (own0 W _) (some ⟨V.drew.heap.size,0,none⟩) 1 1 [idG (min a b)] rfl sl rfl (by simp) hB3.ge ?_
       intro A5 c5 w5 hc5 hm5 ho5 hg5 hA5
       have hB4:=hB3.grow0 hg5
       simp only [List.nil_append] at ho5
       clear hB2 hB3 hg5 hA5 fn sl
       replace hF:=(And.intro (cgAt (Cod.bxd_rd hB4.c)).parents (RD.out _ _ hB4).1)
       refine hK.out _ _ hF (fun hA=>?_)
       clear hK K'
       refine wpAnyS_take (v:=?_) hA rfl (fun _ _ _ h=>h) (Or.inl ⟨by rfl,?_⟩) hF (fun hA=>?_)
       rotate_left
       ·intro wS hSw;(try dsimp only at hSw);obtain ⟨s1,s2⟩:=hSw;first | (apply Eq.trans;apply ex_ld_id;exact rfl;exact rfl;assumption;with_reducible rfl) | (go_simp;try with_reducible rfl)
       try simp only [sA1,sA2,sA3,Act.put,sA4,sA5,sA6]
       refine wpAnyS_end hA rfl ?_
       simp only [List.drop_succ_cons,List.drop_zero]
       have k4:=(Cod.bxd_blk hB4.c).frozen 0
       go_upto_region 13 with fail
       have hB5:=hB4.set 0 (.slice A5 1 c5) (cwG A5 1 c5 1 k none 0 0) (seC_Parents _ A5 _ c5)
       have ho6:=hB4.own ho5 0 (.slice A5 1 c5)
       clear hB4 ho5 k4 hF
       generalize World.setCell _ _ _ = w6 at hB5 ho6 ⊢
       have fd:=(Fr.refl noB w6).drew
       have hB6:=hB5.new fd
       have ho7:=own_new0 ho6 fd
       have hw1:wrap64 (max ta tb + 1) = max ta tb + 1:=by
        have:=HW0.out
        unfold wrap64
        omega
       have hF0:w6.drew.cell? ⟨gT,oT + a,none⟩ = some (.int .i64 ta) ∧ w6.drew.cell? ⟨gT,oT + b,none⟩ = some (.int .i64 tb):=⟨cell_fr0 HC.out.1 hB6.fr,cell_fr0 HC.out.2 hB6.fr⟩
       clear hB5 ho6 fd
       have y1:(0:Int) ≤ (a:Int):=by omega
       have y2:(a:Int) < (k:Int):=by omega
       have y3:(0:Int) ≤ (b:Int):=by omega
       have y4:(b:Int) < (k:Int):=by omega
       refine wp_region_M 11 12 [⟨73786976294838206464,64,0⟩,⟨147573952589676412928,2048,0⟩,⟨295147905179352825856,221360928884514619392,3⟩,⟨590295810358705651712,295147905179352825856,4⟩,⟨1180591620717411303424,64,0⟩,⟨2361183241434822606848,4096,0⟩,⟨4722366482869645213696,3541774862152233910272,48⟩,⟨9444732965739290427392,4722366482869645213696,64⟩,⟨18889465931478580854784,10035028776097996079104,136⟩,⟨37778931862957161709568,18889465931478580854784,256⟩,⟨75557863725914323419136,1024,1023⟩,⟨0,113336795588871485128704,2047⟩] [(true,0),(true,1),(true,2),(true,3),(true,4),(true,5),(true,6),(true,7),(true,8),(true,9),(true,10)] (fun w'=>w'.cell? ⟨gT,oT + a,none⟩ = some (.int .i64 ta) ∧ w'.cell? ⟨gT,oT + b,none⟩ = some (.int .i64 tb)) (by kernel_rfl) rfl (by kernel_rfl) (by kernel_rfl) (by kernel_rfl) hF0 (fun hA hF=>?_)
       clear hF0
       obtain ⟨w7,hw7⟩:∃ w7,w7 = w6.drew:=⟨_,rfl⟩
       rw [← hw7] at hB6 ho7 hF ⊢
       clear hw7
       iterate 11
        refine wpAnyS_take (v:=?_) hA rfl (fun _ _ _ h=>h) (Or.inl ⟨by rfl,?_⟩) hF (fun hA=>?_)
        rotate_left
        ·intro wS hSw;(try dsimp only at hSw);obtain ⟨s1,s2⟩:=hSw;first | (apply Eq.trans;apply ex_ld_id;exact rfl;exact rfl;assumption;with_reducible rfl) | (go_simp;try with_reducible rfl)
        try simp only [sA1,sA2,sA3,Act.put,sA4,sA5,sA6]
       refine wpAnyS_end hA rfl ?_
       simp only [List.drop_succ_cons,List.drop_zero]
       have k4:=(Cod.bxd_blk hB6.c).frozen 1
       have k5:=(cgAt (Cod.bxd_rd hB6.c)).time
       go_upto_region 14 with fail
       clear hF
       have hB7:=hB6.set 1 (.int .i64 (wrap64 (max ta tb + 1))) (cwG A5 1 c5 (wrap64 (max ta tb + 1)) k none 0 0) (seC_Time _ _)
       have ho8:=hB6.own ho7 1 (.int .i64 (wrap64 (max ta tb + 1)))
       clear hB6 ho7 k4 k5
       generalize World.setCell _ _ _ = w8 at hB7 ho8 ⊢
       rw [hw1] at hB7
       clear hw1
       have par1:∀ j:Nat,(j = a ∨ j = b) → ∃ (i:Nat) (hi:i < ts.length),idG j = idG i ∧ ts[i] < max ta tb + 1:=fun j hj=>by
        rcases hj with rfl | rfl
        ·exact ⟨j,la2,rfl,by rw [← HT.out.1];omega⟩
        ·exact ⟨j,lb2,rfl,by rw [← HT.out.2];omega⟩
       have PAR:=Lib.hid par1
       have TM:=Lib.hid (show 1 ≤ max ta tb + 1 ∧ max ta tb + 1 ≤ 4 * (ts.length:Int) + 1 by have:=HW0.out;have:=HK.out;omega)
       have HB7:=Lib.hid hB7
       have HO8:=Lib.hid ho8
       clear par1 hB7 ho8
       by_cases hab:a = b
       ·have e2:((a:Int) == (b:Int)) = true:=by simp [hab]
        have e3:((a:Int) != (b:Int)) = false:=by simp [hab]
        have HAB:=Lib.hid hab
        clear hab
        go_wp2_with fail
        go_meet
        case rel =>
         have hm:min a b = a:=by have:=HAB.out;omega
         exact ⟨[idG (min a b)],max ta tb + 1,A5,c5,HB7.out,HO8.out,.inr (.inl ⟨min a b,by omega,rfl⟩),fun p hp=>by rw [List.mem_singleton] at hp;subst hp;exact PAR.out _ (by omega),TM.out.1,TM.out.2⟩
       ·have e2:((a:Int) == (b:Int)) = false:=by rw [beq_eq_false_iff_ne];omega
        have e3:((a:Int) != (b:Int)) = true:=by simp [bne,e2]
        have HAB:=Lib.hid hab
        clear hab
        go_upto_region 15 with fail
        have fd:=(Fr.refl noB w8).drew
        have hB2:=HB7.out.new fd
        have ho2:=own_new0 HO8.out fd
        have hF0:w8.drew.cell? ⟨P + 2,0,none⟩ = some (.slice A5 1 c5) ∧ rdI w8.drew gA (oA' + max a b * 32) = some (idG (max a b)):=⟨(cgAt (Cod.bxd_rd hB2.c)).parents,(RD.out _ _ hB2).2⟩
        refine wp_region_M 11 12 [⟨1208925819614629174706176,1024,0⟩,⟨2417851639229258349412352,1208925819614629174706176,1⟩,⟨4835703278458516698824704,32,0⟩,⟨9671406556917033397649408,2048,0⟩,⟨19342813113834066795298816,4096,0⟩,⟨38685626227668133590597632,29014219670751100192948224,24⟩,⟨77371252455336267181195264,43521329506126650289422336,36⟩,⟨154742504910672534362390528,77371252455336267181195264,64⟩,⟨309485009821345068724781056,154742504910672534362390528,128⟩,⟨618970019642690137449562112,311902861460574327074193408,258⟩,⟨1237940039285380274899124224,1024,1023⟩,⟨0,1856910058928070412348686336,2047⟩] [(true,0),(true,1),(true,2),(true,3),(true,4),(true,5),(true,6),(true,7),(false,8),(false,9),(true,10)] (fun w'=>w'.cell? ⟨P + 2,0,none⟩ = some (.slice A5 1 c5) ∧ rdI w' gA (oA' + max a b * 32) = some (idG (max a b))) (by kernel_rfl) rfl (by kernel_rfl) (by kernel_rfl) (by kernel_rfl) hF0 (fun hA hF=>?_)
        clear hF0 fd
        iterate 8
         refine wpAnyS_take (v:=?_) hA rfl (fun _ _ _ h=>h) (Or.inl ⟨by rfl,?_⟩) hF (fun hA=>?_)
         rotate_left
         ·intro wS hSw;(try dsimp only at hSw);obtain ⟨s1,s2⟩:=hSw;first | (apply Eq.trans;apply ex_ld_id;exact rfl;exact rfl;assumption;with_reducible rfl) | (go_simp;try with_reducible rfl)
         try simp only [sA1,sA2,sA3,Act.put,sA4,sA5,sA6]
        refine wpAnyS_one hA rfl (fun K' hK=>?_)
        refine step_runI rfl _ _ (ex_bsI_at (x:=idG (max a b)) rfl rfl) ?_
        have fn:Fr noB w8.drew (w8.drew.alloc (rowo [idG (max a b)])):=(Fr.refl noB _).alloc _
        have sl:Sl (w8.drew.alloc (rowo [idG (max a b)])) (some ⟨w8.drew.heap.size,0,none⟩) (codI.row [idG (max a b)]):=sl_new w8.drew [idG (max a b)]
        have hB3:=hB2.new fn
        have ho3:=own_new0 ho2 fn
        replace hF:=(And.intro (cgAt (Cod.bxd_rd hB3.c)).parents (RD.out _ _ hB3).2)
        refine hK.out _ _ hF (fun hA=>?_)
        clear hK K'
        refine wpAnyS_one hA rfl (fun K' hK=>?_)
        refine step_appC' etI W _ rfl _ _ rfl A5 1 c5 [idG (min a b)] rfl rfl ho3 (some ⟨w8.drew.heap.size,0,none⟩) 1 1 [idG (max a b)] rfl sl rfl (by simp) hB3.ge ?_
        intro A9 c9 w9 hc9 hm9 ho9 hg9 hA9
        have hB4:=hB3.grow ho3 hg9
        simp only [List.cons_append,List.nil_append] at ho9
        clear hB2 hB3 hg9 hA9 fn sl ho2 ho3
        replace hF:=(And.intro (cgAt (Cod.bxd_rd hB4.c)).parents (RD.out _ _ hB4).2)
        refine hK.out _ _ hF (fun hA=>?_)
        clear hK K'
        refine wpAnyS_take (v:=?_) hA rfl (fun _ _ _ h=>h) (Or.inl ⟨by rfl,?_⟩) hF (fun hA=>?_)
        rotate_left
        ·intro wS hSw;(try dsimp only at hSw);obtain ⟨s1,s2⟩:=hSw;first | (apply Eq.trans;apply ex_ld_id;exact rfl;exact rfl;assumption;with_reducible rfl) | (go_simp;try with_reducible rfl)
        try simp only [sA1,sA2,sA3,Act.put,sA4,sA5,sA6]
        refine wpAnyS_end hA rfl ?_
        simp only [List.drop_succ_cons,List.drop_zero]
        have k4:=(Cod.bxd_blk hB4.c).frozen 0
        go_wp2_with fail
        go_meet
        case rel =>
         have hB9:=hB4.set 0 (.slice A9 2 c9) (cwG A9 2 c9 (max ta tb + 1) k none 0 0) (seC_Parents _ A9 _ c9)
         have ho10:=hB4.own ho9 0 (.slice A9 2 c9)
         have hm:=HAB.out
         refine ⟨[idG (min a b),idG (max a b)],max ta tb + 1,A9,c9,hB9,ho10,.inr (.inr ⟨min a b,max a b,by omega,by omega,rfl⟩),fun p hp=>?_,TM.out.1,TM.out.2⟩
         simp only [List.mem_cons,List.not_mem_nil,or_false] at hp
         rcases hp with rfl | rfl
         ·exact PAR.out _ (by omega)
         ·exact PAR.out _ (by omega)
      case false =>
       go_wp2_with fail
       go_meet
       case rel=>exact ⟨[],1,none,0,HB.out,World.ownsRow_nil _ _ _ _,.inl rfl,by simp,by omega,by omega⟩
     case rest =>
      obtain ⟨ps,t,PA,pc,hB,ho,hp⟩:=hcut
      clear HB HB0 d1 d2 d3
      have hPs:=Lib.hid hp
      have tb:=And.intro hp.lo hp.hi
      have hkt:=HK.out
      have htb:1 ≤ t ∧ t ≤ 4 * (k:Int) + 1:=by rw [hkt];exact tb
      clear tb hp
      obtain ⟨r3,er3,hr3⟩:=and_maskM x.c 3 (by omega)
      have e3:bits BinOp.and IntKind.i64 x.c 3 = (r3:Int):=er3
      have hw1:wrap64 (t + (r3:Int)) = t + r3:=by
       unfold wrap64
       omega
      have htb2:1 ≤ t + (r3:Int) ∧ t + (r3:Int) ≤ 4 * ((k:Int) + 1):=by omega
      have d3:=hB.tri.2.2
      have k3:wc.cell? ⟨P + 2,1,none⟩ = some (.int .i64 t):=(cgAt (Cod.bxd_rd hB.c)).time
      have k4:=(Cod.bxd_blk hB.c).frozen 1
      clear er3 hkt htb
      have HTB:=Lib.hid htb2
      clear htb2 hr3
      go_upto_region 17 with fail
      have hB1:=hB.set 1 (.int .i64 (t + (r3:Int))) (cwG PA ps.length pc (t + (r3:Int)) k none 0 0) (seC_Time _ _)
      have ho1:=hB.own ho 1 (.int .i64 (t + (r3:Int)))
      clear d3 k3 k4 hB ho e3 hw1
      generalize World.setCell _ _ _ = w16 at hB1 ho1 ⊢
      have hPs2:=Lib.hid (show PsG ts (t + (r3:Int)) ps 4 from ⟨hPs.out.par,fun p hp=>by
       obtain ⟨j,hj,e,h⟩:=hPs.out.at_ p hp
       exact ⟨j,hj,e,by omega⟩,HTB.out.1,by have:=HTB.out.2;have:=HK.out;omega⟩)
      clear hPs
      generalize t + (r3:Int) = t' at hB1 ho1 HTB hPs2 ⊢
      have k3:w16.cell? ⟨P + 2,0,none⟩ = some (.slice PA ps.length pc):=(cgAt (Cod.bxd_rd hB1.c)).parents
      go_upto_if 101 with fail
      go_cut [13,14,15,16,17] from 24 to 165 (fun va vb vc vd ve wx=>∃ cw rs ops,GB wr W wx P x k cw ∧ cw.Time = t' ∧ rightCh (chG ps t' k ops) = true ∧ CgQ (fun g=>¬ S g) wx cw rs (chG ps t' k ops) ∧ (∀ o ∈ ops,o.Name = [110]))
      case first =>
       have hPA:ps ≠ [] → InQ (fun g=>¬ S g) PA:=fun _ g hg hS=>by
        have h1:=(own_lt ho1 g hg).1
        have h2:=HR.out.hs.lt hS
        have h3:=hB1.hW
        have h4:=hB1.hP
        omega
       have HPA:=Lib.hid hPA
       have hHB:=Lib.hid hB1
       have hHO:=Lib.hid ho1
       by_cases hp2:(ps.length:Int) < 2
       ·clear hPA
        have k1:w16.cell? ⟨P + 2,1,none⟩ = some (.int .i64 t'):=(cgAt (Cod.bxd_rd hB1.c)).time
        have k2:w16.cell? ⟨P + 2,2,none⟩ = some (.int .i64 (1 + (k:Int))):=(cgAt (Cod.bxd_rd hB1.c)).R
        go_upto_region 19 with fail
        have fs:Fr noB w16 (w16.alloc (codS.o ⟨t',1 + (k:Int)⟩)):=(Fr.refl noB w16).alloc _
        have qs:=Cod.rd_new' (C:=codS) w16 ⟨t',1 + (k:Int)⟩
        have hB2:=hB1.new fs
        have ho2:=own_new0 ho1 fs
        have q13:P + 3 ≤ w16.heap.size:=hB1.lt
        clear k1 k2 k3 hB1 ho1
        generalize w16.alloc (codS.o ⟨t',1 + (k:Int)⟩) = w18 at fs qs hB2 ho2 ⊢
        generalize w16.heap.size = q at q13 qs ⊢
        have hmv:(⟨1,⟨t',1 + (k:Int)⟩,⟨t',1 + (k:Int)⟩,zOpW.Parent,[110],zOpW.Data,zOpW.A,zOpW.n,zOpW.c⟩:OpW) = opWG t' k ⟨t',1 + (k:Int)⟩ zSt:=rfl
        go_upto_if 111 with fail
        have fo:Fr noB w18 (w18.alloc (codO.o (opWG t' k ⟨t',1 + (k:Int)⟩ zSt))):=(Fr.refl noB w18).alloc _
        have bO:=Cod.bxd_new (C:=codO) w18 (opWG t' k ⟨t',1 + (k:Int)⟩ zSt)
        have hB3:=hB2.new fo
        have ho3:=own_new0 ho2 fo
        have qs3:=Cod.rd_fr0 qs fo
        have q14:P + 3 ≤ w18.heap.size:=hB2.lt
        clear hmv fs qs hB2 ho2 fo
        generalize w18.alloc (codO.o (opWG t' k ⟨t',1 + (k:Int)⟩ zSt)) = w19 at bO hB3 ho3 qs3 ⊢
        generalize w18.heap.size = r at bO q14 ⊢
        have AT:rightS ⟨t',1 + (k:Int)⟩ = true:=rightS_G ⟨HTB.out.1,by have:=HTB.out.2;omega⟩ (by omega)
        have HAT:=Lib.hid AT
        clear AT
        go_cut [15,16,17] from 24 to 165 (fun va vb vc wx=>∃ nd pr,GB wr W wx P x k (cwG PA ps.length pc t' k none 0 0) ∧ OwnC codI W wx PA pc ps ∧ codO.bxd wx r = some (opWG t' k nd pr) ∧ goodOp (opG t' k nd pr) = true)
        case first =>
         have GOOD:=Lib.hid (show ∀ nd pr,rightS nd = true → cmpS nd ⟨t',1 + (k:Int)⟩ ≤ 0 → (rightS pr = true ∨ pr = zSt) → goodOp (opG t' k nd pr) = true from fun nd pr h1 h2 h3=>opG_good (by omega) ⟨HTB.out.1,by have:=HTB.out.2;omega⟩ h1 (by rw [Int.add_comm];exact h2) h3)
         have HB3:=Lib.hid hB3
         have HO3:=Lib.hid ho3
         have HBO:=Lib.hid bO
         by_cases hk0:(0:Int) < (k:Int)
         ·obtain ⟨ra,era,hra⟩:=and_maskM x.c 1023 (by omega)
          obtain ⟨rb,erb,hrb⟩:=and_maskM x.b 1023 (by omega)
          have hk0':0 < k:=by omega
          have la:ra % k < k:=Nat.mod_lt _ hk0'
          have lb:rb % k < k:=Nat.mod_lt _ hk0'
          have hkz:¬ (k = 0):=by omega
          have ha:(bits BinOp.and IntKind.i64 x.c 1023).tmod (k:Int) = ((ra % k:Nat):Int):=by rw [show bits BinOp.and IntKind.i64 x.c 1023 = (ra:Int) from era];rfl
          have hb':(bits BinOp.and IntKind.i64 x.b 1023).tmod (k:Int) = ((rb % k:Nat):Int):=by rw [show bits BinOp.and IntKind.i64 x.b 1023 = (rb:Int) from erb];rfl
          generalize ra % k = a at la ha
          generalize rb % k = b at lb hb'
          clear era erb hra hrb bO ho3
          obtain ⟨gT,oT,rfl⟩:∃ g o,B = some ⟨g,o,none⟩:=by
           obtain ⟨g,o,e,_⟩:=Sl.addr (Sl.own HR.out.tm) (by have:=HK.out;omega)
           exact ⟨g,o,e⟩
          have la2:a < ts.length:=by have:=HK.out;omega
          have lb2:b < ts.length:=by have:=HK.out;omega
          have ca:=cell_fr0 (Sl.cell1 rfl (Sl.own HR.out.tm) a la2 rfl) hB3.fr
          have cb:=cell_fr0 (Sl.cell1 rfl (Sl.own HR.out.tm) b lb2 rfl) hB3.fr
          have hta:=HR.out.g.tm _ (List.getElem_mem la2)
          have htb:=HR.out.g.tm _ (List.getElem_mem lb2)
          rw [← HK.out] at hta htb
          generalize ts[a] = ta at ca hta
          obtain ⟨tb,etb⟩:∃ tb,tb = ts[b]:=⟨_,rfl⟩
          rw [← etb] at cb htb
          have HTS:=Lib.hid etb.symm
          clear etb
          have HTA:=Lib.hid (show rightS ⟨ta,1 + (a:Int)⟩ = true from rightS_G ⟨hta.1,by omega⟩ (by omega))
          have HTB':=Lib.hid (show rightS ⟨tb,1 + (b:Int)⟩ = true from rightS_G ⟨htb.1,by omega⟩ (by omega))
          have y1:(0:Int) ≤ (a:Int):=by omega
          have y2:(a:Int) < (k:Int):=by omega
          have y3:(0:Int) ≤ (b:Int):=by omega
          have y4:(b:Int) < (k:Int):=by omega
          obtain ⟨_,d2,d3⟩:=hB3.tri
          clear hB3 hta htb
          have HCB:=Lib.hid cb
          clear cb
          go_upto_region 23 with fail
          have fs:Fr noB w19 (w19.alloc (codS.o ⟨ta,1 + (a:Int)⟩)):=(Fr.refl noB w19).alloc _
          have qx:=Cod.rd_new' (C:=codS) w19 ⟨ta,1 + (a:Int)⟩
          have q16:P + 3 ≤ w19.heap.size:=HB3.out.lt
          have d3':=cell_fr0 d3 fs
          have qs4:=Cod.rd_fr0 qs3 fs
          clear ca d2 d3 ha qs3
          generalize w19.alloc (codS.o ⟨ta,1 + (a:Int)⟩) = w22 at fs qx d3' qs4 ⊢
          generalize w19.heap.size = q2 at qx q16 ⊢
          go_cut [133] from 24 to 165 (fun v wx=>∃ bb:Bool,v = .bool bb ∧ (bb = true → cmpS ⟨ta,1 + (a:Int)⟩ ⟨t',1 + (k:Int)⟩ = -1) ∧ Fr noB w22 wx)
          case first =>
           by_cases hc:cmpS ⟨ta,1 + (a:Int)⟩ ⟨t',1 + (k:Int)⟩ = -1
           ·have C1:∀ w,Calls Tryz.prog 29 #[.agg (codS.A ⟨ta,1 + (a:Int)⟩),.agg (codS.A ⟨t',1 + (k:Int)⟩)] w (Gives w (.int .i64 (-1))):=fun w=>Gives.val (r3cmp_any w _ _) (by rw [hc])
            have HC1:=Lib.hid C1
            have HCC:=Lib.hid hc
            clear C1 hc
            by_cases h8:bits BinOp.and IntKind.i64 x.c 8 = 8
            ·have e8:(bits BinOp.and IntKind.i64 x.c 8 == 8) = true:=by simp [h8]
             go_wp2_with (go_at_call 29;refine (HC1.out _).mono ?_;rintro e wq ⟨rfl,fq⟩;have d3q:=cell_fr0 d3' fq;have FQ:=Lib.hid fq;clear fq)
             go_meet
             case rel=>exact ⟨true,rfl,fun _=>HCC.out,FQ.out⟩
            ·have e8:(bits BinOp.and IntKind.i64 x.c 8 == 8) = false:=by simp [h8]
             go_wp2_with (go_at_call 29;refine (HC1.out _).mono ?_;rintro e wq ⟨rfl,fq⟩;have d3q:=cell_fr0 d3' fq;have FQ:=Lib.hid fq;clear fq)
             go_meet
             case rel=>exact ⟨false,rfl,fun h=>absurd h (by decide),FQ.out⟩
           ·have e8:(cmpS ⟨ta,1 + (a:Int)⟩ ⟨t',1 + (k:Int)⟩ == -1) = false:=by simp [hc]
            go_wp2_with (go_at_call 29;refine (r3cmp_any _ _ _).mono ?_;rintro e wq ⟨rfl,fq⟩;have FQ:=Lib.hid fq;clear fq)
            go_meet
            case rel=>exact ⟨false,rfl,fun h=>absurd h (by decide),FQ.out⟩
          case rest =>
           obtain ⟨bb,rfl,hbb,fq⟩:=hcut
           have hB4:=(HB3.out.new fs).new fq
           have ho4:=own_new0 (own_new0 HO3.out fs) fq
           have bO4:=Cod.bxd_fr0 (Cod.bxd_fr0 HBO.out fs) fq
           have qx4:=Cod.rd_fr0 qx fq
           have HBB:=Lib.hid hbb
           clear hbb fs fq qx d3' qs4
           go_upto_if 133 with fail
           go_cut [] from 24 to 165 (fun wx=>∃ nd,GB wr W wx P x k (cwG PA ps.length pc t' k none 0 0) ∧ OwnC codI W wx PA pc ps ∧ codO.bxd wx r = some (opWG t' k nd zSt) ∧ rightS nd = true ∧ cmpS nd ⟨t',1 + (k:Int)⟩ ≤ 0)
           case first =>
            cases bb
            case true =>
             have HBC:=Lib.hid (show cmpS ⟨ta,1 + (a:Int)⟩ ⟨t',1 + (k:Int)⟩ ≤ 0 by rw [HBB.out rfl];decide)
             have hst:=stO_Node bO4 ⟨ta,1 + (a:Int)⟩
             obtain ⟨p1,p2,p3⟩:=Cod.put_fr bO4 (opWG t' k ⟨ta,1 + (a:Int)⟩ zSt)
             have HPP:=Lib.hid (And.intro p1 (And.intro p2 p3))
             have HB4:=Lib.hid hB4
             have HO4:=Lib.hid ho4
             have HBK:=Lib.hid (Cod.bxd_blk bO4)
             clear p1 p2 p3 hB4 ho4 bO4
             go_wp2_with fail
             go_meet
             case rel =>
              obtain ⟨p1,p2,p3⟩:=HPP.out
              exact ⟨⟨ta,1 + (a:Int)⟩,HB4.out.far p1 (fun b' hb'=>by have:b' = r:=hb';omega),own_box HBK.out HO4.out (by decide) p1,p3,HTA.out,HBC.out⟩
            case false =>
             clear qx4
             go_wp2_with fail
             go_meet
             case rel=>exact ⟨⟨t',1 + (k:Int)⟩,hB4,ho4,bO4,HAT.out,by rw [cmpS_self];decide⟩
           case rest =>
            obtain ⟨nd,hB5,ho5,bO5,hnd,hcn⟩:=hcut
            clear hB4 ho4 bO4 qx4 HBB
            have HND:=Lib.hid (And.intro hnd hcn)
            clear hnd hcn
            have d2:=hB5.tri.2.1
            have cb:=cell_fr0 (Sl.cell1 rfl (Sl.own HR.out.tm) b (by have:=HK.out;omega) rfl) hB5.fr
            have cb':wc.cell? ⟨gT,oT + b,none⟩ = some (.int .i64 tb):=by rw [cb];exact congrArg _ (congrArg _ HTS.out)
            have hst:=stO_Parent bO5 ⟨tb,1 + (b:Int)⟩
            obtain ⟨p1,p2,p3⟩:=Cod.put_fr bO5 (opWG t' k nd ⟨tb,1 + (b:Int)⟩)
            have HPP:=Lib.hid (And.intro p1 (And.intro p2 p3))
            have HB5:=Lib.hid hB5
            have HO5:=Lib.hid ho5
            have HBK:=Lib.hid (Cod.bxd_blk bO5)
            clear p1 p2 p3 hB5 ho5 bO5 cb
            go_wp2_with fail
            go_meet
            case rel =>
             obtain ⟨p1,p2,p3⟩:=HPP.out
             exact ⟨nd,⟨tb,1 + (b:Int)⟩,HB5.out.far p1 (fun b' hb'=>by have:b' = r:=hb';omega),own_box HBK.out HO5.out (by decide) p1,p3,GOOD.out _ _ HND.out.1 HND.out.2 (.inl HTB'.out)⟩
         ·have HK0:=Lib.hid hk0
          have ek0:decide ((0:Int) < (k:Int)) = false:=by simpa using hk0
          clear hB3 ho3 bO
          go_wp2_with fail
          go_meet
          case rel=>exact ⟨⟨t',1 + (k:Int)⟩,zSt,HB3.out,HO3.out,HBO.out,GOOD.out _ _ HAT.out (by rw [cmpS_self];decide) (.inr rfl)⟩
        case rest =>
         obtain ⟨nd,pr,hB6,ho6,bO6,hgood⟩:=hcut
         have rO:=Cod.bxd_rd bO6
         have fa:Fr noB wc (wc.alloc (codO.ro [opWG t' k nd pr])):=(Fr.refl noB wc).alloc _
         have sO:=Cod.sl_new (C:=codO) wc [opWG t' k nd pr]
         have hB7:=hB6.new fa
         have ho7:=own_new0 ho6 fa
         have k3:(wc.alloc (codO.ro [opWG t' k nd pr])).cell? ⟨P + 2,3,none⟩ = some (.slice none 0 0):=(cgAt (Cod.bxd_rd hB7.c)).ops
         have k4:=(Cod.bxd_blk hB7.c).frozen 3
         have lz:P + 3 ≤ wc.heap.size:=hB6.lt
         have HB7:=Lib.hid hB7
         have HO7:=Lib.hid ho7
         have HSO:=Lib.hid sO
         have HGO:=Lib.hid hgood
         clear hB6 ho6 bO6 fa sO hB7 ho7 hgood hB3 ho3 bO qs3
         go_wp2_with fail
         go_meet
         case rel =>
          have hB8:=HB7.out.set 3 (.slice (some ⟨wc.heap.size,0,none⟩) 1 1) (cwG PA ps.length pc t' k (some ⟨wc.heap.size,0,none⟩) 1 1) (seC_Ops _ _ _ _)
          have ho8:=HB7.out.own HO7.out 3 (.slice (some ⟨wc.heap.size,0,none⟩) 1 1)
          refine ⟨_,[opWG t' k nd pr],[opG t' k nd pr],hB8,rfl,?_,cwG_q (Sl.own ho8) HPA.out ?_ (fun _ g hg hS=>?_) (by have:=hPs2.out.len;omega) (.inr ⟨nd,pr,rfl,rfl⟩),fun o ho=>by rw [List.mem_singleton] at ho;rw [ho];rfl⟩
          ·exact chG_right (by omega) ⟨HTB.out.1,by have:=HTB.out.2;omega⟩ (by rw [HK.out];exact hPs2.out.par) (.inr ⟨by omega,nd,pr,rfl,HGO.out⟩)
          ·refine HSO.out.fr (Cod.set_fr _ (P + 2) 3 _) (fun a' ha' e=>?_)
           injection ha' with ha'
           subst ha'
           have e':wc.heap.size = P + 2:=e
           omega
          ·injection hg with hg
           have h2:=HR.out.hs.lt hS
           have h4:=hHB.out.hP
           have h5:wc.heap.size = g:=hg
           omega
       ·have HP2:=Lib.hid hp2
        have e2:decide ((ps.length:Int) < 2) = false:=by simpa using hp2
        clear hp2 hB1 ho1 hPA
        go_wp2_with fail
        go_meet
        case rel =>
         refine ⟨_,[],[],hHB.out,rfl,?_,cwG_q (Sl.own hHO.out) HPA.out (Sl.nil _ _) (fun h=>absurd rfl h) (by have:=hPs2.out.len;omega) (.inl ⟨rfl,rfl⟩),fun o ho=>absurd ho (by simp)⟩
         exact chG_right (by omega) ⟨HTB.out.1,by have:=HTB.out.2;omega⟩ (by rw [HK.out];exact hPs2.out.par) (.inl rfl)
      case rest =>
       obtain ⟨cw,rs,ops,hB,hct,hrc,hq,hnm⟩:=hcut
       clear hB1 ho1 k3
       have hgk:wc.heap.size = wc.heap.size:=rfl
       have hsW:=HR.out.hs.fr0 hB.fr
       have rI:=hB.i
       have rC:=Cod.bxd_rd hB.c
       have HQ:=Lib.hid hq
       have HHS:=Lib.hid hsW
       have HCT:=Lib.hid hct
       have HGA:=Lib.hid (HR.out.g.add (by have:=HK.out;omega) hrc (by show (k:Int) + 1 = _;rw [HK.out]) ⟨HTB.out.1,by have:=HTB.out.2;have:=HK.out;show t' ≤ _;omega⟩ (fun p hp=>by
        obtain ⟨j,hj,e,h⟩:=hPs2.out.at_ p hp
        exact ⟨j,hj,e,h⟩) (fun o ho=>hnm o ho))
       have hLl:L.length < 100000:=by have:=HR.out.g.len;have:=HK.out;omega
       have HLL:=Lib.hid hLl
       have HPL:=Lib.hid (show (chG ps t' k ops).Parents.length ≤ 1000000000 by have:=hPs2.out.len;show ps.length ≤ _;omega)
       have HBF:=Lib.hid hB
       have lz:=hB.lt
       clear hq hsW hct hLl hgk hB hrc hnm
       go_upto_region 30 with (go_at_call 10;refine (mgAdd_any HHS.out HLL.out (idG k) _ _ _ HQ.out HPL.out).mono ?_;rintro e v1 ⟨rfl,hs1,f1⟩;have hga:=HGA.out.1;rw [← HK.out] at hga;rw [hga] at hs1 ⊢;clear hga)
       have nS:∀ b,P ≤ b → ¬ S b:=fun b hb hS=>by have:=HR.out.hs.lt hS;have:=HBF.out.hP;omega
       have rI1:rdI v1 (P + 1) 0 = some (idG k):=rdI_fr HBF.out.i (rdI_lt HBF.out.i) f1 (nS _ (by omega))
       have rC1:=Cod.bxd_fr HBF.out.c f1 (nS _ (by omega))
       have oA1:OwnC codI w v1 A cA (rowG k):=by
        have h:=HR.out.ia
        rw [← HK.out] at h
        exact own_fr (own_new0 h HBF.out.fr) f1 (fun g hg=>by rw [ownBlock_sl'] at hg;exact HR.out.na g hg)
       have oB1:OwnC cod64 w v1 B cB ts:=own_fr (own_new0 HR.out.tm HBF.out.fr) f1 (fun g hg=>by rw [ownBlock_sl'] at hg;exact HR.out.nb g hg)
       have fx:Fr noB v1 (v1.alloc (rowo [idG k])):=(Fr.refl noB v1).alloc _
       have sx:Sl (v1.alloc (rowo [idG k])) (some ⟨v1.heap.size,0,none⟩) (codI.row [idG k]):=sl_new v1 [idG k]
       have oA2:=own_new0 oA1 fx
       have gl:=rowG_len k
       have HGL:=Lib.hid gl
       have hz1:w.heap.size ≤ (v1.alloc (rowo [idG k])).heap.size:=by
        have h1:=HR.out.fr.size
        have h2:=HBF.out.fr.size
        have h3:=f1.size
        have h4:=fx.size
        omega
       have HZ1:=Lib.hid hz1
       have hbA:((rowG k).length + [idG k].length) * 32 ≤ 140737488355328:=by rw [gl];simp;omega
       have HBA:=Lib.hid hbA
       have HF1:=Lib.hid f1
       have HSS1:=Lib.hid hs1
       clear f1 hs1 nS oA1 gl hz1 hbA rI rC
       go_upto_region 31 with (at_builtin;refine wpList_appC' etI w _ rfl _ _ rfl A k cA (rowG k) rfl HGL.out oA2 (some ⟨v1.heap.size,0,none⟩) 1 1 [idG k] rfl sx rfl HBA.out HZ1.out ?_;intro A6 c6 w6 hc6 hm6 ho6 hg6 hA6)
       have nA:∀ g,A.map (·.block) = some g → g < P:=fun g hg=>by have:=(own_lt HR.out.ia g hg).2;have:=HBF.out.hP;omega
       have f6:Fr (fun b=>A.map (·.block) = some b) (v1.alloc (rowo [idG k])) w6:=Fr.ofGrown hg6 (fun g hg=>hg)
       have bC6:=Cod.bxd_fr (Cod.bxd_fr0 rC1 fx) f6 (fun e=>by have:=nA _ e;omega)
       have k1:w6.cell? ⟨P + 2,1,none⟩ = some (.int .i64 t'):=by
        have h:=(cgAt (Cod.bxd_rd bC6)).time
        rw [HCT.out] at h
        exact h
       have oB6:OwnC cod64 w w6 B cB ts:=own_fr (own_new0 oB1 fx) f6 (fun g hg e=>by
        rw [ownBlock_sl'] at hg
        obtain ⟨_,cA1,z1,hA1⟩:=own_blk HR.out.ia e
        obtain ⟨_,cB1,z2,hB1⟩:=own_blk HR.out.tm hg
        rw [hA1] at hB1
        injection hB1 with hB1
        injection hB1 with _ h2
        exact absurd h2 (by decide))
       have fy:Fr noB w6 (w6.alloc (.cells #[.int .i64 t'] 2)):=(Fr.refl noB w6).alloc _
       have sy:Sl (w6.alloc (.cells #[.int .i64 t'] 2)) (some ⟨w6.heap.size,0,none⟩) (cod64.row [t']):=Sl.new w6 2 [.int .i64 t']
       have oB7:=own_new0 oB6 fy
       have HZ7:=Lib.hid (show w.heap.size ≤ (w6.alloc (.cells #[.int .i64 t'] 2)).heap.size from Nat.le_trans (Nat.le_trans HZ1.out f6.size) fy.size)
       have HBY:=Lib.hid (show (ts.length + [t'].length) * 8 ≤ 140737488355328 from by have:=HK.out;simp;omega)
       have HO6:=Lib.hid ho6
       have HG6:=Lib.hid hg6
       have HA6:=Lib.hid hA6
       have HFX:=Lib.hid fx
       clear nA f6 bC6 rC1 oB6 oB1 fx sx oA2 ho6 hg6 hA6 hc6 hm6 rI1
       go_wp2_with (at_builtin;refine wpList_appC' et64 w _ rfl _ _ rfl B k cB ts rfl HK.out.symm oB7 (some ⟨w6.heap.size,0,none⟩) 1 1 [t'] rfl sy rfl HBY.out HZ7.out ?_;intro A7 c7 w7 hc7 hm7 ho7 hg7 hA7)
       go_roundg (nums.length - (k + 1))
       case measure=>have:=HK.out;omega
       case rel =>
        have hg2:=HGA.out.2
        rw [← HK.out] at hg2
        have o6:=HO6.out
        have hs1:=HSS1.out
        have hgl:=HGL.out
        have hkk:=HK.out
        have el:(ts ++ [t']).length = k + 1:=by rw [List.length_append,← hkk];rfl
        rw [hkk] at o6
        refine ⟨ts ++ [t'],grF S wc v1,A6,c6,A7,c7,_,by rw [el];simp,by rw [el],by rw [el];omega,by rw [el,hgl],by rw [el,hkk],GR.next HR.out hg2 HBF.out.fr hs1 HF1.out HFX.out o6 HG6.out HA6.out fy ho7 hg7 hA7⟩
   ·have ek:k = 16:=by have:=HR.out.g.le;have:=HK.out;omega
    subst ek
    have i1:(16:Int) < (nums.length:Int):=by omega
    have HLT:=Lib.hid hlt
    clear hlt h16 hkn
    obtain ⟨gN,oN,rfl,hgN⟩:=Sl.addr hs (by have:=HLT.out;omega)
    have rx:codTr.rd wr gN (oN + 16 * 3) = some (nums[16]'HLT.out):=Sl.rd (hs.fr0 HR.out.fr) 16 HLT.out
    generalize nums[16]'HLT.out = x at rx
    go_wp2_with fail
    go_ret2
    have fz:Fr noB wr (wr.alloc (codTr.o x)):=(Fr.refl noB wr).alloc _
    exact ⟨H,S,L,ts,A,cA,by rw [← HK.out];rfl,HR.out.hs.fr0 fz,HR.out.g,own_new0 HR.out.ia fz,HR.out.na,HR.out.lo,HR.out.fr.step0 fz⟩
  ·have ek:k = nums.length:=by omega
   have i1:¬ ((k:Int) < (nums.length:Int)):=by omega
   have HEK:=Lib.hid ek
   clear ek hlt hkn
   go_wp2_with fail
   go_ret2
   exact ⟨H,S,L,ts,A,cA,by rw [← HK.out];rfl,HR.out.hs,HR.out.g,HR.out.ia,HR.out.na,HR.out.lo,HR.out.fr⟩
end Go.Proofs.YtjpieiccpbcabaaGreat
