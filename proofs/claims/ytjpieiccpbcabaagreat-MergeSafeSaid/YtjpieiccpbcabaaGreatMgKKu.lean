/- Contract: merge's fast. (ex_ldS_at, ex_ldO_at) The plan of a merge in memory. -/
import Derived.Test.YtjpieiccpbcabaaGreatMgIKu
import Derived.Test.YtjpieiccpbcabaaGreatGlFKu
import Derived.Test.YtjpieiccpbcabaaGreatRegTKu
set_option linter.unusedVariables false
set_option linter.unusedSimpArgs false
namespace Go.Proofs.YtjpieiccpbcabaaGreat
open Go.RowKit Go.Maps Go.Sort
attribute [local go_sem] Oper.semAt_some
theorem restO_left {rs:List OpW} {xs base:List Opn} {w:World} (h:AllO OpIn w rs xs):∃ zs,zs = restO base xs ∧ AllO OpIn w (leftW (base.map (·.At)) rs) zs:=by
 refine ⟨_,rfl,?_⟩
 induction rs generalizing xs with
 | nil =>
  cases xs with
  | nil=>exact AllO.nil
  | cons x xs=>exact absurd h.1 (by simp)
 | cons r rs ih =>
  cases xs with
  | nil=>exact absurd h.1 (by simp)
  | cons x xs =>
   obtain ⟨h1,h2⟩:=h.tail
   have e:x.At = r.At:=by rw [h1.eq];rfl
   have e2:(base.any fun b=>decide (b.At = x.At)) = decide (r.At ∈ base.map (·.At)):=by
    rw [Bool.eq_iff_iff,List.any_eq_true,decide_eq_true_eq,List.mem_map,e]
    simp
   unfold restO leftW at ih ⊢
   rw [List.filter_cons,List.filter_cons,e2]
   split
   ·exact AllO.cons h1 (ih h2)
   ·exact ih h2
def FsLoop (w1:World) (t:Nat) (os:List Opn) (gk:Nat) (iv:Value) (wr:World):Prop :=
 ∃ (k:Nat) (kv:List (St × Value)),iv = .int .i64 (k:Int) ∧ gk = os.length - k ∧ k ≤ os.length ∧ mpT wr t = some kv ∧ (∀ s,(look kv s).getD (.bool false) = .bool (decide (s ∈ (os.take k).map (·.At)))) ∧ Fr (oneB t) w1 wr
def FsL2 (w V:World) (bs b:Nat) (base zs:List Opn) (A5:Option Addr) (c5:Nat) (r5:List OpW) (gk:Nat) (iv:Value) (wr:World):Prop :=
 ∃ (k:Nat) (t:TrW),iv = .int .i64 (k:Int) ∧ gk = zs.length - k ∧ k ≤ zs.length ∧ GvS bs wr b t (base ++ zs.take k) ∧ OwnC codO V wr A5 c5 r5 ∧ Fr noB w wr
def FastTo (w:World) (base all:List Opn) (e:Ending) (w':World):Prop :=
 (safeO base all = true ∧ ∃ A c rs wa,e = .returned (.tuple #[.slice A (rs:List RwW).length c,.bool true]) ∧ RowsTo wa (runX [] all) (.returned (.slice A rs.length c)) w' ∧ Fr noB w wa) ∨
 (safeO base all = false ∧ e = .returned (.tuple #[.slice none 0 0,.bool false]) ∧ Fr noB w w')
set_option maxRecDepth 100000 in
set_option maxHeartbeats 8000000 in
theorem mgFast_any (w:World) (A B:Option Addr) (c d n m:Nat) (rb ra:List OpW) (base all:List Opn) (hn:rb.length = n) (hm:ra.length = m) (hsb:Sl w A (codO.row rb)) (hsa:Sl w B (codO.row ra)) (hXb:AllO OpIn w rb base) (hXa:AllO OpIn w ra all)
  (srb:SrtL base) (sra:SrtL all) (hsub:∀ o ∈ base,o ∈ all) (hgd:∀ o ∈ all,goodOp o = true) (hb:all.length ≤ 64000) (hbb:base.length ≤ 64000) :
  Calls Tryz.prog 52 #[.slice A n c,.slice B m d] w (FastTo w base all):=by
 have hnb:n = base.length:=by rw [← hn];exact hXb.1
 have hma:m = all.length:=by rw [← hm];exact hXa.1
 subst hnb hma
 go_enter Tryz.func52,Tryz.ntmps52
 go_upto_region 2 with fail
 have f0:Fr noB w ((w.alloc (.map #[] 0)).alloc (.cells #[.map (some w.heap.size)] 78)):=((Fr.refl noB w).alloc _).alloc _
 have b0:=(Blk.new (w.alloc (.map #[] 0)) 78 [.map (some w.heap.size)]).cell 0
 have m0:=mpT_fr0 (mpT_new w) ((Fr.refl noB _).alloc (.cells #[.map (some w.heap.size)] 78))
 have z0:(w.alloc (.map #[] 0)).heap.size = w.heap.size + 1:=by simp
 rw [z0] at b0
 have b1:((w.alloc (.map #[] 0)).alloc (.cells #[.map (some w.heap.size)] 78)).cell? ⟨w.heap.size + 1,0,none⟩ = some (.map (some w.heap.size)):=b0
 clear b0 z0
 generalize (w.alloc (.map #[] 0)).alloc (.cells #[.map (some w.heap.size)] 78) = W1 at f0 b1 m0 ⊢
 obtain ⟨T,hT⟩:∃ T,T = w.heap.size:=⟨_,rfl⟩
 rw [← hT] at b1 m0 ⊢
 have HT:=Lib.hid hT
 have HN:=Lib.hid hn
 have HM:=Lib.hid hm
 have HSB:=Lib.hid hsb
 have HSA:=Lib.hid hsa
 have HXB:=Lib.hid hXb
 have HXA:=Lib.hid hXa
 have HRB:=Lib.hid srb
 have HRA:=Lib.hid sra
 have HSUB:=Lib.hid hsub
 have HGD:=Lib.hid hgd
 have HB:=Lib.hid hb
 have HBL:=Lib.hid hbb
 clear hT hn hm hsb hsa hXb hXa srb sra hsub hgd hb hbb
 go_wp2_with fail
 have hi0:FsLoop W1 T base base.length (.int .i64 ((0:Nat):Int)) W1:=⟨0,[],rfl,rfl,Nat.zero_le _,m0,fun s=>by simp [look],Fr.refl _ _⟩
 clear m0
 go_loopg [16] base.length (fun gk iv wr=>FsLoop W1 T base gk iv wr)
 case atStart=>exact hi0
 case round =>
  clear hi0
  obtain ⟨k,kv,rfl,rfl,hk,hm,hkv,hf⟩:=hrel
  have F:=Lib.hid (f0.step1 hf (Nat.le_of_eq HT.out.symm))
  have b2:=gcell_fr b1 hf (by show ¬ T + 1 = T;omega)
  by_cases hlt:k < base.length
  ·have j0:(0:Int) ≤ (k:Int):=by omega
   have j1:(k:Int) < (base.length:Int):=by omega
   have hkr:k < rb.length:=by rw [HN.out];exact hlt
   obtain ⟨g,off,rfl,hgg⟩:=HSB.out.adC (by omega)
   have e1:codO.rd wr g (off + k * 41) = some rb[k]:=(HSB.out.fr0 F.out).rd k hkr
   have hin:=HXB.out.2 k hkr hlt
   have HTK:=Lib.hid (show (base.take (k + 1)).map (·.At) = (base.take k).map (·.At) ++ [(base[k]).At] by rw [List.take_succ_eq_append_getElem hlt,List.map_append];rfl)
   have hgo:=HGD.out _ (HSUB.out _ (List.getElem_mem hlt))
   generalize rb[k] = r at e1 hin
   generalize base[k] = o at hin HTK hgo
   have ea:r.At = o.At:=by rw [hin.eq];rfl
   have hw:=rightS_wf (goodOp_at hgo).1
   rw [← ea] at hw
   have HEA:=Lib.hid ea
   have HLT:=Lib.hid hlt
   have HKV:=Lib.hid hkv
   have HF:=Lib.hid hf
   have HK:=Lib.hid (show k ≤ 64000 by have:=HBL.out;omega)
   clear hk hlt hkr hgg hin hgo ea hkv hf
   go_upto_region 5 with fail
   have f12:Fr noB wr (wr.alloc (codO.o r)):=(Fr.refl noB wr).alloc _
   have q12:=(opAt (Cod.rd_new' (C:=codO) wr r)).At
   have m12:=mpT_fr0 hm f12
   have b12:=cell_fr0 b2 f12
   have F12:=Lib.hid (HF.out.trans (f12.any (M:=oneB T)) (fun _ _ h=>h))
   clear e1 f12 hm b2 HF
   generalize wr.alloc (codO.o r) = W12 at q12 m12 b12 F12 ⊢
   generalize wr.heap.size = D2 at q12 ⊢
   obtain ⟨_,v2,v3,v4⟩:=mputT_all Tryz.underlying78 m12 hw (.bool true)
   have HV:=Lib.hid (And.intro v2 v3)
   clear v2 v3 v4
   go_wp2_with fail
   go_roundg (base.length - (k + 1))
   case measure=>have:=HLT.out;omega
   case rel=>exact ⟨k + 1,_,by first | (simp;done) | exact congrArg (Value.int .i64) (IntWalk.wrap64_in _ (by have:=HK.out;omega)),rfl,HLT.out,HV.out.1,fun s=>by
    rw [HTK.out,look_putA]
    by_cases e:r.At = s
    ·rw [if_pos e]
     have:s ∈ (base.take k).map (·.At) ++ [o.At]:=by rw [← e,HEA.out];simp
     simp only [this,decide_true]
     rfl
    ·rw [if_neg e,HKV.out s]
     have e':s ≠ o.At:=fun h=>e (by rw [h,HEA.out])
     congr 1
     simp [e'],F12.out.trans HV.out.2 (fun _ _ h=>h)⟩
  ·have j1:¬ (k:Int) < (base.length:Int):=by omega
   have hke:k = base.length:=by omega
   rw [hke,List.take_length] at hkv
   have CL:=Lib.hid (clOps_any wr B d ra all.length HM.out (HSA.out.fr0 F.out) (by have:=HB.out;have:=HM.out;omega))
   obtain ⟨zs,hzs,hza⟩:=restO_left (base:=base) HXA.out
   have HWF:=Lib.hid (show ∀ r ∈ ra,wfS r.At = true from fun r hr=>by
    obtain ⟨i,hi,rfl⟩:=List.getElem_of_mem hr
    have hi':i < all.length:=by rw [← HM.out];exact hi
    have e:ra[i].At = all[i].At:=by rw [(HXA.out.2 i hi hi').eq];rfl
    rw [e]
    exact rightS_wf (goodOp_at (HGD.out _ (List.getElem_mem hi'))).1)
   have CDL:=Lib.hid (fun w4 (f4:Fr noB wr w4) A4 c4 (ho:OwnC codO wr w4 A4 c4 ra) (hc:ra.length ≤ c4)=>delOps_any wr w4 f4 A4 c4 _ ra rfl ho hc (by have:=HB.out;have:=HM.out;omega) (T + 1) T kv (base.map (·.At)) b2 hm hkv HWF.out)
   have HZE:=Lib.hid hzs
   have HZA:=Lib.hid hza
   clear hke hk hlt hkv hzs hza hf hm b1 b2
   go_upto_region 8 with (first
    | (go_at_call 72;refine CL.out.mono ?_;rintro e w4 ⟨A4,c4,rfl,o4,f4,hc4⟩)
    | (go_at_call 89;go_loud (refine (CDL.out w4 f4 A4 c4 o4 hc4).mono ?_;rintro e w5 ⟨A5,c5,rfl,o5,f5,hc5⟩)))
   obtain ⟨r5,hr5⟩:∃ r5,r5 = leftW (base.map (·.At)) ra:=⟨_,rfl⟩
   rw [← hr5] at o5 HZA ⊢
   have HZL:=Lib.hid (show r5.length = zs.length from HZA.out.1)
   have HO5:=Lib.hid o5
   have F5:=Lib.hid (F.out.step0 f5)
   clear CL CDL o4 f4 hc4 o5 f5 hc5 hr5 F
   rw [HZL.out]
   clear j1
   have CT:=Lib.hid (fun w' (f:Fr noB w w')=>mgTree_any w' A c base.length rb base HN.out (HSB.out.fr0 f) ⟨HXB.out.1,fun i a b=>(HXB.out.2 i a b).fr f⟩ (fun o ho=>HGD.out o (HSUB.out o ho)) HRB.out (by have:=HBL.out;omega))
   have hzlen:zs.length ≤ 64000:=by
    rw [HZE.out]
    have:=List.length_filter_le (fun o:Opn=>!(base.any fun b=>decide (b.At = o.At))) all
    have:=HB.out
    unfold restO
    omega
   have HZ6:=Lib.hid hzlen
   clear hzlen
   by_cases hbe:base = []
   ·have n0:base.length = 0:=by rw [hbe];rfl
    have HS0:=Lib.hid (show safeO base all = true by rw [hbe];rfl)
    have fd:Fr noB w5 w5.drew:=(Fr.refl noB w5).drew
    have g0:¬ (0:Int) < (base.length:Int):=by rw [n0];decide
    refine wp_region_M 22 23 [⟨268435456,1,0⟩,⟨536870912,268435456,1⟩,⟨1073741824,536870912,2⟩,⟨2147483648,1073741824,4⟩,⟨4294967296,2147484160,8⟩,⟨8589934592,6442450944,24⟩,⟨17179869184,10737418240,40⟩,⟨34359738368,19327352832,72⟩,⟨68719476736,34359738368,136⟩,⟨137438953472,68719477248,256⟩,⟨274877906944,206158430208,768⟩,⟨549755813888,343597383680,1280⟩,⟨1099511627776,618475290624,2304⟩,⟨2199023255552,68719476737,256⟩,⟨4398046511104,68719476737,256⟩,⟨8796093022208,4466765987840,16640⟩,⟨17592186044416,8864812498944,33024⟩,⟨35184372088832,19859928776704,73984⟩,⟨70368744177664,35253091565568,131328⟩,⟨140737488355328,70437463654400,262400⟩,⟨281474976710656,141905719459840,528640⟩,⟨562949953421312,281543696187392,1048832⟩,⟨1125899906842624,563018672898048,2097408⟩] [(true,0),(true,1),(true,2),(true,3),(true,4),(true,5),(true,6),(true,7),(true,8),(true,9),(true,10),(true,11),(true,12),(true,13),(true,14),(true,15),(true,16),(true,17),(true,18),(true,19),(true,20),(true,21)] (fun w'=>True) (by kernel_rfl) rfl (by kernel_rfl) (by kernel_rfl) (by kernel_rfl) trivial (fun hA hF=>?_)
    iterate 4
     refine wpAnyS_take (v:=?_) hA rfl (fun _ _ _ h=>h) (Or.inl ⟨by rfl,?_⟩) hF (fun hA=>?_)
     rotate_left
     ·intro wS hSw;(try dsimp only at hSw);obtain s1:=hSw;first | (apply Eq.trans;apply ex_ldO_at;exact rfl;exact rfl;assumption;with_reducible rfl) | (apply Eq.trans;apply ex_ldS_at;exact rfl;exact rfl;assumption;with_reducible rfl) | (go_simp;try with_reducible rfl)
     try simp only [sA1,sA2,sA3,Act.put,sA4,sA5,sA6]
    iterate 3
     refine wpAnyS_take (v:=undef) hA rfl (fun _ _ _ h=>h) (Or.inr ⟨by rfl,rfl⟩) hF (fun hA=>?_)
     try simp only [sA1,sA2,sA3,Act.put,sA4,sA5,sA6]
    iterate 2
     refine wpAnyS_take (v:=?_) hA rfl (fun _ _ _ h=>h) (Or.inl ⟨by rfl,?_⟩) hF (fun hA=>?_)
     rotate_left
     ·intro wS hSw;(try dsimp only at hSw);obtain s1:=hSw;first | (apply Eq.trans;apply ex_ldO_at;exact rfl;exact rfl;assumption;with_reducible rfl) | (apply Eq.trans;apply ex_ldS_at;exact rfl;exact rfl;assumption;with_reducible rfl) | (go_simp;try with_reducible rfl)
     try simp only [sA1,sA2,sA3,Act.put,sA4,sA5,sA6]
    iterate 13
     refine wpAnyS_take (v:=undef) hA rfl (fun _ _ _ h=>h) (Or.inr ⟨by rfl,rfl⟩) hF (fun hA=>?_)
     try simp only [sA1,sA2,sA3,Act.put,sA4,sA5,sA6]
    refine wpAnyS_end hA rfl ?_
    simp only [List.drop_succ_cons,List.drop_zero]
    clear hF n0 hbe
    have HFD:=Lib.hid fd
    clear fd
    have HSF:=Lib.hid HS0.out
    have HSA2:=Lib.hid (show (∀ o ∈ zs,∀ b ∈ base,cmpS b.At o.At < 0) ∧ base ++ zs = all by have:=safe_all HRB.out HRA.out HSUB.out HSF.out;rw [HZE.out];exact this)
    have F9:=Lib.hid (F5.out.step0 HFD.out)
    have HO9:=Lib.hid (own_new0 HO5.out HFD.out)
    have HZS:=Lib.hid (show SrtL zs by rw [HZE.out];exact rest_srt HRA.out)
    go_upto_region 12 with (go_at_call 48;refine (CT.out w5.drew F9.out).mono ?_;rintro e w9 ⟨b,t,rfl,gt,f9⟩)
    have hi0:FsL2 w wr w5.drew.heap.size b base zs A5 c5 r5 zs.length (.int .i64 ((0:Nat):Int)) w9:=⟨0,t,rfl,rfl,Nat.zero_le _,by simpa using gt,own_new0 HO9.out f9,F9.out.step0 f9⟩
    have HBS:=Lib.hid F9.out.size
    clear gt f9 CT HO9 F9
    go_loopg [55] zs.length (fun gk iv wq=>FsL2 w wr w5.drew.heap.size b base zs A5 c5 r5 gk iv wq)
    case atStart=>exact hi0
    case round =>
     clear hi0
     obtain ⟨k,t,rfl,rfl,hk,hG,hO,hf⟩:=hrel
     by_cases hlt:k < zs.length
     ·have j0:(0:Int) ≤ (k:Int):=by omega
      have j1:(k:Int) < (zs.length:Int):=by omega
      have hlr:k < r5.length:=by rw [HZL.out];exact hlt
      have hsl:=Sl.own hO
      obtain ⟨g,off,hAe,hgg⟩:=hsl.adC (by omega)
      subst hAe
      have e1:codO.rd wr g (off + k * 41) = some r5[k]:=hsl.rd k hlr
      have hin:=HZA.out.2 k hlr hlt
      have hgo:=HGD.out zs[k] (by rw [← HSA2.out.2];exact List.mem_append_right _ (List.getElem_mem hlt))
      have hlat:∀ p ∈ base ++ zs.take k,cmpS p.At (zs[k]).At < 0:=fun p hp=>by
       rcases List.mem_append.1 hp with hp | hp
       ·exact HSA2.out.1 _ (List.getElem_mem hlt) p hp
       ·obtain ⟨i,hi,rfl⟩:=List.getElem_of_mem hp
        rw [List.length_take] at hi
        rw [List.getElem_take]
        exact List.pairwise_iff_getElem.1 HZS.out i k (by omega) hlt (by omega)
      have HTK:=Lib.hid (show base ++ zs.take (k + 1) = (base ++ zs.take k) ++ zs[k] :: [] by rw [List.take_succ_eq_append_getElem hlt,List.append_assoc])
      have HSK:=Lib.hid (show SrtL (base ++ zs.take k) by
       have h1:SrtL (base ++ zs):=by rw [HSA2.out.2];exact HRA.out
       exact List.Pairwise.sublist ((List.Sublist.refl base).append (List.take_sublist k zs)) h1)
      generalize r5[k] = r at e1 hin
      generalize zs[k] = o at hin hgo hlat HTK
      have HLT:=Lib.hid hlt
      have HK:=Lib.hid (show k ≤ 64000 by have:=HZ6.out;omega)
      have HIN:=Lib.hid (hin.fr hf)
      have HGO:=Lib.hid hgo
      have HLA:=Lib.hid hlat
      clear hk hlt hlr hsl hgg hin hgo hlat
      go_upto_region 14 with fail
      have f12:Fr noB wr (wr.alloc (codO.o r)):=(Fr.refl noB wr).alloc _
      have q12:=Cod.rd_new' (C:=codO) wr r
      have HG12:=Lib.hid (hG.fr0 f12)
      have HO12:=Lib.hid (own_new0 hO f12)
      have HIN12:=Lib.hid (HIN.out.fr f12)
      have F12:=Lib.hid (hf.step0 f12)
      clear e1 f12 hG hO hf HIN
      generalize wr.alloc (codO.o r) = W12 at q12 HG12 HO12 HIN12 F12 ⊢
      generalize wr.heap.size = D2 at q12 ⊢
      have hl9:(base ++ zs.take k).length ≤ 64000:=by
       have h1:(base ++ zs).length ≤ 64000:=by rw [HSA2.out.2];exact HB.out
       rw [List.length_append] at h1 ⊢
       rw [List.length_take]
       omega
      have CI:=Lib.hid (gvIns_mid (base ++ zs.take k) [] (by rw [List.append_nil];exact HG12.out) (by rw [List.append_nil];exact HSK.out) (by rw [List.append_nil];omega) r o HIN12.out (by have:=goodOp_over HGO.out;omega) HGO.out HLA.out (by simp))
      clear hl9
      go_wp2_with (go_at_call 82;go_loud (refine CI.out.mono ?_;rintro e w15 ⟨t5,rfl,h5,u5,m5,f15⟩))
      have HNX:=Lib.hid (show GvS w5.drew.heap.size w15 b t5 (base ++ zs.take (k + 1)) ∧ _ ∧ Fr noB w w15 from ⟨by rw [HTK.out];exact h5,HG12.out.own f15 HO12.out (by decide) (by decide),F12.out.step f15 (fun q hq=>.inl (Nat.le_trans HBS.out (HG12.out.base hq)))⟩)
      clear h5 u5 m5 f15
      go_roundg (zs.length - (k + 1))
      case measure=>have:=HLT.out;omega
      case rel=>exact ⟨k + 1,t5,by first | (simp;done) | exact congrArg (Value.int .i64) (IntWalk.wrap64_in _ (by have:=HK.out;omega)),rfl,HLT.out,HNX.out.1,HNX.out.2.1,HNX.out.2.2⟩
     ·have j1:¬ (k:Int) < (zs.length:Int):=by omega
      have hke:k = zs.length:=by omega
      rw [hke,List.take_length,HSA2.out.2] at hG
      have CR:=Lib.hid (gvRows_any hG (by have:=HB.out;omega))
      have F15:=Lib.hid hf
      clear hke hk hlt hG hO hf
      go_wp2_with (go_at_call 49;refine CR.out.mono ?_;rintro e w16 ⟨A16,c16,rs16,ys16,rfl,o16,x16,ap16,p16,q16,f16⟩)
      refine bodyPost_ret (results_tmp2 rfl _ _ _) rfl ?_
      exact .inl ⟨HSF.out,A16,c16,rs16,_,rfl,⟨A16,c16,rs16,ys16,rfl,o16,x16,ap16,p16,q16,f16⟩,F15.out⟩
   ·have hbl:0 < base.length:=List.length_pos_iff.2 hbe
    have g0:(0:Int) < (base.length:Int):=by omega
    have fd:Fr noB w5 w5.drew:=(Fr.refl noB w5).drew
    by_cases hze:zs = []
    ·have n1:zs.length = 0:=by rw [hze];rfl
     have g1:¬ (0:Int) < (zs.length:Int):=by rw [n1];decide
     have HS0:=Lib.hid (show safeO base all = true by
      unfold safeO
      rw [← HZE.out,hze]
      cases base.getLast? <;> rfl)
     refine wp_region_M 22 23 [⟨268435456,1,0⟩,⟨536870912,268435456,1⟩,⟨1073741824,536870912,2⟩,⟨2147483648,1073741824,4⟩,⟨4294967296,2147484160,8⟩,⟨8589934592,6442450944,24⟩,⟨17179869184,10737418240,40⟩,⟨34359738368,19327352832,72⟩,⟨68719476736,34359738368,136⟩,⟨137438953472,68719477248,256⟩,⟨274877906944,206158430208,768⟩,⟨549755813888,343597383680,1280⟩,⟨1099511627776,618475290624,2304⟩,⟨2199023255552,68719476737,256⟩,⟨4398046511104,68719476737,256⟩,⟨8796093022208,4466765987840,16640⟩,⟨17592186044416,8864812498944,33024⟩,⟨35184372088832,19859928776704,73984⟩,⟨70368744177664,35253091565568,131328⟩,⟨140737488355328,70437463654400,262400⟩,⟨281474976710656,141905719459840,528640⟩,⟨562949953421312,281543696187392,1048832⟩,⟨1125899906842624,563018672898048,2097408⟩] [(true,0),(true,1),(true,2),(true,3),(true,4),(true,5),(true,6),(true,7),(true,8),(true,9),(true,10),(true,11),(true,12),(true,13),(true,14),(true,15),(true,16),(true,17),(true,18),(true,19),(true,20),(true,21)] (fun w'=>True) (by kernel_rfl) rfl (by kernel_rfl) (by kernel_rfl) (by kernel_rfl) trivial (fun hA hF=>?_)
     iterate 9
      refine wpAnyS_take (v:=?_) hA rfl (fun _ _ _ h=>h) (Or.inl ⟨by rfl,?_⟩) hF (fun hA=>?_)
      rotate_left
      ·intro wS hSw;(try dsimp only at hSw);obtain s1:=hSw;first | (apply Eq.trans;apply ex_ldO_at;exact rfl;exact rfl;assumption;with_reducible rfl) | (apply Eq.trans;apply ex_ldS_at;exact rfl;exact rfl;assumption;with_reducible rfl) | (go_simp;try with_reducible rfl)
      try simp only [sA1,sA2,sA3,Act.put,sA4,sA5,sA6]
     iterate 13
      refine wpAnyS_take (v:=undef) hA rfl (fun _ _ _ h=>h) (Or.inr ⟨by rfl,rfl⟩) hF (fun hA=>?_)
      try simp only [sA1,sA2,sA3,Act.put,sA4,sA5,sA6]
     refine wpAnyS_end hA rfl ?_
     simp only [List.drop_succ_cons,List.drop_zero]
     clear hF n1 hbe hze hbl g0 g1
     have HFD:=Lib.hid fd
     clear fd
     have HSF:=Lib.hid HS0.out
     have HSA2:=Lib.hid (show (∀ o ∈ zs,∀ b ∈ base,cmpS b.At o.At < 0) ∧ base ++ zs = all by have:=safe_all HRB.out HRA.out HSUB.out HSF.out;rw [HZE.out];exact this)
     have F9:=Lib.hid (F5.out.step0 HFD.out)
     have HO9:=Lib.hid (own_new0 HO5.out HFD.out)
     have HZS:=Lib.hid (show SrtL zs by rw [HZE.out];exact rest_srt HRA.out)
     go_upto_region 12 with (go_at_call 48;refine (CT.out w5.drew F9.out).mono ?_;rintro e w9 ⟨b,t,rfl,gt,f9⟩)
     have hi0:FsL2 w wr w5.drew.heap.size b base zs A5 c5 r5 zs.length (.int .i64 ((0:Nat):Int)) w9:=⟨0,t,rfl,rfl,Nat.zero_le _,by simpa using gt,own_new0 HO9.out f9,F9.out.step0 f9⟩
     have HBS:=Lib.hid F9.out.size
     clear gt f9 CT HO9 F9
     go_loopg [55] zs.length (fun gk iv wq=>FsL2 w wr w5.drew.heap.size b base zs A5 c5 r5 gk iv wq)
     case atStart=>exact hi0
     case round =>
      clear hi0
      obtain ⟨k,t,rfl,rfl,hk,hG,hO,hf⟩:=hrel
      by_cases hlt:k < zs.length
      ·have j0:(0:Int) ≤ (k:Int):=by omega
       have j1:(k:Int) < (zs.length:Int):=by omega
       have hlr:k < r5.length:=by rw [HZL.out];exact hlt
       have hsl:=Sl.own hO
       obtain ⟨g,off,hAe,hgg⟩:=hsl.adC (by omega)
       subst hAe
       have e1:codO.rd wr g (off + k * 41) = some r5[k]:=hsl.rd k hlr
       have hin:=HZA.out.2 k hlr hlt
       have hgo:=HGD.out zs[k] (by rw [← HSA2.out.2];exact List.mem_append_right _ (List.getElem_mem hlt))
       have hlat:∀ p ∈ base ++ zs.take k,cmpS p.At (zs[k]).At < 0:=fun p hp=>by
        rcases List.mem_append.1 hp with hp | hp
        ·exact HSA2.out.1 _ (List.getElem_mem hlt) p hp
        ·obtain ⟨i,hi,rfl⟩:=List.getElem_of_mem hp
         rw [List.length_take] at hi
         rw [List.getElem_take]
         exact List.pairwise_iff_getElem.1 HZS.out i k (by omega) hlt (by omega)
       have HTK:=Lib.hid (show base ++ zs.take (k + 1) = (base ++ zs.take k) ++ zs[k] :: [] by rw [List.take_succ_eq_append_getElem hlt,List.append_assoc])
       have HSK:=Lib.hid (show SrtL (base ++ zs.take k) by
        have h1:SrtL (base ++ zs):=by rw [HSA2.out.2];exact HRA.out
        exact List.Pairwise.sublist ((List.Sublist.refl base).append (List.take_sublist k zs)) h1)
       generalize r5[k] = r at e1 hin
       generalize zs[k] = o at hin hgo hlat HTK
       have HLT:=Lib.hid hlt
       have HK:=Lib.hid (show k ≤ 64000 by have:=HZ6.out;omega)
       have HIN:=Lib.hid (hin.fr hf)
       have HGO:=Lib.hid hgo
       have HLA:=Lib.hid hlat
       clear hk hlt hlr hsl hgg hin hgo hlat
       go_upto_region 14 with fail
       have f12:Fr noB wr (wr.alloc (codO.o r)):=(Fr.refl noB wr).alloc _
       have q12:=Cod.rd_new' (C:=codO) wr r
       have HG12:=Lib.hid (hG.fr0 f12)
       have HO12:=Lib.hid (own_new0 hO f12)
       have HIN12:=Lib.hid (HIN.out.fr f12)
       have F12:=Lib.hid (hf.step0 f12)
       clear e1 f12 hG hO hf HIN
       generalize wr.alloc (codO.o r) = W12 at q12 HG12 HO12 HIN12 F12 ⊢
       generalize wr.heap.size = D2 at q12 ⊢
       have hl9:(base ++ zs.take k).length ≤ 64000:=by
        have h1:(base ++ zs).length ≤ 64000:=by rw [HSA2.out.2];exact HB.out
        rw [List.length_append] at h1 ⊢
        rw [List.length_take]
        omega
       have CI:=Lib.hid (gvIns_mid (base ++ zs.take k) [] (by rw [List.append_nil];exact HG12.out) (by rw [List.append_nil];exact HSK.out) (by rw [List.append_nil];omega) r o HIN12.out (by have:=goodOp_over HGO.out;omega) HGO.out HLA.out (by simp))
       clear hl9
       go_wp2_with (go_at_call 82;go_loud (refine CI.out.mono ?_;rintro e w15 ⟨t5,rfl,h5,u5,m5,f15⟩))
       have HNX:=Lib.hid (show GvS w5.drew.heap.size w15 b t5 (base ++ zs.take (k + 1)) ∧ _ ∧ Fr noB w w15 from ⟨by rw [HTK.out];exact h5,HG12.out.own f15 HO12.out (by decide) (by decide),F12.out.step f15 (fun q hq=>.inl (Nat.le_trans HBS.out (HG12.out.base hq)))⟩)
       clear h5 u5 m5 f15
       go_roundg (zs.length - (k + 1))
       case measure=>have:=HLT.out;omega
       case rel=>exact ⟨k + 1,t5,by first | (simp;done) | exact congrArg (Value.int .i64) (IntWalk.wrap64_in _ (by have:=HK.out;omega)),rfl,HLT.out,HNX.out.1,HNX.out.2.1,HNX.out.2.2⟩
      ·have j1:¬ (k:Int) < (zs.length:Int):=by omega
       have hke:k = zs.length:=by omega
       rw [hke,List.take_length,HSA2.out.2] at hG
       have CR:=Lib.hid (gvRows_any hG (by have:=HB.out;omega))
       have F15:=Lib.hid hf
       clear hke hk hlt hG hO hf
       go_wp2_with (go_at_call 49;refine CR.out.mono ?_;rintro e w16 ⟨A16,c16,rs16,ys16,rfl,o16,x16,ap16,p16,q16,f16⟩)
       refine bodyPost_ret (results_tmp2 rfl _ _ _) rfl ?_
       exact .inl ⟨HSF.out,A16,c16,rs16,_,rfl,⟨A16,c16,rs16,ys16,rfl,o16,x16,ap16,p16,q16,f16⟩,F15.out⟩
    ·have hzl:0 < zs.length:=List.length_pos_iff.2 hze
     have g1:(0:Int) < (zs.length:Int):=by omega
     have hlr:0 < r5.length:=by rw [HZL.out];exact hzl
     obtain ⟨q,hq⟩:∃ q,base.length = q + 1:=⟨base.length - 1,by omega⟩
     have hqb:q < base.length:=by omega
     have hqr:q < rb.length:=by rw [HN.out];exact hqb
     obtain ⟨ga,oa,rfl,hga⟩:=HSB.out.adC (by have:=HN.out;omega)
     obtain ⟨gz,oz,rfl,hgz⟩:=(Sl.own HO5.out:Sl w5 A5 (codO.row r5)).adC hlr
     have ea:codO.rd w5.drew ga (oa + q * 41) = some rb[q]:=(HSB.out.fr0 (F5.out.step0 fd)).rd q hqr
     have ez:codO.rd w5.drew gz (oz + 0 * 41) = some r5[0]:=(Sl.own (own_new0 HO5.out fd)).rd 0 hlr
     rw [Nat.zero_mul,Nat.add_zero] at ez
     have ia:=Cod.rd_part (C':=codS) (y:=rb[q].At) ea 1 (get2 _ _ 1 rfl rfl)
     have iz:=Cod.rd_part (C':=codS) (y:=r5[0].At) ez 1 (get2 _ _ 1 rfl rfl)
     have xa:=HXB.out.2 q hqr hqb
     have xz:=HZA.out.2 0 hlr hzl
     have sf:safeO base all = decide (0 < cmpS r5[0].At rb[q].At):=by
      have e1:base.getLast? = some base[q]:=by
       rw [List.getLast?_eq_getElem?,hq,Nat.add_sub_cancel,List.getElem?_eq_getElem hqb]
      have e2:zs.head? = some zs[0]:=by
       rw [List.head?_eq_getElem?,List.getElem?_eq_getElem hzl]
      unfold safeO
      rw [← HZE.out,e1,e2]
      simp only
      have e3:zs[0].At = r5[0].At:=by rw [xz.eq];rfl
      have e4:base[q].At = rb[q].At:=by rw [xa.eq];rfl
      rw [e3,e4]
      try rfl
     generalize rb[q].At = sa at ia sf
     generalize r5[0].At = sz at iz sf
     have wq:IntKind.i64.wrap ((base.length:Int) - 1) = (q:Int):=by rw [IntKind.wrap_i64,hq];have:=HBL.out;omega
     have q0:(0:Int) ≤ (q:Int):=by omega
     have q1:(q:Int) < (base.length:Int):=by omega
     have HQ:=Lib.hid hq
     clear hq hqb hqr hga hgz ea ez xa xz hlr hze hbe
     have hk:∀ w' w'':World,Fr noB w' w'' → (codS.rd w' ga (oa + q * 41 + 1) = some sa ∧ codS.rd w' gz (oz + 1) = some sz) → (codS.rd w'' ga (oa + q * 41 + 1) = some sa ∧ codS.rd w'' gz (oz + 1) = some sz):=fun w' w'' f h=>⟨Cod.rd_fr0 h.1 f,Cod.rd_fr0 h.2 f⟩
     refine wp_region_M 22 23 [⟨268435456,1,0⟩,⟨536870912,268435456,1⟩,⟨1073741824,536870912,2⟩,⟨2147483648,1073741824,4⟩,⟨4294967296,2147484160,8⟩,⟨8589934592,6442450944,24⟩,⟨17179869184,10737418240,40⟩,⟨34359738368,19327352832,72⟩,⟨68719476736,34359738368,136⟩,⟨137438953472,68719477248,256⟩,⟨274877906944,206158430208,768⟩,⟨549755813888,343597383680,1280⟩,⟨1099511627776,618475290624,2304⟩,⟨2199023255552,68719476737,256⟩,⟨4398046511104,68719476737,256⟩,⟨8796093022208,4466765987840,16640⟩,⟨17592186044416,8864812498944,33024⟩,⟨35184372088832,19859928776704,73984⟩,⟨70368744177664,35253091565568,131328⟩,⟨140737488355328,70437463654400,262400⟩,⟨281474976710656,141905719459840,528640⟩,⟨562949953421312,281543696187392,1048832⟩,⟨1125899906842624,563018672898048,2097408⟩] [(true,0),(true,1),(true,2),(true,3),(true,4),(true,5),(true,6),(true,7),(true,8),(true,9),(true,10),(true,11),(true,12),(true,13),(true,14),(true,15),(true,16),(true,17),(true,18),(true,19),(false,20),(true,21)] (fun w'=>codS.rd w' ga (oa + q * 41 + 1) = some sa ∧ codS.rd w' gz (oz + 1) = some sz) (by kernel_rfl) rfl (by kernel_rfl) (by kernel_rfl) (by kernel_rfl) ⟨ia,iz⟩ (fun hA hF=>?_)
     iterate 20
      refine wpAnyS_take (v:=?_) hA rfl (fun _ _ _ h=>h) (Or.inl ⟨by rfl,?_⟩) hF (fun hA=>?_)
      rotate_left
      ·intro wS hSw;(try dsimp only at hSw);obtain ⟨s1,s2⟩:=hSw;first | (apply Eq.trans;apply ex_ldO_at;exact rfl;exact rfl;assumption;with_reducible rfl) | (apply Eq.trans;apply ex_ldS_at;exact rfl;exact rfl;assumption;with_reducible rfl) | (go_simp;try with_reducible rfl)
      try simp only [sA1,sA2,sA3,Act.put,sA4,sA5,sA6]
     refine wpAnyS_one hA rfl (fun K' hK=>?_)
     rw [if_pos (by rfl)]
     go_simp
     go_at_call 76
     refine (scmp_v _ sz sa).mono ?_
     rintro e w8 ⟨rfl,f8⟩
     replace hF:=hk _ _ f8 hF
     refine hK.out _ _ hF (fun hA=>?_)
     clear hK K'
     as_aux_lemma =>
     refine wpAnyS_take (v:=?_) hA rfl (fun _ _ _ h=>h) (Or.inl ⟨by rfl,?_⟩) hF (fun hA=>?_)
     rotate_left
     ·intro wS hSw;(try dsimp only at hSw);obtain ⟨s1,s2⟩:=hSw;first | (apply Eq.trans;apply ex_ldO_at;exact rfl;exact rfl;assumption;with_reducible rfl) | (apply Eq.trans;apply ex_ldS_at;exact rfl;exact rfl;assumption;with_reducible rfl) | (go_simp;try with_reducible rfl)
     try simp only [sA1,sA2,sA3,Act.put,sA4,sA5,sA6]
     refine wpAnyS_end hA rfl ?_
     simp only [List.drop_succ_cons,List.drop_zero]
     have HFD:=Lib.hid (fd.step0 f8)
     clear hF hk ia iz wq q0 q1 g0 g1 fd f8 hzl hbl
     by_cases hc:cmpS sz sa ≤ 0
     ·have c1:cmpS sz sa ≤ 0:=hc
      have HSF:=Lib.hid (show safeO base all = false by rw [sf,decide_eq_false_iff_not];omega)
      clear sf hc CT
      go_wp2_with fail
      refine bodyPost_ret (results_tmp2 rfl _ _ _) rfl ?_
      exact .inr ⟨HSF.out,rfl,F5.out.step0 HFD.out⟩
     ·have c1:¬ cmpS sz sa ≤ 0:=hc
      have HS0:=Lib.hid (show safeO base all = true by rw [sf,decide_eq_true_eq];omega)
      clear sf hc
      have HSF:=Lib.hid HS0.out
      have HSA2:=Lib.hid (show (∀ o ∈ zs,∀ b ∈ base,cmpS b.At o.At < 0) ∧ base ++ zs = all by have:=safe_all HRB.out HRA.out HSUB.out HSF.out;rw [HZE.out];exact this)
      have F9:=Lib.hid (F5.out.step0 HFD.out)
      have HO9:=Lib.hid (own_new0 HO5.out HFD.out)
      have HZS:=Lib.hid (show SrtL zs by rw [HZE.out];exact rest_srt HRA.out)
      go_upto_region 12 with (go_at_call 48;refine (CT.out w8 F9.out).mono ?_;rintro e w9 ⟨b,t,rfl,gt,f9⟩)
      have hi0:FsL2 w wr w8.heap.size b base zs (some ⟨gz,oz,none⟩) c5 r5 zs.length (.int .i64 ((0:Nat):Int)) w9:=⟨0,t,rfl,rfl,Nat.zero_le _,by simpa using gt,own_new0 HO9.out f9,F9.out.step0 f9⟩
      have HBS:=Lib.hid F9.out.size
      clear gt f9 CT HO9 F9
      go_loopg [55] zs.length (fun gk iv wq=>FsL2 w wr w8.heap.size b base zs (some ⟨gz,oz,none⟩) c5 r5 gk iv wq)
      case atStart=>exact hi0
      case round =>
       clear hi0
       obtain ⟨k,t,rfl,rfl,hk,hG,hO,hf⟩:=hrel
       by_cases hlt:k < zs.length
       ·have j0:(0:Int) ≤ (k:Int):=by omega
        have j1:(k:Int) < (zs.length:Int):=by omega
        have hlr:k < r5.length:=by rw [HZL.out];exact hlt
        have hsl:=Sl.own hO
        obtain ⟨g,off,hAe,hgg⟩:=hsl.adC (by omega)
        (obtain ⟨rfl,rfl⟩:g = gz ∧ off = oz:=(by simpa [eq_comm] using hAe))
        have e1:codO.rd wr g (off + k * 41) = some r5[k]:=hsl.rd k hlr
        have hin:=HZA.out.2 k hlr hlt
        have hgo:=HGD.out zs[k] (by rw [← HSA2.out.2];exact List.mem_append_right _ (List.getElem_mem hlt))
        have hlat:∀ p ∈ base ++ zs.take k,cmpS p.At (zs[k]).At < 0:=fun p hp=>by
         rcases List.mem_append.1 hp with hp | hp
         ·exact HSA2.out.1 _ (List.getElem_mem hlt) p hp
         ·obtain ⟨i,hi,rfl⟩:=List.getElem_of_mem hp
          rw [List.length_take] at hi
          rw [List.getElem_take]
          exact List.pairwise_iff_getElem.1 HZS.out i k (by omega) hlt (by omega)
        have HTK:=Lib.hid (show base ++ zs.take (k + 1) = (base ++ zs.take k) ++ zs[k] :: [] by rw [List.take_succ_eq_append_getElem hlt,List.append_assoc])
        have HSK:=Lib.hid (show SrtL (base ++ zs.take k) by
         have h1:SrtL (base ++ zs):=by rw [HSA2.out.2];exact HRA.out
         exact List.Pairwise.sublist ((List.Sublist.refl base).append (List.take_sublist k zs)) h1)
        generalize r5[k] = r at e1 hin
        generalize zs[k] = o at hin hgo hlat HTK
        have HLT:=Lib.hid hlt
        have HK:=Lib.hid (show k ≤ 64000 by have:=HZ6.out;omega)
        have HIN:=Lib.hid (hin.fr hf)
        have HGO:=Lib.hid hgo
        have HLA:=Lib.hid hlat
        clear hk hlt hlr hsl hgg hin hgo hlat
        go_upto_region 14 with fail
        have f12:Fr noB wr (wr.alloc (codO.o r)):=(Fr.refl noB wr).alloc _
        have q12:=Cod.rd_new' (C:=codO) wr r
        have HG12:=Lib.hid (hG.fr0 f12)
        have HO12:=Lib.hid (own_new0 hO f12)
        have HIN12:=Lib.hid (HIN.out.fr f12)
        have F12:=Lib.hid (hf.step0 f12)
        clear e1 f12 hG hO hf HIN
        generalize wr.alloc (codO.o r) = W12 at q12 HG12 HO12 HIN12 F12 ⊢
        generalize wr.heap.size = D2 at q12 ⊢
        have hl9:(base ++ zs.take k).length ≤ 64000:=by
         have h1:(base ++ zs).length ≤ 64000:=by rw [HSA2.out.2];exact HB.out
         rw [List.length_append] at h1 ⊢
         rw [List.length_take]
         omega
        have CI:=Lib.hid (gvIns_mid (base ++ zs.take k) [] (by rw [List.append_nil];exact HG12.out) (by rw [List.append_nil];exact HSK.out) (by rw [List.append_nil];omega) r o HIN12.out (by have:=goodOp_over HGO.out;omega) HGO.out HLA.out (by simp))
        clear hl9
        go_wp2_with (go_at_call 82;go_loud (refine CI.out.mono ?_;rintro e w15 ⟨t5,rfl,h5,u5,m5,f15⟩))
        have HNX:=Lib.hid (show GvS w8.heap.size w15 b t5 (base ++ zs.take (k + 1)) ∧ _ ∧ Fr noB w w15 from ⟨by rw [HTK.out];exact h5,HG12.out.own f15 HO12.out (by decide) (by decide),F12.out.step f15 (fun q hq=>.inl (Nat.le_trans HBS.out (HG12.out.base hq)))⟩)
        clear h5 u5 m5 f15
        go_roundg (zs.length - (k + 1))
        case measure=>have:=HLT.out;omega
        case rel=>exact ⟨k + 1,t5,by first | (simp;done) | exact congrArg (Value.int .i64) (IntWalk.wrap64_in _ (by have:=HK.out;omega)),rfl,HLT.out,HNX.out.1,HNX.out.2.1,HNX.out.2.2⟩
       ·have j1:¬ (k:Int) < (zs.length:Int):=by omega
        have hke:k = zs.length:=by omega
        rw [hke,List.take_length,HSA2.out.2] at hG
        have CR:=Lib.hid (gvRows_any hG (by have:=HB.out;omega))
        have F15:=Lib.hid hf
        clear hke hk hlt hG hO hf
        go_wp2_with (go_at_call 49;refine CR.out.mono ?_;rintro e w16 ⟨A16,c16,rs16,ys16,rfl,o16,x16,ap16,p16,q16,f16⟩)
        refine bodyPost_ret (results_tmp2 rfl _ _ _) rfl ?_
        exact .inl ⟨HSF.out,A16,c16,rs16,_,rfl,⟨A16,c16,rs16,ys16,rfl,o16,x16,ap16,p16,q16,f16⟩,F15.out⟩
end Go.Proofs.YtjpieiccpbcabaaGreat
namespace Go.Proofs.YtjpieiccpbcabaaGreat
open Go.RowKit Go.Maps Go.Sort
structure PlW where
 F:ID
 BA:Option Addr
 bn:Nat
 bc:Nat
 RA:Option Addr
 rn:Nat
 rc:Nat
 Safe:Bool
 Time:Int
def csPl (x:PlW):List Value:=bv x.F.1 ++ [.slice x.BA x.bn x.bc,.slice x.RA x.rn x.rc,.bool x.Safe,.int .i64 x.Time]
def zPlW:PlW:=⟨zID,none,0,0,none,0,0,false,0⟩
def codPl:Cod PlW:=⟨59,36,csPl,zPlW,fun x=>by simp [csPl,x.F.2],by decide,fun x u hu=>by
  have:=one_bv (l:=[]) (m:=[.slice x.BA x.bn x.bc,.slice x.RA x.rn x.rc,.bool x.Safe,.int .i64 x.Time]) (x:=x.F) (by simp) (by simp;exact ⟨rfl,rfl,rfl,rfl⟩) u (by simpa [csPl] using hu)
  exact this,fun x y h=>by
 obtain ⟨d,a,b,c,a2,b2,c2,s,t⟩:=x;obtain ⟨d',a',b',c',a2',b2',c2',s',t'⟩:=y
 obtain ⟨rfl,h5⟩:=bv_app_inj h
 simp only [List.cons.injEq,Value.slice.injEq,Value.bool.injEq,Value.int.injEq,and_true,true_and] at h5
 obtain ⟨⟨rfl,rfl,rfl⟩,⟨rfl,rfl,rfl⟩,rfl,rfl⟩:=h5
 rfl⟩
theorem okPl:CodOk Tryz.prog codPl:=⟨⟨_,Tryz.underlying59,rfl⟩,by kernel_rfl,fun w=>(zero_of_info (P:=Tryz.prog) (t:=59) (v:=.agg (codPl.cs codPl.z).toArray) (n:=36) (by kernel_rfl)).1 w⟩
@[simp ↓] theorem ex_ldPl (ρ:Operand → Value) (d:Option Nat) (a:Operand) (t:TypeId) (p:String) (f:Array Edge) (g:Option (Nat × Bool)) (w:World) :
  (execOp ρ { dst:=d,op:=.load 59 a,type:=t,pos:=p,after:=f,guard:=g }).run Tryz.prog w = codPl.ldR w (ρ a) (exElse ρ { dst:=d,op:=.load 59 a,type:=t,pos:=p,after:=f,guard:=g } w):=okPl.ldOp ρ _ a rfl w
@[simp ↓] theorem ex_alPl (ρ:Operand → Value) (d:Option Nat) (t:TypeId) (p:String) (f:Array Edge) (g:Option (Nat × Bool)) (w:World) :
  (execOp ρ { dst:=d,op:=.alloc 59,type:=t,pos:=p,after:=f,guard:=g }).run Tryz.prog w = .ok (.value (.pointer (some ⟨w.heap.size,0,none⟩))) (w.alloc (codPl.o zPlW)):=okPl.alOp ρ _ rfl w
@[simp ↓] theorem ex_stPl (ρ:Operand → Value) (a x:Operand) (d:Option Nat) (t:TypeId) (p:String) (f:Array Edge) (g:Option (Nat × Bool)) (w:World) :
  (execOp ρ { dst:=d,op:=.store 59 a x,type:=t,pos:=p,after:=f,guard:=g }).run Tryz.prog w = codPl.stR w (ρ a) (ρ x):=Cod.stOp (C:=codPl) ρ _ a x rfl w
@[simp] theorem st_newPl (w:World) (x y:PlW):codPl.stR (w.alloc (codPl.o y)) (.pointer (some ⟨w.heap.size,0,none⟩)) (.agg (codPl.A x)) = .ok .skip (w.alloc (codPl.o x)):=okPl.stR_new w x y
@[simp] theorem bld0_Pl (w:World):(Instr.build 59 #[]).run Tryz.prog w = .ok (.agg (codPl.A zPlW)) w:=by
 rw [Cod.A_eq]
 kernel_rfl
@[simp ↓] theorem ex_b0Pl (ρ:Operand → Value) (d:Option Nat) (t:TypeId) (p:String) (f:Array Edge) (g:Option (Nat × Bool)) (w:World) :
  (execOp ρ { dst:=d,op:=.build 59 #[],type:=t,pos:=p,after:=f,guard:=g }).run Tryz.prog w = .ok (.value (.agg (codPl.A zPlW))) w:=by
 refine ex_buildG 59 ρ _ #[] w w _ rfl ?_
 rw [List.map_toArray,List.map_nil]
 exact bld0_Pl w
theorem bldP_BT (w:World) (A:Option Addr) (n c:Nat) (t:Int):(Instr.build 59 #[(1,.slice A n c),(4,.int .i64 t)]).run Tryz.prog w = .ok (.agg (codPl.A { zPlW with BA:=A,bn:=n,bc:=c,Time:=t })) w:=by
 rw [Cod.A_eq codPl];go_simp;rfl
theorem bldP_FR (w:World) (x:ID) (A:Option Addr) (n c:Nat):(Instr.build 59 #[(0,encI x),(2,.slice A n c)]).run Tryz.prog w = .ok (.agg (codPl.A { zPlW with F:=x,RA:=A,rn:=n,rc:=c })) w:=by
 have h1:∀ place:Nat → Option (Nat × Nat),place 0 = some (0,32) → place 2 = some (33,1) → Instr.fill place ([] ++ bv zID.1 ++ [Value.slice none 0 0,.slice none 0 0,.bool false,.int .i64 0]).toArray [(0,encI x),(2,.slice A n c)] = some (codPl.cs { zPlW with F:=x,RA:=A,rn:=n,rc:=c }).toArray:=by
  intro place p0 p2
  refine (fill_one place [] (bv zID.1) [.slice none 0 0,.slice none 0 0,.bool false,.int .i64 0] (bv x.1) 0 (encI x) _ (cellsI x) (by simp [x.2,p0]) (by simp [x.2,zID])).trans ?_
  have e2:=fill_one place (bv x.1 ++ [.slice none 0 0]) [.slice none 0 0] [.bool false,.int .i64 0] [.slice A n c] 2 (.slice A n c) [] rfl (by simpa [x.2] using p2) rfl
  refine Eq.trans ?_ (e2.trans ?_)
  ·simp
  ·simp [Instr.fill,codPl,csPl,zPlW]
 have hc:(Value.agg (codPl.cs codPl.z).toArray).cells = ([] ++ bv zID.1 ++ [Value.slice none 0 0,.slice none 0 0,.bool false,.int .i64 0]).toArray:=rfl
 have hz:(zeroValue 59).run Tryz.prog w = .ok (.agg (codPl.cs codPl.z).toArray) w:=okPl.zero w
 have hsI:∀ w,(sizeOf 24).run Tryz.prog w = .ok 32 w:=fun w=>Tryz.sizeOf24 w
 simp only [Instr.build,Sem.run_bind,hz,Result.andThen_ok,run_underlying Tryz.underlying59,hc]
 simp only [List.mapM_toArray,List.mapM_cons,List.mapM_nil,Sem.run_bind,hsI,Tryz.sizeOf32,Tryz.sizeOf55,Tryz.sizeOf4,Tryz.sizeOf2,Result.andThen_ok,Sem.run_pure,Sem.run_map,map_pure,bind_pure_comp]
 rw [h1 _ rfl rfl]
 simp [Cod.A_eq]
noncomputable def mkBT (w:World) (v u:Value) (r:Result Next):Result Next:=match v,u with
 | .slice A n c,.int .i64 t=>.ok (.value (.agg (codPl.A { zPlW with BA:=A,bn:=n,bc:=c,Time:=t }))) w
 | _,_=>r
@[simp] theorem mkBT_at (w:World) (A:Option Addr) (n c:Nat) (t:Int) (r:Result Next):mkBT w (.slice A n c) (.int .i64 t) r = .ok (.value (.agg (codPl.A { zPlW with BA:=A,bn:=n,bc:=c,Time:=t }))) w:=rfl
theorem ex_bldBT_at {ρ:Operand → Value} {o:Oper} {w:World} {x y:Operand} {A:Option Addr} {n c:Nat} {t:Int} (ho:o.op = .build 59 #[(1,x),(4,y)]) (h1:ρ x = .slice A n c) (h2:ρ y = .int .i64 t) :
  (execOp ρ o).run Tryz.prog w = .ok (.value (.agg (codPl.A { zPlW with BA:=A,bn:=n,bc:=c,Time:=t }))) w:=by
 refine ex_buildG 59 ρ _ _ w w _ ho ?_
 have:=bldP_BT w A n c t
 simpa [h1,h2] using this
theorem ex_bldFR_at {ρ:Operand → Value} {o:Oper} {w:World} {x y:Operand} {z:ID} {A:Option Addr} {n c:Nat} (ho:o.op = .build 59 #[(0,x),(2,y)]) (h1:ρ x = encI z) (h2:ρ y = .slice A n c) :
  (execOp ρ o).run Tryz.prog w = .ok (.value (.agg (codPl.A { zPlW with F:=z,RA:=A,rn:=n,rc:=c }))) w:=by
 refine ex_buildG 59 ρ _ _ w w _ ho ?_
 have:=bldP_FR w z A n c
 simpa [h1,h2] using this
structure PlAt (w:World) (b:Nat) (r:PlW):Prop where
 fw:rdI w b 0 = some r.F
 base:w.cell? ⟨b,32,none⟩ = some (.slice r.BA r.bn r.bc)
 rows:w.cell? ⟨b,33,none⟩ = some (.slice r.RA r.rn r.rc)
 safe:w.cell? ⟨b,34,none⟩ = some (.bool r.Safe)
 time:w.cell? ⟨b,35,none⟩ = some (.int .i64 r.Time)
 self:codPl.rd w b 0 = some r
theorem plAt {w:World} {b:Nat} {r:PlW} (h:codPl.rd w b 0 = some r):PlAt w b r:=by
 have e (k:Nat) {v:Value} (hv:(codPl.cs r)[k]? = some v):=by simpa using Cod.rd_cell h k hv
 exact ⟨by simpa using Cod.rdI_part h 0 (getApp r.F [] [.slice r.BA r.bn r.bc,.slice r.RA r.rn r.rc,.bool r.Safe,.int .i64 r.Time] 0 rfl),
  e 32 (getEnd r.F [] [.slice r.BA r.bn r.bc,.slice r.RA r.rn r.rc,.bool r.Safe,.int .i64 r.Time] 32 rfl 0),
  e 33 (getEnd r.F [] [.slice r.BA r.bn r.bc,.slice r.RA r.rn r.rc,.bool r.Safe,.int .i64 r.Time] 32 rfl 1),
  e 34 (getEnd r.F [] [.slice r.BA r.bn r.bc,.slice r.RA r.rn r.rc,.bool r.Safe,.int .i64 r.Time] 32 rfl 2),
  e 35 (getEnd r.F [] [.slice r.BA r.bn r.bc,.slice r.RA r.rn r.rc,.bool r.Safe,.int .i64 r.Time] 32 rfl 3),h⟩
theorem set_end {l m:List Value} {k:Nat} (h:l.length = k) (j:Nat) (v:Value):(l ++ m).set (k + j) v = l ++ m.set j v:=by
 subst h
 rw [List.set_append_right _ _ (by omega),Nat.add_sub_cancel_left]
theorem sePl_Rows (r:PlW) (A:Option Addr) (n c:Nat):(codPl.cs r).set 33 (.slice A n c) = codPl.cs { r with RA:=A,rn:=n,rc:=c } :=
 set_end (k:=32) (by simp [r.F.2]) 1 _
theorem sePl_Safe (r:PlW) (b:Bool):(codPl.cs r).set 34 (.bool b) = codPl.cs { r with Safe:=b } :=
 set_end (k:=32) (by simp [r.F.2]) 2 _
end Go.Proofs.YtjpieiccpbcabaaGreat
