/- Contract: merge's fast. (ex_ldS_at, ex_ldO_at) The plan of a merge in memory. Contract: merge's Merge. (rdI, ex_ldS_at, ex_ldO_at, ex_bldFR_at, ex_bldBT_at) Contract: pollardlaw15.put. Plain: a commit that is taken; the document's example. Plain: what MergeTwo, MergeSafe say of plans. Plain: histories that numbers say (grown). Values [3]int in memory. Plain: the commits of grown may be. What the rounds of grown have made so far: boxes of a round (a triple, an ID, a commit), rows of int64. -/
import Derived.Test.YtjpieiccpbcabaaGreatMgIKu
import Derived.Test.YtjpieiccpbcabaaGreatGlFKu
import Derived.Test.YtjpieiccpbcabaaGreatRegTKu
set_option linter.unusedVariables false
set_option linter.unusedSimpArgs false
namespace Go.Proofs.YtjpieiccpbcabaaGreat
open Go.RowKit Go.Maps Go.Sort
attribute [local go_sem] Oper.semAt_some
theorem restO_left {rs:List OpW} {xs base:List Opn} {w:World} (h:AllO OpIn w rs xs):∃ zs,zs = restO base xs ∧ AllO OpIn w (leftW (base.map (·.At)) rs) zs:=by
 refine ⟨_,rfl,?_⟩
 induction rs generalizing xs with
 | nil =>
  cases xs with
  | nil=>exact AllO.nil
  | cons x xs=>exact absurd h.1 (by simp)
 | cons r rs ih =>
  cases xs with
  | nil=>exact absurd h.1 (by simp)
  | cons x xs =>
   obtain ⟨h1,h2⟩:=h.tail
   have e:x.At = r.At:=by rw [h1.eq];rfl
   have e2:(base.any fun b=>decide (b.At = x.At)) = decide (r.At ∈ base.map (·.At)):=by
    rw [Bool.eq_iff_iff,List.any_eq_true,decide_eq_true_eq,List.mem_map,e]
    simp
   unfold restO leftW at ih ⊢
   rw [List.filter_cons,List.filter_cons,e2]
   split
   ·exact AllO.cons h1 (ih h2)
   ·exact ih h2
def FsLoop (w1:World) (t:Nat) (os:List Opn) (gk:Nat) (iv:Value) (wr:World):Prop :=
 ∃ (k:Nat) (kv:List (St × Value)),iv = .int .i64 (k:Int) ∧ gk = os.length - k ∧ k ≤ os.length ∧ mpT wr t = some kv ∧ (∀ s,(look kv s).getD (.bool false) = .bool (decide (s ∈ (os.take k).map (·.At)))) ∧ Fr (oneB t) w1 wr
def FsL2 (w V:World) (bs b:Nat) (base zs:List Opn) (A5:Option Addr) (c5:Nat) (r5:List OpW) (gk:Nat) (iv:Value) (wr:World):Prop :=
 ∃ (k:Nat) (t:TrW),iv = .int .i64 (k:Int) ∧ gk = zs.length - k ∧ k ≤ zs.length ∧ GvS bs wr b t (base ++ zs.take k) ∧ OwnC codO V wr A5 c5 r5 ∧ Fr noB w wr
def FastTo (w:World) (base all:List Opn) (e:Ending) (w':World):Prop :=
 (safeO base all = true ∧ ∃ A c rs wa,e = .returned (.tuple #[.slice A (rs:List RwW).length c,.bool true]) ∧ RowsTo wa (runX [] all) (.returned (.slice A rs.length c)) w' ∧ Fr noB w wa) ∨
 (safeO base all = false ∧ e = .returned (.tuple #[.slice none 0 0,.bool false]) ∧ Fr noB w w')
set_option maxRecDepth 100000 in
set_option maxHeartbeats 8000000 in
theorem mgFast_any (w:World) (A B:Option Addr) (c d n m:Nat) (rb ra:List OpW) (base all:List Opn) (hn:rb.length = n) (hm:ra.length = m) (hsb:Sl w A (codO.row rb)) (hsa:Sl w B (codO.row ra)) (hXb:AllO OpIn w rb base) (hXa:AllO OpIn w ra all)
  (srb:SrtL base) (sra:SrtL all) (hsub:∀ o ∈ base,o ∈ all) (hgd:∀ o ∈ all,goodOp o = true) (hb:all.length ≤ 64000) (hbb:base.length ≤ 64000) :
  Calls Tryz.prog 52 #[.slice A n c,.slice B m d] w (FastTo w base all):=by
 have hnb:n = base.length:=by rw [← hn];exact hXb.1
 have hma:m = all.length:=by rw [← hm];exact hXa.1
 subst hnb hma
 go_enter Tryz.func52,Tryz.ntmps52
 go_upto_region 2 with fail
 have f0:Fr noB w ((w.alloc (.map #[] 0)).alloc (.cells #[.map (some w.heap.size)] 78)):=((Fr.refl noB w).alloc _).alloc _
 have b0:=(Blk.new (w.alloc (.map #[] 0)) 78 [.map (some w.heap.size)]).cell 0
 have m0:=mpT_fr0 (mpT_new w) ((Fr.refl noB _).alloc (.cells #[.map (some w.heap.size)] 78))
 have z0:(w.alloc (.map #[] 0)).heap.size = w.heap.size + 1:=by simp
 rw [z0] at b0
 have b1:((w.alloc (.map #[] 0)).alloc (.cells #[.map (some w.heap.size)] 78)).cell? ⟨w.heap.size + 1,0,none⟩ = some (.map (some w.heap.size)):=b0
 clear b0 z0
 generalize (w.alloc (.map #[] 0)).alloc (.cells #[.map (some w.heap.size)] 78) = W1 at f0 b1 m0 ⊢
 obtain ⟨T,hT⟩:∃ T,T = w.heap.size:=⟨_,rfl⟩
 rw [← hT] at b1 m0 ⊢
 have HT:=Lib.hid hT
 have HN:=Lib.hid hn
 have HM:=Lib.hid hm
 have HSB:=Lib.hid hsb
 have HSA:=Lib.hid hsa
 have HXB:=Lib.hid hXb
 have HXA:=Lib.hid hXa
 have HRB:=Lib.hid srb
 have HRA:=Lib.hid sra
 have HSUB:=Lib.hid hsub
 have HGD:=Lib.hid hgd
 have HB:=Lib.hid hb
 have HBL:=Lib.hid hbb
 clear hT hn hm hsb hsa hXb hXa srb sra hsub hgd hb hbb
 go_wp2_with fail
 have hi0:FsLoop W1 T base base.length (.int .i64 ((0:Nat):Int)) W1:=⟨0,[],rfl,rfl,Nat.zero_le _,m0,fun s=>by simp [look],Fr.refl _ _⟩
 clear m0
 go_loopg [16] base.length (fun gk iv wr=>FsLoop W1 T base gk iv wr)
 case atStart=>exact hi0
 case round =>
  clear hi0
  obtain ⟨k,kv,rfl,rfl,hk,hm,hkv,hf⟩:=hrel
  have F:=Lib.hid (f0.step1 hf (Nat.le_of_eq HT.out.symm))
  have b2:=gcell_fr b1 hf (by show ¬ T + 1 = T;omega)
  by_cases hlt:k < base.length
  ·have j0:(0:Int) ≤ (k:Int):=by omega
   have j1:(k:Int) < (base.length:Int):=by omega
   have hkr:k < rb.length:=by rw [HN.out];exact hlt
   obtain ⟨g,off,rfl,hgg⟩:=HSB.out.adC (by omega)
   have e1:codO.rd wr g (off + k * 41) = some rb[k]:=(HSB.out.fr0 F.out).rd k hkr
   have hin:=HXB.out.2 k hkr hlt
   have HTK:=Lib.hid (show (base.take (k + 1)).map (·.At) = (base.take k).map (·.At) ++ [(base[k]).At] by rw [List.take_succ_eq_append_getElem hlt,List.map_append];rfl)
   have hgo:=HGD.out _ (HSUB.out _ (List.getElem_mem hlt))
   generalize rb[k] = r at e1 hin
   generalize base[k] = o at hin HTK hgo
   have ea:r.At = o.At:=by rw [hin.eq];rfl
   have hw:=rightS_wf (goodOp_at hgo).1
   rw [← ea] at hw
   have HEA:=Lib.hid ea
   have HLT:=Lib.hid hlt
   have HKV:=Lib.hid hkv
   have HF:=Lib.hid hf
   have HK:=Lib.hid (show k ≤ 64000 by have:=HBL.out;omega)
   clear hk hlt hkr hgg hin hgo ea hkv hf
   go_upto_region 5 with fail
   have f12:Fr noB wr (wr.alloc (codO.o r)):=(Fr.refl noB wr).alloc _
   have q12:=(opAt (Cod.rd_new' (C:=codO) wr r)).At
   have m12:=mpT_fr0 hm f12
   have b12:=cell_fr0 b2 f12
   have F12:=Lib.hid (HF.out.trans (f12.any (M:=oneB T)) (fun _ _ h=>h))
   clear e1 f12 hm b2 HF
   generalize wr.alloc (codO.o r) = W12 at q12 m12 b12 F12 ⊢
   generalize wr.heap.size = D2 at q12 ⊢
   obtain ⟨_,v2,v3,v4⟩:=mputT_all Tryz.underlying78 m12 hw (.bool true)
   have HV:=Lib.hid (And.intro v2 v3)
   clear v2 v3 v4
   go_wp2_with fail
   go_roundg (base.length - (k + 1))
   case measure=>have:=HLT.out;omega
   case rel=>exact ⟨k + 1,_,by first | (simp;done) | exact congrArg (Value.int .i64) (IntWalk.wrap64_in _ (by have:=HK.out;omega)),rfl,HLT.out,HV.out.1,fun s=>by
    rw [HTK.out,look_putA]
    by_cases e:r.At = s
    ·rw [if_pos e]
     have:s ∈ (base.take k).map (·.At) ++ [o.At]:=by rw [← e,HEA.out];simp
     simp only [this,decide_true]
     rfl
    ·rw [if_neg e,HKV.out s]
     have e':s ≠ o.At:=fun h=>e (by rw [h,HEA.out])
     congr 1
     simp [e'],F12.out.trans HV.out.2 (fun _ _ h=>h)⟩
  ·have j1:¬ (k:Int) < (base.length:Int):=by omega
   have hke:k = base.length:=by omega
   rw [hke,List.take_length] at hkv
   have CL:=Lib.hid (clOps_any wr B d ra all.length HM.out (HSA.out.fr0 F.out) (by have:=HB.out;have:=HM.out;omega))
   obtain ⟨zs,hzs,hza⟩:=restO_left (base:=base) HXA.out
   have HWF:=Lib.hid (show ∀ r ∈ ra,wfS r.At = true from fun r hr=>by
    obtain ⟨i,hi,rfl⟩:=List.getElem_of_mem hr
    have hi':i < all.length:=by rw [← HM.out];exact hi
    have e:ra[i].At = all[i].At:=by rw [(HXA.out.2 i hi hi').eq];rfl
    rw [e]
    exact rightS_wf (goodOp_at (HGD.out _ (List.getElem_mem hi'))).1)
   have CDL:=Lib.hid (fun w4 (f4:Fr noB wr w4) A4 c4 (ho:OwnC codO wr w4 A4 c4 ra) (hc:ra.length ≤ c4)=>delOps_any wr w4 f4 A4 c4 _ ra rfl ho hc (by have:=HB.out;have:=HM.out;omega) (T + 1) T kv (base.map (·.At)) b2 hm hkv HWF.out)
   have HZE:=Lib.hid hzs
   have HZA:=Lib.hid hza
   clear hke hk hlt hkv hzs hza hf hm b1 b2
   go_upto_region 8 with (first
    | (go_at_call 72;refine CL.out.mono ?_;rintro e w4 ⟨A4,c4,rfl,o4,f4,hc4⟩)
    | (go_at_call 89;go_loud (refine (CDL.out w4 f4 A4 c4 o4 hc4).mono ?_;rintro e w5 ⟨A5,c5,rfl,o5,f5,hc5⟩)))
   obtain ⟨r5,hr5⟩:∃ r5,r5 = leftW (base.map (·.At)) ra:=⟨_,rfl⟩
   rw [← hr5] at o5 HZA ⊢
   have HZL:=Lib.hid (show r5.length = zs.length from HZA.out.1)
   have HO5:=Lib.hid o5
   have F5:=Lib.hid (F.out.step0 f5)
   clear CL CDL o4 f4 hc4 o5 f5 hc5 hr5 F
   rw [HZL.out]
   clear j1
   have CT:=Lib.hid (fun w' (f:Fr noB w w')=>mgTree_any w' A c base.length rb base HN.out (HSB.out.fr0 f) ⟨HXB.out.1,fun i a b=>(HXB.out.2 i a b).fr f⟩ (fun o ho=>HGD.out o (HSUB.out o ho)) HRB.out (by have:=HBL.out;omega))
   have hzlen:zs.length ≤ 64000:=by
    rw [HZE.out]
    have:=List.length_filter_le (fun o:Opn=>!(base.any fun b=>decide (b.At = o.At))) all
    have:=HB.out
    unfold restO
    omega
   have HZ6:=Lib.hid hzlen
   clear hzlen
   by_cases hbe:base = []
   ·have n0:base.length = 0:=by rw [hbe];rfl
    have HS0:=Lib.hid (show safeO base all = true by rw [hbe];rfl)
    have fd:Fr noB w5 w5.drew:=(Fr.refl noB w5).drew
    have g0:¬ (0:Int) < (base.length:Int):=by rw [n0];decide
    refine wp_region_M 22 23 [⟨268435456,1,0⟩,⟨536870912,268435456,1⟩,⟨1073741824,536870912,2⟩,⟨2147483648,1073741824,4⟩,⟨4294967296,2147484160,8⟩,⟨8589934592,6442450944,24⟩,⟨17179869184,10737418240,40⟩,⟨34359738368,19327352832,72⟩,⟨68719476736,34359738368,136⟩,⟨137438953472,68719477248,256⟩,⟨274877906944,206158430208,768⟩,⟨549755813888,343597383680,1280⟩,⟨1099511627776,618475290624,2304⟩,⟨2199023255552,68719476737,256⟩,⟨4398046511104,68719476737,256⟩,⟨8796093022208,4466765987840,16640⟩,⟨17592186044416,8864812498944,33024⟩,⟨35184372088832,19859928776704,73984⟩,⟨70368744177664,35253091565568,131328⟩,⟨140737488355328,70437463654400,262400⟩,⟨281474976710656,141905719459840,528640⟩,⟨562949953421312,281543696187392,1048832⟩,⟨1125899906842624,563018672898048,2097408⟩] [(true,0),(true,1),(true,2),(true,3),(true,4),(true,5),(true,6),(true,7),(true,8),(true,9),(true,10),(true,11),(true,12),(true,13),(true,14),(true,15),(true,16),(true,17),(true,18),(true,19),(true,20),(true,21)] (fun w'=>True) (by kernel_rfl) rfl (by kernel_rfl) (by kernel_rfl) (by kernel_rfl) trivial (fun hA hF=>?_)
    iterate 4
     refine wpAnyS_take (v:=?_) hA rfl (fun _ _ _ h=>h) (Or.inl ⟨by rfl,?_⟩) hF (fun hA=>?_)
     rotate_left
     ·intro wS hSw;(try dsimp only at hSw);obtain s1:=hSw;first | (apply Eq.trans;apply ex_ldO_at;exact rfl;exact rfl;assumption;with_reducible rfl) | (apply Eq.trans;apply ex_ldS_at;exact rfl;exact rfl;assumption;with_reducible rfl) | (go_simp;try with_reducible rfl)
     try simp only [sA1,sA2,sA3,Act.put,sA4,sA5,sA6]
    iterate 3
     refine wpAnyS_take (v:=undef) hA rfl (fun _ _ _ h=>h) (Or.inr ⟨by rfl,rfl⟩) hF (fun hA=>?_)
     try simp only [sA1,sA2,sA3,Act.put,sA4,sA5,sA6]
    iterate 2
     refine wpAnyS_take (v:=?_) hA rfl (fun _ _ _ h=>h) (Or.inl ⟨by rfl,?_⟩) hF (fun hA=>?_)
     rotate_left
     ·intro wS hSw;(try dsimp only at hSw);obtain s1:=hSw;first | (apply Eq.trans;apply ex_ldO_at;exact rfl;exact rfl;assumption;with_reducible rfl) | (apply Eq.trans;apply ex_ldS_at;exact rfl;exact rfl;assumption;with_reducible rfl) | (go_simp;try with_reducible rfl)
     try simp only [sA1,sA2,sA3,Act.put,sA4,sA5,sA6]
    iterate 13
     refine wpAnyS_take (v:=undef) hA rfl (fun _ _ _ h=>h) (Or.inr ⟨by rfl,rfl⟩) hF (fun hA=>?_)
     try simp only [sA1,sA2,sA3,Act.put,sA4,sA5,sA6]
    refine wpAnyS_end hA rfl ?_
    simp only [List.drop_succ_cons,List.drop_zero]
    clear hF n0 hbe
    have HFD:=Lib.hid fd
    clear fd
    have HSF:=Lib.hid HS0.out
    have HSA2:=Lib.hid (show (∀ o ∈ zs,∀ b ∈ base,cmpS b.At o.At < 0) ∧ base ++ zs = all by have:=safe_all HRB.out HRA.out HSUB.out HSF.out;rw [HZE.out];exact this)
    have F9:=Lib.hid (F5.out.step0 HFD.out)
    have HO9:=Lib.hid (own_new0 HO5.out HFD.out)
    have HZS:=Lib.hid (show SrtL zs by rw [HZE.out];exact rest_srt HRA.out)
    go_upto_region 12 with (go_at_call 48;refine (CT.out w5.drew F9.out).mono ?_;rintro e w9 ⟨b,t,rfl,gt,f9⟩)
    have hi0:FsL2 w wr w5.drew.heap.size b base zs A5 c5 r5 zs.length (.int .i64 ((0:Nat):Int)) w9:=⟨0,t,rfl,rfl,Nat.zero_le _,by simpa using gt,own_new0 HO9.out f9,F9.out.step0 f9⟩
    have HBS:=Lib.hid F9.out.size
    clear gt f9 CT HO9 F9
    go_loopg [55] zs.length (fun gk iv wq=>FsL2 w wr w5.drew.heap.size b base zs A5 c5 r5 gk iv wq)
    case atStart=>exact hi0
    case round =>
     clear hi0
     obtain ⟨k,t,rfl,rfl,hk,hG,hO,hf⟩:=hrel
     by_cases hlt:k < zs.length
     ·have j0:(0:Int) ≤ (k:Int):=by omega
      have j1:(k:Int) < (zs.length:Int):=by omega
      have hlr:k < r5.length:=by rw [HZL.out];exact hlt
      have hsl:=Sl.own hO
      obtain ⟨g,off,hAe,hgg⟩:=hsl.adC (by omega)
      subst hAe
      have e1:codO.rd wr g (off + k * 41) = some r5[k]:=hsl.rd k hlr
      have hin:=HZA.out.2 k hlr hlt
      have hgo:=HGD.out zs[k] (by rw [← HSA2.out.2];exact List.mem_append_right _ (List.getElem_mem hlt))
      have hlat:∀ p ∈ base ++ zs.take k,cmpS p.At (zs[k]).At < 0:=fun p hp=>by
       rcases List.mem_append.1 hp with hp | hp
       ·exact HSA2.out.1 _ (List.getElem_mem hlt) p hp
       ·obtain ⟨i,hi,rfl⟩:=List.getElem_of_mem hp
        rw [List.length_take] at hi
        rw [List.getElem_take]
        exact List.pairwise_iff_getElem.1 HZS.out i k (by omega) hlt (by omega)
      have HTK:=Lib.hid (show base ++ zs.take (k + 1) = (base ++ zs.take k) ++ zs[k] :: [] by rw [List.take_succ_eq_append_getElem hlt,List.append_assoc])
      have HSK:=Lib.hid (show SrtL (base ++ zs.take k) by
       have h1:SrtL (base ++ zs):=by rw [HSA2.out.2];exact HRA.out
       exact List.Pairwise.sublist ((List.Sublist.refl base).append (List.take_sublist k zs)) h1)
      generalize r5[k] = r at e1 hin
      generalize zs[k] = o at hin hgo hlat HTK
      have HLT:=Lib.hid hlt
      have HK:=Lib.hid (show k ≤ 64000 by have:=HZ6.out;omega)
      have HIN:=Lib.hid (hin.fr hf)
      have HGO:=Lib.hid hgo
      have HLA:=Lib.hid hlat
      clear hk hlt hlr hsl hgg hin hgo hlat
      go_upto_region 14 with fail
      have f12:Fr noB wr (wr.alloc (codO.o r)):=(Fr.refl noB wr).alloc _
      have q12:=Cod.rd_new' (C:=codO) wr r
      have HG12:=Lib.hid (hG.fr0 f12)
      have HO12:=Lib.hid (own_new0 hO f12)
      have HIN12:=Lib.hid (HIN.out.fr f12)
      have F12:=Lib.hid (hf.step0 f12)
      clear e1 f12 hG hO hf HIN
      generalize wr.alloc (codO.o r) = W12 at q12 HG12 HO12 HIN12 F12 ⊢
      generalize wr.heap.size = D2 at q12 ⊢
      have hl9:(base ++ zs.take k).length ≤ 64000:=by
       have h1:(base ++ zs).length ≤ 64000:=by rw [HSA2.out.2];exact HB.out
       rw [List.length_append] at h1 ⊢
       rw [List.length_take]
       omega
      have CI:=Lib.hid (gvIns_mid (base ++ zs.take k) [] (by rw [List.append_nil];exact HG12.out) (by rw [List.append_nil];exact HSK.out) (by rw [List.append_nil];omega) r o HIN12.out (by have:=goodOp_over HGO.out;omega) HGO.out HLA.out (by simp))
      clear hl9
      go_wp2_with (go_at_call 82;go_loud (refine CI.out.mono ?_;rintro e w15 ⟨t5,rfl,h5,u5,m5,f15⟩))
      have HNX:=Lib.hid (show GvS w5.drew.heap.size w15 b t5 (base ++ zs.take (k + 1)) ∧ _ ∧ Fr noB w w15 from ⟨by rw [HTK.out];exact h5,HG12.out.own f15 HO12.out (by decide) (by decide),F12.out.step f15 (fun q hq=>.inl (Nat.le_trans HBS.out (HG12.out.base hq)))⟩)
      clear h5 u5 m5 f15
      go_roundg (zs.length - (k + 1))
      case measure=>have:=HLT.out;omega
      case rel=>exact ⟨k + 1,t5,by first | (simp;done) | exact congrArg (Value.int .i64) (IntWalk.wrap64_in _ (by have:=HK.out;omega)),rfl,HLT.out,HNX.out.1,HNX.out.2.1,HNX.out.2.2⟩
     ·have j1:¬ (k:Int) < (zs.length:Int):=by omega
      have hke:k = zs.length:=by omega
      rw [hke,List.take_length,HSA2.out.2] at hG
      have CR:=Lib.hid (gvRows_any hG (by have:=HB.out;omega))
      have F15:=Lib.hid hf
      clear hke hk hlt hG hO hf
      go_wp2_with (go_at_call 49;refine CR.out.mono ?_;rintro e w16 ⟨A16,c16,rs16,ys16,rfl,o16,x16,ap16,p16,q16,f16⟩)
      refine bodyPost_ret (results_tmp2 rfl _ _ _) rfl ?_
      exact .inl ⟨HSF.out,A16,c16,rs16,_,rfl,⟨A16,c16,rs16,ys16,rfl,o16,x16,ap16,p16,q16,f16⟩,F15.out⟩
   ·have hbl:0 < base.length:=List.length_pos_iff.2 hbe
    have g0:(0:Int) < (base.length:Int):=by omega
    have fd:Fr noB w5 w5.drew:=(Fr.refl noB w5).drew
    by_cases hze:zs = []
    ·have n1:zs.length = 0:=by rw [hze];rfl
     have g1:¬ (0:Int) < (zs.length:Int):=by rw [n1];decide
     have HS0:=Lib.hid (show safeO base all = true by
      unfold safeO
      rw [← HZE.out,hze]
      cases base.getLast? <;> rfl)
     refine wp_region_M 22 23 [⟨268435456,1,0⟩,⟨536870912,268435456,1⟩,⟨1073741824,536870912,2⟩,⟨2147483648,1073741824,4⟩,⟨4294967296,2147484160,8⟩,⟨8589934592,6442450944,24⟩,⟨17179869184,10737418240,40⟩,⟨34359738368,19327352832,72⟩,⟨68719476736,34359738368,136⟩,⟨137438953472,68719477248,256⟩,⟨274877906944,206158430208,768⟩,⟨549755813888,343597383680,1280⟩,⟨1099511627776,618475290624,2304⟩,⟨2199023255552,68719476737,256⟩,⟨4398046511104,68719476737,256⟩,⟨8796093022208,4466765987840,16640⟩,⟨17592186044416,8864812498944,33024⟩,⟨35184372088832,19859928776704,73984⟩,⟨70368744177664,35253091565568,131328⟩,⟨140737488355328,70437463654400,262400⟩,⟨281474976710656,141905719459840,528640⟩,⟨562949953421312,281543696187392,1048832⟩,⟨1125899906842624,563018672898048,2097408⟩] [(true,0),(true,1),(true,2),(true,3),(true,4),(true,5),(true,6),(true,7),(true,8),(true,9),(true,10),(true,11),(true,12),(true,13),(true,14),(true,15),(true,16),(true,17),(true,18),(true,19),(true,20),(true,21)] (fun w'=>True) (by kernel_rfl) rfl (by kernel_rfl) (by kernel_rfl) (by kernel_rfl) trivial (fun hA hF=>?_)
     iterate 9
      refine wpAnyS_take (v:=?_) hA rfl (fun _ _ _ h=>h) (Or.inl ⟨by rfl,?_⟩) hF (fun hA=>?_)
      rotate_left
      ·intro wS hSw;(try dsimp only at hSw);obtain s1:=hSw;first | (apply Eq.trans;apply ex_ldO_at;exact rfl;exact rfl;assumption;with_reducible rfl) | (apply Eq.trans;apply ex_ldS_at;exact rfl;exact rfl;assumption;with_reducible rfl) | (go_simp;try with_reducible rfl)
      try simp only [sA1,sA2,sA3,Act.put,sA4,sA5,sA6]
     iterate 13
      refine wpAnyS_take (v:=undef) hA rfl (fun _ _ _ h=>h) (Or.inr ⟨by rfl,rfl⟩) hF (fun hA=>?_)
      try simp only [sA1,sA2,sA3,Act.put,sA4,sA5,sA6]
     refine wpAnyS_end hA rfl ?_
     simp only [List.drop_succ_cons,List.drop_zero]
     clear hF n1 hbe hze hbl g0 g1
     have HFD:=Lib.hid fd
     clear fd
     have HSF:=Lib.hid HS0.out
     have HSA2:=Lib.hid (show (∀ o ∈ zs,∀ b ∈ base,cmpS b.At o.At < 0) ∧ base ++ zs = all by have:=safe_all HRB.out HRA.out HSUB.out HSF.out;rw [HZE.out];exact this)
     have F9:=Lib.hid (F5.out.step0 HFD.out)
     have HO9:=Lib.hid (own_new0 HO5.out HFD.out)
     have HZS:=Lib.hid (show SrtL zs by rw [HZE.out];exact rest_srt HRA.out)
     go_upto_region 12 with (go_at_call 48;refine (CT.out w5.drew F9.out).mono ?_;rintro e w9 ⟨b,t,rfl,gt,f9⟩)
     have hi0:FsL2 w wr w5.drew.heap.size b base zs A5 c5 r5 zs.length (.int .i64 ((0:Nat):Int)) w9:=⟨0,t,rfl,rfl,Nat.zero_le _,by simpa using gt,own_new0 HO9.out f9,F9.out.step0 f9⟩
     have HBS:=Lib.hid F9.out.size
     clear gt f9 CT HO9 F9
     go_loopg [55] zs.length (fun gk iv wq=>FsL2 w wr w5.drew.heap.size b base zs A5 c5 r5 gk iv wq)
     case atStart=>exact hi0
     case round =>
      clear hi0
      obtain ⟨k,t,rfl,rfl,hk,hG,hO,hf⟩:=hrel
      by_cases hlt:k < zs.length
      ·have j0:(0:Int) ≤ (k:Int):=by omega
       have j1:(k:Int) < (zs.length:Int):=by omega
       have hlr:k < r5.length:=by rw [HZL.out];exact hlt
       have hsl:=Sl.own hO
       obtain ⟨g,off,hAe,hgg⟩:=hsl.adC (by omega)
       subst hAe
       have e1:codO.rd wr g (off + k * 41) = some r5[k]:=hsl.rd k hlr
       have hin:=HZA.out.2 k hlr hlt
       have hgo:=HGD.out zs[k] (by rw [← HSA2.out.2];exact List.mem_append_right _ (List.getElem_mem hlt))
       have hlat:∀ p ∈ base ++ zs.take k,cmpS p.At (zs[k]).At < 0:=fun p hp=>by
        rcases List.mem_append.1 hp with hp | hp
        ·exact HSA2.out.1 _ (List.getElem_mem hlt) p hp
        ·obtain ⟨i,hi,rfl⟩:=List.getElem_of_mem hp
         rw [List.length_take] at hi
         rw [List.getElem_take]
         exact List.pairwise_iff_getElem.1 HZS.out i k (by omega) hlt (by omega)
       have HTK:=Lib.hid (show base ++ zs.take (k + 1) = (base ++ zs.take k) ++ zs[k] :: [] by rw [List.take_succ_eq_append_getElem hlt,List.append_assoc])
       have HSK:=Lib.hid (show SrtL (base ++ zs.take k) by
        have h1:SrtL (base ++ zs):=by rw [HSA2.out.2];exact HRA.out
        exact List.Pairwise.sublist ((List.Sublist.refl base).append (List.take_sublist k zs)) h1)
       generalize r5[k] = r at e1 hin
       generalize zs[k] = o at hin hgo hlat HTK
       have HLT:=Lib.hid hlt
       have HK:=Lib.hid (show k ≤ 64000 by have:=HZ6.out;omega)
       have HIN:=Lib.hid (hin.fr hf)
       have HGO:=Lib.hid hgo
       have HLA:=Lib.hid hlat
       clear hk hlt hlr hsl hgg hin hgo hlat
       go_upto_region 14 with fail
       have f12:Fr noB wr (wr.alloc (codO.o r)):=(Fr.refl noB wr).alloc _
       have q12:=Cod.rd_new' (C:=codO) wr r
       have HG12:=Lib.hid (hG.fr0 f12)
       have HO12:=Lib.hid (own_new0 hO f12)
       have HIN12:=Lib.hid (HIN.out.fr f12)
       have F12:=Lib.hid (hf.step0 f12)
       clear e1 f12 hG hO hf HIN
       generalize wr.alloc (codO.o r) = W12 at q12 HG12 HO12 HIN12 F12 ⊢
       generalize wr.heap.size = D2 at q12 ⊢
       have hl9:(base ++ zs.take k).length ≤ 64000:=by
        have h1:(base ++ zs).length ≤ 64000:=by rw [HSA2.out.2];exact HB.out
        rw [List.length_append] at h1 ⊢
        rw [List.length_take]
        omega
       have CI:=Lib.hid (gvIns_mid (base ++ zs.take k) [] (by rw [List.append_nil];exact HG12.out) (by rw [List.append_nil];exact HSK.out) (by rw [List.append_nil];omega) r o HIN12.out (by have:=goodOp_over HGO.out;omega) HGO.out HLA.out (by simp))
       clear hl9
       go_wp2_with (go_at_call 82;go_loud (refine CI.out.mono ?_;rintro e w15 ⟨t5,rfl,h5,u5,m5,f15⟩))
       have HNX:=Lib.hid (show GvS w5.drew.heap.size w15 b t5 (base ++ zs.take (k + 1)) ∧ _ ∧ Fr noB w w15 from ⟨by rw [HTK.out];exact h5,HG12.out.own f15 HO12.out (by decide) (by decide),F12.out.step f15 (fun q hq=>.inl (Nat.le_trans HBS.out (HG12.out.base hq)))⟩)
       clear h5 u5 m5 f15
       go_roundg (zs.length - (k + 1))
       case measure=>have:=HLT.out;omega
       case rel=>exact ⟨k + 1,t5,by first | (simp;done) | exact congrArg (Value.int .i64) (IntWalk.wrap64_in _ (by have:=HK.out;omega)),rfl,HLT.out,HNX.out.1,HNX.out.2.1,HNX.out.2.2⟩
      ·have j1:¬ (k:Int) < (zs.length:Int):=by omega
       have hke:k = zs.length:=by omega
       rw [hke,List.take_length,HSA2.out.2] at hG
       have CR:=Lib.hid (gvRows_any hG (by have:=HB.out;omega))
       have F15:=Lib.hid hf
       clear hke hk hlt hG hO hf
       go_wp2_with (go_at_call 49;refine CR.out.mono ?_;rintro e w16 ⟨A16,c16,rs16,ys16,rfl,o16,x16,ap16,p16,q16,f16⟩)
       refine bodyPost_ret (results_tmp2 rfl _ _ _) rfl ?_
       exact .inl ⟨HSF.out,A16,c16,rs16,_,rfl,⟨A16,c16,rs16,ys16,rfl,o16,x16,ap16,p16,q16,f16⟩,F15.out⟩
    ·have hzl:0 < zs.length:=List.length_pos_iff.2 hze
     have g1:(0:Int) < (zs.length:Int):=by omega
     have hlr:0 < r5.length:=by rw [HZL.out];exact hzl
     obtain ⟨q,hq⟩:∃ q,base.length = q + 1:=⟨base.length - 1,by omega⟩
     have hqb:q < base.length:=by omega
     have hqr:q < rb.length:=by rw [HN.out];exact hqb
     obtain ⟨ga,oa,rfl,hga⟩:=HSB.out.adC (by have:=HN.out;omega)
     obtain ⟨gz,oz,rfl,hgz⟩:=(Sl.own HO5.out:Sl w5 A5 (codO.row r5)).adC hlr
     have ea:codO.rd w5.drew ga (oa + q * 41) = some rb[q]:=(HSB.out.fr0 (F5.out.step0 fd)).rd q hqr
     have ez:codO.rd w5.drew gz (oz + 0 * 41) = some r5[0]:=(Sl.own (own_new0 HO5.out fd)).rd 0 hlr
     rw [Nat.zero_mul,Nat.add_zero] at ez
     have ia:=Cod.rd_part (C':=codS) (y:=rb[q].At) ea 1 (get2 _ _ 1 rfl rfl)
     have iz:=Cod.rd_part (C':=codS) (y:=r5[0].At) ez 1 (get2 _ _ 1 rfl rfl)
     have xa:=HXB.out.2 q hqr hqb
     have xz:=HZA.out.2 0 hlr hzl
     have sf:safeO base all = decide (0 < cmpS r5[0].At rb[q].At):=by
      have e1:base.getLast? = some base[q]:=by
       rw [List.getLast?_eq_getElem?,hq,Nat.add_sub_cancel,List.getElem?_eq_getElem hqb]
      have e2:zs.head? = some zs[0]:=by
       rw [List.head?_eq_getElem?,List.getElem?_eq_getElem hzl]
      unfold safeO
      rw [← HZE.out,e1,e2]
      simp only
      have e3:zs[0].At = r5[0].At:=by rw [xz.eq];rfl
      have e4:base[q].At = rb[q].At:=by rw [xa.eq];rfl
      rw [e3,e4]
      try rfl
     generalize rb[q].At = sa at ia sf
     generalize r5[0].At = sz at iz sf
     have wq:IntKind.i64.wrap ((base.length:Int) - 1) = (q:Int):=by rw [IntKind.wrap_i64,hq];have:=HBL.out;omega
     have q0:(0:Int) ≤ (q:Int):=by omega
     have q1:(q:Int) < (base.length:Int):=by omega
     have HQ:=Lib.hid hq
     clear hq hqb hqr hga hgz ea ez xa xz hlr hze hbe
     have hk:∀ w' w'':World,Fr noB w' w'' → (codS.rd w' ga (oa + q * 41 + 1) = some sa ∧ codS.rd w' gz (oz + 1) = some sz) → (codS.rd w'' ga (oa + q * 41 + 1) = some sa ∧ codS.rd w'' gz (oz + 1) = some sz):=fun w' w'' f h=>⟨Cod.rd_fr0 h.1 f,Cod.rd_fr0 h.2 f⟩
     refine wp_region_M 22 23 [⟨268435456,1,0⟩,⟨536870912,268435456,1⟩,⟨1073741824,536870912,2⟩,⟨2147483648,1073741824,4⟩,⟨4294967296,2147484160,8⟩,⟨8589934592,6442450944,24⟩,⟨17179869184,10737418240,40⟩,⟨34359738368,19327352832,72⟩,⟨68719476736,34359738368,136⟩,⟨137438953472,68719477248,256⟩,⟨274877906944,206158430208,768⟩,⟨549755813888,343597383680,1280⟩,⟨1099511627776,618475290624,2304⟩,⟨2199023255552,68719476737,256⟩,⟨4398046511104,68719476737,256⟩,⟨8796093022208,4466765987840,16640⟩,⟨17592186044416,8864812498944,33024⟩,⟨35184372088832,19859928776704,73984⟩,⟨70368744177664,35253091565568,131328⟩,⟨140737488355328,70437463654400,262400⟩,⟨281474976710656,141905719459840,528640⟩,⟨562949953421312,281543696187392,1048832⟩,⟨1125899906842624,563018672898048,2097408⟩] [(true,0),(true,1),(true,2),(true,3),(true,4),(true,5),(true,6),(true,7),(true,8),(true,9),(true,10),(true,11),(true,12),(true,13),(true,14),(true,15),(true,16),(true,17),(true,18),(true,19),(false,20),(true,21)] (fun w'=>codS.rd w' ga (oa + q * 41 + 1) = some sa ∧ codS.rd w' gz (oz + 1) = some sz) (by kernel_rfl) rfl (by kernel_rfl) (by kernel_rfl) (by kernel_rfl) ⟨ia,iz⟩ (fun hA hF=>?_)
     iterate 20
      refine wpAnyS_take (v:=?_) hA rfl (fun _ _ _ h=>h) (Or.inl ⟨by rfl,?_⟩) hF (fun hA=>?_)
      rotate_left
      ·intro wS hSw;(try dsimp only at hSw);obtain ⟨s1,s2⟩:=hSw;first | (apply Eq.trans;apply ex_ldO_at;exact rfl;exact rfl;assumption;with_reducible rfl) | (apply Eq.trans;apply ex_ldS_at;exact rfl;exact rfl;assumption;with_reducible rfl) | (go_simp;try with_reducible rfl)
      try simp only [sA1,sA2,sA3,Act.put,sA4,sA5,sA6]
     refine wpAnyS_one hA rfl (fun K' hK=>?_)
     rw [if_pos (by rfl)]
     go_simp
     go_at_call 76
     refine (scmp_v _ sz sa).mono ?_
     rintro e w8 ⟨rfl,f8⟩
     replace hF:=hk _ _ f8 hF
     refine hK.out _ _ hF (fun hA=>?_)
     clear hK K'
     as_aux_lemma =>
     refine wpAnyS_take (v:=?_) hA rfl (fun _ _ _ h=>h) (Or.inl ⟨by rfl,?_⟩) hF (fun hA=>?_)
     rotate_left
     ·intro wS hSw;(try dsimp only at hSw);obtain ⟨s1,s2⟩:=hSw;first | (apply Eq.trans;apply ex_ldO_at;exact rfl;exact rfl;assumption;with_reducible rfl) | (apply Eq.trans;apply ex_ldS_at;exact rfl;exact rfl;assumption;with_reducible rfl) | (go_simp;try with_reducible rfl)
     try simp only [sA1,sA2,sA3,Act.put,sA4,sA5,sA6]
     refine wpAnyS_end hA rfl ?_
     simp only [List.drop_succ_cons,List.drop_zero]
     have HFD:=Lib.hid (fd.step0 f8)
     clear hF hk ia iz wq q0 q1 g0 g1 fd f8 hzl hbl
     by_cases hc:cmpS sz sa ≤ 0
     ·have c1:cmpS sz sa ≤ 0:=hc
      have HSF:=Lib.hid (show safeO base all = false by rw [sf,decide_eq_false_iff_not];omega)
      clear sf hc CT
      go_wp2_with fail
      refine bodyPost_ret (results_tmp2 rfl _ _ _) rfl ?_
      exact .inr ⟨HSF.out,rfl,F5.out.step0 HFD.out⟩
     ·have c1:¬ cmpS sz sa ≤ 0:=hc
      have HS0:=Lib.hid (show safeO base all = true by rw [sf,decide_eq_true_eq];omega)
      clear sf hc
      have HSF:=Lib.hid HS0.out
      have HSA2:=Lib.hid (show (∀ o ∈ zs,∀ b ∈ base,cmpS b.At o.At < 0) ∧ base ++ zs = all by have:=safe_all HRB.out HRA.out HSUB.out HSF.out;rw [HZE.out];exact this)
      have F9:=Lib.hid (F5.out.step0 HFD.out)
      have HO9:=Lib.hid (own_new0 HO5.out HFD.out)
      have HZS:=Lib.hid (show SrtL zs by rw [HZE.out];exact rest_srt HRA.out)
      go_upto_region 12 with (go_at_call 48;refine (CT.out w8 F9.out).mono ?_;rintro e w9 ⟨b,t,rfl,gt,f9⟩)
      have hi0:FsL2 w wr w8.heap.size b base zs (some ⟨gz,oz,none⟩) c5 r5 zs.length (.int .i64 ((0:Nat):Int)) w9:=⟨0,t,rfl,rfl,Nat.zero_le _,by simpa using gt,own_new0 HO9.out f9,F9.out.step0 f9⟩
      have HBS:=Lib.hid F9.out.size
      clear gt f9 CT HO9 F9
      go_loopg [55] zs.length (fun gk iv wq=>FsL2 w wr w8.heap.size b base zs (some ⟨gz,oz,none⟩) c5 r5 gk iv wq)
      case atStart=>exact hi0
      case round =>
       clear hi0
       obtain ⟨k,t,rfl,rfl,hk,hG,hO,hf⟩:=hrel
       by_cases hlt:k < zs.length
       ·have j0:(0:Int) ≤ (k:Int):=by omega
        have j1:(k:Int) < (zs.length:Int):=by omega
        have hlr:k < r5.length:=by rw [HZL.out];exact hlt
        have hsl:=Sl.own hO
        obtain ⟨g,off,hAe,hgg⟩:=hsl.adC (by omega)
        (obtain ⟨rfl,rfl⟩:g = gz ∧ off = oz:=(by simpa [eq_comm] using hAe))
        have e1:codO.rd wr g (off + k * 41) = some r5[k]:=hsl.rd k hlr
        have hin:=HZA.out.2 k hlr hlt
        have hgo:=HGD.out zs[k] (by rw [← HSA2.out.2];exact List.mem_append_right _ (List.getElem_mem hlt))
        have hlat:∀ p ∈ base ++ zs.take k,cmpS p.At (zs[k]).At < 0:=fun p hp=>by
         rcases List.mem_append.1 hp with hp | hp
         ·exact HSA2.out.1 _ (List.getElem_mem hlt) p hp
         ·obtain ⟨i,hi,rfl⟩:=List.getElem_of_mem hp
          rw [List.length_take] at hi
          rw [List.getElem_take]
          exact List.pairwise_iff_getElem.1 HZS.out i k (by omega) hlt (by omega)
        have HTK:=Lib.hid (show base ++ zs.take (k + 1) = (base ++ zs.take k) ++ zs[k] :: [] by rw [List.take_succ_eq_append_getElem hlt,List.append_assoc])
        have HSK:=Lib.hid (show SrtL (base ++ zs.take k) by
         have h1:SrtL (base ++ zs):=by rw [HSA2.out.2];exact HRA.out
         exact List.Pairwise.sublist ((List.Sublist.refl base).append (List.take_sublist k zs)) h1)
        generalize r5[k] = r at e1 hin
        generalize zs[k] = o at hin hgo hlat HTK
        have HLT:=Lib.hid hlt
        have HK:=Lib.hid (show k ≤ 64000 by have:=HZ6.out;omega)
        have HIN:=Lib.hid (hin.fr hf)
        have HGO:=Lib.hid hgo
        have HLA:=Lib.hid hlat
        clear hk hlt hlr hsl hgg hin hgo hlat
        go_upto_region 14 with fail
        have f12:Fr noB wr (wr.alloc (codO.o r)):=(Fr.refl noB wr).alloc _
        have q12:=Cod.rd_new' (C:=codO) wr r
        have HG12:=Lib.hid (hG.fr0 f12)
        have HO12:=Lib.hid (own_new0 hO f12)
        have HIN12:=Lib.hid (HIN.out.fr f12)
        have F12:=Lib.hid (hf.step0 f12)
        clear e1 f12 hG hO hf HIN
        generalize wr.alloc (codO.o r) = W12 at q12 HG12 HO12 HIN12 F12 ⊢
        generalize wr.heap.size = D2 at q12 ⊢
        have hl9:(base ++ zs.take k).length ≤ 64000:=by
         have h1:(base ++ zs).length ≤ 64000:=by rw [HSA2.out.2];exact HB.out
         rw [List.length_append] at h1 ⊢
         rw [List.length_take]
         omega
        have CI:=Lib.hid (gvIns_mid (base ++ zs.take k) [] (by rw [List.append_nil];exact HG12.out) (by rw [List.append_nil];exact HSK.out) (by rw [List.append_nil];omega) r o HIN12.out (by have:=goodOp_over HGO.out;omega) HGO.out HLA.out (by simp))
        clear hl9
        go_wp2_with (go_at_call 82;go_loud (refine CI.out.mono ?_;rintro e w15 ⟨t5,rfl,h5,u5,m5,f15⟩))
        have HNX:=Lib.hid (show GvS w8.heap.size w15 b t5 (base ++ zs.take (k + 1)) ∧ _ ∧ Fr noB w w15 from ⟨by rw [HTK.out];exact h5,HG12.out.own f15 HO12.out (by decide) (by decide),F12.out.step f15 (fun q hq=>.inl (Nat.le_trans HBS.out (HG12.out.base hq)))⟩)
        clear h5 u5 m5 f15
        go_roundg (zs.length - (k + 1))
        case measure=>have:=HLT.out;omega
        case rel=>exact ⟨k + 1,t5,by first | (simp;done) | exact congrArg (Value.int .i64) (IntWalk.wrap64_in _ (by have:=HK.out;omega)),rfl,HLT.out,HNX.out.1,HNX.out.2.1,HNX.out.2.2⟩
       ·have j1:¬ (k:Int) < (zs.length:Int):=by omega
        have hke:k = zs.length:=by omega
        rw [hke,List.take_length,HSA2.out.2] at hG
        have CR:=Lib.hid (gvRows_any hG (by have:=HB.out;omega))
        have F15:=Lib.hid hf
        clear hke hk hlt hG hO hf
        go_wp2_with (go_at_call 49;refine CR.out.mono ?_;rintro e w16 ⟨A16,c16,rs16,ys16,rfl,o16,x16,ap16,p16,q16,f16⟩)
        refine bodyPost_ret (results_tmp2 rfl _ _ _) rfl ?_
        exact .inl ⟨HSF.out,A16,c16,rs16,_,rfl,⟨A16,c16,rs16,ys16,rfl,o16,x16,ap16,p16,q16,f16⟩,F15.out⟩
end Go.Proofs.YtjpieiccpbcabaaGreat
namespace Go.Proofs.YtjpieiccpbcabaaGreat
open Go.RowKit Go.Maps Go.Sort
structure PlW where
 F:ID
 BA:Option Addr
 bn:Nat
 bc:Nat
 RA:Option Addr
 rn:Nat
 rc:Nat
 Safe:Bool
 Time:Int
def csPl (x:PlW):List Value:=bv x.F.1 ++ [.slice x.BA x.bn x.bc,.slice x.RA x.rn x.rc,.bool x.Safe,.int .i64 x.Time]
def zPlW:PlW:=⟨zID,none,0,0,none,0,0,false,0⟩
def codPl:Cod PlW:=⟨59,36,csPl,zPlW,fun x=>by simp [csPl,x.F.2],by decide,fun x u hu=>by
  have:=one_bv (l:=[]) (m:=[.slice x.BA x.bn x.bc,.slice x.RA x.rn x.rc,.bool x.Safe,.int .i64 x.Time]) (x:=x.F) (by simp) (by simp;exact ⟨rfl,rfl,rfl,rfl⟩) u (by simpa [csPl] using hu)
  exact this,fun x y h=>by
 obtain ⟨d,a,b,c,a2,b2,c2,s,t⟩:=x;obtain ⟨d',a',b',c',a2',b2',c2',s',t'⟩:=y
 obtain ⟨rfl,h5⟩:=bv_app_inj h
 simp only [List.cons.injEq,Value.slice.injEq,Value.bool.injEq,Value.int.injEq,and_true,true_and] at h5
 obtain ⟨⟨rfl,rfl,rfl⟩,⟨rfl,rfl,rfl⟩,rfl,rfl⟩:=h5
 rfl⟩
theorem okPl:CodOk Tryz.prog codPl:=⟨⟨_,Tryz.underlying59,rfl⟩,by kernel_rfl,fun w=>(zero_of_info (P:=Tryz.prog) (t:=59) (v:=.agg (codPl.cs codPl.z).toArray) (n:=36) (by kernel_rfl)).1 w⟩
@[simp ↓] theorem ex_ldPl (ρ:Operand → Value) (d:Option Nat) (a:Operand) (t:TypeId) (p:String) (f:Array Edge) (g:Option (Nat × Bool)) (w:World) :
  (execOp ρ { dst:=d,op:=.load 59 a,type:=t,pos:=p,after:=f,guard:=g }).run Tryz.prog w = codPl.ldR w (ρ a) (exElse ρ { dst:=d,op:=.load 59 a,type:=t,pos:=p,after:=f,guard:=g } w):=okPl.ldOp ρ _ a rfl w
@[simp ↓] theorem ex_alPl (ρ:Operand → Value) (d:Option Nat) (t:TypeId) (p:String) (f:Array Edge) (g:Option (Nat × Bool)) (w:World) :
  (execOp ρ { dst:=d,op:=.alloc 59,type:=t,pos:=p,after:=f,guard:=g }).run Tryz.prog w = .ok (.value (.pointer (some ⟨w.heap.size,0,none⟩))) (w.alloc (codPl.o zPlW)):=okPl.alOp ρ _ rfl w
@[simp ↓] theorem ex_stPl (ρ:Operand → Value) (a x:Operand) (d:Option Nat) (t:TypeId) (p:String) (f:Array Edge) (g:Option (Nat × Bool)) (w:World) :
  (execOp ρ { dst:=d,op:=.store 59 a x,type:=t,pos:=p,after:=f,guard:=g }).run Tryz.prog w = codPl.stR w (ρ a) (ρ x):=Cod.stOp (C:=codPl) ρ _ a x rfl w
@[simp] theorem st_newPl (w:World) (x y:PlW):codPl.stR (w.alloc (codPl.o y)) (.pointer (some ⟨w.heap.size,0,none⟩)) (.agg (codPl.A x)) = .ok .skip (w.alloc (codPl.o x)):=okPl.stR_new w x y
@[simp] theorem bld0_Pl (w:World):(Instr.build 59 #[]).run Tryz.prog w = .ok (.agg (codPl.A zPlW)) w:=by
 rw [Cod.A_eq]
 kernel_rfl
@[simp ↓] theorem ex_b0Pl (ρ:Operand → Value) (d:Option Nat) (t:TypeId) (p:String) (f:Array Edge) (g:Option (Nat × Bool)) (w:World) :
  (execOp ρ { dst:=d,op:=.build 59 #[],type:=t,pos:=p,after:=f,guard:=g }).run Tryz.prog w = .ok (.value (.agg (codPl.A zPlW))) w:=by
 refine ex_buildG 59 ρ _ #[] w w _ rfl ?_
 rw [List.map_toArray,List.map_nil]
 exact bld0_Pl w
theorem bldP_BT (w:World) (A:Option Addr) (n c:Nat) (t:Int):(Instr.build 59 #[(1,.slice A n c),(4,.int .i64 t)]).run Tryz.prog w = .ok (.agg (codPl.A { zPlW with BA:=A,bn:=n,bc:=c,Time:=t })) w:=by
 rw [Cod.A_eq codPl];go_simp;rfl
theorem bldP_FR (w:World) (x:ID) (A:Option Addr) (n c:Nat):(Instr.build 59 #[(0,encI x),(2,.slice A n c)]).run Tryz.prog w = .ok (.agg (codPl.A { zPlW with F:=x,RA:=A,rn:=n,rc:=c })) w:=by
 have h1:∀ place:Nat → Option (Nat × Nat),place 0 = some (0,32) → place 2 = some (33,1) → Instr.fill place ([] ++ bv zID.1 ++ [Value.slice none 0 0,.slice none 0 0,.bool false,.int .i64 0]).toArray [(0,encI x),(2,.slice A n c)] = some (codPl.cs { zPlW with F:=x,RA:=A,rn:=n,rc:=c }).toArray:=by
  intro place p0 p2
  refine (fill_one place [] (bv zID.1) [.slice none 0 0,.slice none 0 0,.bool false,.int .i64 0] (bv x.1) 0 (encI x) _ (cellsI x) (by simp [x.2,p0]) (by simp [x.2,zID])).trans ?_
  have e2:=fill_one place (bv x.1 ++ [.slice none 0 0]) [.slice none 0 0] [.bool false,.int .i64 0] [.slice A n c] 2 (.slice A n c) [] rfl (by simpa [x.2] using p2) rfl
  refine Eq.trans ?_ (e2.trans ?_)
  ·simp
  ·simp [Instr.fill,codPl,csPl,zPlW]
 have hc:(Value.agg (codPl.cs codPl.z).toArray).cells = ([] ++ bv zID.1 ++ [Value.slice none 0 0,.slice none 0 0,.bool false,.int .i64 0]).toArray:=rfl
 have hz:(zeroValue 59).run Tryz.prog w = .ok (.agg (codPl.cs codPl.z).toArray) w:=okPl.zero w
 have hsI:∀ w,(sizeOf 24).run Tryz.prog w = .ok 32 w:=fun w=>Tryz.sizeOf24 w
 simp only [Instr.build,Sem.run_bind,hz,Result.andThen_ok,run_underlying Tryz.underlying59,hc]
 simp only [List.mapM_toArray,List.mapM_cons,List.mapM_nil,Sem.run_bind,hsI,Tryz.sizeOf32,Tryz.sizeOf55,Tryz.sizeOf4,Tryz.sizeOf2,Result.andThen_ok,Sem.run_pure,Sem.run_map,map_pure,bind_pure_comp]
 rw [h1 _ rfl rfl]
 simp [Cod.A_eq]
noncomputable def mkBT (w:World) (v u:Value) (r:Result Next):Result Next:=match v,u with
 | .slice A n c,.int .i64 t=>.ok (.value (.agg (codPl.A { zPlW with BA:=A,bn:=n,bc:=c,Time:=t }))) w
 | _,_=>r
@[simp] theorem mkBT_at (w:World) (A:Option Addr) (n c:Nat) (t:Int) (r:Result Next):mkBT w (.slice A n c) (.int .i64 t) r = .ok (.value (.agg (codPl.A { zPlW with BA:=A,bn:=n,bc:=c,Time:=t }))) w:=rfl
theorem ex_bldBT_at {ρ:Operand → Value} {o:Oper} {w:World} {x y:Operand} {A:Option Addr} {n c:Nat} {t:Int} (ho:o.op = .build 59 #[(1,x),(4,y)]) (h1:ρ x = .slice A n c) (h2:ρ y = .int .i64 t) :
  (execOp ρ o).run Tryz.prog w = .ok (.value (.agg (codPl.A { zPlW with BA:=A,bn:=n,bc:=c,Time:=t }))) w:=by
 refine ex_buildG 59 ρ _ _ w w _ ho ?_
 have:=bldP_BT w A n c t
 simpa [h1,h2] using this
theorem ex_bldFR_at {ρ:Operand → Value} {o:Oper} {w:World} {x y:Operand} {z:ID} {A:Option Addr} {n c:Nat} (ho:o.op = .build 59 #[(0,x),(2,y)]) (h1:ρ x = encI z) (h2:ρ y = .slice A n c) :
  (execOp ρ o).run Tryz.prog w = .ok (.value (.agg (codPl.A { zPlW with F:=z,RA:=A,rn:=n,rc:=c }))) w:=by
 refine ex_buildG 59 ρ _ _ w w _ ho ?_
 have:=bldP_FR w z A n c
 simpa [h1,h2] using this
structure PlAt (w:World) (b:Nat) (r:PlW):Prop where
 fw:rdI w b 0 = some r.F
 base:w.cell? ⟨b,32,none⟩ = some (.slice r.BA r.bn r.bc)
 rows:w.cell? ⟨b,33,none⟩ = some (.slice r.RA r.rn r.rc)
 safe:w.cell? ⟨b,34,none⟩ = some (.bool r.Safe)
 time:w.cell? ⟨b,35,none⟩ = some (.int .i64 r.Time)
 self:codPl.rd w b 0 = some r
theorem plAt {w:World} {b:Nat} {r:PlW} (h:codPl.rd w b 0 = some r):PlAt w b r:=by
 have e (k:Nat) {v:Value} (hv:(codPl.cs r)[k]? = some v):=by simpa using Cod.rd_cell h k hv
 exact ⟨by simpa using Cod.rdI_part h 0 (getApp r.F [] [.slice r.BA r.bn r.bc,.slice r.RA r.rn r.rc,.bool r.Safe,.int .i64 r.Time] 0 rfl),
  e 32 (getEnd r.F [] [.slice r.BA r.bn r.bc,.slice r.RA r.rn r.rc,.bool r.Safe,.int .i64 r.Time] 32 rfl 0),
  e 33 (getEnd r.F [] [.slice r.BA r.bn r.bc,.slice r.RA r.rn r.rc,.bool r.Safe,.int .i64 r.Time] 32 rfl 1),
  e 34 (getEnd r.F [] [.slice r.BA r.bn r.bc,.slice r.RA r.rn r.rc,.bool r.Safe,.int .i64 r.Time] 32 rfl 2),
  e 35 (getEnd r.F [] [.slice r.BA r.bn r.bc,.slice r.RA r.rn r.rc,.bool r.Safe,.int .i64 r.Time] 32 rfl 3),h⟩
theorem set_end {l m:List Value} {k:Nat} (h:l.length = k) (j:Nat) (v:Value):(l ++ m).set (k + j) v = l ++ m.set j v:=by
 subst h
 rw [List.set_append_right _ _ (by omega),Nat.add_sub_cancel_left]
theorem sePl_Rows (r:PlW) (A:Option Addr) (n c:Nat):(codPl.cs r).set 33 (.slice A n c) = codPl.cs { r with RA:=A,rn:=n,rc:=c } :=
 set_end (k:=32) (by simp [r.F.2]) 1 _
theorem sePl_Safe (r:PlW) (b:Bool):(codPl.cs r).set 34 (.bool b) = codPl.cs { r with Safe:=b } :=
 set_end (k:=32) (by simp [r.F.2]) 2 _
end Go.Proofs.YtjpieiccpbcabaaGreat
namespace Go.Proofs.YtjpieiccpbcabaaGreat
open Go.RowKit Go.Maps Go.Sort Go.Shelf
attribute [local go_sem] Oper.semAt_some
theorem lift_T1 {X:Prop} {P:Program} {md:Region.Mode} {ops:Array Oper} {Q:Exit → Act → World → Prop} {FF:World → Prop} {n fuel:Nat} {s:Sch} {act:Nat → Option Addr → Nat → Nat → Act} {F:Nat → Option Addr → Nat → Nat → World → Prop}
  (h1:(∀ a b k c L W,F a b k c W → RegT md ops n L s → wpAnyN P md ops Q FF n fuel L (act a b k c) W) → X)
  (h2:∀ a b k c L W,F a b k c W → RegT md ops n L s → wpAnyN P md ops Q FF n fuel L (act a b k c) W):X:=h1 h2
theorem step_runP {P:Program} {w:World} {o:Oper} {a:Act} {K:Act → World → Prop} {Q:Exit → Act → World → Prop} (v:Value) (w':World)
  (hr:(execOp a.eval o).run P w = .ok (.value v) w') (h:K (a.put o.dst v) w'):Oper.wp P o a w K Q:=by
 unfold Oper.wp
 rw [hr]
 exact h
def RowsS (w:World) (A:Option Addr) (n c:Nat) (ops:List Opn):Prop :=
 ∃ (rs:List RwW) (ys:List RwP),rs.length = n ∧ Sl w A (codR.row rs) ∧ RwsIn w rs ys ∧ ys.Perm (runX [] ops) ∧ ys.Pairwise (fun a b=>cmpS a.Node b.Node < 0)
structure PlG (w:World) (L:Hst) (a b:ID) (r:PlW):Prop where
 plan:∃ base ops,PlanP L a b r.F base ops r.Safe r.Time ∧ base.length = r.bn ∧ Sl w r.BA (idc base) ∧ base.length ≤ 1000000000 ∧ ops.length ≤ 64000 ∧ RowsS w r.RA r.rn r.rc ops
def MgTo (w:World) (L:Hst) (a b:ID) (e:Ending) (w':World):Prop :=
 ∃ r:PlW,e = .returned (.tuple #[.agg (codPl.A r),.int .i64 (mgE L a b)]) ∧ Fr noB w w' ∧ (mgE L a b ≠ 0 → r = zPlW) ∧ (mgE L a b = 0 → PlG w' L a b r)
theorem HOk.times {L:Hst} (h:HOk L) {x:ID} {c:Chg} (hf:findC L x = some c):1 ≤ c.Time ∧ c.Time ≤ 1099511627776:=by
 have:=(rightCh_parts (h.right _ (findC_mem hf))).2.2.1
 unfold rightS at this
 simp at this
 omega
def RowsW (w:World) (A:Option Addr) (n c:Nat) (ops:List Opn):Prop :=
 ∃ (rs:List RwW) (ys:List RwP),rs.length = n ∧ w.ownsRow 0 codR.t codR.n (.slice A rs.length c) rs.length (codR.row rs) ∧ AllO (RwN 0) w rs ys ∧ ys.Perm (runX [] ops) ∧ ys.Pairwise (fun a b=>cmpS a.Node b.Node < 0)
theorem RowsTo.w {wa w':World} {ops:List Opn} {A:Option Addr} {n c:Nat} (h:RowsTo wa (runX [] ops) (.returned (.slice A n c)) w'):RowsW w' A n c ops:=by
 obtain ⟨A',c',rs,ys,e,o,x,_,p,q,_⟩:=h
 injection e with e
 injection e with e1 e2 e3
 subst e1 e2 e3
 exact ⟨rs,ys,rfl,own_base o (Nat.zero_le _),⟨x.1,fun i h h'=>⟨(x.2 i h h').row,own_base (x.2 i h h').own (Nat.zero_le _)⟩⟩,p,q⟩
theorem RowsW.pl {w w':World} {A:Option Addr} {n c B:Nat} {ops:List Opn} {v:PlW} (h:RowsW w A n c ops) (hB:codPl.bxd w B = some v) (f:Fr (oneB B) w w'):RowsW w' A n c ops:=by
 obtain ⟨rs,ys,e,o,x,p,q⟩:=h
 have hblk:=Cod.bxd_blk hB
 exact ⟨rs,ys,e,own_box hblk o (by decide) f,x.map fun r y hr=>hr.fr f (NoHS.blk hblk (by decide) (by decide)),p,q⟩
theorem RowsW.s {w:World} {A:Option Addr} {n c:Nat} {ops:List Opn} (h:RowsW w A n c ops):RowsS w A n c ops:=by
 obtain ⟨rs,ys,e,o,x,p,q⟩:=h
 subst e
 exact ⟨rs,ys,rfl,Sl.own o,⟨x.1,fun i h h'=>(x.2 i h h').row.inn⟩,p,q⟩
theorem RowsTo.u {wa w':World} {ops:List Opn} {e:Ending} (h:RowsTo wa (runX [] ops) e w'):∃ A n c,e = .returned (.slice A n c) ∧ RowsW w' A n c ops ∧ Fr noB wa w':=by
 obtain ⟨A,c,rs,ys,rfl,h5⟩:=id h
 exact ⟨A,_,c,rfl,h.w,h5.2.2.2.2.2⟩
theorem FastTo.u {w w':World} {base all:List Opn} {e:Ending} (h:FastTo w base all e w'):∃ A n c,e = .returned (.tuple #[.slice A n c,.bool (safeO base all)]) ∧ Fr noB w w' ∧ (safeO base all = true → RowsW w' A n c all):=by
 rcases h with ⟨h1,A,c,rs,wa,rfl,h2,h3⟩ | ⟨h1,rfl,h2⟩
 ·have h4:=h2
  obtain ⟨_,_,_,_,_,_,_,_,_,_,f⟩:=h4
  exact ⟨A,_,c,by rw [h1],h3.step0 f,fun _=>h2.w⟩
 ·exact ⟨none,0,0,by rw [h1],h2,fun h=>by rw [h1] at h;cases h⟩
theorem RwsTo.u {w w':World} {L:Hst} {ids:List ID} {e:Ending} (h:RwsTo w L ids e w'):∃ A n c l,e = .returned (.slice A n c) ∧ OpsP L ids l ∧ l.length ≤ 64000 ∧ RowsW w' A n c l ∧ Fr noB w w':=by
 obtain ⟨l,wa,h1,h2,h3,h4⟩:=h
 obtain ⟨A,c,rs,ys,rfl,h5⟩:=id h4
 exact ⟨A,_,c,l,rfl,h1,h2,h4.w,h3.step0 h5.2.2.2.2.2⟩
theorem sl_pl {w w':World} {A:Option Addr} {rs:List OpW} {B:Nat} {v:PlW} (h:Sl w A (codO.row rs)) (hB:codPl.bxd w B = some v) (f:Fr (oneB B) w w'):Sl w' A (codO.row rs):=by
 by_cases h0:rs = []
 ·rw [h0];exact Sl.nil _ _
 ·refine h.fr f (fun a ha hb=>?_)
  obtain ⟨g,off,e,_,hc⟩:=h (Cod.row_ne h0)
  rw [ha] at e
  injection e with e
  subst e
  have hb':g = B:=hb
  subst hb'
  have hl:0 < rs.length:=List.length_pos_iff.2 h0
  have hlen:(codO.row rs).length = rs.length * 41:=Cod.row_len ..
  have h40:=hc 40 _ (List.getElem?_eq_getElem (by rw [hlen];omega))
  rw [(Cod.bxd_blk hB).cell,List.getElem?_eq_none (by rw [codPl.len];show 36 ≤ off + 40;omega)] at h40
  cases h40
structure MrB (w:World) (P H D A:Nat) (a b:ID):Prop where
 c0:w.cell? ⟨H,0,none⟩ = some (.pointer (some ⟨D,0,none⟩))
 c1:w.cell? ⟨H,1,none⟩ = some (.map (some A))
 qa:rdI w P 0 = some a
 qb:rdI w (P + 1) 0 = some b
 pl:codPl.bxd w (P + 2) = some zPlW
theorem MrB.fr0 {w w':World} {P H D A:Nat} {a b:ID} (h:MrB w P H D A a b) (f:Fr noB w w'):MrB w' P H D A a b :=
 ⟨cell_fr0 h.c0 f,cell_fr0 h.c1 f,rdI_fr h.qa (rdI_lt h.qa) f (by simp [noB]),rdI_fr h.qb (rdI_lt h.qb) f (by simp [noB]),Cod.bxd_fr0 h.pl f⟩
set_option maxRecDepth 100000 in
set_option maxHeartbeats 8000000 in
theorem mgMerge_any {w:World} {H:Nat} {S:Nat → Prop} {L:Hst} (h:Hs w H S L) (hn:NdH L) (hl:L.length ≤ 1000) (a b:ID) :
  Calls Tryz.prog 22 #[.pointer (some ⟨H,0,none⟩),encI a,encI b] w (MgTo w L a b):=by
 have HH:=Lib.hid h
 have HK:=Lib.hid h.ok
 have CO:=Lib.hid (fun w' (f:Fr noB w w') P c n ids (hi:ids.length = n) (hs:Sl w' P (idc ids)) (hb:ids.length ≤ 1000000000)=>mgOps_any (HH.out.fr0 f) hn hl P c n ids hi hs hb)
 have CR:=Lib.hid (fun w' (f:Fr noB w w') P c x (hs:Sl w' P (idc [x]))=>mgRows_any (HH.out.fr0 f) hn hl P c 1 [x] rfl hs (by simp))
 obtain ⟨D,A,O,kvA,kvO,F,Q,h1,h2,h3⟩:=h
 have HA:=Lib.hid h1
 have CRe:=Lib.hid (fun w' (f:Fr noB w w') x y=>reaches_any w' D F (dgH L) (h1.dag.fr0 f) x y)
 have CB:=Lib.hid (fun w' (f:Fr noB w w')=>bases_any w' D F (dgH L) (h1.dag.fr0 f) a b)
 have fa:Fr noB w (w.alloc (ido a)):=(Fr.refl noB w).alloc _
 have fb:Fr noB (w.alloc (ido a)) ((w.alloc (ido a)).alloc (ido b)):=(Fr.refl noB _).alloc _
 have fc:Fr noB ((w.alloc (ido a)).alloc (ido b)) (((w.alloc (ido a)).alloc (ido b)).alloc (codPl.o zPlW)):=(Fr.refl noB _).alloc _
 have za:(w.alloc (ido a)).heap.size = w.heap.size + 1:=by simp
 have zb:((w.alloc (ido a)).alloc (ido b)).heap.size = w.heap.size + 2:=by simp
 have f0:=(fa.step0 fb).step0 fc
 have q0:MrB (((w.alloc (ido a)).alloc (ido b)).alloc (codPl.o zPlW)) w.heap.size H D A a b:=by
  have h4:rdI (w.alloc (ido a)) w.heap.size 0 = some a:=rdI_new w a
  have h5:rdI ((w.alloc (ido a)).alloc (ido b)) (w.alloc (ido a)).heap.size 0 = some b:=rdI_new _ b
  rw [za] at h5
  have h6:=Cod.bxd_new (C:=codPl) ((w.alloc (ido a)).alloc (ido b)) zPlW
  rw [zb] at h6
  have h7:=rdI_fr h4 (rdI_lt h4) fb (by simp [noB])
  exact ⟨cell_fr0 h1.c0 f0,cell_fr0 h1.c1 f0,rdI_fr h7 (rdI_lt h7) fc (by simp [noB]),rdI_fr h5 (rdI_lt h5) fc (by simp [noB]),h6⟩
 have m0:=mpI_fr h1.all f0 (by simp [noB])
 obtain ⟨ra,rsa,ca,ba,la1,la2,ea1,ea2,hca,_,_,_,_⟩:=h1.getC a
 obtain ⟨rb,rsb,cb,bb,lb1,lb2,eb1,eb2,hcb,_,_,_,_⟩:=h1.getC b
 have HTa:=Lib.hid hca.inn.time
 have HTb:=Lib.hid hcb.inn.time
 have HEa:=Lib.hid (And.intro ea1 ea2)
 have HEb:=Lib.hid (And.intro eb1 eb2)
 clear h1 h2 h3 hca hcb ea1 ea2 eb1 eb2 fa fb fc za hn hl
 go_enter Tryz.func22,Tryz.ntmps22
 go_upto_region 1 with fail
 generalize hW0:((w.alloc (ido a)).alloc (ido b)).alloc (codPl.o zPlW) = W0 at f0 q0 m0 ⊢
 clear hW0 zb
 obtain ⟨P,hP⟩:∃ P,P = w.heap.size:=⟨_,rfl⟩
 rw [← hP] at q0 ⊢
 have HP:=Lib.hid hP
 have e2:P + 1 + 1 = P + 2:=rfl
 clear hP
 have hk:∀ w' w'':World,Fr noB w' w'' → (w'.cell? ⟨H,1,none⟩ = some (.map (some A)) ∧ rdI w' P 0 = some a ∧ mpI w' A = some kvA) → (w''.cell? ⟨H,1,none⟩ = some (.map (some A)) ∧ rdI w'' P 0 = some a ∧ mpI w'' A = some kvA):=fun w' w'' f h=>⟨cell_fr0 h.1 f,rdI_fr h.2.1 (rdI_lt h.2.1) f (by simp [noB]),mpI_fr h.2.2 f (by simp [noB])⟩
 have fd:Fr noB W0 W0.drew:=(Fr.refl noB W0).drew
 have hF0:=hk _ _ fd ⟨q0.c1,q0.qa,m0⟩
 refine wp_region_M 11 12 [⟨32768,1,0⟩,⟨65536,32768,1⟩,⟨131072,65536,2⟩,⟨262144,131072,4⟩,⟨524288,16,0⟩,⟨1048576,786432,24⟩,⟨16384,1048576,32⟩,⟨2097152,16384,64⟩,⟨4194304,16384,64⟩,⟨256,0,0⟩,⟨0,2097408,767⟩,⟨512,4194304,2047⟩] [(true,0),(true,1),(true,2),(true,3),(true,4),(true,5),(true,6),(true,7),(true,8),(false,9),(false,10)] (fun w'=>w'.cell? ⟨H,1,none⟩ = some (.map (some A)) ∧ rdI w' P 0 = some a ∧ mpI w' A = some kvA) (by kernel_rfl) rfl (by kernel_rfl) (by kernel_rfl) (by kernel_rfl) hF0 (fun hA hF=>?_)
 iterate 9
  refine wpAnyS_take (v:=?_) hA rfl (fun _ _ _ h=>h) (Or.inl ⟨by rfl,?_⟩) hF (fun hA=>?_)
  rotate_left
  ·intro wS hSw;(try dsimp only at hSw);obtain ⟨s1,s2,s3⟩:=hSw;first | (apply Eq.trans;apply ex_ld_id;exact rfl;exact rfl;assumption;with_reducible rfl) | (apply Eq.trans;apply ex_ldO_at;exact rfl;exact rfl;assumption;with_reducible rfl) | (apply Eq.trans;apply ex_ldS_at;exact rfl;exact rfl;assumption;with_reducible rfl) | (apply Eq.trans;apply ex_bldFR_at;exact rfl;exact rfl;exact rfl;with_reducible rfl) | (apply Eq.trans;apply ex_bldBT_at;exact rfl;exact rfl;exact rfl;with_reducible rfl) | (go_simp;try with_reducible rfl)
  try simp only [sA1,sA2,sA3,Act.put,sA4,sA5,sA6]
 refine wpAnyS_one hA rfl (fun K' hK=>?_)
 refine step_runI rfl _ _ (okC.alOp _ _ rfl _) ?_
 have fa:Fr noB W0.drew (W0.drew.alloc (codC.o zCgW)):=(Fr.refl noB _).alloc _
 replace hF:=hk _ _ fa hF
 refine hK.out _ _ hF (fun hA=>?_)
 clear hK K'
 as_aux_lemma =>
 refine wpAnyS_one hA rfl (fun K' hK=>?_)
 refine stp_skip rfl _ (ex_stV_at (C:=codC) (v:=ra) rfl rfl rfl (st_newC W0.drew ra zCgW)) ?_
 have fb:Fr noB W0.drew (W0.drew.alloc (codC.o ra)):=(Fr.refl noB _).alloc _
 replace hF:=(hk _ _ fb hF0)
 refine hK.out _ _ hF (fun hA=>?_)
 clear hK K'
 as_aux_lemma =>
 refine wpAnyS_end hA rfl ?_
 simp only [List.drop_succ_cons,List.drop_zero]
 have bNa:codC.bxd (W0.drew.alloc (codC.o ra)) W0.drew.heap.size = some ra:=Cod.bxd_new (C:=codC) W0.drew ra
 clear hF hk hF0 fa la1 la2
 have q1:=q0.fr0 (fd.step0 fb)
 have m1:=mpI_fr m0 (fd.step0 fb) (by simp [noB])
 have g1:=f0.step0 (fd.step0 fb)
 clear q0 m0 f0 fd fb
 generalize W0.drew.alloc (codC.o ra) = W1 at bNa q1 m1 g1 ⊢
 generalize W0.drew.heap.size = Na at bNa ⊢
 go_upto_region 2 with fail
 have hk:∀ w' w'':World,Fr noB w' w'' → (w'.cell? ⟨H,1,none⟩ = some (.map (some A)) ∧ rdI w' (P + 1) 0 = some b ∧ mpI w' A = some kvA) → (w''.cell? ⟨H,1,none⟩ = some (.map (some A)) ∧ rdI w'' (P + 1) 0 = some b ∧ mpI w'' A = some kvA):=fun w' w'' f h=>⟨cell_fr0 h.1 f,rdI_fr h.2.1 (rdI_lt h.2.1) f (by simp [noB]),mpI_fr h.2.2 f (by simp [noB])⟩
 have fd:Fr noB W1 W1.drew:=(Fr.refl noB W1).drew
 have hF0:=hk _ _ fd ⟨q1.c1,q1.qb,m1⟩
 refine wp_region_M 11 12 [⟨16777216,1,0⟩,⟨33554432,16777216,1⟩,⟨67108864,33554432,2⟩,⟨134217728,67108864,4⟩,⟨268435456,32,0⟩,⟨536870912,402653184,24⟩,⟨8388608,536870912,32⟩,⟨1073741824,8388608,64⟩,⟨2147483648,8388608,64⟩,⟨1024,0,0⟩,⟨0,1073742848,767⟩,⟨2048,2147483648,2047⟩] [(true,0),(true,1),(true,2),(true,3),(true,4),(true,5),(true,6),(true,7),(true,8),(false,9),(false,10)] (fun w'=>w'.cell? ⟨H,1,none⟩ = some (.map (some A)) ∧ rdI w' (P + 1) 0 = some b ∧ mpI w' A = some kvA) (by kernel_rfl) rfl (by kernel_rfl) (by kernel_rfl) (by kernel_rfl) hF0 (fun hA hF=>?_)
 iterate 9
  refine wpAnyS_take (v:=?_) hA rfl (fun _ _ _ h=>h) (Or.inl ⟨by rfl,?_⟩) hF (fun hA=>?_)
  rotate_left
  ·intro wS hSw;(try dsimp only at hSw);obtain ⟨s1,s2,s3⟩:=hSw;first | (apply Eq.trans;apply ex_ld_id;exact rfl;exact rfl;assumption;with_reducible rfl) | (apply Eq.trans;apply ex_ldO_at;exact rfl;exact rfl;assumption;with_reducible rfl) | (apply Eq.trans;apply ex_ldS_at;exact rfl;exact rfl;assumption;with_reducible rfl) | (apply Eq.trans;apply ex_bldFR_at;exact rfl;exact rfl;exact rfl;with_reducible rfl) | (apply Eq.trans;apply ex_bldBT_at;exact rfl;exact rfl;exact rfl;with_reducible rfl) | (go_simp;try with_reducible rfl)
  try simp only [sA1,sA2,sA3,Act.put,sA4,sA5,sA6]
 refine wpAnyS_one hA rfl (fun K' hK=>?_)
 refine step_runI rfl _ _ (okC.alOp _ _ rfl _) ?_
 have fa:Fr noB W1.drew (W1.drew.alloc (codC.o zCgW)):=(Fr.refl noB _).alloc _
 replace hF:=hk _ _ fa hF
 refine hK.out _ _ hF (fun hA=>?_)
 clear hK K'
 as_aux_lemma =>
 refine wpAnyS_one hA rfl (fun K' hK=>?_)
 refine stp_skip rfl _ (ex_stV_at (C:=codC) (v:=rb) rfl rfl rfl (st_newC W1.drew rb zCgW)) ?_
 have fb:Fr noB W1.drew (W1.drew.alloc (codC.o rb)):=(Fr.refl noB _).alloc _
 replace hF:=(hk _ _ fb hF0)
 refine hK.out _ _ hF (fun hA=>?_)
 clear hK K'
 as_aux_lemma =>
 refine wpAnyS_end hA rfl ?_
 simp only [List.drop_succ_cons,List.drop_zero]
 have bNb:codC.bxd (W1.drew.alloc (codC.o rb)) W1.drew.heap.size = some rb:=Cod.bxd_new (C:=codC) W1.drew rb
 clear hF hk hF0 fa lb1 lb2
 have q2:=q1.fr0 (fd.step0 fb)
 have bNa2:=Cod.bxd_fr0 bNa (fd.step0 fb)
 have g2:=g1.step0 (fd.step0 fb)
 clear q1 m1 g1 fd fb bNa
 generalize W1.drew.alloc (codC.o rb) = W2 at bNb bNa2 q2 g2 ⊢
 generalize W1.drew.heap.size = Nb at bNb ⊢
 have plz:=q2.pl
 cases ba with
 | false =>
  have HM4:=Lib.hid (show mgE L a b = 4 by
   unfold mgE
   have h1:=HEa.out.2
   have h2:=HEb.out.2
   cases hfa:findC L a <;> cases hfb:findC L b <;> simp [hfa,hfb] at h1 h2 ⊢)
  have hst:=okPl.stR_box plz zPlW
  obtain ⟨p1,p2,p3⟩:=Cod.put_fr plz zPlW
  go_wp2_with fail
  refine bodyPost_ret (ret_row_tmp okPl rfl _ _ (P + 2) _ (by rfl) p3) rfl ?_
  refine ⟨zPlW,by rw [HM4.out];rfl,g2.step1 p1 (by have:=HP.out;omega),fun _=>rfl,fun h=>by rw [HM4.out] at h;cases h⟩
 | true =>
  cases bb with
  | false =>
   have HM4:=Lib.hid (show mgE L a b = 4 by
    unfold mgE
    have h1:=HEa.out.2
    have h2:=HEb.out.2
    cases hfa:findC L a <;> cases hfb:findC L b <;> simp [hfa,hfb] at h1 h2 ⊢)
   have hst:=okPl.stR_box plz zPlW
   obtain ⟨p1,p2,p3⟩:=Cod.put_fr plz zPlW
   go_wp2_with fail
   refine bodyPost_ret (ret_row_tmp okPl rfl _ _ (P + 2) _ (by rfl) p3) rfl ?_
   refine ⟨zPlW,by rw [HM4.out];rfl,g2.step1 p1 (by have:=HP.out;omega),fun _=>rfl,fun h=>by rw [HM4.out] at h;cases h⟩
  | true =>
   clear plz
   have HTS:=Lib.hid (show (ra.Time = ca.Time ∧ 1 ≤ ca.Time ∧ ca.Time ≤ 1099511627776 ∧ findC L a = some ca) ∧ (rb.Time = cb.Time ∧ 1 ≤ cb.Time ∧ cb.Time ≤ 1099511627776 ∧ findC L b = some cb) by
    have h1:=HEa.out
    have h2:=HEb.out
    cases hfa:findC L a with
    | none=>rw [hfa] at h1;exact absurd h1.2 (by simp)
    | some x =>
     cases hfb:findC L b with
     | none=>rw [hfb] at h2;exact absurd h2.2 (by simp)
     | some y =>
      rw [hfa] at h1
      rw [hfb] at h2
      obtain rfl:ca = x:=h1.1
      obtain rfl:cb = y:=h2.1
      exact ⟨⟨HTa.out.symm,(HK.out.times hfa).1,(HK.out.times hfa).2,rfl⟩,⟨HTb.out.symm,(HK.out.times hfb).1,(HK.out.times hfb).2,rfl⟩⟩)
   go_upto_region 5 with fail
   have hk:∀ w' w'':World,Fr noB w' w'' → (w'.cell? ⟨H,0,none⟩ = some (.pointer (some ⟨D,0,none⟩)) ∧ rdI w' P 0 = some a ∧ rdI w' (P + 1) 0 = some b) → (w''.cell? ⟨H,0,none⟩ = some (.pointer (some ⟨D,0,none⟩)) ∧ rdI w'' P 0 = some a ∧ rdI w'' (P + 1) 0 = some b):=fun w' w'' f h=>⟨cell_fr0 h.1 f,rdI_fr h.2.1 (rdI_lt h.2.1) f (by simp [noB]),rdI_fr h.2.2 (rdI_lt h.2.2) f (by simp [noB])⟩
   have fd:Fr noB W2 W2.drew:=(Fr.refl noB W2).drew
   have hF0:=hk _ _ fd ⟨q2.c0,q2.qa,q2.qb⟩
   refine wp_region_M 7 8 [⟨2199023255552,1,0⟩,⟨4398046511104,2199023255552,1⟩,⟨8796093022208,4398046511104,2⟩,⟨17592186044416,8796093022208,4⟩,⟨35184372088832,16,0⟩,⟨70368744177664,32,0⟩,⟨140737488355328,123145302310912,56⟩,⟨1099511627776,140737488355328,64⟩] [(true,0),(true,1),(true,2),(true,3),(true,4),(true,5),(false,6)] (fun w'=>w'.cell? ⟨H,0,none⟩ = some (.pointer (some ⟨D,0,none⟩)) ∧ rdI w' P 0 = some a ∧ rdI w' (P + 1) 0 = some b) (by kernel_rfl) rfl (by kernel_rfl) (by kernel_rfl) (by kernel_rfl) hF0 (fun hA hF=>?_)
   iterate 6
    refine wpAnyS_take (v:=?_) hA rfl (fun _ _ _ h=>h) (Or.inl ⟨by rfl,?_⟩) hF (fun hA=>?_)
    rotate_left
    ·intro wS hSw;(try dsimp only at hSw);obtain ⟨s1,s2,s3⟩:=hSw;first | (apply Eq.trans;apply ex_ld_id;exact rfl;exact rfl;assumption;with_reducible rfl) | (apply Eq.trans;apply ex_ldO_at;exact rfl;exact rfl;assumption;with_reducible rfl) | (apply Eq.trans;apply ex_ldS_at;exact rfl;exact rfl;assumption;with_reducible rfl) | (apply Eq.trans;apply ex_bldFR_at;exact rfl;exact rfl;exact rfl;with_reducible rfl) | (apply Eq.trans;apply ex_bldBT_at;exact rfl;exact rfl;exact rfl;with_reducible rfl) | (go_simp;try with_reducible rfl)
    try simp only [sA1,sA2,sA3,Act.put,sA4,sA5,sA6]
   refine wpAnyS_one hA rfl (fun K' hK=>?_)
   go_simp
   go_at_call 27
   refine (CRe.out _ (g2.step0 fd) a b).mono ?_
   rintro e w3 ⟨rfl,f3⟩
   replace hF:=hk _ _ f3 hF
   refine hK.out _ _ hF (fun hA=>?_)
   clear hK K'
   as_aux_lemma =>
   refine wpAnyS_end hA rfl ?_
   simp only [List.drop_succ_cons,List.drop_zero]
   clear hF hk hF0
   have q3:=q2.fr0 (fd.step0 f3)
   have g3:=g2.step0 (fd.step0 f3)
   have ta:=(cgAt (Cod.bxd_rd (Cod.bxd_fr0 bNa2 (fd.step0 f3)))).time
   have tb:=(cgAt (Cod.bxd_rd (Cod.bxd_fr0 bNb (fd.step0 f3)))).time
   clear q2 g2 bNa2 bNb fd f3
   cases hab:ancG (dgH L) a b with
   | true =>
    have HM0:=Lib.hid (show mgE L a b = 0 by
     unfold mgE
     rw [HTS.out.1.2.2.2,HTS.out.2.2.2.2]
     simp [hab])
    have HAB:=Lib.hid hab
    clear hab ta tb
    go_upto_region 6 with fail
    have hk:∀ w' w'':World,Fr noB w' w'' → rdI w' (P) 0 = some a → rdI w'' (P) 0 = some a:=fun w' w'' f h=>rdI_fr h (rdI_lt h) f (by simp [noB])
    have fd:Fr noB w3 w3.drew:=(Fr.refl noB w3).drew
    have hF0:=hk _ _ fd q3.qa
    refine wp_region_M 6 8 [⟨281474976710656,16,0⟩,⟨562949953421312,1,0⟩,⟨1125899906842624,16,0⟩,⟨2251799813685248,1125899906842624,4⟩,⟨4503599627370496,2814749767106560,10⟩,⟨9007199254740992,4785074604081152,17⟩,⟨0,9007199254741056,63⟩,⟨128,0,127⟩] [(true,0),(true,1),(true,2),(false,3),(false,4),(true,5)] (fun w'=>rdI w' (P) 0 = some a) (by kernel_rfl) rfl (by kernel_rfl) (by kernel_rfl) (by kernel_rfl) hF0 (fun hA hF=>?_)
    iterate 3
     refine wpAnyS_take (v:=?_) hA rfl (fun _ _ _ h=>h) (Or.inl ⟨by rfl,?_⟩) hF (fun hA=>?_)
     rotate_left
     ·intro wS hSw;(try dsimp only at hSw);obtain s1:=hSw;first | (apply Eq.trans;apply ex_ld_id;exact rfl;exact rfl;assumption;with_reducible rfl) | (apply Eq.trans;apply ex_ldO_at;exact rfl;exact rfl;assumption;with_reducible rfl) | (apply Eq.trans;apply ex_ldS_at;exact rfl;exact rfl;assumption;with_reducible rfl) | (apply Eq.trans;apply ex_bldFR_at;exact rfl;exact rfl;exact rfl;with_reducible rfl) | (apply Eq.trans;apply ex_bldBT_at;exact rfl;exact rfl;exact rfl;with_reducible rfl) | (go_simp;try with_reducible rfl)
     try simp only [sA1,sA2,sA3,Act.put,sA4,sA5,sA6]
    refine wpAnyS_one hA rfl (fun K' hK=>?_)
    refine step_runI rfl _ _ (ex_bs1_at (x:=a) rfl rfl) ?_
    have fn:Fr noB w3.drew (w3.drew.alloc (rowo [a])):=(Fr.refl noB _).alloc _
    have CRx:=Lib.hid (CR.out _ (g3.step0 (fd.step0 fn)) _ 1 a (sl_new w3.drew [a]))
    replace hF:=hk _ _ fn hF
    refine hK.out _ _ hF (fun hA=>?_)
    clear hK K'
    as_aux_lemma =>
    refine wpAnyS_one hA rfl (fun K' hK=>?_)
    go_simp
    go_at_call 20
    refine CRx.out.mono ?_
    rintro e w6 hr6
    obtain ⟨A6,n6,c6,l6,rfl,p6,b6,r6,f6⟩:=hr6.u
    replace hF:=hk _ _ f6 hF
    refine hK.out _ _ hF (fun hA=>?_)
    clear hK K'
    as_aux_lemma =>
    refine wpAnyS_take (v:=?_) hA rfl (fun _ _ _ h=>h) (Or.inl ⟨by rfl,?_⟩) hF (fun hA=>?_)
    rotate_left
    ·intro wS hSw;(try dsimp only at hSw);obtain s1:=hSw;first | (apply Eq.trans;apply ex_ld_id;exact rfl;exact rfl;assumption;with_reducible rfl) | (apply Eq.trans;apply ex_ldO_at;exact rfl;exact rfl;assumption;with_reducible rfl) | (apply Eq.trans;apply ex_ldS_at;exact rfl;exact rfl;assumption;with_reducible rfl) | (apply Eq.trans;apply ex_bldFR_at;exact rfl;exact rfl;exact rfl;with_reducible rfl) | (apply Eq.trans;apply ex_bldBT_at;exact rfl;exact rfl;exact rfl;with_reducible rfl) | (go_simp;try with_reducible rfl)
    try simp only [sA1,sA2,sA3,Act.put,sA4,sA5,sA6]
    refine wpAnyS_end hA rfl ?_
    simp only [List.drop_succ_cons,List.drop_zero]
    have ff:=(fd.step0 fn).step0 f6
    have pl6:=Cod.bxd_fr0 q3.pl ff
    have hst:=okPl.stR_box pl6 { zPlW with F:=a,RA:=A6,rn:=n6,rc:=c6 }
    obtain ⟨p1,p2,p3⟩:=Cod.put_fr pl6 { zPlW with F:=a,RA:=A6,rn:=n6,rc:=c6 }
    clear hF hk hF0 fd fn f6 hr6
    go_wp2_with fail
    refine bodyPost_ret (ret_row_tmp okPl rfl _ _ (P + 2) _ (by rfl) p3) rfl ?_
    refine ⟨_,by rw [HM0.out];rfl,(g3.step0 ff).step1 p1 (by have:=HP.out;omega),fun h=>absurd HM0.out h,fun _=>⟨[],l6,⟨fun _=>⟨rfl,rfl,p6,rfl,rfl⟩,fun h=>(by rw [HAB.out] at h;cases h),fun h=>(by rw [HAB.out] at h;cases h)⟩,rfl,Sl.nil _ _,by simp,b6,(r6.pl pl6 p1).s⟩⟩
   | false =>
    have HAB:=Lib.hid hab
    clear hab
    go_upto_region 7 with fail
    have hk:∀ w' w'':World,Fr noB w' w'' → (w'.cell? ⟨H,0,none⟩ = some (.pointer (some ⟨D,0,none⟩)) ∧ rdI w' P 0 = some a ∧ rdI w' (P + 1) 0 = some b) → (w''.cell? ⟨H,0,none⟩ = some (.pointer (some ⟨D,0,none⟩)) ∧ rdI w'' P 0 = some a ∧ rdI w'' (P + 1) 0 = some b):=fun w' w'' f h=>⟨cell_fr0 h.1 f,rdI_fr h.2.1 (rdI_lt h.2.1) f (by simp [noB]),rdI_fr h.2.2 (rdI_lt h.2.2) f (by simp [noB])⟩
    have fd:Fr noB w3 w3.drew:=(Fr.refl noB w3).drew
    have hF0:=hk _ _ fd ⟨q3.c0,q3.qa,q3.qb⟩
    refine wp_region_M 7 8 [⟨36028797018963968,1,0⟩,⟨72057594037927936,36028797018963968,1⟩,⟨144115188075855872,72057594037927936,2⟩,⟨288230376151711744,144115188075855872,4⟩,⟨576460752303423488,32,0⟩,⟨1152921504606846976,16,0⟩,⟨2305843009213693952,2017612633061982208,56⟩,⟨18014398509481984,2305843009213693952,64⟩] [(true,0),(true,1),(true,2),(true,3),(true,4),(true,5),(false,6)] (fun w'=>w'.cell? ⟨H,0,none⟩ = some (.pointer (some ⟨D,0,none⟩)) ∧ rdI w' P 0 = some a ∧ rdI w' (P + 1) 0 = some b) (by kernel_rfl) rfl (by kernel_rfl) (by kernel_rfl) (by kernel_rfl) hF0 (fun hA hF=>?_)
    iterate 6
     refine wpAnyS_take (v:=?_) hA rfl (fun _ _ _ h=>h) (Or.inl ⟨by rfl,?_⟩) hF (fun hA=>?_)
     rotate_left
     ·intro wS hSw;(try dsimp only at hSw);obtain ⟨s1,s2,s3⟩:=hSw;first | (apply Eq.trans;apply ex_ld_id;exact rfl;exact rfl;assumption;with_reducible rfl) | (apply Eq.trans;apply ex_ldO_at;exact rfl;exact rfl;assumption;with_reducible rfl) | (apply Eq.trans;apply ex_ldS_at;exact rfl;exact rfl;assumption;with_reducible rfl) | (apply Eq.trans;apply ex_bldFR_at;exact rfl;exact rfl;exact rfl;with_reducible rfl) | (apply Eq.trans;apply ex_bldBT_at;exact rfl;exact rfl;exact rfl;with_reducible rfl) | (go_simp;try with_reducible rfl)
     try simp only [sA1,sA2,sA3,Act.put,sA4,sA5,sA6]
    refine wpAnyS_one hA rfl (fun K' hK=>?_)
    go_simp
    go_at_call 27
    refine (CRe.out _ (g3.step0 fd) b a).mono ?_
    rintro e w4 ⟨rfl,f3⟩
    replace hF:=hk _ _ f3 hF
    refine hK.out _ _ hF (fun hA=>?_)
    clear hK K'
    as_aux_lemma =>
    refine wpAnyS_end hA rfl ?_
    simp only [List.drop_succ_cons,List.drop_zero]
    clear hF hk hF0
    have q4:=q3.fr0 (fd.step0 f3)
    have g4:=g3.step0 (fd.step0 f3)
    have ta4:=cell_fr0 ta (fd.step0 f3)
    have tb4:=cell_fr0 tb (fd.step0 f3)
    clear q3 g3 ta tb fd f3
    cases hba:ancG (dgH L) b a with
    | true =>
     have HM0:=Lib.hid (show mgE L a b = 0 by
      unfold mgE
      rw [HTS.out.1.2.2.2,HTS.out.2.2.2.2]
      simp [HAB.out,hba])
     have HBA:=Lib.hid hba
     clear hba ta4 tb4
     go_upto_region 8 with fail
     have hk:∀ w' w'':World,Fr noB w' w'' → rdI w' ((P + 1)) 0 = some b → rdI w'' ((P + 1)) 0 = some b:=fun w' w'' f h=>rdI_fr h (rdI_lt h) f (by simp [noB])
     have fd:Fr noB w4 w4.drew:=(Fr.refl noB w4).drew
     have hF0:=hk _ _ fd q4.qb
     refine wp_region_M 6 8 [⟨4611686018427387904,32,0⟩,⟨9223372036854775808,1,0⟩,⟨18446744073709551616,32,0⟩,⟨36893488147419103232,18446744073709551616,4⟩,⟨73786976294838206464,46116860184273879040,10⟩,⟨147573952589676412928,78398662313265594368,17⟩,⟨0,147573952589676412992,63⟩,⟨128,0,127⟩] [(true,0),(true,1),(true,2),(false,3),(false,4),(true,5)] (fun w'=>rdI w' ((P + 1)) 0 = some b) (by kernel_rfl) rfl (by kernel_rfl) (by kernel_rfl) (by kernel_rfl) hF0 (fun hA hF=>?_)
     iterate 3
      refine wpAnyS_take (v:=?_) hA rfl (fun _ _ _ h=>h) (Or.inl ⟨by rfl,?_⟩) hF (fun hA=>?_)
      rotate_left
      ·intro wS hSw;(try dsimp only at hSw);obtain s1:=hSw;first | (apply Eq.trans;apply ex_ld_id;exact rfl;exact rfl;assumption;with_reducible rfl) | (apply Eq.trans;apply ex_ldO_at;exact rfl;exact rfl;assumption;with_reducible rfl) | (apply Eq.trans;apply ex_ldS_at;exact rfl;exact rfl;assumption;with_reducible rfl) | (apply Eq.trans;apply ex_bldFR_at;exact rfl;exact rfl;exact rfl;with_reducible rfl) | (apply Eq.trans;apply ex_bldBT_at;exact rfl;exact rfl;exact rfl;with_reducible rfl) | (go_simp;try with_reducible rfl)
      try simp only [sA1,sA2,sA3,Act.put,sA4,sA5,sA6]
     refine wpAnyS_one hA rfl (fun K' hK=>?_)
     refine step_runI rfl _ _ (ex_bs1_at (x:=b) rfl rfl) ?_
     have fn:Fr noB w4.drew (w4.drew.alloc (rowo [b])):=(Fr.refl noB _).alloc _
     have CRx:=Lib.hid (CR.out _ (g4.step0 (fd.step0 fn)) _ 1 b (sl_new w4.drew [b]))
     replace hF:=hk _ _ fn hF
     refine hK.out _ _ hF (fun hA=>?_)
     clear hK K'
     as_aux_lemma =>
     refine wpAnyS_one hA rfl (fun K' hK=>?_)
     go_simp
     go_at_call 20
     refine CRx.out.mono ?_
     rintro e w6 hr6
     obtain ⟨A6,n6,c6,l6,rfl,p6,b6,r6,f6⟩:=hr6.u
     replace hF:=hk _ _ f6 hF
     refine hK.out _ _ hF (fun hA=>?_)
     clear hK K'
     as_aux_lemma =>
     refine wpAnyS_take (v:=?_) hA rfl (fun _ _ _ h=>h) (Or.inl ⟨by rfl,?_⟩) hF (fun hA=>?_)
     rotate_left
     ·intro wS hSw;(try dsimp only at hSw);obtain s1:=hSw;first | (apply Eq.trans;apply ex_ld_id;exact rfl;exact rfl;assumption;with_reducible rfl) | (apply Eq.trans;apply ex_ldO_at;exact rfl;exact rfl;assumption;with_reducible rfl) | (apply Eq.trans;apply ex_ldS_at;exact rfl;exact rfl;assumption;with_reducible rfl) | (apply Eq.trans;apply ex_bldFR_at;exact rfl;exact rfl;exact rfl;with_reducible rfl) | (apply Eq.trans;apply ex_bldBT_at;exact rfl;exact rfl;exact rfl;with_reducible rfl) | (go_simp;try with_reducible rfl)
     try simp only [sA1,sA2,sA3,Act.put,sA4,sA5,sA6]
     refine wpAnyS_end hA rfl ?_
     simp only [List.drop_succ_cons,List.drop_zero]
     have ff:=(fd.step0 fn).step0 f6
     have pl6:=Cod.bxd_fr0 q4.pl ff
     have hst:=okPl.stR_box pl6 { zPlW with F:=b,RA:=A6,rn:=n6,rc:=c6 }
     obtain ⟨p1,p2,p3⟩:=Cod.put_fr pl6 { zPlW with F:=b,RA:=A6,rn:=n6,rc:=c6 }
     clear hF hk hF0 fd fn f6 hr6
     go_wp2_with fail
     refine bodyPost_ret (ret_row_tmp okPl rfl _ _ (P + 2) _ (by rfl) p3) rfl ?_
     refine ⟨_,by rw [HM0.out];rfl,(g4.step0 ff).step1 p1 (by have:=HP.out;omega),fun h=>absurd HM0.out h,fun _=>⟨[],l6,⟨fun h=>(by rw [HAB.out] at h;cases h),fun _ _=>⟨rfl,rfl,p6,rfl,rfl⟩,fun _ h=>(by rw [HBA.out] at h;cases h)⟩,rfl,Sl.nil _ _,by simp,b6,(r6.pl pl6 p1).s⟩⟩
    | false =>
     have HBA:=Lib.hid hba
     clear hba
     have HM:=Lib.hid (show mgE L a b = if max ca.Time cb.Time + 1 > 1099511627776 then 1 else 0 by
      unfold mgE
      rw [HTS.out.1.2.2.2,HTS.out.2.2.2.2]
      simp [HAB.out,HBA.out])
     rw [HTS.out.1.1] at ta4
     rw [HTS.out.2.1] at tb4
     go_upto_region 9 with fail
     have hk:∀ w' w'':World,Fr noB w' w'' → (w'.cell? ⟨H,0,none⟩ = some (.pointer (some ⟨D,0,none⟩)) ∧ rdI w' P 0 = some a ∧ rdI w' (P + 1) 0 = some b ∧ w'.cell? ⟨Na,0 + 1,none⟩ = some (.int .i64 ca.Time) ∧ w'.cell? ⟨Nb,0 + 1,none⟩ = some (.int .i64 cb.Time)) → (w''.cell? ⟨H,0,none⟩ = some (.pointer (some ⟨D,0,none⟩)) ∧ rdI w'' P 0 = some a ∧ rdI w'' (P + 1) 0 = some b ∧ w''.cell? ⟨Na,0 + 1,none⟩ = some (.int .i64 ca.Time) ∧ w''.cell? ⟨Nb,0 + 1,none⟩ = some (.int .i64 cb.Time)):=fun w' w'' f h=>⟨cell_fr0 h.1 f,rdI_fr h.2.1 (rdI_lt h.2.1) f (by simp [noB]),rdI_fr h.2.2.1 (rdI_lt h.2.2.1) f (by simp [noB]),cell_fr0 h.2.2.2.1 f,cell_fr0 h.2.2.2.2 f⟩
     have fd:Fr noB w4 w4.drew:=(Fr.refl noB w4).drew
     have hF0:=hk _ _ fd ⟨q4.c0,q4.qa,q4.qb,ta4,tb4⟩
     obtain ⟨T,hT⟩:∃ T,T = max ca.Time cb.Time + 1:=⟨_,rfl⟩
     have wt:IntKind.i64.wrap (max ca.Time cb.Time + 1) = T:=by rw [IntKind.wrap_i64];have:=HTS.out;omega
     have HT:=Lib.hid hT
     clear hT
     refine wp_region_T 15 16 [⟨295147905179352825856,1,0⟩,⟨590295810358705651712,295147905179352825856,1⟩,⟨1180591620717411303424,590295810358705651712,2⟩,⟨2361183241434822606848,1180591620717411303424,4⟩,⟨4722366482869645213696,16,0⟩,⟨9444732965739290427392,32,0⟩,⟨18889465931478580854784,16528282690043758247936,56⟩,⟨37778931862957161709568,256,0⟩,⟨75557863725914323419136,37778931862957161709568,128⟩,⟨151115727451828646838272,1024,0⟩,⟨302231454903657293676544,151115727451828646838272,512⟩,⟨604462909807314587353088,377789318629571617095680,1280⟩,⟨1208925819614629174706176,604462909807314587353088,2048⟩,⟨2417851639229258349412352,1227815285546107755560960,4160⟩,⟨4096,0,0⟩,⟨0,2417851639229258349416448,32767⟩] (.take 0 (.take 1 (.take 2 (.take 3 (.take 4 (.take 5 (.take 7 (.take 8 (.take 9 (.take 10 (.take 11 (.take 12 (.two 6 14 (.take 13 (.one 14 .done)) (.one 6 (.take 13 .done))))))))))))))) (fun w'=>w'.cell? ⟨H,0,none⟩ = some (.pointer (some ⟨D,0,none⟩)) ∧ rdI w' P 0 = some a ∧ rdI w' (P + 1) 0 = some b ∧ w'.cell? ⟨Na,0 + 1,none⟩ = some (.int .i64 ca.Time) ∧ w'.cell? ⟨Nb,0 + 1,none⟩ = some (.int .i64 cb.Time)) (by kernel_rfl) rfl (by kernel_rfl) (by kernel_rfl) (by kernel_rfl) hF0 (fun hA hF=>?_)
     iterate 12
      refine wpAnyT_take (v:=?_) hA rfl (fun _ _ _ h=>h) (Or.inl ⟨by rfl,?_⟩) hF (fun hA=>?_)
      rotate_left
      ·intro wS hSw;(try dsimp only at hSw);obtain ⟨s1,s2,s3,s4,s5⟩:=hSw;first | (apply Eq.trans;apply ex_ld_id;exact rfl;exact rfl;assumption;with_reducible rfl) | (apply Eq.trans;apply ex_ldO_at;exact rfl;exact rfl;assumption;with_reducible rfl) | (apply Eq.trans;apply ex_ldS_at;exact rfl;exact rfl;assumption;with_reducible rfl) | (apply Eq.trans;apply ex_bldFR_at;exact rfl;exact rfl;exact rfl;with_reducible rfl) | (apply Eq.trans;apply ex_bldBT_at;exact rfl;exact rfl;exact rfl;with_reducible rfl) | (go_simp;try with_reducible rfl)
      try simp only [sA1,sA2,sA3,Act.put,sA4,sA5,sA6]
     apply lift_T1 (F:=fun q A n c u=>codPl.bxd u q = some zPlW ∧ w4.heap.size ≤ q ∧ ∃ l:List ID,l.length = n ∧ u.ownsRow 0 24 32 (.slice A n c) n (idc l) ∧ Rise cmpI l ∧ (∀ y,y ∈ l ↔ BaseOf (dgH L) a b y) ∧ l.length ≤ 1000000000 ∧ Fr noB w4 u)
     ·intro cont
      refine wpAnyT_two (i:=6) (j:=14) hA rfl rfl (fun K' hK=>?_) (fun K' hK=>?_)
      ·rw [if_pos (by rfl)]
       go_simp
       go_at_call 51
       refine (CB.out _ (g4.step0 fd)).mono ?_
       rintro e u1 ⟨l,⟨A1,c1,rfl,o1,f1⟩,hr,hm,hb⟩
       replace hF:=hk _ _ f1 hF
       refine hK.out _ _ hF (fun hA=>?_)
       clear hK K'
       try simp only [sA1,sA2,sA3,Act.put,sA4,sA5,sA6]
       refine wpAnyT_take (v:=?_) hA rfl (fun _ _ _ h=>h) (Or.inl ⟨by rfl,?_⟩) hF (fun hA=>?_)
       rotate_left
       ·intro wS hSw;(try dsimp only at hSw);obtain ⟨s1,s2,s3,s4,s5⟩:=hSw;first | (apply Eq.trans;apply ex_ld_id;exact rfl;exact rfl;assumption;with_reducible rfl) | (apply Eq.trans;apply ex_ldO_at;exact rfl;exact rfl;assumption;with_reducible rfl) | (apply Eq.trans;apply ex_ldS_at;exact rfl;exact rfl;assumption;with_reducible rfl) | (apply Eq.trans;apply ex_bldFR_at;exact rfl;exact rfl;exact rfl;with_reducible rfl) | (apply Eq.trans;apply ex_bldBT_at;exact rfl;exact rfl;exact rfl;with_reducible rfl) | (go_simp;try with_reducible rfl)
       try simp only [sA1,sA2,sA3,Act.put,sA4,sA5,sA6]
       refine wpAnyT_one hA rfl (fun K' hK=>?_)
       refine step_runI rfl _ _ (okPl.alOp _ _ rfl _) ?_
       have fx:Fr noB u1 (u1.alloc (codPl.o codPl.z)):=(Fr.refl noB _).alloc _
       replace hF:=hk _ _ fx hF
       refine hK.out _ _ hF (fun hA=>?_)
       clear hK K'
       try simp only [sA1,sA2,sA3,Act.put,sA4,sA5,sA6]
       have bx:codPl.bxd (u1.alloc (codPl.o codPl.z)) u1.heap.size = some zPlW:=Cod.bxd_new (C:=codPl) u1 zPlW
       have o2:=own_base (own_new0 o1 fx) (Nat.zero_le _)
       have ff:=(fd.step0 f1).step0 fx
       have hq:=(fd.step0 f1).size
       generalize u1.alloc (codPl.o codPl.z) = u2 at bx o2 ff hF ⊢
       generalize u1.heap.size = q at bx hq ⊢
       generalize en:l.length = n at o2 ⊢
       exact cont q A1 n c1 _ u2 ⟨bx,hq,l,en,o2,hr,hm,hb,ff⟩ hA
      ·rw [if_pos (by rfl)]
       refine step_runP _ _ (okPl.alOp _ _ rfl _) ?_
       have fx:Fr noB w4.drew (w4.drew.alloc (codPl.o codPl.z)):=(Fr.refl noB _).alloc _
       replace hF:=hk _ _ fx hF
       refine hK.out _ _ hF (fun hA=>?_)
       clear hK K'
       try simp only [sA1,sA2,sA3,Act.put,sA4,sA5,sA6]
       have bx:codPl.bxd (w4.drew.alloc (codPl.o codPl.z)) w4.drew.heap.size = some zPlW:=Cod.bxd_new (C:=codPl) w4.drew zPlW
       have hq:=fd.size
       have fe:=fd.step0 fx
       generalize w4.drew.alloc (codPl.o codPl.z) = u0 at bx fe hF ⊢
       generalize w4.drew.heap.size = q at bx hq ⊢
       refine wpAnyT_one hA rfl (fun K' hK=>?_)
       go_simp
       go_at_call 51
       refine (CB.out _ (g4.step0 fe)).mono ?_
       rintro e u1 ⟨l,⟨A1,c1,rfl,o1,f1⟩,hr,hm,hb⟩
       replace hF:=hk _ _ f1 hF
       refine hK.out _ _ hF (fun hA=>?_)
       clear hK K'
       try simp only [sA1,sA2,sA3,Act.put,sA4,sA5,sA6]
       refine wpAnyT_take (v:=?_) hA rfl (fun _ _ _ h=>h) (Or.inl ⟨by rfl,?_⟩) hF (fun hA=>?_)
       rotate_left
       ·intro wS hSw;(try dsimp only at hSw);obtain ⟨s1,s2,s3,s4,s5⟩:=hSw;first | (apply Eq.trans;apply ex_ld_id;exact rfl;exact rfl;assumption;with_reducible rfl) | (apply Eq.trans;apply ex_ldO_at;exact rfl;exact rfl;assumption;with_reducible rfl) | (apply Eq.trans;apply ex_ldS_at;exact rfl;exact rfl;assumption;with_reducible rfl) | (apply Eq.trans;apply ex_bldFR_at;exact rfl;exact rfl;exact rfl;with_reducible rfl) | (apply Eq.trans;apply ex_bldBT_at;exact rfl;exact rfl;exact rfl;with_reducible rfl) | (go_simp;try with_reducible rfl)
       try simp only [sA1,sA2,sA3,Act.put,sA4,sA5,sA6]
       have bx2:=Cod.bxd_fr0 bx f1
       have o2:=own_base o1 (Nat.zero_le _)
       have ff:=fe.step0 f1
       generalize en:l.length = n at o2 ⊢
       exact cont q A1 n c1 _ u1 ⟨bx2,hq,l,en,o2,hr,hm,hb,ff⟩ hA
     clear hA hF hF0 hk fd wt ta4 tb4
     rintro q A1 n1 c1 L1 u ⟨bx,hq,l,rfl,o1,hr,hm,hb,ff⟩ hA
     refine wpAnyT_end hA rfl ?_
     simp only [List.drop_succ_cons,List.drop_zero]
     have f9:=g4.step0 ff
     have q9:=q4.fr0 ff
     have hPq:P + 2 ≠ q:=by have:=Cod.bxd_lt q4.pl;omega
     have hwq:w.heap.size ≤ q:=Nat.le_trans g4.size hq
     have hst:=okPl.stR_box bx { zPlW with BA:=A1,bn:=l.length,bc:=c1,Time:=T }
     obtain ⟨p1,p2,p3⟩:=Cod.put_fr bx { zPlW with BA:=A1,bn:=l.length,bc:=c1,Time:=T }
     have o10:=own_box (Cod.bxd_blk bx) o1 (by decide) p1
     have F10:=f9.step1 p1 hwq
     have qa10:=rdI_fr q9.qa (rdI_lt q9.qa) p1 (by have:=rdI_lt q4.qa;show ¬ P = q;omega)
     have qb10:=rdI_fr q9.qb (rdI_lt q9.qb) p1 (by have:=rdI_lt q4.qb;show ¬ P + 1 = q;omega)
     have pl10:=Cod.bxd_fr q9.pl p1 hPq
     have u10:=(plAt (Cod.bxd_rd p3)).time
     have HBS:=Lib.hid (And.intro hr (And.intro hm hb))
     have HPQ:=Lib.hid (And.intro hPq hwq)
     clear ff f9 q9 g4 q4 o1 p1 p2 hr hm hb hq hPq hwq CB CRe CR HA
     go_upto_region 10 with fail
     clear hst bx
     generalize codPl.put u q { zPlW with BA:=A1,bn:=l.length,bc:=c1,Time:=T } = W10 at p3 o10 F10 qa10 qb10 pl10 u10 ⊢
     by_cases ht:1099511627776 < T
     ·have HM1:=Lib.hid (show mgE L a b = 1 by rw [HM.out,← HT.out,if_pos ht])
      have hst:=okPl.stR_box pl10 zPlW
      obtain ⟨p1,p2,p4⟩:=Cod.put_fr pl10 zPlW
      go_wp2_with fail
      refine bodyPost_ret (ret_row_tmp okPl rfl _ _ (P + 2) _ (by rfl) p4) rfl ?_
      refine ⟨zPlW,by rw [HM1.out];rfl,F10.step1 p1 (by have:=HP.out;omega),fun _=>rfl,fun h=>by rw [HM1.out] at h;cases h⟩
     ·have HM0:=Lib.hid (show mgE L a b = 0 by rw [HM.out,← HT.out,if_neg ht])
      go_upto_region 13 with (go_at_call 17;refine (CO.out _ (F10.step0 ((Fr.refl noB _).alloc _)) _ _ 2 [a,b] rfl (sl_new W10 [a,b]) (by simp)).mono ?_;rintro e w12 ⟨Aa,cAa,rsa2,all,rfl,pa,bla,sa,aa,f12⟩)
      have ff:=((Fr.refl noB W10).alloc (rowo [a,b])).step0 f12
      have F12:=F10.step0 ff
      have p12:=Cod.bxd_fr0 p3 ff
      have o12:=own_new0 o10 ff
      have pl12:=Cod.bxd_fr0 pl10 ff
      clear f12 F10 ff p3 o10 pl10 qa10 qb10 u10
      have u32:=(plAt (Cod.bxd_rd p12)).base
      have CO2:=Lib.hid (CO.out _ F12 A1 c1 _ l rfl (Sl.own o12) HBS.out.2.2)
      have HSA:=Lib.hid sa
      have HAA:=Lib.hid aa
      have HPA:=Lib.hid pa
      have HBL:=Lib.hid bla
      clear CO sa aa pa bla
      go_upto_region 14 with (first
       | (go_at_call 17;refine CO2.out.mono ?_;rintro e w13 ⟨Ab,cAb,rsb2,bo,rfl,pb,blb,sb,ab,f13⟩;have CF:=Lib.hid (mgFast_any w13 Ab Aa cAb cAa _ _ rsb2 rsa2 bo all rfl rfl sb (HSA.out.fr0 f13) ⟨ab.1,fun i h h'=>(ab.2 i h h').op.inn⟩ ⟨HAA.out.1,fun i h h'=>(HAA.out.2 i h h').op.inn.fr f13⟩ pb.srt HPA.out.srt (pb.sub HPA.out (fun x hx=>reached_two.2 (.inl ((base_reached HK.out.ok HBS.out.2.1 x).1 hx).1))) (HPA.out.good HK.out) HBL.out blb))
       | (go_at_call 52;refine CF.out.mono ?_;rintro e w14 hf14;obtain ⟨Af,nf,cf,rfl,f14,hrw⟩:=hf14.u;have p14:=Cod.bxd_fr0 p12 (f13.step0 f14);have u14:=(plAt (Cod.bxd_rd p14)).rows;have z14:=(Cod.bxd_blk p14).frozen 33;have p15:=Cod.bxd_set p14 33 (.slice Af nf cf) _ (sePl_Rows _ _ _ _);have u15:=(plAt (Cod.bxd_rd p15)).safe;have z15:=(Cod.bxd_blk p15).frozen 34))
      obtain ⟨sv,hsv⟩:∃ sv,sv = safeO bo all:=⟨_,rfl⟩
      rw [← hsv] at hrw ⊢
      have g15:=Cod.set_fr w14 q 33 (.slice Af nf cf)
      have p16:codPl.bxd ((w14.setCell ⟨q,33,none⟩ (.slice Af nf cf)).setCell ⟨q,34,none⟩ (.bool sv)) q = some ⟨zID,A1,l.length,c1,Af,nf,cf,sv,T⟩:=Cod.bxd_set p15 34 (.bool sv) _ (sePl_Safe _ _)
      have g16:=Cod.set_fr (w14.setCell ⟨q,33,none⟩ (.slice Af nf cf)) q 34 (.bool sv)
      have f34:=f13.step0 f14
      have F16:=((F12.step0 f34).step1 g15 HPQ.out.2).step1 g16 HPQ.out.2
      have o16:=own_box (Cod.bxd_blk p15) (own_box (Cod.bxd_blk p14) (own_new0 o12 f34) (by decide) g15) (by decide) g16
      have pl16:=Cod.bxd_fr (Cod.bxd_fr (Cod.bxd_fr0 pl12 f34) g15 HPQ.out.1) g16 HPQ.out.1
      have sa16:=sl_pl (sl_pl (HSA.out.fr0 f34) p14 g15) p15 g16
      have n14:NoHS (oneB q) w14:=NoHS.blk (Cod.bxd_blk p14) (by decide) (by decide)
      have n15:NoHS (oneB q) (w14.setCell ⟨q,33,none⟩ (.slice Af nf cf)):=NoHS.blk (Cod.bxd_blk p15) (by decide) (by decide)
      have aa16:AllO OpIn ((w14.setCell ⟨q,33,none⟩ (.slice Af nf cf)).setCell ⟨q,34,none⟩ (.bool sv)) rsa2 all:=⟨HAA.out.1,fun i h h'=>((((HAA.out.2 i h h').op.fr f34 (NoHS.nob _)).fr g15 n14).fr g16 n15).inn⟩
      have hr16:sv = true → RowsW ((w14.setCell ⟨q,33,none⟩ (.slice Af nf cf)).setCell ⟨q,34,none⟩ (.bool sv)) Af nf cf all:=fun h=>((hrw h).pl p14 g15).pl p15 g16
      have us:=(plAt (Cod.bxd_rd p16)).safe
      have HPL:=Lib.hid (show PlanP L a b zID l all sv T from ⟨fun h=>(by rw [HAB.out] at h;cases h),fun _ h=>(by rw [HBA.out] at h;cases h),fun _ _=>⟨rfl,HBS.out.2.1,HBS.out.1,HPA.out,⟨bo,pb,hsv⟩,fun x y hx hy=>by
       rw [HTS.out.1.2.2.2] at hx
       rw [HTS.out.2.2.2.2] at hy
       injection hx with hx
       injection hy with hy
       rw [← hx,← hy]
       exact HT.out⟩⟩)
      clear g15 g16 f13 f14 f34 p14 p15 u14 z14 u15 z15 n14 n15 hrw hsv pb blb sb ab CF CO2 u32 HSA HAA F12 o12 pl12 p12
      simp only at us
      generalize (w14.setCell ⟨q,33,none⟩ (.slice Af nf cf)).setCell ⟨q,34,none⟩ (.bool sv) = W16 at p16 F16 o16 pl16 sa16 aa16 hr16 us ⊢
      cases sv with
      | true =>
       have ld:=Cod.bxd_rd p16
       have hst:=okPl.stR_box pl16 ⟨zID,A1,l.length,c1,Af,nf,cf,true,T⟩
       obtain ⟨p1,p2,p3⟩:=Cod.put_fr pl16 ⟨zID,A1,l.length,c1,Af,nf,cf,true,T⟩
       go_wp2_with fail
       refine bodyPost_ret (ret_row_tmp okPl rfl _ _ (P + 2) _ (by rfl) p3) rfl ?_
       exact ⟨_,by rw [HM0.out];rfl,F16.step1 p1 (by have:=HP.out;omega),fun h=>absurd HM0.out h,fun _=>⟨l,all,HPL.out,rfl,Sl.own (own_box (Cod.bxd_blk pl16) o16 (by decide) p1),HBS.out.2.2,HBL.out,((hr16 (by trivial)).pl pl16 p1).s⟩⟩
      | false =>
       have CT:=Lib.hid (mgTree_any W16 Aa cAa _ rsa2 all rfl sa16 aa16 (HPA.out.good HK.out) HPA.out.srt (by have:=HBL.out;omega))
       clear hr16 sa16 aa16
       go_upto_region 16 with (first
        | (go_at_call 48;refine CT.out.mono ?_;rintro e w17 ⟨b2,t2,rfl,g17,f17⟩)
        | (go_at_call 49;refine (gvRows_any g17 (by have:=HBL.out;omega)).mono ?_;rintro e w18 hr18;obtain ⟨A18,n18,c18,rfl,r18,f18⟩:=hr18.u;have p18:=Cod.bxd_fr0 p16 (f17.step0 f18);have u18:=(plAt (Cod.bxd_rd p18)).rows;have z18:=(Cod.bxd_blk p18).frozen 33))
       have g19:=Cod.set_fr w18 q 33 (.slice A18 n18 c18)
       have p19:codPl.bxd (w18.setCell ⟨q,33,none⟩ (.slice A18 n18 c18)) q = some ⟨zID,A1,l.length,c1,A18,n18,c18,false,T⟩:=Cod.bxd_set p18 33 (.slice A18 n18 c18) _ (sePl_Rows _ _ _ _)
       have r19:=r18.pl p18 g19
       have f78:=f17.step0 f18
       have F19:=(F16.step0 f78).step1 g19 HPQ.out.2
       have o19:=own_box (Cod.bxd_blk p18) (own_new0 o16 f78) (by decide) g19
       have pl19:=Cod.bxd_fr (Cod.bxd_fr0 pl16 f78) g19 HPQ.out.1
       clear g19 p18 u18 z18 r18 f17 f18 f78 g17 CT p16 F16 o16 pl16 us
       generalize w18.setCell ⟨q,33,none⟩ (.slice A18 n18 c18) = W19 at p19 r19 F19 o19 pl19 ⊢
       have ld:=Cod.bxd_rd p19
       have hst:=okPl.stR_box pl19 ⟨zID,A1,l.length,c1,A18,n18,c18,false,T⟩
       obtain ⟨p1,p2,p3⟩:=Cod.put_fr pl19 ⟨zID,A1,l.length,c1,A18,n18,c18,false,T⟩
       go_wp2_with fail
       refine bodyPost_ret (ret_row_tmp okPl rfl _ _ (P + 2) _ (by rfl) p3) rfl ?_
       exact ⟨_,by rw [HM0.out];rfl,F19.step1 p1 (by have:=HP.out;omega),fun h=>absurd HM0.out h,fun _=>⟨l,all,HPL.out,rfl,Sl.own (own_box (Cod.bxd_blk pl19) o19 (by decide) p1),HBS.out.2.2,HBL.out,(r19.pl pl19 p1).s⟩⟩
end Go.Proofs.YtjpieiccpbcabaaGreat
namespace Go.Proofs.YtjpieiccpbcabaaGreat
open Go.RowKit Go.Maps Go.Sort
attribute [local go_sem] Oper.semAt_some
theorem bldO_p4 (w:World) (k:Int) (a s:St) (m:List UInt8):(Instr.build 83 #[(0,.int .i64 k),(1,.agg (codS.A a)),(2,.agg (codS.A s)),(4,.string (str m))]).run Tryz.prog w = .ok (.agg (codO.A { zOpW with Kind:=k,At:=a,Node:=s,Name:=m })) w:=by
 have h1:∀ place:Nat → Option (Nat × Nat),place 0 = some (0,1) → place 1 = some (1,2) → place 2 = some (3,2) → place 4 = some (7,1) → Instr.fill place ([] ++ [Value.int .i64 0] ++ ([Value.int .i64 0,Value.int .i64 0,Value.int .i64 0,Value.int .i64 0,Value.int .i64 0,Value.int .i64 0,Value.string (str [])] ++ bv zID.1 ++ [Value.slice none 0 0])).toArray [(0,.int .i64 k),(1,.agg (codS.A a)),(2,.agg (codS.A s)),(4,.string (str m))] = some (codO.cs { zOpW with Kind:=k,At:=a,Node:=s,Name:=m }).toArray:=by
  intro place p0 p1 p2 p4
  refine (fill_one place [] [.int .i64 0] ([Value.int .i64 0,Value.int .i64 0,Value.int .i64 0,Value.int .i64 0,Value.int .i64 0,Value.int .i64 0,Value.string (str [])] ++ bv zID.1 ++ [Value.slice none 0 0]) [.int .i64 k] 0 (.int .i64 k) _ rfl (by simpa using p0) rfl).trans ?_
  have e0:=fill_one place [.int .i64 k] [.int .i64 0,.int .i64 0] ([.int .i64 0,.int .i64 0,.int .i64 0,.int .i64 0,Value.string (str [])] ++ bv zID.1 ++ [Value.slice none 0 0]) [.int .i64 a.T,.int .i64 a.R] 1 (.agg (codS.A a)) [(2,.agg (codS.A s)),(4,.string (str m))] (by rw [A_SS];rfl) (by simpa using p1) rfl
  refine Eq.trans ?_ (e0.trans ?_)
  ·simp
  have e1:=fill_one place [.int .i64 k,.int .i64 a.T,.int .i64 a.R] [.int .i64 0,.int .i64 0] ([.int .i64 0,.int .i64 0,Value.string (str [])] ++ bv zID.1 ++ [Value.slice none 0 0]) [.int .i64 s.T,.int .i64 s.R] 2 (.agg (codS.A s)) [(4,.string (str m))] (by rw [A_SS];rfl) (by simpa using p2) rfl
  refine Eq.trans ?_ (e1.trans ?_)
  ·simp
  have e3:=fill_one place [.int .i64 k,.int .i64 a.T,.int .i64 a.R,.int .i64 s.T,.int .i64 s.R,.int .i64 0,.int .i64 0] [Value.string (str [])] (bv zID.1 ++ [Value.slice none 0 0]) [.string (str m)] 4 (.string (str m)) [] rfl (by simpa using p4) rfl
  refine Eq.trans ?_ (e3.trans ?_)
  ·simp
  ·simp [Instr.fill,codO,csO,zOpW,zSt]
 have hz:(zeroValue 83).run Tryz.prog w = .ok (.agg (codO.cs codO.z).toArray) w:=okO.zero w
 simp only [Instr.build,Sem.run_bind,hz,Result.andThen_ok,run_underlying Tryz.underlying83,zO_form]
 simp only [List.mapM_toArray,List.mapM_cons,List.mapM_nil,Sem.run_bind,Tryz.sizeOf3,Tryz.sizeOf24,Tryz.sizeOf81,Tryz.sizeOf9,Tryz.sizeOf80,Result.andThen_ok,Sem.run_pure,Sem.run_map,map_pure,bind_pure_comp]
 rw [h1 _ rfl rfl rfl rfl]
 simp [Cod.A_eq]
@[simp ↓] theorem ex_bldOp4 (ρ:Operand → Value) (x0 x1 x2 x4:Operand) (d:Option Nat) (t:TypeId) (p:String) (f:Array Edge) (g:Option (Nat × Bool)) (w:World) :
  (execOp ρ { dst:=d,op:=.build 83 #[(0,x0),(1,x1),(2,x2),(4,x4)],type:=t,pos:=p,after:=f,guard:=g }).run Tryz.prog w = mkB 83 w [(0,ρ x0),(1,ρ x1),(2,ρ x2),(4,ρ x4)]:=(exB ρ _ _ _ rfl w).trans (by simp only [List.map_toArray,List.map_cons,List.map_nil])
@[simp] theorem mkB_Op4 (w:World) (k:Int) (a s:St) (m:List UInt8):mkB 83 w [(0,.int .i64 k),(1,.agg (codS.A a)),(2,.agg (codS.A s)),(4,.string (str m))] = .ok (.value (.agg (codO.A { zOpW with Kind:=k,At:=a,Node:=s,Name:=m }))) w:=mkB_ok (bldO_p4 w k a s m)
@[simp] theorem mkB_Op4a (w:World) (k:Int) (a s:St):mkB 83 w [(0,.int .i64 k),(1,.agg (codS.A a)),(2,.agg (codS.A s)),(4,.string { data:=#[97] })] = .ok (.value (.agg (codO.A { zOpW with Kind:=k,At:=a,Node:=s,Name:=[97] }))) w:=mkB_Op4 w k a s [97]
theorem bldC_p5 (w:World) (A:Option Addr) (n c:Nat) (t r:Int) (x:ID) (B:Option Addr) (m d:Nat):(Instr.build 35 #[(0,.slice A n c),(1,.int .i64 t),(2,.int .i64 r),(4,encI x),(3,.slice B m d)]).run Tryz.prog w = .ok (.agg (codC.A ⟨A,n,c,t,r,B,m,d,x,[]⟩)) w:=by
 have h1:∀ place:Nat → Option (Nat × Nat),place 0 = some (0,1) → place 1 = some (1,1) → place 2 = some (2,1) → place 4 = some (4,32) → place 3 = some (3,1) → Instr.fill place ([] ++ [Value.slice none 0 0] ++ ([Value.int .i64 0,Value.int .i64 0,Value.slice none 0 0] ++ bv zID.1 ++ [Value.string (str [])])).toArray [(0,.slice A n c),(1,.int .i64 t),(2,.int .i64 r),(4,encI x),(3,.slice B m d)] = some (codC.cs ⟨A,n,c,t,r,B,m,d,x,[]⟩).toArray:=by
  intro place p0 p1 p2 p4 p3
  refine (fill_one place [] [.slice none 0 0] ([Value.int .i64 0,Value.int .i64 0,Value.slice none 0 0] ++ bv zID.1 ++ [Value.string (str [])]) [.slice A n c] 0 (.slice A n c) _ rfl (by simpa using p0) rfl).trans ?_
  have e1:=fill_one place [.slice A n c] [.int .i64 0] ([.int .i64 0,.slice none 0 0] ++ bv zID.1 ++ [.string (str [])]) [.int .i64 t] 1 (.int .i64 t) [(2,.int .i64 r),(4,encI x),(3,.slice B m d)] rfl (by simpa using p1) rfl
  refine Eq.trans ?_ (e1.trans ?_)
  ·simp
  have e2:=fill_one place [.slice A n c,.int .i64 t] [.int .i64 0] ([.slice none 0 0] ++ bv zID.1 ++ [.string (str [])]) [.int .i64 r] 2 (.int .i64 r) [(4,encI x),(3,.slice B m d)] rfl (by simpa using p2) rfl
  refine Eq.trans ?_ (e2.trans ?_)
  ·simp
  have e4:=fill_one place [.slice A n c,.int .i64 t,.int .i64 r,.slice none 0 0] (bv zID.1) [.string (str [])] (bv x.1) 4 (encI x) [(3,.slice B m d)] (cellsI x) (by simpa [x.2] using p4) (by simp [x.2,zID])
  refine Eq.trans ?_ (e4.trans ?_)
  ·simp
  have e3:=fill_one place [.slice A n c,.int .i64 t,.int .i64 r] [.slice none 0 0] (bv x.1 ++ [.string (str [])]) [.slice B m d] 3 (.slice B m d) [] rfl (by simpa using p3) rfl
  refine Eq.trans ?_ (e3.trans ?_)
  ·simp
  ·simp [Instr.fill,codC,csC]
 have hz:(zeroValue 35).run Tryz.prog w = .ok (.agg (codC.cs codC.z).toArray) w:=okC.zero w
 have hc:(Value.agg (codC.cs codC.z).toArray).cells = ([] ++ [Value.slice none 0 0] ++ ([Value.int .i64 0,Value.int .i64 0,Value.slice none 0 0] ++ bv zID.1 ++ [Value.string (str [])])).toArray:=rfl
 have hsI:∀ w,(sizeOf 24).run Tryz.prog w = .ok 32 w:=fun w=>Tryz.sizeOf24 w
 simp only [Instr.build,Sem.run_bind,hz,Result.andThen_ok,run_underlying Tryz.underlying35,hc]
 simp only [List.mapM_toArray,List.mapM_cons,List.mapM_nil,Sem.run_bind,hsI,Tryz.sizeOf9,Tryz.sizeOf32,Tryz.sizeOf33,Tryz.sizeOf2,Tryz.sizeOf3,Result.andThen_ok,Sem.run_pure,Sem.run_map,map_pure,bind_pure_comp]
 rw [h1 _ rfl rfl rfl rfl rfl]
 simp [Cod.A_eq]
@[simp ↓] theorem ex_bldCp5 (ρ:Operand → Value) (x0 x1 x2 x4 x3:Operand) (d:Option Nat) (t:TypeId) (p:String) (f:Array Edge) (g:Option (Nat × Bool)) (w:World) :
  (execOp ρ { dst:=d,op:=.build 35 #[(0,x0),(1,x1),(2,x2),(4,x4),(3,x3)],type:=t,pos:=p,after:=f,guard:=g }).run Tryz.prog w = mkB 35 w [(0,ρ x0),(1,ρ x1),(2,ρ x2),(4,ρ x4),(3,ρ x3)]:=(exB ρ _ _ _ rfl w).trans (by simp only [List.map_toArray,List.map_cons,List.map_nil])
@[simp] theorem mkB_Cp5 (w:World) (A:Option Addr) (n c:Nat) (t r:Int) (x:ID) (B:Option Addr) (m d:Nat):mkB 35 w [(0,.slice A n c),(1,.int .i64 t),(2,.int .i64 r),(4,encI x),(3,.slice B m d)] = .ok (.value (.agg (codC.A ⟨A,n,c,t,r,B,m,d,x,[]⟩))) w:=mkB_ok (bldC_p5 w A n c t r x B m d)
def ptW (t r:Int):OpW:={ zOpW with Kind:=1,At:=⟨t,r⟩,Node:=⟨t,r⟩,Name:=[97] }
def ptO (t r:Int):Opn:=⟨1,⟨t,r⟩,⟨t,r⟩,zSt,[97],zID,[]⟩
def ptC (ps:List ID) (t r:Int):Chg:=⟨ps,t,r,[ptO t r],id2 1 0,[]⟩
theorem pt_in (w:World) (t r:Int):OpIn w (ptW t r) (ptO t r):=⟨rfl,rfl,Sl.nil _ _,by simp [ptO],by simp [ptW]⟩
def PutTo15 (w:World) (A:Option Addr) (n c:Nat) (t r:Int) (e:Ending) (w':World):Prop :=
 ∃ g,e = .returned (.agg (codC.A ⟨A,n,c,t,r,some ⟨g,0,none⟩,1,1,id2 1 0,[]⟩)) ∧ w.heap.size ≤ g ∧ g < w'.heap.size ∧ Sl w' (some ⟨g,0,none⟩) (codO.row [ptW t r]) ∧ Fr noB w w'
theorem PutTo15.q {w':World} {A:Option Addr} {n c g:Nat} {t r:Int} {ps:List ID} {Q:Nat → Prop} (hs:Sl w' (some ⟨g,0,none⟩) (codO.row [ptW t r])) (hg:Q g) (hn:ps.length = n) (hp:Sl w' A (idc ps)) (hb:ps.length ≤ 1000000000) (hq:ps ≠ [] → InQ Q A) :
  CgQ Q w' ⟨A,n,c,t,r,some ⟨g,0,none⟩,1,1,id2 1 0,[]⟩ [ptW t r] (ptC ps t r) :=
 ⟨⟨rfl,rfl,rfl,rfl,hn,hp,rfl,hs,⟨rfl,fun i h h'=>by
  have:i = 0:=by simpa using h
  subst this
  exact pt_in w' t r⟩,by show ps.length ≤ _;omega,by simp,by simp⟩,hq,fun _ g' hg'=>by
  injection hg' with hg'
  subst hg'
  exact hg,fun i h h'=>by
  have:i = 0:=by simpa using h
  subst this
  exact ⟨pt_in w' t r,fun h=>absurd rfl h⟩⟩
set_option maxRecDepth 100000 in
set_option maxHeartbeats 4000000 in
theorem l15put_any (w:World) (A:Option Addr) (n c:Nat) (t r:Int):Calls Tryz.prog 31 #[.int .i64 t,.int .i64 r,.slice A n c] w (PutTo15 w A n c t r):=by
 have f0:Fr noB w (w.alloc (codC.o zCgW)):=(Fr.refl noB w).alloc _
 have b0:=Cod.bxd_new (C:=codC) w zCgW
 go_enter Tryz.func31,Tryz.ntmps31
 go_upto_region 1 with fail
 generalize w.alloc (codC.o zCgW) = W0 at f0 b0 ⊢
 obtain ⟨R,hR⟩:∃ R,R = w.heap.size:=⟨_,rfl⟩
 rw [← hR] at b0 ⊢
 have HR:=Lib.hid hR
 clear hR
 go_upto_region 2 with fail
 have f1:Fr noB W0 (W0.alloc (codS.o ⟨t,r⟩)):=(Fr.refl noB W0).alloc _
 have q1:=Cod.rd_new' (C:=codS) W0 ⟨t,r⟩
 have b1:=Cod.bxd_fr0 b0 f1
 have F1:=f0.step0 f1
 clear f0 f1 b0
 generalize W0.alloc (codS.o ⟨t,r⟩) = W1 at q1 b1 F1 ⊢
 generalize W0.heap.size = P at q1 ⊢
 have f2:Fr noB W1 (W1.alloc (codO.ro [ptW t r])):=(Fr.refl noB W1).alloc _
 have s2:Sl (W1.alloc (codO.ro [ptW t r])) (some ⟨W1.heap.size,0,none⟩) (codO.row [ptW t r]):=Cod.sl_new (C:=codO) W1 [ptW t r]
 have b2:=Cod.bxd_fr0 b1 f2
 have hst:=okC.stR_box b2 ⟨A,n,c,t,r,some ⟨W1.heap.size,0,none⟩,1,1,id2 1 0,[]⟩
 obtain ⟨p1,p2,p3⟩:=Cod.put_fr b2 ⟨A,n,c,t,r,some ⟨W1.heap.size,0,none⟩,1,1,id2 1 0,[]⟩
 have F2:=F1.step0 f2
 have hz:(W1.alloc (codO.ro [ptW t r])).heap.size = W1.heap.size + 1:=by simp
 have HS:=Lib.hid (And.intro hz (And.intro (Cod.bxd_lt b1) F1.size))
 have HPP:=Lib.hid (And.intro p1 (And.intro p2 p3))
 clear p1 p2 p3 hz b1 f2 F1
 have hmv:{ zOpW with Kind:=1,At:=⟨t,r⟩,Node:=⟨t,r⟩,Name:=[97] } = ptW t r:=rfl
 go_wp2_with fail
 obtain ⟨p1,p2,p3⟩:=HPP.out
 refine bodyPost_ret (ret_row okC rfl _ _ R _ (by rfl) p3) rfl ?_
 obtain ⟨hz,hb,hs⟩:=HS.out
 refine ⟨_,rfl,hs,by rw [p2,hz];omega,s2.fr p1 (fun a ha h=>?_),F2.step1 p1 (by rw [HR.out];exact Nat.le_refl _)⟩
 injection ha with ha
 subst ha
 have h':W1.heap.size = R:=h
 omega
end Go.Proofs.YtjpieiccpbcabaaGreat
namespace Go.Proofs.YtjpieiccpbcabaaGreat
open Go.RowKit
theorem addH_new {L:Hst} {x:ID} {c:Chg} (h1:hasG (dgH L) x = false) (h2:x ≠ zID) (h3:rightCh c = true) (h4:timeOk L c = true) (h5:∀ p ∈ c.Parents,hasG (dgH L) p = true) (h6:∀ o ∈ c.Ops,∀ p ∈ opsH L,p.At ≠ o.At):addH L x c = (0,(x,c) :: L):=by
 unfold addH
 have e2:decide (x = zID) = false:=by simpa using h2
 have e5:(c.Parents.any fun p=>!hasG (dgH L) p) = false:=by
  rw [List.any_eq_false]
  intro p hp
  simp [h5 p hp]
 have e6:clashO (opsH L) c.Ops = false:=by
  unfold clashO
  rw [List.any_eq_false]
  intro o ho
  rw [findO_none.2 (h6 o ho)]
  simp
 rw [h1,e2,h3,h4,e5,e6]
 rfl
theorem NdH.add {L:Hst} (h:NdH L) {x:ID} {c:Chg} (h3:rightCh c = true) (h6:∀ o ∈ c.Ops,∀ p ∈ opsH L,p.At ≠ o.At):NdH ((x,c) :: L):=by
 show ((c.Ops ++ opsH L).map (·.At)).Nodup
 rw [List.map_append]
 refine List.nodup_append.2 ⟨srt_nd (rightCh_parts h3).2.2.2.2.1,h,?_⟩
 intro a ha b hb e
 obtain ⟨o,ho,rfl⟩:=List.mem_map.1 ha
 obtain ⟨p,hp,rfl⟩:=List.mem_map.1 hb
 exact h6 o ho p hp e.symm
theorem NdH.nil:NdH []:=List.nodup_nil
theorem Hs.lt {w:World} {H:Nat} {S:Nat → Prop} {L:Hst} (h:Hs w H S L) {b:Nat} (hb:S b):b < w.heap.size:=by
 obtain ⟨_,_,_,_,_,_,_,_,_,h3⟩:=h
 exact h3 b hb
/-! the document's example -/
def eA:ID:=id2 1 0
def eB:ID:=id2 2 0
def eC:ID:=id2 3 0
def L15a:Hst:=[(eA,ptC [] 1 1)]
def L15b:Hst:=(eB,ptC [eA] 2 1) :: L15a
def L15c:Hst:=(eC,ptC [eA] 2 2) :: L15b
theorem ad15a:addH [] eA (ptC [] 1 1) = (0,L15a):=addH_new rfl (by decide) (by decide +kernel) rfl (by simp [ptC]) (by simp [ptC,opsH])
theorem ad15b:addH L15a eB (ptC [eA] 2 1) = (0,L15b):=addH_new (by decide +kernel) (by decide) (by decide +kernel) (by decide +kernel) (by decide +kernel) (by decide +kernel)
theorem ad15c:addH L15b eC (ptC [eA] 2 2) = (0,L15c):=addH_new (by decide +kernel) (by decide) (by decide +kernel) (by decide +kernel) (by decide +kernel) (by decide +kernel)
theorem nd15:NdH L15c:=by
 unfold NdH
 decide +kernel
theorem okg15:okG (dgH L15c):=by
 have h:=okG_add (okG_add (okG_add (show okG [] from trivial) eA []) eB [eA]) eC [eA]
 have e:(addG (addG (addG [] eA []).2 eB [eA]).2 eC [eA]).2 = dgH L15c:=by decide +kernel
 rw [e] at h
 exact h
theorem anc15_in {x z:ID} (h:ancG (dgH L15c) x z = true):z ∈ [eA,eB,eC]:=by
 have h2:=(anc_has okg15 h).2
 rw [hasG_mem] at h2
 have e:(dgH L15c).map (·.1) = [eC,eB,eA]:=rfl
 rw [e] at h2
 simp only [List.mem_cons,List.not_mem_nil,or_false] at h2 ⊢
 rcases h2 with h | h | h <;> simp [h]
theorem base15:∀ z,BaseOf (dgH L15c) eB eC z ↔ z = eA:=by
 intro z
 constructor
 ·rintro ⟨⟨h1,h2⟩,_⟩
  have hz:=anc15_in h1
  simp only [List.mem_cons,List.not_mem_nil,or_false] at hz
  rcases hz with rfl | rfl | rfl
  ·rfl
  ·exact absurd h2 (by decide +kernel)
  ·exact absurd h1 (by decide +kernel)
 ·rintro rfl
  refine ⟨⟨by decide +kernel,by decide +kernel⟩,?_⟩
  rintro ⟨d,ps,⟨h1,h2⟩,h3,h4⟩
  have hz:=anc15_in h1
  simp only [List.mem_cons,List.not_mem_nil,or_false] at hz
  rcases hz with rfl | rfl | rfl
  ·have e:parents (dgH L15c) eA = some []:=by decide +kernel
   rw [e] at h3
   injection h3 with h3
   subst h3
   cases h4
  ·exact absurd h2 (by decide +kernel)
  ·exact absurd h1 (by decide +kernel)
theorem ops15 {ids:List ID} {l m:List Opn} (h:OpsP L15c ids l) (hm:SrtL m) (h1:∀ o ∈ m,∃ x c,findC L15c x = some c ∧ (ids.any fun i=>ancG (dgH L15c) i x) = true ∧ o ∈ c.Ops)
  (h2:∀ x ∈ [eA,eB,eC],(ids.any fun i=>ancG (dgH L15c) i x) = true → ∀ o ∈ ((findC L15c x).getD zChg).Ops,o ∈ m):l = m:=by
 refine srt_ext h.srt hm fun o=>?_
 rw [h.mem]
 constructor
 ·rintro ⟨x,c,hf,⟨i,hi,ha⟩,ho⟩
  refine h2 x (anc15_in ha) (List.any_eq_true.2 ⟨i,hi,ha⟩) o ?_
  rw [hf]
  exact ho
 ·intro ho
  obtain ⟨x,c,hf,ha,hc⟩:=h1 o ho
  obtain ⟨i,hi,ha⟩:=List.any_eq_true.1 ha
  exact ⟨x,c,hf,⟨i,hi,ha⟩,hc⟩
theorem sub15 {ids:List ID} {m:List Opn} (hA:(ids.any fun i=>ancG (dgH L15c) i eA) = true → ptO 1 1 ∈ m) (hB:(ids.any fun i=>ancG (dgH L15c) i eB) = true → ptO 2 1 ∈ m) (hC:(ids.any fun i=>ancG (dgH L15c) i eC) = true → ptO 2 2 ∈ m) :
  ∀ x ∈ [eA,eB,eC],(ids.any fun i=>ancG (dgH L15c) i x) = true → ∀ o ∈ ((findC L15c x).getD zChg).Ops,o ∈ m:=by
 intro x hx ha o ho
 simp only [List.mem_cons,List.not_mem_nil,or_false] at hx
 rcases hx with rfl | rfl | rfl
 ·have e:((findC L15c eA).getD zChg).Ops = [ptO 1 1]:=rfl
  rw [e,List.mem_singleton] at ho
  rw [ho];exact hA ha
 ·have e:((findC L15c eB).getD zChg).Ops = [ptO 2 1]:=rfl
  rw [e,List.mem_singleton] at ho
  rw [ho];exact hB ha
 ·have e:((findC L15c eC).getD zChg).Ops = [ptO 2 2]:=rfl
  rw [e,List.mem_singleton] at ho
  rw [ho];exact hC ha
theorem rise_one {l:List ID} {a:ID} (h:Rise cmpI l) (hm:∀ z,z ∈ l ↔ z = a):l = [a]:=by
 cases l with
 | nil=>exact absurd ((hm a).2 rfl) (by simp)
 | cons x t =>
  have hx:x = a:=(hm x).1 (by simp)
  cases t with
  | nil=>rw [hx]
  | cons y t =>
   have hy:y = a:=(hm y).1 (by simp)
   have h1:=(List.pairwise_cons.1 h).1 y (by simp)
   rw [hx,hy,cmpD_self] at h1
   omega
theorem opsA {l:List Opn} (h:OpsP L15c [eA] l):l = [ptO 1 1]:=ops15 h (by unfold SrtL;decide +kernel) (fun o ho=>⟨eA,_,rfl,by decide +kernel,ho⟩) (sub15 (fun _=>by simp) (fun h=>absurd h (by decide +kernel)) (fun h=>absurd h (by decide +kernel)))
theorem opsB {l:List Opn} (h:OpsP L15c [eB] l):l = [ptO 1 1,ptO 2 1]:=ops15 h (by unfold SrtL;decide +kernel) (fun o ho=>by
 simp only [List.mem_cons,List.not_mem_nil,or_false] at ho
 rcases ho with rfl | rfl
 ·exact ⟨eA,_,rfl,by decide +kernel,by simp [ptC]⟩
 ·exact ⟨eB,_,rfl,by decide +kernel,by simp [ptC]⟩) (sub15 (fun _=>by simp) (fun _=>by simp) (fun h=>absurd h (by decide +kernel)))
theorem opsC {l:List Opn} (h:OpsP L15c [eC] l):l = [ptO 1 1,ptO 2 2]:=ops15 h (by unfold SrtL;decide +kernel) (fun o ho=>by
 simp only [List.mem_cons,List.not_mem_nil,or_false] at ho
 rcases ho with rfl | rfl
 ·exact ⟨eA,_,rfl,by decide +kernel,by simp [ptC]⟩
 ·exact ⟨eC,_,rfl,by decide +kernel,by simp [ptC]⟩) (sub15 (fun _=>by simp) (fun h=>absurd h (by decide +kernel)) (fun _=>by simp))
theorem opsBC {l:List Opn} (h:OpsP L15c [eB,eC] l):l = [ptO 1 1,ptO 2 1,ptO 2 2]:=ops15 h (by unfold SrtL;decide +kernel) (fun o ho=>by
 simp only [List.mem_cons,List.not_mem_nil,or_false] at ho
 rcases ho with rfl | rfl | rfl
 ·exact ⟨eA,_,rfl,by decide +kernel,by simp [ptC]⟩
 ·exact ⟨eB,_,rfl,by decide +kernel,by simp [ptC]⟩
 ·exact ⟨eC,_,rfl,by decide +kernel,by simp [ptC]⟩) (sub15 (fun _=>by simp) (fun _=>by simp) (fun _=>by simp))
theorem mg15:mgE L15c eB eC = 0:=by decide +kernel
theorem mg15':mgE L15c eB eA = 0:=by decide +kernel
theorem plan15 {fw:ID} {base:List ID} {ops:List Opn} {safe:Bool} {time:Int} (h:PlanP L15c eB eC fw base ops safe time):fw = zID ∧ base = [eA] ∧ ops = [ptO 1 1,ptO 2 1,ptO 2 2] ∧ safe = true ∧ time = 3:=by
 obtain ⟨h1,h2,h3,h4,⟨bo,h5,h6⟩,h7⟩:=h.mg (by decide +kernel) (by decide +kernel)
 have hb:base = [eA]:=rise_one h3 (fun z=>(h2 z).trans (base15 z))
 subst hb
 have e1:=opsA h5
 have e2:=opsBC h4
 subst e1 e2
 exact ⟨h1,rfl,rfl,by rw [h6];decide +kernel,h7 _ _ rfl rfl⟩
theorem plan15' {fw:ID} {base:List ID} {ops:List Opn} {safe:Bool} {time:Int} (h:PlanP L15c eB eA fw base ops safe time):fw = eB ∧ ops = [ptO 1 1,ptO 2 1]:=by
 obtain ⟨h1,h2,h3,_⟩:=h.fa (by decide +kernel)
 exact ⟨h1,opsB h3⟩
theorem runx3:(runX [] [ptO 1 1,ptO 2 1,ptO 2 2]).length = 3:=by decide +kernel
theorem runx2:(runX [] [ptO 1 1,ptO 2 1]).length = 2:=by decide +kernel
theorem runx2':(runX [] [ptO 1 1,ptO 2 2]).length = 2:=by decide +kernel
theorem RowsS.len {w:World} {A:Option Addr} {n c:Nat} {ops:List Opn} (h:RowsS w A n c ops):n = (runX [] ops).length:=by
 obtain ⟨rs,ys,rfl,_,hx,hp,_⟩:=h
 rw [hx.1,hp.length_eq]
theorem RowsS.same {w w':World} {A B:Option Addr} {n m c d:Nat} {ops:List Opn} (h:RowsS w A n c ops) (h':RowsS w' B m d ops) :
  ∃ rs ss ys,rs.length = n ∧ ss.length = m ∧ Sl w A (codR.row rs) ∧ Sl w' B (codR.row ss) ∧ RwsIn w rs ys ∧ RwsIn w' ss ys:=by
 obtain ⟨rs,ys,h1,h2,h3,h4,h5⟩:=h
 obtain ⟨ss,zs,k1,k2,k3,k4,k5⟩:=h'
 have e:ys = zs:=(h4.trans k4.symm).eq_of_pairwise (le:=fun a b:RwP=>cmpS a.Node b.Node < 0) (fun a b _ _ hab hba=>by
  have:=cmpS_flip a.Node b.Node
  omega) h5 k5
 subst e
 exact ⟨rs,ss,ys,h1,k1,h2,k2,h3,k3⟩
def idG (i:Nat):ID:=id2 (i + 1) 0
theorem idG_inj:∀ {i j:Nat},i < 20 → j < 20 → idG i = idG j → i = j:=by
 have h:∀ i,i < 20 → ∀ j,j < 20 → idG i = idG j → i = j:=by decide +kernel
 intro i j hi hj e
 exact h i hi j hj e
theorem idG_ne:∀ i,i < 20 → idG i ≠ zID:=by decide +kernel
theorem idG_rise:∀ i,i < 20 → ∀ j,j < 20 → i < j → cmpI (idG i) (idG j) < 0:=by decide +kernel
structure Gw (L:Hst) (ts:List Int):Prop where
 len:L.length = ts.length
 le:ts.length ≤ 16
 has:∀ i (h:i < ts.length),∃ c,findC L (idG i) = some c ∧ c.Time = ts[i]
 new:∀ i,ts.length ≤ i → i < 20 → findC L (idG i) = none
 tm:∀ t ∈ ts,1 ≤ t ∧ t ≤ 4 * (ts.length:Int)
 rr:∀ p ∈ opsH L,p.At.R ≤ ts.length
 nd:NdH L
 ids:∀ x c,findC L x = some c → ∃ i,i < ts.length ∧ x = idG i
 nm:∀ p ∈ opsH L,p.Name = [110]
theorem Gw.nil:Gw [] []:=⟨rfl,by simp,fun i h=>absurd h (by simp),fun i _ _=>rfl,by simp,by simp [opsH],NdH.nil,fun x c h=>by simp [findC] at h,by simp [opsH]⟩
theorem Gw.add {L:Hst} {ts:List Int} (h:Gw L ts) (hl:ts.length < 16) {c:Chg} (hr:rightCh c = true) (hR:c.R = (ts.length:Int) + 1) (ht:1 ≤ c.Time ∧ c.Time ≤ 4 * ((ts.length:Int) + 1))
  (hp:∀ p ∈ c.Parents,∃ (j:Nat) (hj:j < ts.length),p = idG j ∧ ts[j] < c.Time) (hnm:∀ o ∈ c.Ops,o.Name = [110]):addH L (idG ts.length) c = (0,(idG ts.length,c) :: L) ∧ Gw ((idG ts.length,c) :: L) (ts ++ [c.Time]):=by
 have hno:=h.new ts.length (Nat.le_refl _) (by omega)
 have h6:∀ o ∈ c.Ops,∀ p ∈ opsH L,p.At ≠ o.At:=fun o ho p hp' e=>by
  have h1:=((rightCh_parts hr).2.2.2.1 o ho).2.2
  have h2:=h.rr p hp'
  rw [e,h1,hR] at h2
  omega
 refine ⟨addH_new (by rw [has_dg,hno];rfl) (idG_ne _ (by omega)) hr ?_ ?_ h6,?_⟩
 ·unfold timeOk
  rw [List.all_eq_true]
  intro p hp'
  obtain ⟨j,hj,rfl,hlt⟩:=hp p hp'
  obtain ⟨d,hd,hdt⟩:=h.has j hj
  rw [hd]
  simp only [decide_eq_true_eq]
  rw [hdt]
  exact hlt
 ·intro p hp'
  obtain ⟨j,hj,rfl,_⟩:=hp p hp'
  obtain ⟨d,hd,_⟩:=h.has j hj
  rw [has_dg,hd]
  rfl
 ·have hf:∀ i,findC ((idG ts.length,c) :: L) (idG i) = if idG i = idG ts.length then some c else findC L (idG i):=fun i=>rfl
  refine ⟨by simp [h.len],by simp;omega,fun i hi=>?_,fun i hi hi2=>?_,fun t ht'=>?_,fun p hp'=>?_,h.nd.add hr h6,fun y d hy=>?_,fun p hp'=>?_⟩
  ·rw [hf]
   by_cases e:i = ts.length
   ·subst e
    rw [if_pos rfl]
    exact ⟨c,rfl,by simp⟩
   ·have hi':i < ts.length:=by rw [List.length_append,List.length_singleton] at hi;omega
    rw [if_neg (fun h'=>e (idG_inj (by omega) (by omega) h'))]
    obtain ⟨d,hd,hdt⟩:=h.has i hi'
    exact ⟨d,hd,by rw [hdt,List.getElem_append_left hi']⟩
  ·rw [List.length_append,List.length_singleton] at hi
   rw [hf,if_neg (fun h'=>by have:=idG_inj (by omega) (by omega) h';omega)]
   exact h.new i (by omega) hi2
  ·rw [List.length_append,List.length_singleton]
   rcases List.mem_append.1 ht' with h' | h'
   ·have:=h.tm t h'
    omega
   ·rw [List.mem_singleton] at h'
    subst h'
    omega
  ·rw [List.length_append,List.length_singleton]
   have hp2:p ∈ c.Ops ∨ p ∈ opsH L:=by simpa [opsH] using hp'
   rcases hp2 with h' | h'
   ·have h1:=((rightCh_parts hr).2.2.2.1 p h').2.2
    rw [h1,hR]
    omega
   ·have:=h.rr p h'
    omega
  ·have hf2:findC ((idG ts.length,c) :: L) y = if y = idG ts.length then some c else findC L y:=rfl
   rw [hf2] at hy
   rw [List.length_append,List.length_singleton]
   by_cases ey:y = idG ts.length
   ·exact ⟨ts.length,by omega,ey⟩
   ·rw [if_neg ey] at hy
    obtain ⟨i,hi,e⟩:=h.ids y d hy
    exact ⟨i,by omega,e⟩
  ·have hp2:p ∈ c.Ops ∨ p ∈ opsH L:=by simpa [opsH] using hp'
   exact hp2.elim (hnm p) (h.nm p)
end Go.Proofs.YtjpieiccpbcabaaGreat
namespace Go.Proofs.YtjpieiccpbcabaaGreat
open Go.RowKit Go.Maps Go.Sort
structure Tri where
 a:Int
 b:Int
 c:Int
def csTr (x:Tri):List Value:=[.int .i64 x.a,.int .i64 x.b,.int .i64 x.c]
def zTri:Tri:=⟨0,0,0⟩
def codTr:Cod Tri:=⟨123,3,csTr,zTri,fun x=>rfl,by decide,fun x u hu=>by
  simp only [csTr,List.mem_cons,List.not_mem_nil,or_false] at hu
  rcases hu with rfl | rfl | rfl <;> rfl,fun x y h=>by
 obtain ⟨a,b,c⟩:=x;obtain ⟨a',b',c'⟩:=y
 simp only [csTr,List.cons.injEq,Value.int.injEq,and_true,true_and] at h
 obtain ⟨rfl,rfl,rfl⟩:=h
 rfl⟩
theorem okTr:CodOk Tryz.prog codTr:=⟨⟨_,Tryz.underlying123,rfl⟩,by kernel_rfl,fun w=>(zero_of_info (P:=Tryz.prog) (t:=123) (v:=.agg (codTr.cs codTr.z).toArray) (n:=3) (by kernel_rfl)).1 w⟩
@[simp ↓] theorem ex_ldTr (ρ:Operand → Value) (d:Option Nat) (a:Operand) (t:TypeId) (p:String) (f:Array Edge) (g:Option (Nat × Bool)) (w:World) :
  (execOp ρ { dst:=d,op:=.load 123 a,type:=t,pos:=p,after:=f,guard:=g }).run Tryz.prog w = codTr.ldR w (ρ a) (exElse ρ { dst:=d,op:=.load 123 a,type:=t,pos:=p,after:=f,guard:=g } w):=okTr.ldOp ρ _ a rfl w
@[simp ↓] theorem ex_alTr (ρ:Operand → Value) (d:Option Nat) (t:TypeId) (p:String) (f:Array Edge) (g:Option (Nat × Bool)) (w:World) :
  (execOp ρ { dst:=d,op:=.alloc 123,type:=t,pos:=p,after:=f,guard:=g }).run Tryz.prog w = .ok (.value (.pointer (some ⟨w.heap.size,0,none⟩))) (w.alloc (codTr.o zTri)):=okTr.alOp ρ _ rfl w
@[simp ↓] theorem ex_stTr (ρ:Operand → Value) (a x:Operand) (d:Option Nat) (t:TypeId) (p:String) (f:Array Edge) (g:Option (Nat × Bool)) (w:World) :
  (execOp ρ { dst:=d,op:=.store 123 a x,type:=t,pos:=p,after:=f,guard:=g }).run Tryz.prog w = codTr.stR w (ρ a) (ρ x):=Cod.stOp (C:=codTr) ρ _ a x rfl w
@[simp] theorem st_newTr (w:World) (x y:Tri):codTr.stR (w.alloc (codTr.o y)) (.pointer (some ⟨w.heap.size,0,none⟩)) (.agg (codTr.A x)) = .ok .skip (w.alloc (codTr.o x)):=okTr.stR_new w x y
structure TrAt (w:World) (g o:Nat) (r:Tri):Prop where
 a:w.cell? ⟨g,o,none⟩ = some (.int .i64 r.a)
 b:w.cell? ⟨g,o + 1,none⟩ = some (.int .i64 r.b)
 c:w.cell? ⟨g,o + 2,none⟩ = some (.int .i64 r.c)
theorem trAt {w:World} {b o:Nat} {r:Tri} (h:codTr.rd w b o = some r):TrAt w b o r :=
 ⟨by simpa using Cod.rd_cell h 0 (v:=.int .i64 r.a) rfl,Cod.rd_cell h 1 (v:=.int .i64 r.b) rfl,Cod.rd_cell h 2 (v:=.int .i64 r.c) rfl⟩
end Go.Proofs.YtjpieiccpbcabaaGreat
namespace Go.Proofs.YtjpieiccpbcabaaGreat
open Go.RowKit
def opG (t:Int) (k:Nat) (nd pr:St):Opn:=⟨1,⟨t,(k:Int) + 1⟩,nd,pr,[110],zID,[]⟩
def chG (ps:List ID) (t:Int) (k:Nat) (ops:List Opn):Chg:=⟨ps,t,(k:Int) + 1,ops,id2 1 0,[]⟩
def ParG (k:Nat) (ps:List ID):Prop:=ps = [] ∨ (∃ a,a < k ∧ ps = [idG a]) ∨ ∃ a b,a < b ∧ b < k ∧ ps = [idG a,idG b]
theorem chG_right {ps:List ID} {t:Int} {k:Nat} {ops:List Opn} (hk:k < 16) (ht:1 ≤ t ∧ t ≤ 100) (hp:ParG k ps)
  (ho:ops = [] ∨ (ps.length < 2 ∧ ∃ nd pr,ops = [opG t k nd pr] ∧ goodOp (opG t k nd pr) = true)):rightCh (chG ps t k ops) = true:=by
 have h1:ps.length ≤ 2 ∧ (ps.all fun p=>decide (p ≠ zID)) = true ∧ riseB cmpI ps = true:=by
  rcases hp with rfl | ⟨a,ha,rfl⟩ | ⟨a,b,hab,hb,rfl⟩
  ·exact ⟨by simp,rfl,rfl⟩
  ·exact ⟨by simp,by simp [idG_ne a (by omega)],rfl⟩
  ·refine ⟨by simp,by simp [idG_ne a (by omega),idG_ne b (by omega)],?_⟩
   have:=idG_rise a (by omega) b (by omega) hab
   unfold riseB
   simp [this,riseB]
 have h2:rightS ⟨t,(k:Int) + 1⟩ = true:=by
  unfold rightS
  simp
  omega
 unfold rightCh chG
 simp only [h1.1,h1.2.1,h1.2.2,h2,Bool.and_eq_true,decide_true,true_and,Bool.true_and]
 rcases ho with rfl | ⟨hl,nd,pr,rfl,hg⟩
 ·simp [riseB]
  decide
 ·have h3:¬ ps.length = 2:=by omega
  unfold opG at hg
  simp [h3,riseB,hg,opG]
  exact idG_ne 0 (by decide)
theorem opG_good {t:Int} {k:Nat} {nd pr:St} (hk:k < 16) (ht:1 ≤ t ∧ t ≤ 100) (hn:rightS nd = true) (hc:cmpS nd ⟨t,(k:Int) + 1⟩ ≤ 0) (hp:rightS pr = true ∨ pr = zSt):goodOp (opG t k nd pr) = true:=by
 have h2:rightS ⟨t,(k:Int) + 1⟩ = true:=by
  unfold rightS
  simp
  omega
 have h4:(rightS pr || fixedS pr) = true:=by
  rcases hp with h | h
  ·simp [h]
  ·subst h;decide
 have h5:nameOk [110] = true:=by decide
 unfold goodOp opG moveOk
 simp [h2,hn,hc,h4,h5]
end Go.Proofs.YtjpieiccpbcabaaGreat
namespace Go.Proofs.YtjpieiccpbcabaaGreat
open Go.RowKit Go.Maps Go.Sort
def cod64:Cod Int:=⟨2,1,fun b=>[.int .i64 b],0,fun _=>rfl,by decide,fun x u hu=>by
 rw [List.mem_singleton] at hu
 subst hu;rfl,fun x y h=>by
 have h2:Value.int .i64 x = Value.int .i64 y:=by injection h
 injection h2⟩
theorem et64:ET Tryz.prog 122 cod64.t cod64.n 8:=ET.mk' (z:=.int .i64 0) Tryz.underlying122 (by kernel_rfl) rfl (by decide) (by decide)
theorem Sl.cell1 {α:Type} {C:Cod α} (hn:C.n = 1) {w:World} {g off:Nat} {l:List α} (h:Sl w (some ⟨g,off,none⟩) (C.row l)) (i:Nat) (hi:i < l.length) {v:Value} (hv:C.cs l[i] = [v]):w.cell? ⟨g,off + i,none⟩ = some v:=by
 have h2:=Cod.row_get l i 0 hi v (by rw [hv];rfl)
 rw [hn,Nat.mul_one,Nat.add_zero] at h2
 have hne:C.row l ≠ []:=by
  intro e
  rw [e] at h2
  simp at h2
 obtain ⟨g',off',e,_,hc⟩:=h hne
 injection e with e
 injection e with e1 e2
 subst e1 e2
 exact hc i v h2
theorem bldC_p3 (w:World) (t r:Int) (x:ID):(Instr.build 35 #[(1,.int .i64 t),(2,.int .i64 r),(4,encI x)]).run Tryz.prog w = .ok (.agg (codC.A { zCgW with Time:=t,R:=r,Tree:=x })) w:=by
 have h1:∀ place:Nat → Option (Nat × Nat),place 1 = some (1,1) → place 2 = some (2,1) → place 4 = some (4,32) → Instr.fill place ([Value.slice none 0 0] ++ [Value.int .i64 0] ++ ([Value.int .i64 0,Value.slice none 0 0] ++ bv zID.1 ++ [Value.string (str [])])).toArray [(1,.int .i64 t),(2,.int .i64 r),(4,encI x)] = some (codC.cs { zCgW with Time:=t,R:=r,Tree:=x }).toArray:=by
  intro place p1 p2 p4
  refine (fill_one place [.slice none 0 0] [.int .i64 0] ([.int .i64 0,.slice none 0 0] ++ bv zID.1 ++ [.string (str [])]) [.int .i64 t] 1 (.int .i64 t) _ rfl (by simpa using p1) rfl).trans ?_
  have e2:=fill_one place [.slice none 0 0,.int .i64 t] [.int .i64 0] ([.slice none 0 0] ++ bv zID.1 ++ [.string (str [])]) [.int .i64 r] 2 (.int .i64 r) [(4,encI x)] rfl (by simpa using p2) rfl
  refine Eq.trans ?_ (e2.trans ?_)
  ·simp
  have e4:=fill_one place [.slice none 0 0,.int .i64 t,.int .i64 r,.slice none 0 0] (bv zID.1) [.string (str [])] (bv x.1) 4 (encI x) [] (cellsI x) (by simpa [x.2] using p4) (by simp [x.2,zID])
  refine Eq.trans ?_ (e4.trans ?_)
  ·simp
  ·simp [Instr.fill,codC,csC,zCgW]
 have hz:(zeroValue 35).run Tryz.prog w = .ok (.agg (codC.cs codC.z).toArray) w:=okC.zero w
 have hc:(Value.agg (codC.cs codC.z).toArray).cells = ([Value.slice none 0 0] ++ [Value.int .i64 0] ++ ([Value.int .i64 0,Value.slice none 0 0] ++ bv zID.1 ++ [Value.string (str [])])).toArray:=rfl
 have hsI:∀ w,(sizeOf 24).run Tryz.prog w = .ok 32 w:=fun w=>Tryz.sizeOf24 w
 simp only [Instr.build,Sem.run_bind,hz,Result.andThen_ok,run_underlying Tryz.underlying35,hc]
 simp only [List.mapM_toArray,List.mapM_cons,List.mapM_nil,Sem.run_bind,hsI,Tryz.sizeOf9,Tryz.sizeOf32,Tryz.sizeOf33,Tryz.sizeOf2,Tryz.sizeOf3,Result.andThen_ok,Sem.run_pure,Sem.run_map,map_pure,bind_pure_comp]
 rw [h1 _ rfl rfl rfl]
 simp [Cod.A_eq]
@[simp ↓] theorem ex_bldCp3 (ρ:Operand → Value) (x1 x2 x4:Operand) (d:Option Nat) (t:TypeId) (p:String) (f:Array Edge) (g:Option (Nat × Bool)) (w:World) :
  (execOp ρ { dst:=d,op:=.build 35 #[(1,x1),(2,x2),(4,x4)],type:=t,pos:=p,after:=f,guard:=g }).run Tryz.prog w = mkB 35 w [(1,ρ x1),(2,ρ x2),(4,ρ x4)]:=(exB ρ _ _ _ rfl w).trans (by simp only [List.map_toArray,List.map_cons,List.map_nil])
@[simp] theorem mkB_Cp3 (w:World) (t r:Int) (x:ID):mkB 35 w [(1,.int .i64 t),(2,.int .i64 r),(4,encI x)] = .ok (.value (.agg (codC.A { zCgW with Time:=t,R:=r,Tree:=x }))) w:=mkB_ok (bldC_p3 w t r x)
@[simp] theorem mkB_Op4n (w:World) (k:Int) (a s:St):mkB 83 w [(0,.int .i64 k),(1,.agg (codS.A a)),(2,.agg (codS.A s)),(4,.string { data:=#[110] })] = .ok (.value (.agg (codO.A { zOpW with Kind:=k,At:=a,Node:=s,Name:=[110] }))) w:=mkB_Op4 w k a s [110]
structure GB (wr W w:World) (P:Nat) (x:Tri) (k:Nat) (cw:CgW):Prop where
 n:codTr.rd w P 0 = some x
 i:rdI w (P + 1) 0 = some (idG k)
 c:codC.bxd w (P + 2) = some cw
 fr:Fr noB wr w
 ge:W.heap.size ≤ w.heap.size
 hP:P = wr.heap.size
 hW:W.heap.size = P + 3
theorem GB.new {wr W w w':World} {P k:Nat} {x:Tri} {cw:CgW} (h:GB wr W w P x k cw) (f:Fr noB w w'):GB wr W w' P x k cw :=
 ⟨Cod.rd_fr0 h.n f,rdI_fr h.i (rdI_lt h.i) f (by simp [noB]),Cod.bxd_fr0 h.c f,h.fr.step0 f,Nat.le_trans h.ge f.size,h.hP,h.hW⟩
theorem GB.lt {wr W w:World} {P k:Nat} {x:Tri} {cw:CgW} (h:GB wr W w P x k cw):P + 3 ≤ w.heap.size:=by rw [← h.hW];exact h.ge
theorem GB.far {wr W w w':World} {P k:Nat} {x:Tri} {cw:CgW} {M:Nat → Prop} (h:GB wr W w P x k cw) (f:Fr M w w') (hM:∀ b,M b → P + 2 < b):GB wr W w' P x k cw :=
 ⟨Cod.rd_fr h.n f (fun e=>by have:=hM _ e;omega),rdI_fr h.i (rdI_lt h.i) f (fun e=>by have:=hM _ e;omega),Cod.bxd_fr h.c f (fun e=>by have:=hM _ e;omega),
  h.fr.step f (fun q hq=>.inl (by have:=hM _ hq;have:=h.hP;omega)),Nat.le_trans h.ge f.size,h.hP,h.hW⟩
theorem GB.grow {wr W w w':World} {P k c:Nat} {x:Tri} {cw:CgW} {A:Option Addr} {ps:List ID} (h:GB wr W w P x k cw) (ho:OwnC codI W w A c ps) (hg:w.grownBy w' (A.map (·.block))):GB wr W w' P x k cw :=
 h.far (M:=fun b=>A.map (·.block) = some b) (Fr.ofGrown hg (fun g hg=>hg)) (fun b hb=>by have:=(own_lt ho b hb).1;have:=h.hW;omega)
theorem own0 (W w:World):OwnC codI W w none 0 []:=World.ownsRow_nil _ _ _ _
theorem GB.grow0 {wr W w w':World} {P k:Nat} {x:Tri} {cw:CgW} (h:GB wr W w P x k cw) (hg:w.grownBy w' ((none:Option Addr).map (·.block))):GB wr W w' P x k cw :=
 h.grow (own0 W w) hg
theorem GB.set {wr W w:World} {P k:Nat} {x:Tri} {cw:CgW} (h:GB wr W w P x k cw) (o:Nat) (v:Value) (cw':CgW) (hs:(codC.cs cw).set o v = codC.cs cw'):GB wr W (w.setCell ⟨P + 2,o,none⟩ v) P x k cw':=by
 have f:=Cod.set_fr w (P + 2) o v
 refine ⟨Cod.rd_fr h.n f (fun e=>by have:P = P + 2:=e;omega),rdI_fr h.i (rdI_lt h.i) f (fun e=>by have:P + 1 = P + 2:=e;omega),Cod.bxd_set h.c o v _ hs,h.fr.step f (fun q hq=>.inl (by have:q = P + 2:=hq;have:=h.hP;omega)),Nat.le_trans h.ge f.size,h.hP,h.hW⟩
theorem GB.own {wr W w:World} {P k c:Nat} {x:Tri} {cw:CgW} {A:Option Addr} {ps:List ID} (h:GB wr W w P x k cw) (ho:OwnC codI W w A c ps) (o:Nat) (v:Value):OwnC codI W (w.setCell ⟨P + 2,o,none⟩ v) A c ps :=
 own_fr ho (Cod.set_fr w (P + 2) o v) (fun g hg e=>by
  rw [ownBlock_sl'] at hg
  have h1:=(own_lt ho g hg).1
  have h2:g = P + 2:=e
  have:=h.hW
  omega)
theorem GB.tri {wr W w:World} {P k:Nat} {x:Tri} {cw:CgW} (h:GB wr W w P x k cw):w.cell? ⟨P,0,none⟩ = some (.int .i64 x.a) ∧ w.cell? ⟨P,1,none⟩ = some (.int .i64 x.b) ∧ w.cell? ⟨P,2,none⟩ = some (.int .i64 x.c):=by
 have t:=trAt h.n
 refine ⟨t.a,?_,?_⟩
 ·simpa using t.b
 ·simpa using t.c
def rowG (n:Nat):List ID:=(List.range n).map idG
theorem rowG_len (n:Nat):(rowG n).length = n:=by simp [rowG]
theorem rowG_get (n i:Nat) (h:i < (rowG n).length):(rowG n)[i] = idG i:=by simp [rowG]
theorem rowG_succ (n:Nat):rowG (n + 1) = rowG n ++ [idG n]:=by simp [rowG,List.range_succ]
structure GR (w0 w:World) (H:Nat) (S:Nat → Prop) (L:Hst) (ts:List Int) (A:Option Addr) (cA:Nat) (B:Option Addr) (cB:Nat):Prop where
 hs:Hs w H S L
 g:Gw L ts
 ia:OwnC codI w0 w A cA (rowG ts.length)
 tm:OwnC cod64 w0 w B cB ts
 na:∀ g,A.map (·.block) = some g → ¬ S g
 nb:∀ g,B.map (·.block) = some g → ¬ S g
 lo:∀ b,S b → w0.heap.size ≤ b
 fr:Fr noB w0 w
theorem GR.next {w0 wr v1 w6 w7:World} {H:Nat} {S:Nat → Prop} {L L':Hst} {ts:List Int} {A A6 B B7:Option Addr} {cA cB c6 c7:Nat} {t:Int} (h:GR w0 wr H S L ts A cA B cB)
  (g':Gw L' (ts ++ [t])) {u:World} (fu:Fr noB wr u) (hs1:Hs v1 H (grF S u v1) L') (f1:Fr S u v1) {x1:World} (fx:Fr noB v1 x1)
  (o6:OwnC codI w0 w6 A6 c6 (rowG ts.length ++ [idG ts.length])) (g6:x1.grownBy w6 (A.map (·.block))) (a6:A6.map (·.block) = A.map (·.block) ∨ A6.map (·.block) = some x1.heap.size) {x6:World} (fx6:Fr noB w6 x6)
  (o7:OwnC cod64 w0 w7 B7 c7 (ts ++ [t])) (g7:x6.grownBy w7 (B.map (·.block))) (a7:B7.map (·.block) = B.map (·.block) ∨ B7.map (·.block) = some x6.heap.size) :
  GR w0 w7 H (grF S u v1) L' (ts ++ [t]) A6 c6 B7 c7:=by
 have lu:=fu.size
 have l1:=f1.size
 have lx:=fx.size
 have f6:Fr (fun b=>A.map (·.block) = some b) x1 w6:=Fr.ofGrown g6 (fun g hg=>hg)
 have f7:Fr (fun b=>B.map (·.block) = some b) x6 w7:=Fr.ofGrown g7 (fun g hg=>hg)
 have l6:=f6.size
 have lx6:=fx6.size
 have l7:=f7.size
 have bA:∀ g,A.map (·.block) = some g → w0.heap.size ≤ g ∧ g < wr.heap.size:=fun g hg=>own_lt h.ia g hg
 have bB:∀ g,B.map (·.block) = some g → w0.heap.size ≤ g ∧ g < wr.heap.size:=fun g hg=>own_lt h.tm g hg
 have nA:∀ b,grF S u v1 b → ¬ A.map (·.block) = some b:=fun b hb e=>hb.elim (h.na b e) (fun h'=>by have:=(bA b e).2;omega)
 have nB:∀ b,grF S u v1 b → ¬ B.map (·.block) = some b:=fun b hb e=>hb.elim (h.nb b e) (fun h'=>by have:=(bB b e).2;omega)
 have nAB:∀ g,A6.map (·.block) = some g → ¬ B.map (·.block) = some g:=fun g hg e=>by
  rcases a6 with h' | h'
  ·rw [h'] at hg
   obtain ⟨_,cA1,z1,hA1⟩:=own_blk h.ia hg
   obtain ⟨_,cB1,z2,hB1⟩:=own_blk h.tm e
   rw [hA1] at hB1
   injection hB1 with hB1
   injection hB1 with _ h2
   exact absurd h2 (by decide)
  ·rw [h'] at hg
   injection hg with hg
   have:=(bB g e).2
   omega
 refine ⟨((((hs1.fr0 fx).fr f6 nA).fr0 fx6).fr f7 nB),g',?_,o7,?_,?_,fun b hb=>hb.elim (h.lo b) (fun h'=>by have:=h.fr.size;omega),?_⟩
 ·have e:(ts ++ [t]).length = ts.length + 1:=by simp
  rw [e,rowG_succ]
  refine own_fr (own_new0 o6 fx6) f7 (fun g hg=>?_)
  rw [ownBlock_sl'] at hg
  exact nAB g hg
 ·intro g hg hS
  rcases a6 with h' | h'
  ·rw [h'] at hg
   exact nA g hS hg
  ·rw [h'] at hg
   injection hg with hg
   have:=hs1.lt hS
   omega
 ·intro g hg hS
  rcases a7 with h' | h'
  ·rw [h'] at hg
   exact nB g hS hg
  ·rw [h'] at hg
   injection hg with hg
   have:=hs1.lt hS
   omega
 ·have F1:=(h.fr.step0 fu).step f1 (fun q hq=>.inl (h.lo q hq))
  have F2:=(F1.step0 fx).step f6 (fun q hq=>.inl (bA q hq).1)
  exact (F2.step0 fx6).step f7 (fun q hq=>.inl (bB q hq).1)
theorem and_maskM (x:Int) (m:Nat) (hm:m ≤ 1023):∃ r:Nat,bits BinOp.and IntKind.i64 x (m:Int) = (r:Int) ∧ r ≤ m:=by
 refine ⟨(BitVec.ofInt 64 x &&& BitVec.ofInt 64 (m:Int)).toNat,?_,?_⟩
 ·have hle:(BitVec.ofInt 64 x &&& BitVec.ofInt 64 (m:Int)).toNat ≤ 1023:=by
   rw [BitVec.toNat_and]
   refine Nat.le_trans Nat.and_le_right ?_
   rw [BitVec.toNat_ofInt]
   omega
  show IntKind.i64.wrap (((BitVec.ofInt 64 x &&& BitVec.ofInt 64 (m:Int)).toNat:Nat):Int) = _
  rw [IntKind.wrap_i64]
  omega
 ·rw [BitVec.toNat_and]
  refine Nat.le_trans Nat.and_le_right ?_
  rw [BitVec.toNat_ofInt]
  omega
def cwG (A:Option Addr) (n c:Nat) (t:Int) (k:Nat) (B:Option Addr) (m d:Nat):CgW:=⟨A,n,c,t,1 + (k:Int),B,m,d,id2 1 0,[]⟩
structure PsG (ts:List Int) (t:Int) (ps:List ID) (m:Int):Prop where
 par:ParG ts.length ps
 at_:∀ p ∈ ps,∃ (j:Nat) (hj:j < ts.length),p = idG j ∧ ts[j] < t
 lo:1 ≤ t
 hi:t ≤ 4 * (ts.length:Int) + m
def opWG (t:Int) (k:Nat) (nd pr:St):OpW:=⟨1,⟨t,1 + (k:Int)⟩,nd,pr,[110],zID,none,0,0⟩
theorem opWG_in (w:World) (t:Int) (k:Nat) (nd pr:St):OpIn w (opWG t k nd pr) (opG t k nd pr):=⟨by unfold opG opWG opOf;rw [Int.add_comm],rfl,Sl.nil _ _,by simp [opG],by simp [opWG]⟩
theorem cwG_q {Q:Nat → Prop} {w:World} {PA OA:Option Addr} {pc oc k:Nat} {t:Int} {ps:List ID} {rs:List OpW} {ops:List Opn} (hp:Sl w PA (idc ps)) (hpq:ps ≠ [] → InQ Q PA) (ho:Sl w OA (codO.row rs)) (hoq:rs ≠ [] → InQ Q OA)
  (hb:ps.length ≤ 1000) (h:(rs = [] ∧ ops = []) ∨ ∃ nd pr,rs = [opWG t k nd pr] ∧ ops = [opG t k nd pr]):CgQ Q w (cwG PA ps.length pc t k OA rs.length oc) rs (chG ps t k ops):=by
 refine ⟨⟨rfl,Int.add_comm _ _,rfl,rfl,rfl,hp,rfl,ho,?_,by show ps.length ≤ _;omega,?_,by simp [cwG]⟩,hpq,hoq,?_⟩
 ·rcases h with ⟨rfl,rfl⟩ | ⟨nd,pr,rfl,rfl⟩
  ·exact ⟨rfl,fun i h=>absurd h (by simp)⟩
  ·refine ⟨rfl,fun i h h'=>?_⟩
   have:i = 0:=by simpa using h
   subst this
   exact opWG_in w t k nd pr
 ·rcases h with ⟨rfl,_⟩ | ⟨nd,pr,rfl,_⟩ <;> simp
 ·rcases h with ⟨rfl,rfl⟩ | ⟨nd,pr,rfl,rfl⟩
  ·exact fun i h=>absurd h (by simp)
  ·intro i h h'
   have:i = 0:=by simpa using h
   subst this
   exact ⟨opWG_in w t k nd pr,fun h=>absurd rfl h⟩
theorem rightS_G {t:Int} {j:Nat} (h:1 ≤ t ∧ t ≤ 100) (hj:j < 20):rightS ⟨t,1 + (j:Int)⟩ = true:=by
 unfold rightS
 simp
 omega
theorem PsG.len {ts:List Int} {t m:Int} {ps:List ID} (h:PsG ts t ps m):ps.length ≤ 2:=by
 rcases h.par with rfl | ⟨a,_,rfl⟩ | ⟨a,b,_,_,rfl⟩ <;> simp
end Go.Proofs.YtjpieiccpbcabaaGreat
