/- Contract: snap.Save. (ex_ldS_at, ex_ldR_at, ex_bldT4_at, ex_ld_id) -/
import Derived.Test.YtnkdnbjmhoegkaaGreatSvLKq
set_option linter.unusedVariables false
set_option linter.unusedSimpArgs false
namespace Go.Proofs.YtnkdnbjmhoegkaaGreat
open Go.RowKit Go.Maps Go.Sort
set_option maxRecDepth 100000 in
set_option maxHeartbeats 4000000 in
theorem svsave_any (w:World) (X:Nat) (Z:Nat → Prop) (hZ:∀ g,Z g → g < w.heap.size) (o:List (List UInt8)) (hX:BoxIn w X Z o) (A:Option Addr) (c n:Nat) (ws:List RwW) (xs:List RwP) (hn:ws.length = n) (hK:KdX w X A ws xs) (T:TreeOk xs) (hlen:o.length + (allZ nameH xs).length ≤ 999999999) :
  Calls Tryz.prog 7 #[.slice A n c,putF X] w (SaTo w X Z o xs):=by
 subst hn
 have hXl:=hX.lt
 have fa:Fr noB w (w.alloc (ido zID)):=(Fr.refl noB w).alloc _
 have b0:bxI (w.alloc (ido zID)) w.heap.size = some zID:=bxI_new w zID
 have HX0:=Lib.hid ((hX.more.fr0 fa).sub (Z':=fun g=>Z g ∨ g = w.heap.size) fun g hg=>hg.imp id fun e=>by omega)
 have HZ:=Lib.hid (show ∀ g,(Z g ∨ g = w.heap.size) → g < (w.alloc (ido zID)).heap.size from fun g hg=>by
  rw [World.size_alloc]
  rcases hg with hg | hg
  ·have:=hZ g hg;omega
  ·omega)
 have HXR:=Lib.hid (show X < w.heap.size from hXl)
 have HK:=Lib.hid (hK.fr (fa.any (M:=oneB X)))
 have HT:=Lib.hid T
 have HLW:=Lib.hid (show ws.length ≤ 5000 from by have:=T.len;have:=hK.inn.len;omega)
 have CN:=Lib.hid (ntreeZ_yes (w.alloc (ido zID)) A c ws.length ws xs rfl HK.out.sl (by have:=HLW.out;omega) HK.out.inn (fun x hx=>by
  have h1:=rightR_it (T.ok x hx) zID
  simp only [rightIt,Bool.and_eq_true,decide_eq_true_eq] at h1
  have:=h1.1.1.2
  show x.Heads.length ≤ _
  have e:(itR x zID).Heads = x.Heads:=rfl
  rw [e] at this
  omega) T)
 have HP0:=Lib.hid (And.intro fa b0)
 have HLN:=Lib.hid hlen
 clear hZ hX hK T hlen hXl fa b0
 rw [show putF X = .func (.func 8) #[.pointer (some ⟨X,0,none⟩)] #[] from rfl]
 go_enter Tryz.func7,Tryz.ntmps7
 go_upto_region 1 with fail
 generalize w.alloc (ido zID) = w1 at HX0 HZ HK CN HP0 ⊢
 generalize hR:w.heap.size = R at HX0 HZ HXR HP0 ⊢
 have HR:=Lib.hid hR
 clear hR
 go_upto_region 3 with (go_at_call 13;refine CN.out.mono ?_;rintro e w2 ⟨rfl,f2⟩;have HF2:=Lib.hid f2;clear f2)
 go_upto_region 4 with fail
 have fm:Fr noB w2 (w2.alloc (.map #[] 0)):=(Fr.refl noB w2).alloc _
 have fs:Fr noB (w2.alloc (.map #[] 0)) ((w2.alloc (.map #[] 0)).alloc (.cells #[.map (some w2.heap.size),.func (.func 8) #[.pointer (some ⟨X,0,none⟩)] #[]] 55)):=(Fr.refl noB _).alloc _
 have m0:=mpT_fr0 (mpT_new w2) fs
 have B0:Blk ((w2.alloc (.map #[] 0)).alloc (.cells #[.map (some w2.heap.size),.func (.func 8) #[.pointer (some ⟨X,0,none⟩)] #[]] 55)) (w2.heap.size + 1) 55 [.map (some w2.heap.size),putF X]:=by
  have:=Blk.new (w2.alloc (.map #[] 0)) 55 [.map (some w2.heap.size),putF X]
  rwa [World.size_alloc] at this
 have HF3:=Lib.hid (HF2.out.step0 (fm.step0 fs))
 have HSZ:=Lib.hid (show w2.heap.size + 2 = ((w2.alloc (.map #[] 0)).alloc (.cells #[.map (some w2.heap.size),.func (.func 8) #[.pointer (some ⟨X,0,none⟩)] #[]] 55)).heap.size by simp)
 have HW12:=Lib.hid HF2.out.size
 clear fm fs
 generalize (w2.alloc (.map #[] 0)).alloc (.cells #[.map (some w2.heap.size),.func (.func 8) #[.pointer (some ⟨X,0,none⟩)] #[]] 55) = w3 at m0 B0 HF3 HSZ ⊢
 generalize hM:w2.heap.size = M at m0 B0 HSZ HW12 ⊢
 generalize hS:M + 1 = S at B0 ⊢
 have HMS:=Lib.hid (And.intro hM hS)
 clear hM hS
 have H0:=Lib.hid (show SaR w3 S M X ws ws.length (.int .i64 ((0:Nat):Int)) w3 from ⟨0,[],_,rfl,rfl,Nat.zero_le _,KidO.nil w3 w3,m0,B0,Fr.refl _ _,fun p=>by simp [filZ]⟩)
 clear m0 B0
 go_wp2_with fail
 go_loopg [23] ws.length (fun gk iv wr=>SaR w3 S M X ws gk iv wr)
 case atStart=>exact H0.out
 case round =>
  clear H0
  obtain ⟨k,kv,f,rfl,rfl,hk,hkd,hm,hb,hf,hnr⟩:=hrel
  have F1r:=Lib.hid (HF3.out.step1 hf HW12.out)
  have HKD:=Lib.hid hkd
  have HM:=Lib.hid hm
  have HB:=Lib.hid hb
  have HF:=Lib.hid hf
  have HNR:=Lib.hid hnr
  clear hkd hm hb hf hnr
  by_cases hlt:k < ws.length
  ·have hlt2:k < xs.length:=by rw [← HK.out.inn.len];exact hlt
   have i1:(k:Int) < (ws.length:Int):=by omega
   have i0:(0:Int) ≤ (k:Int):=by omega
   obtain ⟨g,off,rfl,hg⟩:=(HK.out.sl.fr0 F1r.out).adC (by omega)
   have e1:codR.rd wr g (off + k * 8) = some ws[k]:=(HK.out.sl.fr0 F1r.out).rd k hlt
   have HTK:=Lib.hid (show ws.take (k + 1) = ws.take k ++ [ws[k]] from List.take_succ_eq_append_getElem hlt)
   have HWP:=Lib.hid (HK.out.inn.at_ k hlt hlt2).wp
   have HKL:=Lib.hid hlt
   generalize ws[k] = r at e1 HTK HWP
   clear hg hlt2 hlt hk
   go_upto_region 7 with fail
   have fb:Fr noB wr (wr.alloc (codR.o r)):=(Fr.refl noB wr).alloc _
   have bB:=Cod.bxd_new (C:=codR) wr r
   have hNS:=HF.out.size
   have fd:Fr noB (wr.alloc (codR.o r)) (wr.alloc (codR.o r)).drew:=(Fr.refl noB _).drew
   have HFB:=Lib.hid (fb.step0 fd)
   have HRB:=Lib.hid (Cod.bxd_fr0 bB fd)
   have qq:=rwAt (Cod.bxd_rd (Cod.bxd_fr0 bB fd))
   have hS3:S < w3.heap.size:=by have:=HSZ.out;have:=HMS.out.2;omega
   have hF0:(wr.alloc (codR.o r)).drew.cell? ⟨S,0,none⟩ = some (.map (some M)) ∧ codS.rd (wr.alloc (codR.o r)).drew wr.heap.size 2 = some r.Parent ∧ codR.rd (wr.alloc (codR.o r)).drew wr.heap.size 0 = some r:=⟨by rw [(HB.out.fr HFB.out (by simp [noB])).cell];rfl,qq.parent,qq.self⟩
   have HNW:=Lib.hid (show w3.heap.size ≤ wr.heap.size ∧ S < w3.heap.size ∧ S ≠ M ∧ M < w3.heap.size by have:=HSZ.out;have:=HMS.out.2;omega)
   clear fb bB fd qq hS3 hNS
   generalize hNN:wr.heap.size = N at HRB hF0 HNW ⊢
   have HN:=Lib.hid hNN
   clear hNN
   have keep:∀ w' w'':World,Fr (oneB M) w' w'' → (w'.cell? ⟨S,0,none⟩ = some (.map (some M)) ∧ codS.rd w' N 2 = some r.Parent ∧ codR.rd w' N 0 = some r) → (w''.cell? ⟨S,0,none⟩ = some (.map (some M)) ∧ codS.rd w'' N 2 = some r.Parent ∧ codR.rd w'' N 0 = some r):=fun w' w'' f h =>
    ⟨cellZ_fr h.1 f (by have:=HNW.out;show ¬ S = M;omega),Cod.rd_fr h.2.1 f (by have:=HNW.out;show ¬ N = M;omega),Cod.rd_fr h.2.2 f (by have:=HNW.out;show ¬ N = M;omega)⟩
   refine wp_region_M 12 13 [⟨134217728,64,0⟩,⟨268435456,134217728,1⟩,⟨536870912,268435456,2⟩,⟨1073741824,536870912,4⟩,⟨2147483648,256,0⟩,⟨4294967296,2147483648,16⟩,⟨17179869184,256,0⟩,⟨34359738368,17179869184,64⟩,⟨68719476736,5368709120,255⟩,⟨8589934592,68719476736,256⟩,⟨137438953472,42949672960,896⟩,⟨274877906944,68719476736,256⟩,⟨0,413390602240,4095⟩] [(true,0),(true,1),(true,2),(true,3),(true,4),(true,5),(true,6),(false,7),(false,8),(true,9),(true,11),(false,10)] (fun w'=>w'.cell? ⟨S,0,none⟩ = some (.map (some M)) ∧ codS.rd w' N 2 = some r.Parent ∧ codR.rd w' N 0 = some r) (by kernel_rfl) rfl (by kernel_rfl) (by kernel_rfl) (by kernel_rfl) hF0 (fun hA hF=>?_)
   clear hF0
   generalize (wr.alloc (codR.o r)).drew = wd at hF HFB HRB ⊢
   iterate 7
    refine wpAnyS_take (v:=?_) hA rfl (fun _ _ _ h=>h) (Or.inl ⟨by rfl,?_⟩) hF (fun hA=>?_)
    rotate_left
    ·intro wS hSw;(try dsimp only at hSw);obtain ⟨s1,s2,s3⟩:=hSw;first | (apply Eq.trans;apply ex_ld_id;exact rfl;exact rfl;assumption;with_reducible rfl) | (apply Eq.trans;apply ex_ldR_at;exact rfl;exact rfl;assumption;with_reducible rfl) | (apply Eq.trans;apply ex_ldS_at;exact rfl;exact rfl;assumption;with_reducible rfl) | (apply Eq.trans;apply ex_bldT4_at;exact rfl;exact rfl;exact rfl;exact rfl;exact rfl;with_reducible rfl) | (go_simp;try with_reducible rfl)
    try simp only [sA1,sA2,sA3,Act.put,sA4,sA5,sA6]
   refine wpAnyS_one hA rfl (fun K' hK=>?_)
   refine step_runI rfl _ _ (ex_bsR_at rfl rfl) ?_
   have fn:Fr noB wd (wd.alloc (codR.ro [r])):=(Fr.refl noB wd).alloc _
   have HSR:=Lib.hid (Cod.sl_new (C:=codR) wd [r])
   have HFE:=Lib.hid (HFB.out.step0 fn)
   have HRE:=Lib.hid (Cod.bxd_fr0 HRB.out fn)
   replace hF:=keep _ _ (fn.any (M:=oneB M)) hF
   refine hK.out _ _ hF (fun hA=>?_)
   clear hK K'
   clear fn
   generalize wd.alloc (codR.ro [r]) = we at hF HSR HFE HRE ⊢
   have HBS:=Lib.hid (show w3.heap.size ≤ wd.heap.size from (HF.out.step0 HFB.out).size)
   generalize wd.heap.size = BS at HSR HBS ⊢
   have HM0:=Lib.hid (mpT_fr0 HM.out HFE.out)
   have hat:=HKD.out.at_ r.Parent
   obtain ⟨born,w5,kv1,hme,hen,hup,fM,hz5⟩:=mpT_entry (t:=53) (E:=25) Tryz.underlying53 (z:=.slice none 0 0) ((zero_of_info (P:=Tryz.prog) (t:=25) (v:=.slice none 0 0) (n:=1) (by kernel_rfl)).1 _) HM0.out HWP.out
   rw [hat] at hme
   refine wpAnyS_one hA rfl (fun K' hK=>?_)
   refine step_runI rfl _ _ (ex_me_at rfl rfl rfl hme) ?_
   have HEN:=Lib.hid hen
   have HUP:=Lib.hid hup
   have HFM:=Lib.hid fM
   have HSR5:=Lib.hid (HSR.out)
   replace hF:=keep _ _ fM hF
   refine hK.out _ _ hF (fun hA=>?_)
   clear hK K'
   clear hme hen hup fM hz5 hat
   have HKD5:=Lib.hid (HKD.out.map fun v n l ho=>own_map (own_new0 ho HFE.out) HM0.out HFM.out)
   have HF5:=Lib.hid ((HF.out.step0 HFE.out).trans HFM.out fun _ _ h=>h)
   have HRB5:=Lib.hid (Cod.bxd_fr HRE.out HFM.out (by have:=HNW.out;show ¬ N = M;omega))
   have HSR5:=Lib.hid (HSR.out.fr HFM.out fun a ha e=>by
    injection ha with ha
    subst ha
    have e:BS = M:=e
    have:=HBS.out;have:=HNW.out
    omega)
   iterate 2
    refine wpAnyS_take (v:=?_) hA rfl (fun _ _ _ h=>h) (Or.inl ⟨by rfl,?_⟩) hF (fun hA=>?_)
    rotate_left
    ·intro wS hSw;(try dsimp only at hSw);obtain ⟨s1,s2,s3⟩:=hSw;first | (apply Eq.trans;apply ex_ld_id;exact rfl;exact rfl;assumption;with_reducible rfl) | (apply Eq.trans;apply ex_ldR_at;exact rfl;exact rfl;assumption;with_reducible rfl) | (apply Eq.trans;apply ex_ldS_at;exact rfl;exact rfl;assumption;with_reducible rfl) | (apply Eq.trans;apply ex_bldT4_at;exact rfl;exact rfl;exact rfl;exact rfl;exact rfl;with_reducible rfl) | (go_simp;try with_reducible rfl)
    try simp only [sA1,sA2,sA3,Act.put,sA4,sA5,sA6]
   refine wpAnyS_one hA rfl (fun K' hK=>?_)
   have hbs:=HF5.out.size
   refine step_appC' etR w3 _ rfl _ _ rfl (f r.Parent).1 (filZ (ws.take k) r.Parent).length (f r.Parent).2 (filZ (ws.take k) r.Parent) rfl rfl (HKD5.out.own r.Parent) (some ⟨BS,0,none⟩) 1 1 [r] rfl HSR5.out rfl (by have:=HNR.out r.Parent;simp;omega) hbs ?_
   intro A8 c8 w8 hc8 hmx8 ho8 hg8 hA8
   have fg:Fr (fun b=>(f r.Parent).1.map (·.block) = some b) w5 w8:=Fr.ofGrown hg8 fun g hg=>hg
   have hOL:=own_lt (HKD5.out.own r.Parent)
   have HOL:=Lib.hid hOL
   have HKD8:=Lib.hid (HKD5.out.snoc (r:=r) ho8 fg hA8 rfl)
   have HEN8:=Lib.hid (HEN.out.fr fg fun e=>by have:=(HOL.out M e).1;have:=HNW.out;omega)
   have HF8:=Lib.hid (HF5.out.step fg fun b hb=>.inl (HOL.out b hb).1)
   have HBK8:=Lib.hid (((HB.out.fr HFE.out (by simp [noB])).fr HFM.out (by have:=HNW.out;show ¬ S = M;omega)).fr fg fun e=>by have:=(HOL.out S e).1;have:=HNW.out;omega)
   have HRB8:=Lib.hid (Cod.bxd_fr HRB5.out fg fun e=>by
    have:=(own_lt (HKD.out.own r.Parent) N e).2
    have:=HN.out
    omega)
   replace hF:w8.cell? ⟨S,0,none⟩ = some (.map (some M)) ∧ codS.rd w8 N 2 = some r.Parent ∧ codR.rd w8 N 0 = some r:=by
    have qq:=rwAt (Cod.bxd_rd HRB8.out)
    exact ⟨cellZ_fr hF.1 fg (fun e=>by have:=(HOL.out S e).1;have:=HNW.out;omega),qq.parent,qq.self⟩
   refine hK.out _ _ hF (fun hA=>?_)
   clear hK K' hc8 hmx8 ho8 hg8 hA8 fg hOL hbs
   refine wpAnyS_end hA rfl ?_
   simp only [List.drop_succ_cons,List.drop_zero]
   clear hF keep
   obtain ⟨L,hL⟩:∃ L,L = (filZ (ws.take k) r.Parent ++ [r]).length:=⟨_,rfl⟩
   rw [← hL] at HKD8 ⊢
   have HL:=Lib.hid hL
   clear hL
   obtain ⟨w9,hes,hmp9,fM9,hz9⟩:=HEN8.out.storeT 53 (.slice A8 L c8)
   rw [HUP.out] at hmp9
   have HKD9:=Lib.hid (HKD8.out.map fun v n l ho=>own_mapE ho HEN8.out.map fM9)
   have HF9:=Lib.hid (HF8.out.trans fM9 fun _ _ h=>h)
   have HRB9:=Lib.hid (Cod.bxd_fr HRB8.out fM9 (by have:=HNW.out;show ¬ N = M;omega))
   have HMP9:=Lib.hid hmp9
   have HBK9:=Lib.hid (HBK8.out.fr fM9 (by have:=HNW.out;show ¬ S = M;omega))
   clear hmp9 fM9 hz9 e1
   go_upto_region 8 with fail
   clear hes hA
   have m9:=HMP9.out
   have q1:=(rwAt (Cod.bxd_rd HRB9.out)).parent
   have k1:w9.cell? ⟨S,0,none⟩ = some (.map (some M)):=by rw [HBK9.out.cell];rfl
   have hl:(look (putL kv r.Parent (.slice A8 L c8)) r.Parent).getD (.slice none 0 0) = .slice A8 L c8:=by rw [look_putZ,if_pos rfl];rfl
   generalize putL kv r.Parent (.slice A8 L c8) = kv9 at HKD9 HMP9 m9 hl
   clear HKD8 HMP9 HUP HEN8 HEN HKD5 HSR5 HSR HRB5 HRB8 HRE HRB HFB HFE HFM HM0
   have hwp:=HWP.out
   go_big_quiet (fail)
   clear hwp
   have fq:=((Fr.refl noB w9).drewN nq)
   have HK2:=Lib.hid (HKD9.out.map fun v n l ho=>own_new0 ho fq)
   have HM2:=Lib.hid (mpT_fr0 m9 fq)
   have HF2:=Lib.hid (HF9.out.step0 fq)
   have HB2:=Lib.hid (HBK9.out.fr fq (by simp [noB]))
   clear fq q1 k1 m9 hl HKD9 HF9 HBK9 HRB9
   generalize w9.drewN nq = wq at HK2 HM2 HF2 HB2 ⊢
   by_cases hgt:999 < L
   ·have j1:(999:Int) < (L:Int):=by omega
    have hb0:=bxI_fr HP0.out.2 (HF3.out.step1 HF2.out HW12.out) (by simp [noB])
    have HBX:=Lib.hid hb0
    obtain ⟨p1,p2,p3⟩:=putB_fr hb0 zID
    have HG1:=Lib.hid p1
    have HG3:=Lib.hid p3
    have HGT:=Lib.hid hgt
    clear p1 p2 p3 hgt
    go_wp2_with fail
    refine bodyPost_ret (ret_id_tmp rfl _ _ R zID (by rfl) HG3.out) rfl ?_
    refine .inr ⟨fun hn=>?_,rfl,((HP0.out.1.step0 HF3.out).step1 HF2.out (by have:=HP0.out.1.size;have:=HW12.out;omega)).step1 HG1.out (by have:=HR.out;omega)⟩
    have h1:=(fil_at (P:=fun r x=>RwIn w1 r x) (fun r x h=>h.parent) r.Parent ws xs HK.out.inn.len HK.out.inn.at_).1
    have h2:=hn r.Parent
    have h3:=fil_take ws (k + 1) r.Parent
    rw [HTK.out,filZ_snoc,if_pos rfl,← HL.out] at h3
    have:=HGT.out
    omega
   ·have j1:¬ (999:Int) < (L:Int):=by omega
    have wk:wrap64 ((k:Int) + 1) = (k:Int) + 1:=IntWalk.wrap64_in _ (by have:=HLW.out;have:=HKL.out;omega)
    have HGT:=Lib.hid hgt
    clear hgt
    go_wp2_with fail
    go_roundg (ws.length - (k + 1))
    case measure=>have:=HKL.out;omega
    case rel=>exact ⟨k + 1,kv9,_,by first | exact congrArg (Value.int .i64) wk | simp,rfl,by have:=HKL.out;omega,by rw [HTK.out];exact HK2.out,HM2.out,HB2.out,HF2.out,fun p=>by
     rw [HTK.out,filZ_snoc]
     split
     ·rw [← HL.out];have:=HGT.out;omega
     ·exact HNR.out p⟩
  ·have hkw:k = ws.length:=by omega
   have i1:¬ (k:Int) < (ws.length:Int):=by omega
   subst hkw
   rw [List.take_of_length_le (Nat.le_refl _)] at HKD HNR
   clear hlt hk
   have hXM:X < w1.heap.size:=HX0.out.lt
   have hM3:M + 2 = w3.heap.size:=HSZ.out
   have hW1M:=HW12.out
   have HSV:=Lib.hid (HKD.out.sv (X:=X) (by omega) HB.out HM.out (by have:=HMS.out.2;omega) (by omega) (HK.out.inn.fr F1r.out) HK.out.hoff)
   have HN:=Lib.hid (show NarrowZ xs from fun p=>by
    rw [← (fil_at (P:=fun r x=>RwIn w1 r x) (fun r x h=>h.parent) p ws xs HK.out.inn.len HK.out.inn.at_).1]
    exact HNR.out p)
   have HXr:=Lib.hid (HX0.out.fr0 F1r.out)
   have HBR:=Lib.hid (bxI_fr HP0.out.2 F1r.out (by simp [noB]))
   have HZr:=Lib.hid (fun g hg=>Nat.lt_of_lt_of_le (HZ.out g hg) F1r.out.size)
   have HXM:=Lib.hid hXM
   have HLL:=Lib.hid (show o.length + (putsZ nameH xs xs.length trS).length ≤ 999999999 by
    have:=HLN.out
    unfold allZ at this
    simp only [List.length_append] at this
    omega)
   clear hXM hM3 hW1M HKD HNR HF HM HB
   go_upto_region 12 with (go_at_call 16;refine (svdir_any S M X kv HT.out HN.out xs.length trS rfl (hgt_fixed HT.out rfl) wr _ o HSV.out HZr.out HXr.out HLL.out).mono ?_;rintro e w4 ⟨rfl,hx4,f4⟩;obtain ⟨sub,hsub⟩:∃ s,s = nmZ nameH (itsZ nameH xs xs.length trS):=⟨_,rfl⟩;rw [← hsub];have HSB:=Lib.hid hsub;have HX4:=Lib.hid hx4;have HF4:=Lib.hid f4;clear hsub hx4 f4)
   -- REST
   obtain ⟨pf1,pf2,pf3⟩:=putB_fr (bxI_new w4 zID) sub
   have fs:Fr noB w4 (putB (w4.alloc (ido zID)) w4.heap.size sub):=((Fr.refl noB w4).alloc (ido zID)).step1 pf1 (Nat.le_refl _)
   have HXD:=Lib.hid (show X < w4.heap.size ∧ S < w4.heap.size ∧ R < w4.heap.size ∧ w4.heap.size < (putB (w4.alloc (ido zID)) w4.heap.size sub).heap.size from by
    have h1:=HXM.out;have h2:=F1r.out.size;have h3:=HF4.out.size;have h4:=HSV.out.blk.lt;have h5:=bxI_lt HBR.out
    rw [pf2,World.size_alloc]
    omega)
   have HSV5:=Lib.hid ((HSV.out.fr HF4.out).fr fs.any)
   have HBD:=Lib.hid pf3
   have HX5:=Lib.hid (HX4.out.fr0 fs)
   have HBR5:=Lib.hid (bxI_fr (bxI_fr HBR.out HF4.out (by have:=HXR.out;show ¬ R = X;omega)) fs (by simp [noB]))
   have HZ5:=Lib.hid (fun g hg=>Nat.lt_of_lt_of_le (HZr.out g hg) (Nat.le_trans HF4.out.size fs.size))
   have HF5:=Lib.hid (HF4.out.step0 fs)
   clear pf1 pf2 pf3 fs
   generalize putB (w4.alloc (ido zID)) w4.heap.size sub = w5 at HXD HSV5 HBD HX5 HBR5 HZ5 HF5 ⊢
   generalize w4.heap.size = D at HXD HBD ⊢
   have HL5:=Lib.hid (show (putAll o (putsZ nameH xs xs.length trS ++ dpZ (itsZ nameH xs xs.length trS))).length + (putsZ nameH xs xs.length zSt).length ≤ 999999998 by
    have h1:=putAll_le (putsZ nameH xs xs.length trS ++ dpZ (itsZ nameH xs xs.length trS)) o
    have:=HLN.out
    unfold allZ at this
    simp only [List.length_append,List.length_singleton] at this h1
    omega)
   clear HX4 HBR HZr HLL HXr HSV
   go_upto_region 15 with (go_at_call 17;refine (svitems_any S M X kv HT.out HN.out xs.length zSt rfl (hgt_fixed HT.out rfl) w5 _ _ HSV5.out HZ5.out HX5.out (by have:=HL5.out;omega)).mono ?_;rintro e w6 ⟨A6,c6,l6,rfl,ho6,hi6,hx6,f6⟩;have HO6:=Lib.hid ho6;have HI6:=Lib.hid hi6;have HX6:=Lib.hid hx6;have HF56:=Lib.hid f6;clear ho6 hi6 hx6 f6)
   have HL6:=Lib.hid (show l6.length ≤ 999 by
    rw [HI6.out.len]
    have h1:=HN.out zSt
    have h2:(itsZ nameH xs xs.length zSt).length ≤ (kidsZ xs zSt).length:=by
     cases xs.length with
     | zero=>exact Nat.zero_le _
     | succ k=>simp [itsZ]
    omega)
   have HBD6:=Lib.hid (bxI_fr HBD.out HF56.out (by have:=HXD.out;show ¬ D = X;omega))
   have HBR6:=Lib.hid (bxI_fr HBR5.out HF56.out (by have:=HXR.out;show ¬ R = X;omega))
   have HSV6:=Lib.hid (HSV5.out.fr HF56.out)
   have HZ6:=Lib.hid (fun g hg=>Nat.lt_of_lt_of_le (HZ5.out g hg) HF56.out.size)
   have HIR:=Lib.hid (fun w' (f:Fr (fun b=>A6.map (·.block) = some b) w6 w')=>show ItsIn w' (l6 ++ [tiZ sub]) (rootZ nameH xs) from by
    have:=root_in HO6.out HI6.out sub f
    rw [HSB.out] at this ⊢
    exact this)
   have HLP:=Lib.hid (show (putAll (putAll o (putsZ nameH xs xs.length trS ++ dpZ (itsZ nameH xs xs.length trS))) (putsZ nameH xs xs.length zSt)).length ≤ 1000000000 by
    have h1:=putAll_le (putsZ nameH xs xs.length zSt) (putAll o (putsZ nameH xs xs.length trS ++ dpZ (itsZ nameH xs xs.length trS)))
    have:=HL5.out
    omega)
   have HOL:=Lib.hid (own_lt HO6.out)
   clear HSV5 HBR5 HBD HZ5 HX5 HL5
   go_upto_region 17 with fail
   have fd:Fr noB w6 w6.drew:=(Fr.refl noB w6).drew
   have hF0:rdI w6.drew D 0 = some sub:=bxI_rd (bxI_fr HBD6.out fd (by simp [noB]))
   have HC:=Lib.hid fd
   have keep:∀ w' w'':World,Fr noB w' w'' → rdI w' D 0 = some sub → rdI w'' D 0 = some sub:=fun w' w'' f h=>rdI_fr h (rdI_lt h) f (by simp [noB])
   clear fd
   refine wp_region_T 14 15 [⟨2361183241434822606848,64,0⟩,⟨4722366482869645213696,2048,0⟩,⟨9444732965739290427392,0,0⟩,⟨18889465931478580854784,0,4⟩,⟨37778931862957161709568,512,0⟩,⟨75557863725914323419136,66113130760175032991744,28⟩,⟨151115727451828646838272,75557863725914323419136,32⟩,⟨302231454903657293676544,155838093934698292051968,74⟩,⟨604462909807314587353088,304592638145092116283392,129⟩,⟨1180591620717411303424,604462909807314587353088,256⟩,⟨1208925819614629174706176,1180591620717411303424,512⟩,⟨2417851639229258349412352,1180591620717411303424,512⟩,⟨4096,0,0⟩,⟨0,1208925819614629174710272,6143⟩,⟨1024,2417851639229258349412352,16383⟩] (.take 0 (.take 1 (.take 4 (.two 2 12 (.two 3 12 (.take 5 (.two 6 12 (.two 7 12 (.two 8 12 (.take 9 (.take 10 (.take 11 (.one 12 (.one 13 .done))))) (.one 8 (.take 9 (.take 10 (.take 11 (.one 13 .done)))))) (.one 7 (.one 8 (.take 9 (.take 10 (.take 11 (.one 13 .done))))))) (.one 6 (.one 7 (.one 8 (.take 9 (.take 10 (.take 11 (.one 13 .done))))))))) (.one 3 (.take 5 (.one 6 (.one 7 (.one 8 (.take 9 (.take 10 (.take 11 (.one 13 .done)))))))))) (.one 2 (.one 3 (.take 5 (.one 6 (.one 7 (.one 8 (.take 9 (.take 10 (.take 11 (.one 13 .done)))))))))))))) (fun w'=>rdI w' D 0 = some sub) (by kernel_rfl) rfl (by kernel_rfl) (by kernel_rfl) (by kernel_rfl) hF0 (fun hA hF=>?_)
   clear hF0
   generalize w6.drew = v0 at hF HC ⊢
   iterate 3
    refine wpAnyT_take (v:=?_) hA rfl (fun _ _ _ h=>h) (Or.inl ⟨by rfl,?_⟩) hF (fun hA=>?_)
    rotate_left
    ·intro wS hSw;(try dsimp only at hSw);obtain s1:=hSw;first | (apply Eq.trans;apply ex_ld_id;exact rfl;exact rfl;assumption;with_reducible rfl) | (apply Eq.trans;apply ex_ldR_at;exact rfl;exact rfl;assumption;with_reducible rfl) | (apply Eq.trans;apply ex_ldS_at;exact rfl;exact rfl;assumption;with_reducible rfl) | (apply Eq.trans;apply ex_bldT4_at;exact rfl;exact rfl;exact rfl;exact rfl;exact rfl;with_reducible rfl) | (go_simp;try with_reducible rfl)
    try simp only [sA1,sA2,sA3,Act.put,sA4,sA5,sA6]
   refine wpAnyT_two (i:=2) (j:=12) hA rfl rfl (fun K' hK=>?_) (fun K' hK=>?_)
   ·rw [if_pos (by rfl)]
    go_simp
    go_at_call 19
    refine (last_any v0).mono ?_
    rintro e v1 ⟨rfl,fv⟩
    have HC:=Lib.hid (HC.out.step0 fv)
    replace hF:=keep _ _ fv hF
    refine hK.out _ _ hF (fun hA=>?_)
    clear hK K' fv
    try simp only [sA1,sA2,sA3,Act.put,sA4,sA5,sA6]
    refine wpAnyT_two (i:=3) (j:=12) hA rfl rfl (fun K' hK=>?_) (fun K' hK=>?_)
    ·rw [if_pos (by rfl)]
     go_simp
     go_at_call 19
     refine (last_any v1).mono ?_
     rintro e v2 ⟨rfl,fv⟩
     have HC:=Lib.hid (HC.out.step0 fv)
     replace hF:=keep _ _ fv hF
     refine hK.out _ _ hF (fun hA=>?_)
     clear hK K' fv
     try simp only [sA1,sA2,sA3,Act.put,sA4,sA5,sA6]
     refine wpAnyT_take (v:=?_) hA rfl (fun _ _ _ h=>h) (Or.inl ⟨by rfl,?_⟩) hF (fun hA=>?_)
     rotate_left
     ·intro wS hSw;(try dsimp only at hSw);obtain s1:=hSw;first | (apply Eq.trans;apply ex_ld_id;exact rfl;exact rfl;assumption;with_reducible rfl) | (apply Eq.trans;apply ex_ldR_at;exact rfl;exact rfl;assumption;with_reducible rfl) | (apply Eq.trans;apply ex_ldS_at;exact rfl;exact rfl;assumption;with_reducible rfl) | (apply Eq.trans;apply ex_bldT4_at;exact rfl;exact rfl;exact rfl;exact rfl;exact rfl;with_reducible rfl) | (go_simp;try with_reducible rfl)
     try simp only [sA1,sA2,sA3,Act.put,sA4,sA5,sA6]
     refine wpAnyT_two (i:=6) (j:=12) hA rfl rfl (fun K' hK=>?_) (fun K' hK=>?_)
     ·refine step_runI rfl _ _ (ex_bsT_at rfl rfl) ?_
      have fv:Fr noB v2 (v2.alloc (codT.ro [tiZ sub])):=(Fr.refl noB v2).alloc _
      have HTR:=Lib.hid (Cod.sl_new (C:=codT) v2 [tiZ sub])
      have HC:=Lib.hid (HC.out.step0 fv)
      replace hF:=keep _ _ fv hF
      refine hK.out _ _ hF (fun hA=>?_)
      clear hK K' fv
      try simp only [sA1,sA2,sA3,Act.put,sA4,sA5,sA6]
      obtain ⟨TA,hta⟩:∃ T:Option Addr,T = some ⟨v2.heap.size,0,none⟩:=⟨_,rfl⟩
      rw [← hta] at HTR ⊢
      generalize v2.alloc (codT.ro [tiZ sub]) = v3 at hF HC HTR ⊢
      clear hta
      refine wpAnyT_two (i:=7) (j:=12) hA rfl rfl (fun K' hK=>?_) (fun K' hK=>?_)
      ·have ho7:=own_new0 HO6.out HC.out
       have hbs:=Nat.le_trans HF56.out.size HC.out.size
       have htr:=HTR.out
       refine step_appC' etT w5 _ rfl _ _ rfl A6 l6.length c6 l6 rfl rfl ho7 TA 1 1 [tiZ sub] rfl htr rfl (by have:=HL6.out;simp;omega) hbs ?_
       intro A8 c8 v4 hc8 hmx8 ho8 hg8 hA8
       have fv:Fr (fun b=>A6.map (·.block) = some b) v3 v4:=Fr.ofGrown hg8 fun g hg=>hg
       replace hF:=rdI_fr hF (rdI_lt hF) fv fun e=>by have:=(HOL.out _ e).1;have:=HXD.out;omega
       have HC2:=Lib.hid (show Fr (fun b=>A6.map (·.block) = some b) w6 v4 from (HC.out.any).trans fv fun _ _ h=>h)
       obtain ⟨l8,hl8⟩:∃ l:List ItW,l = l6 ++ [tiZ sub]:=⟨_,rfl⟩
       rw [← hl8] at ho8 ⊢
       have HO8:=Lib.hid ho8
       have HLE:=Lib.hid hl8
       clear hl8 ho8 hg8 hA8 hc8 hmx8 ho7 hbs htr
       refine hK.out _ _ hF (fun hA=>?_)
       clear hK K' fv
       try simp only [sA1,sA2,sA3,Act.put,sA4,sA5,sA6]
       refine wpAnyT_two (i:=8) (j:=12) hA rfl rfl (fun K' hK=>?_) (fun K' hK=>?_)
       ·rw [if_pos (by rfl)]
        go_simp
        go_at_call 18
        refine (svput_any v4 S M X (fun g=>Z g ∨ g = R) (fun g hg=>Nat.lt_of_lt_of_le (HZ6.out g hg) HC2.out.size) _ (HSV6.out.blk.fr HC2.out fun e=>by have:=(HOL.out S e).1;have:=HXD.out;omega) ((HX6.out.fr HC2.out (fun e=>by have:=(HOL.out X e).1;have:=HXD.out;omega) fun b hb=>.inr hb).sub fun g hg=>.inl hg) HLP.out A8 c8 l8.length l8 (rootZ nameH xs) rfl (Sl.own HO8.out) (by rw [HLE.out];exact HIR.out _ HC2.out) (right_root HT.out (HN.out zSt))).mono ?_
        rintro e v5 ⟨rfl,hx8,fv⟩
        have HX8:=Lib.hid hx8
        obtain ⟨res,hres⟩:∃ r,r = nameH (drB (rootZ nameH xs)):=⟨_,rfl⟩
        rw [← hres]
        have HRES:=Lib.hid hres
        replace hF:=rdI_fr hF (rdI_lt hF) fv (by have:=HXD.out;show ¬ D = X;omega)
        have HC3:=Lib.hid fv
        clear hx8 hres
        refine hK.out _ _ hF (fun hA=>?_)
        clear hK K' fv
        try simp only [sA1,sA2,sA3,Act.put,sA4,sA5,sA6]
        iterate 3
         refine wpAnyT_take (v:=?_) hA rfl (fun _ _ _ h=>h) (Or.inl ⟨by rfl,?_⟩) hF (fun hA=>?_)
         rotate_left
         ·intro wS hSw;(try dsimp only at hSw);obtain s1:=hSw;first | (apply Eq.trans;apply ex_ld_id;exact rfl;exact rfl;assumption;with_reducible rfl) | (apply Eq.trans;apply ex_ldR_at;exact rfl;exact rfl;assumption;with_reducible rfl) | (apply Eq.trans;apply ex_ldS_at;exact rfl;exact rfl;assumption;with_reducible rfl) | (apply Eq.trans;apply ex_bldT4_at;exact rfl;exact rfl;exact rfl;exact rfl;exact rfl;with_reducible rfl) | (go_simp;try with_reducible rfl)
         try simp only [sA1,sA2,sA3,Act.put,sA4,sA5,sA6]
        refine wpAnyT_one hA rfl (fun K' hK=>?_)
        refine step_runI rfl _ _ (ex_alI_at rfl) ?_
        have fv:Fr noB v5 (v5.alloc (ido zID)):=(Fr.refl noB v5).alloc _
        have HBB:=Lib.hid (And.intro (bxI_new v5 zID) (show w6.heap.size ≤ v5.heap.size from Nat.le_trans HC2.out.size HC3.out.size))
        have HC3:=Lib.hid (HC3.out.step0 fv)
        have HX8:=Lib.hid ((HX8.out.more.sub (Z':=fun g=>(Z g ∨ g = R) ∨ g = v5.heap.size) fun g hg=>hg.imp id fun e=>by omega).fr0 fv)
        replace hF:=keep _ _ fv hF
        refine hK.out _ _ hF (fun hA=>?_)
        clear hK K' fv
        try simp only [sA1,sA2,sA3,Act.put,sA4,sA5,sA6]
        generalize v5.alloc (ido zID) = v6 at hF HBB HC3 HX8 ⊢
        generalize v5.heap.size = B at HBB HX8 ⊢
        refine wpAnyT_one hA rfl (fun K' hK=>?_)
        rw [if_pos (by rfl)]
        refine zk_skip _ (ex_stI_at rfl rfl rfl HBB.out.1) ?_
        replace hF:=rdI_fr hF (rdI_lt hF) (putB_fr HBB.out.1 res).1 (by have:=HXD.out;have:=HBB.out.2;have:=HF56.out.size;show ¬ D = B;omega)
        refine hK.out _ _ hF (fun hA=>?_)
        clear hK K'
        try simp only [sA1,sA2,sA3,Act.put,sA4,sA5,sA6]
        refine wpAnyT_end hA rfl ?_
        simp only [List.drop_succ_cons,List.drop_zero]
        clear hF keep
        have HBR7:=Lib.hid (bxI_fr (bxI_fr HBR6.out HC2.out fun e=>by have:=(HOL.out R e).1;have:=HXD.out;omega) HC3.out (by have:=HXR.out;show ¬ R = X;omega))
        have HBW:=Lib.hid (show R < w6.heap.size ∧ D < w6.heap.size ∧ w.heap.size ≤ w5.heap.size from by
         have h1:=HXD.out;have h2:=HF56.out.size;have h3:=HR.out
         omega)
        obtain ⟨g1,g2,g3⟩:=putB_fr HBB.out.1 res
        have HG1:=Lib.hid g1
        have hb9:=bxI_rd g3
        have hbr9:=bxI_fr HBR7.out g1 (by have:=HBW.out;have:=HBB.out.2;show ¬ R = B;omega)
        clear g1 g2 g3
        generalize putB v6 B res = w9 at HG1 hb9 hbr9 ⊢
        obtain ⟨g1,g2,g3⟩:=putB_fr hbr9 res
        have HH1:=Lib.hid g1
        have HH3:=Lib.hid g3
        clear g1 g2 g3 i1
        go_wp2_with fail
        refine bodyPost_ret (ret_id_tmp rfl _ _ R res (by rfl) HH3.out) rfl ?_
        refine .inl ⟨HN.out,by rw [HRES.out];rfl,?_,?_⟩
        ·have e:putAll o (allZ nameH xs) = putX (putAll (putAll o (putsZ nameH xs xs.length trS ++ dpZ (itsZ nameH xs xs.length trS))) (putsZ nameH xs xs.length zSt)) (drB (rootZ nameH xs)):=by
          unfold allZ
          rw [putAll_app,putAll_app]
          rfl
         rw [e]
         exact ((HX8.out.fr HG1.out (by have:=HXD.out;have:=HBB.out.2;have:=HBW.out;show ¬ X = B;omega) fun b hb=>.inr hb).fr HH1.out (by have:=HXR.out;show ¬ X = R;omega) fun b hb=>.inl (.inr hb)).sub fun g hg=>.inl (.inl hg)
        ·have a1:Fr (oneB X) w w5:=((HP0.out.1.step0 F1r.out).any (M:=oneB X)).trans HF5.out fun _ _ h=>h
         have a2:Fr (oneB X) w w6:=a1.trans HF56.out fun _ _ h=>h
         have a3:Fr (oneB X) w _:=a2.step HC2.out fun b hb=>.inl (by have:=(HOL.out b hb).1;have:=HBW.out;omega)
         have a4:Fr (oneB X) w _:=a3.trans HC3.out fun _ _ h=>h
         exact (a4.step1 HG1.out (by have:=HBB.out.2;have:=a2.size;omega)).step1 HH1.out (by have:=HR.out;omega)
       ·refine step_runI rfl _ _ (ex_alI_at rfl) ?_
        have fv:Fr noB v4 (v4.alloc (ido zID)):=(Fr.refl noB v4).alloc _
        have HBB:=Lib.hid (And.intro (bxI_new v4 zID) (show w6.heap.size ≤ v4.heap.size from HC2.out.size))
        have HC2:=Lib.hid (HC2.out.step0 fv)
        have HO8:=Lib.hid (own_new0 HO8.out fv)
        replace hF:=keep _ _ fv hF
        refine hK.out _ _ hF (fun hA=>?_)
        clear hK K' fv
        try simp only [sA1,sA2,sA3,Act.put,sA4,sA5,sA6]
        generalize v4.alloc (ido zID) = v7 at hF HBB HC2 HO8 ⊢
        generalize v4.heap.size = B at HBB ⊢
        refine wpAnyT_one hA rfl (fun K' hK=>?_)
        rw [if_pos (by rfl)]
        go_simp
        go_at_call 18
        refine (svput_any v7 S M X (fun g=>(Z g ∨ g = R) ∨ g = B) (fun g hg=>hg.elim (fun h=>Nat.lt_of_lt_of_le (HZ6.out g h) HC2.out.size) fun h=>by rw [h];exact bxI_lt HBB.out.1) _ (HSV6.out.blk.fr HC2.out fun e=>by have:=(HOL.out S e).1;have:=HXD.out;omega) ((HX6.out.more.fr HC2.out (fun e=>by have:=(HOL.out X e).1;have:=HXD.out;omega) fun b hb=>.inl (.inr hb)).sub fun g hg=>hg.elim (fun h=>.inl (.inl h)) fun h=>.inr (by rw [h];exact HBB.out.2)) HLP.out A8 c8 l8.length l8 (rootZ nameH xs) rfl (Sl.own HO8.out) (by rw [HLE.out];exact HIR.out _ HC2.out) (right_root HT.out (HN.out zSt))).mono ?_
        rintro e v8 ⟨rfl,hx8,fv⟩
        have HX8:=Lib.hid hx8
        obtain ⟨res,hres⟩:∃ r,r = nameH (drB (rootZ nameH xs)):=⟨_,rfl⟩
        rw [← hres]
        have HRES:=Lib.hid hres
        have HBB:=Lib.hid (And.intro (bxI_fr HBB.out.1 fv (by have:=HXD.out;have:=HBB.out.2;have:=HF56.out.size;show ¬ B = X;omega)) HBB.out.2)
        replace hF:=rdI_fr hF (rdI_lt hF) fv (by have:=HXD.out;show ¬ D = X;omega)
        have HC3:=Lib.hid fv
        clear hx8 hres
        refine hK.out _ _ hF (fun hA=>?_)
        clear hK K' fv
        try simp only [sA1,sA2,sA3,Act.put,sA4,sA5,sA6]
        iterate 3
         refine wpAnyT_take (v:=?_) hA rfl (fun _ _ _ h=>h) (Or.inl ⟨by rfl,?_⟩) hF (fun hA=>?_)
         rotate_left
         ·intro wS hSw;(try dsimp only at hSw);obtain s1:=hSw;first | (apply Eq.trans;apply ex_ld_id;exact rfl;exact rfl;assumption;with_reducible rfl) | (apply Eq.trans;apply ex_ldR_at;exact rfl;exact rfl;assumption;with_reducible rfl) | (apply Eq.trans;apply ex_ldS_at;exact rfl;exact rfl;assumption;with_reducible rfl) | (apply Eq.trans;apply ex_bldT4_at;exact rfl;exact rfl;exact rfl;exact rfl;exact rfl;with_reducible rfl) | (go_simp;try with_reducible rfl)
         try simp only [sA1,sA2,sA3,Act.put,sA4,sA5,sA6]
        refine wpAnyT_one hA rfl (fun K' hK=>?_)
        rw [if_pos (by rfl)]
        refine zk_skip _ (ex_stI_at rfl rfl rfl HBB.out.1) ?_
        replace hF:=rdI_fr hF (rdI_lt hF) (putB_fr HBB.out.1 res).1 (by have:=HXD.out;have:=HBB.out.2;have:=HF56.out.size;show ¬ D = B;omega)
        refine hK.out _ _ hF (fun hA=>?_)
        clear hK K'
        try simp only [sA1,sA2,sA3,Act.put,sA4,sA5,sA6]
        refine wpAnyT_end hA rfl ?_
        simp only [List.drop_succ_cons,List.drop_zero]
        clear hF keep
        have HBR7:=Lib.hid (bxI_fr (bxI_fr HBR6.out HC2.out fun e=>by have:=(HOL.out R e).1;have:=HXD.out;omega) HC3.out (by have:=HXR.out;show ¬ R = X;omega))
        have HBW:=Lib.hid (show R < w6.heap.size ∧ D < w6.heap.size ∧ w.heap.size ≤ w5.heap.size from by
         have h1:=HXD.out;have h2:=HF56.out.size;have h3:=HR.out
         omega)
        obtain ⟨g1,g2,g3⟩:=putB_fr HBB.out.1 res
        have HG1:=Lib.hid g1
        have hb9:=bxI_rd g3
        have hbr9:=bxI_fr HBR7.out g1 (by have:=HBW.out;have:=HBB.out.2;show ¬ R = B;omega)
        clear g1 g2 g3
        generalize putB v8 B res = w9 at HG1 hb9 hbr9 ⊢
        obtain ⟨g1,g2,g3⟩:=putB_fr hbr9 res
        have HH1:=Lib.hid g1
        have HH3:=Lib.hid g3
        clear g1 g2 g3 i1
        go_wp2_with fail
        refine bodyPost_ret (ret_id_tmp rfl _ _ R res (by rfl) HH3.out) rfl ?_
        refine .inl ⟨HN.out,by rw [HRES.out];rfl,?_,?_⟩
        ·have e:putAll o (allZ nameH xs) = putX (putAll (putAll o (putsZ nameH xs xs.length trS ++ dpZ (itsZ nameH xs xs.length trS))) (putsZ nameH xs xs.length zSt)) (drB (rootZ nameH xs)):=by
          unfold allZ
          rw [putAll_app,putAll_app]
          rfl
         rw [e]
         exact ((HX8.out.fr HG1.out (by have:=HXD.out;have:=HBB.out.2;have:=HBW.out;show ¬ X = B;omega) fun b hb=>.inr hb).fr HH1.out (by have:=HXR.out;show ¬ X = R;omega) fun b hb=>.inl (.inr hb)).sub fun g hg=>.inl (.inl hg)
        ·have a1:Fr (oneB X) w w5:=((HP0.out.1.step0 F1r.out).any (M:=oneB X)).trans HF5.out fun _ _ h=>h
         have a2:Fr (oneB X) w w6:=a1.trans HF56.out fun _ _ h=>h
         have a3:Fr (oneB X) w _:=a2.step HC2.out fun b hb=>.inl (by have:=(HOL.out b hb).1;have:=HBW.out;omega)
         have a4:Fr (oneB X) w _:=a3.trans HC3.out fun _ _ h=>h
         exact (a4.step1 HG1.out (by have:=HBB.out.2;have:=a2.size;omega)).step1 HH1.out (by have:=HR.out;omega)
      ·refine step_runI rfl _ _ (ex_alI_at rfl) ?_
       have fv:Fr noB v3 (v3.alloc (ido zID)):=(Fr.refl noB v3).alloc _
       have HBB:=Lib.hid (And.intro (bxI_new v3 zID) (show w6.heap.size ≤ v3.heap.size from HC.out.size))
       have HC:=Lib.hid (HC.out.step0 fv)
       have HTR:=Lib.hid (HTR.out.fr0 fv)
       replace hF:=keep _ _ fv hF
       refine hK.out _ _ hF (fun hA=>?_)
       clear hK K' fv
       try simp only [sA1,sA2,sA3,Act.put,sA4,sA5,sA6]
       generalize v3.alloc (ido zID) = v9 at hF HBB HC HTR ⊢
       generalize v3.heap.size = B at HBB ⊢
       refine wpAnyT_one hA rfl (fun K' hK=>?_)
       have ho7:=own_new0 HO6.out HC.out
       have hbs:=Nat.le_trans HF56.out.size HC.out.size
       have htr:=HTR.out
       refine step_appC' etT w5 _ rfl _ _ rfl A6 l6.length c6 l6 rfl rfl ho7 TA 1 1 [tiZ sub] rfl htr rfl (by have:=HL6.out;simp;omega) hbs ?_
       intro A8 c8 v10 hc8 hmx8 ho8 hg8 hA8
       have fv:Fr (fun b=>A6.map (·.block) = some b) v9 v10:=Fr.ofGrown hg8 fun g hg=>hg
       have HBB:=Lib.hid (And.intro (bxI_fr HBB.out.1 fv fun e=>by have:=(HOL.out _ e).2;have:=HBB.out.2;omega) HBB.out.2)
       replace hF:=rdI_fr hF (rdI_lt hF) fv fun e=>by have:=(HOL.out _ e).1;have:=HXD.out;omega
       have HC2:=Lib.hid (show Fr (fun b=>A6.map (·.block) = some b) w6 v10 from (HC.out.any).trans fv fun _ _ h=>h)
       obtain ⟨l8,hl8⟩:∃ l:List ItW,l = l6 ++ [tiZ sub]:=⟨_,rfl⟩
       rw [← hl8] at ho8 ⊢
       have HO8:=Lib.hid ho8
       have HLE:=Lib.hid hl8
       clear hl8 ho8 hg8 hA8 hc8 hmx8 ho7 hbs htr
       refine hK.out _ _ hF (fun hA=>?_)
       clear hK K' fv
       try simp only [sA1,sA2,sA3,Act.put,sA4,sA5,sA6]
       refine wpAnyT_one hA rfl (fun K' hK=>?_)
       rw [if_pos (by rfl)]
       go_simp
       go_at_call 18
       refine (svput_any v10 S M X (fun g=>(Z g ∨ g = R) ∨ g = B) (fun g hg=>hg.elim (fun h=>Nat.lt_of_lt_of_le (HZ6.out g h) HC2.out.size) fun h=>by rw [h];exact bxI_lt HBB.out.1) _ (HSV6.out.blk.fr HC2.out fun e=>by have:=(HOL.out S e).1;have:=HXD.out;omega) ((HX6.out.more.fr HC2.out (fun e=>by have:=(HOL.out X e).1;have:=HXD.out;omega) fun b hb=>.inl (.inr hb)).sub fun g hg=>hg.elim (fun h=>.inl (.inl h)) fun h=>.inr (by rw [h];exact HBB.out.2)) HLP.out A8 c8 l8.length l8 (rootZ nameH xs) rfl (Sl.own HO8.out) (by rw [HLE.out];exact HIR.out _ HC2.out) (right_root HT.out (HN.out zSt))).mono ?_
       rintro e v11 ⟨rfl,hx8,fv⟩
       have HX8:=Lib.hid hx8
       obtain ⟨res,hres⟩:∃ r,r = nameH (drB (rootZ nameH xs)):=⟨_,rfl⟩
       rw [← hres]
       have HRES:=Lib.hid hres
       have HBB:=Lib.hid (And.intro (bxI_fr HBB.out.1 fv (by have:=HXD.out;have:=HBB.out.2;have:=HF56.out.size;show ¬ B = X;omega)) HBB.out.2)
       replace hF:=rdI_fr hF (rdI_lt hF) fv (by have:=HXD.out;show ¬ D = X;omega)
       have HC3:=Lib.hid fv
       clear hx8 hres
       refine hK.out _ _ hF (fun hA=>?_)
       clear hK K' fv
       try simp only [sA1,sA2,sA3,Act.put,sA4,sA5,sA6]
       iterate 3
        refine wpAnyT_take (v:=?_) hA rfl (fun _ _ _ h=>h) (Or.inl ⟨by rfl,?_⟩) hF (fun hA=>?_)
        rotate_left
        ·intro wS hSw;(try dsimp only at hSw);obtain s1:=hSw;first | (apply Eq.trans;apply ex_ld_id;exact rfl;exact rfl;assumption;with_reducible rfl) | (apply Eq.trans;apply ex_ldR_at;exact rfl;exact rfl;assumption;with_reducible rfl) | (apply Eq.trans;apply ex_ldS_at;exact rfl;exact rfl;assumption;with_reducible rfl) | (apply Eq.trans;apply ex_bldT4_at;exact rfl;exact rfl;exact rfl;exact rfl;exact rfl;with_reducible rfl) | (go_simp;try with_reducible rfl)
        try simp only [sA1,sA2,sA3,Act.put,sA4,sA5,sA6]
       refine wpAnyT_one hA rfl (fun K' hK=>?_)
       rw [if_pos (by rfl)]
       refine zk_skip _ (ex_stI_at rfl rfl rfl HBB.out.1) ?_
       replace hF:=rdI_fr hF (rdI_lt hF) (putB_fr HBB.out.1 res).1 (by have:=HXD.out;have:=HBB.out.2;have:=HF56.out.size;show ¬ D = B;omega)
       refine hK.out _ _ hF (fun hA=>?_)
       clear hK K'
       try simp only [sA1,sA2,sA3,Act.put,sA4,sA5,sA6]
       refine wpAnyT_end hA rfl ?_
       simp only [List.drop_succ_cons,List.drop_zero]
       clear hF keep
       have HBR7:=Lib.hid (bxI_fr (bxI_fr HBR6.out HC2.out fun e=>by have:=(HOL.out R e).1;have:=HXD.out;omega) HC3.out (by have:=HXR.out;show ¬ R = X;omega))
       have HBW:=Lib.hid (show R < w6.heap.size ∧ D < w6.heap.size ∧ w.heap.size ≤ w5.heap.size from by
        have h1:=HXD.out;have h2:=HF56.out.size;have h3:=HR.out
        omega)
       obtain ⟨g1,g2,g3⟩:=putB_fr HBB.out.1 res
       have HG1:=Lib.hid g1
       have hb9:=bxI_rd g3
       have hbr9:=bxI_fr HBR7.out g1 (by have:=HBW.out;have:=HBB.out.2;show ¬ R = B;omega)
       clear g1 g2 g3
       generalize putB v11 B res = w9 at HG1 hb9 hbr9 ⊢
       obtain ⟨g1,g2,g3⟩:=putB_fr hbr9 res
       have HH1:=Lib.hid g1
       have HH3:=Lib.hid g3
       clear g1 g2 g3 i1
       go_wp2_with fail
       refine bodyPost_ret (ret_id_tmp rfl _ _ R res (by rfl) HH3.out) rfl ?_
       refine .inl ⟨HN.out,by rw [HRES.out];rfl,?_,?_⟩
       ·have e:putAll o (allZ nameH xs) = putX (putAll (putAll o (putsZ nameH xs xs.length trS ++ dpZ (itsZ nameH xs xs.length trS))) (putsZ nameH xs xs.length zSt)) (drB (rootZ nameH xs)):=by
         unfold allZ
         rw [putAll_app,putAll_app]
         rfl
        rw [e]
        exact ((HX8.out.fr HG1.out (by have:=HXD.out;have:=HBB.out.2;have:=HBW.out;show ¬ X = B;omega) fun b hb=>.inr hb).fr HH1.out (by have:=HXR.out;show ¬ X = R;omega) fun b hb=>.inl (.inr hb)).sub fun g hg=>.inl (.inl hg)
       ·have a1:Fr (oneB X) w w5:=((HP0.out.1.step0 F1r.out).any (M:=oneB X)).trans HF5.out fun _ _ h=>h
        have a2:Fr (oneB X) w w6:=a1.trans HF56.out fun _ _ h=>h
        have a3:Fr (oneB X) w _:=a2.step HC2.out fun b hb=>.inl (by have:=(HOL.out b hb).1;have:=HBW.out;omega)
        have a4:Fr (oneB X) w _:=a3.trans HC3.out fun _ _ h=>h
        exact (a4.step1 HG1.out (by have:=HBB.out.2;have:=a2.size;omega)).step1 HH1.out (by have:=HR.out;omega)
     ·refine step_runI rfl _ _ (ex_alI_at rfl) ?_
      have fv:Fr noB v2 (v2.alloc (ido zID)):=(Fr.refl noB v2).alloc _
      have HBB:=Lib.hid (And.intro (bxI_new v2 zID) (show w6.heap.size ≤ v2.heap.size from HC.out.size))
      have HC:=Lib.hid (HC.out.step0 fv)
      replace hF:=keep _ _ fv hF
      refine hK.out _ _ hF (fun hA=>?_)
      clear hK K' fv
      try simp only [sA1,sA2,sA3,Act.put,sA4,sA5,sA6]
      generalize v2.alloc (ido zID) = v12 at hF HBB HC ⊢
      generalize v2.heap.size = B at HBB ⊢
      refine wpAnyT_one hA rfl (fun K' hK=>?_)
      refine step_runI rfl _ _ (ex_bsT_at rfl rfl) ?_
      have fv:Fr noB v12 (v12.alloc (codT.ro [tiZ sub])):=(Fr.refl noB v12).alloc _
      have HTR:=Lib.hid (Cod.sl_new (C:=codT) v12 [tiZ sub])
      have HBB:=Lib.hid (And.intro (bxI_fr HBB.out.1 fv (by simp [noB])) HBB.out.2)
      have HC:=Lib.hid (HC.out.step0 fv)
      replace hF:=keep _ _ fv hF
      refine hK.out _ _ hF (fun hA=>?_)
      clear hK K' fv
      try simp only [sA1,sA2,sA3,Act.put,sA4,sA5,sA6]
      obtain ⟨TA,hta⟩:∃ T:Option Addr,T = some ⟨v12.heap.size,0,none⟩:=⟨_,rfl⟩
      rw [← hta] at HTR ⊢
      generalize v12.alloc (codT.ro [tiZ sub]) = v13 at hF HC HTR HBB ⊢
      clear hta
      refine wpAnyT_one hA rfl (fun K' hK=>?_)
      have ho7:=own_new0 HO6.out HC.out
      have hbs:=Nat.le_trans HF56.out.size HC.out.size
      have htr:=HTR.out
      refine step_appC' etT w5 _ rfl _ _ rfl A6 l6.length c6 l6 rfl rfl ho7 TA 1 1 [tiZ sub] rfl htr rfl (by have:=HL6.out;simp;omega) hbs ?_
      intro A8 c8 v14 hc8 hmx8 ho8 hg8 hA8
      have fv:Fr (fun b=>A6.map (·.block) = some b) v13 v14:=Fr.ofGrown hg8 fun g hg=>hg
      have HBB:=Lib.hid (And.intro (bxI_fr HBB.out.1 fv fun e=>by have:=(HOL.out _ e).2;have:=HBB.out.2;omega) HBB.out.2)
      replace hF:=rdI_fr hF (rdI_lt hF) fv fun e=>by have:=(HOL.out _ e).1;have:=HXD.out;omega
      have HC2:=Lib.hid (show Fr (fun b=>A6.map (·.block) = some b) w6 v14 from (HC.out.any).trans fv fun _ _ h=>h)
      obtain ⟨l8,hl8⟩:∃ l:List ItW,l = l6 ++ [tiZ sub]:=⟨_,rfl⟩
      rw [← hl8] at ho8 ⊢
      have HO8:=Lib.hid ho8
      have HLE:=Lib.hid hl8
      clear hl8 ho8 hg8 hA8 hc8 hmx8 ho7 hbs htr
      refine hK.out _ _ hF (fun hA=>?_)
      clear hK K' fv
      try simp only [sA1,sA2,sA3,Act.put,sA4,sA5,sA6]
      refine wpAnyT_one hA rfl (fun K' hK=>?_)
      rw [if_pos (by rfl)]
      go_simp
      go_at_call 18
      refine (svput_any v14 S M X (fun g=>(Z g ∨ g = R) ∨ g = B) (fun g hg=>hg.elim (fun h=>Nat.lt_of_lt_of_le (HZ6.out g h) HC2.out.size) fun h=>by rw [h];exact bxI_lt HBB.out.1) _ (HSV6.out.blk.fr HC2.out fun e=>by have:=(HOL.out S e).1;have:=HXD.out;omega) ((HX6.out.more.fr HC2.out (fun e=>by have:=(HOL.out X e).1;have:=HXD.out;omega) fun b hb=>.inl (.inr hb)).sub fun g hg=>hg.elim (fun h=>.inl (.inl h)) fun h=>.inr (by rw [h];exact HBB.out.2)) HLP.out A8 c8 l8.length l8 (rootZ nameH xs) rfl (Sl.own HO8.out) (by rw [HLE.out];exact HIR.out _ HC2.out) (right_root HT.out (HN.out zSt))).mono ?_
      rintro e v15 ⟨rfl,hx8,fv⟩
      have HX8:=Lib.hid hx8
      obtain ⟨res,hres⟩:∃ r,r = nameH (drB (rootZ nameH xs)):=⟨_,rfl⟩
      rw [← hres]
      have HRES:=Lib.hid hres
      have HBB:=Lib.hid (And.intro (bxI_fr HBB.out.1 fv (by have:=HXD.out;have:=HBB.out.2;have:=HF56.out.size;show ¬ B = X;omega)) HBB.out.2)
      replace hF:=rdI_fr hF (rdI_lt hF) fv (by have:=HXD.out;show ¬ D = X;omega)
      have HC3:=Lib.hid fv
      clear hx8 hres
      refine hK.out _ _ hF (fun hA=>?_)
      clear hK K' fv
      try simp only [sA1,sA2,sA3,Act.put,sA4,sA5,sA6]
      iterate 3
       refine wpAnyT_take (v:=?_) hA rfl (fun _ _ _ h=>h) (Or.inl ⟨by rfl,?_⟩) hF (fun hA=>?_)
       rotate_left
       ·intro wS hSw;(try dsimp only at hSw);obtain s1:=hSw;first | (apply Eq.trans;apply ex_ld_id;exact rfl;exact rfl;assumption;with_reducible rfl) | (apply Eq.trans;apply ex_ldR_at;exact rfl;exact rfl;assumption;with_reducible rfl) | (apply Eq.trans;apply ex_ldS_at;exact rfl;exact rfl;assumption;with_reducible rfl) | (apply Eq.trans;apply ex_bldT4_at;exact rfl;exact rfl;exact rfl;exact rfl;exact rfl;with_reducible rfl) | (go_simp;try with_reducible rfl)
       try simp only [sA1,sA2,sA3,Act.put,sA4,sA5,sA6]
      refine wpAnyT_one hA rfl (fun K' hK=>?_)
      rw [if_pos (by rfl)]
      refine zk_skip _ (ex_stI_at rfl rfl rfl HBB.out.1) ?_
      replace hF:=rdI_fr hF (rdI_lt hF) (putB_fr HBB.out.1 res).1 (by have:=HXD.out;have:=HBB.out.2;have:=HF56.out.size;show ¬ D = B;omega)
      refine hK.out _ _ hF (fun hA=>?_)
      clear hK K'
      try simp only [sA1,sA2,sA3,Act.put,sA4,sA5,sA6]
      refine wpAnyT_end hA rfl ?_
      simp only [List.drop_succ_cons,List.drop_zero]
      clear hF keep
      have HBR7:=Lib.hid (bxI_fr (bxI_fr HBR6.out HC2.out fun e=>by have:=(HOL.out R e).1;have:=HXD.out;omega) HC3.out (by have:=HXR.out;show ¬ R = X;omega))
      have HBW:=Lib.hid (show R < w6.heap.size ∧ D < w6.heap.size ∧ w.heap.size ≤ w5.heap.size from by
       have h1:=HXD.out;have h2:=HF56.out.size;have h3:=HR.out
       omega)
      obtain ⟨g1,g2,g3⟩:=putB_fr HBB.out.1 res
      have HG1:=Lib.hid g1
      have hb9:=bxI_rd g3
      have hbr9:=bxI_fr HBR7.out g1 (by have:=HBW.out;have:=HBB.out.2;show ¬ R = B;omega)
      clear g1 g2 g3
      generalize putB v15 B res = w9 at HG1 hb9 hbr9 ⊢
      obtain ⟨g1,g2,g3⟩:=putB_fr hbr9 res
      have HH1:=Lib.hid g1
      have HH3:=Lib.hid g3
      clear g1 g2 g3 i1
      go_wp2_with fail
      refine bodyPost_ret (ret_id_tmp rfl _ _ R res (by rfl) HH3.out) rfl ?_
      refine .inl ⟨HN.out,by rw [HRES.out];rfl,?_,?_⟩
      ·have e:putAll o (allZ nameH xs) = putX (putAll (putAll o (putsZ nameH xs xs.length trS ++ dpZ (itsZ nameH xs xs.length trS))) (putsZ nameH xs xs.length zSt)) (drB (rootZ nameH xs)):=by
        unfold allZ
        rw [putAll_app,putAll_app]
        rfl
       rw [e]
       exact ((HX8.out.fr HG1.out (by have:=HXD.out;have:=HBB.out.2;have:=HBW.out;show ¬ X = B;omega) fun b hb=>.inr hb).fr HH1.out (by have:=HXR.out;show ¬ X = R;omega) fun b hb=>.inl (.inr hb)).sub fun g hg=>.inl (.inl hg)
      ·have a1:Fr (oneB X) w w5:=((HP0.out.1.step0 F1r.out).any (M:=oneB X)).trans HF5.out fun _ _ h=>h
       have a2:Fr (oneB X) w w6:=a1.trans HF56.out fun _ _ h=>h
       have a3:Fr (oneB X) w _:=a2.step HC2.out fun b hb=>.inl (by have:=(HOL.out b hb).1;have:=HBW.out;omega)
       have a4:Fr (oneB X) w _:=a3.trans HC3.out fun _ _ h=>h
       exact (a4.step1 HG1.out (by have:=HBB.out.2;have:=a2.size;omega)).step1 HH1.out (by have:=HR.out;omega)
    ·refine step_runI rfl _ _ (ex_alI_at rfl) ?_
     have fv:Fr noB v1 (v1.alloc (ido zID)):=(Fr.refl noB v1).alloc _
     have HBB:=Lib.hid (And.intro (bxI_new v1 zID) (show w6.heap.size ≤ v1.heap.size from HC.out.size))
     have HC:=Lib.hid (HC.out.step0 fv)
     replace hF:=keep _ _ fv hF
     refine hK.out _ _ hF (fun hA=>?_)
     clear hK K' fv
     try simp only [sA1,sA2,sA3,Act.put,sA4,sA5,sA6]
     generalize v1.alloc (ido zID) = v16 at hF HBB HC ⊢
     generalize v1.heap.size = B at HBB ⊢
     refine wpAnyT_one hA rfl (fun K' hK=>?_)
     rw [if_pos (by rfl)]
     go_simp
     go_at_call 19
     refine (last_any v16).mono ?_
     rintro e v17 ⟨rfl,fv⟩
     have HBB:=Lib.hid (And.intro (bxI_fr HBB.out.1 fv (by simp [noB])) HBB.out.2)
     have HC:=Lib.hid (HC.out.step0 fv)
     replace hF:=keep _ _ fv hF
     refine hK.out _ _ hF (fun hA=>?_)
     clear hK K' fv
     try simp only [sA1,sA2,sA3,Act.put,sA4,sA5,sA6]
     refine wpAnyT_take (v:=?_) hA rfl (fun _ _ _ h=>h) (Or.inl ⟨by rfl,?_⟩) hF (fun hA=>?_)
     rotate_left
     ·intro wS hSw;(try dsimp only at hSw);obtain s1:=hSw;first | (apply Eq.trans;apply ex_ld_id;exact rfl;exact rfl;assumption;with_reducible rfl) | (apply Eq.trans;apply ex_ldR_at;exact rfl;exact rfl;assumption;with_reducible rfl) | (apply Eq.trans;apply ex_ldS_at;exact rfl;exact rfl;assumption;with_reducible rfl) | (apply Eq.trans;apply ex_bldT4_at;exact rfl;exact rfl;exact rfl;exact rfl;exact rfl;with_reducible rfl) | (go_simp;try with_reducible rfl)
     try simp only [sA1,sA2,sA3,Act.put,sA4,sA5,sA6]
     refine wpAnyT_one hA rfl (fun K' hK=>?_)
     refine step_runI rfl _ _ (ex_bsT_at rfl rfl) ?_
     have fv:Fr noB v17 (v17.alloc (codT.ro [tiZ sub])):=(Fr.refl noB v17).alloc _
     have HTR:=Lib.hid (Cod.sl_new (C:=codT) v17 [tiZ sub])
     have HBB:=Lib.hid (And.intro (bxI_fr HBB.out.1 fv (by simp [noB])) HBB.out.2)
     have HC:=Lib.hid (HC.out.step0 fv)
     replace hF:=keep _ _ fv hF
     refine hK.out _ _ hF (fun hA=>?_)
     clear hK K' fv
     try simp only [sA1,sA2,sA3,Act.put,sA4,sA5,sA6]
     obtain ⟨TA,hta⟩:∃ T:Option Addr,T = some ⟨v17.heap.size,0,none⟩:=⟨_,rfl⟩
     rw [← hta] at HTR ⊢
     generalize v17.alloc (codT.ro [tiZ sub]) = v18 at hF HC HTR HBB ⊢
     clear hta
     refine wpAnyT_one hA rfl (fun K' hK=>?_)
     have ho7:=own_new0 HO6.out HC.out
     have hbs:=Nat.le_trans HF56.out.size HC.out.size
     have htr:=HTR.out
     refine step_appC' etT w5 _ rfl _ _ rfl A6 l6.length c6 l6 rfl rfl ho7 TA 1 1 [tiZ sub] rfl htr rfl (by have:=HL6.out;simp;omega) hbs ?_
     intro A8 c8 v19 hc8 hmx8 ho8 hg8 hA8
     have fv:Fr (fun b=>A6.map (·.block) = some b) v18 v19:=Fr.ofGrown hg8 fun g hg=>hg
     have HBB:=Lib.hid (And.intro (bxI_fr HBB.out.1 fv fun e=>by have:=(HOL.out _ e).2;have:=HBB.out.2;omega) HBB.out.2)
     replace hF:=rdI_fr hF (rdI_lt hF) fv fun e=>by have:=(HOL.out _ e).1;have:=HXD.out;omega
     have HC2:=Lib.hid (show Fr (fun b=>A6.map (·.block) = some b) w6 v19 from (HC.out.any).trans fv fun _ _ h=>h)
     obtain ⟨l8,hl8⟩:∃ l:List ItW,l = l6 ++ [tiZ sub]:=⟨_,rfl⟩
     rw [← hl8] at ho8 ⊢
     have HO8:=Lib.hid ho8
     have HLE:=Lib.hid hl8
     clear hl8 ho8 hg8 hA8 hc8 hmx8 ho7 hbs htr
     refine hK.out _ _ hF (fun hA=>?_)
     clear hK K' fv
     try simp only [sA1,sA2,sA3,Act.put,sA4,sA5,sA6]
     refine wpAnyT_one hA rfl (fun K' hK=>?_)
     rw [if_pos (by rfl)]
     go_simp
     go_at_call 18
     refine (svput_any v19 S M X (fun g=>(Z g ∨ g = R) ∨ g = B) (fun g hg=>hg.elim (fun h=>Nat.lt_of_lt_of_le (HZ6.out g h) HC2.out.size) fun h=>by rw [h];exact bxI_lt HBB.out.1) _ (HSV6.out.blk.fr HC2.out fun e=>by have:=(HOL.out S e).1;have:=HXD.out;omega) ((HX6.out.more.fr HC2.out (fun e=>by have:=(HOL.out X e).1;have:=HXD.out;omega) fun b hb=>.inl (.inr hb)).sub fun g hg=>hg.elim (fun h=>.inl (.inl h)) fun h=>.inr (by rw [h];exact HBB.out.2)) HLP.out A8 c8 l8.length l8 (rootZ nameH xs) rfl (Sl.own HO8.out) (by rw [HLE.out];exact HIR.out _ HC2.out) (right_root HT.out (HN.out zSt))).mono ?_
     rintro e v20 ⟨rfl,hx8,fv⟩
     have HX8:=Lib.hid hx8
     obtain ⟨res,hres⟩:∃ r,r = nameH (drB (rootZ nameH xs)):=⟨_,rfl⟩
     rw [← hres]
     have HRES:=Lib.hid hres
     have HBB:=Lib.hid (And.intro (bxI_fr HBB.out.1 fv (by have:=HXD.out;have:=HBB.out.2;have:=HF56.out.size;show ¬ B = X;omega)) HBB.out.2)
     replace hF:=rdI_fr hF (rdI_lt hF) fv (by have:=HXD.out;show ¬ D = X;omega)
     have HC3:=Lib.hid fv
     clear hx8 hres
     refine hK.out _ _ hF (fun hA=>?_)
     clear hK K' fv
     try simp only [sA1,sA2,sA3,Act.put,sA4,sA5,sA6]
     iterate 3
      refine wpAnyT_take (v:=?_) hA rfl (fun _ _ _ h=>h) (Or.inl ⟨by rfl,?_⟩) hF (fun hA=>?_)
      rotate_left
      ·intro wS hSw;(try dsimp only at hSw);obtain s1:=hSw;first | (apply Eq.trans;apply ex_ld_id;exact rfl;exact rfl;assumption;with_reducible rfl) | (apply Eq.trans;apply ex_ldR_at;exact rfl;exact rfl;assumption;with_reducible rfl) | (apply Eq.trans;apply ex_ldS_at;exact rfl;exact rfl;assumption;with_reducible rfl) | (apply Eq.trans;apply ex_bldT4_at;exact rfl;exact rfl;exact rfl;exact rfl;exact rfl;with_reducible rfl) | (go_simp;try with_reducible rfl)
      try simp only [sA1,sA2,sA3,Act.put,sA4,sA5,sA6]
     refine wpAnyT_one hA rfl (fun K' hK=>?_)
     rw [if_pos (by rfl)]
     refine zk_skip _ (ex_stI_at rfl rfl rfl HBB.out.1) ?_
     replace hF:=rdI_fr hF (rdI_lt hF) (putB_fr HBB.out.1 res).1 (by have:=HXD.out;have:=HBB.out.2;have:=HF56.out.size;show ¬ D = B;omega)
     refine hK.out _ _ hF (fun hA=>?_)
     clear hK K'
     try simp only [sA1,sA2,sA3,Act.put,sA4,sA5,sA6]
     refine wpAnyT_end hA rfl ?_
     simp only [List.drop_succ_cons,List.drop_zero]
     clear hF keep
     have HBR7:=Lib.hid (bxI_fr (bxI_fr HBR6.out HC2.out fun e=>by have:=(HOL.out R e).1;have:=HXD.out;omega) HC3.out (by have:=HXR.out;show ¬ R = X;omega))
     have HBW:=Lib.hid (show R < w6.heap.size ∧ D < w6.heap.size ∧ w.heap.size ≤ w5.heap.size from by
      have h1:=HXD.out;have h2:=HF56.out.size;have h3:=HR.out
      omega)
     obtain ⟨g1,g2,g3⟩:=putB_fr HBB.out.1 res
     have HG1:=Lib.hid g1
     have hb9:=bxI_rd g3
     have hbr9:=bxI_fr HBR7.out g1 (by have:=HBW.out;have:=HBB.out.2;show ¬ R = B;omega)
     clear g1 g2 g3
     generalize putB v20 B res = w9 at HG1 hb9 hbr9 ⊢
     obtain ⟨g1,g2,g3⟩:=putB_fr hbr9 res
     have HH1:=Lib.hid g1
     have HH3:=Lib.hid g3
     clear g1 g2 g3 i1
     go_wp2_with fail
     refine bodyPost_ret (ret_id_tmp rfl _ _ R res (by rfl) HH3.out) rfl ?_
     refine .inl ⟨HN.out,by rw [HRES.out];rfl,?_,?_⟩
     ·have e:putAll o (allZ nameH xs) = putX (putAll (putAll o (putsZ nameH xs xs.length trS ++ dpZ (itsZ nameH xs xs.length trS))) (putsZ nameH xs xs.length zSt)) (drB (rootZ nameH xs)):=by
       unfold allZ
       rw [putAll_app,putAll_app]
       rfl
      rw [e]
      exact ((HX8.out.fr HG1.out (by have:=HXD.out;have:=HBB.out.2;have:=HBW.out;show ¬ X = B;omega) fun b hb=>.inr hb).fr HH1.out (by have:=HXR.out;show ¬ X = R;omega) fun b hb=>.inl (.inr hb)).sub fun g hg=>.inl (.inl hg)
     ·have a1:Fr (oneB X) w w5:=((HP0.out.1.step0 F1r.out).any (M:=oneB X)).trans HF5.out fun _ _ h=>h
      have a2:Fr (oneB X) w w6:=a1.trans HF56.out fun _ _ h=>h
      have a3:Fr (oneB X) w _:=a2.step HC2.out fun b hb=>.inl (by have:=(HOL.out b hb).1;have:=HBW.out;omega)
      have a4:Fr (oneB X) w _:=a3.trans HC3.out fun _ _ h=>h
      exact (a4.step1 HG1.out (by have:=HBB.out.2;have:=a2.size;omega)).step1 HH1.out (by have:=HR.out;omega)
   ·refine step_runI rfl _ _ (ex_alI_at rfl) ?_
    have fv:Fr noB v0 (v0.alloc (ido zID)):=(Fr.refl noB v0).alloc _
    have HBB:=Lib.hid (And.intro (bxI_new v0 zID) (show w6.heap.size ≤ v0.heap.size from HC.out.size))
    have HC:=Lib.hid (HC.out.step0 fv)
    replace hF:=keep _ _ fv hF
    refine hK.out _ _ hF (fun hA=>?_)
    clear hK K' fv
    try simp only [sA1,sA2,sA3,Act.put,sA4,sA5,sA6]
    generalize v0.alloc (ido zID) = v21 at hF HBB HC ⊢
    generalize v0.heap.size = B at HBB ⊢
    refine wpAnyT_one hA rfl (fun K' hK=>?_)
    rw [if_pos (by rfl)]
    go_simp
    go_at_call 19
    refine (last_any v21).mono ?_
    rintro e v22 ⟨rfl,fv⟩
    have HBB:=Lib.hid (And.intro (bxI_fr HBB.out.1 fv (by simp [noB])) HBB.out.2)
    have HC:=Lib.hid (HC.out.step0 fv)
    replace hF:=keep _ _ fv hF
    refine hK.out _ _ hF (fun hA=>?_)
    clear hK K' fv
    try simp only [sA1,sA2,sA3,Act.put,sA4,sA5,sA6]
    refine wpAnyT_one hA rfl (fun K' hK=>?_)
    rw [if_pos (by rfl)]
    go_simp
    go_at_call 19
    refine (last_any v22).mono ?_
    rintro e v23 ⟨rfl,fv⟩
    have HBB:=Lib.hid (And.intro (bxI_fr HBB.out.1 fv (by simp [noB])) HBB.out.2)
    have HC:=Lib.hid (HC.out.step0 fv)
    replace hF:=keep _ _ fv hF
    refine hK.out _ _ hF (fun hA=>?_)
    clear hK K' fv
    try simp only [sA1,sA2,sA3,Act.put,sA4,sA5,sA6]
    refine wpAnyT_take (v:=?_) hA rfl (fun _ _ _ h=>h) (Or.inl ⟨by rfl,?_⟩) hF (fun hA=>?_)
    rotate_left
    ·intro wS hSw;(try dsimp only at hSw);obtain s1:=hSw;first | (apply Eq.trans;apply ex_ld_id;exact rfl;exact rfl;assumption;with_reducible rfl) | (apply Eq.trans;apply ex_ldR_at;exact rfl;exact rfl;assumption;with_reducible rfl) | (apply Eq.trans;apply ex_ldS_at;exact rfl;exact rfl;assumption;with_reducible rfl) | (apply Eq.trans;apply ex_bldT4_at;exact rfl;exact rfl;exact rfl;exact rfl;exact rfl;with_reducible rfl) | (go_simp;try with_reducible rfl)
    try simp only [sA1,sA2,sA3,Act.put,sA4,sA5,sA6]
    refine wpAnyT_one hA rfl (fun K' hK=>?_)
    refine step_runI rfl _ _ (ex_bsT_at rfl rfl) ?_
    have fv:Fr noB v23 (v23.alloc (codT.ro [tiZ sub])):=(Fr.refl noB v23).alloc _
    have HTR:=Lib.hid (Cod.sl_new (C:=codT) v23 [tiZ sub])
    have HBB:=Lib.hid (And.intro (bxI_fr HBB.out.1 fv (by simp [noB])) HBB.out.2)
    have HC:=Lib.hid (HC.out.step0 fv)
    replace hF:=keep _ _ fv hF
    refine hK.out _ _ hF (fun hA=>?_)
    clear hK K' fv
    try simp only [sA1,sA2,sA3,Act.put,sA4,sA5,sA6]
    obtain ⟨TA,hta⟩:∃ T:Option Addr,T = some ⟨v23.heap.size,0,none⟩:=⟨_,rfl⟩
    rw [← hta] at HTR ⊢
    generalize v23.alloc (codT.ro [tiZ sub]) = v24 at hF HC HTR HBB ⊢
    clear hta
    refine wpAnyT_one hA rfl (fun K' hK=>?_)
    have ho7:=own_new0 HO6.out HC.out
    have hbs:=Nat.le_trans HF56.out.size HC.out.size
    have htr:=HTR.out
    refine step_appC' etT w5 _ rfl _ _ rfl A6 l6.length c6 l6 rfl rfl ho7 TA 1 1 [tiZ sub] rfl htr rfl (by have:=HL6.out;simp;omega) hbs ?_
    intro A8 c8 v25 hc8 hmx8 ho8 hg8 hA8
    have fv:Fr (fun b=>A6.map (·.block) = some b) v24 v25:=Fr.ofGrown hg8 fun g hg=>hg
    have HBB:=Lib.hid (And.intro (bxI_fr HBB.out.1 fv fun e=>by have:=(HOL.out _ e).2;have:=HBB.out.2;omega) HBB.out.2)
    replace hF:=rdI_fr hF (rdI_lt hF) fv fun e=>by have:=(HOL.out _ e).1;have:=HXD.out;omega
    have HC2:=Lib.hid (show Fr (fun b=>A6.map (·.block) = some b) w6 v25 from (HC.out.any).trans fv fun _ _ h=>h)
    obtain ⟨l8,hl8⟩:∃ l:List ItW,l = l6 ++ [tiZ sub]:=⟨_,rfl⟩
    rw [← hl8] at ho8 ⊢
    have HO8:=Lib.hid ho8
    have HLE:=Lib.hid hl8
    clear hl8 ho8 hg8 hA8 hc8 hmx8 ho7 hbs htr
    refine hK.out _ _ hF (fun hA=>?_)
    clear hK K' fv
    try simp only [sA1,sA2,sA3,Act.put,sA4,sA5,sA6]
    refine wpAnyT_one hA rfl (fun K' hK=>?_)
    rw [if_pos (by rfl)]
    go_simp
    go_at_call 18
    refine (svput_any v25 S M X (fun g=>(Z g ∨ g = R) ∨ g = B) (fun g hg=>hg.elim (fun h=>Nat.lt_of_lt_of_le (HZ6.out g h) HC2.out.size) fun h=>by rw [h];exact bxI_lt HBB.out.1) _ (HSV6.out.blk.fr HC2.out fun e=>by have:=(HOL.out S e).1;have:=HXD.out;omega) ((HX6.out.more.fr HC2.out (fun e=>by have:=(HOL.out X e).1;have:=HXD.out;omega) fun b hb=>.inl (.inr hb)).sub fun g hg=>hg.elim (fun h=>.inl (.inl h)) fun h=>.inr (by rw [h];exact HBB.out.2)) HLP.out A8 c8 l8.length l8 (rootZ nameH xs) rfl (Sl.own HO8.out) (by rw [HLE.out];exact HIR.out _ HC2.out) (right_root HT.out (HN.out zSt))).mono ?_
    rintro e v26 ⟨rfl,hx8,fv⟩
    have HX8:=Lib.hid hx8
    obtain ⟨res,hres⟩:∃ r,r = nameH (drB (rootZ nameH xs)):=⟨_,rfl⟩
    rw [← hres]
    have HRES:=Lib.hid hres
    have HBB:=Lib.hid (And.intro (bxI_fr HBB.out.1 fv (by have:=HXD.out;have:=HBB.out.2;have:=HF56.out.size;show ¬ B = X;omega)) HBB.out.2)
    replace hF:=rdI_fr hF (rdI_lt hF) fv (by have:=HXD.out;show ¬ D = X;omega)
    have HC3:=Lib.hid fv
    clear hx8 hres
    refine hK.out _ _ hF (fun hA=>?_)
    clear hK K' fv
    try simp only [sA1,sA2,sA3,Act.put,sA4,sA5,sA6]
    iterate 3
     refine wpAnyT_take (v:=?_) hA rfl (fun _ _ _ h=>h) (Or.inl ⟨by rfl,?_⟩) hF (fun hA=>?_)
     rotate_left
     ·intro wS hSw;(try dsimp only at hSw);obtain s1:=hSw;first | (apply Eq.trans;apply ex_ld_id;exact rfl;exact rfl;assumption;with_reducible rfl) | (apply Eq.trans;apply ex_ldR_at;exact rfl;exact rfl;assumption;with_reducible rfl) | (apply Eq.trans;apply ex_ldS_at;exact rfl;exact rfl;assumption;with_reducible rfl) | (apply Eq.trans;apply ex_bldT4_at;exact rfl;exact rfl;exact rfl;exact rfl;exact rfl;with_reducible rfl) | (go_simp;try with_reducible rfl)
     try simp only [sA1,sA2,sA3,Act.put,sA4,sA5,sA6]
    refine wpAnyT_one hA rfl (fun K' hK=>?_)
    rw [if_pos (by rfl)]
    refine zk_skip _ (ex_stI_at rfl rfl rfl HBB.out.1) ?_
    replace hF:=rdI_fr hF (rdI_lt hF) (putB_fr HBB.out.1 res).1 (by have:=HXD.out;have:=HBB.out.2;have:=HF56.out.size;show ¬ D = B;omega)
    refine hK.out _ _ hF (fun hA=>?_)
    clear hK K'
    try simp only [sA1,sA2,sA3,Act.put,sA4,sA5,sA6]
    refine wpAnyT_end hA rfl ?_
    simp only [List.drop_succ_cons,List.drop_zero]
    clear hF keep
    have HBR7:=Lib.hid (bxI_fr (bxI_fr HBR6.out HC2.out fun e=>by have:=(HOL.out R e).1;have:=HXD.out;omega) HC3.out (by have:=HXR.out;show ¬ R = X;omega))
    have HBW:=Lib.hid (show R < w6.heap.size ∧ D < w6.heap.size ∧ w.heap.size ≤ w5.heap.size from by
     have h1:=HXD.out;have h2:=HF56.out.size;have h3:=HR.out
     omega)
    obtain ⟨g1,g2,g3⟩:=putB_fr HBB.out.1 res
    have HG1:=Lib.hid g1
    have hb9:=bxI_rd g3
    have hbr9:=bxI_fr HBR7.out g1 (by have:=HBW.out;have:=HBB.out.2;show ¬ R = B;omega)
    clear g1 g2 g3
    generalize putB v26 B res = w9 at HG1 hb9 hbr9 ⊢
    obtain ⟨g1,g2,g3⟩:=putB_fr hbr9 res
    have HH1:=Lib.hid g1
    have HH3:=Lib.hid g3
    clear g1 g2 g3 i1
    go_wp2_with fail
    refine bodyPost_ret (ret_id_tmp rfl _ _ R res (by rfl) HH3.out) rfl ?_
    refine .inl ⟨HN.out,by rw [HRES.out];rfl,?_,?_⟩
    ·have e:putAll o (allZ nameH xs) = putX (putAll (putAll o (putsZ nameH xs xs.length trS ++ dpZ (itsZ nameH xs xs.length trS))) (putsZ nameH xs xs.length zSt)) (drB (rootZ nameH xs)):=by
      unfold allZ
      rw [putAll_app,putAll_app]
      rfl
     rw [e]
     exact ((HX8.out.fr HG1.out (by have:=HXD.out;have:=HBB.out.2;have:=HBW.out;show ¬ X = B;omega) fun b hb=>.inr hb).fr HH1.out (by have:=HXR.out;show ¬ X = R;omega) fun b hb=>.inl (.inr hb)).sub fun g hg=>.inl (.inl hg)
    ·have a1:Fr (oneB X) w w5:=((HP0.out.1.step0 F1r.out).any (M:=oneB X)).trans HF5.out fun _ _ h=>h
     have a2:Fr (oneB X) w w6:=a1.trans HF56.out fun _ _ h=>h
     have a3:Fr (oneB X) w _:=a2.step HC2.out fun b hb=>.inl (by have:=(HOL.out b hb).1;have:=HBW.out;omega)
     have a4:Fr (oneB X) w _:=a3.trans HC3.out fun _ _ h=>h
     exact (a4.step1 HG1.out (by have:=HBB.out.2;have:=a2.size;omega)).step1 HH1.out (by have:=HR.out;omega)
end Go.Proofs.YtnkdnbjmhoegkaaGreat
