/- snap's saver: contract of save. snap's saver: contracts of items and dir. (ex_ldS_at, ex_ldR_at) snap's saver: contract of items. (ex_ldS_at, ex_ldR_at) -/
import Derived.Test.YtnkdnbjmhoegkaaGreatBoxXKq
import Derived.Test.YtnkdnbjmhoegkaaGreatPutDKq
import Derived.Test.YtnkdnbjmhoegkaaGreatDifCKq
import Derived.Test.YtnkdnbjmhoegkaaGreatMapEnKq
import Derived.Test.YtnkdnbjmhoegkaaGreatSnpSKq
import Derived.Test.YtnkdnbjmhoegkaaGreatFrameOKq
import Derived.BigQuiet
set_option linter.unusedVariables false
set_option linter.unusedSimpArgs false
namespace Go.Proofs.YtnkdnbjmhoegkaaGreat
open Go.RowKit Go.Maps Go.Sort
theorem itZ_len {x:It} (h:rightIt x = true):(itB x).length ≤ 60000:=by
 simp only [rightIt,Bool.and_eq_true,decide_eq_true_eq,List.all_eq_true] at h
 obtain ⟨⟨⟨⟨⟨⟨h1,h2⟩,h3⟩,h4⟩,h5⟩,h6⟩,h7⟩:=h
 have a1:=stB_len (okSt_of h1)
 have a2:=stB_len (okSt_of h2)
 have h8:=nameOk_le h4
 have a3:=numB_length x.Name.length (by omega)
 have a4:=numB_length x.Heads.length (by omega)
 have a5:=x.Sub.2
 have a7:∀ l:List Hd,(∀ o ∈ l,rightS o.At = true) → (l.flatMap hdB).length ≤ l.length * 52:=by
  intro l
  induction l with
  | nil=>simp
  | cons x l ih =>
   intro hh
   have:=ih (fun s hs=>hh s (by simp [hs]))
   have h0:=hdB_len (hh x (by simp))
   simp only [List.flatMap_cons,List.length_append,List.length_cons]
   omega
 have a8:=a7 x.Heads (fun o ho=>(h6 o ho).1.1)
 unfold itB txB
 simp only [List.length_append]
 omega
theorem drZ_len {l:List It} (h:rightDr l = true):(drB l).length ≤ 100000000:=by
 simp only [rightDr,Bool.and_eq_true,decide_eq_true_eq,List.all_eq_true] at h
 obtain ⟨⟨h1,h2⟩,h3⟩:=h
 have a1:=numB_length l.length (by omega)
 have a7:∀ l:List It,(∀ o ∈ l,rightIt o = true) → (l.flatMap itB).length ≤ l.length * 60000:=by
  intro l
  induction l with
  | nil=>simp
  | cons x l ih =>
   intro hh
   have:=ih (fun s hs=>hh s (by simp [hs]))
   have h0:=itZ_len (hh x (by simp))
   simp only [List.flatMap_cons,List.length_append,List.length_cons]
   omega
 have a8:=a7 l h2
 unfold drB
 simp only [List.length_cons,List.length_append,List.cons_append]
 omega
def putF (X:Nat):Value:=.func (.func 8) #[.pointer (some ⟨X,0,none⟩)] #[]
set_option maxRecDepth 100000 in
set_option maxHeartbeats 1000000 in
theorem svput_any (w:World) (S M X:Nat) (Z:Nat → Prop) (hZ:∀ g,Z g → g < w.heap.size) (xs:List (List UInt8)) (hS:Blk w S 55 [.map (some M),putF X]) (hX:BoxIn w X Z xs) (hlen:xs.length ≤ 1000000000) (A:Option Addr) (c n:Nat) (rs:List ItW) (its:List It) (hn:rs.length = n) (hs:Sl w A (codT.row rs)) (hI:ItsIn w rs its) (hr:rightDr its = true) :
  Calls Tryz.prog 18 #[.pointer (some ⟨S,0,none⟩),.slice A n c] w (PxTo w X Z xs (drB its)):=by
 subst hn
 have hXl:=hX.lt
 have HLN:=Lib.hid hlen
 have hbd:rs.length ≤ 140737488355328:=by
  have h1:=hr
  simp only [rightDr,Bool.and_eq_true,decide_eq_true_eq] at h1
  have:=h1.1.1
  rw [hI.len];omega
 have f0:Fr noB w (w.alloc (ido zID)):=(Fr.refl noB w).alloc _
 have b0:bxI (w.alloc (ido zID)) w.heap.size = some zID:=bxI_new w zID
 have CP:=Lib.hid (putDir_any (w.alloc (ido zID)) A c rs.length rs its rfl (hs.fr0 f0) hbd (hI.fr f0))
 have HP0:=Lib.hid (And.intro f0 b0)
 have HX0:=Lib.hid ((hX.more.fr0 f0).sub (Z':=fun g=>Z g ∨ g = w.heap.size) fun g hg=>hg.imp id fun e=>by omega)
 have HZ:=Lib.hid (show ∀ g,(Z g ∨ g = w.heap.size) → g < (w.alloc (ido zID)).heap.size from fun g hg=>by
  rw [World.size_alloc]
  rcases hg with hg | hg
  ·have:=hZ g hg;omega
  ·omega)
 have HS0:=Lib.hid (hS.fr f0 (by simp [noB]))
 have HXR:=Lib.hid hXl
 have hdl:=drZ_len hr
 have hpd:putDr its = some (drB its):=by unfold putDr;rw [if_pos hr]
 rw [hpd] at CP
 obtain ⟨b,hb⟩:∃ b,b = drB its:=⟨_,rfl⟩
 rw [← hb] at CP hdl ⊢
 have HBL:=Lib.hid hdl
 clear hZ hs hI hS hX hlen hbd hr f0 b0 hXl hdl hpd hb
 go_enter Tryz.func18,Tryz.ntmps18
 go_upto_region 1 with fail
 generalize w.alloc (ido zID) = w1 at CP HP0 HX0 HS0 HZ ⊢
 generalize hR:w.heap.size = R at HP0 HXR HX0 HZ ⊢
 have HR:=Lib.hid hR
 clear hR
 go_upto_region 4 with (go_at_call 37;refine CP.out.mono ?_;rintro e w2 ⟨A2,c2,rfl,ho2,f2,hc2⟩;simp only [Option.getD_some,Option.isSome_some,if_true] at ho2 hc2 ⊢;have HF2:=Lib.hid f2;have HB2:=Lib.hid (show ByIn w2 ⟨A2,b.length,c2⟩ b from ⟨rfl,hc2,Sl.own ho2,by have:=HBL.out;omega⟩);have hx2:=HX0.out.fr0 f2;have HX2:=Lib.hid hx2;have hs2:=HS0.out.fr f2 (by simp [noB]);have k1:w2.cell? ⟨S,1,none⟩ = some (putF X):=(by rw [hs2.cell];rfl);have HR2:=Lib.hid (bxI_fr HP0.out.2 f2 (by simp [noB]));clear ho2 f2 hc2 hx2 hs2)
 unfold putF at k1
 go_wp2_with (go_at_call 8;refine (bxput_any w2 X _ (fun g hg=>Nat.lt_of_lt_of_le (HZ.out g hg) HF2.out.size) xs HX2.out HLN.out A2 b.length c2 b HB2.out).mono ?_;rintro e w3 ⟨rfl,hx3,f3⟩;have HX3:=Lib.hid hx3;have HF3:=Lib.hid f3;have hbx:=bxI_fr HR2.out f3 (by have:=HXR.out;show ¬ R = X;omega);clear hx3 f3;obtain ⟨res,hres⟩:∃ r,r = nameH b:=⟨_,rfl⟩;rw [← hres];have HRES:=Lib.hid hres;clear hres;obtain ⟨g1,g2,g3⟩:=putB_fr hbx res;have HG1:=Lib.hid g1;have HG3:=Lib.hid g3;clear g1 g2 g3)
 refine bodyPost_ret (ret_id_tmp rfl _ _ R res (by rfl) HG3.out) rfl ?_
 refine ⟨by rw [← HRES.out];rfl,?_,?_⟩
 ·exact ((HX3.out.fr HG1.out (by have:=HXR.out;show ¬ X = R;omega) fun g hg=>.inr hg)).sub fun g hg=>.inl hg
 ·have h2:Fr (oneB X) w _:=((HP0.out.1.step0 HF2.out).any (M:=oneB X)).trans HF3.out (fun b _ h=>h)
  exact h2.step1 HG1.out (by have:=HR.out;omega)
structure KdX (w:World) (X:Nat) (A:Option Addr) (ws:List RwW) (xs:List RwP):Prop where
 sl:Sl w A (codR.row ws)
 inn:RwsIn w ws xs
 off:ws ≠ [] → Off A (fun b=>b ≠ X)
 hoff:∀ i (h:i < ws.length) (h':i < xs.length),xs[i].Heads ≠ [] → Off ws[i].A (fun b=>b ≠ X)
theorem KdX.fr {w w':World} {X:Nat} {A:Option Addr} {ws:List RwW} {xs:List RwP} (h:KdX w X A ws xs) (f:Fr (oneB X) w w'):KdX w' X A ws xs:=by
 refine ⟨?_,⟨h.inn.len,fun i h1 h2=>?_⟩,h.off,h.hoff⟩
 ·by_cases h0:ws = []
  ·rw [h0];exact Sl.nil _ _
  ·exact h.sl.fr f (h.off h0)
 ·have k:=h.inn.at_ i h1 h2
  refine ⟨k.eq,k.len,?_,k.bd,k.nm,k.wn,k.wp⟩
  by_cases h0:xs[i].Heads = []
  ·rw [h0];exact Sl.nil _ _
  ·exact k.sl.fr f (h.hoff i h1 h2 h0)
structure SvIn (w:World) (S M X:Nat) (kv:List (St × Value)) (rs:List RwP):Prop where
 blk:Blk w S 55 [.map (some M),putF X]
 mp:mpT w M = some kv
 neS:S ≠ X
 neM:M ≠ X
 kids:∀ p,∃ A c ws,(look kv p).getD (.slice none 0 0) = .slice A ws.length c ∧ KdX w X A ws (kidsZ rs p)
theorem SvIn.fr {w w':World} {S M X:Nat} {kv:List (St × Value)} {rs:List RwP} (h:SvIn w S M X kv rs) (f:Fr (oneB X) w w'):SvIn w' S M X kv rs :=
 ⟨h.blk.fr f h.neS,mpT_fr h.mp f h.neM,h.neS,h.neM,fun p=>by
  obtain ⟨A,c,ws,h1,h2⟩:=h.kids p
  exact ⟨A,c,ws,h1,h2.fr f⟩⟩
theorem putAll_le:∀ (l o:List (List UInt8)),(putAll o l).length ≤ o.length + l.length
 | [],o=>by simp [putAll]
 | b :: l,o=>by
  have h:=putAll_le l (putX o b)
  have h2:(putX o b).length ≤ o.length + 1:=by unfold putX;split <;> simp
  show (putAll (putX o b) l).length ≤ _
  simp only [List.length_cons]
  omega
theorem putAll_app (o l m:List (List UInt8)):putAll o (l ++ m) = putAll (putAll o l) m:=by simp [putAll,List.foldl_append]
def IsTo (w:World) (X:Nat) (Z:Nat → Prop) (o:List (List UInt8)) (its:List It) (ps:List (List UInt8)) (e:Ending) (w':World):Prop :=
 ∃ A c ws,e = .returned (.tuple #[.slice A ws.length c,.int .i64 0]) ∧ OwnC codT w w' A c ws ∧ ItsOwn w w' ws its ∧ BoxIn w' X (fun g=>Z g ∨ A.map (·.block) = some g) (putAll o ps) ∧ Fr (oneB X) w w'
def DsTo (w:World) (X:Nat) (Z:Nat → Prop) (o:List (List UInt8)) (its:List It) (ps:List (List UInt8)) (e:Ending) (w':World):Prop :=
 e = .returned (.tuple #[encI (nmZ nameH its),.int .i64 0]) ∧ BoxIn w' X Z (putAll o (ps ++ dpZ its)) ∧ Fr (oneB X) w w'
def IsC (S M X:Nat) (kv:List (St × Value)) (rs:List RwP) (p:St) (its:List It) (ps:List (List UInt8)):Prop :=
 ∀ (w:World) (Z:Nat → Prop) (o:List (List UInt8)),SvIn w S M X kv rs → (∀ g,Z g → g < w.heap.size) → BoxIn w X Z o → o.length + ps.length ≤ 999999999 → Calls Tryz.prog 17 #[.pointer (some ⟨S,0,none⟩),.agg (codS.A p)] w (IsTo w X Z o its ps)
def DsC (S M X:Nat) (kv:List (St × Value)) (rs:List RwP) (p:St) (its:List It) (ps:List (List UInt8)):Prop :=
 ∀ (w:World) (Z:Nat → Prop) (o:List (List UInt8)),SvIn w S M X kv rs → (∀ g,Z g → g < w.heap.size) → BoxIn w X Z o → o.length + ps.length ≤ 999999999 → Calls Tryz.prog 16 #[.pointer (some ⟨S,0,none⟩),.agg (codS.A p)] w (DsTo w X Z o its ps)
set_option maxRecDepth 100000 in
set_option maxHeartbeats 1000000 in
theorem svdir_of (S M X:Nat) (kv:List (St × Value)) (rs:List RwP) (p:St) (its:List It) (ps:List (List UInt8)) (hr:rightDr its = true) (hI:IsC S M X kv rs p its ps):DsC S M X kv rs p its ps:=by
 intro w Z o hS hZ hX hlen
 have fa:Fr noB w (w.alloc (.cells (codS.A p) 24)):=(Fr.refl noB w).alloc _
 have q0:=Cod.rd_new (C:=codS) w 24 p
 have fb:Fr noB (w.alloc (.cells (codS.A p) 24)) ((w.alloc (.cells (codS.A p) 24)).alloc (ido zID)):=(Fr.refl noB _).alloc _
 have b0:bxI ((w.alloc (.cells (codS.A p) 24)).alloc (ido zID)) (w.alloc (.cells (codS.A p) 24)).heap.size = some zID:=bxI_new _ zID
 have f0:=fa.step0 fb
 have q1:=Cod.rd_fr0 q0 fb
 have z1:(w.alloc (.cells (codS.A p) 24)).heap.size = w.heap.size + 1:=by simp
 rw [z1] at b0
 have z2:((w.alloc (.cells (codS.A p) 24)).alloc (ido zID)).heap.size = w.heap.size + 2:=by simp
 have HXR:=Lib.hid (show X < w.heap.size from hX.lt)
 have HS0:=Lib.hid (hS.fr f0.any)
 have HX0:=Lib.hid ((hX.more.fr0 f0).sub (Z':=fun g=>Z g ∨ g = w.heap.size + 1) fun g hg=>hg.imp id fun e=>by omega)
 have HZ:=Lib.hid (show ∀ g,(Z g ∨ g = w.heap.size + 1) → g < ((w.alloc (.cells (codS.A p) 24)).alloc (ido zID)).heap.size from fun g hg=>by
  rw [z2]
  rcases hg with hg | hg
  ·have:=hZ g hg;omega
  ·omega)
 have HF0:=Lib.hid f0
 have HB0:=Lib.hid b0
 have HLN:=Lib.hid hlen
 have HR:=Lib.hid hr
 clear hS hX hZ fa fb q0 z1 z2 f0 b0 hlen hr
 go_enter Tryz.func16,Tryz.ntmps16
 go_upto_region 1 with fail
 generalize (w.alloc (.cells (codS.A p) 24)).alloc (ido zID) = w1 at HS0 HX0 HZ HF0 HB0 q1 ⊢
 have HC:=Lib.hid (hI w1 _ o HS0.out HZ.out HX0.out (by have:=HLN.out;omega))
 clear hI
 go_upto_region 2 with (go_at_call 17;refine HC.out.mono ?_;rintro e w2 ⟨A2,c2,ws,rfl,ho2,hi2,hx2,f2⟩;have HO2:=Lib.hid ho2;have HI2:=Lib.hid hi2;have HX2:=Lib.hid (hx2.sub fun g hg=>.inl hg);have HF2:=Lib.hid f2;have HWL:=Lib.hid hi2.len;clear ho2 hi2 hx2 f2)
 have HB2:=Lib.hid (bxI_fr HB0.out HF2.out (by have:=HXR.out;show ¬ w.heap.size + 1 = X;omega))
 by_cases hn:its = []
 ·have hl0:ws.length = 0:=by rw [HWL.out,hn];rfl
  have e1:(ws.length:Int) = 0:=by omega
  obtain ⟨g1,g2,g3⟩:=putB_fr HB2.out zID
  have HG1:=Lib.hid g1
  have HG3:=Lib.hid g3
  have hb2:=HB2.out
  have HN:=Lib.hid hn
  clear g1 g2 g3 hn hl0
  go_wp2_with fail
  refine bodyPost_ret (ret_id_tmp rfl _ _ (w.heap.size + 1) zID (by rfl) HG3.out) rfl ?_
  refine ⟨by rw [HN.out];rfl,?_,?_⟩
  ·rw [HN.out,show dpZ [] = [] from rfl,List.append_nil]
   exact (HX2.out.fr HG1.out (by have:=HXR.out;show ¬ X = w.heap.size + 1;omega) fun g hg=>.inr hg).sub fun g hg=>.inl hg
  ·exact ((HF0.out.any (M:=oneB X)).trans HF2.out fun _ _ h=>h).step1 HG1.out (by omega)
 ·have hl0:ws ≠ []:=fun e=>hn (List.eq_nil_of_length_eq_zero (by rw [← HWL.out,e];rfl))
  have e1:¬ (ws.length:Int) = 0:=fun e=>hl0 (List.eq_nil_of_length_eq_zero (by omega))
  have HN:=Lib.hid hn
  have HZ2:=Lib.hid (fun g hg=>Nat.lt_of_lt_of_le (HZ.out g hg) HF2.out.size)
  have hb2:=HB2.out
  clear hn hl0
  go_wp2_with (go_at_call 18;refine (svput_any w2 S M X _ HZ2.out _ (HS0.out.fr HF2.out).blk HX2.out (by have h1:=putAll_le ps o;have:=HLN.out;omega) A2 c2 ws.length ws its rfl (Sl.own HO2.out) HI2.out.its HR.out).mono ?_;rintro e w3 ⟨rfl,hx3,f3⟩;have HX3:=Lib.hid hx3;have HF3:=Lib.hid f3;have hbx:=bxI_fr HB2.out f3 (by have:=HXR.out;show ¬ w.heap.size + 1 = X;omega);clear hx3 f3 hb2;obtain ⟨res,hres⟩:∃ r,r = nameH (drB its):=⟨_,rfl⟩;rw [← hres];have HRES:=Lib.hid hres;clear hres;obtain ⟨g1,g2,g3⟩:=putB_fr hbx res;have HG1:=Lib.hid g1;have HG3:=Lib.hid g3;clear g1 g2 g3)
  refine bodyPost_ret (ret_id_tmp rfl _ _ (w.heap.size + 1) res (by rfl) HG3.out) rfl ?_
  refine ⟨?_,?_,?_⟩
  ·rw [nm_ne HN.out,← HRES.out];rfl
  ·have e2:putAll o (ps ++ dpZ its) = putX (putAll o ps) (drB its):=by
    rw [putAll_app]
    unfold dpZ
    rw [if_neg (by simpa using HN.out)]
    rfl
   rw [e2]
   exact (HX3.out.fr HG1.out (by have:=HXR.out;show ¬ X = w.heap.size + 1;omega) fun g hg=>.inr hg).sub fun g hg=>.inl hg
  ·exact (((HF0.out.any (M:=oneB X)).trans HF2.out fun _ _ h=>h).trans HF3.out fun _ _ h=>h).step1 HG1.out (by omega)
theorem own_X {w w':World} {base X:Nat} {e:TypeId} {size n:Nat} {v:Value} {xs:List Value} (h:w.ownsRow base e size v n xs) (hX:X < base) (f:Fr (oneB X) w w'):w'.ownsRow base e size v n xs :=
 own_fr h f fun g hg e=>by
  have h2:g = X:=e
  subst h2
  rcases h.2 with ⟨rfl,_⟩ | ⟨g',cap,cur,rfl,hb,_⟩
  ·simp [Value.ownBlock] at hg
  ·simp [Value.ownBlock] at hg;omega
set_option maxRecDepth 100000 in
set_option maxHeartbeats 2000000 in
theorem svitems_of (S M X:Nat) (kv:List (St × Value)) (rs:List RwP) (p:St) (hp:wfS p = true) (hR:∀ x ∈ rs,rightR x = true) (j:Nat) (nm:St → List It) (pt:St → List (List UInt8)) (hD:∀ r ∈ kidsZ rs p,DsC S M X kv rs r.Node (nm r.Node) (pt r.Node)) (hlk:(kidsZ rs p).length ≤ 1000000) :
  IsC S M X kv rs p ((kidsZ rs p).map fun r=>itR r (nmZ nameH (nm r.Node))) ((kidsZ rs p).flatMap fun r=>pt r.Node ++ dpZ (nm r.Node)):=by
 intro w Z o hS hZ hX hlen
 obtain ⟨A,c,ws,hl,hK⟩:=hS.kids p
 have hXw:=hX.lt
 have fa:Fr noB w (w.alloc (.cells (codS.A p) 24)):=(Fr.refl noB w).alloc _
 have q0:=Cod.rd_new (C:=codS) w 24 p
 have k0:(w.alloc (.cells (codS.A p) 24)).cell? ⟨S,0,none⟩ = some (.map (some M)):=by rw [(hS.blk.fr fa (by simp [noB])).cell];rfl
 have m0:=mpT_fr0 hS.mp fa
 have hKR:∀ x ∈ kidsZ rs p,rightR x = true:=fun x hx=>hR x (mem_kids.1 hx).1
 have hwn:ws.length = (kidsZ rs p).length:=hK.inn.len
 have HXW:=Lib.hid hXw
 have HSV:=Lib.hid hS
 have HZ:=Lib.hid hZ
 have HK:=Lib.hid hK
 have HLN:=Lib.hid hlen
 have HD:=Lib.hid hD
 have HKR:=Lib.hid hKR
 have HWN:=Lib.hid hwn
 have HLK:=Lib.hid hlk
 have HF0:=Lib.hid (fa.any (M:=oneB X))
 have HX0:=Lib.hid (hX.fr0 fa)
 clear hS hZ hX hlen hD hK hKR hwn hlk hXw fa hR
 generalize hks:kidsZ rs p = ks at HK HLN HD HKR HWN HLK ⊢
 clear hks
 go_enter Tryz.func17,Tryz.ntmps17
 go_upto_region 2 with fail
 generalize w.alloc (.cells (codS.A p) 24) = w1 at q0 k0 m0 HF0 HX0 ⊢
 generalize w.heap.size = P at q0 ⊢
 go_big_quiet (fail)
 have fq:=((Fr.refl noB w1).drewN nq)
 have HX1:=Lib.hid (HX0.out.fr0 fq)
 have HF1:=Lib.hid (HF0.out.step0 fq)
 clear fq q0 k0 m0 hl
 generalize w1.drewN nq = w2 at HX1 HF1 ⊢
 have H0:=Lib.hid (show ∃ (i:Nat) (A1:Option Addr) (c1:Nat) (l:List ItW),Value.slice none 0 0 = .slice A1 l.length c1 ∧ Value.int .i64 ((0:Nat):Int) = .int .i64 (i:Int) ∧ ws.length = ws.length - i ∧ i ≤ ws.length ∧ OwnC codT w w2 A1 c1 l ∧ ItsOwn w w2 l ((ks.take i).map fun r=>itR r (nmZ nameH (nm r.Node))) ∧ BoxIn w2 X (fun g=>Z g ∨ A1.map (·.block) = some g) (putAll o ((ks.take i).flatMap fun r=>pt r.Node ++ dpZ (nm r.Node))) ∧ Fr (oneB X) w w2 from
  ⟨0,none,0,[],rfl,rfl,rfl,Nat.zero_le _,World.ownsRow_nil _ _ _ _,⟨rfl,fun i h=>absurd h (by simp)⟩,HX1.out.sub fun g hg=>hg.elim id (fun e=>by cases e),HF1.out⟩)
 go_wp2_with fail
 go_loopg [6,18] ws.length (fun gk ov iv wr=>∃ (i:Nat) (A1:Option Addr) (c1:Nat) (l:List ItW),ov = .slice A1 l.length c1 ∧ iv = .int .i64 (i:Int) ∧ gk = ws.length - i ∧ i ≤ ws.length ∧ OwnC codT w wr A1 c1 l ∧ ItsOwn w wr l ((ks.take i).map fun r=>itR r (nmZ nameH (nm r.Node))) ∧ BoxIn wr X (fun g=>Z g ∨ A1.map (·.block) = some g) (putAll o ((ks.take i).flatMap fun r=>pt r.Node ++ dpZ (nm r.Node))) ∧ Fr (oneB X) w wr)
 case atStart=>exact H0.out
 case round =>
  clear H0
  obtain ⟨i,A1,c1,l,rfl,rfl,rfl,hi,ho,hit,hbx,hf⟩:=hrel
  have HO:=Lib.hid ho
  have HIT:=Lib.hid hit
  have HBX:=Lib.hid hbx
  have HF:=Lib.hid hf
  have HLI:=Lib.hid (show l.length = i by
   have h1:=hit.len
   rw [List.length_map,List.length_take] at h1
   have:=HWN.out
   omega)
  clear ho hit hbx hf
  by_cases hlt:i < ws.length
  ·have i1:(i:Int) < (ws.length:Int):=by omega
   have i0:(0:Int) ≤ (i:Int):=by omega
   have hik:i < ks.length:=by rw [← HWN.out];exact hlt
   have hKw:=HK.out.fr HF.out
   obtain ⟨g,off,rfl,hg⟩:=hKw.sl.adC (by omega)
   have e1:codR.rd wr g (off + i * 8) = some ws[i]:=hKw.sl.rd i hlt
   have hin:=hKw.inn.at_ i hlt hik
   have hoff:=hKw.hoff i hlt hik
   have HTM:=Lib.hid (show ks.take (i + 1) = ks.take i ++ [ks[i]] from List.take_succ_eq_append_getElem hik)
   have HRX:=Lib.hid (HKR.out _ (List.getElem_mem hik))
   have HDX:=Lib.hid (HD.out _ (List.getElem_mem hik))
   have HSP:=Lib.hid (show ((ks.take i).flatMap fun r=>pt r.Node ++ dpZ (nm r.Node)).length + (pt ks[i].Node ++ dpZ (nm ks[i].Node)).length ≤ (ks.flatMap fun r=>pt r.Node ++ dpZ (nm r.Node)).length by
    have h1:ks = ks.take i ++ ks[i] :: ks.drop (i + 1):=by rw [← List.drop_eq_getElem_cons hik,List.take_append_drop]
    conv=>rhs;rw [h1]
    rw [List.flatMap_append,List.flatMap_cons]
    simp only [List.length_append]
    omega)
   have HLT:=Lib.hid hlt
   generalize ws[i] = r at e1 hin hoff
   generalize ks[i] = x at hin hoff HTM HRX HDX HSP
   have HIN:=Lib.hid hin
   have HOF:=Lib.hid hoff
   have hnode:=hin.node
   clear hKw hin hoff hg hlt hi hik
   go_upto_region 5 with fail
   have fb:Fr noB wr (wr.alloc (codR.o r)):=(Fr.refl noB wr).alloc _
   have bB:=Cod.bxd_new (C:=codR) wr r
   have HBR:=Lib.hid bB
   have qn:=(rwAt (Cod.bxd_rd bB)).node
   have HF3:=Lib.hid (HF.out.step0 fb)
   have HBX3:=Lib.hid (HBX.out.fr0 fb)
   have HO3:=Lib.hid (own_new0 HO.out fb)
   have HIT3:=Lib.hid (HIT.out.map fun v n l ho=>own_new0 ho fb)
   have HFW:=Lib.hid (fb.any (M:=oneB X))
   have HB0:=Lib.hid (show X < wr.heap.size from Nat.lt_of_lt_of_le HXW.out HF.out.size)
   clear fb bB HF HBX HO HIT
   generalize wr.alloc (codR.o r) = w3 at HBR qn HF3 HBX3 HO3 HIT3 HFW ⊢
   generalize wr.heap.size = B at HBR qn HB0 ⊢
   rw [hnode] at HDX HSP
   have HND:=Lib.hid hnode
   have HZ3:=Lib.hid (show ∀ g,(Z g ∨ A1.map (·.block) = some g) → g < w3.heap.size from fun g hg=>hg.elim (fun hg=>Nat.lt_of_lt_of_le (HZ.out g hg) HF3.out.size) fun hg=>(own_lt HO3.out g hg).2)
   have HL3:=Lib.hid (show (putAll o ((ks.take i).flatMap fun r=>pt r.Node ++ dpZ (nm r.Node))).length + (pt r.Node).length ≤ 999999999 by
    have h1:=putAll_le ((ks.take i).flatMap fun r=>pt r.Node ++ dpZ (nm r.Node)) o
    have h2:=HSP.out
    have h3:=HLN.out
    rw [List.length_append] at h2
    omega)
   clear hnode
   go_upto_region 8 with (go_at_call 16;refine (HDX.out w3 _ _ (HSV.out.fr HF3.out) HZ3.out HBX3.out HL3.out).mono ?_;rintro e w4 ⟨rfl,hx4,f4⟩;obtain ⟨sub,hsub⟩:∃ s,s = nmZ nameH (nm r.Node):=⟨_,rfl⟩;rw [← hsub];have HSB:=Lib.hid hsub;have HX4:=Lib.hid hx4;have HF4:=Lib.hid f4;clear hsub hx4 f4)
   obtain ⟨pf1,pf2,pf3⟩:=putB_fr (bxI_new w4 zID) sub
   have fs:Fr noB w4 (putB (w4.alloc (ido zID)) w4.heap.size sub):=((Fr.refl noB w4).alloc (ido zID)).step1 pf1 (Nat.le_refl _)
   have b5:=bxI_rd pf3
   clear pf1 pf2 pf3
   have HB5:=Lib.hid (Cod.bxd_fr0 (Cod.bxd_fr HBR.out HF4.out (by have:=HB0.out;show ¬ B = X;omega)) fs)
   have r5:=Cod.bxd_rd HB5.out
   have HF5:=Lib.hid ((HF3.out.trans HF4.out fun _ _ h=>h).step0 fs)
   have HX5:=Lib.hid (HX4.out.fr0 fs)
   have HO5:=Lib.hid (own_new0 (own_X HO3.out HXW.out HF4.out) fs)
   have HIT5:=Lib.hid ((HIT3.out.map fun v n l ho=>own_X ho HXW.out HF4.out).map fun v n l ho=>own_new0 ho fs)
   have HFW5:=Lib.hid ((HFW.out.trans HF4.out fun _ _ h=>h).step0 fs)
   clear fs qn
   generalize putB (w4.alloc (ido zID)) w4.heap.size sub = w5 at b5 HB5 r5 HF5 HX5 HO5 HIT5 HFW5 ⊢
   generalize w4.heap.size = B5 at b5 ⊢
   have HHD:=Lib.hid (show Sl w5 r.A (codH.row x.Heads) ∧ x.Heads.length = r.n ∧ x.Heads.length ≤ 1000 from by
    refine ⟨?_,HIN.out.len,?_⟩
    ·by_cases h0:x.Heads = []
     ·rw [h0];exact Sl.nil _ _
     ·exact HIN.out.sl.fr HFW5.out (HOF.out h0)
    ·have h1:=rightR_it HRX.out zID
     simp only [rightIt,Bool.and_eq_true,decide_eq_true_eq] at h1
     exact h1.1.1.2)
   obtain ⟨N0,hN0⟩:∃ n,n = l.length:=⟨_,rfl⟩
   have HIB:=Lib.hid (show l.length + 1 ≤ 1000001 by have:=HLI.out;have:=HLT.out;have:=HWN.out;have:=HLK.out;omega)
   clear hN0
   go_upto_region 9 with (first
    | (go_at_call 36;refine (nitemO_any w5 r sub x.Heads HHD.out.2.1 HHD.out.1 (by have:=HHD.out.2.2;omega)).mono ?_;rintro e w6 ⟨A6,c6,rfl,ho6,f6⟩;have fn:Fr noB w6 (w6.alloc (codT.ro [⟨r.Node,r.At,r.Name,sub,A6,r.n,c6⟩])):=(Fr.refl noB w6).alloc _;have sl:=Cod.sl_new (C:=codT) w6 [⟨r.Node,r.At,r.Name,sub,A6,r.n,c6⟩];have HH7:=Lib.hid (own_base (own_new0 ho6 fn) HF5.out.size);have HF7:=Lib.hid ((HF5.out.step0 f6).step0 fn);have HX7:=Lib.hid ((HX5.out.fr0 f6).fr0 fn);have ho7:=own_new0 (own_new0 HO5.out f6) fn;have HIT7:=Lib.hid ((HIT5.out.map fun v n l ho=>own_new0 ho f6).map fun v n l ho=>own_new0 ho fn);have sz7:=HF7.out.size;clear ho6 f6 fn)
    | (at_builtin;refine wpList_appC' etT w _ rfl _ _ rfl A1 l.length c1 l rfl rfl ho7 (some ⟨w6.heap.size,0,none⟩) 1 1 [⟨r.Node,r.At,r.Name,sub,A6,r.n,c6⟩] rfl sl rfl (by have:=HIB.out;simp;omega) sz7 ?_;intro A8 c8 w8 hc8 hmx8 ho8 hg8 hA8;obtain ⟨l8,hl8⟩:∃ t,t = l ++ [(⟨r.Node,r.At,r.Name,sub,A6,r.n,c6⟩:ItW)]:=⟨_,rfl⟩;rw [← hl8] at ho8 ⊢;have HL8:=Lib.hid hl8;have HO7:=Lib.hid ho7;clear hl8 hc8 hmx8 ho7 sl))
   have fg:Fr (fun b=>A1.map (·.block) = some b) (w6.alloc (codT.ro [⟨r.Node,r.At,r.Name,sub,A6,r.n,c6⟩])) w8:=Fr.ofGrown hg8 fun g hg=>hg
   have HF8:=Lib.hid (HF7.out.step (M':=fun b=>A1.map (·.block) = some b) fg fun b hb=>.inl (own_lt HO7.out b hb).1)
   have HX8:=Lib.hid (show BoxIn w8 X (fun g=>Z g ∨ A8.map (·.block) = some g) _ from (HX7.out.more.fr fg (fun e=>by have h1:=(own_lt HO7.out X e).1;have:=HXW.out;omega) fun b hb=>.inl (.inr hb)).sub fun g hg=>hg.elim (fun h=>.inl (.inl h)) fun h=>by
    rcases hA8 with h1 | h1
    ·exact .inl (.inr (h1 ▸ h))
    ·rw [h1] at h;injection h with h;exact .inr (by omega))
   have HI8:=Lib.hid (HIT7.out.map fun v n l ho=>own_two HO7.out ho (by decide) fg)
   have HH8:=Lib.hid (own_two HO7.out HH7.out (by decide) fg)
   clear fg hg8 hA8
   generalize w6.alloc (codT.ro [⟨r.Node,r.At,r.Name,sub,A6,r.n,c6⟩]) = w7 at HH7 HF7 HX7 HIT7 HO7
   have wk:wrap64 ((i:Int) + 1) = (i:Int) + 1:=IntWalk.wrap64_in _ (by have:=HIB.out;have:=HLI.out;omega)
   go_wp2_with fail
   go_roundg (ws.length - (i + 1))
   case measure=>have:=HLT.out;omega
   case rel =>
    refine ⟨i + 1,A8,c8,l8,rfl,by first | exact congrArg (Value.int .i64) wk | simp,rfl,by have:=HLT.out;omega,ho8,?_,?_,HF8.out⟩
    ·rw [HTM.out,List.map_append,HL8.out]
     refine HI8.out.snoc ?_ HH8.out
     refine ⟨?_,HHD.out.2.1,Sl.own HH8.out,by have:=HHD.out.2.2;show x.Heads.length ≤ _;omega,HIN.out.nm⟩
     rw [HIN.out.eq,HSB.out]
     rfl
    ·rw [HTM.out,List.flatMap_append,putAll_app]
     have e:=HX8.out
     rw [List.flatMap_cons,List.flatMap_nil,List.append_nil,HND.out]
     exact e
  ·have i1:¬ (i:Int) < (ws.length:Int):=by omega
   have hie:i = ks.length:=by rw [← HWN.out];omega
   have HTK:=Lib.hid (show ks.take i = ks from List.take_of_length_le (by omega))
   clear hlt hi hie
   go_wp2_with fail
   refine bodyPost_ret (results_tmp2 rfl _ _ _) rfl ?_
   have h1:=HIT.out
   have h2:=HBX.out
   rw [HTK.out] at h1 h2
   exact ⟨A1,c1,l,rfl,HO.out,h1,h2,HF.out⟩
end Go.Proofs.YtnkdnbjmhoegkaaGreat
