/- Contracts: the pack's IDs, Outside, Get. Contract: pack.shortest (nothing outside). -/
import Derived.Test.YtahllkifmmjbdaaPkJKp
import Derived.Test.YtahllkifmmjbdaaPkHKp
import Derived.Test.YtahllkifmmjbdaaMakeKp
set_option linter.unusedVariables false
set_option linter.unusedSimpArgs false
namespace Go.Proofs.Ytahllkifmmjbdaa
open Go.RowKit Go.Maps Go.Sort
set_option maxRecDepth 100000
def KfTo (gf:Nat) (t:TypeId) (w:World) (r:Nat) (e:Ending) (w':World):Prop:=e = .returned (.func (.func gf) #[] #[.pointer (some ⟨w.heap.size,0,none⟩)]) ∧ w' = w.alloc (.cells #[.map (some r)] t)
theorem mkeysB_any (w:World) (r:Nat):Calls Try.prog 40 #[.map (some r)] w (KfTo 64 43 w r):=by
 go_enter Try.func40,Try.ntmps40
 go_wp2_with fail
 go_ret
 exact ⟨rfl,rfl⟩
theorem mkeysS_any (w:World) (r:Nat):Calls Try.prog 42 #[.map (some r)] w (KfTo 66 46 w r):=by
 go_enter Try.func42,Try.ntmps42
 go_wp2_with fail
 go_ret
 exact ⟨rfl,rfl⟩
theorem pkids_any (w0 w:World) (P:Nat) (es:List PeP) (h:PkAt w0 w P es) (hl:es.length ≤ 1000000000):Calls Try.prog 13 #[.pointer (some ⟨P,0,none⟩)] w (SrtTo w (es.map (fun y=>nameH y.b))):=by
 obtain ⟨MO,MU,kv,hb,hmo,hkv,_⟩:=h
 have e0:w.cell? ⟨P,0,none⟩ = some (.map (some MO)):=hb.cell 0
 have CS:=Lib.hid (show ∀ w1,w1 = w.alloc (.cells #[.map (some MO)] 43) → Calls Try.prog 39 #[.func (.func 64) #[] #[.pointer (some ⟨w.heap.size,0,none⟩)],.func (.func 41) #[] #[]] w1 (SrtTo w1 (es.map (fun y=>nameH y.b))) from by
  rintro w1 rfl
  have g:=keysB_give (w.alloc (.cells #[.map (some MO)] 43)) w.heap.size MO kv ((Blk.new w 43 [.map (some MO)]).cell 0) (mpI_fr hmo ((Fr.refl noB w).alloc _) (by simp [noB]))
  rw [hkv.keys] at g
  exact ksort_any _ 64 _ _ (by rw [List.length_map];exact hl) (enters_of Try.func64 (by kernel_rfl) rfl) g)
 clear hb hmo hkv
 go_enter Try.func13,Try.ntmps13
 go_wp2_with first
  | (go_at_call 40;refine (mkeysB_any w MO).mono ?_;rintro e w1 ⟨rfl,h1⟩;have H1:=Lib.hid h1;clear h1)
  | (go_at_call 39;refine (CS.out _ H1.out).mono ?_;rintro e w2 ⟨A,c,os,rfl,ho,hp,hf⟩;have HO:=Lib.hid ho;have HP:=Lib.hid hp;have HF:=Lib.hid hf;clear ho hp hf)
 go_ret
 have f1:Fr noB w w1:=by rw [H1.out];exact (Fr.refl noB w).alloc _
 exact ⟨A,c,os,rfl,own_base HO.out f1.size,HP.out,f1.step0 HF.out⟩
theorem pkoutside_any (w0 w:World) (P:Nat) (es:List PeP) (h:PkAt w0 w P es):Calls Try.prog 14 #[.pointer (some ⟨P,0,none⟩)] w (SrtTo w []):=by
 obtain ⟨MO,MU,kv,hb,_,_,hmu⟩:=h
 have e0:w.cell? ⟨P,1,none⟩ = some (.map (some MU)):=hb.cell 1
 have CS:=Lib.hid (show ∀ w1,w1 = w.alloc (.cells #[.map (some MU)] 46) → Calls Try.prog 39 #[.func (.func 66) #[] #[.pointer (some ⟨w.heap.size,0,none⟩)],.func (.func 41) #[] #[]] w1 (SrtTo w1 []) from by
  rintro w1 rfl
  have g:=keysS_give (w.alloc (.cells #[.map (some MU)] 46)) w.heap.size MU [] ((Blk.new w 46 [.map (some MU)]).cell 0) (mpI_fr hmu ((Fr.refl noB w).alloc _) (by simp [noB]))
  exact ksort_any _ 66 _ _ (by simp) (enters_of Try.func66 (by kernel_rfl) rfl) g)
 clear hb hmu
 go_enter Try.func14,Try.ntmps14
 go_wp2_with first
  | (go_at_call 42;refine (mkeysS_any w MU).mono ?_;rintro e w1 ⟨rfl,h1⟩;have H1:=Lib.hid h1;clear h1)
  | (go_at_call 39;refine (CS.out _ H1.out).mono ?_;rintro e w2 ⟨A,c,os,rfl,ho,hp,hf⟩;have HO:=Lib.hid ho;have HP:=Lib.hid hp;have HF:=Lib.hid hf;clear ho hp hf)
 go_ret
 have f1:Fr noB w w1:=by rw [H1.out];exact (Fr.refl noB w).alloc _
 exact ⟨A,c,os,rfl,own_base HO.out f1.size,HP.out,f1.step0 HF.out⟩
def GetTo (w:World) (es:List PeP) (id:ID) (e:Ending) (w':World):Prop:=Fr noB w w' ∧
 ((id ∉ es.map (fun y=>nameH y.b) ∧ ∃ (A:Option Addr) (c:Nat),e = .returned (.tuple #[.slice A 0 c,.bool false])) ∨ ∃ (x:PeP) (A:Option Addr) (c:Nat),x ∈ es ∧ nameH x.b = id ∧ e = .returned (.tuple #[.slice A x.b.length c,.bool true]) ∧ OwnB w w' A c x.b)
set_option maxHeartbeats 4000000 in
theorem pkget_any (w0 w:World) (P:Nat) (es:List PeP) (h:PkAt w0 w P es) (id:ID):Calls Try.prog 10 #[.pointer (some ⟨P,0,none⟩),encI id] w (GetTo w es id):=by
 obtain ⟨MO,MU,kv,hb,hmo,hkv,_⟩:=h
 obtain ⟨I,hI⟩:∃ I,I = w.heap.size:=⟨_,rfl⟩
 have f0:Fr noB w (w.alloc (ido id)):=(Fr.refl noB w).alloc _
 have HI0:=Lib.hid (show bxI (w.alloc (ido id)) I = some id by rw [hI];exact bxI_new _ _)
 have HF0:=Lib.hid f0
 have HB:=Lib.hid hb
 have HMO:=Lib.hid hmo
 have HKV:=Lib.hid hkv
 clear hb hmo hkv
 go_enter Try.func10,Try.ntmps10
 go_upto_region 1 with fail
 rw [← hI]
 clear hI f0
 have hx:∀ w1,w.alloc (ido id) = w1 → bxI w1 I = some id ∧ Fr noB w w1:=fun w1 e=>by rw [← e];exact ⟨HI0.out,HF0.out⟩
 generalize hw1:w.alloc (.cells (idA id) 37) = w1
 obtain ⟨hi1,hf1⟩:=hx w1 hw1
 clear hx hw1 HI0 HF0
 have fd:Fr noB w1 w1.drew:=(Fr.refl noB w1).drew
 have HI1:=Lib.hid (bxI_fr hi1 fd (by simp [noB]))
 have HF1:=Lib.hid (hf1.step0 fd)
 clear hi1 hf1 fd
 obtain ⟨F,hFd⟩:∃ F:World → Prop,F = fun w'=>Fr noB w1.drew w':=⟨_,rfl⟩
 have hF0:F w1.drew:=by rw [hFd];exact Fr.refl _ _
 have fr:∀ j:Wd F,Fr noB w1.drew j.w:=fun j=>cast (congrFun hFd j.w) j.h
 have q0:∀ j:Wd F,j.w.cell? ⟨P,0,none⟩ = some (.map (some MO)):=fun j=>(HB.out.fr (HF1.out.step0 (fr j)) (by simp [noB])).cell 0
 have q1:∀ j:Wd F,rdI j.w I 0 = some id:=fun j=>bxI_rd (bxI_fr HI1.out (fr j) (by simp [noB]))
 rcases HKV.out.look (mpI_nd HMO.out) id with ⟨hl,hno⟩ | ⟨x,ad,c,hx,hy,hl,hsl,hc,hbd⟩
 ·have q2:∀ j:Wd F,(Instr.lookup 43 (.map (some MO)) (encI id) true).run Try.prog j.w = .ok (.tuple #[.slice none 0 0,.bool false]) j.w:=fun j=>by
   rw [(mpI_mp (mpI_fr HMO.out (HF1.out.step0 (fr j)) (by simp [noB]))).lookOk keyI Try.underlying43 (zeroBy j.w) id,hl];rfl
  have HNO:=Lib.hid hno
  clear hno
  clear hFd fr hl
  refine wp_region_M 10 11 [⟨512,1,0⟩,⟨1024,512,1⟩,⟨2048,1024,2⟩,⟨4096,2048,4⟩,⟨8192,8,0⟩,⟨16384,12288,24⟩,⟨256,16384,32⟩,⟨32768,256,64⟩,⟨65536,256,64⟩,⟨64,32768,255⟩,⟨128,65536,1023⟩] [(true,0),(true,1),(true,2),(true,3),(true,4),(true,5),(true,6),(true,7),(true,8),(true,9)] F (by kernel_rfl) rfl (by kernel_rfl) (by kernel_rfl) (by kernel_rfl) hF0 (fun hA hF=>?_)
  clear hF0
  generalize w1.drew = wd at hF q0 q1 q2 HF1 ⊢
  have NE:=Wd.ne hF
  refine wpAnyS_takes (s2:=[]) (fuel:=1) (fun d v c a w h=>by cases d <;> exact h) hF [0,1,2,3,4,5,6,7,8,9] hA ?_
  repeat (refine wpTakes_at (by rfl) (by rfl) ?_;go_big_quiet_step (fail);refine wpQuiet_nil ?_)
  refine wpTakes_nil ?_
  clear NE
  intro hA
  refine wpAnyS_end hA rfl ?_
  simp only [List.drop_succ_cons,List.drop_zero]
  clear hF q0 q1 q2
  go_wp2_with (go_at_call 35;refine (clone_n _ none 0 [] 0 rfl (Sl.nil _ _) (by simp)).mono ?_;rintro e w2 ⟨A2,c2,rfl,ho2,hf2⟩;have HO2:=Lib.hid ho2;have HF2:=Lib.hid hf2;clear ho2 hf2)
  go_ret2
  exact ⟨HF1.out.step0 HF2.out,.inl ⟨HNO.out,A2,c2,rfl⟩⟩
 ·have q2:∀ j:Wd F,(Instr.lookup 43 (.map (some MO)) (encI id) true).run Try.prog j.w = .ok (.tuple #[.slice (some ad) x.b.length c,.bool true]) j.w:=fun j=>by
   rw [(mpI_mp (mpI_fr HMO.out (HF1.out.step0 (fr j)) (by simp [noB]))).lookOk keyI Try.underlying43 (zeroBy j.w) id,hl];rfl
  have HX:=Lib.hid (And.intro hx (And.intro hy (And.intro hsl hbd)))
  clear hx hy hsl hc hbd
  clear hFd fr hl
  refine wp_region_M 10 11 [⟨512,1,0⟩,⟨1024,512,1⟩,⟨2048,1024,2⟩,⟨4096,2048,4⟩,⟨8192,8,0⟩,⟨16384,12288,24⟩,⟨256,16384,32⟩,⟨32768,256,64⟩,⟨65536,256,64⟩,⟨64,32768,255⟩,⟨128,65536,1023⟩] [(true,0),(true,1),(true,2),(true,3),(true,4),(true,5),(true,6),(true,7),(true,8),(true,9)] F (by kernel_rfl) rfl (by kernel_rfl) (by kernel_rfl) (by kernel_rfl) hF0 (fun hA hF=>?_)
  clear hF0
  generalize w1.drew = wd at hF q0 q1 q2 HF1 ⊢
  have NE:=Wd.ne hF
  refine wpAnyS_takes (s2:=[]) (fuel:=1) (fun d v c a w h=>by cases d <;> exact h) hF [0,1,2,3,4,5,6,7,8,9] hA ?_
  repeat (refine wpTakes_at (by rfl) (by rfl) ?_;go_big_quiet_step (fail);refine wpQuiet_nil ?_)
  refine wpTakes_nil ?_
  clear NE
  intro hA
  refine wpAnyS_end hA rfl ?_
  simp only [List.drop_succ_cons,List.drop_zero]
  clear hF q0 q1 q2
  go_wp2_with (go_at_call 35;refine (clone_n _ (some ad) c x.b _ rfl (HX.out.2.2.1.sl.fr0 HF1.out) (by have:=HX.out.2.2.2;omega)).mono ?_;rintro e w2 ⟨A2,c2,rfl,ho2,hf2⟩;have HO2:=Lib.hid ho2;have HF2:=Lib.hid hf2;clear ho2 hf2)
  go_ret2
  exact ⟨HF1.out.step0 HF2.out,.inr ⟨x,A2,c2,HX.out.1,HX.out.2.1,rfl,own_base HO2.out HF1.out.size⟩⟩
end Go.Proofs.Ytahllkifmmjbdaa
namespace Go.Proofs.Ytahllkifmmjbdaa
open Go.RowKit Go.Maps Go.Sort
set_option maxRecDepth 100000
structure PoIn (w:World) (r:PeW) (x:PeP):Prop where
 len:x.b.length = r.n
 cap:r.n ≤ r.c
 sl:Sl w r.A (bv x.b)
 bd:x.b.length ≤ 1048576
 ch:x.ch = r.ch
 lo:x.ch ≤ 8
 nil:r.A = none → r.c = 0
theorem PoIn.fr0 {w w':World} {r:PeW} {x:PeP} (h:PoIn w r x) (f:Fr noB w w'):PoIn w' r x:=⟨h.len,h.cap,h.sl.fr0 f,h.bd,h.ch,h.lo,h.nil⟩
structure PosIn (w:World) (rs:List PeW) (xs:List PeP):Prop where
 len:rs.length = xs.length
 at_:∀ i (h:i < rs.length) (h':i < xs.length),PoIn w rs[i] xs[i]
theorem PosIn.nil (w:World):PosIn w [] []:=⟨rfl,fun i h=>absurd h (by simp)⟩
theorem PosIn.snoc {w:World} {rs:List PeW} {xs:List PeP} (h:PosIn w rs xs) {r:PeW} {x:PeP} (k:PoIn w r x):PosIn w (rs ++ [r]) (xs ++ [x]):=by
 refine ⟨by simp [h.len],fun i h1 h2=>?_⟩
 rw [List.length_append,List.length_singleton] at h1 h2
 by_cases hi:i < rs.length
 ·rw [List.getElem_append_left hi,List.getElem_append_left (by rw [← h.len];exact hi)]
  exact h.at_ i hi _
 ·have e:i = rs.length:=by omega
  subst e
  rw [List.getElem_append_right (Nat.le_refl _),List.getElem_append_right (by rw [h.len];exact Nat.le_refl _)]
  simpa [h.len] using k
def ShTo (w:World) (r:List UInt8 × Nat) (e:Ending) (w':World):Prop:=∃ (A:Option Addr) (c:Nat),e = .returned (.tuple #[.slice A r.1.length c,.int .i64 (r.2:Int)]) ∧ OwnB w w' A c r.1 ∧ Fr noB w w'
theorem make_short (base target:List UInt8) (hb:base.length ≤ 1000000000):(resB (makeD base target)).length ≤ target.length + 100:=by
 unfold makeD
 split
 ·simp [resB]
 ·rename_i h1
  have n1:=numB_length target.length (by omega)
  have n2:=numB_length (2 * target.length) (by omega)
  have n3:=numB_length (2 * target.length + 1) (by omega)
  split
  ·have:=numB_length 0 (by decide)
   show (numB 0).length ≤ _
   omega
  ·rename_i h2
   split
   ·show (numB target.length ++ numB (2 * target.length + 1) ++ numB (Lib.index base target).toNat).length ≤ _
    have n4:=numB_length (Lib.index base target).toNat (by
     rcases index_two base target h2 with h | ⟨i,h,h3,_⟩
     ·rw [h];decide
     ·rw [h];omega)
    simp only [List.length_append]
    omega
   ·have hp:(plainD target).length = (numB target.length).length + (numB (2 * target.length)).length + target.length:=by unfold plainD;simp only [List.length_append]
    split
    ·show (plainD target).length ≤ _
     omega
    ·rename_i h3
     show (madeO base target).length ≤ _
     omega
set_option maxHeartbeats 8000000 in
theorem pkshort_any (w:World) (A:Option Addr) (n c:Nat) (b:List UInt8) (E:Option Addr) (m ec:Nat) (rs:List PeW) (all:List PeP) (hn:b.length = n) (hc:b.length ≤ c) (hs:Sl w A (bv b)) (hb:b.length ≤ 1048576) (hm:rs.length = m) (he:Sl w E (codPe.row rs)) (hP:PosIn w rs all) (hr:rs.length ≤ 65535) (z:Int) (hz:w.cell? ⟨0,0,none⟩ = some (.int .i64 z)) (hw0:0 < w.heap.size) :
  Calls Try.prog 24 #[.slice A n c,.slice E m ec,.slice none 0 0] w (ShTo w (shortF b all)):=by
 subst hn hm
 have HS:=Lib.hid hs
 have HB:=Lib.hid hb
 have HC:=Lib.hid hc
 have HE:=Lib.hid he
 have HP:=Lib.hid hP
 have HR:=Lib.hid hr
 have HZ:=Lib.hid (And.intro hz hw0)
 have f0:Fr noB w (w.alloc (.cells #[.int .u8 0] 5)):=(Fr.refl noB w).alloc _
 have HF0:=Lib.hid f0
 have H0:=Lib.hid (show Sl (w.alloc (.cells #[.int .u8 0] 5)) (some ⟨w.heap.size,0,none⟩) (bv [0]) from Sl.new w 5 [.int .u8 0])
 have hcv:=conv_str (w.alloc (.cells #[.int .u8 0] 5)) A b.length c b rfl (hs.fr0 f0)
 clear hs hb hc he hP hr hz hw0 f0
 obtain ⟨t0,ht0⟩:∃ t,t = textF [0] b:=⟨_,rfl⟩
 have HT0:=Lib.hid ht0
 have ht1:[0] ++ txB b = t0:=by rw [ht0];unfold textF txB;rw [List.append_assoc]
 have HT1:=Lib.hid ht1
 clear ht0 ht1
 go_enter Try.func24,Try.ntmps24
 go_upto_region 2 with (go_at_call 45;refine (etext_any _ (some ⟨w.heap.size,0,none⟩) 1 1 [0] rfl H0.out (by decide) b (by have:=HB.out;omega)).mono ?_;rw [HT1.out];rintro e w1 ⟨A1,c1,rfl,ho1,hf1⟩;have HO1:=Lib.hid ho1;have HF1:=Lib.hid hf1;clear ho1 hf1 hcv)
 obtain ⟨mm,hmm⟩:∃ mm,mm = min 10 all.length:=⟨_,rfl⟩
 have HMM:=Lib.hid hmm
 have HML:=Lib.hid (show mm ≤ rs.length ∧ mm ≤ 10 from by have:=HP.out.len;omega)
 have HFN:=Lib.hid (show shortF b all = shortL b all mm by rw [hmm];rfl)
 have F0:=Lib.hid (HF0.out.step0 HF1.out)
 have HO0:=Lib.hid (own_base HO1.out HF0.out.size)
 have H1:=Lib.hid (show ∃ (k j:Nat) (A2:Option Addr) (c2:Nat) (o:List UInt8) (ch:Nat),(Value.slice A1 t0.length c1) = .slice A2 o.length c2 ∧ (Value.int .i64 0) = .int .i64 (ch:Int) ∧ (Value.int .i64 1) = .int .i64 (j:Int) ∧ j = k + 1 ∧ mm - 0 = mm - k ∧ k ≤ mm ∧ shortL b all k = (o,ch) ∧ OwnB w w1 A2 c2 o ∧ Fr noB w w1 from ⟨0,1,A1,c1,t0,0,rfl,rfl,rfl,rfl,rfl,Nat.zero_le _,by rw [HT0.out];rfl,HO0.out,F0.out⟩)
 clear hmm H0 HF0 HF1 HO1 HO0 F0
 go_wp2_with fail
 go_loopg [6,7,8] (mm - 0) (fun gk ov cv iv wr=>∃ (k j:Nat) (A2:Option Addr) (c2:Nat) (o:List UInt8) (ch:Nat),ov = .slice A2 o.length c2 ∧ cv = .int .i64 (ch:Int) ∧ iv = .int .i64 (j:Int) ∧ j = k + 1 ∧ gk = mm - k ∧ k ≤ mm ∧ shortL b all k = (o,ch) ∧ OwnB w wr A2 c2 o ∧ Fr noB w wr)
 case atStart=>exact H1.out
 case round =>
  clear H1 HT0 HT1
  obtain ⟨k,j,A2,c2,o,ch,rfl,rfl,rfl,hj,rfl,hk,hsh,ho,hf⟩:=hrel
  have HJ:=Lib.hid hj
  have HSH:=Lib.hid hsh
  have HO:=Lib.hid ho
  have HF:=Lib.hid hf
  clear hsh ho hf
  by_cases hlt:k < mm
  ·have HLT:=Lib.hid hlt
   have hmi:min (10:Int) (rs.length:Int) = (min 10 rs.length:Nat):=by omega
   have i1:(j:Int) ≤ ((min 10 rs.length:Nat):Int):=by have:=HML.out;have:=HMM.out;have:=HP.out.len;omega
   clear hlt hk hj
   go_upto_region 5 with fail
   obtain ⟨i,hi⟩:∃ i,i = rs.length - j:=⟨_,rfl⟩
   have hjr:j ≤ rs.length:=by have:=HML.out;have:=HLT.out;have:=HJ.out;omega
   have hil:i < rs.length:=by have:=HJ.out;omega
   have hil2:i < all.length:=by have:=HP.out.len;omega
   have wi:wrap64 ((rs.length:Int) - (j:Int)) = (i:Int):=by rw [IntWalk.wrap64_in _ (by have:=HR.out;omega)];omega
   have j0:(i:Int) < (rs.length:Int):=by omega
   have i0:(0:Int) ≤ (i:Int):=by omega
   obtain ⟨on,hon⟩:∃ on,on = all[i]:=⟨_,rfl⟩
   have HST:=Lib.hid (show shortL b all (k + 1) = if 8 ≤ on.ch then (o,ch) else if (textF ([1] ++ numB j) (dOf (makeD on.b b))).length < o.length then (textF ([1] ++ numB j) (dOf (makeD on.b b)),on.ch + 1) else (o,ch) by
    have e:all.getD (all.length - (k + 1)) ⟨[],0⟩ = on:=by
     rw [← HJ.out,← HP.out.len,← hi,List.getD_eq_getElem?_getD,List.getElem?_eq_getElem hil2,hon];rfl
    show stepF b all (k + 1) (shortL b all k) = _
    rw [HSH.out]
    unfold stepF
    rw [e,HJ.out])
   have hs3:=HE.out.fr0 HF.out
   obtain ⟨g,off,rfl,hg⟩:=Sl.addr hs3 (by omega)
   obtain ⟨e0,e1⟩:=cellPe hs3 i hil
   have hpo:=(HP.out.at_ i hil hil2).fr0 HF.out
   rw [← hon] at hpo
   generalize rs[i] = r at e0 e1 hpo
   obtain ⟨rA,rn,rc,rh⟩:=r
   have HPO:=Lib.hid hpo
   have HRH:=Lib.hid (show on.ch = rh from hpo.ch)
   have HOB:=Lib.hid hpo.bd
   simp only at e0 e1
   have HJB:=Lib.hid (show j ≤ 10 from by have:=HML.out;have:=HLT.out;have:=HJ.out;omega)
   clear hs3 hg hpo hon hi hil hil2 hjr
   go_upto_region 6 with fail
   obtain ⟨V,hV⟩:∃ V,V = wr.heap.size:=⟨_,rfl⟩
   have fv:Fr noB wr (wr.alloc (.cells #[.slice rA rn rc,.int .i64 (rh:Int)] 53)):=(Fr.refl noB wr).alloc _
   have HBV:=Lib.hid (show Blk (wr.alloc (.cells #[.slice rA rn rc,.int .i64 (rh:Int)] 53)) V 53 [.slice rA rn rc,.int .i64 (rh:Int)] by rw [hV];exact Blk.new wr 53 [.slice rA rn rc,.int .i64 (rh:Int)])
   have HO4:=Lib.hid (own_fr HO.out fv (fun _ _=>by simp [noB]))
   have HF4:=Lib.hid (HF.out.step0 fv)
   have HP4:=Lib.hid (HPO.out.fr0 fv)
   rw [← hV]
   clear hV fv e0 e1 HO HF HPO
   generalize wr.alloc (.cells #[.slice rA rn rc,.int .i64 (rh:Int)] 53) = w4 at HBV HO4 HF4 HP4 ⊢
   have e0:w4.cell? ⟨V,0,none⟩ = some (.slice rA rn rc):=HBV.out.cell 0
   have e1:w4.cell? ⟨V,1,none⟩ = some (.int .i64 (rh:Int)):=HBV.out.cell 1
   by_cases h8:8 ≤ rh
   ·have i8:(8:Int) ≤ (rh:Int):=by omega
    have HS2:=Lib.hid (show shortL b all (k + 1) = (o,ch) by rw [HST.out,if_pos (by have:=HRH.out;omega)])
    clear h8
    have wj:wrap64 ((j:Int) + 1) = (j:Int) + 1:=IntWalk.wrap64_in _ (by have:=HJB.out;omega)
    go_wp2_with fail
    go_roundg (mm - (k + 1))
    case measure=>have:=HLT.out;omega
    case rel=>exact ⟨k + 1,j + 1,A2,c2,o,ch,rfl,rfl,by first | exact congrArg (Value.int .i64) wj | simp,by have:=HJ.out;omega,rfl,HLT.out,HS2.out,HO4.out,HF4.out⟩
   ·have i8:¬ (8:Int) ≤ (rh:Int):=by omega
    have HS2:=Lib.hid (show shortL b all (k + 1) = if (textF ([1] ++ numB j) (dOf (makeD on.b b))).length < o.length then (textF ([1] ++ numB j) (dOf (makeD on.b b)),on.ch + 1) else (o,ch) by rw [HST.out,if_neg (by have:=HRH.out;omega)])
    have HR8:=Lib.hid (show rh < 8 by omega)
    clear h8
    obtain ⟨d,hd⟩:∃ d,d = dOf (makeD on.b b):=⟨_,rfl⟩
    have hdr:resB (makeD on.b b) = d:=by rw [hd];cases makeD on.b b <;> rfl
    have HDR:=Lib.hid hdr
    rw [← hd] at HS2
    clear hd hdr
    go_upto_region 8 with (go_at_call 46;refine (make_n w4 rA A rc c on.b b rn _ HP4.out.len rfl HP4.out.sl (HS.out.fr0 HF4.out) (by have:=HP4.out.len;have:=HP4.out.cap;simp only at *;omega) HC.out HP4.out.nil (by have:=HP4.out.bd;omega) z (cell_fr0 HZ.out.1 HF4.out) (Nat.lt_of_lt_of_le HZ.out.2 HF4.out.size)).mono ?_;rintro e w5 ⟨A5,c5,rfl,hc5,hs5,hf5⟩;rw [HDR.out] at hs5 hc5 ⊢;have HS5:=Lib.hid hs5;have HF5:=Lib.hid hf5;clear hs5 hf5 hc5)
    have HBV5:=Lib.hid (HBV.out.fr HF5.out (by simp [noB]))
    have HO5:=Lib.hid (own_fr HO4.out HF5.out (fun _ _=>by simp [noB]))
    have HF5':=Lib.hid (HF4.out.step0 HF5.out)
    clear e0 e1 HBV HO4 HF4 HP4 HF5
    obtain ⟨F,hFd⟩:∃ F:World → Prop,F = fun w'=>Fr noB w5.drew w':=⟨_,rfl⟩
    have hF0:F w5.drew:=by rw [hFd];exact Fr.refl _ _
    have fr:∀ j:Wd F,Fr noB w5.drew j.w:=fun j=>cast (congrFun hFd j.w) j.h
    have fd:Fr noB w5 w5.drew:=(Fr.refl noB w5).drew
    have HS6:=Lib.hid (HS5.out.fr0 fd)
    have HBV6:=Lib.hid (HBV5.out.fr fd (by simp [noB]))
    have HO6:=Lib.hid (own_fr HO5.out fd (fun _ _=>by simp [noB]))
    have HF6:=Lib.hid (HF5'.out.step0 fd)
    have q0:∀ j:Wd F,(convert 25 9 (.slice A5 d.length c5)).run Try.prog j.w = .ok (.string (str d)) j.w:=fun j=>conv_str j.w A5 _ c5 d rfl (HS6.out.fr0 (fr j))
    have HFD:=Lib.hid hFd
    clear hFd fr fd HS5 HBV5 HO5 HF5'
    refine wp_region_M 6 7 [⟨70368744177664,0,0⟩,⟨140737488355328,256,0⟩,⟨281474976710656,211106232532992,3⟩,⟨562949953421312,1024,0⟩,⟨1125899906842624,562949953421312,8⟩,⟨2251799813685248,1407374883553280,20⟩,⟨4096,2251799813685248,63⟩] [(true,1),(true,3),(true,4),(false,0),(false,2),(false,5)] F (by kernel_rfl) rfl (by kernel_rfl) (by kernel_rfl) (by kernel_rfl) hF0 (fun hA hF=>?_)
    clear hF0
    generalize w5.drew = w6 at hF q0 HS6 HBV6 HO6 HF6 HFD ⊢
    have keep:∀ w' w'',Fr noB w' w'' → F w' → F w'':=fun w' w'' f h=>by rw [HFD.out] at h ⊢;exact h.step0 f
    have NE:=Wd.ne hF
    refine wpAnyS_takes (s2:=[(false,0),(false,2),(false,5)]) (fuel:=4) (fun d v c a w h=>by cases d <;> exact h) hF [1,3,4] hA ?_
    repeat (refine wpTakes_at (by rfl) (by rfl) ?_;go_big_quiet_step (fail);refine wpQuiet_nil ?_)
    refine wpTakes_nil ?_
    clear NE
    intro hA
    refine wpAnyS_one hA rfl (fun K' hK=>?_)
    go_simp
    have fb:Fr noB w6 (w6.alloc (.cells #[.int .u8 1] 5)):=(Fr.refl noB w6).alloc _
    have sb:Sl (w6.alloc (.cells #[.int .u8 1] 5)) (some ⟨w6.heap.size,0,none⟩) (bv [1]):=Sl.new w6 5 [.int .u8 1]
    replace hF:=keep _ _ fb hF
    refine hK.out _ _ hF (fun hA=>?_)
    clear hK K'
    refine wpAnyS_one hA rfl (fun K' hK=>?_)
    go_simp
    go_at_call 23
    obtain ⟨l7,hl7⟩:∃ l,l = [1] ++ numB j:=⟨_,rfl⟩
    have HL7:=Lib.hid hl7
    refine (enum_n _ (some ⟨w6.heap.size,0,none⟩) 1 [1] 1 rfl sb (by decide) j (by have:=HJB.out;omega)).mono ?_
    rw [← hl7]
    clear hl7
    rintro e w7 ⟨A7,c7,rfl,ho7,hf7⟩
    replace hF:=keep _ _ hf7 hF
    refine hK.out _ _ hF (fun hA=>?_)
    clear hK K'
    refine wpAnyS_one hA rfl (fun K' hK=>?_)
    go_simp
    go_at_call 45
    obtain ⟨l8,hl8⟩:∃ l,l = l7 ++ txB d:=⟨_,rfl⟩
    have HL8:=Lib.hid (show l8 = textF ([1] ++ numB j) d by rw [hl8,HL7.out];unfold textF txB;simp)
    refine (etext_any w7 A7 c7 _ l7 rfl (Sl.own ho7) (by rw [HL7.out];have:=numB_length j (by have:=HJB.out;omega);simp;omega) d (by have:=make_short on.b b (by have:=HOB.out;omega);rw [HDR.out] at this;have:=HB.out;omega)).mono ?_
    rw [← hl8]
    clear hl8
    rintro e w8 ⟨A8,c8,rfl,ho8,hf8⟩
    have ff:=(fb.step0 hf7).step0 hf8
    have HO8:=Lib.hid (own_base ho8 (by have:=HF6.out.size;have:=(fb.step0 hf7).size;omega:w.heap.size ≤ w7.heap.size))
    have HF8:=Lib.hid (HF6.out.step0 ff)
    have HBV8:=Lib.hid (HBV6.out.fr ff (by simp [noB]))
    have HO9:=Lib.hid (own_fr HO6.out ff (fun _ _=>by simp [noB]))
    replace hF:=keep _ _ hf8 hF
    refine hK.out _ _ hF (fun hA=>?_)
    clear hK K' keep fb sb ho7 hf7 ho8 hf8 ff HS6 HBV6 HO6 HF6 HFD q0 hF
    refine wpAnyS_end hA rfl ?_
    simp only [List.drop_succ_cons,List.drop_zero]
    have HS3:=Lib.hid (show shortL b all (k + 1) = if l8.length < o.length then (l8,on.ch + 1) else (o,ch) by rw [HS2.out,← HL8.out])
    by_cases hlo:l8.length < o.length
    ·have j2:(l8.length:Int) < (o.length:Int):=by omega
     have HS4:=Lib.hid (show shortL b all (k + 1) = (l8,rh + 1) by rw [HS3.out,if_pos hlo,HRH.out])
     clear hlo
     go_upto_region 10 with fail
     obtain ⟨G,hGd⟩:∃ G:World → Prop,G = fun w'=>Fr noB w8.drew w':=⟨_,rfl⟩
     have hG0:G w8.drew:=by rw [hGd];exact Fr.refl _ _
     have fr:∀ j:Wd G,Fr noB w8.drew j.w:=fun j=>cast (congrFun hGd j.w) j.h
     have fd:Fr noB w8 w8.drew:=(Fr.refl noB w8).drew
     have q0:∀ j:Wd G,j.w.cell? ⟨V,1,none⟩ = some (.int .i64 (rh:Int)):=fun j=>(HBV8.out.fr (fd.step0 (fr j)) (by simp [noB])).cell 1
     have HO10:=Lib.hid (own_fr HO8.out fd (fun _ _=>by simp [noB]))
     have HF10:=Lib.hid (HF8.out.step0 fd)
     clear hGd fr fd HO8 HF8 HO9 HBV8
     refine wp_region_M 5 6 [⟨144115188075855872,4096,0⟩,⟨288230376151711744,512,0⟩,⟨576460752303423488,288230376151711744,2⟩,⟨1152921504606846976,576460752303423488,4⟩,⟨64,144115188075855872,1⟩,⟨128,1152921504606846976,31⟩] [(true,0),(true,1),(true,2),(true,3),(true,4)] G (by kernel_rfl) rfl (by kernel_rfl) (by kernel_rfl) (by kernel_rfl) hG0 (fun hA hF=>?_)
     clear hG0
     generalize w8.drew = w10 at hF q0 HO10 HF10 ⊢
     have NE:=Wd.ne hF
     refine wpAnyS_takes (s2:=[]) (fuel:=1) (fun d v c a w h=>by cases d <;> exact h) hF [0,1,2,3,4] hA ?_
     repeat (refine wpTakes_at (by rfl) (by rfl) ?_;go_big_quiet_step (fail);refine wpQuiet_nil ?_)
     refine wpTakes_nil ?_
     clear NE
     intro hA
     refine wpAnyS_end hA rfl ?_
     simp only [List.drop_succ_cons,List.drop_zero]
     clear hF q0
     have wj:wrap64 ((j:Int) + 1) = (j:Int) + 1:=IntWalk.wrap64_in _ (by have:=HJB.out;omega)
     go_wp2_with fail
     go_roundg (mm - (k + 1))
     case measure=>have:=HLT.out;omega
     case rel=>exact ⟨k + 1,j + 1,A8,c8,l8,rh + 1,rfl,by first | rfl | simp,by first | exact congrArg (Value.int .i64) wj | simp,by have:=HJ.out;omega,rfl,HLT.out,HS4.out,HO10.out,HF10.out⟩
    ·have j2:¬ (l8.length:Int) < (o.length:Int):=by omega
     have HS4:=Lib.hid (show shortL b all (k + 1) = (o,ch) by rw [HS3.out,if_neg hlo])
     clear hlo
     have wj:wrap64 ((j:Int) + 1) = (j:Int) + 1:=IntWalk.wrap64_in _ (by have:=HJB.out;omega)
     go_wp2_with fail
     go_roundg (mm - (k + 1))
     case measure=>have:=HLT.out;omega
     case rel=>exact ⟨k + 1,j + 1,A2,c2,o,ch,rfl,rfl,by first | exact congrArg (Value.int .i64) wj | simp,by have:=HJ.out;omega,rfl,HLT.out,HS4.out,HO9.out,HF8.out⟩
  ·have i1:¬ (j:Int) ≤ ((min 10 rs.length:Nat):Int):=by have:=HML.out;have:=HMM.out;have:=HP.out.len;omega
   have hmi:min (10:Int) (rs.length:Int) = (min 10 rs.length:Nat):=by omega
   have HKE:=Lib.hid (show k = mm by omega)
   clear hlt hk hj
   go_wp2_with fail
   go_loopg [6,7,67] 0 (fun gk ov cv iv wx=>gk = 0 ∧ ov = .slice A2 o.length c2 ∧ cv = .int .i64 (ch:Int) ∧ iv = .int .i64 0 ∧ wx = wr)
   case atStart=>exact ⟨rfl,rfl,rfl,rfl,rfl⟩
   case round =>
    obtain ⟨rfl,rfl,rfl,rfl,rfl⟩:=hrel
    go_wp2_with fail
    go_ret2
    refine ⟨A2,c2,?_,?_,HF.out⟩
    ·rw [HFN.out,← HKE.out,HSH.out];rfl
    ·rw [HFN.out,← HKE.out,HSH.out];exact HO.out
end Go.Proofs.Ytahllkifmmjbdaa
