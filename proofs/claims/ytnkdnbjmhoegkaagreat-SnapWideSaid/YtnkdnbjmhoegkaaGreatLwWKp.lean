/- Words for layer 13's laws. (ex_ldS_at, ex_ldR_at) The law SnapWide: its walk. (ex_ldS_at, ex_ldR_at) -/
import Derived.Test.YtnkdnbjmhoegkaaGreatSvNKp
import Derived.Test.YtnkdnbjmhoegkaaGreatSnpWKp
import Derived.Test.YtnkdnbjmhoegkaaGreatClsWKp
set_option linter.unusedVariables false
set_option linter.unusedSimpArgs false
namespace Go.Proofs.YtnkdnbjmhoegkaaGreat
open Go.RowKit Go.Maps Go.Sort
theorem and_maskZ (x:Int) (m:Nat) (hm:m ≤ 1023):∃ r:Nat,bits BinOp.and IntKind.i64 x (m:Int) = (r:Int) ∧ r ≤ m:=by
 refine ⟨(BitVec.ofInt 64 x &&& BitVec.ofInt 64 (m:Int)).toNat,?_,?_⟩
 ·have hle:(BitVec.ofInt 64 x &&& BitVec.ofInt 64 (m:Int)).toNat ≤ 1023:=by
   rw [BitVec.toNat_and]
   refine Nat.le_trans Nat.and_le_right ?_
   rw [BitVec.toNat_ofInt]
   omega
  show IntKind.i64.wrap (((BitVec.ofInt 64 x &&& BitVec.ofInt 64 (m:Int)).toNat:Nat):Int) = _
  rw [IntKind.wrap_i64]
  omega
 ·rw [BitVec.toNat_and]
  refine Nat.le_trans Nat.and_le_right ?_
  rw [BitVec.toNat_ofInt]
  omega
theorem LoTo.two {w w':World} {e:Ending} {rs:List RwP} {objs:List (List UInt8)} (T:TreeOk rs) (N:NarrowZ rs) (hm:∀ b ∈ allZ nameH rs,b ∈ objs) (h:LoTo w (dirO nameH objs) (saveZ nameH rs) e w') :
  Fr noB w w' ∧ ((∃ A c ws xs,e = .returned (.tuple #[.slice A ws.length c,.int .i64 0]) ∧ Sl w' A (codR.row ws) ∧ RwsIn w' ws xs ∧ ws.length ≤ 5000 ∧ (NoClash nameH objs → xs = rs)) ∨ (∃ E:Int,E ≠ 0 ∧ e = .returned (.tuple #[.slice none 0 0,.int .i64 E]) ∧ ¬ NoClash nameH objs)):=by
 obtain ⟨E,acc,A,c,ws,he,hl,hf,h1,h0⟩:=h
 refine ⟨hf,?_⟩
 by_cases hE:E = 0
 ·subst hE
  obtain ⟨xs,hx,hs,hi,hb,hr⟩:=h0 rfl
  refine .inl ⟨A,c,ws,xs,he,hs,hi,by rw [hi.len];exact hb,fun C=>?_⟩
  obtain ⟨_,hp⟩:=load_good T N C hm hl
  have hpr:=hx.trans hp
  have hrp:rs.Pairwise fun a b=>cmpS a.Node b.Node < 0:=riseR_pw T.rise
  have hnd:xs.Pairwise fun a b=>a.Node ≠ b.Node:=by
   have h1:rs.Pairwise fun a b=>a.Node ≠ b.Node:=hrp.imp fun {a b} h e=>by rw [e,cmpS_self] at h;omega
   exact (hpr.pairwise_iff (fun {a b} h e=>h e.symm)).2 h1
  exact rise_uniqZ hpr (sort_rise hr hnd) hrp
 ·obtain ⟨rfl,rfl,rfl⟩:=h1 hE
  exact .inr ⟨E,hE,he,fun C=>hE (load_good T N C hm hl).1⟩
def LdEnd (w':World) (rs:List RwP) (objs:List (List UInt8)) (A:Option Addr) (ws:List RwW) (E:Int):Prop :=
 (E = 0 ∧ ∃ xs,Sl w' A (codR.row ws) ∧ RwsIn w' ws xs ∧ ws.length ≤ 5000 ∧ (NoClash nameH objs → xs = rs)) ∨ (E ≠ 0 ∧ ¬ NoClash nameH objs)
theorem LdEnd.of {w':World} {e:Ending} {rs:List RwP} {objs:List (List UInt8)} (h:(∃ A c ws xs,e = .returned (.tuple #[.slice A ws.length c,.int .i64 0]) ∧ Sl w' A (codR.row ws) ∧ RwsIn w' ws xs ∧ ws.length ≤ 5000 ∧ (NoClash nameH objs → xs = rs)) ∨ (∃ E:Int,E ≠ 0 ∧ e = .returned (.tuple #[.slice none 0 0,.int .i64 E]) ∧ ¬ NoClash nameH objs)) :
  ∃ A c ws E,e = .returned (.tuple #[.slice A ws.length c,.int .i64 E]) ∧ LdEnd w' rs objs A ws E:=by
 rcases h with ⟨A,c,ws,xs,he,h1,h2,h3,h4⟩ | ⟨E,h1,he,h2⟩
 ·exact ⟨A,c,ws,0,he,.inl ⟨rfl,xs,h1,h2,h3,h4⟩⟩
 ·exact ⟨none,0,[],E,he,.inr ⟨h1,h2⟩⟩
def rowM (p:St) (i:Nat):RwW:=⟨nodeW i,p,nodeW i,[110],none,0,0⟩
def wsF (f:Nat → St) (n:Nat):List RwW:=(List.range n).map fun i=>rowM (f i) i
theorem wsF_len (f:Nat → St) (n:Nat):(wsF f n).length = n:=by simp [wsF]
theorem wsF_snoc (f:Nat → St) (n:Nat):wsF f (n + 1) = wsF f n ++ [rowM (f n) n]:=by simp [wsF,List.range_succ]
theorem wsF_in (w:World) {f:Nat → St} {n:Nat} (hn:n ≤ 5000) (hf:∀ i,i < n → wfS (f i) = true):RwsIn w (wsF f n) (rowsF f n):=⟨by rw [wsF_len,rowsF_len],fun i h1 h2=>by
 rw [wsF_len] at h1
 have e1:(wsF f n)[i]'(by rw [wsF_len];exact h1) = rowM (f i) i:=by simp [wsF]
 rw [e1,get_rowsF h2]
 exact ⟨rfl,rfl,Sl.nil _ _,Nat.zero_le _,by show 1 ≤ _;omega,by unfold wfS rowM nodeW;simp only [Bool.and_eq_true,decide_eq_true_eq];omega,hf i h1⟩⟩
theorem wsF_kd {w:World} {X:Nat} {A:Option Addr} {f:Nat → St} {n:Nat} (hn:n ≤ 5000) (hf:∀ i,i < n → wfS (f i) = true) (hs:Sl w A (codR.row (wsF f n))) (ho:wsF f n ≠ [] → Off A (fun b=>b ≠ X)):KdX w X A (wsF f n) (rowsF f n) :=
 ⟨hs,wsF_in w hn hf,ho,fun i h1 h2 hne=>absurd (by rw [get_rowsF h2];rfl) hne⟩
theorem bldRp (w:World) (s t u:St):(Instr.build 28 #[(0,.agg (codS.A s)),(1,.agg (codS.A t)),(2,.agg (codS.A u)),(3,.string ⟨#[110]⟩)]).run Tryz.prog w = .ok (.agg (codR.A ⟨s,t,u,[110],none,0,0⟩)) w:=by
 have e:∀ s:St,codS.A s = #[.int .i64 s.T,.int .i64 s.R]:=fun s=>by rw [Cod.A_eq];rfl
 rw [e,e,e,Cod.A_eq];go_simp;rfl
@[simp ↓] theorem ex_bldRp (ρ:Operand → Value) (x0 x1 x2 x3:Operand) (d:Option Nat) (t:TypeId) (p:String) (f:Array Edge) (g:Option (Nat × Bool)) (w:World) :
  (execOp ρ { dst:=d,op:=.build 28 #[(0,x0),(1,x1),(2,x2),(3,x3)],type:=t,pos:=p,after:=f,guard:=g }).run Tryz.prog w = mkB 28 w [(0,ρ x0),(1,ρ x1),(2,ρ x2),(3,ρ x3)]:=(exB ρ _ _ _ rfl w).trans (by simp only [List.map_toArray,List.map_cons,List.map_nil])
@[simp] theorem mkB_Rp (w:World) (s t u:St):mkB 28 w [(0,.agg (codS.A s)),(1,.agg (codS.A t)),(2,.agg (codS.A u)),(3,.string ⟨#[110]⟩)] = .ok (.value (.agg (codR.A ⟨s,t,u,[110],none,0,0⟩))) w:=mkB_ok (bldRp w s t u)
def GrF (W:World) (f:Nat → St) (n:Nat) (gk:Nat) (ov iv:Value) (wr:World):Prop :=
 ∃ (k:Nat) (A:Option Addr) (c:Nat) (l:List RwW),ov = .slice A l.length c ∧ iv = .int .i64 (k:Int) ∧ gk = n - k ∧ k ≤ n ∧ l = wsF f k ∧ OwnC codR W wr A c l ∧ Fr noB W wr
set_option maxRecDepth 100000 in
set_option maxHeartbeats 4000000 in
theorem wide13_any (w:World) (a:Int) (b:Bool):Calls Tryz.prog 3 #[.int .i64 a,.bool b] w (Gives w (.bool true)):=by
 obtain ⟨m,em,hm⟩:=and_maskZ a 15 (by omega)
 obtain ⟨n,hn⟩:∃ n,n = 990 + m:=⟨_,rfl⟩
 have en:wrap64 (990 + (m:Int)) = (n:Int):=by rw [IntWalk.wrap64_in _ (by omega)];omega
 have HNB:=Lib.hid (show 990 ≤ n ∧ n ≤ 1005 by omega)
 clear hm hn
 go_enter Tryz.func3,Tryz.ntmps3
 go_upto_region 4 with (go_at_call 6;refine (alive13_any w).mono ?_;rintro e w1 ⟨rfl,f1⟩;have HF1:=Lib.hid f1;clear f1)
 have em:bits .and .i64 a 15 = (m:Int):=em
 rw [em,en]
 clear em en
 go_upto_region 5 with fail
 have fa:Fr noB w1 (w1.alloc (codS.o zSt)):=(Fr.refl noB w1).alloc _
 have b0:=Cod.bxd_new (C:=codS) w1 zSt
 have HF2:=Lib.hid (HF1.out.step0 fa)
 have HNP:=Lib.hid (show w.heap.size ≤ w1.heap.size from HF1.out.size)
 clear fa
 generalize w1.alloc (codS.o zSt) = w2 at b0 HF2 ⊢
 generalize w1.heap.size = P at b0 HNP ⊢
 cases b with
 | true =>
  have hb:=Cod.bxd_blk b0
  have k1:w2.cell? ⟨P,1,none⟩ = some (.int .i64 0):=by rw [hb.cell];rfl
  have k2:=hb.frozen 1
  have hs:Blk (w2.setCell ⟨P,1,none⟩ (.int .i64 1)) P 24 (codS.cs trS):=hb.set 1 _
  have fs:Fr (oneB P) w2 (w2.setCell ⟨P,1,none⟩ (.int .i64 1)):=Fr.setCell (M:=oneB P) (Fr.refl _ w2) (p:=⟨P,1,none⟩) (fun _=>rfl) _
  have HF3:=Lib.hid (HF2.out.step1 fs HNP.out)
  have HB3:=Lib.hid (show codS.bxd (w2.setCell ⟨P,1,none⟩ (.int .i64 1)) P = some trS from Cod.bxd_of (by rw [Cod.o_eq];exact hs))
  clear hb hs fs b0
  go_upto_region 7 with fail
  clear k1 k2
  generalize w2.setCell ⟨P,1,none⟩ (.int .i64 1) = w3 at HF3 HB3 ⊢
  obtain ⟨par,hpar⟩:∃ p,p = trS:=⟨_,rfl⟩
  rw [← hpar] at HB3
  have HPX:=Lib.hid (show fixedS par = true ∧ wfS par = true by rw [hpar];exact ⟨by decide,by decide⟩)
  clear hpar
  go_upto_region 8 with fail
  have fb:Fr noB w3 (w3.alloc (.cells #[] 28)):=(Fr.refl noB w3).alloc _
  have own0:OwnC codR w3 (w3.alloc (.cells #[] 28)) (some ⟨w3.heap.size,0,none⟩) 0 []:=World.ownsRow_lit (base:=w3.heap.size) (e:=28) (size:=8) w3 #[] 0 (Nat.le_refl _) (by unfold maxLen;omega) (by simp)
  have H0:=Lib.hid (show GrF w3 (fun _=>par) n n (.slice (some ⟨w3.heap.size,0,none⟩) 0 0) (.int .i64 ((0:Nat):Int)) (w3.alloc (.cells #[] 28)) from ⟨0,_,0,[],rfl,rfl,rfl,Nat.zero_le _,rfl,own0,fb⟩)
  clear fb own0
  go_wp2_with fail
  go_loopg [6,7] n (fun gk ov iv wr=>GrF w3 (fun _=>par) n gk ov iv wr)
  case atStart=>exact H0.out
  case round =>
   clear H0
   obtain ⟨k,A,c,l,rfl,rfl,rfl,hk,hl,ho,hf⟩:=hrel
   have HL:=Lib.hid hl
   have HO:=Lib.hid ho
   have HF:=Lib.hid hf
   have HLL:=Lib.hid (show l.length = k by rw [hl,wsF_len])
   clear hl ho hf
   by_cases hlt:k < n
   ·have i1:(k:Int) < (n:Int):=by omega
    have wk:wrap64 ((k:Int) + 1) = (k:Int) + 1:=IntWalk.wrap64_in _ (by have:=HNB.out;omega)
    have HKL:=Lib.hid hlt
    clear hlt hk
    go_upto_region 12 with fail
    have fs:Fr noB wr (wr.alloc (codS.o ⟨(k:Int) + 1,1⟩)):=(Fr.refl noB wr).alloc _
    have qs:=Cod.rd_new' (C:=codS) wr ⟨(k:Int) + 1,1⟩
    have qp:=Cod.bxd_rd (Cod.bxd_fr0 (Cod.bxd_fr0 HB3.out HF.out) fs)
    have HF2:=Lib.hid (HF.out.step0 fs)
    have HO2:=Lib.hid (own_new0 HO.out fs)
    generalize wr.alloc (codS.o ⟨(k:Int) + 1,1⟩) = w4 at qs qp HF2 HO2 ⊢
    generalize wr.heap.size = S at qs ⊢
    obtain ⟨rw',hrw⟩:∃ q:RwW,q = ⟨⟨(k:Int) + 1,1⟩,par,⟨(k:Int) + 1,1⟩,[110],none,0,0⟩:=⟨_,rfl⟩
    have HRW:=Lib.hid (show rw' = rowM par k from hrw)
    have fn:Fr noB w4 (w4.alloc (codR.ro [⟨⟨(k:Int) + 1,1⟩,par,⟨(k:Int) + 1,1⟩,[110],none,0,0⟩])):=(Fr.refl noB w4).alloc _
    have sl:=Cod.sl_new (C:=codR) w4 [⟨⟨(k:Int) + 1,1⟩,par,⟨(k:Int) + 1,1⟩,[110],none,0,0⟩]
    have ho5:=own_new0 HO2.out fn
    have hf5:=HF2.out.step0 fn
    clear fn
    go_upto_region 10 with (at_builtin;refine wpList_appC' etR w3 _ rfl _ _ rfl A l.length c l rfl rfl ho5 (some ⟨w4.heap.size,0,none⟩) 1 1 [⟨⟨(k:Int) + 1,1⟩,par,⟨(k:Int) + 1,1⟩,[110],none,0,0⟩] rfl sl rfl (by have:=HLL.out;have:=HKL.out;have:=HNB.out;simp;omega) hf5.size ?_;intro A8 c8 w8 hc8 hmx8 ho8 hg8 hA8;rw [← hrw] at ho8 ⊢;obtain ⟨l8,hl8⟩:∃ t,t = l ++ [rw']:=⟨_,rfl⟩;rw [← hl8] at ho8 ⊢;have HL8:=Lib.hid hl8;clear hl8 hc8 hmx8)
    have F8:=Lib.hid (Fr.own' hf5 ho5 hg8)
    have HO8:=Lib.hid ho8
    clear hf5 ho5 hg8 hA8 ho8 sl qs qp hrw
    go_wp2_with fail
    go_roundg (n - (k + 1))
    case measure=>have:=HKL.out;omega
    case rel=>exact ⟨k + 1,A8,c8,l8,rfl,by first | exact congrArg (Value.int .i64) wk | simp,rfl,by have:=HKL.out;omega,by rw [HL8.out,HL.out,HRW.out,wsF_snoc],HO8.out,F8.out⟩
   ·have i1:¬ (k:Int) < (n:Int):=by omega
    obtain rfl:k = n:=by omega
    have HW:=Lib.hid (show l = wsF (fun _=>par) k from HL.out)
    clear hlt hk
    have T:=tree_wide HPX.out.1 (n:=k) (by have:=HNB.out;omega)
    have HT:=Lib.hid T
    clear T
    go_upto_region 14 with fail
    have fx:Fr noB wr (wr.alloc (.cells #[.slice none 0 0] 32)):=(Fr.refl noB wr).alloc _
    have HX:=Lib.hid (BoxIn.new wr (fun _=>False))
    have HF2:=Lib.hid (HF.out.step0 fx)
    have HKD:=Lib.hid (show KdX (wr.alloc (.cells #[.slice none 0 0] 32)) wr.heap.size A l (rowsF (fun _=>par) k) from by
     have h1:=(Sl.own HO.out).fr0 fx
     rw [HW.out] at h1 ⊢
     refine wsF_kd (by have:=HNB.out;omega) (fun _ _=>HPX.out.2) h1 fun _=>(Off.own HO.out).mono fun b hb e=>?_
     have:=hb.2
     omega)
    have CS:=Lib.hid (svsave_any _ _ _ (fun g h=>h.elim) [] HX.out A c l.length l _ rfl HKD.out HT.out (by have:=all_len (H:=nameH) HT.out;rw [rowsF_len] at this;have:=HNB.out;simp;omega))
    clear fx
    have HWX:=Lib.hid (show w.heap.size ≤ wr.heap.size from (HF3.out.step0 HF.out).size)
    have HF4:=Lib.hid (HF3.out.step0 HF2.out)
    clear HO HF HF2
    generalize wr.alloc (.cells #[.slice none 0 0] 32) = wx at HX HKD CS HF4 ⊢
    generalize wr.heap.size = X at HX HKD CS HWX ⊢
    by_cases hk9:k ≤ 999
    ·have i9:¬ (999:Int) < (k:Int):=by omega
     have HNW:=Lib.hid (show NarrowZ (rowsF (fun _=>par) k) from fun q=>Nat.le_trans (kids_le _ _) (by rw [rowsF_len];exact hk9))
     clear hk9
     go_upto_region 17 with (go_at_call 7;refine CS.out.mono ?_;rintro e w4 h4;obtain ⟨_,rfl,hx4,f4⟩:=h4.resolve_right (fun h=>h.1 HNW.out);obtain ⟨sv,hsv⟩:∃ s,s = saveZ nameH (rowsF (fun _=>par) k):=⟨_,rfl⟩;rw [← hsv];have HSV:=Lib.hid hsv;have HX4:=Lib.hid hx4;have HF5:=Lib.hid f4;clear hsv hx4 f4 h4)
     obtain ⟨pf1,pf2,pf3⟩:=putB_fr (bxI_new w4 zID) sv
     have fs:Fr noB w4 (putB (w4.alloc (ido zID)) w4.heap.size sv):=((Fr.refl noB w4).alloc (ido zID)).step1 pf1 (Nat.le_refl _)
     have q4:=bxI_rd pf3
     have HX5:=Lib.hid (HX4.out.fr0 fs)
     have HK5:=Lib.hid ((HKD.out.fr HF5.out).fr fs.any)
     have HF6:=Lib.hid ((HF4.out.step1 HF5.out HWX.out).step0 fs)
     clear pf1 pf2 pf3 fs
     generalize putB (w4.alloc (ido zID)) w4.heap.size sv = w5 at q4 HX5 HK5 HF6 ⊢
     generalize w4.heap.size = D at q4 ⊢
     have HLB:=Lib.hid (show (putAll [] (allZ nameH (rowsF (fun _=>par) k))).length ≤ 1000000000 by
      have h1:=putAll_le (allZ nameH (rowsF (fun _=>par) k)) []
      have h2:=all_len (H:=nameH) HT.out
      rw [rowsF_len] at h2
      have:=HNB.out
      simp at h1
      omega)
     have CL:=Lib.hid (svload_any w5 X _ _ HX5.out HLB.out sv)
     clear HX4 CS HKD HX HF5
     go_upto_region 18 with (go_at_call 9;refine CL.out.mono ?_;rintro e w6 h6;rw [HSV.out] at h6;obtain ⟨f6,h6a⟩:=h6.two HT.out HNW.out (fun b hb=>mem_putAll.2 (.inr hb));obtain ⟨A6,c6,ws6,E6,rfl,h6b⟩:=LdEnd.of h6a;have HF7:=Lib.hid f6;have H6:=Lib.hid h6b;clear f6 h6a h6b h6)
     have HX6:=Lib.hid (HX5.out.fr0 HF7.out)
     have HK6:=Lib.hid (HK5.out.fr HF7.out.any)
     obtain ⟨A0,c0,rs0,hk0,hr0⟩:=HX6.out
     have HRB:=Lib.hid (show rs0.length = (putAll [] (allZ nameH (rowsF (fun _=>par) k))).length from hr0.bs.len)
     have HK0:=Lib.hid hk0
     have HR0:=Lib.hid hr0
     clear hk0 hr0 q4
     have CC:=Lib.hid (fun w7 (f:Fr noB w6 w7)=>clash_any w7 A0 c0 rs0.length rs0 _ rfl (HR0.out.sl.fr0 f) (by rw [HRB.out];have:=HLB.out;omega) (HR0.out.bs.fr0 f))
     have k6:w6.cell? ⟨X,0,none⟩ = some (.slice A0 rs0.length c0):=by rw [HK0.out.cell];rfl
     have HKX:=Lib.hid (fun w7 (f:Fr noB w6 w7)=>(show w7.cell? ⟨X,0,none⟩ = some (.slice A0 rs0.length c0) by rw [(HK0.out.fr f (by simp [noB])).cell];rfl))
     clear i1 i9 CL
     rcases H6.out with ⟨rfl,xs,hs6,hi6,hb6,hx6⟩ | ⟨hE,hNC⟩
     ·have CE:=Lib.hid (r12sameY_any w6 A6 A c6 c ws6.length l.length ws6 l xs _ rfl rfl hs6 HK6.out.sl hi6 HK6.out.inn (by omega) (by rw [HLL.out];have:=HNB.out;omega))
      clear hs6 hi6 hb6
      by_cases hx:xs = rowsF (fun _=>par) k
      ·rw [decide_eq_true hx] at CE
       clear hx hx6 H6 k6
       go_wp2_with (go_at_call 11;refine CE.out.mono ?_;rintro e w7 ⟨rfl,f7⟩;have HF8:=Lib.hid f7;clear f7)
       go_ret
       exact ⟨rfl,(HF6.out.step0 HF7.out).step0 HF8.out⟩
      ·rw [decide_eq_false hx] at CE
       have HNC:=Lib.hid (show ¬ NoClash nameH (putAll [] (allZ nameH (rowsF (fun _=>par) k))) from fun C=>hx (hx6 C))
       clear hx hx6 H6 k6
       go_wp2_with (first
        | (go_at_call 11;refine CE.out.mono ?_;rintro e w7 ⟨rfl,f7⟩;have HF8:=Lib.hid f7;have k7:=HKX.out w7 f7;clear f7)
        | (go_at_call 12;refine (CC.out w7 HF8.out).mono ?_;rintro e w8 ⟨bb,rfl,f8,hcl⟩;obtain rfl:bb = true:=(by cases bb;exact absurd (hcl rfl) HNC.out;rfl);have HF9:=Lib.hid f8;clear f8 hcl))
       go_ret
       exact ⟨rfl,((HF6.out.step0 HF7.out).step0 HF8.out).step0 HF9.out⟩
     ·have HNC:=Lib.hid hNC
      clear hNC H6
      go_wp2_with (go_at_call 12;refine (CC.out w6 (Fr.refl _ _)).mono ?_;rintro e w8 ⟨bb,rfl,f8,hcl⟩;obtain rfl:bb = true:=(by cases bb;exact absurd (hcl rfl) HNC.out;rfl);have HF9:=Lib.hid f8;clear f8 hcl)
      go_ret
      exact ⟨rfl,(HF6.out.step0 HF7.out).step0 HF9.out⟩
    ·have i9:(999:Int) < (k:Int):=by omega
     have HNW:=Lib.hid (show ¬ NarrowZ (rowsF (fun _=>par) k) from fun h=>by
      have:=h par
      rw [kids_wide,rowsF_len] at this
      exact hk9 this)
     clear hk9
     go_upto_region 16 with (go_at_call 7;refine CS.out.mono ?_;rintro e w4 h4;obtain ⟨_,rfl,f4⟩:=h4.resolve_left (fun h=>HNW.out h.1);have HF5:=Lib.hid f4;clear f4 h4)
     obtain ⟨pf1,pf2,pf3⟩:=putB_fr (bxI_new w4 zID) zID
     have fs:Fr noB w4 (putB (w4.alloc (ido zID)) w4.heap.size zID):=((Fr.refl noB w4).alloc (ido zID)).step1 pf1 (Nat.le_refl _)
     obtain ⟨A0,c0,rs0,hk0,hr0⟩:=(HX.out.fr0 HF5.out).fr0 fs
     have h0:rs0.length = 0:=hr0.bs.len
     have k5:(putB (w4.alloc (ido zID)) w4.heap.size zID).cell? ⟨X,0,none⟩ = some (.slice A0 0 c0):=by rw [hk0.cell,h0];rfl
     have HF6:=Lib.hid ((HF4.out.step0 HF5.out).step0 fs)
     clear pf1 pf2 pf3 fs hk0 hr0 h0
     generalize putB (w4.alloc (ido zID)) w4.heap.size zID = w5 at k5 HF6 ⊢
     go_wp2_with fail
     go_ret
     exact ⟨rfl,HF6.out⟩
 | false =>
  go_upto_region 7 with fail
  have HF3:=Lib.hid HF2.out
  have HB3:=Lib.hid b0
  clear b0
  generalize w2 = w3 at HF3 HB3 ⊢
  obtain ⟨par,hpar⟩:∃ p,p = zSt:=⟨_,rfl⟩
  rw [← hpar] at HB3
  have HPX:=Lib.hid (show fixedS par = true ∧ wfS par = true by rw [hpar];exact ⟨by decide,by decide⟩)
  clear hpar
  go_upto_region 8 with fail
  have fb:Fr noB w3 (w3.alloc (.cells #[] 28)):=(Fr.refl noB w3).alloc _
  have own0:OwnC codR w3 (w3.alloc (.cells #[] 28)) (some ⟨w3.heap.size,0,none⟩) 0 []:=World.ownsRow_lit (base:=w3.heap.size) (e:=28) (size:=8) w3 #[] 0 (Nat.le_refl _) (by unfold maxLen;omega) (by simp)
  have H0:=Lib.hid (show GrF w3 (fun _=>par) n n (.slice (some ⟨w3.heap.size,0,none⟩) 0 0) (.int .i64 ((0:Nat):Int)) (w3.alloc (.cells #[] 28)) from ⟨0,_,0,[],rfl,rfl,rfl,Nat.zero_le _,rfl,own0,fb⟩)
  clear fb own0
  go_wp2_with fail
  go_loopg [6,7] n (fun gk ov iv wr=>GrF w3 (fun _=>par) n gk ov iv wr)
  case atStart=>exact H0.out
  case round =>
   clear H0
   obtain ⟨k,A,c,l,rfl,rfl,rfl,hk,hl,ho,hf⟩:=hrel
   have HL:=Lib.hid hl
   have HO:=Lib.hid ho
   have HF:=Lib.hid hf
   have HLL:=Lib.hid (show l.length = k by rw [hl,wsF_len])
   clear hl ho hf
   by_cases hlt:k < n
   ·have i1:(k:Int) < (n:Int):=by omega
    have wk:wrap64 ((k:Int) + 1) = (k:Int) + 1:=IntWalk.wrap64_in _ (by have:=HNB.out;omega)
    have HKL:=Lib.hid hlt
    clear hlt hk
    go_upto_region 12 with fail
    have fs:Fr noB wr (wr.alloc (codS.o ⟨(k:Int) + 1,1⟩)):=(Fr.refl noB wr).alloc _
    have qs:=Cod.rd_new' (C:=codS) wr ⟨(k:Int) + 1,1⟩
    have qp:=Cod.bxd_rd (Cod.bxd_fr0 (Cod.bxd_fr0 HB3.out HF.out) fs)
    have HF2:=Lib.hid (HF.out.step0 fs)
    have HO2:=Lib.hid (own_new0 HO.out fs)
    generalize wr.alloc (codS.o ⟨(k:Int) + 1,1⟩) = w4 at qs qp HF2 HO2 ⊢
    generalize wr.heap.size = S at qs ⊢
    obtain ⟨rw',hrw⟩:∃ q:RwW,q = ⟨⟨(k:Int) + 1,1⟩,par,⟨(k:Int) + 1,1⟩,[110],none,0,0⟩:=⟨_,rfl⟩
    have HRW:=Lib.hid (show rw' = rowM par k from hrw)
    have fn:Fr noB w4 (w4.alloc (codR.ro [⟨⟨(k:Int) + 1,1⟩,par,⟨(k:Int) + 1,1⟩,[110],none,0,0⟩])):=(Fr.refl noB w4).alloc _
    have sl:=Cod.sl_new (C:=codR) w4 [⟨⟨(k:Int) + 1,1⟩,par,⟨(k:Int) + 1,1⟩,[110],none,0,0⟩]
    have ho5:=own_new0 HO2.out fn
    have hf5:=HF2.out.step0 fn
    clear fn
    go_upto_region 10 with (at_builtin;refine wpList_appC' etR w3 _ rfl _ _ rfl A l.length c l rfl rfl ho5 (some ⟨w4.heap.size,0,none⟩) 1 1 [⟨⟨(k:Int) + 1,1⟩,par,⟨(k:Int) + 1,1⟩,[110],none,0,0⟩] rfl sl rfl (by have:=HLL.out;have:=HKL.out;have:=HNB.out;simp;omega) hf5.size ?_;intro A8 c8 w8 hc8 hmx8 ho8 hg8 hA8;rw [← hrw] at ho8 ⊢;obtain ⟨l8,hl8⟩:∃ t,t = l ++ [rw']:=⟨_,rfl⟩;rw [← hl8] at ho8 ⊢;have HL8:=Lib.hid hl8;clear hl8 hc8 hmx8)
    have F8:=Lib.hid (Fr.own' hf5 ho5 hg8)
    have HO8:=Lib.hid ho8
    clear hf5 ho5 hg8 hA8 ho8 sl qs qp hrw
    go_wp2_with fail
    go_roundg (n - (k + 1))
    case measure=>have:=HKL.out;omega
    case rel=>exact ⟨k + 1,A8,c8,l8,rfl,by first | exact congrArg (Value.int .i64) wk | simp,rfl,by have:=HKL.out;omega,by rw [HL8.out,HL.out,HRW.out,wsF_snoc],HO8.out,F8.out⟩
   ·have i1:¬ (k:Int) < (n:Int):=by omega
    obtain rfl:k = n:=by omega
    have HW:=Lib.hid (show l = wsF (fun _=>par) k from HL.out)
    clear hlt hk
    have T:=tree_wide HPX.out.1 (n:=k) (by have:=HNB.out;omega)
    have HT:=Lib.hid T
    clear T
    go_upto_region 14 with fail
    have fx:Fr noB wr (wr.alloc (.cells #[.slice none 0 0] 32)):=(Fr.refl noB wr).alloc _
    have HX:=Lib.hid (BoxIn.new wr (fun _=>False))
    have HF2:=Lib.hid (HF.out.step0 fx)
    have HKD:=Lib.hid (show KdX (wr.alloc (.cells #[.slice none 0 0] 32)) wr.heap.size A l (rowsF (fun _=>par) k) from by
     have h1:=(Sl.own HO.out).fr0 fx
     rw [HW.out] at h1 ⊢
     refine wsF_kd (by have:=HNB.out;omega) (fun _ _=>HPX.out.2) h1 fun _=>(Off.own HO.out).mono fun b hb e=>?_
     have:=hb.2
     omega)
    have CS:=Lib.hid (svsave_any _ _ _ (fun g h=>h.elim) [] HX.out A c l.length l _ rfl HKD.out HT.out (by have:=all_len (H:=nameH) HT.out;rw [rowsF_len] at this;have:=HNB.out;simp;omega))
    clear fx
    have HWX:=Lib.hid (show w.heap.size ≤ wr.heap.size from (HF3.out.step0 HF.out).size)
    have HF4:=Lib.hid (HF3.out.step0 HF2.out)
    clear HO HF HF2
    generalize wr.alloc (.cells #[.slice none 0 0] 32) = wx at HX HKD CS HF4 ⊢
    generalize wr.heap.size = X at HX HKD CS HWX ⊢
    by_cases hk9:k ≤ 999
    ·have i9:¬ (999:Int) < (k:Int):=by omega
     have HNW:=Lib.hid (show NarrowZ (rowsF (fun _=>par) k) from fun q=>Nat.le_trans (kids_le _ _) (by rw [rowsF_len];exact hk9))
     clear hk9
     go_upto_region 17 with (go_at_call 7;refine CS.out.mono ?_;rintro e w4 h4;obtain ⟨_,rfl,hx4,f4⟩:=h4.resolve_right (fun h=>h.1 HNW.out);obtain ⟨sv,hsv⟩:∃ s,s = saveZ nameH (rowsF (fun _=>par) k):=⟨_,rfl⟩;rw [← hsv];have HSV:=Lib.hid hsv;have HX4:=Lib.hid hx4;have HF5:=Lib.hid f4;clear hsv hx4 f4 h4)
     obtain ⟨pf1,pf2,pf3⟩:=putB_fr (bxI_new w4 zID) sv
     have fs:Fr noB w4 (putB (w4.alloc (ido zID)) w4.heap.size sv):=((Fr.refl noB w4).alloc (ido zID)).step1 pf1 (Nat.le_refl _)
     have q4:=bxI_rd pf3
     have HX5:=Lib.hid (HX4.out.fr0 fs)
     have HK5:=Lib.hid ((HKD.out.fr HF5.out).fr fs.any)
     have HF6:=Lib.hid ((HF4.out.step1 HF5.out HWX.out).step0 fs)
     clear pf1 pf2 pf3 fs
     generalize putB (w4.alloc (ido zID)) w4.heap.size sv = w5 at q4 HX5 HK5 HF6 ⊢
     generalize w4.heap.size = D at q4 ⊢
     have HLB:=Lib.hid (show (putAll [] (allZ nameH (rowsF (fun _=>par) k))).length ≤ 1000000000 by
      have h1:=putAll_le (allZ nameH (rowsF (fun _=>par) k)) []
      have h2:=all_len (H:=nameH) HT.out
      rw [rowsF_len] at h2
      have:=HNB.out
      simp at h1
      omega)
     have CL:=Lib.hid (svload_any w5 X _ _ HX5.out HLB.out sv)
     clear HX4 CS HKD HX HF5
     go_upto_region 18 with (go_at_call 9;refine CL.out.mono ?_;rintro e w6 h6;rw [HSV.out] at h6;obtain ⟨f6,h6a⟩:=h6.two HT.out HNW.out (fun b hb=>mem_putAll.2 (.inr hb));obtain ⟨A6,c6,ws6,E6,rfl,h6b⟩:=LdEnd.of h6a;have HF7:=Lib.hid f6;have H6:=Lib.hid h6b;clear f6 h6a h6b h6)
     have HX6:=Lib.hid (HX5.out.fr0 HF7.out)
     have HK6:=Lib.hid (HK5.out.fr HF7.out.any)
     obtain ⟨A0,c0,rs0,hk0,hr0⟩:=HX6.out
     have HRB:=Lib.hid (show rs0.length = (putAll [] (allZ nameH (rowsF (fun _=>par) k))).length from hr0.bs.len)
     have HK0:=Lib.hid hk0
     have HR0:=Lib.hid hr0
     clear hk0 hr0 q4
     have CC:=Lib.hid (fun w7 (f:Fr noB w6 w7)=>clash_any w7 A0 c0 rs0.length rs0 _ rfl (HR0.out.sl.fr0 f) (by rw [HRB.out];have:=HLB.out;omega) (HR0.out.bs.fr0 f))
     have k6:w6.cell? ⟨X,0,none⟩ = some (.slice A0 rs0.length c0):=by rw [HK0.out.cell];rfl
     have HKX:=Lib.hid (fun w7 (f:Fr noB w6 w7)=>(show w7.cell? ⟨X,0,none⟩ = some (.slice A0 rs0.length c0) by rw [(HK0.out.fr f (by simp [noB])).cell];rfl))
     clear i1 i9 CL
     rcases H6.out with ⟨rfl,xs,hs6,hi6,hb6,hx6⟩ | ⟨hE,hNC⟩
     ·have CE:=Lib.hid (r12sameY_any w6 A6 A c6 c ws6.length l.length ws6 l xs _ rfl rfl hs6 HK6.out.sl hi6 HK6.out.inn (by omega) (by rw [HLL.out];have:=HNB.out;omega))
      clear hs6 hi6 hb6
      by_cases hx:xs = rowsF (fun _=>par) k
      ·rw [decide_eq_true hx] at CE
       clear hx hx6 H6 k6
       go_wp2_with (go_at_call 11;refine CE.out.mono ?_;rintro e w7 ⟨rfl,f7⟩;have HF8:=Lib.hid f7;clear f7)
       go_ret
       exact ⟨rfl,(HF6.out.step0 HF7.out).step0 HF8.out⟩
      ·rw [decide_eq_false hx] at CE
       have HNC:=Lib.hid (show ¬ NoClash nameH (putAll [] (allZ nameH (rowsF (fun _=>par) k))) from fun C=>hx (hx6 C))
       clear hx hx6 H6 k6
       go_wp2_with (first
        | (go_at_call 11;refine CE.out.mono ?_;rintro e w7 ⟨rfl,f7⟩;have HF8:=Lib.hid f7;have k7:=HKX.out w7 f7;clear f7)
        | (go_at_call 12;refine (CC.out w7 HF8.out).mono ?_;rintro e w8 ⟨bb,rfl,f8,hcl⟩;obtain rfl:bb = true:=(by cases bb;exact absurd (hcl rfl) HNC.out;rfl);have HF9:=Lib.hid f8;clear f8 hcl))
       go_ret
       exact ⟨rfl,((HF6.out.step0 HF7.out).step0 HF8.out).step0 HF9.out⟩
     ·have HNC:=Lib.hid hNC
      clear hNC H6
      go_wp2_with (go_at_call 12;refine (CC.out w6 (Fr.refl _ _)).mono ?_;rintro e w8 ⟨bb,rfl,f8,hcl⟩;obtain rfl:bb = true:=(by cases bb;exact absurd (hcl rfl) HNC.out;rfl);have HF9:=Lib.hid f8;clear f8 hcl)
      go_ret
      exact ⟨rfl,(HF6.out.step0 HF7.out).step0 HF9.out⟩
    ·have i9:(999:Int) < (k:Int):=by omega
     have HNW:=Lib.hid (show ¬ NarrowZ (rowsF (fun _=>par) k) from fun h=>by
      have:=h par
      rw [kids_wide,rowsF_len] at this
      exact hk9 this)
     clear hk9
     go_upto_region 16 with (go_at_call 7;refine CS.out.mono ?_;rintro e w4 h4;obtain ⟨_,rfl,f4⟩:=h4.resolve_left (fun h=>HNW.out h.1);have HF5:=Lib.hid f4;clear f4 h4)
     obtain ⟨pf1,pf2,pf3⟩:=putB_fr (bxI_new w4 zID) zID
     have fs:Fr noB w4 (putB (w4.alloc (ido zID)) w4.heap.size zID):=((Fr.refl noB w4).alloc (ido zID)).step1 pf1 (Nat.le_refl _)
     obtain ⟨A0,c0,rs0,hk0,hr0⟩:=(HX.out.fr0 HF5.out).fr0 fs
     have h0:rs0.length = 0:=hr0.bs.len
     have k5:(putB (w4.alloc (ido zID)) w4.heap.size zID).cell? ⟨X,0,none⟩ = some (.slice A0 0 c0):=by rw [hk0.cell,h0];rfl
     have HF6:=Lib.hid ((HF4.out.step0 HF5.out).step0 fs)
     clear pf1 pf2 pf3 fs hk0 hr0 h0
     generalize putB (w4.alloc (ido zID)) w4.heap.size zID = w5 at k5 HF6 ⊢
     go_wp2_with fail
     go_ret
     exact ⟨rfl,HF6.out⟩
end Go.Proofs.YtnkdnbjmhoegkaaGreat
