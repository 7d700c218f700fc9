/- Words for layer 13's laws. (ex_ldS_at, ex_ldR_at) The law SnapShares: its walk. (ex_ldS_at, ex_ldR_at) -/
import Derived.Test.YtnkdnbjmhoegkaaGreatSvNKq
import Derived.Test.YtnkdnbjmhoegkaaGreatSnpTKq
import Derived.Test.YtnkdnbjmhoegkaaGreatClsWKq
import Derived.Test.YtnkdnbjmhoegkaaGreatGlSKq
set_option linter.unusedVariables false
set_option linter.unusedSimpArgs false
namespace Go.Proofs.YtnkdnbjmhoegkaaGreat
open Go.RowKit Go.Maps Go.Sort
theorem and_maskZ (x:Int) (m:Nat) (hm:m ≤ 1023):∃ r:Nat,bits BinOp.and IntKind.i64 x (m:Int) = (r:Int) ∧ r ≤ m:=by
 refine ⟨(BitVec.ofInt 64 x &&& BitVec.ofInt 64 (m:Int)).toNat,?_,?_⟩
 ·have hle:(BitVec.ofInt 64 x &&& BitVec.ofInt 64 (m:Int)).toNat ≤ 1023:=by
   rw [BitVec.toNat_and]
   refine Nat.le_trans Nat.and_le_right ?_
   rw [BitVec.toNat_ofInt]
   omega
  show IntKind.i64.wrap (((BitVec.ofInt 64 x &&& BitVec.ofInt 64 (m:Int)).toNat:Nat):Int) = _
  rw [IntKind.wrap_i64]
  omega
 ·rw [BitVec.toNat_and]
  refine Nat.le_trans Nat.and_le_right ?_
  rw [BitVec.toNat_ofInt]
  omega
theorem LoTo.two {w w':World} {e:Ending} {rs:List RwP} {objs:List (List UInt8)} (T:TreeOk rs) (N:NarrowZ rs) (hm:∀ b ∈ allZ nameH rs,b ∈ objs) (h:LoTo w (dirO nameH objs) (saveZ nameH rs) e w') :
  Fr noB w w' ∧ ((∃ A c ws xs,e = .returned (.tuple #[.slice A ws.length c,.int .i64 0]) ∧ Sl w' A (codR.row ws) ∧ RwsIn w' ws xs ∧ ws.length ≤ 5000 ∧ (NoClash nameH objs → xs = rs)) ∨ (∃ E:Int,E ≠ 0 ∧ e = .returned (.tuple #[.slice none 0 0,.int .i64 E]) ∧ ¬ NoClash nameH objs)):=by
 obtain ⟨E,acc,A,c,ws,he,hl,hf,h1,h0⟩:=h
 refine ⟨hf,?_⟩
 by_cases hE:E = 0
 ·subst hE
  obtain ⟨xs,hx,hs,hi,hb,hr⟩:=h0 rfl
  refine .inl ⟨A,c,ws,xs,he,hs,hi,by rw [hi.len];exact hb,fun C=>?_⟩
  obtain ⟨_,hp⟩:=load_good T N C hm hl
  have hpr:=hx.trans hp
  have hrp:rs.Pairwise fun a b=>cmpS a.Node b.Node < 0:=riseR_pw T.rise
  have hnd:xs.Pairwise fun a b=>a.Node ≠ b.Node:=by
   have h1:rs.Pairwise fun a b=>a.Node ≠ b.Node:=hrp.imp fun {a b} h e=>by rw [e,cmpS_self] at h;omega
   exact (hpr.pairwise_iff (fun {a b} h e=>h e.symm)).2 h1
  exact rise_uniqZ hpr (sort_rise hr hnd) hrp
 ·obtain ⟨rfl,rfl,rfl⟩:=h1 hE
  exact .inr ⟨E,hE,he,fun C=>hE (load_good T N C hm hl).1⟩
def LdEnd (w':World) (rs:List RwP) (objs:List (List UInt8)) (A:Option Addr) (ws:List RwW) (E:Int):Prop :=
 (E = 0 ∧ ∃ xs,Sl w' A (codR.row ws) ∧ RwsIn w' ws xs ∧ ws.length ≤ 5000 ∧ (NoClash nameH objs → xs = rs)) ∨ (E ≠ 0 ∧ ¬ NoClash nameH objs)
theorem LdEnd.of {w':World} {e:Ending} {rs:List RwP} {objs:List (List UInt8)} (h:(∃ A c ws xs,e = .returned (.tuple #[.slice A ws.length c,.int .i64 0]) ∧ Sl w' A (codR.row ws) ∧ RwsIn w' ws xs ∧ ws.length ≤ 5000 ∧ (NoClash nameH objs → xs = rs)) ∨ (∃ E:Int,E ≠ 0 ∧ e = .returned (.tuple #[.slice none 0 0,.int .i64 E]) ∧ ¬ NoClash nameH objs)) :
  ∃ A c ws E,e = .returned (.tuple #[.slice A ws.length c,.int .i64 E]) ∧ LdEnd w' rs objs A ws E:=by
 rcases h with ⟨A,c,ws,xs,he,h1,h2,h3,h4⟩ | ⟨E,h1,he,h2⟩
 ·exact ⟨A,c,ws,0,he,.inl ⟨rfl,xs,h1,h2,h3,h4⟩⟩
 ·exact ⟨none,0,[],E,he,.inr ⟨h1,h2⟩⟩
def rowM (p:St) (i:Nat):RwW:=⟨nodeW i,p,nodeW i,[110],none,0,0⟩
def wsF (f:Nat → St) (n:Nat):List RwW:=(List.range n).map fun i=>rowM (f i) i
theorem wsF_len (f:Nat → St) (n:Nat):(wsF f n).length = n:=by simp [wsF]
theorem wsF_snoc (f:Nat → St) (n:Nat):wsF f (n + 1) = wsF f n ++ [rowM (f n) n]:=by simp [wsF,List.range_succ]
theorem wsF_in (w:World) {f:Nat → St} {n:Nat} (hn:n ≤ 5000) (hf:∀ i,i < n → wfS (f i) = true):RwsIn w (wsF f n) (rowsF f n):=⟨by rw [wsF_len,rowsF_len],fun i h1 h2=>by
 rw [wsF_len] at h1
 have e1:(wsF f n)[i]'(by rw [wsF_len];exact h1) = rowM (f i) i:=by simp [wsF]
 rw [e1,get_rowsF h2]
 exact ⟨rfl,rfl,Sl.nil _ _,Nat.zero_le _,by show 1 ≤ _;omega,by unfold wfS rowM nodeW;simp only [Bool.and_eq_true,decide_eq_true_eq];omega,hf i h1⟩⟩
theorem wsF_kd {w:World} {X:Nat} {A:Option Addr} {f:Nat → St} {n:Nat} (hn:n ≤ 5000) (hf:∀ i,i < n → wfS (f i) = true) (hs:Sl w A (codR.row (wsF f n))) (ho:wsF f n ≠ [] → Off A (fun b=>b ≠ X)):KdX w X A (wsF f n) (rowsF f n) :=
 ⟨hs,wsF_in w hn hf,ho,fun i h1 h2 hne=>absurd (by rw [get_rowsF h2];rfl) hne⟩
theorem bldRp (w:World) (s t u:St):(Instr.build 28 #[(0,.agg (codS.A s)),(1,.agg (codS.A t)),(2,.agg (codS.A u)),(3,.string ⟨#[110]⟩)]).run Tryz.prog w = .ok (.agg (codR.A ⟨s,t,u,[110],none,0,0⟩)) w:=by
 have e:∀ s:St,codS.A s = #[.int .i64 s.T,.int .i64 s.R]:=fun s=>by rw [Cod.A_eq];rfl
 rw [e,e,e,Cod.A_eq];go_simp;rfl
@[simp ↓] theorem ex_bldRp (ρ:Operand → Value) (x0 x1 x2 x3:Operand) (d:Option Nat) (t:TypeId) (p:String) (f:Array Edge) (g:Option (Nat × Bool)) (w:World) :
  (execOp ρ { dst:=d,op:=.build 28 #[(0,x0),(1,x1),(2,x2),(3,x3)],type:=t,pos:=p,after:=f,guard:=g }).run Tryz.prog w = mkB 28 w [(0,ρ x0),(1,ρ x1),(2,ρ x2),(3,ρ x3)]:=(exB ρ _ _ _ rfl w).trans (by simp only [List.map_toArray,List.map_cons,List.map_nil])
@[simp] theorem mkB_Rp (w:World) (s t u:St):mkB 28 w [(0,.agg (codS.A s)),(1,.agg (codS.A t)),(2,.agg (codS.A u)),(3,.string ⟨#[110]⟩)] = .ok (.value (.agg (codR.A ⟨s,t,u,[110],none,0,0⟩))) w:=mkB_ok (bldRp w s t u)
theorem row_set:∀ (rs:List RwW) (k:Nat) (h:k < rs.length) (m:List UInt8),(codR.row rs).set (k * 8 + 6) (.string (str m)) = codR.row (rs.set k { rs[k] with Name:=m })
 | [],k,h,m=>by simp at h
 | r :: rs,0,h,m=>by
  show (codR.cs r ++ codR.row rs).set 6 _ = codR.cs { r with Name:=m } ++ codR.row rs
  rw [List.set_append_left _ _ (by rw [codR.len];show 6 < 8;omega)]
  rfl
 | r :: rs,k + 1,h,m=>by
  show (codR.cs r ++ codR.row rs).set ((k + 1) * 8 + 6) _ = codR.cs r ++ codR.row (rs.set k _)
  have hl:(codR.cs r).length = 8:=codR.len r
  rw [List.set_append_right _ _ (by rw [hl];omega),hl,show (k + 1) * 8 + 6 - 8 = k * 8 + 6 by omega,row_set rs k (by simpa using h) m]
  simp
theorem own_name {W w:World} {g c k:Nat} {rs:List RwW} (h:OwnC codR W w (some ⟨g,0,none⟩) c rs) (hk:k < rs.length) (m:List UInt8):OwnC codR W (w.setCell ⟨g,k * 8 + 6,none⟩ (.string (str m))) (some ⟨g,0,none⟩) c (rs.set k { rs[k] with Name:=m }):=by
 have h1:=(World.ownsRow.stored h (k * 8 + 6) (.string (str m))).1
 rw [row_set rs k hk m] at h1
 have hl:(rs.set k { rs[k] with Name:=m }).length = rs.length:=List.length_set
 show World.ownsRow _ _ _ _ (.slice _ (rs.set k { rs[k] with Name:=m }).length _) (rs.set k { rs[k] with Name:=m }).length _
 rw [hl]
 exact h1
theorem own_froz {W w:World} {g c:Nat} {rs:List RwW} (h:OwnC codR W w (some ⟨g,0,none⟩) c rs) (i:Nat) (hr:rs ≠ []):w.frozen? ⟨g,i,none⟩ = false:=by
 rcases h.2 with ⟨hv,_⟩ | ⟨g1,cap,cur,hv,hb,hh,_⟩
 ·injection hv with hv;cases hv
 ·injection hv with hv
  injection hv with hv
  injection hv with hv _
  subst hv
  simp [World.frozen?,hh]
theorem RwsIn.setName {w:World} {rs:List RwW} {xs:List RwP} (h:RwsIn w rs xs) {k:Nat} (hk:k < rs.length) (hx:k < xs.length):RwsIn w (rs.set k { rs[k] with Name:=turnB }) (xs.set k { xs[k] with Name:=turnB }):=by
 refine ⟨by simp [h.len],fun i h1 h2=>?_⟩
 have hi:i < rs.length:=by simpa using h1
 have hi2:i < xs.length:=by simpa using h2
 have hin:=h.at_ i hi hi2
 rw [List.getElem_set,List.getElem_set]
 by_cases hik:k = i
 ·subst hik
  rw [if_pos rfl,if_pos rfl]
  exact ⟨by rw [hin.eq];rfl,hin.len,hin.sl,hin.bd,by show 6 ≤ _;omega,hin.wn,hin.wp⟩
 ·rw [if_neg hik,if_neg hik]
  exact hin
theorem KdX.setName {w:World} {X:Nat} {A B:Option Addr} {rs:List RwW} {xs:List RwP} (h:KdX w X A rs xs) {k:Nat} (hk:k < rs.length) (hx:k < xs.length) (hs:Sl w B (codR.row (rs.set k { rs[k] with Name:=turnB }))) (ho:Off B (fun b=>b ≠ X)) :
  KdX w X B (rs.set k { rs[k] with Name:=turnB }) (xs.set k { xs[k] with Name:=turnB }):=by
 refine ⟨hs,h.inn.setName hk hx,fun _=>ho,fun i h1 h2=>?_⟩
 have hi:i < rs.length:=by simpa using h1
 have hi2:i < xs.length:=by simpa using h2
 have:=h.hoff i hi hi2
 rw [List.getElem_set,List.getElem_set]
 by_cases hik:k = i
 ·subst hik
  rw [if_pos rfl,if_pos rfl]
  exact this
 ·rw [if_neg hik,if_neg hik]
  exact this
set_option maxRecDepth 100000 in
set_option maxHeartbeats 4000000 in
theorem shares13_any (w:World) (A:Option Addr) (c:Nat) (rs:List RwW) (xs:List RwP) (hs:Sl w A (codR.row rs)) (hb:rs.length ≤ 140737488355328) (hin:RwsIn w rs xs) (hbd:∀ x ∈ xs,x.Heads.length ≤ 2932031007402) (a:Int):Calls Tryz.prog 4 #[.slice A rs.length c,.int .i64 a] w (Gives w (.bool true)):=by
 obtain ⟨n,hn⟩:∃ n,n = rs.length:=⟨_,rfl⟩
 have HN:=Lib.hid hn
 rw [← hn]
 have HS:=Lib.hid hs
 have HIN:=Lib.hid hin
 have HXL:=Lib.hid hin.len
 have CT:=Lib.hid (fun w1 (f:Fr noB w w1)=>ntree_any w1 A c n rs xs hn.symm (hs.fr0 f) hb (hin.fr f) hbd)
 clear hs hb hin hbd hn
 go_enter Tryz.func4,Tryz.ntmps4
 by_cases h0:n = 0
 ·have j0:(n:Int) = 0:=by omega
  clear h0
  go_wp2_with (go_at_call 6;refine (alive13_any w).mono ?_;rintro e w1 ⟨rfl,f1⟩;have HF1:=Lib.hid f1;clear f1)
  go_ret
  exact ⟨rfl,HF1.out⟩
 have j0:¬ (n:Int) = 0:=by omega
 by_cases h30:30 < n
 ·have j3:(30:Int) < (n:Int):=by omega
  clear h0 h30
  go_wp2_with (go_at_call 6;refine (alive13_any w).mono ?_;rintro e w1 ⟨rfl,f1⟩;have HF1:=Lib.hid f1;clear f1)
  go_ret
  exact ⟨rfl,HF1.out⟩
 have j3:¬ (30:Int) < (n:Int):=by omega
 have HLB:=Lib.hid (show 0 < n ∧ n ≤ 30 by omega)
 have b0:((n:Int) == 0) = false:=beq_eq_false_iff_ne.2 j0
 have b3:decide ((30:Int) < (n:Int)) = false:=decide_eq_false j3
 clear h0 h30
 rcases Classical.em (TreeOk xs) with T | T
 ·have HT:=Lib.hid T
  clear T
  go_upto_region 5 with (first
   | (go_at_call 6;refine (alive13_any w).mono ?_;rintro e w1 ⟨rfl,f1⟩;have HF1:=Lib.hid f1;clear f1)
   | (go_at_call 13;refine (CT.out w1 HF1.out).mono ?_;rintro e w2 ⟨bt,rfl,f2,hbt⟩;obtain rfl:bt = true:=hbt.2 HT.out;have HF2:=Lib.hid (HF1.out.step0 f2);clear f2 hbt))
  go_upto_region 6 with fail
  have fx:Fr noB w2 (w2.alloc (.cells #[.slice none 0 0] 32)):=(Fr.refl noB w2).alloc _
  have HX:=Lib.hid (BoxIn.new w2 (fun _=>False))
  have HF3:=Lib.hid (HF2.out.step0 fx)
  have HWX:=Lib.hid (show w.heap.size ≤ w2.heap.size from HF2.out.size)
  clear fx
  generalize w2.alloc (.cells #[.slice none 0 0] 32) = w3 at HX HF3 ⊢
  generalize w2.heap.size = X at HX HWX ⊢
  have HKD:=Lib.hid (show KdX w3 X A rs xs from ⟨HS.out.fr0 HF3.out,HIN.out.fr HF3.out,fun hne=>(HS.out.offNew (Cod.row_ne hne)).mono fun b hb e=>by have:=HWX.out;omega,fun i h1 h2 hne=>(hds_lt (HIN.out.at_ i h1 h2).sl hne).mono fun b hb e=>by have:=HWX.out;omega⟩)
  have HNW:=Lib.hid (show NarrowZ xs from fun q=>Nat.le_trans (kids_le _ _) (by rw [← HXL.out,← HN.out];have:=HLB.out;omega))
  have HAL:=Lib.hid (show (allZ nameH xs).length ≤ 32 by have:=all_len (H:=nameH) HT.out;rw [← HXL.out,← HN.out] at this;have:=HLB.out;omega)
  have CS:=Lib.hid (svsave_any w3 X _ (fun g h=>h.elim) [] HX.out A c n rs xs HN.out.symm HKD.out HT.out (by have:=HAL.out;simp;omega))
  clear b0 b3 j3
  go_upto_region 9 with (go_at_call 7;refine CS.out.mono ?_;rintro e w4 h4;obtain ⟨_,rfl,hx4,f4⟩:=h4.resolve_right (fun h=>h.1 HNW.out);obtain ⟨sv,hsv⟩:∃ s,s = saveZ nameH xs:=⟨_,rfl⟩;rw [← hsv];have HX4:=Lib.hid hx4;have HF5:=Lib.hid f4;clear hsv hx4 f4 h4)
  obtain ⟨pf1,pf2,pf3⟩:=putB_fr (bxI_new w4 zID) sv
  have fs:Fr noB w4 (putB (w4.alloc (ido zID)) w4.heap.size sv):=((Fr.refl noB w4).alloc (ido zID)).step1 pf1 (Nat.le_refl _)
  have HX5:=Lib.hid (HX4.out.fr0 fs)
  have HK5:=Lib.hid ((HKD.out.fr HF5.out).fr fs.any)
  have HF6:=Lib.hid ((HF3.out.step1 HF5.out HWX.out).step0 fs)
  clear pf1 pf2 pf3 fs
  generalize putB (w4.alloc (ido zID)) w4.heap.size sv = w5 at HX5 HK5 HF6 ⊢
  generalize w4.heap.size = D
  clear HX4 CS HX HF5 HKD
  obtain ⟨A1,c1,rs1,hk1,hr1⟩:=HX5.out
  obtain ⟨m1,hm1⟩:∃ m,m = rs1.length:=⟨_,rfl⟩
  rw [← hm1] at hk1
  have HM1:=Lib.hid (show m1 = (putAll [] (allZ nameH xs)).length from hm1.trans hr1.bs.len)
  have k5:w5.cell? ⟨X,0,none⟩ = some (.slice A1 m1 c1):=by rw [hk1.cell];rfl
  obtain ⟨r,er,hr⟩:=and_maskZ a 1023 (by omega)
  have er:bits .and .i64 a 1023 = (r:Int):=er
  obtain ⟨k,hk⟩:∃ k,k = r % n:=⟨_,rfl⟩
  have HKN:=Lib.hid (show k < n from by rw [hk];exact Nat.mod_lt _ HLB.out.1)
  have em:(r:Int) % (n:Int) = (k:Int):=by rw [hk];simp
  clear hk1 hr1 hm1
  go_upto_region 11 with fail
  rw [em]
  clear em er hr k5 hk
  have hne:rs ≠ []:=fun e=>by have h1:=HN.out;rw [e] at h1;have:=HLB.out.1;simp at h1;omega
  have HNE:=Lib.hid hne
  have fr:Fr noB w5 (w5.alloc (.cells #[] 28)):=(Fr.refl noB w5).alloc _
  have ho0:OwnC codR w5 (w5.alloc (.cells #[] 28)) (some ⟨w5.heap.size,0,none⟩) 0 []:=World.ownsRow_lit (base:=w5.heap.size) (e:=28) (size:=8) w5 #[] 0 (Nat.le_refl _) (by unfold maxLen;omega) (by simp)
  have hsA:=HK5.out.sl.fr0 fr
  have hfz:=fr.size
  have HFA:=Lib.hid fr
  clear fr hne
  go_upto_region 12 with (at_builtin;refine wpList_appC' etR w5 _ rfl _ _ rfl (some ⟨w5.heap.size,0,none⟩) 0 0 [] rfl rfl ho0 A n c rs rfl hsA HN.out.symm (by have:=HLB.out;have:=HN.out;simp;omega) hfz ?_;intro A8 c8 w8 hc8 hmx8 ho8 hg8 hA8;rw [List.nil_append,← HN.out];rw [List.nil_append] at ho8;have HF8:=Lib.hid (Fr.own' HFA.out ho0 hg8);have HO8:=Lib.hid ho8;clear hc8 hmx8 hg8 hA8 ho8)
  clear ho0 hsA hfz
  obtain ⟨g,hgA⟩:∃ g,A8 = some ⟨g,0,none⟩:=by
   rcases HO8.out.2 with ⟨_,h⟩ | ⟨g,cap,cur,hv,_⟩
   ·exact absurd (List.eq_nil_of_length_eq_zero h) HNE.out
   ·injection hv with hv;exact ⟨g,hv⟩
  subst hgA
  have i0:(0:Int) ≤ (k:Int):=by omega
  have i1:(k:Int) < (n:Int):=by have:=HKN.out;omega
  have hkr:k < rs.length:=by rw [← HN.out];exact HKN.out
  have hkx:k < xs.length:=by rw [← HXL.out];exact hkr
  have HGB:=Lib.hid (own_lt HO8.out g rfl)
  obtain ⟨r0,hr0⟩:∃ q,q = rs[k]:=⟨_,rfl⟩
  obtain ⟨x0,hx0⟩:∃ q,q = xs[k]:=⟨_,rfl⟩
  have k1:w8.cell? ⟨g,k * 8 + 6,none⟩ = some (.string (str r0.Name)):=by
   have h1:codR.rd w8 g (0 + k * 8) = some rs[k]:=(Sl.own HO8.out).rd k hkr
   have:=(rwAtO h1).name
   rw [hr0]
   rwa [Nat.zero_add] at this
  have k2:=own_froz HO8.out (k * 8 + 6) HNE.out
  have HO9:=Lib.hid (own_name HO8.out hkr turnB)
  have fs:Fr (oneB g) w8 (w8.setCell ⟨g,k * 8 + 6,none⟩ (.string (str turnB))):=Fr.setCell (M:=oneB g) (Fr.refl _ w8) (p:=⟨g,k * 8 + 6,none⟩) (fun _=>rfl) _
  have HF9:=Lib.hid (HF8.out.step1 fs HGB.out.1)
  have HRK:=Lib.hid (show RwIn w r0 x0 by rw [hr0,hx0];exact HIN.out.at_ k hkr hkx)
  have HXK:=Lib.hid (show ∃ h:k < xs.length,x0 = xs[k] from ⟨hkx,hx0⟩)
  have HOR:=Lib.hid (show ∀ w' A',Sl w' A' (codR.row rs) → ∃ g' o',A' = some ⟨g',o',none⟩ ∧ codR.rd w' g' (o' + k * 8) = some r0 from fun w' A' h=>by
   obtain ⟨g',o',e,_⟩:=h.adC (by omega)
   subst e
   exact ⟨g',o',rfl,by rw [hr0];exact h.rd k hkr⟩)
  obtain ⟨rs',hrs'⟩:∃ l,l = rs.set k { rs[k] with Name:=turnB }:=⟨_,rfl⟩
  have HKS:=Lib.hid (show ∀ w',KdX w' X A rs xs → Sl w' (some ⟨g,0,none⟩) (codR.row rs') → KdX w' X (some ⟨g,0,none⟩) rs' (xs.map (turnF x0.Node)) from fun w' h hs=>by
   rw [hrs'] at hs ⊢
   have h1:=h.setName hkr hkx hs (fun a ha e=>by injection ha with ha;subst ha;have:=HGB.out;have h1:=HX5.out.lt;have h2:g = X:=e;omega)
   rw [set_turn (nd_nodes HT.out) hkx,← hx0] at h1
   exact h1)
  have HRL:=Lib.hid (show rs'.length = n by rw [hrs',List.length_set];exact HN.out.symm)
  rw [← hrs'] at HO9
  clear fs hrs' hr0 hx0
  clear hkr hkx
  obtain ⟨w9,hw9⟩:∃ z,z = w8.setCell ⟨g,k * 8 + 6,none⟩ (.string (str turnB)):=⟨_,rfl⟩
  rw [← hw9] at HO9 HF9
  have ew:w8.setCell ⟨g,k * 8 + 6,none⟩ (.string ⟨#[116,117,114,110,101,100]⟩) = w9:=hw9.symm
  have HEW:=Lib.hid ew
  clear ew hw9
  have HX9:=Lib.hid (HX5.out.fr0 HF9.out)
  have HK9:=Lib.hid (HK5.out.fr HF9.out.any)
  have HW9:=Lib.hid (HF6.out.step0 HF9.out)
  go_upto_region 13 with fail
  clear k1 k2
  rw [HEW.out]
  obtain ⟨ga,oa,rfl,hrd⟩:=HOR.out w9 A HK9.out.sl
  have q1:=(rwAtO hrd).name
  clear hrd
  by_cases hnm:r0.Name = turnB
  ·have d1:((str r0.Name).toList == [116,117,114,110,101,100]) = true:=by rw [str_toList,hnm];rfl
   clear hnm
   go_wp2_with fail
   go_ret
   exact ⟨rfl,HW9.out⟩
  have d1:((str r0.Name).toList == [116,117,114,110,101,100]) = false:=by rw [str_toList];exact beq_eq_false_iff_ne.2 hnm
  have HNM:=Lib.hid hnm
  clear hnm
  have HKT:=Lib.hid (HKS.out w9 HK9.out (Sl.own HO9.out))
  have HST:=Lib.hid (stays_turn x0.Node)
  have HTT:=Lib.hid (tree_map HST.out HT.out fun r hr=>right_turn (HT.out.ok r hr))
  have HNT:=Lib.hid (show NarrowZ (xs.map (turnF x0.Node)) from fun q=>Nat.le_trans (kids_le _ _) (by rw [List.length_map,← HXL.out,← HN.out];have:=HLB.out;omega))
  have HAT:=Lib.hid (show (allZ nameH (xs.map (turnF x0.Node))).length ≤ 32 by have:=all_len (H:=nameH) HTT.out;rw [List.length_map,← HXL.out,← HN.out] at this;have:=HLB.out;omega)
  have HO1:=Lib.hid (show (putAll [] (allZ nameH xs)).length ≤ 32 by have:=putAll_le (allZ nameH xs) [];have:=HAL.out;simp at *;omega)
  have CS2:=Lib.hid (svsave_any w9 X _ (fun g h=>h.elim) _ HX9.out (some ⟨g,0,none⟩) c8 n rs' _ HRL.out HKT.out HTT.out (by have:=HAT.out;have:=HO1.out;omega))
  go_upto_region 18 with (go_at_call 7;refine CS2.out.mono ?_;rintro e w10 h4;obtain ⟨_,rfl,hx4,f4⟩:=h4.resolve_right (fun h=>h.1 HNT.out);obtain ⟨sv2,hsv⟩:∃ s,s = saveZ nameH (xs.map (turnF x0.Node)):=⟨_,rfl⟩;rw [← hsv];have HX10:=Lib.hid hx4;have HF10:=Lib.hid f4;clear hsv hx4 f4 h4)
  obtain ⟨pf1,pf2,pf3⟩:=putB_fr (bxI_new w10 zID) sv2
  have fs:Fr noB w10 (putB (w10.alloc (ido zID)) w10.heap.size sv2):=((Fr.refl noB w10).alloc (ido zID)).step1 pf1 (Nat.le_refl _)
  have HX11:=Lib.hid (HX10.out.fr0 fs)
  have HK11:=Lib.hid ((HK9.out.fr HF10.out).fr fs.any)
  have HW11:=Lib.hid ((HW9.out.step1 HF10.out HWX.out).step0 fs)
  clear pf1 pf2 pf3 fs q1 d1
  generalize putB (w10.alloc (ido zID)) w10.heap.size sv2 = w11 at HX11 HK11 HW11 ⊢
  generalize w10.heap.size = D2
  clear HX10 CS2 HF10 HX9
  obtain ⟨A2,c2,rs2,hk2,hr2⟩:=HX11.out
  obtain ⟨m2,hm2⟩:∃ m,m = rs2.length:=⟨_,rfl⟩
  rw [← hm2] at hk2
  have HM2:=Lib.hid (show m2 = (putAll (putAll [] (allZ nameH xs)) (allZ nameH (xs.map (turnF x0.Node)))).length from hm2.trans hr2.bs.len)
  have HBK:=Lib.hid hk2
  have HBR:=Lib.hid hr2
  have HMS:=Lib.hid hm2
  clear hk2 hr2 hm2
  obtain ⟨hkx,hx0⟩:=HXK.out
  have hxm:x0 ∈ xs:=by rw [hx0];exact List.getElem_mem hkx
  obtain ⟨jl,hjl⟩:∃ j,levZ xs x0.Parent j:=by
   obtain ⟨j,hj⟩:=lev_row HT.out hxm
   exact ⟨j,lev_par HT.out hxm hj⟩
  have HJL:=Lib.hid hjl
  have HSC:=Lib.hid (fun C:NoClash nameH (putAll (putAll [] (allZ nameH xs)) (allZ nameH (xs.map (turnF x0.Node))))=>share_count HST.out HT.out HTT.out HNW.out HNT.out hxm (fun r hr hne=>by
   by_cases h:r.Node = x0.Node
   ·exact node_uniq HT.out hr hxm h
   ·exact absurd (by unfold turnF;rw [if_neg h]) hne) (by unfold turnF;rw [if_pos rfl];intro e;exact HNM.out (by rw [← HRK.out.name];exact e.symm)) hjl C)
  have hrp:r0.Parent = x0.Parent:=HRK.out.parent.symm
  obtain ⟨g3,o3,e3,hrd⟩:=HOR.out w11 _ HK11.out.sl
  injection e3 with e3
  injection e3 with e4 e5
  subst e4 e5
  have q1:=(rwAtO hrd).parent
  rw [hrp] at q1
  have hcl:(chainL xs jl x0.Parent).length ≤ 1000000:=by have h1:=chain_len xs jl x0.Parent;have h2:=hjl.le;rw [← HXL.out,← HN.out] at h2;have:=HLB.out;omega
  have HCL:=Lib.hid hcl
  clear hjl hrp hrd hkx hx0 hxm hcl
  have fb:Fr noB w11 (w11.alloc (codS.o x0.Parent)):=(Fr.refl noB w11).alloc _
  have hbx:=Cod.bxd_new (C:=codS) w11 x0.Parent
  have HPS:=Lib.hid (show w11.heap.size < (w11.alloc (codS.o x0.Parent)).heap.size by simp)
  go_upto_region 19 with fail
  have I0:=Lib.hid (show ∃ (i m:Nat) (p:St),(Value.int .i64 1) = .int .i64 ((1 + i:Nat):Int) ∧ jl = m ∧ levZ xs p m ∧ (chainL xs jl x0.Parent).length = i + (chainL xs m p).length ∧ codS.bxd (w11.alloc (codS.o x0.Parent)) w11.heap.size = some p ∧ Fr noB w11 (w11.alloc (codS.o x0.Parent)) from ⟨0,jl,x0.Parent,rfl,rfl,HJL.out,by omega,hbx,fb⟩)
  clear fb hbx
  go_wp2_with fail
  clear q1
  generalize w11.alloc (codS.o x0.Parent) = w12 at I0 HPS ⊢
  obtain ⟨P,hP⟩:∃ P,P = w11.heap.size:=⟨_,rfl⟩
  rw [← hP] at I0 ⊢
  have HP:=Lib.hid hP
  clear hP
  go_loopg [13] jl (fun gk wv wr=>∃ (i m:Nat) (p:St),wv = .int .i64 ((1 + i:Nat):Int) ∧ gk = m ∧ levZ xs p m ∧ (chainL xs jl x0.Parent).length = i + (chainL xs m p).length ∧ codS.bxd wr P = some p ∧ Fr noB w11 wr)
  case atStart=>exact I0.out
  case round =>
   clear I0
   obtain ⟨i,m,p,rfl,hgk,hlv,hch,hbx,hf⟩:=hrel
   have HGK:=Lib.hid hgk
   have HLV:=Lib.hid hlv
   have HCH:=Lib.hid hch
   have HBX:=Lib.hid hbx
   have HF:=Lib.hid hf
   obtain ⟨wy,hwy⟩:∃ x,x = 1 + i:=⟨_,rfl⟩
   rw [← hwy]
   have HWY:=Lib.hid hwy
   obtain ⟨q0,q1⟩:=stCell (Cod.bxd_rd hbx)
   have q2:=Cod.bxd_rd hbx
   clear hlv hch hf hwy hgk hbx
   cases m with
   | zero =>
    obtain ⟨t0,t1,t2⟩:=chain_top HLV.out
    have HCL2:=Lib.hid (show (chainL xs jl x0.Parent).length = i + if p.R = 1 then 2 else 1 by rw [HCH.out,t2])
    have HRR:=Lib.hid t1
    clear t1 t2
    obtain ⟨T0,hT0⟩:∃ z,z = p.T:=⟨_,rfl⟩
    obtain ⟨R0,hR0⟩:∃ z,z = p.R:=⟨_,rfl⟩
    rw [← hT0] at t0 q0
    rw [← hR0] at q1 HCL2 HRR
    subst t0
    clear hT0 hR0 q2
    have kX:wr.cell? ⟨X,0,none⟩ = some (.slice A2 m2 c2):=by rw [(HBK.out.fr HF.out (by simp [noB])).cell];rfl
    have CC:=Lib.hid (show Calls Tryz.prog 12 #[.slice A2 m2 c2] wr (ClTo wr _) from clash_any wr A2 c2 m2 rs2 _ HMS.out.symm (HBR.out.sl.fr0 HF.out) (by rw [← HMS.out,HM2.out];have:=putAll_le (allZ nameH (xs.map (turnF x0.Node))) (putAll [] (allZ nameH xs));have:=HO1.out;have:=HAT.out;omega) (HBR.out.bs.fr0 HF.out))
    have HIL:=Lib.hid (show i ≤ 1000000 from Nat.le_trans (by rw [HCL2.out];exact Nat.le_add_right _ _) HCL.out)
    have HMB:=Lib.hid (show m1 ≤ 32 by rw [HM1.out];exact HO1.out)
    rcases HRR.out with hR | hR
    ·subst hR
     obtain ⟨wz,hwz⟩:∃ z,z = wy:=⟨_,rfl⟩
     rw [← hwz]
     have HWZ:=Lib.hid (show wz = (chainL xs jl x0.Parent).length by rw [HCL2.out,if_neg (by decide),hwz,HWY.out];omega)
     clear hwz
     have ws:wrap64 ((m1:Int) + (wz:Int)) = (m1:Int) + (wz:Int):=IntWalk.wrap64_in _ (by have:=HMB.out;have:=HWZ.out;have:=HCL.out;omega)
     by_cases hq:m2 = m1 + wz
     ·have hq1:((m2:Int) == (m1:Int) + (wz:Int)) = true:=by rw [beq_iff_eq];omega
      clear hq
      go_wp2_with fail
      go_ret
      exact ⟨rfl,HW11.out.step0 HF.out⟩
     ·have hq1:((m2:Int) == (m1:Int) + (wz:Int)) = false:=by rw [beq_eq_false_iff_ne];omega
      have HNC:=Lib.hid (show ¬ NoClash nameH (putAll (putAll [] (allZ nameH xs)) (allZ nameH (xs.map (turnF x0.Node)))) from fun C=>hq (by
       have h1:=HSC.out C
       rw [← HM1.out,← HM2.out,← HWZ.out] at h1
       exact h1))
      clear hq
      go_wp2_with (go_at_call 12;refine CC.out.mono ?_;rintro e w14 ⟨bb,rfl,f14,hcl⟩;obtain rfl:bb = true:=(by cases bb;exact absurd (hcl rfl) HNC.out;rfl);have HF14:=Lib.hid f14;clear f14 hcl)
      go_ret
      exact ⟨rfl,(HW11.out.step0 HF.out).step0 HF14.out⟩
    ·subst hR
     obtain ⟨wz,hwz⟩:∃ z,z = wy + 1:=⟨_,rfl⟩
     have wk:wrap64 ((wy:Int) + 1) = (wz:Int):=by rw [IntWalk.wrap64_in _ (by have:=HWY.out;have:=HIL.out;omega)];omega
     have HWZ:=Lib.hid (show wz = (chainL xs jl x0.Parent).length by rw [HCL2.out,if_pos rfl,hwz,HWY.out];omega)
     clear hwz
     have ws:wrap64 ((m1:Int) + (wz:Int)) = (m1:Int) + (wz:Int):=IntWalk.wrap64_in _ (by have:=HMB.out;have:=HWZ.out;have:=HCL.out;omega)
     by_cases hq:m2 = m1 + wz
     ·have hq1:((m2:Int) == (m1:Int) + (wz:Int)) = true:=by rw [beq_iff_eq];omega
      clear hq
      go_wp2_with fail
      go_ret
      exact ⟨rfl,HW11.out.step0 HF.out⟩
     ·have hq1:((m2:Int) == (m1:Int) + (wz:Int)) = false:=by rw [beq_eq_false_iff_ne];omega
      have HNC:=Lib.hid (show ¬ NoClash nameH (putAll (putAll [] (allZ nameH xs)) (allZ nameH (xs.map (turnF x0.Node)))) from fun C=>hq (by
       have h1:=HSC.out C
       rw [← HM1.out,← HM2.out,← HWZ.out] at h1
       exact h1))
      clear hq
      go_wp2_with (go_at_call 12;refine CC.out.mono ?_;rintro e w14 ⟨bb,rfl,f14,hcl⟩;obtain rfl:bb = true:=(by cases bb;exact absurd (hcl rfl) HNC.out;rfl);have HF14:=Lib.hid f14;clear f14 hcl)
      go_ret
      exact ⟨rfl,(HW11.out.step0 HF.out).step0 HF14.out⟩
   | succ m =>
    obtain ⟨q,h1,h2,h3,h4,h5,h6⟩:=chain_up1 HT.out HLV.out
    have t0:¬ p.T = 0:=h5
    have HQ:=Lib.hid (And.intro h4 h6)
    have wk:wrap64 ((wy:Int) + 1) = ((wy + 1:Nat):Int):=by rw [IntWalk.wrap64_in _ (by have:=HWY.out;have:=HCH.out;have:=HCL.out;omega)];omega
    obtain ⟨ix,hix,hfx,hid⟩:∃ (ix:Nat) (h:ix < xs.length),findR xs p = some xs[ix] ∧ idxR xs p = (ix:Int):=(idxR_find xs p).resolve_left fun h=>by rw [h1] at h;cases h.1
    rw [h1] at hfx
    injection hfx with hfx
    have HR1:=Lib.hid (show ix < n by rw [HN.out,HXL.out];exact hix)
    have CF:=Lib.hid (r12find_any wr (some ⟨ga,oa,none⟩) c n rs xs HN.out.symm (HK11.out.sl.fr0 HF.out) (by rw [← HN.out];have:=HLB.out;omega) (HK11.out.inn.fr HF.out) p)
    rw [hid] at CF
    have i2:(0:Int) ≤ (ix:Int):=by omega
    have i3:(ix:Int) < (n:Int):=by have:=HR1.out;omega
    have HPA:=Lib.hid (fun w' (f:Fr noB wr w')=>(show codS.rd w' ga (oa + ix * 8 + 2) = some q.Parent by
     have h7:ix < rs.length:=by rw [← HN.out];exact HR1.out
     have h8:=(rwAtO (((HK11.out.sl.fr0 HF.out).fr0 f).rd (C:=codR) ix h7)).parent
     have h9:=(HK11.out.inn.at_ ix h7 hix).parent
     rw [← h9,← hfx] at h8
     exact h8))
    clear h1 h2 h3 h4 h5 h6 hix hfx hid q1
    have b1:=HBX.out
    go_upto_region 22 with fail
    rw [wk]
    clear wk t0 q0
    go_wp2_with (go_at_call 14;refine CF.out.mono ?_;rintro e w13 ⟨rfl,f13⟩;have q3:=HPA.out w13 f13;have b3:=Cod.bxd_fr0 HBX.out f13;obtain ⟨p1,p2,p3⟩:=Cod.put_fr b3 q.Parent;have HP1:=Lib.hid p1;have HP3:=Lib.hid p3;have hst:=okS.stR_box b3 q.Parent;have HF13:=Lib.hid f13;clear p1 p2 p3 f13)
    go_roundg m
    case measure=>have:=HGK.out;omega
    case rel=>exact ⟨i + 1,m,q.Parent,by rw [HWY.out];first | rfl | (congr 1),rfl,HQ.out.1,by rw [HCH.out,HQ.out.2];omega,HP3.out,(HF.out.step0 HF13.out).step1 HP1.out (by rw [HP.out];exact Nat.le_refl _)⟩
 ·have HT:=Lib.hid T
  clear T
  go_wp2_with (first
   | (go_at_call 6;refine (alive13_any w).mono ?_;rintro e w1 ⟨rfl,f1⟩;have HF1:=Lib.hid f1;clear f1)
   | (go_at_call 13;refine (CT.out w1 HF1.out).mono ?_;rintro e w2 ⟨bt,rfl,f2,hbt⟩;obtain rfl:bt = false:=(by cases bt;rfl;exact absurd (hbt.1 rfl) HT.out);have HF2:=Lib.hid (HF1.out.step0 f2);clear f2 hbt))
  go_ret
  exact ⟨rfl,HF2.out⟩
end Go.Proofs.YtnkdnbjmhoegkaaGreat
