/- snap's loader: words; contract of dir. (ex_ldS_at, ex_ld_id) snap's loader: contracts of sub and under. (ex_ldS_at, ex_ldT_at, ex_ld_id, ex_bldR5_at) -/
import Derived.Test.YtnkdnbjmhoegkaaGreatSvCKq
import Derived.Test.YtnkdnbjmhoegkaaGreatRegQKq
import Derived.Test.YtnkdnbjmhoegkaaGreatDifDKq
set_option linter.unusedVariables false
set_option linter.unusedSimpArgs false
namespace Go.Proofs.YtnkdnbjmhoegkaaGreat
open Go.RowKit Go.Maps Go.Sort
def setZ (l:List St):List (St × Value):=l.map fun x=>(x,.bool true)
theorem look_setZ (l:List St) (x:St):look (setZ l) x = if x ∈ l then some (.bool true) else none:=by
 induction l with
 | nil=>simp [look,setZ]
 | cons y l ih =>
  unfold look setZ at ih ⊢
  rw [List.map_cons,List.find?_cons]
  by_cases h:y = x
  ·simp [h]
  ·have h':x ≠ y:=fun e=>h e.symm
   simp only [h,decide_false,List.mem_cons,h',false_or]
   exact ih
theorem put_setZ (l:List St) (x:St):putL (setZ l) x (.bool true) = setZ (if x ∈ l then l else l ++ [x]):=by
 unfold putL
 rw [look_setZ]
 by_cases h:x ∈ l
 ·simp only [h,if_true,Option.isSome_some]
  unfold setZ
  rw [List.map_map]
  refine List.map_congr_left (fun y hy=>?_)
  simp only [Function.comp_apply]
  split
  ·rename_i e;simp [e]
  ·rfl
 ·simp [h,setZ]
def TyR (w:World) (b:Nat):Prop:=∃ cs z,w.heap[b]? = some (.cells cs 28 z)
def badL (W w:World) (L M b:Nat):Prop:=b = L ∨ b = M ∨ (W.heap.size ≤ b ∧ TyR w b)
section
variable {W w w' w'':World} {L M:Nat}
theorem bad_fr (f:Fr (badL W w L M) w w') {b:Nat} (hb:b < w.heap.size) (h:badL W w' L M b):badL W w L M b:=by
 rcases Classical.em (badL W w L M b) with k | k
 ·exact k
 rcases h with h1 | h1 | ⟨h1,cs,z,h2⟩
 ·exact .inl h1
 ·exact .inr (.inl h1)
 ·rw [f.block b hb k] at h2
  exact .inr (.inr ⟨h1,cs,z,h2⟩)
theorem fr_bad (f:Fr (badL W w L M) w w') (g:Fr (badL W w' L M) w' w''):Fr (badL W w L M) w w'':=f.trans g fun b hb h=>bad_fr f hb h
structure ItQ (W w:World) (L M:Nat) (A:Option Addr) (rs:List ItW) (its:List It):Prop where
 sl:Sl w A (codT.row rs)
 inn:ItsIn w rs its
 off:rs ≠ [] → Off A (fun b=>¬ badL W w L M b)
 hoff:∀ i (h:i < rs.length) (h':i < its.length),its[i].Heads ≠ [] → Off rs[i].A (fun b=>¬ badL W w L M b)
theorem hds_lt {w:World} {A:Option Addr} {l:List Hd} (h:Sl w A (codH.row l)) (hl:l ≠ []):Off A (fun b=>b < w.heap.size):=h.offNew (Cod.row_ne hl)
theorem ItIn.off {w w':World} {B:Nat → Prop} {r:ItW} {x:It} (h:ItIn w r x) (hx:x.Heads ≠ [] → Off r.A (fun b=>¬ B b)) (f:Fr B w w'):ItIn w' r x:=by
 refine ⟨h.eq,h.len,?_,h.bd,h.nm⟩
 by_cases h0:x.Heads = []
 ·rw [h0];exact Sl.nil _ _
 ·exact h.sl.fr f (hx h0)
theorem ItQ.fr {A:Option Addr} {rs:List ItW} {its:List It} (h:ItQ W w L M A rs its) (f:Fr (badL W w L M) w w'):ItQ W w' L M A rs its:=by
 refine ⟨?_,⟨h.inn.len,fun i h1 h2=>(h.inn.at_ i h1 h2).off (h.hoff i h1 h2) f⟩,fun hne a ha k=>?_,fun i h1 h2 hne a ha k=>?_⟩
 ·by_cases h0:rs = []
  ·rw [h0];exact Sl.nil _ _
  ·exact h.sl.fr f (h.off h0)
 ·exact h.off hne a ha (bad_fr f (h.sl.offNew (Cod.row_ne hne) a ha) k)
 ·exact h.hoff i h1 h2 hne a ha (bad_fr f (hds_lt (h.inn.at_ i h1 h2).sl hne a ha) k)
theorem own_ty {base:Nat} {e:TypeId} {size n c:Nat} {A:Option Addr} {xs:List Value} (h:w.ownsRow base e size (.slice A n c) n xs) {g:Nat} (hg:A.map (·.block) = some g):∃ cs z,w.heap[g]? = some (.cells cs e z):=by
 rcases h.2 with ⟨hv,_⟩ | ⟨g1,cap,cur,hv,hb,hh,_⟩
 ·injection hv with hv;subst hv;cases hg
 ·injection hv with hv;subst hv
  simp only [Option.map_some,Option.some.injEq] at hg
  subst hg
  exact ⟨_,_,hh⟩
theorem not_bad {cL:List Value} {kv:List (St × Value)} (hL:Blk w L 70 cL) (hM:mpT w M = some kv) {g:Nat} {e:TypeId} (h1:e ≠ 70) (h2:e ≠ 28) (hg:∃ cs z,w.heap[g]? = some (.cells cs e z)):¬ badL W w L M g:=by
 obtain ⟨cs,z,hg⟩:=hg
 rintro (rfl | rfl | ⟨_,cs',z',h'⟩)
 ·have:=hL
  unfold Blk at this
  rw [hg] at this
  injection this with this
  injection this with _ this
  exact h1 this
 ·exact mpT_ne hM hg rfl
 ·rw [hg] at h'
  injection h' with h'
  injection h' with _ h'
  exact h2 h'
theorem ItQ.own {V:World} {cL:List Value} {kv:List (St × Value)} (hL:Blk w L 70 cL) (hM:mpT w M = some kv) {A:Option Addr} {c:Nat} {rs:List ItW} {its:List It} (ho:OwnC codT V w A c rs) (hi:ItsOwn V w rs its):ItQ W w L M A rs its:=by
 refine ⟨Sl.own ho,hi.its,fun hne a ha=>?_,fun i h1 h2 hne a ha=>?_⟩
 ·exact not_bad hL hM (by decide) (by decide) (own_ty ho (by rw [ha];rfl))
 ·exact not_bad hL hM (by decide) (by decide) (own_ty (hi.at_ i h1 h2).2 (by rw [ha];rfl))
end
theorem ItsOwn.base {W V w:World} {rs:List ItW} {its:List It} (h:ItsOwn V w rs its) (hs:W.heap.size ≤ V.heap.size):ItsOwn W w rs its:=⟨h.len,fun i h1 h2=>⟨(h.at_ i h1 h2).1,own_base (h.at_ i h1 h2).2 hs⟩⟩
def getF (X:Nat):Value:=.func (.func 10) #[.pointer (some ⟨X,0,none⟩)] #[]
structure RwQ (w:World) (B:Nat → Prop) (ws:List RwW) (xs:List RwP):Prop where
 inn:RwsIn w ws xs
 hoff:∀ i (h:i < ws.length) (h':i < xs.length),xs[i].Heads ≠ [] → Off ws[i].A (fun b=>¬ B b)
structure LdIn (W w:World) (X:Nat) (o:List (List UInt8)) (L M:Nat) (acc:List RwP) (A:Option Addr) (c:Nat) (ws:List RwW):Prop where
 blk:Blk w L 70 [getF X,.slice A ws.length c,.map (some M)]
 own:OwnC codR W w A c ws
 rws:RwQ w (badL W w L M) ws acc
 st:∃ l,mpT w M = some (setZ l) ∧ ∀ x,x ∈ l ↔ x ∈ acc.map (·.Node)
 bx:BoxIn w X (fun b=>W.heap.size ≤ b) o
 xw:X < W.heap.size
 lw:W.heap.size ≤ L
 mw:W.heap.size ≤ M
 max:acc.length ≤ 5000
def DlTo (w:World) (D:Int × List It) (e:Ending) (w':World):Prop :=
 Fr noB w w' ∧ ((D.1 ≠ 0 ∧ e = .returned (.tuple #[.slice none 0 0,.int .i64 D.1])) ∨ (D.1 = 0 ∧ ∃ A c rs,e = .returned (.tuple #[.slice A rs.length c,.int .i64 0]) ∧ OwnC codT w w' A c rs ∧ ItsOwn w w' rs D.2))
set_option maxRecDepth 100000 in
set_option maxHeartbeats 1000000 in
theorem lddir_any (w:World) (L X:Nat) (u v:Value) (Z:Nat → Prop) (o:List (List UInt8)) (hL:Blk w L 70 [getF X,u,v]) (hX:BoxIn w X Z o) (hlen:o.length ≤ 1000000000) (id:ID) :
  Calls Tryz.prog 22 #[.pointer (some ⟨L,0,none⟩),encI id] w (DlTo w (dirO nameH o id)):=by
 have f0:Fr noB w (w.alloc (ido id)):=(Fr.refl noB w).alloc _
 have b0:=bxI_rd (bxI_new w id)
 have k0:(w.alloc (ido id)).cell? ⟨L,0,none⟩ = some (getF X):=by rw [(hL.fr f0 (by simp [noB])).cell];rfl
 have HX0:=Lib.hid (hX.fr0 f0)
 have HF0:=Lib.hid f0
 have HLN:=Lib.hid hlen
 unfold getF at k0
 clear hX hL hlen f0
 go_enter Tryz.func22,Tryz.ntmps22
 go_upto_region 1 with fail
 generalize w.alloc (ido id) = w1 at b0 k0 HX0 HF0 ⊢
 generalize w.heap.size = P at b0 ⊢
 have CG:=Lib.hid (fun (w':World) (hx:BoxIn w' X Z o)=>bxget_any w' X Z o hx HLN.out id)
 have fd:Fr noB w1 w1.drew:=(Fr.refl noB w1).drew
 have keep:∀ w' w'':World,Fr noB w' w'' → (w'.cell? ⟨L,0,none⟩ = some (.func (.func 10) #[.pointer (some ⟨X,0,none⟩)] #[]) ∧ rdI w' P 0 = some id) → (w''.cell? ⟨L,0,none⟩ = some (.func (.func 10) #[.pointer (some ⟨X,0,none⟩)] #[]) ∧ rdI w'' P 0 = some id):=fun w' w'' f h=>⟨cell_fr0 h.1 f,rdI_fr h.2 (rdI_lt h.2) f (by simp [noB])⟩
 have hF0:=keep _ _ fd ⟨k0,b0⟩
 have HF1:=Lib.hid (HF0.out.step0 fd)
 have HX1:=Lib.hid (HX0.out.fr0 fd)
 clear k0 b0 fd
 refine wp_region_M 10 11 [⟨1024,1,0⟩,⟨2048,1024,1⟩,⟨4096,2048,2⟩,⟨8192,4096,4⟩,⟨16384,8,0⟩,⟨32768,24576,24⟩,⟨512,32768,32⟩,⟨65536,512,64⟩,⟨131072,512,64⟩,⟨64,65536,255⟩,⟨128,131072,1023⟩] [(true,0),(true,1),(true,2),(true,3),(true,4),(false,5),(true,6),(true,7),(true,8),(true,9)] (fun w'=>w'.cell? ⟨L,0,none⟩ = some (.func (.func 10) #[.pointer (some ⟨X,0,none⟩)] #[]) ∧ rdI w' P 0 = some id) (by kernel_rfl) rfl (by kernel_rfl) (by kernel_rfl) (by kernel_rfl) hF0 (fun hA hF=>?_)
 clear hF0
 generalize w1.drew = wd at hF HF1 HX1 ⊢
 iterate 5
  refine wpAnyS_take (v:=?_) hA rfl (fun _ _ _ h=>h) (Or.inl ⟨by rfl,?_⟩) hF (fun hA=>?_)
  rotate_left
  ·intro wS hSw;(try dsimp only at hSw);obtain ⟨s1,s2⟩:=hSw;first | (apply Eq.trans;apply ex_ld_id;exact rfl;exact rfl;assumption;with_reducible rfl) | (apply Eq.trans;apply ex_ldS_at;exact rfl;exact rfl;assumption;with_reducible rfl) | (go_simp;try with_reducible rfl)
  try simp only [sA1,sA2,sA3,Act.put,sA4,sA5,sA6]
 refine wpAnyS_one hA rfl (fun K' hK=>?_)
 go_simp
 go_at_call 10
 refine (CG.out wd HX1.out).mono ?_
 rintro e w2 ⟨f2,h2⟩
 have HFW:=Lib.hid (HF1.out.step0 f2)
 obtain ⟨A2,n2,c2,er,rfl,h3⟩:∃ (A2:Option Addr) (n2 c2:Nat) (er:Int),e = .returned (.tuple #[.slice A2 n2 c2,.int .i64 er]) ∧ ((findO nameH o id = none ∧ er = 4) ∨ ∃ b,findO nameH o id = some b ∧ er = 0 ∧ ByIn w2 ⟨A2,n2,c2⟩ b):=by
  cases hfo:findO nameH o id with
  | none=>rw [hfo] at h2;exact ⟨_,_,_,_,h2,.inl ⟨rfl,rfl⟩⟩
  | some b=>rw [hfo] at h2;obtain ⟨A2,n2,c2,h4,h5⟩:=h2;exact ⟨_,_,_,_,h4,.inr ⟨b,rfl,rfl,h5⟩⟩
 have H3:=Lib.hid h3
 clear h2 h3
 replace hF:=keep _ _ f2 hF
 refine hK.out _ _ hF (fun hA=>?_)
 clear hK K'
 clear f2
 iterate 4
  refine wpAnyS_take (v:=?_) hA rfl (fun _ _ _ h=>h) (Or.inl ⟨by rfl,?_⟩) hF (fun hA=>?_)
  rotate_left
  ·intro wS hSw;(try dsimp only at hSw);obtain ⟨s1,s2⟩:=hSw;first | (apply Eq.trans;apply ex_ld_id;exact rfl;exact rfl;assumption;with_reducible rfl) | (apply Eq.trans;apply ex_ldS_at;exact rfl;exact rfl;assumption;with_reducible rfl) | (go_simp;try with_reducible rfl)
  try simp only [sA1,sA2,sA3,Act.put,sA4,sA5,sA6]
 refine wpAnyS_end hA rfl ?_
 simp only [List.drop_succ_cons,List.drop_zero]
 clear hF keep HX1 HF1 CG HX0
 rcases H3.out with ⟨hfo,rfl⟩ | ⟨b,hfo,rfl,hb2⟩
 ·have HD:=Lib.hid (show dirO nameH o id = (4,[]) by simp only [dirO,hfo])
  clear hfo H3
  go_wp2_with fail
  refine bodyPost_ret (results_tmp2 rfl _ _ _) rfl ?_
  exact ⟨HFW.out,.inl ⟨by rw [HD.out];decide,by rw [HD.out];rfl⟩⟩
 ·have HB2:=Lib.hid hb2
  have hD:dirO nameH o id = match rdDr b with | none=>(130,[]) | some l=>if l.isEmpty then (130,[]) else (0,l):=by unfold dirO;rw [hfo];rfl
  have CD:=Lib.hid (dir_any w2 A2 c2 n2 b HB2.out.len HB2.out.sl (by have h1:=HB2.out.cap;have h2:=HB2.out.len;simp only at h1 h2;omega) (by have:=HB2.out.bd;omega))
  clear hb2 hfo H3
  cases hrd:rdDr b with
  | none =>
   rw [hrd] at hD
   have HD:=Lib.hid hD
   have HRD:=Lib.hid hrd
   clear hrd hD
   go_wp2_with (go_at_call 40;refine CD.out.mono ?_;rintro e w3 ⟨A3,c3,rs,rfl,f3,ho3,hi3⟩;simp only [HRD.out,Option.isSome_none,Bool.false_eq_true,if_false];have HF3:=Lib.hid f3;clear f3 ho3 hi3)
   refine bodyPost_ret (results_tmp2 rfl _ _ _) rfl ?_
   exact ⟨HFW.out.step0 HF3.out,.inl ⟨by rw [HD.out];decide,by rw [HD.out];rfl⟩⟩
  | some l =>
   rw [hrd] at hD
   have HRD:=Lib.hid hrd
   clear hrd
   by_cases hl:l = []
   ·rw [hl] at hD
    have HD:=Lib.hid hD
    have HL:=Lib.hid hl
    clear hl hD
    go_wp2_with (go_at_call 40;refine CD.out.mono ?_;rintro e w3 ⟨A3,c3,rs,rfl,f3,ho3,hi3⟩;rw [HRD.out] at hi3;have e0:rs.length = 0:=(by rw [hi3.len,Option.getD_some,HL.out];rfl);simp only [HRD.out,Option.isSome_some,if_true];have HF3:=Lib.hid f3;clear f3 ho3 hi3)
    refine bodyPost_ret (results_tmp2 rfl _ _ _) rfl ?_
    exact ⟨HFW.out.step0 HF3.out,.inl ⟨by rw [HD.out];decide,by rw [HD.out];rfl⟩⟩
   ·have HD:=Lib.hid (show dirO nameH o id = (0,l) by rw [hD];simp only;rw [if_neg (by simpa using hl)])
    have HL:=Lib.hid hl
    clear hl hD
    go_wp2_with (go_at_call 40;refine CD.out.mono ?_;rintro e w3 ⟨A3,c3,rs,rfl,f3,ho3,hi3⟩;rw [HRD.out] at hi3;rw [Option.getD_some] at hi3;have e0:¬ rs.length = 0:=(by intro e;exact HL.out (List.eq_nil_of_length_eq_zero (by rw [← hi3.len];exact e)));simp only [HRD.out,Option.isSome_some,if_true];have HF3:=Lib.hid f3;have HO3:=Lib.hid ho3;have HI3:=Lib.hid hi3;clear f3 ho3 hi3)
    refine bodyPost_ret (results_tmp2 rfl _ _ _) rfl ?_
    exact ⟨HFW.out.step0 HF3.out,.inr ⟨by rw [HD.out],A3,c3,rs,rfl,own_base HO3.out HFW.out.size,by rw [HD.out];exact HI3.out.base HFW.out.size⟩⟩
end Go.Proofs.YtnkdnbjmhoegkaaGreat
namespace Go.Proofs.YtnkdnbjmhoegkaaGreat
open Go.RowKit Go.Maps Go.Sort
theorem bldR_5 (w:World) (s t u:St) (m:List UInt8) (A:Option Addr) (n c:Nat):(Instr.build 28 #[(0,.agg (codS.A s)),(1,.agg (codS.A t)),(2,.agg (codS.A u)),(3,.string (str m)),(4,.slice A n c)]).run Tryz.prog w = .ok (.agg (codR.A ⟨s,t,u,m,A,n,c⟩)) w:=by
 have e:∀ s:St,codS.A s = #[.int .i64 s.T,.int .i64 s.R]:=fun s=>by rw [Cod.A_eq];rfl
 rw [e,e,e,Cod.A_eq];go_simp;rfl
theorem ex_bldR5_at {ρ:Operand → Value} {o:Oper} {x0 x1 x2 x3 x4:Operand} {w:World} {s t u:St} {m:List UInt8} {A:Option Addr} {n c:Nat} (ho:o.op = .build 28 #[(0,x0),(1,x1),(2,x2),(3,x3),(4,x4)]) (h0:ρ x0 = .agg (codS.A s)) (h1:ρ x1 = .agg (codS.A t)) (h2:ρ x2 = .agg (codS.A u)) (h3:ρ x3 = .string (str m)) (h4:ρ x4 = .slice A n c) :
  (execOp ρ o).run Tryz.prog w = .ok (.value (.agg (codR.A ⟨s,t,u,m,A,n,c⟩))) w:=by
 rw [exB ρ o _ _ ho w]
 simp only [List.map_toArray,List.map_cons,List.map_nil,h0,h1,h2,h3,h4]
 exact mkB_ok (bldR_5 w s t u m A n c)
def GoodI (its:List It):Prop:=its.length ≤ 1000 ∧ ∀ x ∈ its,wfS x.Node = true
theorem dirO_good {o:List (List UInt8)} {id:ID} (h:(dirO nameH o id).1 = 0):GoodI (dirO nameH o id).2 ∧ (dirO nameH o id).2 ≠ []:=by
 unfold dirO at h ⊢
 cases hf:findO nameH o id with
 | none=>rw [hf] at h;simp at h
 | some b =>
  rw [hf] at h
  simp only at h ⊢
  cases hr:rdDr b with
  | none=>rw [hr] at h;simp at h
  | some l =>
   rw [hr] at h
   simp only at h ⊢
   by_cases hl:l.isEmpty = true
   ·rw [if_pos hl] at h;simp at h
   ·rw [if_neg hl]
    have hd:rightDr l = true:=by
     unfold rdDr at hr
     simp only at hr
     split at hr
     ·rename_i hh;injection hr with hr;rw [← hr];exact hh.2
     ·cases hr
    simp only [rightDr,Bool.and_eq_true,decide_eq_true_eq,List.all_eq_true] at hd
    refine ⟨⟨hd.1.1,fun x hx=>?_⟩,fun e=>hl (by have e:l = []:=e;rw [e];rfl)⟩
    have h2:=hd.1.2 x hx
    simp only [rightIt,Bool.and_eq_true,decide_eq_true_eq] at h2
    exact rightS_wf h2.1.1.1.1.1.1
section
variable {W w w':World} {X L M:Nat} {o:List (List UInt8)} {acc:List RwP} {A:Option Addr} {c:Nat} {ws:List RwW}
theorem RwIn.offZ {B:Nat → Prop} {r:RwW} {x:RwP} (h:RwIn w r x) (hx:x.Heads ≠ [] → Off r.A (fun b=>¬ B b)) (f:Fr B w w'):RwIn w' r x:=by
 refine ⟨h.eq,h.len,?_,h.bd,h.nm,h.wn,h.wp⟩
 by_cases h0:x.Heads = []
 ·rw [h0];exact Sl.nil _ _
 ·exact h.sl.fr f (hx h0)
theorem RwQ.frB (h:RwQ w (badL W w L M) ws acc) (f:Fr (badL W w L M) w w'):RwQ w' (badL W w' L M) ws acc :=
 ⟨⟨h.inn.len,fun i h1 h2=>(h.inn.at_ i h1 h2).offZ (h.hoff i h1 h2) f⟩,fun i h1 h2 hne a ha k=>h.hoff i h1 h2 hne a ha (bad_fr f (hds_lt (h.inn.at_ i h1 h2).sl hne a ha) k)⟩
theorem RwQ.snoc {B:Nat → Prop} (h:RwQ w B ws acc) {r:RwW} {x:RwP} (hi:RwIn w r x) (ho:x.Heads ≠ [] → Off r.A (fun b=>¬ B b)):RwQ w B (ws ++ [r]) (acc ++ [x]):=by
 have key:∀ i (h1:i < (ws ++ [r]).length) (h2:i < (acc ++ [x]).length),RwIn w (ws ++ [r])[i] (acc ++ [x])[i] ∧ ((acc ++ [x])[i].Heads ≠ [] → Off (ws ++ [r])[i].A (fun b=>¬ B b)):=fun i h1 h2=>by
  have hl:=h.inn.len
  rw [List.length_append,List.length_singleton] at h1
  by_cases hi':i < ws.length
  ·have h4:i < acc.length:=by omega
   rw [List.getElem_append_left hi',List.getElem_append_left h4]
   exact ⟨h.inn.at_ i hi' h4,h.hoff i hi' h4⟩
  ·have e5:i = ws.length:=by omega
   have e6:i = acc.length:=by omega
   have e1:(ws ++ [r])[i] = r:=by subst e5;simp
   have e2:(acc ++ [x])[i] = x:=by subst e6;simp
   rw [e1,e2]
   exact ⟨hi,ho⟩
 exact ⟨⟨by simp [h.inn.len],fun i h1 h2=>(key i h1 h2).1⟩,fun i h1 h2=>(key i h1 h2).2⟩
theorem bad_ge (h:LdIn W w X o L M acc A c ws) {b:Nat} (hb:badL W w L M b):W.heap.size ≤ b:=by
 rcases hb with rfl | rfl | hb
 ·exact h.lw
 ·exact h.mw
 ·exact hb.1
theorem LdIn.fr0 (h:LdIn W w X o L M acc A c ws) (f:Fr noB w w'):LdIn W w' X o L M acc A c ws :=
 ⟨h.blk.fr f (by simp [noB]),own_new0 h.own f,h.rws.frB f.any,by obtain ⟨l,h1,h2⟩:=h.st;exact ⟨l,mpT_fr0 h1 f,h2⟩,h.bx.fr0 f,h.xw,h.lw,h.mw,h.max⟩
theorem own_bad (h:LdIn W w X o L M acc A c ws) {b:Nat} (hb:A.map (·.block) = some b):badL W w L M b:=.inr (.inr ⟨(own_lt h.own b hb).1,own_ty h.own hb⟩)
end
theorem und_len {D:ID → Int × List It} {p:St} {l:List It} {acc:List RwP} {E:Int} {acc':List RwP} (h:Und D p l acc E acc'):acc.length ≤ acc'.length:=by
 induction h with
 | nil=>exact Nat.le_refl _
 | bad _=>exact Nat.le_refl _
 | leaf _ _ _ ih=>simp only [List.length_append,List.length_singleton] at ih;omega
 | dirE _ _ _=>simp
 | subE _ _ _ _ _ ih=>simp only [List.length_append,List.length_singleton] at ih;omega
 | sub _ _ _ _ _ ih1 ih2=>simp only [List.length_append,List.length_singleton] at ih1;omega
theorem Blk.ne_bl {w:World} {b g:Nat} {t e:TypeId} {cs ds:List Value} (hb:Blk w b t cs) (hg:Blk w g e ds) (hne:e ≠ t):¬ g = b:=fun h=>by
 subst h
 unfold Blk at hb hg
 rw [hb] at hg
 injection hg with hg
 injection hg with _ hg
 exact hne hg.symm
theorem blk_map {w:World} {b M:Nat} {t:TypeId} {cs:List Value} {kv:List (St × Value)} (hb:Blk w b t cs) (hm:mpT w M = some kv):b ≠ M:=by
 unfold Blk at hb
 exact mpT_ne hm hb
theorem own_map' {w:World} {base size n c M:Nat} {e:TypeId} {A:Option Addr} {xs:List Value} {kv:List (St × Value)} (ho:w.ownsRow base e size (.slice A n c) n xs) (hm:mpT w M = some kv):¬ A.map (·.block) = some M:=fun h=>by
 obtain ⟨cs,z,hg⟩:=own_ty ho h
 exact mpT_ne hm hg rfl
theorem blk_own {w:World} {b base size n c:Nat} {t e:TypeId} {cs:List Value} {A:Option Addr} {xs:List Value} (hb:Blk w b t cs) (ho:w.ownsRow base e size (.slice A n c) n xs) (hne:t ≠ e):¬ A.map (·.block) = some b:=fun h=>by
 obtain ⟨cs,z,hg⟩:=own_ty ho h
 unfold Blk at hb
 rw [hb] at hg
 injection hg with hg
 injection hg with _ hg
 exact hne hg
def SubR (D:ID → Int × List It) (p:St) (id:ID) (acc:List RwP) (E:Int) (acc':List RwP):Prop :=
 (id = zID ∧ E = 0 ∧ acc' = acc) ∨ (id ≠ zID ∧ (D id).1 ≠ 0 ∧ E = (D id).1 ∧ acc' = acc) ∨ (id ≠ zID ∧ (D id).1 = 0 ∧ Und D p (D id).2 acc E acc')
def LdTo (W w:World) (X L M:Nat) (o:List (List UInt8)) (R:Int → List RwP → Prop) (e:Ending) (w':World):Prop :=
 ∃ (E:Int) (acc':List RwP) (A:Option Addr) (c:Nat) (ws:List RwW),e = .returned (.int .i64 E) ∧ R E acc' ∧ LdIn W w' X o L M acc' A c ws ∧ Fr (badL W w L M) w w'
def UndC (W:World) (X L M:Nat) (o:List (List UInt8)) (j:Nat):Prop :=
 ∀ (w:World) (p:St) (A:Option Addr) (c:Nat) (rs:List ItW) (its:List It) (acc:List RwP) (B:Option Addr) (d:Nat) (ws:List RwW),wfS p = true → GoodI its → LdIn W w X o L M acc B d ws → ItQ W w L M A rs its → 5000 - acc.length ≤ j →
  Calls Tryz.prog 23 #[.pointer (some ⟨L,0,none⟩),.agg (codS.A p),.slice A rs.length c] w (LdTo W w X L M o (Und (dirO nameH o) p its acc))
def SubC (W:World) (X L M:Nat) (o:List (List UInt8)) (j:Nat):Prop :=
 ∀ (w:World) (p:St) (id:ID) (acc:List RwP) (B:Option Addr) (d:Nat) (ws:List RwW),wfS p = true → LdIn W w X o L M acc B d ws → 5000 - acc.length ≤ j →
  Calls Tryz.prog 24 #[.pointer (some ⟨L,0,none⟩),.agg (codS.A p),encI id] w (LdTo W w X L M o (SubR (dirO nameH o) p id acc))
set_option maxRecDepth 100000 in
set_option maxHeartbeats 1000000 in
theorem ldsub_of (W:World) (X L M:Nat) (o:List (List UInt8)) (hlen:o.length ≤ 1000000000) (j:Nat) (hU:UndC W X L M o j):SubC W X L M o j:=by
 intro w p id acc B d ws hp hL hj
 have fa:Fr noB w (w.alloc (.cells (codS.A p) 24)):=(Fr.refl noB w).alloc _
 have q0:=Cod.rd_new (C:=codS) w 24 p
 have fb:Fr noB (w.alloc (.cells (codS.A p) 24)) ((w.alloc (.cells (codS.A p) 24)).alloc (ido id)):=(Fr.refl noB _).alloc _
 have b0:=bxI_rd (bxI_new (w.alloc (.cells (codS.A p) 24)) id)
 have q1:=Cod.rd_fr0 q0 fb
 have HF0:=Lib.hid (fa.step0 fb)
 have HL:=Lib.hid (hL.fr0 HF0.out)
 have HP:=Lib.hid hp
 have HJ:=Lib.hid hj
 have HU:=Lib.hid hU
 have HLN:=Lib.hid hlen
 rw [World.size_alloc] at b0
 clear hp hL hj hU hlen fa fb q0
 go_enter Tryz.func24,Tryz.ntmps24
 go_upto_region 1 with fail
 generalize (w.alloc (.cells (codS.A p) 24)).alloc (ido id) = w1 at b0 q1 HF0 HL ⊢
 by_cases hz:id = zID
 ·have hz':decide (id = zID) = true:=by simp [hz]
  have HZ:=Lib.hid hz
  clear hz
  go_wp2_with fail
  go_ret
  exact ⟨0,acc,B,d,ws,rfl,.inl ⟨HZ.out,rfl,rfl⟩,HL.out,HF0.out.any⟩
 ·have hz':decide (id = zID) = false:=by simp [hz]
  have HZ:=Lib.hid hz
  clear hz
  have CD:=Lib.hid (lddir_any w1 L X _ _ _ o HL.out.blk HL.out.bx HLN.out id)
  rcases Classical.em ((dirO nameH o id).1 = 0) with h0 | h0
  ·have H0:=Lib.hid h0
   clear h0
   go_upto_region 6 with (go_at_call 22;refine CD.out.mono ?_;rintro e w2 ⟨f2,h2⟩;obtain ⟨A2,c2,rs,rfl,ho2,hi2⟩:=h2.elim (fun h=>absurd H0.out h.1) (fun h=>h.2);have HF2:=Lib.hid f2;have HO2:=Lib.hid ho2;have HI2:=Lib.hid hi2;clear h2 f2 ho2 hi2)
   have q2:=Cod.rd_fr0 q1 HF2.out
   have HL2:=Lib.hid (HL.out.fr0 HF2.out)
   have HIQ:=Lib.hid (ItQ.own HL2.out.blk HL2.out.st.choose_spec.1 HO2.out HI2.out (W:=W))
   clear q1 b0
   go_wp2_with (go_at_call 23;refine (HU.out w2 p A2 c2 rs _ acc B d ws HP.out (dirO_good H0.out).1 HL2.out HIQ.out HJ.out).mono ?_;rintro e w3 ⟨E,acc',A',c',ws',rfl,hu,hl3,f3⟩;have HU3:=Lib.hid (And.intro hu (And.intro hl3 f3));clear hu hl3 f3)
   go_ret
   exact ⟨E,acc',A',c',ws',rfl,.inr (.inr ⟨HZ.out,H0.out,HU3.out.1⟩),HU3.out.2.1,fr_bad (HF0.out.step0 HF2.out).any (HU3.out.2.2.mono fun b hb=>hb)⟩
  ·have H0:=Lib.hid h0
   have h0':¬ (dirO nameH o id).1 = 0:=h0
   clear h0
   go_wp2_with (go_at_call 22;refine CD.out.mono ?_;rintro e w2 ⟨f2,h2⟩;obtain rfl:=h2.elim (fun h=>h.2) (fun h=>absurd h.1 H0.out);have HF2:=Lib.hid f2;clear h2 f2)
   go_ret
   exact ⟨_,acc,B,d,ws,rfl,.inr (.inl ⟨HZ.out,H0.out,rfl,rfl⟩),HL.out.fr0 HF2.out,(HF0.out.step0 HF2.out).any⟩
end Go.Proofs.YtnkdnbjmhoegkaaGreat
