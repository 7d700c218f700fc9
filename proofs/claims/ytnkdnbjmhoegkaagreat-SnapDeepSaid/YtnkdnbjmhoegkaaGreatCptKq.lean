/- Contract: slices.Compact of IDs, in place. -/
import Derived.Test.YtnkdnbjmhoegkaaGreatFrameOKq
import Derived.Lib.SliceRun
set_option linter.unusedVariables false
set_option linter.unusedSimpArgs false
namespace Go.Proofs.YtnkdnbjmhoegkaaGreat
open Go.RowKit
def cptN (l:List ID):Nat → List ID
 | 0=>[]
 | j + 1=>match l[j]? with
  | none=>cptN l j
  | some x=>if 0 < j ∧ l[j - 1]? = some x then cptN l j else cptN l j ++ [x]
def cpt (l:List ID):List ID:=cptN l l.length
theorem cptN_same {l:List ID} {j:Nat} (h:j < l.length) (h0:0 < j) (he:l[j] = l[j - 1]'(by omega)):cptN l (j + 1) = cptN l j:=by
 simp only [cptN,List.getElem?_eq_getElem h]
 rw [if_pos ⟨h0,by rw [List.getElem?_eq_getElem (by omega),he]⟩]
theorem cptN_new {l:List ID} {j:Nat} (h:j < l.length) (he:j = 0 ∨ ∃ (h1:0 < j),l[j] ≠ l[j - 1]'(by omega)):cptN l (j + 1) = cptN l j ++ [l[j]]:=by
 simp only [cptN,List.getElem?_eq_getElem h]
 rw [if_neg]
 rintro ⟨h0,h1⟩
 rcases he with he | ⟨_,he⟩
 ·omega
 ·rw [List.getElem?_eq_getElem (by omega)] at h1
  injection h1 with h1
  exact he h1.symm
def RwI (w:World) (g:Nat) (l:List ID):Prop:=∃ cur:List Value,w.heap[g]? = some (.cells cur.toArray 34 (0,0)) ∧ cur.take (l.length * 32) = idc l
theorem RwI.own {w0 w:World} {A:Option Addr} {c:Nat} {l:List ID} (h:OwnC codI w0 w A c l) (h0:l ≠ []):∃ g,A = some ⟨g,0,none⟩ ∧ RwI w g l:=by
 rcases h.2 with ⟨hv,hn⟩ | ⟨g,cap,cur,hv,hb,hg,hnc,hm,hs,ht⟩
 ·exact absurd (List.length_eq_zero_iff.1 hn) h0
 ·injection hv with h1 h2 h3
  exact ⟨g,h1,cur.toList,(by rw [Array.toArray_toList];exact hg),ht⟩
theorem RwI.lt {w:World} {g:Nat} {l:List ID} (h:RwI w g l):g < w.heap.size:=by
 obtain ⟨cur,hg,_⟩:=h
 exact (Array.getElem?_eq_some_iff.1 hg).1
theorem RwI.cell {w:World} {g:Nat} {l:List ID} (h:RwI w g l) (j:Nat) (hj:j < l.length * 32):w.cell? ⟨g,j,none⟩ = (idc l)[j]? ∧ w.frozen? ⟨g,j,none⟩ = false:=by
 obtain ⟨cur,hg,ht⟩:=h
 have hb:Blk w g 34 cur:=hg
 refine ⟨?_,hb.frozen j⟩
 rw [hb.cell,← ht,List.getElem?_take_of_lt hj]
theorem RwI.sl {w:World} {g:Nat} {l:List ID} (h:RwI w g l):Sl w (some ⟨g,0,none⟩) (idc l):=by
 intro hne
 refine ⟨g,0,rfl,h.lt,fun j v hv=>?_⟩
 have hj:j < l.length * 32:=by have:=(List.getElem?_eq_some_iff.1 hv).1;rw [idc_length] at this;exact this
 rw [Nat.zero_add,(h.cell j hj).1]
 exact hv
theorem RwI.fr0 {w w':World} {g:Nat} {l:List ID} (h:RwI w g l) (f:Fr noB w w'):RwI w' g l:=by
 have hl:=h.lt
 obtain ⟨cur,hg,ht⟩:=h
 exact ⟨cur,(f.block g hl (by simp [noB])).trans hg,ht⟩
theorem idc_app (l m:List ID):idc (l ++ m) = idc l ++ idc m:=by simp [idc]
theorem idc_take (l:List ID) (k:Nat) (h:k ≤ l.length):(idc l).take (k * 32) = idc (l.take k):=by
 have:idc l = idc (l.take k) ++ idc (l.drop k):=by rw [← idc_app,List.take_append_drop]
 rw [this,List.take_left' (by rw [idc_length,List.length_take];omega)]
theorem idc_drop (l:List ID) (k:Nat) (h:k ≤ l.length):(idc l).drop (k * 32) = idc (l.drop k):=by
 have:idc l = idc (l.take k) ++ idc (l.drop k):=by rw [← idc_app,List.take_append_drop]
 rw [this,List.drop_left' (by rw [idc_length,List.length_take];omega)]
theorem RwI.set {w:World} {g:Nat} {l:List ID} (h:RwI w g l) (k:Nat) (news:List ID) (hk:k + news.length ≤ l.length) :
  RwI (w.setCells g (k * 32) (idc news)) g (l.take k ++ news ++ l.drop (k + news.length)) ∧ Fr (oneB g) w (w.setCells g (k * 32) (idc news)):=by
 have hlt:=h.lt
 obtain ⟨cur,hg,ht⟩:=h
 have hcl:l.length * 32 ≤ cur.length:=by
  have:=congrArg List.length ht
  rw [List.length_take,idc_length] at this
  omega
 have hnl:=idc_length news
 have e:=setCells_row g 34 (idc news) w cur (k * 32) hg (by rw [hnl];omega)
 obtain ⟨f1,f2,f3⟩:=frameMapB hlt (Obj.cells (cur.take (k * 32) ++ idc news ++ cur.drop (k * 32 + (idc news).length)).toArray 34 (0,0))
 rw [e]
 refine ⟨⟨_,f3,?_⟩,f1⟩
 have hlen:(l.take k ++ news ++ l.drop (k + news.length)).length = l.length:=by simp;omega
 rw [hlen,idc_app,idc_app,hnl]
 have e1:cur.take (k * 32) = idc (l.take k):=by
  rw [← idc_take l k (by omega),← ht,List.take_take]
  congr 1
  omega
 have e2:(cur.drop (k * 32 + news.length * 32)).take ((l.length - k - news.length) * 32) = idc (l.drop (k + news.length)):=by
  rw [← idc_drop l _ (by omega),← ht,List.drop_take]
  rw [Nat.add_mul]
  congr 1
  omega
 rw [e1,← e2]
 have hl3:(idc (l.take k) ++ idc news).length = (k + news.length) * 32:=by rw [List.length_append,idc_length,idc_length,List.length_take,Nat.add_mul];congr 2;omega
 rw [List.take_append,List.take_of_length_le (by rw [hl3];omega),hl3]
 congr 2
 omega
theorem idc_one1 (x:ID):idc [x] = bv x.1:=by simp [idc]
theorem RwI.st {w:World} {g:Nat} {l:List ID} (h:RwI w g l) (k:Nat) (hk:k < l.length) (x:ID):stI w (.pointer (some ⟨g,k * 32,none⟩)) (encI x) = .ok .skip (w.setCells g (k * 32) (idc [x])):=by
 have hl:(bv x.1).length = 32:=by rw [bv_length,x.2]
 have hrun:=run_storeAt_mid (P:=Tryz.prog) w g (k * 32) 34 (bv x.1).toArray (fun j hj=>by
  rw [List.size_toArray,hl] at hj
  obtain ⟨a,b⟩:=h.cell (k * 32 + j) (by omega)
  refine ⟨?_,b⟩
  rw [a]
  have:k * 32 + j < (idc l).length:=by rw [idc_length];omega
  simp [this]) (by rw [List.size_toArray,hl];exact infoID) (all_oneCell_toArray (bv_one _))
 unfold stI
 simp only [encI,idA_eq]
 rw [hrun,idc_one1]
 rfl
theorem zero_rep (m:Nat):idc (List.replicate m zID) = List.replicate (m * 32) (.int .u8 0):=by
 induction m with
 | zero=>rfl
 | succ m ih =>
  rw [List.replicate_succ,show zID :: List.replicate m zID = [zID] ++ List.replicate m zID from rfl,idc_app,ih,idc_one1,show bv zID.1 = List.replicate 32 (.int .u8 0) from rfl,List.replicate_append_replicate]
  congr 1
  omega
theorem zero_cells (m:Nat):(Builtin.zeroCells (Value.agg (bv zID.1).toArray).cells m).toList = idc (List.replicate m zID):=by
 rw [zero_rep]
 apply List.ext_getElem
 ·simp [Builtin.zeroCells,Value.cells,zID]
 ·intro i h1 h2
  simp only [Builtin.zeroCells,Value.cells,List.getElem_replicate,Array.getElem_toList,Array.getElem_map,Array.getElem_range]
  have hs:(bv zID.1).toArray.size = 32:=rfl
  rw [hs]
  have h32:i % 32 < 32:=Nat.mod_lt _ (by decide)
  rw [getElem!_pos _ _ (by rw [hs];exact h32)]
  have:(bv zID.1) = List.replicate 32 (.int .u8 0):=rfl
  rw [List.getElem_toArray]
  exact (List.getElem_of_eq this _).trans (List.getElem_replicate _)
theorem RwI.clear {w:World} {g:Nat} {l:List ID} (h:RwI w g l) (k m c:Nat) (hk:k + m = l.length) (hm:0 < m) (ty:TypeId) :
  (Builtin.clear_ #[50] ty #[.slice (some ⟨g,k * 32,none⟩) m c]).run Tryz.prog w = .ok (.tuple #[]) (w.setCells g (k * 32) (idc (List.replicate m zID))):=by
 have hl:=idc_length (List.replicate m zID)
 rw [List.length_replicate] at hl
 have hz:∀ w,(zeroValue 34).run Tryz.prog w = .ok (.agg (bv zID.1).toArray) w:=fun w=>(zero_of_info (P:=Tryz.prog) (t:=34) (v:=.agg (bv zID.1).toArray) (n:=32) (by kernel_rfl)).1 w
 have hst:=run_storeCells_cells (P:=Tryz.prog) g (k * 32) (idc (List.replicate m zID)) 0 w (fun j hj=>by
  rw [hl] at hj
  obtain ⟨a,b⟩:=h.cell (k * 32 + j) (by omega)
  simp only [Nat.zero_add,Nat.add_zero]
  rw [a]
  have:k * 32 + j < (idc l).length:=by rw [idc_length];omega
  simp [this]) (fun j hj=>by
  rw [hl] at hj
  simp only [Nat.zero_add,Nat.add_zero]
  exact (h.cell (k * 32 + j) (by omega)).2) (idc_one _)
 simp only [Nat.add_zero] at hst
 obtain ⟨m',rfl⟩:∃ m',m = m' + 1:=⟨m - 1,by omega⟩
 simp [Builtin.clear_,run_underlying Tryz.underlying50,hz,zero_cells,hst]
def CpTo (w:World) (A:Option Addr) (c:Nat) (l:List ID) (e:Ending) (w':World):Prop :=
 e = .returned (.slice A (cpt l).length c) ∧ Sl w' A (idc (cpt l)) ∧ Fr (fun b=>A.map (·.block) = some b) w w'
def Cp1 (W:World) (l:List ID) (gk:Nat) (iv:Value) (wr:World):Prop:=∃ k:Nat,iv = .int .i64 (k:Int) ∧ gk = l.length + 1 - k ∧ 1 ≤ k ∧ k ≤ l.length ∧ cptN l k = l.take k ∧ Fr noB W wr
def Cp2 (W:World) (g:Nat) (l:List ID) (k0:Nat) (gk:Nat) (v iv:Value) (wr:World):Prop :=
 ∃ (kk m:Nat) (L:List ID),v = .int .i64 (kk:Int) ∧ iv = .int .i64 (m:Int) ∧ gk = l.length + 1 - (k0 + m) ∧ 1 ≤ m ∧ k0 + m ≤ l.length ∧ kk + 1 ≤ k0 + m ∧ RwI wr g L ∧ L.length = l.length ∧ L.drop (k0 + m - 1) = l.drop (k0 + m - 1) ∧ L.take kk = cptN l (k0 + m) ∧ Fr (oneB g) W wr
theorem Sl.pre {w:World} {A:Option Addr} {xs ys:List Value} (h:Sl w A (xs ++ ys)):Sl w A xs:=by
 intro hne
 obtain ⟨g,off,e,hg,hc⟩:=h (by intro h0;exact hne (List.append_eq_nil_iff.1 h0).1)
 refine ⟨g,off,e,hg,fun j v hv=>hc j v ?_⟩
 rw [List.getElem?_append_left (List.getElem?_eq_some_iff.1 hv).1]
 exact hv
theorem get_drop {l L:List ID} {d i:Nat} (hl:L.length = l.length) (h:L.drop d = l.drop d) (hd:d ≤ i) (hi:i < l.length):L[i]'(by omega) = l[i]:=by
 have h1:(L.drop d)[i - d]? = (l.drop d)[i - d]?:=by rw [h]
 rw [List.getElem?_drop,List.getElem?_drop,show d + (i - d) = i by omega,List.getElem?_eq_getElem (by omega),List.getElem?_eq_getElem hi] at h1
 injection h1
set_option maxRecDepth 100000 in
set_option maxHeartbeats 2000000 in
theorem compact_any (w:World) (A:Option Addr) (c n:Nat) (l:List ID) (hn:l.length = n) (hR:l = [] ∨ ∃ g,A = some ⟨g,0,none⟩ ∧ RwI w g l) (hcap:l.length ≤ c) (hb:l.length ≤ 140737488355328) :
  Calls Tryz.prog 35 #[.slice A n c] w (CpTo w A c l):=by
 subst hn
 by_cases hl2:l.length < 2
 ·have hcp:cpt l = l:=by
   match l,hl2 with
   | [],_=>rfl
   | [x],_=>rfl
  have i1:(l.length:Int) < 2:=by omega
  have H:=Lib.hid hcp
  have hsl:Sl w A (idc l):=by
   rcases hR with h | ⟨g,rfl,h⟩
   ·rw [h];exact Sl.nil _ _
   ·exact h.sl
  clear hcp hR
  go_enter Tryz.func35,Tryz.ntmps35
  go_wp2_with fail
  go_ret
  unfold CpTo
  rw [H.out]
  exact ⟨rfl,hsl,Fr.refl _ _⟩
 ·obtain ⟨g,rfl,hRw⟩:∃ g,A = some ⟨g,0,none⟩ ∧ RwI w g l:=by
   rcases hR with h | h
   ·exfalso;rw [h] at hl2;simp at hl2
   ·exact h
  clear hR
  have i1:¬ (l.length:Int) < 2:=by omega
  have hsl:=hRw.sl
  go_enter Tryz.func35,Tryz.ntmps35
  go_wp2_with fail
  go_loopg [3] l.length (fun gk iv wr=>Cp1 w l gk iv wr)
  case atStart=>exact ⟨1,rfl,by omega,by omega,by omega,by
   have:=cptN_new (l:=l) (j:=0) (by omega) (.inl rfl)
   rw [this]
   cases l with
   | nil=>simp at hl2
   | cons x t=>simp [cptN],Fr.refl _ _⟩
  case round =>
   obtain ⟨k,rfl,rfl,hk1,hk,hc,hf⟩:=hrel
   have HC:=Lib.hid hc
   clear hc
   by_cases hlt:k < l.length
   ·have i2:(k:Int) < (l.length:Int):=by omega
    have i0:(0:Int) ≤ (k:Int):=by omega
    have q2:k - 1 < l.length:=by omega
    have r1:rdI wr.drew g ((k - 1) * 32) = some (l[k - 1]'q2):=by simpa using (hsl.fr0 hf.drew).id (k - 1) q2
    have r2:rdI wr.drew g (k * 32) = some l[k]:=by simpa using (hsl.fr0 hf.drew).id k hlt
    have hne:l[k] ≠ l[k - 1]'q2 → cptN l (k + 1) = l.take (k + 1):=fun h=>by
     rw [cptN_new hlt (.inr ⟨by omega,h⟩),HC.out,List.take_succ_eq_append_getElem hlt]
    have heq:l[k] = l[k - 1]'q2 → cptN l (k + 1) = l.take k:=fun h=>by
     rw [cptN_same hlt (by omega) h,HC.out]
    generalize l[k - 1]'q2 = y at r1 hne heq
    generalize l[k] = x at r2 hne heq
    have HNE:=Lib.hid hne
    have HEQ:=Lib.hid heq
    clear hne heq
    generalize hqe:k - 1 = q at r1 q2
    have mw:IntKind.i64.wrap ((k:Int) - 1) = (q:Int):=by rw [IntKind.wrap_i64];omega
    have j0:(0:Int) ≤ (q:Int):=by omega
    have j1:(q:Int) < (l.length:Int):=by omega
    have QE:=Lib.hid hqe
    clear hqe
    have keep:∀ w' w'':World,Fr noB w' w'' → (rdI w' g (k * 32) = some x ∧ rdI w' g (q * 32) = some y) → (rdI w'' g (k * 32) = some x ∧ rdI w'' g (q * 32) = some y):=fun w' w'' f h =>
     ⟨rdI_fr h.1 (rdI_lt h.1) f (by simp [noB]),rdI_fr h.2 (rdI_lt h.2) f (by simp [noB])⟩
    go_wp2_with fail
    refine wp_region_M 9 10 [⟨65536,1,0⟩,⟨131072,8,0⟩,⟨262144,196608,3⟩,⟨524288,262144,4⟩,⟨1048576,1,0⟩,⟨2097152,8,0⟩,⟨4194304,2097152,32⟩,⟨8388608,5242880,80⟩,⟨16777216,8388608,128⟩,⟨33554432,17301504,264⟩] [(true,0),(true,1),(true,2),(true,3),(true,4),(true,5),(true,6),(true,7),(true,8)] (fun w'=>rdI w' g (k * 32) = some x ∧ rdI w' g (q * 32) = some y) (by kernel_rfl) rfl (by kernel_rfl) (by kernel_rfl) (by kernel_rfl) ⟨r2,r1⟩ (fun hA hF=>?_)
    iterate 9
     refine wpAnyS_take (v:=?_) hA rfl (fun _ _ _ h=>h) (Or.inl ⟨by rfl,?_⟩) hF (fun hA=>?_)
     rotate_left
     ·intro wS hSw;(try dsimp only at hSw);obtain ⟨s1,s2⟩:=hSw;first | (apply Eq.trans;apply ex_ld_id;exact rfl;exact rfl;assumption;with_reducible rfl) | (go_simp;try with_reducible rfl)
     try simp only [sA1,sA2,sA3,Act.put,sA4,sA5,sA6]
    refine wpAnyS_end hA rfl ?_
    simp only [List.drop_succ_cons,List.drop_zero]
    clear hF keep r1 r2
    by_cases hxy:x = y
    ·have HE:=Lib.hid (HEQ.out hxy)
     have i3:(k:Int) ≤ (l.length:Int):=by omega
     have i4:(k:Int) ≤ (c:Int):=by omega
     have hRd:=hRw.fr0 hf.drew
     have hfd:Fr (oneB g) w wr.drew:=hf.drew.any
     go_upto_region 8 with fail
     go_wp2_with fail
     go_loopg [3,5] (l.length - k) (fun gk v iv wr=>Cp2 w g l k gk v iv wr)
     case atStart=>exact ⟨k,1,l,rfl,rfl,by omega,by omega,by omega,by omega,hRd,rfl,rfl,HE.out.symm,hfd⟩
     case round =>
      obtain ⟨kk,m,L,rfl,rfl,rfl,hm1,hmn,hkk,hRL,hLl,hLd,hLt,hfr⟩:=hrel
      have HLL:=Lib.hid hLl
      have HLD:=Lib.hid hLd
      have HLT:=Lib.hid hLt
      clear hLl hLd hLt
      by_cases hlt2:k + m < l.length
      ·have i5:(m:Int) < (l.length:Int) - (k:Int):=by omega
       have i5':(m:Int) < ((l.length - k:Nat):Int):=by omega
       have i6:(0:Int) ≤ (m:Int):=by omega
       have hL1:k + m < L.length:=by rw [HLL.out];exact hlt2
       have hL2:k + m - 1 < L.length:=by omega
       have hslL:=(hRL.fr0 ((Fr.refl noB wr).drew)).sl
       have ea:k * 32 + m * 32 = (k + m) * 32:=by omega
       have eb:k * 32 + (m - 1) * 32 = (k + m - 1) * 32:=by omega
       have r1:rdI wr.drew g (k * 32 + m * 32) = some L[k + m]:=by rw [ea];simpa using hslL.id (k + m) hL1
       have r2:rdI wr.drew g (k * 32 + (m - 1) * 32) = some L[k + m - 1]:=by rw [eb];simpa using hslL.id (k + m - 1) hL2
       have e1:L[k + m] = l[k + m]:=get_drop HLL.out HLD.out (by omega) hlt2
       have e2:L[k + m - 1] = l[k + m - 1]'(by omega):=get_drop HLL.out HLD.out (Nat.le_refl _) (by omega)
       rw [e1] at r1
       rw [e2] at r2
       have heq:l[k + m] = l[k + m - 1]'(by omega) → cptN l (k + m + 1) = cptN l (k + m):=fun h=>cptN_same hlt2 (by omega) h
       have hne:l[k + m] ≠ l[k + m - 1]'(by omega) → cptN l (k + m + 1) = cptN l (k + m) ++ [l[k + m]]:=fun h=>cptN_new hlt2 (.inr ⟨by omega,h⟩)
       generalize l[k + m - 1]'(by omega) = y2 at r2 heq hne e2
       generalize l[k + m] = x2 at r1 heq hne e1
       have HEQ2:=Lib.hid heq
       have HNE2:=Lib.hid hne
       generalize hqe:m - 1 = q2 at r2
       have mw2:IntKind.i64.wrap ((m:Int) - 1) = (q2:Int):=by rw [IntKind.wrap_i64];omega
       have j2:(0:Int) ≤ (q2:Int):=by omega
       have j3:(q2:Int) < (l.length:Int) - (k:Int):=by omega
       have j3':(q2:Int) < ((l.length - k:Nat):Int):=by omega
       clear heq hne e1 e2 ea eb hqe
       have keep2:∀ w' w'':World,Fr noB w' w'' → (rdI w' g (k * 32 + m * 32) = some x2 ∧ rdI w' g (k * 32 + q2 * 32) = some y2) → (rdI w'' g (k * 32 + m * 32) = some x2 ∧ rdI w'' g (k * 32 + q2 * 32) = some y2):=fun w' w'' f h =>
        ⟨rdI_fr h.1 (rdI_lt h.1) f (by simp [noB]),rdI_fr h.2 (rdI_lt h.2) f (by simp [noB])⟩
       go_wp2_with fail
       refine wp_region_M 9 10 [⟨34359738368,16,0⟩,⟨68719476736,32,0⟩,⟨137438953472,103079215104,3⟩,⟨274877906944,137438953472,4⟩,⟨549755813888,16,0⟩,⟨1099511627776,32,0⟩,⟨2199023255552,1099511627776,32⟩,⟨4398046511104,2748779069440,80⟩,⟨8796093022208,4398046511104,128⟩,⟨17592186044416,9070970929152,264⟩] [(true,0),(true,1),(true,2),(true,3),(true,4),(true,5),(true,6),(true,7),(true,8)] (fun w'=>rdI w' g (k * 32 + m * 32) = some x2 ∧ rdI w' g (k * 32 + q2 * 32) = some y2) (by kernel_rfl) rfl (by kernel_rfl) (by kernel_rfl) (by kernel_rfl) ⟨r1,r2⟩ (fun hA hF=>?_)
       iterate 9
        refine wpAnyS_take (v:=?_) hA rfl (fun _ _ _ h=>h) (Or.inl ⟨by rfl,?_⟩) hF (fun hA=>?_)
        rotate_left
        ·intro wS hSw;(try dsimp only at hSw);obtain ⟨s1,s2⟩:=hSw;first | (apply Eq.trans;apply ex_ld_id;exact rfl;exact rfl;assumption;with_reducible rfl) | (go_simp;try with_reducible rfl)
        try simp only [sA1,sA2,sA3,Act.put,sA4,sA5,sA6]
       refine wpAnyS_end hA rfl ?_
       simp only [List.drop_succ_cons,List.drop_zero]
       clear hF keep2 r2
       have hRLd:=hRL.fr0 ((Fr.refl noB wr).drew)
       have hfrd:Fr (oneB g) w wr.drew:=hfr.step0 ((Fr.refl noB wr).drew)
       by_cases hxy2:x2 = y2
       ·have HE2:=Lib.hid (HEQ2.out hxy2)
        go_wp2_with fail
        go_roundg (l.length + 1 - (k + (m + 1)))
        case measure=>omega
        case rel =>
         exact ⟨kk,m + 1,L,rfl,by simp,rfl,by omega,by omega,by omega,hRLd,HLL.out,by
          have h1:=HLD.out
          have h2:=congrArg (List.drop 1) h1
          rw [List.drop_drop,List.drop_drop] at h2
          rw [show k + (m + 1) - 1 = k + m - 1 + 1 by omega];exact h2,by rw [HLT.out,show k + (m + 1) = k + m + 1 by omega,HE2.out],hfrd⟩
       ·have HN2:=Lib.hid (HNE2.out hxy2)
        have hkn:kk < L.length:=by omega
        have hst:=hRLd.st kk hkn x2
        have hset:=hRLd.set kk [x2] (by simp;omega)
        have i7:(kk:Int) < (l.length:Int):=by have:=HLL.out;omega
        have i8:(0:Int) ≤ (kk:Int):=by omega
        go_wp2_with fail
        go_roundg (l.length + 1 - (k + (m + 1)))
        case measure=>omega
        case rel =>
         obtain ⟨s1,s2⟩:=hset
         have hLL:=HLL.out
         refine ⟨kk + 1,m + 1,L.take kk ++ [x2] ++ L.drop (kk + 1),by simp,by simp,rfl,by omega,by omega,by omega,s1,by simp;omega,?_,?_,hfrd.trans s2 (fun b _ h=>h)⟩
         ·have h1:=HLD.out
          have h2:=congrArg (List.drop 1) h1
          rw [List.drop_drop,List.drop_drop] at h2
          rw [show k + (m + 1) - 1 = k + m - 1 + 1 by omega,← h2]
          have hl3:(L.take kk ++ [x2]).length = kk + 1:=by simp;omega
          rw [List.drop_append,List.drop_eq_nil_of_le (by omega),List.nil_append,hl3,List.drop_drop]
          congr 1
          omega
         ·have hl3:(L.take kk ++ [x2]).length = kk + 1:=by simp;omega
          rw [List.take_left' hl3,HLT.out,show k + (m + 1) = k + m + 1 by omega,HN2.out]
      ·have hjn:k + m = l.length:=by omega
       have i5:¬ (m:Int) < (l.length:Int) - (k:Int):=by omega
       have i5':¬ (m:Int) < ((l.length - k:Nat):Int):=by omega
       have hLL:=HLL.out
       have hcl:=hRL.clear kk (l.length - kk) (c - kk) (by omega) (by omega)
       have hset:=hRL.set kk (List.replicate (l.length - kk) zID) (by simp;omega)
       have i7:(kk:Int) ≤ (l.length:Int):=by omega
       have i8:(0:Int) ≤ (kk:Int):=by omega
       have i9:(kk:Int) ≤ (c:Int):=by omega
       have HCP:=Lib.hid (show cpt l = L.take kk by unfold cpt;rw [HLT.out,hjn])
       have hck:(L.take kk).length = kk:=by simp;omega
       have HCK:=Lib.hid hck
       clear hck hLL hjn
       go_wp2_with fail
       go_ret
       unfold CpTo
       rw [HCP.out,HCK.out]
       obtain ⟨s1,s2⟩:=hset
       have s3:=s1.sl
       rw [idc_app,idc_app] at s3
       exact ⟨by first | rfl | simp,Sl.pre (Sl.pre s3),(hfr.trans s2 (fun b _ h=>h)).mono (fun b h=>by have:b = g:=h;simp [this])⟩
    ·have HN:=Lib.hid (HNE.out hxy)
     go_wp2_with fail
     go_roundg (l.length + 1 - (k + 1))
     case measure=>omega
     case rel=>exact ⟨k + 1,by simp,rfl,by omega,by omega,HN.out,hf.drew⟩
   ·have hkl:k = l.length:=by omega
    subst hkl
    have i2:¬ (l.length:Int) < (l.length:Int):=by omega
    have H:=Lib.hid (show cpt l = l by unfold cpt;rw [HC.out,List.take_length])
    go_wp2_with fail
    go_ret
    unfold CpTo
    rw [H.out]
    exact ⟨rfl,hsl.fr0 hf,hf.any⟩
end Go.Proofs.YtnkdnbjmhoegkaaGreat
namespace Go.Proofs.YtnkdnbjmhoegkaaGreat
open Go.RowKit Go.Maps
theorem cb_anti (a b:List UInt8):Lib.compareBytes a b = - Lib.compareBytes b a:=by
 induction a generalizing b with
 | nil=>cases b <;> simp [Lib.compareBytes]
 | cons x a ih=>cases b with
  | nil=>simp [Lib.compareBytes]
  | cons y b =>
   simp only [Lib.compareBytes]
   rcases Nat.lt_trichotomy x.toNat y.toNat with h | h | h
   ·have h1:x < y:=UInt8.lt_iff_toNat_lt.2 h
    have h2:¬ y < x:=fun h'=>by have:=UInt8.lt_iff_toNat_lt.1 h';omega
    simp [h1,h2]
   ·have h1:¬ x < y:=fun h'=>by have:=UInt8.lt_iff_toNat_lt.1 h';omega
    have h2:¬ y < x:=fun h'=>by have:=UInt8.lt_iff_toNat_lt.1 h';omega
    simp [h1,h2,ih b]
   ·have h1:¬ x < y:=fun h'=>by have:=UInt8.lt_iff_toNat_lt.1 h';omega
    have h2:y < x:=UInt8.lt_iff_toNat_lt.2 h
    simp [h1,h2]
theorem cb_eq (a b:List UInt8):Lib.compareBytes a b = 0 ↔ a = b:=by
 induction a generalizing b with
 | nil=>cases b <;> simp [Lib.compareBytes]
 | cons x a ih=>cases b with
  | nil=>simp [Lib.compareBytes]
  | cons y b =>
   simp only [Lib.compareBytes]
   rcases Nat.lt_trichotomy x.toNat y.toNat with h | h | h
   ·have h1:x < y:=UInt8.lt_iff_toNat_lt.2 h
    have h2:x ≠ y:=by rintro rfl;omega
    simp [h1,h2]
   ·have h1:¬ x < y:=fun h'=>by have:=UInt8.lt_iff_toNat_lt.1 h';omega
    have h2:¬ y < x:=fun h'=>by have:=UInt8.lt_iff_toNat_lt.1 h';omega
    have h3:x = y:=UInt8.toNat_inj.1 h
    simp [h1,h2,h3,ih b]
   ·have h1:¬ x < y:=fun h'=>by have:=UInt8.lt_iff_toNat_lt.1 h';omega
    have h2:y < x:=UInt8.lt_iff_toNat_lt.2 h
    have h3:x ≠ y:=by rintro rfl;omega
    simp [h1,h2,h3]
theorem cb_trans (a b c:List UInt8) (h:Lib.compareBytes a b < 0) (h':Lib.compareBytes b c < 0):Lib.compareBytes a c < 0:=by
 induction a generalizing b c with
 | nil=>cases c with
  | nil=>cases b <;> simp [Lib.compareBytes] at h'
  | cons z c=>simp [Lib.compareBytes]
 | cons x a ih=>cases b with
  | nil=>simp [Lib.compareBytes] at h
  | cons y b=>cases c with
   | nil=>simp [Lib.compareBytes] at h'
   | cons z c =>
    simp only [Lib.compareBytes] at h h' ⊢
    have lt_n:∀ u v:UInt8,u < v ↔ u.toNat < v.toNat:=fun u v=>UInt8.lt_iff_toNat_lt
    simp only [lt_n] at h h' ⊢
    by_cases h1:x.toNat < y.toNat
    ·by_cases h2:y.toNat < z.toNat
     ·rw [if_pos (by omega)];decide
     ·rw [if_neg h2] at h'
      by_cases h3:z.toNat < y.toNat
      ·rw [if_pos h3] at h';exact absurd h' (by decide)
      ·rw [if_pos (by omega)];decide
    ·rw [if_neg h1] at h
     by_cases h2:y.toNat < x.toNat
     ·rw [if_pos h2] at h;exact absurd h (by decide)
     ·rw [if_neg h2] at h
      by_cases h3:y.toNat < z.toNat
      ·rw [if_pos (by omega)];decide
      ·rw [if_neg h3] at h'
       by_cases h4:z.toNat < y.toNat
       ·rw [if_pos h4] at h';exact absurd h' (by decide)
       ·rw [if_neg h4] at h'
        rw [if_neg (by omega),if_neg (by omega)]
        exact ih b c h h'
theorem cmpI_eq (x y:ID):cmpI x y = 0 ↔ x = y:=by
 unfold cmpI
 rw [cb_eq]
 exact ⟨fun h=>Subtype.ext h,fun h=>congrArg Subtype.val h⟩
theorem cmpI_anti (x y:ID):cmpI x y = - cmpI y x:=cb_anti _ _
theorem cmpI_trans {x y z:ID} (h:cmpI x y < 0) (h':cmpI y z < 0):cmpI x z < 0:=cb_trans _ _ _ h h'
theorem cmpI_self (x:ID):cmpI x x = 0:=(cmpI_eq x x).2 rfl
end Go.Proofs.YtnkdnbjmhoegkaaGreat
