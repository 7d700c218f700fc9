/- Contracts: pollardref01 Known, Name; rows of bytes ([][]byte); pollardref09 Find. Rows of bytes ([][]byte); contracts: pollardref09 Find, Put. A law's box of objects; contracts of its put and get. -/
import Derived.Test.YtnkdnbjmhoegkaaGreatShaSKq
import Derived.Test.YtnkdnbjmhoegkaaGreatQFrKq
import Derived.Test.YtnkdnbjmhoegkaaGreatNumWKq
import Derived.Test.YtnkdnbjmhoegkaaGreatSnpPKq
import Derived.Test.YtnkdnbjmhoegkaaGreatGetTKq
set_option linter.unusedVariables false
set_option linter.unusedSimpArgs false
namespace Go.Proofs.YtnkdnbjmhoegkaaGreat
open Go.RowKit Go.Maps Go.Sort
def KnTo (w:World) (e:Ending) (w':World):Prop:=∃ A B c d,e = .returned (.agg (codTb.A ⟨A,8,c,B,64,d⟩)) ∧ Sl w' A (codU.row fstH) ∧ Sl w' B (codU.row rdsH) ∧ Fr noB w w'
set_option maxRecDepth 100000 in
set_option maxHeartbeats 4000000 in
theorem known_any (w:World):Calls Tryz.prog 39 #[] w (KnTo w):=by
 have k1:∀ (w:World) (o:Obj),(w.alloc o).heap.size = w.heap.size + 1:=fun w o=>by simp
 have S1:∀ o1 o3,Sl (((w.alloc o1).alloc (.cells (codU.row fstH).toArray 113)).alloc o3) (some ⟨w.heap.size + 1,0,none⟩) (codU.row fstH):=fun o1 o3=>by
  have h:=Sl.new (w.alloc o1) 113 (codU.row fstH)
  rw [k1] at h
  exact h.fr0 ((Fr.refl noB _).alloc _)
 have S2:∀ o1 o2,Sl (((w.alloc o1).alloc o2).alloc (.cells (codU.row rdsH).toArray 113)) (some ⟨w.heap.size + 1 + 1,0,none⟩) (codU.row rdsH):=fun o1 o2=>by
  have h:=Sl.new ((w.alloc o1).alloc o2) 113 (codU.row rdsH)
  rw [k1,k1] at h
  exact h
 have HS:=Lib.hid (And.intro S1 S2)
 clear S1 S2 k1
 go_enter Tryz.func39,Tryz.ntmps39
 go_wp2_with fail
 refine bodyPost_ret (results_cell_row rfl _ _ w.heap.size 95 #[.slice (some ⟨w.heap.size + 1,0,none⟩) 8 8,.slice (some ⟨w.heap.size + 1 + 1,0,none⟩) 64 64] (0,0) _ (by rfl) ?_ Tryz.underlying95 ?_ ?_) rfl ?_
 ·exact ((heap_alloc_old _ _ (by simp;omega)).trans (heap_alloc_old _ _ (by simp))).trans (heap_alloc_new _ _)
 ·rfl
 ·kernel_rfl
 ·exact ⟨_,_,8,64,by rw [Cod.A_eq];rfl,HS.out.1 _ _,HS.out.2 _ _,(((Fr.refl noB w).alloc _).alloc _).alloc _⟩
set_option maxRecDepth 100000 in
theorem r01name_any (w:World) (A:Option Addr) (c n:Nat) (b:List UInt8) (hn:b.length = n) (hs:Sl w A (bv b)) (hb:b.length ≤ 1000000000000):Calls Tryz.prog 21 #[.slice A n c] w (Gives w (encI (nameH b))):=by
 have fa:Fr noB w (w.alloc (aro zID)):=(Fr.refl noB w).alloc _
 have ba:bxA (w.alloc (aro zID)) w.heap.size = some zID:=bxA_new w zID
 have HPW:=Lib.hid (Nat.le_refl w.heap.size)
 have HB:=Lib.hid (And.intro hn hb)
 have HA:=Lib.hid (And.intro fa ba)
 have HS:=Lib.hid (hs.fr0 fa)
 clear fa ba hn hb hs
 go_enter Tryz.func21,Tryz.ntmps21
 go_upto_region 1 with fail
 generalize w.alloc (aro zID) = w1 at HA HS ⊢
 generalize hP:w.heap.size = P at HA HPW ⊢
 have HP:=Lib.hid hP
 clear hP
 go_wp2_with (first
  | (go_at_call 39;refine (known_any _).mono ?_;rintro e w2 ⟨tA,tB,tc,td,rfl,h1,h2,f2⟩;have HT:=Lib.hid (And.intro h1 h2);have HF:=Lib.hid (HA.out.1.step0 f2);have HBX:=Lib.hid (bxA_fr0 HA.out.2 f2);have HS2:=Lib.hid (HS.out.fr0 f2);clear h1 h2 f2)
  | (go_at_call 38;refine (sum_any _ _ rfl rfl HT.out.1 HT.out.2 A c n b HB.out.1 HS2.out HB.out.2).mono ?_;rintro e w3 ⟨rfl,f3⟩;have HF3:=Lib.hid (HF.out.step0 f3);have hbx:=bxA_fr0 HBX.out f3;clear f3;obtain ⟨res,hres⟩:∃ r,r = nameH b:=⟨_,rfl⟩;rw [← hres];have HRES:=Lib.hid hres;clear hres;obtain ⟨g1,g2,g3⟩:=putC_fr hbx res;have HG1:=Lib.hid g1;have HG3:=Lib.hid g3;clear g1 g2 g3))
 have hbx3:=bxA_at HG3.out
 simp only [aro,idA_eq] at hbx3
 refine bodyPost_ret (results_cell_row rfl _ _ P 33 _ _ _ (by rfl) hbx3 Tryz.underlying33 ?_ ?_) rfl ?_
 ·rfl
 ·rw [List.size_toArray,bv_length,res.2];exact infoArr
 refine ⟨by rw [← HRES.out];simp only [encI,idA_eq],HF3.out.step1 HG1.out (by rw [HP.out];exact Nat.le_refl _)⟩
structure SlW where
 A:Option Addr
 n:Nat
 c:Nat
def codB:Cod SlW:=⟨64,1,fun x=>[.slice x.A x.n x.c],⟨none,0,0⟩,fun _=>rfl,by decide,fun x u hu=>by
 rw [List.mem_singleton] at hu
 subst hu;rfl,fun x y h=>by
 obtain ⟨A,n,c⟩:=x;obtain ⟨A',n',c'⟩:=y
 simp only [List.cons.injEq,Value.slice.injEq,and_true] at h
 obtain ⟨rfl,h1,h2⟩:=h
 have e1:n = n':=by omega
 have e2:c = c':=by omega
 subst e1 e2;rfl⟩
theorem etB:ET Tryz.prog 30 codB.t codB.n 24:=ET.mk' (z:=.slice none 0 0) Tryz.underlying30 (by kernel_rfl) rfl (by decide) (by decide)
structure ByIn (w:World) (r:SlW) (x:List UInt8):Prop where
 len:x.length = r.n
 cap:r.n ≤ r.c
 sl:Sl w r.A (bv x)
 bd:x.length ≤ 1000000000000
theorem ByIn.fr0 {w w':World} {r:SlW} {x:List UInt8} (h:ByIn w r x) (f:Fr noB w w'):ByIn w' r x:=⟨h.len,h.cap,h.sl.fr0 f,h.bd⟩
structure BsIn (w:World) (rs:List SlW) (xs:List (List UInt8)):Prop where
 len:rs.length = xs.length
 at_:∀ i (h:i < rs.length) (h':i < xs.length),ByIn w rs[i] xs[i]
theorem BsIn.nil (w:World):BsIn w [] []:=⟨rfl,fun i h=>absurd h (by simp)⟩
theorem BsIn.fr0 {w w':World} {rs:List SlW} {xs:List (List UInt8)} (h:BsIn w rs xs) (f:Fr noB w w'):BsIn w' rs xs:=⟨h.len,fun i h1 h2=>(h.at_ i h1 h2).fr0 f⟩
theorem BsIn.snoc {w:World} {rs:List SlW} {xs:List (List UInt8)} (h:BsIn w rs xs) {r:SlW} {x:List UInt8} (k:ByIn w r x):BsIn w (rs ++ [r]) (xs ++ [x]):=by
 refine ⟨by simp [h.len],fun i h1 h2=>?_⟩
 rw [List.length_append,List.length_singleton] at h1 h2
 by_cases hi:i < rs.length
 ·rw [List.getElem_append_left hi,List.getElem_append_left (by rw [← h.len];exact hi)]
  exact h.at_ i hi _
 ·have e:i = rs.length:=by omega
  subst e
  rw [List.getElem_append_right (Nat.le_refl _),List.getElem_append_right (by rw [h.len];exact Nat.le_refl _)]
  simpa [h.len] using k
theorem BsIn.take {w:World} {rs:List SlW} {xs:List (List UInt8)} (h:BsIn w rs xs) (k:Nat):BsIn w (rs.take k) (xs.take k):=by
 refine ⟨by simp [h.len],fun i h1 h2=>?_⟩
 rw [List.getElem_take,List.getElem_take]
 exact h.at_ i _ _
theorem cellB {w:World} {A:Option Addr} {l:List SlW} (h:Sl w A (codB.row l)) (hl:0 < l.length):∃ g off,A = some ⟨g,off,none⟩ ∧ g < w.heap.size ∧ ∀ i (hi:i < l.length),w.cell? ⟨g,off + i,none⟩ = some (.slice l[i].A l[i].n l[i].c):=by
 obtain ⟨g,off,rfl,hg⟩:=Sl.addr h hl
 exact ⟨g,off,rfl,hg,fun i hi=>Sl.cell1 (C:=codB) rfl h i hi rfl⟩
/-! Find -/
def idxH (id:ID):List (List UInt8) → Int → Int
 | [],_=>-1
 | b :: l,k=>if nameH b = id then k else idxH id l (k + 1)
theorem idxH_drop {id:ID} {xs:List (List UInt8)} {k:Nat} (h:k < xs.length) (j:Int):idxH id (xs.drop k) j = if nameH xs[k] = id then j else idxH id (xs.drop (k + 1)) (j + 1):=by
 rw [List.drop_eq_getElem_cons h];rfl
def placeO (xs:List (List UInt8)) (id:ID):Int:=idxH id xs 0
theorem idxH_find (id:ID):∀ (l:List (List UInt8)) (k:Int),0 ≤ k → (findO nameH l id = none ∧ idxH id l k = -1) ∨ ∃ (i:Nat) (h:i < l.length),findO nameH l id = some l[i] ∧ idxH id l k = k + i
 | [],k,_=>.inl ⟨rfl,rfl⟩
 | b :: l,k,hk=>by
  by_cases he:nameH b = id
  ·exact .inr ⟨0,by simp,by simp [findO,he],by simp [idxH,he]⟩
  ·have e1:findO nameH (b :: l) id = findO nameH l id:=by simp [findO,he]
   have e2:idxH id (b :: l) k = idxH id l (k + 1):=by simp [idxH,he]
   rw [e1,e2]
   rcases idxH_find id l (k + 1) (by omega) with h | ⟨i,h,h1,h2⟩
   ·exact .inl h
   ·exact .inr ⟨i + 1,by simp;omega,by simpa using h1,by rw [h2];omega⟩
theorem placeO_find (xs:List (List UInt8)) (id:ID):(findO nameH xs id = none ∧ placeO xs id = -1) ∨ ∃ (i:Nat) (h:i < xs.length),findO nameH xs id = some xs[i] ∧ placeO xs id = (i:Int):=by
 rcases idxH_find id xs 0 (Int.le_refl 0) with h | ⟨i,h,h1,h2⟩
 ·exact .inl h
 ·exact .inr ⟨i,h,h1,by show idxH id xs 0 = _;rw [h2];omega⟩
set_option maxRecDepth 100000 in
set_option maxHeartbeats 1000000 in
theorem r09find_any (w:World) (A:Option Addr) (c n:Nat) (rs:List SlW) (xs:List (List UInt8)) (hn:rs.length = n) (hs:Sl w A (codB.row rs)) (hb:rs.length ≤ 140737488355328) (hX:BsIn w rs xs) (id:ID) :
  Calls Tryz.prog 28 #[.slice A n c,encI id] w (Gives w (.int .i64 (placeO xs id))):=by
 subst hn
 have HLX:=Lib.hid hX.len
 have f0:Fr noB w (w.alloc (aro id)):=(Fr.refl noB w).alloc _
 have q0:=bxA_rd (bxA_new w id)
 have hP:w.heap.size < (w.alloc (aro id)).heap.size:=by simp
 have HX:=Lib.hid (hX.fr0 f0)
 clear hX
 go_enter Tryz.func28,Tryz.ntmps28
 go_upto_region 1 with fail
 replace hs:=hs.fr0 f0
 generalize w.alloc (aro id) = W0 at f0 q0 hP hs HX ⊢
 generalize w.heap.size = P at q0 hP ⊢
 go_wp2_with fail
 go_loopg [5] rs.length (fun gk iv wr=>∃ k:Nat,iv = .int .i64 (k:Int) ∧ gk = rs.length - k ∧ k ≤ rs.length ∧ Fr noB W0 wr ∧ idxH id (xs.drop k) k = placeO xs id)
 case atStart=>exact ⟨0,rfl,rfl,by omega,Fr.refl _ _,rfl⟩
 case round =>
  obtain ⟨k,rfl,rfl,hk,hf,hno⟩:=hrel
  have HNO:=Lib.hid hno
  clear hno
  by_cases hlt:k < rs.length
  ·have i1:(k:Int) < (rs.length:Int):=by omega
   have i0:(0:Int) ≤ (k:Int):=by omega
   obtain ⟨g,off,rfl,hg,hc⟩:=cellB (hs.fr0 hf) (by omega)
   have hlx:k < xs.length:=by rw [← HLX.out];exact hlt
   have hin:=(HX.out.fr0 hf).at_ k hlt hlx
   have e1:=hc k hlt
   have q1:rdI wr P 0 = some id:=(hf.same.id _ 0 hP).trans q0
   have hPr:P < wr.heap.size:=Nat.lt_of_lt_of_le hP hf.size
   have HD:=Lib.hid (idxH_drop (id:=id) hlx (k:Int))
   generalize rs[k] = r at e1 hin
   generalize xs[k] = x at hin HD
   obtain ⟨rA,rn,rc⟩:=r
   obtain ⟨hl,hcap,hsl,hbd⟩:=hin
   simp only at hl hcap hsl e1
   have D1:∀ wS,Fr noB wr wS → Calls Tryz.prog 21 #[.slice rA rn rc] wS (Gives wS (encI (nameH x))):=fun wS f=>r01name_any wS rA rc rn x hl (hsl.fr0 f) hbd
   generalize nameH x = y at D1 HD
   clear hl hcap hsl hbd hc
   go_upto_region 4 with fail
   refine wp_region_fr (by kernel_rfl) (by kernel_rfl) ?_
   iterate 4
    refine wpQ_take (v:=?_) (by rfl) (fun wS hS=>?_) ?_
    rotate_left
    ·obtain ⟨L1,L2,L3,L4,L5,L6⟩:=Fr.same hS;go_simp;try with_reducible rfl
    try simp only [sA1,sA2,sA3,Act.put,sA4,sA5,sA6]
   refine wpQ_call (by rfl) (fun wS hS=>⟨_,_,?qh121,Calls.fr hS (D1 _ hS)⟩) ?qk121
   case qh121=>obtain ⟨L1,L2,L3,L4,L5,L6⟩:=Fr.same hS;go_simp;try with_reducible rfl
   try simp only [sA1,sA2,sA3,Act.put,sA4,sA5,sA6]
   iterate 2
    refine wpQ_take (v:=?_) (by rfl) (fun wS hS=>?_) ?_
    rotate_left
    ·obtain ⟨L1,L2,L3,L4,L5,L6⟩:=Fr.same hS;go_simp;try with_reducible rfl
    try simp only [sA1,sA2,sA3,Act.put,sA4,sA5,sA6]
   refine wpQ_nil ?_
   intro w1 f1
   by_cases he:y = id
   ·have e0:decide (y = id) = true:=by simp [he]
    rw [e0]
    go_wp2_with fail
    go_ret
    refine ⟨?_,f0.step0 (hf.step0 f1)⟩
    rw [← HNO.out,HD.out,if_pos he];rfl
   ·have e0:decide (y = id) = false:=by simp [he]
    rw [e0]
    go_wp2_with fail
    go_roundg (rs.length - (k + 1))
    case measure=>omega
    case rel=>exact ⟨k + 1,by simp,rfl,by omega,hf.step0 f1,by rw [← HNO.out,HD.out,if_neg he];rfl⟩
  ·have hkn:k = rs.length:=by omega
   subst hkn
   have i1:¬ (rs.length:Int) < (rs.length:Int):=by omega
   go_wp2_with fail
   go_ret
   refine ⟨?_,f0.step0 hf⟩
   rw [← HNO.out,List.drop_of_length_le (by rw [HLX.out];exact Nat.le_refl _)];rfl
/-! Put -/
def PuTo (w:World) (A:Option Addr) (n c:Nat) (rs:List SlW) (xs:List (List UInt8)) (r:SlW) (b:List UInt8) (e:Ending) (w':World):Prop :=
 Fr noB w w' ∧ ((b ∈ xs ∧ e = .returned (.slice A n c)) ∨ (b ∉ xs ∧ ∃ A' c' l,e = .returned (.slice A' l.length c') ∧ l = rs ++ [r] ∧ OwnC codB w w' A' c' l))
theorem putX_in {o:List (List UInt8)} {b:List UInt8} (h:b ∈ o):putX o b = o:=by unfold putX;rw [if_pos h]
theorem putX_out {o:List (List UInt8)} {b:List UInt8} (h:b ∉ o):putX o b = o ++ [b]:=by unfold putX;rw [if_neg h]
set_option maxRecDepth 100000 in
set_option maxHeartbeats 2000000 in
theorem r09put_any (w:World) (A:Option Addr) (c n:Nat) (rs:List SlW) (xs:List (List UInt8)) (hn:rs.length = n) (hs:Sl w A (codB.row rs)) (hb:rs.length ≤ 1000000000000) (hX:BsIn w rs xs) (B:Option Addr) (d m:Nat) (b:List UInt8) (hB:ByIn w ⟨B,m,d⟩ b) :
  Calls Tryz.prog 20 #[.slice A n c,.slice B m d] w (PuTo w A n c rs xs ⟨B,m,d⟩ b):=by
 subst hn
 obtain ⟨hm,hmc,hbs,hbd⟩:=hB
 simp only at hm hmc hbs
 have HLX:=Lib.hid hX.len
 have HX:=Lib.hid hX
 have HBY:=Lib.hid (show ByIn w ⟨B,m,d⟩ b from ⟨hm,hmc,hbs,hbd⟩)
 have HLN:=Lib.hid hb
 have HSA:=Lib.hid hs
 clear hX hbs hmc hb hs
 go_enter Tryz.func20,Tryz.ntmps20
 have fa:Fr noB w (w.alloc (.cells #[] 64)):=(Fr.refl noB w).alloc _
 have own0:OwnC codB w (w.alloc (.cells #[] 64)) (some ⟨w.heap.size,0,none⟩) 0 []:=World.ownsRow_lit (base:=w.heap.size) (e:=64) (size:=1) w #[] 0 (Nat.le_refl _) (by unfold maxLen;omega) (by simp)
 have H0:=Lib.hid (show ∃ (k:Nat) (A1:Option Addr) (c1:Nat) (l:List SlW),(Value.slice (some ⟨w.heap.size,0,none⟩) 0 0) = .slice A1 l.length c1 ∧ (Value.int .i64 ((0:Nat):Int)) = .int .i64 (k:Int) ∧ l = rs.take k ∧ rs.length = rs.length - k ∧ k ≤ rs.length ∧ OwnC codB w (w.alloc (.cells #[] 64)) A1 c1 l ∧ (∀ x ∈ xs.take k,x ≠ b) ∧ Fr noB w (w.alloc (.cells #[] 64)) from ⟨0,_,0,[],rfl,rfl,rfl,rfl,Nat.zero_le _,own0,by simp,fa⟩)
 clear fa own0
 go_wp2_with fail
 go_loopg [5,6] rs.length (fun gk ov kv wr=>∃ (k:Nat) (A1:Option Addr) (c1:Nat) (l:List SlW),ov = .slice A1 l.length c1 ∧ kv = .int .i64 (k:Int) ∧ l = rs.take k ∧ gk = rs.length - k ∧ k ≤ rs.length ∧ OwnC codB w wr A1 c1 l ∧ (∀ x ∈ xs.take k,x ≠ b) ∧ Fr noB w wr)
 case atStart=>exact H0.out
 case round =>
  clear H0
  obtain ⟨k,A1,c1,l,rfl,rfl,hl,rfl,hk,ho,hno,hf⟩:=hrel
  have HO:=Lib.hid ho
  have HF:=Lib.hid hf
  have HNO:=Lib.hid hno
  have HLL:=Lib.hid (show l.length ≤ rs.length by rw [hl,List.length_take];omega)
  have HLE:=Lib.hid hl
  clear ho hf hl hno
  by_cases hlt:k < rs.length
  ·have i1:(k:Int) < (rs.length:Int):=by omega
   have i0:(0:Int) ≤ (k:Int):=by omega
   obtain ⟨g,off,rfl,hg,hc⟩:=cellB (HSA.out.fr0 HF.out) (by omega)
   have hlx:k < xs.length:=by rw [← HLX.out];exact hlt
   have hin:=(HX.out.fr0 HF.out).at_ k hlt hlx
   have e1:=hc k hlt
   have HTK:=Lib.hid (show rs.take (k + 1) = rs.take k ++ [rs[k]] from List.take_succ_eq_append_getElem hlt)
   have HTX:=Lib.hid (show xs.take (k + 1) = xs.take k ++ [xs[k]] from List.take_succ_eq_append_getElem hlx)
   have HMEM:=Lib.hid (show xs[k] ∈ xs from List.getElem_mem hlx)
   have HKL:=Lib.hid hlt
   generalize rs[k] = r at e1 hin HTK
   generalize xs[k] = x at hin HTX HMEM
   obtain ⟨rA,rn,rc⟩:=r
   obtain ⟨hl,hcap,hsl,hbd2⟩:=hin
   simp only at hl hcap hsl e1
   have C1:∀ wS,Fr noB wr wS → Calls Tryz.prog 30 #[.slice rA rn rc,.slice B m d] wS (BoolTo wS (decide (x = b))):=fun wS f=>by
    have h:=same_any wS rA B rc d x b (hsl.fr0 f) ((HBY.out.sl.fr0 HF.out).fr0 f) (by omega) (by omega)
    rw [hl,hm] at h
    exact h
   have HR:=Lib.hid (And.intro hl hcap)
   have fc:∀ w',Fr noB wr w' → w'.cell? ⟨g,off + k,none⟩ = some (.slice rA rn rc):=fun w' f=>cell_fr0 e1 f
   clear hl hcap hsl hbd2 hc hlt hk hlx
   go_upto_if 19 with (go_at_call 30;refine (C1 _ (Fr.refl _ _)).mono ?_;rintro e w2 ⟨rfl,f2⟩)
   have e2:=fc _ f2
   have HF2:=Lib.hid (HF.out.step0 f2)
   have HO2:=Lib.hid (own_new0 HO.out f2)
   clear fc e1 C1 f2
   by_cases he:x = b
   ·have e0:decide (x = b) = true:=by simp [he]
    rw [e0]
    go_wp2_with fail
    go_ret
    exact ⟨HF2.out,.inl ⟨by rw [← he];exact HMEM.out,rfl⟩⟩
   ·have e0:decide (x = b) = false:=by simp [he]
    rw [e0]
    have HE:=Lib.hid he
    have hst:Sl (w2.alloc (.cells #[.slice rA rn rc] 64)) (some ⟨w2.heap.size,0,none⟩) (codB.row [⟨rA,rn,rc⟩]):=Sl.new w2 64 [.slice rA rn rc]
    have fn:Fr noB w2 (w2.alloc (.cells #[.slice rA rn rc] 64)):=(Fr.refl noB w2).alloc _
    have hox:=Lib.hid (own_new0 HO2.out fn)
    have sz:=(HF2.out.step0 fn).size
    have FX:=Lib.hid (HF2.out.step0 fn)
    clear fn he e0
    go_wp2_with (at_builtin;refine wpList_appC' etB w _ rfl _ _ rfl A1 l.length c1 l rfl rfl hox.out (some ⟨w2.heap.size,0,none⟩) 1 1 [⟨rA,rn,rc⟩] rfl hst rfl (by have:=HLL.out;have:=HLN.out;simp;omega) sz ?_;intro A8 c8 w8 hc8 hmx8 ho8 hg8 hA8;obtain ⟨l8,hl8⟩:∃ t,t = l ++ [⟨rA,rn,rc⟩]:=⟨_,rfl⟩;rw [← hl8] at ho8 ⊢;have HL8:=Lib.hid hl8;clear hl8 hc8 hmx8 hA8)
    have F8:=Fr.own' FX.out hox.out hg8
    have wk:wrap64 ((k:Int) + 1) = (k:Int) + 1:=IntWalk.wrap64_in _ (by have:=HKL.out;have:=HLN.out;omega)
    go_roundg (rs.length - (k + 1))
    case measure=>have:=HKL.out;omega
    case rel=>exact ⟨k + 1,A8,c8,l8,rfl,by first | exact congrArg (Value.int .i64) wk | simp,by rw [HL8.out,HLE.out,HTK.out],rfl,by have:=HKL.out;omega,ho8,by
     rw [HTX.out]
     intro y hy
     rcases List.mem_append.1 hy with hy | hy
     ·exact HNO.out y hy
     ·rw [List.mem_singleton] at hy;subst hy;exact HE.out,F8⟩
  ·have i1:¬ (k:Int) < (rs.length:Int):=by omega
   have hlf:l = rs:=by rw [HLE.out,List.take_of_length_le (by omega)]
   have HOUT:=Lib.hid (show b ∉ xs from fun h=>by
    have h2:=HNO.out b (by rw [List.take_of_length_le (by rw [← HLX.out];omega)];exact h)
    exact h2 rfl)
   have hst:Sl (wr.alloc (.cells #[.slice B m d] 64)) (some ⟨wr.heap.size,0,none⟩) (codB.row [⟨B,m,d⟩]):=Sl.new wr 64 [.slice B m d]
   have fn:Fr noB wr (wr.alloc (.cells #[.slice B m d] 64)):=(Fr.refl noB wr).alloc _
   have hox:=Lib.hid (own_new0 HO.out fn)
   have sz:=(HF.out.step0 fn).size
   have FX:=Lib.hid (HF.out.step0 fn)
   have HLF:=Lib.hid hlf
   clear fn hlt hk hlf
   go_wp2_with (at_builtin;refine wpList_appC' etB w _ rfl _ _ rfl A1 l.length c1 l rfl rfl hox.out (some ⟨wr.heap.size,0,none⟩) 1 1 [⟨B,m,d⟩] rfl hst rfl (by have:=HLL.out;have:=HLN.out;simp;omega) sz ?_;intro A8 c8 w8 hc8 hmx8 ho8 hg8 hA8;obtain ⟨l8,hl8⟩:∃ t,t = l ++ [⟨B,m,d⟩]:=⟨_,rfl⟩;rw [← hl8] at ho8 ⊢;have HL8:=Lib.hid hl8;clear hl8 hc8 hmx8 hA8)
   have F8:=Fr.own' FX.out hox.out hg8
   go_ret
   exact ⟨F8,.inr ⟨HOUT.out,A8,c8,l8,rfl,by rw [HL8.out,HLF.out],ho8⟩⟩
structure BxR (w:World) (Z:Nat → Prop) (A:Option Addr) (rs:List SlW) (xs:List (List UInt8)):Prop where
 sl:Sl w A (codB.row rs)
 off:rs ≠ [] → Off A (fun b=>¬ Z b)
 bs:BsIn w rs xs
 boff:∀ i (h:i < rs.length) (h':i < xs.length),xs[i] ≠ [] → Off rs[i].A (fun b=>¬ Z b)
theorem ByIn.off {w w':World} {M:Nat → Prop} {r:SlW} {x:List UInt8} (h:ByIn w r x) (hx:x ≠ [] → Off r.A (fun b=>¬ M b)) (f:Fr M w w'):ByIn w' r x:=by
 refine ⟨h.len,h.cap,?_,h.bd⟩
 by_cases h0:x = []
 ·rw [h0];exact Sl.nil _ _
 ·exact h.sl.fr f (hx h0)
theorem BxR.fr {w w':World} {Z M:Nat → Prop} {A:Option Addr} {rs:List SlW} {xs:List (List UInt8)} (h:BxR w Z A rs xs) (f:Fr M w w') (hM:∀ b,M b → Z b):BxR w' Z A rs xs:=by
 refine ⟨?_,h.off,⟨h.bs.len,fun i h1 h2=>(h.bs.at_ i h1 h2).off (fun hne=>(h.boff i h1 h2 hne).mono fun b hb hm=>hb (hM b hm)) f⟩,h.boff⟩
 by_cases h0:rs = []
 ·rw [h0];exact Sl.nil _ _
 ·exact h.sl.fr f ((h.off h0).mono fun b hb hm=>hb (hM b hm))
theorem BxR.fr0 {w w':World} {Z:Nat → Prop} {A:Option Addr} {rs:List SlW} {xs:List (List UInt8)} (h:BxR w Z A rs xs) (f:Fr noB w w'):BxR w' Z A rs xs:=h.fr f (fun b hb=>absurd hb (by simp [noB]))
theorem BxR.sub {w:World} {Z Z':Nat → Prop} {A:Option Addr} {rs:List SlW} {xs:List (List UInt8)} (h:BxR w Z A rs xs) (hz:∀ b,Z' b → Z b):BxR w Z' A rs xs :=
 ⟨h.sl,fun hne=>(h.off hne).mono fun b hb k=>hb (hz b k),h.bs,fun i h1 h2 hne=>(h.boff i h1 h2 hne).mono fun b hb k=>hb (hz b k)⟩
theorem Sl.offNew {w:World} {A:Option Addr} {l:List Value} (h:Sl w A l) (hl:l ≠ []):Off A (fun b=>b < w.heap.size):=fun a ha=>by
 obtain ⟨g,off,e,hg,_⟩:=h hl
 rw [e] at ha;injection ha with ha;rw [← ha];exact hg
theorem BxR.more {w:World} {Z:Nat → Prop} {A:Option Addr} {rs:List SlW} {xs:List (List UInt8)} (h:BxR w Z A rs xs):BxR w (fun b=>Z b ∨ w.heap.size ≤ b) A rs xs :=
 ⟨h.sl,fun hne a ha k=>k.elim (h.off hne a ha) (fun k=>by have:=h.sl.offNew (Cod.row_ne hne) a ha;omega),h.bs,fun i h1 h2 hne a ha k=>k.elim (h.boff i h1 h2 hne a ha) (fun k=>by have:=(h.bs.at_ i h1 h2).sl.offNew (bv_ne hne) a ha;omega)⟩
def BoxIn (w:World) (X:Nat) (Z:Nat → Prop) (xs:List (List UInt8)):Prop:=∃ A c rs,Blk w X 32 [.slice A rs.length c] ∧ BxR w (fun b=>b = X ∨ Z b) A rs xs
theorem BoxIn.fr {w w':World} {X:Nat} {Z M:Nat → Prop} {xs:List (List UInt8)} (h:BoxIn w X Z xs) (f:Fr M w w') (hX:¬ M X) (hM:∀ b,M b → Z b):BoxIn w' X Z xs:=by
 obtain ⟨A,c,rs,h1,h2⟩:=h
 exact ⟨A,c,rs,h1.fr f hX,h2.fr f fun b hb=>.inr (hM b hb)⟩
theorem BoxIn.fr0 {w w':World} {X:Nat} {Z:Nat → Prop} {xs:List (List UInt8)} (h:BoxIn w X Z xs) (f:Fr noB w w'):BoxIn w' X Z xs:=h.fr f (by simp [noB]) (fun b hb=>absurd hb (by simp [noB]))
theorem BoxIn.sub {w:World} {X:Nat} {Z Z':Nat → Prop} {xs:List (List UInt8)} (h:BoxIn w X Z xs) (hz:∀ b,Z' b → Z b):BoxIn w X Z' xs:=by
 obtain ⟨A,c,rs,h1,h2⟩:=h
 exact ⟨A,c,rs,h1,h2.sub fun b hb=>hb.imp id (hz b)⟩
theorem BoxIn.more {w:World} {X:Nat} {Z:Nat → Prop} {xs:List (List UInt8)} (h:BoxIn w X Z xs):BoxIn w X (fun b=>Z b ∨ w.heap.size ≤ b) xs:=by
 obtain ⟨A,c,rs,h1,h2⟩:=h
 exact ⟨A,c,rs,h1,h2.more.sub fun b hb=>or_assoc.2 hb⟩
theorem BoxIn.lt {w:World} {X:Nat} {Z:Nat → Prop} {xs:List (List UInt8)} (h:BoxIn w X Z xs):X < w.heap.size:=by
 obtain ⟨A,c,rs,h1,_⟩:=h
 exact h1.lt
theorem one_sl (v:Value) (hv:∀ n,v ≠ .int .u8 n):∀ (j:Nat) (n:Int),[v][j]? ≠ some (.int .u8 n):=fun j n h=>by
 cases j with
 | zero=>simp at h;exact hv n h
 | succ j=>simp at h
theorem BoxIn.new (w:World) (Z:Nat → Prop):BoxIn (w.alloc (.cells #[.slice none 0 0] 32)) w.heap.size Z []:=⟨none,0,[],Blk.new w _ _,Sl.nil _ _,fun h=>absurd rfl h,BsIn.nil _,fun i h=>absurd h (by simp)⟩
theorem PuTo.all {w w':World} {A:Option Addr} {n c:Nat} {rs:List SlW} {xs:List (List UInt8)} {r:SlW} {b:List UInt8} {e:Ending} (h:PuTo w A n c rs xs r b e w') {Z:Nat → Prop} (hZ:∀ g,Z g → g < w.heap.size) (hn:rs.length = n) (hs:BxR w Z A rs xs) (hr:ByIn w r b) (hro:b ≠ [] → Off r.A (fun b=>¬ Z b)) :
  Fr noB w w' ∧ ∃ A' c' l,e = .returned (.slice A' l.length c') ∧ BxR w' Z A' l (putX xs b):=by
 obtain ⟨f,⟨h1,h2⟩ | ⟨h1,A',c',l,h2,rfl,h4⟩⟩:=h
 ·exact ⟨f,A,c,rs,by rw [hn];exact h2,by rw [putX_in h1];exact hs.fr0 f⟩
 ·refine ⟨f,A',c',_,h2,Sl.own h4,fun _=>(Off.own h4).mono fun b hb k=>?_,?_,?_⟩
  ·have:=hZ b k;omega
  ·rw [putX_out h1]
   exact (hs.bs.fr0 f).snoc (hr.fr0 f)
  ·rw [putX_out h1]
   intro i h1 h2 hne
   rw [List.length_append,List.length_singleton] at h1 h2
   by_cases hi:i < rs.length
   ·have hi':i < xs.length:=by rw [← hs.bs.len];exact hi
    rw [List.getElem_append_left hi'] at hne
    rw [List.getElem_append_left hi]
    exact hs.boff i hi hi' hne
   ·have hi2:i = rs.length:=by omega
    subst hi2
    rw [List.getElem_append_right (by rw [hs.bs.len];exact Nat.le_refl _)] at hne
    rw [List.getElem_append_right (Nat.le_refl _)]
    simp only [List.getElem_singleton,Nat.sub_self] at hne ⊢
    exact hro hne
theorem ret_id_tmp {fn:Func} {p u:Tmp} (h:fn.results = #[.cell p 34,.tmp u]) (tmps:Array Value) (w:World) (R:Nat) (x:ID) (hp:tmps.getD p undef = .pointer (some ⟨R,0,none⟩)) (hb:bxI w R = some x):(results fn tmps).run Tryz.prog w = .ok (.tuple #[encI x,tmps.getD u undef]) w:=by
 have hh:=bxI_at hb
 simp only [ido,idA_eq] at hh
 have hl:=run_loadVar_mid (P:=Tryz.prog) w R 0 34 (bv x.1) _ (fun j v hv=>by rw [Nat.zero_add,cell_of_row _ _ j (bv x.1).toArray 34 (0,0) hh];simpa using hv) Tryz.underlying34 rfl (by rw [bv_length,x.2];exact infoID)
 rw [results_cell_tmp h,hp]
 simp only [asAddr,Sem.run_pure,Result.andThen_ok,hl,encI,idA_eq]
theorem ex_bsY0_at {ρ:Operand → Value} {o:Oper} {w:World} (ho:o.op = .buildSlice 64 0 #[]) :
  (execOp ρ o).run Tryz.prog w = .ok (.value (.slice (some ⟨w.heap.size,0,none⟩) 0 0)) (w.alloc (.cells #[] 5)):=by
 obtain ⟨d,op,t,p,f,g⟩:=o
 simp only at ho
 subst ho
 unfold execOp
 simp only [List.map_toArray,List.map_nil]
 go_simp
def PxTo (w:World) (X:Nat) (Z:Nat → Prop) (xs:List (List UInt8)) (b:List UInt8) (e:Ending) (w':World):Prop:=e = .returned (.tuple #[encI (nameH b),.int .i64 0]) ∧ BoxIn w' X Z (putX xs b) ∧ Fr (oneB X) w w'
set_option maxRecDepth 100000 in
set_option maxHeartbeats 1000000 in
theorem bxput_any (w:World) (X:Nat) (Z:Nat → Prop) (hZ:∀ g,Z g → g < w.heap.size) (xs:List (List UInt8)) (hX:BoxIn w X Z xs) (hlen:xs.length ≤ 1000000000) (A:Option Addr) (n c:Nat) (b:List UInt8) (hb:ByIn w ⟨A,n,c⟩ b):Calls Tryz.prog 8 #[.pointer (some ⟨X,0,none⟩),.slice A n c] w (PxTo w X Z xs b):=by
 have hXl:=hX.lt
 obtain ⟨A0,c0,rs,hk,hR0⟩:=hX
 have HLN:=Lib.hid (show rs.length ≤ 1000000000000 by rw [hR0.bs.len];omega)
 have f0:Fr noB w (w.alloc (ido zID)):=(Fr.refl noB w).alloc _
 have b0:bxI (w.alloc (ido zID)) w.heap.size = some zID:=bxI_new w zID
 have HP0:=Lib.hid (And.intro f0 b0)
 have HX0:=Lib.hid (And.intro (hk.fr f0 (by simp [noB])) ((hR0.more.fr0 f0).sub (Z':=fun g=>(g = X ∨ Z g) ∨ g = w.heap.size) fun g hg=>hg.elim .inl (fun e=>.inr (by omega))))
 have HZ:=Lib.hid hZ
 have HBY:=Lib.hid (hb.fr0 f0)
 have HBO:=Lib.hid (show b ≠ [] → Off A (fun g=>g ≠ w.heap.size) from fun hne=>(hb.sl.offNew (bv_ne hne)).mono fun g hg=>by omega)
 have HXR:=Lib.hid (show X < w.heap.size from hXl)
 have HS1:=Lib.hid (show w.heap.size < (w.alloc (ido zID)).heap.size by simp)
 clear hk hR0 hb f0 b0 hlen hXl hZ
 go_enter Tryz.func8,Tryz.ntmps8
 go_upto_region 1 with fail
 generalize w.alloc (ido zID) = w1 at HP0 HX0 HBY HS1 ⊢
 generalize hR:w.heap.size = R at HP0 HXR HX0 HBO HS1 HZ ⊢
 have HR:=Lib.hid hR
 clear hR
 have fd:Fr noB w1 w1.drew:=(Fr.refl noB w1).drew
 have hF0:w1.drew.cell? ⟨X,0,none⟩ = some (.slice A0 rs.length c0):=by have:=HX0.out.1;rw [(this.fr fd (by simp [noB])).cell];rfl
 have HF:=Lib.hid fd
 have keep:∀ w' w'':World,Fr noB w' w'' → w'.cell? ⟨X,0,none⟩ = some (.slice A0 rs.length c0) → w''.cell? ⟨X,0,none⟩ = some (.slice A0 rs.length c0):=fun w' w'' f h=>cell_fr0 h f
 clear fd
 refine wp_region_M 11 12 [⟨64,1,0⟩,⟨128,1,0⟩,⟨256,128,2⟩,⟨512,256,4⟩,⟨1024,512,8⟩,⟨2048,0,0⟩,⟨4096,2,0⟩,⟨8192,6144,96⟩,⟨16384,9216,144⟩,⟨32768,64,511⟩,⟨65536,32768,1023⟩,⟨0,81920,1535⟩] [(true,0),(true,1),(true,2),(true,3),(true,4),(true,6),(false,5),(false,7),(false,8),(true,9),(true,10)] (fun w'=>w'.cell? ⟨X,0,none⟩ = some (.slice A0 rs.length c0)) (by kernel_rfl) rfl (by kernel_rfl) (by kernel_rfl) (by kernel_rfl) hF0 (fun hA hF=>?_)
 clear hF0
 generalize w1.drew = wd at hF HF ⊢
 iterate 6
  refine wpAnyS_take (v:=?_) hA rfl (fun _ _ _ h=>h) (Or.inl ⟨by rfl,?_⟩) hF (fun hA=>?_)
  rotate_left
  ·intro wS hSw;(try dsimp only at hSw);obtain s1:=hSw;(go_simp;try with_reducible rfl)
  try simp only [sA1,sA2,sA3,Act.put,sA4,sA5,sA6]
 refine wpAnyS_one hA rfl (fun K' hK=>?_)
 refine step_runI rfl _ _ (ex_bsY0_at rfl) ?_
 have fn:Fr noB wd (wd.alloc (.cells #[] 5)):=(Fr.refl noB wd).alloc _
 have own0:OwnC codY wd (wd.alloc (.cells #[] 5)) (some ⟨wd.heap.size,0,none⟩) 0 []:=World.ownsRow_lit (base:=wd.heap.size) (e:=5) (size:=1) wd #[] 0 (Nat.le_refl _) (by unfold maxLen;omega) (by simp)
 have hsb:Sl (wd.alloc (.cells #[] 5)) A (codY.row b):=by rw [row_Y];exact (HBY.out.sl.fr0 HF.out).fr0 fn
 have hsz:=fn.size
 have HFN:=Lib.hid fn
 replace hF:=keep _ _ fn hF
 refine hK.out _ _ hF (fun hA=>?_)
 clear hK K'
 as_aux_lemma =>
 refine wpAnyS_one hA rfl (fun K' hK=>?_)
 refine step_appC' etY wd _ rfl _ _ rfl (some ⟨wd.heap.size,0,none⟩) 0 0 [] rfl rfl own0 A n c b rfl hsb HBY.out.len (by have:=HBY.out.bd;simp;omega) hsz ?_
 intro A8 c8 w8 hc8 hmx8 ho8 hg8 hA8
 rw [List.nil_append] at ho8 hc8 ⊢
 have F8:=Fr.own' HFN.out own0 hg8
 have HF8:=Lib.hid (HF.out.step0 F8)
 have HO8:=Lib.hid (show Off A8 (fun g=>w1.heap.size ≤ g) from (Off.own ho8).mono fun g hg=>Nat.le_trans HF.out.size hg.1)
 have HB8:=Lib.hid (show ByIn w8 ⟨A8,b.length,c8⟩ b from ⟨rfl,hc8,by have:=Sl.own ho8;rw [row_Y] at this;exact this,HBY.out.bd⟩)
 have hbc:w8.cell? ⟨X,0,none⟩ = some (.slice A0 rs.length c0):=cell_fr0 (by have:=HX0.out.1;rw [this.cell];rfl) HF8.out
 clear hsb own0 fn hsz hc8 hmx8 ho8 hg8 hA8 F8
 replace hF:=hbc
 refine hK.out _ _ hF (fun hA=>?_)
 clear hK K'
 as_aux_lemma =>
 clear hbc
 refine wpAnyS_one hA rfl (fun K' hK=>?_)
 go_simp
 go_at_call 20
 refine (r09put_any w8 A0 c0 rs.length rs xs rfl (HX0.out.2.sl.fr0 HF8.out) HLN.out (HX0.out.2.bs.fr0 HF8.out) A8 c8 b.length b HB8.out).mono ?_
 intro e w9 hpu
 obtain ⟨f9,A9,c9,l9,rfl,hR9⟩:=hpu.all (Z:=fun g=>(g = X ∨ Z g) ∨ g = R) (fun g hg=>by
  have h1:=HXR.out;have h2:=HF8.out.size;have h3:=HS1.out
  rcases hg with (rfl | hg) | rfl
  ·omega
  ·have:=HZ.out g hg;omega
  ·omega) rfl (HX0.out.2.fr0 HF8.out) HB8.out (fun _=>HO8.out.mono fun g hg k=>by
  have h1:=HXR.out;have h3:=HS1.out
  rcases k with (rfl | k) | rfl
  ·omega
  ·have:=HZ.out g k;omega
  ·omega)
 have HF9:=Lib.hid (HF8.out.step0 f9)
 have HN9:=Lib.hid hR9
 clear hpu hR9
 replace hF:=keep _ _ f9 hF
 refine hK.out _ _ hF (fun hA=>?_)
 clear hK K'
 as_aux_lemma =>
 clear f9
 iterate 2
  refine wpAnyS_take (v:=?_) hA rfl (fun _ _ _ h=>h) (Or.inl ⟨by rfl,?_⟩) hF (fun hA=>?_)
  rotate_left
  ·intro wS hSw;(try dsimp only at hSw);obtain s1:=hSw;(go_simp;try with_reducible rfl)
  try simp only [sA1,sA2,sA3,Act.put,sA4,sA5,sA6]
 refine wpAnyS_end hA rfl ?_
 simp only [List.drop_succ_cons,List.drop_zero]
 clear hF keep
 have hk9:Blk w9 X 32 [.slice A0 rs.length c0]:=HX0.out.1.fr HF9.out (by simp [noB])
 have k1:w9.cell? ⟨X,0,none⟩ = some (.slice A0 rs.length c0):=by rw [hk9.cell];rfl
 have k2:=hk9.frozen 0
 have hset:Blk (w9.setCell ⟨X,0,none⟩ (.slice A9 l9.length c9)) X 32 [.slice A9 l9.length c9]:=hk9.set 0 _
 have fX:Fr (oneB X) w9 (w9.setCell ⟨X,0,none⟩ (.slice A9 l9.length c9)):=Fr.setCell (M:=oneB X) (Fr.refl _ w9) (p:=⟨X,0,none⟩) (fun _=>rfl) _
 have HBX:=Lib.hid (And.intro hset (HN9.out.fr fX (fun g hg=>.inl (.inl hg))))
 have HFX:=Lib.hid fX
 have HBY9:=Lib.hid (show ByIn (w9.setCell ⟨X,0,none⟩ (.slice A9 l9.length c9)) ⟨A,n,c⟩ b from ⟨HBY.out.len,HBY.out.cap,(HBY.out.sl.fr0 HF9.out).frB hk9 (one_sl _ (by intro n h;cases h)) fX,HBY.out.bd⟩)
 have HR9:=Lib.hid (bxI_fr (bxI_fr HP0.out.2 HF9.out (by simp [noB])) fX (by have:=HXR.out;show ¬ R = X;omega))
 clear hk9 hset fX
 go_upto_region 2 with fail
 generalize w9.setCell ⟨X,0,none⟩ (.slice A9 l9.length c9) = ws at HBX HFX HBY9 HR9 ⊢
 clear k1 k2
 go_wp2_with (go_at_call 21;refine (r01name_any ws A c n b HBY9.out.len HBY9.out.sl HBY9.out.bd).mono ?_;rintro e w2 ⟨rfl,f2⟩;have HF2:=Lib.hid f2;have hbx:=bxI_fr HR9.out f2 (by simp [noB]);clear f2;obtain ⟨res,hres⟩:∃ r,r = nameH b:=⟨_,rfl⟩;rw [← hres];have HRES:=Lib.hid hres;clear hres;obtain ⟨g1,g2,g3⟩:=putB_fr hbx res;have HG1:=Lib.hid g1;have HG3:=Lib.hid g3;clear g1 g2 g3)
 refine bodyPost_ret (ret_id_tmp rfl _ _ R res (by rfl) HG3.out) rfl ?_
 refine ⟨by rw [← HRES.out];rfl,⟨A9,c9,l9,?_,?_⟩,?_⟩
 ·exact (HBX.out.1.fr HF2.out (by simp [noB])).fr HG1.out (by have:=HXR.out;show ¬ X = R;omega)
 ·exact ((HBX.out.2.fr0 HF2.out).fr HG1.out (fun g hg=>.inr hg)).sub fun g hg=>.inl hg
 ·have h1:=HP0.out.1.step0 HF9.out
  have h2:Fr (oneB X) w _:=(h1.any (M:=oneB X)).trans HFX.out (fun b _ h=>h)
  exact (h2.step0 HF2.out).step1 HG1.out (by have:=HR.out;omega)
def GtTo (w:World) (xs:List (List UInt8)) (id:ID) (e:Ending) (w':World):Prop :=
 Fr noB w w' ∧ match findO nameH xs id with
  | none=>e = .returned (.tuple #[.slice none 0 0,.int .i64 4])
  | some b=>∃ A n c,e = .returned (.tuple #[.slice A n c,.int .i64 0]) ∧ ByIn w' ⟨A,n,c⟩ b
set_option maxRecDepth 100000 in
set_option maxHeartbeats 1000000 in
theorem bxget_any (w:World) (X:Nat) (Z:Nat → Prop) (xs:List (List UInt8)) (hX:BoxIn w X Z xs) (hlen:xs.length ≤ 1000000000) (id:ID):Calls Tryz.prog 10 #[.pointer (some ⟨X,0,none⟩),encI id] w (GtTo w xs id):=by
 have hXl:=hX.lt
 obtain ⟨A0,c0,rs,hk,hR0⟩:=hX
 have HLN:=Lib.hid (show rs.length ≤ 140737488355328 by rw [hR0.bs.len];omega)
 have f0:Fr noB w (w.alloc (ido id)):=(Fr.refl noB w).alloc _
 have b0:=bxI_rd (bxI_new w id)
 have HX0:=Lib.hid (hR0.fr0 f0)
 have k0:(w.alloc (ido id)).cell? ⟨X,0,none⟩ = some (.slice A0 rs.length c0):=by rw [(hk.fr f0 (by simp [noB])).cell];rfl
 have hP:w.heap.size < (w.alloc (ido id)).heap.size:=by simp
 have hXl:X < (w.alloc (ido id)).heap.size:=by simp;omega
 have HF0:=Lib.hid f0
 clear hk hR0 hlen f0
 go_enter Tryz.func10,Tryz.ntmps10
 go_upto_region 1 with fail
 generalize w.alloc (ido id) = w1 at HX0 b0 k0 hP hXl HF0 ⊢
 generalize w.heap.size = P at b0 hP ⊢
 have D1:∀ wS,Fr noB w1 wS → Calls Tryz.prog 28 #[.slice A0 rs.length c0,encI id] wS (Gives wS (.int .i64 (placeO xs id))):=fun wS f=>r09find_any wS A0 c0 rs.length rs xs rfl (HX0.out.sl.fr0 f) HLN.out (HX0.out.bs.fr0 f) id
 rcases placeO_find xs id with ⟨h1,h2⟩ | ⟨i,hi,h1,h2⟩
 ·rw [h2] at D1
  have HN:=Lib.hid h1
  clear h1 h2
  refine wp_region_fr (by kernel_rfl) (by kernel_rfl) ?_
  iterate 5
   refine wpQ_take (v:=?_) (by rfl) (fun wS hS=>?_) ?_
   rotate_left
   ·obtain ⟨L1,L2,L3,L4,L5,L6⟩:=Fr.same hS;go_simp;try with_reducible rfl
   try simp only [sA1,sA2,sA3,Act.put,sA4,sA5,sA6]
  refine wpQ_call (by rfl) (fun wS hS=>⟨_,_,?qh238,Calls.fr hS (D1 _ hS)⟩) ?qk238
  case qh238=>obtain ⟨L1,L2,L3,L4,L5,L6⟩:=Fr.same hS;go_simp;try with_reducible rfl
  try simp only [sA1,sA2,sA3,Act.put,sA4,sA5,sA6]
  refine wpQ_take (v:=?_) (by rfl) (fun wS hS=>?_) ?_
  rotate_left
  ·obtain ⟨L1,L2,L3,L4,L5,L6⟩:=Fr.same hS;go_simp;try with_reducible rfl
  try simp only [sA1,sA2,sA3,Act.put,sA4,sA5,sA6]
  refine wpQ_nil ?_
  intro w1 f1
  have HF1:=Lib.hid (HF0.out.step0 f1)
  clear f1
  go_wp2_with fail
  refine bodyPost_ret (results_tmp2 rfl _ _ _) rfl ?_
  exact ⟨HF1.out,by rw [HN.out];rfl⟩
 ·rw [h2] at D1
  have HN:=Lib.hid h1
  clear h1 h2
  refine wp_region_fr (by kernel_rfl) (by kernel_rfl) ?_
  iterate 5
   refine wpQ_take (v:=?_) (by rfl) (fun wS hS=>?_) ?_
   rotate_left
   ·obtain ⟨L1,L2,L3,L4,L5,L6⟩:=Fr.same hS;go_simp;try with_reducible rfl
   try simp only [sA1,sA2,sA3,Act.put,sA4,sA5,sA6]
  refine wpQ_call (by rfl) (fun wS hS=>⟨_,_,?qh261,Calls.fr hS (D1 _ hS)⟩) ?qk261
  case qh261=>obtain ⟨L1,L2,L3,L4,L5,L6⟩:=Fr.same hS;go_simp;try with_reducible rfl
  try simp only [sA1,sA2,sA3,Act.put,sA4,sA5,sA6]
  refine wpQ_take (v:=?_) (by rfl) (fun wS hS=>?_) ?_
  rotate_left
  ·obtain ⟨L1,L2,L3,L4,L5,L6⟩:=Fr.same hS;go_simp;try with_reducible rfl
  try simp only [sA1,sA2,sA3,Act.put,sA4,sA5,sA6]
  refine wpQ_nil ?_
  intro w1 f1
  have k1:¬ (i:Int) < 0:=by omega
  have hir:i < rs.length:=by rw [HX0.out.bs.len];exact hi
  have i1:(i:Int) < (rs.length:Int):=by omega
  have HF1:=Lib.hid (HF0.out.step0 f1)
  have HBY:=Lib.hid ((HX0.out.bs.at_ i hir hi).fr0 f1)
  obtain ⟨g,off,rfl,hg,hc⟩:=cellB (HX0.out.sl.fr0 f1) (by omega)
  have c1:=hc i hir
  have c0:=cell_fr0 k0 f1
  clear f1 k0 hc hg b0 hP hXl D1
  generalize xs[i] = b at HBY HN
  generalize rs[i] = r at HBY c1
  obtain ⟨rA,rn,rc⟩:=r
  simp only at c1
  go_wp2_with fail
  refine bodyPost_ret (results_tmp2 rfl _ _ _) rfl ?_
  refine ⟨HF1.out,?_⟩
  rw [HN.out]
  exact ⟨rA,rn,rc,rfl,HBY.out⟩
end Go.Proofs.YtnkdnbjmhoegkaaGreat
