/- Contracts: pollardref01 Known, Name; rows of bytes ([][]byte); pollardref09 Find. Rows of bytes ([][]byte); contracts: pollardref09 Find, Put. -/
import Derived.Test.YtnkdnbjmhoegkaaGreatShaSKp
import Derived.Test.YtnkdnbjmhoegkaaGreatQFrKp
import Derived.Test.YtnkdnbjmhoegkaaGreatNumWKp
import Derived.Test.YtnkdnbjmhoegkaaGreatSnpQKp
set_option linter.unusedVariables false
set_option linter.unusedSimpArgs false
namespace Go.Proofs.YtnkdnbjmhoegkaaGreat
open Go.RowKit Go.Maps Go.Sort
def KnTo (w:World) (e:Ending) (w':World):Prop:=∃ A B c d,e = .returned (.agg (codTb.A ⟨A,8,c,B,64,d⟩)) ∧ Sl w' A (codU.row fstH) ∧ Sl w' B (codU.row rdsH) ∧ Fr noB w w'
set_option maxRecDepth 100000 in
set_option maxHeartbeats 4000000 in
theorem known_any (w:World):Calls Tryz.prog 39 #[] w (KnTo w):=by
 have k1:∀ (w:World) (o:Obj),(w.alloc o).heap.size = w.heap.size + 1:=fun w o=>by simp
 have S1:∀ o1 o3,Sl (((w.alloc o1).alloc (.cells (codU.row fstH).toArray 113)).alloc o3) (some ⟨w.heap.size + 1,0,none⟩) (codU.row fstH):=fun o1 o3=>by
  have h:=Sl.new (w.alloc o1) 113 (codU.row fstH)
  rw [k1] at h
  exact h.fr0 ((Fr.refl noB _).alloc _)
 have S2:∀ o1 o2,Sl (((w.alloc o1).alloc o2).alloc (.cells (codU.row rdsH).toArray 113)) (some ⟨w.heap.size + 1 + 1,0,none⟩) (codU.row rdsH):=fun o1 o2=>by
  have h:=Sl.new ((w.alloc o1).alloc o2) 113 (codU.row rdsH)
  rw [k1,k1] at h
  exact h
 have HS:=Lib.hid (And.intro S1 S2)
 clear S1 S2 k1
 go_enter Tryz.func39,Tryz.ntmps39
 go_wp2_with fail
 refine bodyPost_ret (results_cell_row rfl _ _ w.heap.size 95 #[.slice (some ⟨w.heap.size + 1,0,none⟩) 8 8,.slice (some ⟨w.heap.size + 1 + 1,0,none⟩) 64 64] (0,0) _ (by rfl) ?_ Tryz.underlying95 ?_ ?_) rfl ?_
 ·exact ((heap_alloc_old _ _ (by simp;omega)).trans (heap_alloc_old _ _ (by simp))).trans (heap_alloc_new _ _)
 ·rfl
 ·kernel_rfl
 ·exact ⟨_,_,8,64,by rw [Cod.A_eq];rfl,HS.out.1 _ _,HS.out.2 _ _,(((Fr.refl noB w).alloc _).alloc _).alloc _⟩
set_option maxRecDepth 100000 in
theorem r01name_any (w:World) (A:Option Addr) (c n:Nat) (b:List UInt8) (hn:b.length = n) (hs:Sl w A (bv b)) (hb:b.length ≤ 1000000000000):Calls Tryz.prog 21 #[.slice A n c] w (Gives w (encI (nameH b))):=by
 have fa:Fr noB w (w.alloc (aro zID)):=(Fr.refl noB w).alloc _
 have ba:bxA (w.alloc (aro zID)) w.heap.size = some zID:=bxA_new w zID
 have HPW:=Lib.hid (Nat.le_refl w.heap.size)
 have HB:=Lib.hid (And.intro hn hb)
 have HA:=Lib.hid (And.intro fa ba)
 have HS:=Lib.hid (hs.fr0 fa)
 clear fa ba hn hb hs
 go_enter Tryz.func21,Tryz.ntmps21
 go_upto_region 1 with fail
 generalize w.alloc (aro zID) = w1 at HA HS ⊢
 generalize hP:w.heap.size = P at HA HPW ⊢
 have HP:=Lib.hid hP
 clear hP
 go_wp2_with (first
  | (go_at_call 39;refine (known_any _).mono ?_;rintro e w2 ⟨tA,tB,tc,td,rfl,h1,h2,f2⟩;have HT:=Lib.hid (And.intro h1 h2);have HF:=Lib.hid (HA.out.1.step0 f2);have HBX:=Lib.hid (bxA_fr0 HA.out.2 f2);have HS2:=Lib.hid (HS.out.fr0 f2);clear h1 h2 f2)
  | (go_at_call 38;refine (sum_any _ _ rfl rfl HT.out.1 HT.out.2 A c n b HB.out.1 HS2.out HB.out.2).mono ?_;rintro e w3 ⟨rfl,f3⟩;have HF3:=Lib.hid (HF.out.step0 f3);have hbx:=bxA_fr0 HBX.out f3;clear f3;obtain ⟨res,hres⟩:∃ r,r = nameH b:=⟨_,rfl⟩;rw [← hres];have HRES:=Lib.hid hres;clear hres;obtain ⟨g1,g2,g3⟩:=putC_fr hbx res;have HG1:=Lib.hid g1;have HG3:=Lib.hid g3;clear g1 g2 g3))
 have hbx3:=bxA_at HG3.out
 simp only [aro,idA_eq] at hbx3
 refine bodyPost_ret (results_cell_row rfl _ _ P 33 _ _ _ (by rfl) hbx3 Tryz.underlying33 ?_ ?_) rfl ?_
 ·rfl
 ·rw [List.size_toArray,bv_length,res.2];exact infoArr
 refine ⟨by rw [← HRES.out];simp only [encI,idA_eq],HF3.out.step1 HG1.out (by rw [HP.out];exact Nat.le_refl _)⟩
structure SlW where
 A:Option Addr
 n:Nat
 c:Nat
def codB:Cod SlW:=⟨64,1,fun x=>[.slice x.A x.n x.c],⟨none,0,0⟩,fun _=>rfl,by decide,fun x u hu=>by
 rw [List.mem_singleton] at hu
 subst hu;rfl,fun x y h=>by
 obtain ⟨A,n,c⟩:=x;obtain ⟨A',n',c'⟩:=y
 simp only [List.cons.injEq,Value.slice.injEq,and_true] at h
 obtain ⟨rfl,h1,h2⟩:=h
 have e1:n = n':=by omega
 have e2:c = c':=by omega
 subst e1 e2;rfl⟩
theorem etB:ET Tryz.prog 30 codB.t codB.n 24:=ET.mk' (z:=.slice none 0 0) Tryz.underlying30 (by kernel_rfl) rfl (by decide) (by decide)
structure ByIn (w:World) (r:SlW) (x:List UInt8):Prop where
 len:x.length = r.n
 cap:r.n ≤ r.c
 sl:Sl w r.A (bv x)
 bd:x.length ≤ 1000000000000
theorem ByIn.fr0 {w w':World} {r:SlW} {x:List UInt8} (h:ByIn w r x) (f:Fr noB w w'):ByIn w' r x:=⟨h.len,h.cap,h.sl.fr0 f,h.bd⟩
structure BsIn (w:World) (rs:List SlW) (xs:List (List UInt8)):Prop where
 len:rs.length = xs.length
 at_:∀ i (h:i < rs.length) (h':i < xs.length),ByIn w rs[i] xs[i]
theorem BsIn.nil (w:World):BsIn w [] []:=⟨rfl,fun i h=>absurd h (by simp)⟩
theorem BsIn.fr0 {w w':World} {rs:List SlW} {xs:List (List UInt8)} (h:BsIn w rs xs) (f:Fr noB w w'):BsIn w' rs xs:=⟨h.len,fun i h1 h2=>(h.at_ i h1 h2).fr0 f⟩
theorem BsIn.snoc {w:World} {rs:List SlW} {xs:List (List UInt8)} (h:BsIn w rs xs) {r:SlW} {x:List UInt8} (k:ByIn w r x):BsIn w (rs ++ [r]) (xs ++ [x]):=by
 refine ⟨by simp [h.len],fun i h1 h2=>?_⟩
 rw [List.length_append,List.length_singleton] at h1 h2
 by_cases hi:i < rs.length
 ·rw [List.getElem_append_left hi,List.getElem_append_left (by rw [← h.len];exact hi)]
  exact h.at_ i hi _
 ·have e:i = rs.length:=by omega
  subst e
  rw [List.getElem_append_right (Nat.le_refl _),List.getElem_append_right (by rw [h.len];exact Nat.le_refl _)]
  simpa [h.len] using k
theorem BsIn.take {w:World} {rs:List SlW} {xs:List (List UInt8)} (h:BsIn w rs xs) (k:Nat):BsIn w (rs.take k) (xs.take k):=by
 refine ⟨by simp [h.len],fun i h1 h2=>?_⟩
 rw [List.getElem_take,List.getElem_take]
 exact h.at_ i _ _
theorem cellB {w:World} {A:Option Addr} {l:List SlW} (h:Sl w A (codB.row l)) (hl:0 < l.length):∃ g off,A = some ⟨g,off,none⟩ ∧ g < w.heap.size ∧ ∀ i (hi:i < l.length),w.cell? ⟨g,off + i,none⟩ = some (.slice l[i].A l[i].n l[i].c):=by
 obtain ⟨g,off,rfl,hg⟩:=Sl.addr h hl
 exact ⟨g,off,rfl,hg,fun i hi=>Sl.cell1 (C:=codB) rfl h i hi rfl⟩
/-! Find -/
def idxH (id:ID):List (List UInt8) → Int → Int
 | [],_=>-1
 | b :: l,k=>if nameH b = id then k else idxH id l (k + 1)
theorem idxH_drop {id:ID} {xs:List (List UInt8)} {k:Nat} (h:k < xs.length) (j:Int):idxH id (xs.drop k) j = if nameH xs[k] = id then j else idxH id (xs.drop (k + 1)) (j + 1):=by
 rw [List.drop_eq_getElem_cons h];rfl
def placeO (xs:List (List UInt8)) (id:ID):Int:=idxH id xs 0
theorem idxH_find (id:ID):∀ (l:List (List UInt8)) (k:Int),0 ≤ k → (findO nameH l id = none ∧ idxH id l k = -1) ∨ ∃ (i:Nat) (h:i < l.length),findO nameH l id = some l[i] ∧ idxH id l k = k + i
 | [],k,_=>.inl ⟨rfl,rfl⟩
 | b :: l,k,hk=>by
  by_cases he:nameH b = id
  ·exact .inr ⟨0,by simp,by simp [findO,he],by simp [idxH,he]⟩
  ·have e1:findO nameH (b :: l) id = findO nameH l id:=by simp [findO,he]
   have e2:idxH id (b :: l) k = idxH id l (k + 1):=by simp [idxH,he]
   rw [e1,e2]
   rcases idxH_find id l (k + 1) (by omega) with h | ⟨i,h,h1,h2⟩
   ·exact .inl h
   ·exact .inr ⟨i + 1,by simp;omega,by simpa using h1,by rw [h2];omega⟩
theorem placeO_find (xs:List (List UInt8)) (id:ID):(findO nameH xs id = none ∧ placeO xs id = -1) ∨ ∃ (i:Nat) (h:i < xs.length),findO nameH xs id = some xs[i] ∧ placeO xs id = (i:Int):=by
 rcases idxH_find id xs 0 (Int.le_refl 0) with h | ⟨i,h,h1,h2⟩
 ·exact .inl h
 ·exact .inr ⟨i,h,h1,by show idxH id xs 0 = _;rw [h2];omega⟩
set_option maxRecDepth 100000 in
set_option maxHeartbeats 1000000 in
theorem r09find_any (w:World) (A:Option Addr) (c n:Nat) (rs:List SlW) (xs:List (List UInt8)) (hn:rs.length = n) (hs:Sl w A (codB.row rs)) (hb:rs.length ≤ 140737488355328) (hX:BsIn w rs xs) (id:ID) :
  Calls Tryz.prog 28 #[.slice A n c,encI id] w (Gives w (.int .i64 (placeO xs id))):=by
 subst hn
 have HLX:=Lib.hid hX.len
 have f0:Fr noB w (w.alloc (aro id)):=(Fr.refl noB w).alloc _
 have q0:=bxA_rd (bxA_new w id)
 have hP:w.heap.size < (w.alloc (aro id)).heap.size:=by simp
 have HX:=Lib.hid (hX.fr0 f0)
 clear hX
 go_enter Tryz.func28,Tryz.ntmps28
 go_upto_region 1 with fail
 replace hs:=hs.fr0 f0
 generalize w.alloc (aro id) = W0 at f0 q0 hP hs HX ⊢
 generalize w.heap.size = P at q0 hP ⊢
 go_wp2_with fail
 go_loopg [5] rs.length (fun gk iv wr=>∃ k:Nat,iv = .int .i64 (k:Int) ∧ gk = rs.length - k ∧ k ≤ rs.length ∧ Fr noB W0 wr ∧ idxH id (xs.drop k) k = placeO xs id)
 case atStart=>exact ⟨0,rfl,rfl,by omega,Fr.refl _ _,rfl⟩
 case round =>
  obtain ⟨k,rfl,rfl,hk,hf,hno⟩:=hrel
  have HNO:=Lib.hid hno
  clear hno
  by_cases hlt:k < rs.length
  ·have i1:(k:Int) < (rs.length:Int):=by omega
   have i0:(0:Int) ≤ (k:Int):=by omega
   obtain ⟨g,off,rfl,hg,hc⟩:=cellB (hs.fr0 hf) (by omega)
   have hlx:k < xs.length:=by rw [← HLX.out];exact hlt
   have hin:=(HX.out.fr0 hf).at_ k hlt hlx
   have e1:=hc k hlt
   have q1:rdI wr P 0 = some id:=(hf.same.id _ 0 hP).trans q0
   have hPr:P < wr.heap.size:=Nat.lt_of_lt_of_le hP hf.size
   have HD:=Lib.hid (idxH_drop (id:=id) hlx (k:Int))
   generalize rs[k] = r at e1 hin
   generalize xs[k] = x at hin HD
   obtain ⟨rA,rn,rc⟩:=r
   obtain ⟨hl,hcap,hsl,hbd⟩:=hin
   simp only at hl hcap hsl e1
   have D1:∀ wS,Fr noB wr wS → Calls Tryz.prog 21 #[.slice rA rn rc] wS (Gives wS (encI (nameH x))):=fun wS f=>r01name_any wS rA rc rn x hl (hsl.fr0 f) hbd
   generalize nameH x = y at D1 HD
   clear hl hcap hsl hbd hc
   go_upto_region 4 with fail
   refine wp_region_fr (by kernel_rfl) (by kernel_rfl) ?_
   iterate 4
    refine wpQ_take (v:=?_) (by rfl) (fun wS hS=>?_) ?_
    rotate_left
    ·obtain ⟨L1,L2,L3,L4,L5,L6⟩:=Fr.same hS;go_simp;try with_reducible rfl
    try simp only [sA1,sA2,sA3,Act.put,sA4,sA5,sA6]
   refine wpQ_call (by rfl) (fun wS hS=>⟨_,_,?qh121,Calls.fr hS (D1 _ hS)⟩) ?qk121
   case qh121=>obtain ⟨L1,L2,L3,L4,L5,L6⟩:=Fr.same hS;go_simp;try with_reducible rfl
   try simp only [sA1,sA2,sA3,Act.put,sA4,sA5,sA6]
   iterate 2
    refine wpQ_take (v:=?_) (by rfl) (fun wS hS=>?_) ?_
    rotate_left
    ·obtain ⟨L1,L2,L3,L4,L5,L6⟩:=Fr.same hS;go_simp;try with_reducible rfl
    try simp only [sA1,sA2,sA3,Act.put,sA4,sA5,sA6]
   refine wpQ_nil ?_
   intro w1 f1
   by_cases he:y = id
   ·have e0:decide (y = id) = true:=by simp [he]
    rw [e0]
    go_wp2_with fail
    go_ret
    refine ⟨?_,f0.step0 (hf.step0 f1)⟩
    rw [← HNO.out,HD.out,if_pos he];rfl
   ·have e0:decide (y = id) = false:=by simp [he]
    rw [e0]
    go_wp2_with fail
    go_roundg (rs.length - (k + 1))
    case measure=>omega
    case rel=>exact ⟨k + 1,by simp,rfl,by omega,hf.step0 f1,by rw [← HNO.out,HD.out,if_neg he];rfl⟩
  ·have hkn:k = rs.length:=by omega
   subst hkn
   have i1:¬ (rs.length:Int) < (rs.length:Int):=by omega
   go_wp2_with fail
   go_ret
   refine ⟨?_,f0.step0 hf⟩
   rw [← HNO.out,List.drop_of_length_le (by rw [HLX.out];exact Nat.le_refl _)];rfl
/-! Put -/
def PuTo (w:World) (A:Option Addr) (n c:Nat) (rs:List SlW) (xs:List (List UInt8)) (r:SlW) (b:List UInt8) (e:Ending) (w':World):Prop :=
 Fr noB w w' ∧ ((b ∈ xs ∧ e = .returned (.slice A n c)) ∨ (b ∉ xs ∧ ∃ A' c' l,e = .returned (.slice A' l.length c') ∧ l = rs ++ [r] ∧ OwnC codB w w' A' c' l))
theorem putX_in {o:List (List UInt8)} {b:List UInt8} (h:b ∈ o):putX o b = o:=by unfold putX;rw [if_pos h]
theorem putX_out {o:List (List UInt8)} {b:List UInt8} (h:b ∉ o):putX o b = o ++ [b]:=by unfold putX;rw [if_neg h]
set_option maxRecDepth 100000 in
set_option maxHeartbeats 2000000 in
theorem r09put_any (w:World) (A:Option Addr) (c n:Nat) (rs:List SlW) (xs:List (List UInt8)) (hn:rs.length = n) (hs:Sl w A (codB.row rs)) (hb:rs.length ≤ 1000000000000) (hX:BsIn w rs xs) (B:Option Addr) (d m:Nat) (b:List UInt8) (hB:ByIn w ⟨B,m,d⟩ b) :
  Calls Tryz.prog 20 #[.slice A n c,.slice B m d] w (PuTo w A n c rs xs ⟨B,m,d⟩ b):=by
 subst hn
 obtain ⟨hm,hmc,hbs,hbd⟩:=hB
 simp only at hm hmc hbs
 have HLX:=Lib.hid hX.len
 have HX:=Lib.hid hX
 have HBY:=Lib.hid (show ByIn w ⟨B,m,d⟩ b from ⟨hm,hmc,hbs,hbd⟩)
 have HLN:=Lib.hid hb
 have HSA:=Lib.hid hs
 clear hX hbs hmc hb hs
 go_enter Tryz.func20,Tryz.ntmps20
 have fa:Fr noB w (w.alloc (.cells #[] 64)):=(Fr.refl noB w).alloc _
 have own0:OwnC codB w (w.alloc (.cells #[] 64)) (some ⟨w.heap.size,0,none⟩) 0 []:=World.ownsRow_lit (base:=w.heap.size) (e:=64) (size:=1) w #[] 0 (Nat.le_refl _) (by unfold maxLen;omega) (by simp)
 have H0:=Lib.hid (show ∃ (k:Nat) (A1:Option Addr) (c1:Nat) (l:List SlW),(Value.slice (some ⟨w.heap.size,0,none⟩) 0 0) = .slice A1 l.length c1 ∧ (Value.int .i64 ((0:Nat):Int)) = .int .i64 (k:Int) ∧ l = rs.take k ∧ rs.length = rs.length - k ∧ k ≤ rs.length ∧ OwnC codB w (w.alloc (.cells #[] 64)) A1 c1 l ∧ (∀ x ∈ xs.take k,x ≠ b) ∧ Fr noB w (w.alloc (.cells #[] 64)) from ⟨0,_,0,[],rfl,rfl,rfl,rfl,Nat.zero_le _,own0,by simp,fa⟩)
 clear fa own0
 go_wp2_with fail
 go_loopg [5,6] rs.length (fun gk ov kv wr=>∃ (k:Nat) (A1:Option Addr) (c1:Nat) (l:List SlW),ov = .slice A1 l.length c1 ∧ kv = .int .i64 (k:Int) ∧ l = rs.take k ∧ gk = rs.length - k ∧ k ≤ rs.length ∧ OwnC codB w wr A1 c1 l ∧ (∀ x ∈ xs.take k,x ≠ b) ∧ Fr noB w wr)
 case atStart=>exact H0.out
 case round =>
  clear H0
  obtain ⟨k,A1,c1,l,rfl,rfl,hl,rfl,hk,ho,hno,hf⟩:=hrel
  have HO:=Lib.hid ho
  have HF:=Lib.hid hf
  have HNO:=Lib.hid hno
  have HLL:=Lib.hid (show l.length ≤ rs.length by rw [hl,List.length_take];omega)
  have HLE:=Lib.hid hl
  clear ho hf hl hno
  by_cases hlt:k < rs.length
  ·have i1:(k:Int) < (rs.length:Int):=by omega
   have i0:(0:Int) ≤ (k:Int):=by omega
   obtain ⟨g,off,rfl,hg,hc⟩:=cellB (HSA.out.fr0 HF.out) (by omega)
   have hlx:k < xs.length:=by rw [← HLX.out];exact hlt
   have hin:=(HX.out.fr0 HF.out).at_ k hlt hlx
   have e1:=hc k hlt
   have HTK:=Lib.hid (show rs.take (k + 1) = rs.take k ++ [rs[k]] from List.take_succ_eq_append_getElem hlt)
   have HTX:=Lib.hid (show xs.take (k + 1) = xs.take k ++ [xs[k]] from List.take_succ_eq_append_getElem hlx)
   have HMEM:=Lib.hid (show xs[k] ∈ xs from List.getElem_mem hlx)
   have HKL:=Lib.hid hlt
   generalize rs[k] = r at e1 hin HTK
   generalize xs[k] = x at hin HTX HMEM
   obtain ⟨rA,rn,rc⟩:=r
   obtain ⟨hl,hcap,hsl,hbd2⟩:=hin
   simp only at hl hcap hsl e1
   have C1:∀ wS,Fr noB wr wS → Calls Tryz.prog 30 #[.slice rA rn rc,.slice B m d] wS (BoolTo wS (decide (x = b))):=fun wS f=>by
    have h:=same_any wS rA B rc d x b (hsl.fr0 f) ((HBY.out.sl.fr0 HF.out).fr0 f) (by omega) (by omega)
    rw [hl,hm] at h
    exact h
   have HR:=Lib.hid (And.intro hl hcap)
   have fc:∀ w',Fr noB wr w' → w'.cell? ⟨g,off + k,none⟩ = some (.slice rA rn rc):=fun w' f=>cell_fr0 e1 f
   clear hl hcap hsl hbd2 hc hlt hk hlx
   go_upto_if 19 with (go_at_call 30;refine (C1 _ (Fr.refl _ _)).mono ?_;rintro e w2 ⟨rfl,f2⟩)
   have e2:=fc _ f2
   have HF2:=Lib.hid (HF.out.step0 f2)
   have HO2:=Lib.hid (own_new0 HO.out f2)
   clear fc e1 C1 f2
   by_cases he:x = b
   ·have e0:decide (x = b) = true:=by simp [he]
    rw [e0]
    go_wp2_with fail
    go_ret
    exact ⟨HF2.out,.inl ⟨by rw [← he];exact HMEM.out,rfl⟩⟩
   ·have e0:decide (x = b) = false:=by simp [he]
    rw [e0]
    have HE:=Lib.hid he
    have hst:Sl (w2.alloc (.cells #[.slice rA rn rc] 64)) (some ⟨w2.heap.size,0,none⟩) (codB.row [⟨rA,rn,rc⟩]):=Sl.new w2 64 [.slice rA rn rc]
    have fn:Fr noB w2 (w2.alloc (.cells #[.slice rA rn rc] 64)):=(Fr.refl noB w2).alloc _
    have hox:=Lib.hid (own_new0 HO2.out fn)
    have sz:=(HF2.out.step0 fn).size
    have FX:=Lib.hid (HF2.out.step0 fn)
    clear fn he e0
    go_wp2_with (at_builtin;refine wpList_appC' etB w _ rfl _ _ rfl A1 l.length c1 l rfl rfl hox.out (some ⟨w2.heap.size,0,none⟩) 1 1 [⟨rA,rn,rc⟩] rfl hst rfl (by have:=HLL.out;have:=HLN.out;simp;omega) sz ?_;intro A8 c8 w8 hc8 hmx8 ho8 hg8 hA8;obtain ⟨l8,hl8⟩:∃ t,t = l ++ [⟨rA,rn,rc⟩]:=⟨_,rfl⟩;rw [← hl8] at ho8 ⊢;have HL8:=Lib.hid hl8;clear hl8 hc8 hmx8 hA8)
    have F8:=Fr.own' FX.out hox.out hg8
    have wk:wrap64 ((k:Int) + 1) = (k:Int) + 1:=IntWalk.wrap64_in _ (by have:=HKL.out;have:=HLN.out;omega)
    go_roundg (rs.length - (k + 1))
    case measure=>have:=HKL.out;omega
    case rel=>exact ⟨k + 1,A8,c8,l8,rfl,by first | exact congrArg (Value.int .i64) wk | simp,by rw [HL8.out,HLE.out,HTK.out],rfl,by have:=HKL.out;omega,ho8,by
     rw [HTX.out]
     intro y hy
     rcases List.mem_append.1 hy with hy | hy
     ·exact HNO.out y hy
     ·rw [List.mem_singleton] at hy;subst hy;exact HE.out,F8⟩
  ·have i1:¬ (k:Int) < (rs.length:Int):=by omega
   have hlf:l = rs:=by rw [HLE.out,List.take_of_length_le (by omega)]
   have HOUT:=Lib.hid (show b ∉ xs from fun h=>by
    have h2:=HNO.out b (by rw [List.take_of_length_le (by rw [← HLX.out];omega)];exact h)
    exact h2 rfl)
   have hst:Sl (wr.alloc (.cells #[.slice B m d] 64)) (some ⟨wr.heap.size,0,none⟩) (codB.row [⟨B,m,d⟩]):=Sl.new wr 64 [.slice B m d]
   have fn:Fr noB wr (wr.alloc (.cells #[.slice B m d] 64)):=(Fr.refl noB wr).alloc _
   have hox:=Lib.hid (own_new0 HO.out fn)
   have sz:=(HF.out.step0 fn).size
   have FX:=Lib.hid (HF.out.step0 fn)
   have HLF:=Lib.hid hlf
   clear fn hlt hk hlf
   go_wp2_with (at_builtin;refine wpList_appC' etB w _ rfl _ _ rfl A1 l.length c1 l rfl rfl hox.out (some ⟨wr.heap.size,0,none⟩) 1 1 [⟨B,m,d⟩] rfl hst rfl (by have:=HLL.out;have:=HLN.out;simp;omega) sz ?_;intro A8 c8 w8 hc8 hmx8 ho8 hg8 hA8;obtain ⟨l8,hl8⟩:∃ t,t = l ++ [⟨B,m,d⟩]:=⟨_,rfl⟩;rw [← hl8] at ho8 ⊢;have HL8:=Lib.hid hl8;clear hl8 hc8 hmx8 hA8)
   have F8:=Fr.own' FX.out hox.out hg8
   go_ret
   exact ⟨F8,.inr ⟨HOUT.out,A8,c8,l8,rfl,by rw [HL8.out,HLF.out],ho8⟩⟩
end Go.Proofs.YtnkdnbjmhoegkaaGreat
