/- Contracts: pollardref01 Known, Name; rows of bytes ([][]byte); pollardref09 Find. Plain: a tree as directories: what is put, and what is loaded of it. Rows of bytes ([][]byte); contracts: pollardref09 Find, Put. Contracts: the law's few. -/
import Derived.Test.YtahllkifmmjbdaaShaSKp
import Derived.Test.YtahllkifmmjbdaaFrameOKp
import Derived.Test.YtahllkifmmjbdaaNumWKp
import Derived.Test.YtahllkifmmjbdaaRdQKp
import Derived.Test.YtahllkifmmjbdaaDagQKp
import Derived.Test.YtahllkifmmjbdaaShaRKp
set_option linter.unusedVariables false
set_option linter.unusedSimpArgs false
namespace Go.Proofs.Ytahllkifmmjbdaa
open Go.RowKit Go.Maps Go.Sort
def KnTo (w:World) (e:Ending) (w':World):Prop:=∃ A B c d,e = .returned (.agg (codTb.A ⟨A,8,c,B,64,d⟩)) ∧ Sl w' A (codU.row fstH) ∧ Sl w' B (codU.row rdsH) ∧ Fr noB w w'
set_option maxRecDepth 100000 in
set_option maxHeartbeats 4000000 in
theorem known_any (w:World):Calls Try.prog 49 #[] w (KnTo w):=by
 have k1:∀ (w:World) (o:Obj),(w.alloc o).heap.size = w.heap.size + 1:=fun w o=>by simp
 have S1:∀ o1 o3,Sl (((w.alloc o1).alloc (.cells (codU.row fstH).toArray 55)).alloc o3) (some ⟨w.heap.size + 1,0,none⟩) (codU.row fstH):=fun o1 o3=>by
  have h:=Sl.new (w.alloc o1) 55 (codU.row fstH)
  rw [k1] at h
  exact h.fr0 ((Fr.refl noB _).alloc _)
 have S2:∀ o1 o2,Sl (((w.alloc o1).alloc o2).alloc (.cells (codU.row rdsH).toArray 55)) (some ⟨w.heap.size + 1 + 1,0,none⟩) (codU.row rdsH):=fun o1 o2=>by
  have h:=Sl.new ((w.alloc o1).alloc o2) 55 (codU.row rdsH)
  rw [k1,k1] at h
  exact h
 have HS:=Lib.hid (And.intro S1 S2)
 clear S1 S2 k1
 go_enter Try.func49,Try.ntmps49
 go_wp2_with fail
 refine bodyPost_ret (results_cell_row rfl _ _ w.heap.size 92 #[.slice (some ⟨w.heap.size + 1,0,none⟩) 8 8,.slice (some ⟨w.heap.size + 1 + 1,0,none⟩) 64 64] (0,0) _ (by rfl) ?_ Try.underlying92 ?_ ?_) rfl ?_
 ·exact ((heap_alloc_old _ _ (by simp;omega)).trans (heap_alloc_old _ _ (by simp))).trans (heap_alloc_new _ _)
 ·rfl
 ·kernel_rfl
 ·exact ⟨_,_,8,64,by rw [Cod.A_eq];rfl,HS.out.1 _ _,HS.out.2 _ _,(((Fr.refl noB w).alloc _).alloc _).alloc _⟩
set_option maxRecDepth 100000 in
theorem r01name_any (w:World) (A:Option Addr) (c n:Nat) (b:List UInt8) (hn:b.length = n) (hs:Sl w A (bv b)) (hb:b.length ≤ 1000000000000):Calls Try.prog 27 #[.slice A n c] w (Gives w (encI (nameH b))):=by
 have fa:Fr noB w (w.alloc (aro zID)):=(Fr.refl noB w).alloc _
 have ba:bxA (w.alloc (aro zID)) w.heap.size = some zID:=bxA_new w zID
 have HPW:=Lib.hid (Nat.le_refl w.heap.size)
 have HB:=Lib.hid (And.intro hn hb)
 have HA:=Lib.hid (And.intro fa ba)
 have HS:=Lib.hid (hs.fr0 fa)
 clear fa ba hn hb hs
 go_enter Try.func27,Try.ntmps27
 go_upto_region 1 with fail
 generalize w.alloc (aro zID) = w1 at HA HS ⊢
 generalize hP:w.heap.size = P at HA HPW ⊢
 have HP:=Lib.hid hP
 clear hP
 go_wp2_with (first
  | (go_at_call 49;refine (known_any _).mono ?_;rintro e w2 ⟨tA,tB,tc,td,rfl,h1,h2,f2⟩;have HT:=Lib.hid (And.intro h1 h2);have HF:=Lib.hid (HA.out.1.step0 f2);have HBX:=Lib.hid (bxA_fr0 HA.out.2 f2);have HS2:=Lib.hid (HS.out.fr0 f2);clear h1 h2 f2)
  | (go_at_call 48;refine (sum_any _ _ rfl rfl HT.out.1 HT.out.2 A c n b HB.out.1 HS2.out HB.out.2).mono ?_;rintro e w3 ⟨rfl,f3⟩;have HF3:=Lib.hid (HF.out.step0 f3);have hbx:=bxA_fr0 HBX.out f3;clear f3;obtain ⟨res,hres⟩:∃ r,r = nameH b:=⟨_,rfl⟩;rw [← hres];have HRES:=Lib.hid hres;clear hres;obtain ⟨g1,g2,g3⟩:=putC_fr hbx res;have HG1:=Lib.hid g1;have HG3:=Lib.hid g3;clear g1 g2 g3))
 have hbx3:=bxA_at HG3.out
 simp only [aro,idA_eq] at hbx3
 refine bodyPost_ret (results_cell_row rfl _ _ P 36 _ _ _ (by rfl) hbx3 Try.underlying36 ?_ ?_) rfl ?_
 ·rfl
 ·rw [List.size_toArray,bv_length,res.2];exact infoArr
 refine ⟨by rw [← HRES.out];simp only [encI,idA_eq],HF3.out.step1 HG1.out (by rw [HP.out];exact Nat.le_refl _)⟩
end Go.Proofs.Ytahllkifmmjbdaa
namespace Go.Proofs.Ytahllkifmmjbdaa
/-! levels -/
/-! all that lies under a place -/
/-! directories -/
section
variable (H:List UInt8 → ID)
variable {H}
end
/-! objects -/
structure NoClash (H:List UInt8 → ID) (objs:List (List UInt8)):Prop where
 nz:∀ b ∈ objs,H b ≠ zID
 inj:∀ a ∈ objs,∀ b ∈ objs,H a = H b → a = b
/-! loading -/
end Go.Proofs.Ytahllkifmmjbdaa
namespace Go.Proofs.Ytahllkifmmjbdaa
open Go.RowKit Go.Maps Go.Sort
structure SlW where
 A:Option Addr
 n:Nat
 c:Nat
def codB:Cod SlW:=⟨25,1,fun x=>[.slice x.A x.n x.c],⟨none,0,0⟩,fun _=>rfl,by decide,fun x u hu=>by
 rw [List.mem_singleton] at hu
 subst hu;rfl,fun x y h=>by
 obtain ⟨A,n,c⟩:=x;obtain ⟨A',n',c'⟩:=y
 simp only [List.cons.injEq,Value.slice.injEq,and_true] at h
 obtain ⟨rfl,h1,h2⟩:=h
 have e1:n = n':=by omega
 have e2:c = c':=by omega
 subst e1 e2;rfl⟩
theorem etB:ET Try.prog 22 codB.t codB.n 24:=ET.mk' (z:=.slice none 0 0) Try.underlying22 (by kernel_rfl) rfl (by decide) (by decide)
structure ByIn (w:World) (r:SlW) (x:List UInt8):Prop where
 len:x.length = r.n
 cap:r.n ≤ r.c
 sl:Sl w r.A (bv x)
 bd:x.length ≤ 1000000000000
theorem ByIn.fr0 {w w':World} {r:SlW} {x:List UInt8} (h:ByIn w r x) (f:Fr noB w w'):ByIn w' r x:=⟨h.len,h.cap,h.sl.fr0 f,h.bd⟩
structure BsIn (w:World) (rs:List SlW) (xs:List (List UInt8)):Prop where
 len:rs.length = xs.length
 at_:∀ i (h:i < rs.length) (h':i < xs.length),ByIn w rs[i] xs[i]
theorem BsIn.nil (w:World):BsIn w [] []:=⟨rfl,fun i h=>absurd h (by simp)⟩
theorem BsIn.fr0 {w w':World} {rs:List SlW} {xs:List (List UInt8)} (h:BsIn w rs xs) (f:Fr noB w w'):BsIn w' rs xs:=⟨h.len,fun i h1 h2=>(h.at_ i h1 h2).fr0 f⟩
theorem BsIn.snoc {w:World} {rs:List SlW} {xs:List (List UInt8)} (h:BsIn w rs xs) {r:SlW} {x:List UInt8} (k:ByIn w r x):BsIn w (rs ++ [r]) (xs ++ [x]):=by
 refine ⟨by simp [h.len],fun i h1 h2=>?_⟩
 rw [List.length_append,List.length_singleton] at h1 h2
 by_cases hi:i < rs.length
 ·rw [List.getElem_append_left hi,List.getElem_append_left (by rw [← h.len];exact hi)]
  exact h.at_ i hi _
 ·have e:i = rs.length:=by omega
  subst e
  rw [List.getElem_append_right (Nat.le_refl _),List.getElem_append_right (by rw [h.len];exact Nat.le_refl _)]
  simpa [h.len] using k
theorem BsIn.take {w:World} {rs:List SlW} {xs:List (List UInt8)} (h:BsIn w rs xs) (k:Nat):BsIn w (rs.take k) (xs.take k):=by
 refine ⟨by simp [h.len],fun i h1 h2=>?_⟩
 rw [List.getElem_take,List.getElem_take]
 exact h.at_ i _ _
theorem cellB {w:World} {A:Option Addr} {l:List SlW} (h:Sl w A (codB.row l)) (hl:0 < l.length):∃ g off,A = some ⟨g,off,none⟩ ∧ g < w.heap.size ∧ ∀ i (hi:i < l.length),w.cell? ⟨g,off + i,none⟩ = some (.slice l[i].A l[i].n l[i].c):=by
 obtain ⟨g,off,rfl,hg⟩:=Sl.addr h hl
 exact ⟨g,off,rfl,hg,fun i hi=>Sl.cell1 (C:=codB) rfl h i hi rfl⟩
/-! Find -/
/-! Put -/
end Go.Proofs.Ytahllkifmmjbdaa
namespace Go.Proofs.Ytahllkifmmjbdaa
open Go.RowKit Go.Maps Go.Sort
set_option maxRecDepth 100000
def sumN (rs:List SlW):Nat:=(rs.map (·.n)).sum
theorem sumN_snoc {rs:List SlW} {i:Nat} (hi:i < rs.length):sumN (rs.take (i + 1)) = sumN (rs.take i) + rs[i].n:=by
 unfold sumN
 rw [List.take_succ_eq_append_getElem hi,List.map_append,List.sum_append]
 simp
def FewTo (w:World) (rs:List SlW) (e:Ending) (w':World):Prop:=w' = w ∧ ∃ b:Bool,e = .returned (.bool b) ∧ (b = true → rs.length + sumN rs ≤ 6000 ∧ rs.length ≤ 60)
set_option maxHeartbeats 4000000 in
theorem few_any (w:World) (A:Option Addr) (n c:Nat) (rs:List SlW) (hn:rs.length = n) (hs:Sl w A (codB.row rs)) (hb:rs.length ≤ 140737488355328) (hbd:∀ r ∈ rs,r.n ≤ 140737488355328):Calls Try.prog 5 #[.slice A n c] w (FewTo w rs):=by
 subst hn
 have HS:=Lib.hid hs
 have HB:=Lib.hid hb
 have HD:=Lib.hid hbd
 have H0:=Lib.hid (show ∃ i s:Nat,Value.int .i64 (rs.length:Int) = .int .i64 (s:Int) ∧ Value.int .i64 0 = .int .i64 (i:Int) ∧ i ≤ rs.length ∧ rs.length - 0 = rs.length - i ∧ s = rs.length + sumN (rs.take i) ∧ s ≤ 300000000000000 from ⟨0,rs.length,rfl,rfl,by omega,by omega,rfl,by omega⟩)
 clear hs hb hbd
 go_enter Try.func5,Try.ntmps5
 go_wp2_with fail
 go_loopg [3,4] (rs.length - 0) (fun gk nv iv wr=>∃ i s:Nat,nv = .int .i64 (s:Int) ∧ iv = .int .i64 (i:Int) ∧ i ≤ rs.length ∧ gk = rs.length - i ∧ s = rs.length + sumN (rs.take i) ∧ s ≤ 300000000000000 ∧ wr = w)
 case atStart=>obtain ⟨a1,a2,h1,h2,h3,h4,h5,h6⟩:=H0.out;exact ⟨a1,a2,h1,h2,h3,h4,h5,h6,rfl⟩
 case round =>
  clear H0
  obtain ⟨i,s,rfl,rfl,hi,rfl,hsum,hs3,rfl⟩:=hrel
  have HSUM:=Lib.hid hsum
  have HS3:=Lib.hid hs3
  by_cases hlt:i < rs.length
  ·have i1:(i:Int) < (rs.length:Int):=by omega
   have i0:(0:Int) ≤ (i:Int):=by omega
   have HIL:=Lib.hid hlt
   by_cases h6:s ≤ 6000
   ·have i6:(s:Int) ≤ 6000:=by omega
    obtain ⟨g,off,rfl,hg,hcell⟩:=cellB HS.out (by omega)
    have hc:=hcell i hlt
    have hrn:=HD.out rs[i] (List.getElem_mem hlt)
    have HSN:=Lib.hid (sumN_snoc hlt)
    generalize rs[i] = r at hc hrn HSN
    obtain ⟨rA,rn,rc⟩:=r
    have w1:wrap64 ((s:Int) + (rn:Int)) = ((s + rn:Nat):Int):=by rw [IntWalk.wrap64_in _ (by simp only at hrn;omega)];omega
    have HN:=Lib.hid (show s + rn ≤ 300000000000000 by simp only at hrn;omega)
    clear hcell hg hrn hlt hi hsum hs3 h6
    go_wp2_with fail
    have wk:wrap64 ((i:Int) + 1) = (i:Int) + 1:=IntWalk.wrap64_in _ (by have:=HIL.out;have:=HB.out;omega)
    go_roundg (rs.length - (i + 1))
    case measure=>have:=HIL.out;omega
    case rel=>exact ⟨i + 1,s + rn,rfl,by first | exact congrArg (Value.int .i64) wk | simp,by have:=HIL.out;omega,rfl,by have:=HSN.out;have:=HSUM.out;omega,HN.out,rfl⟩
   ·have i6:¬ (s:Int) ≤ 6000:=by omega
    clear hlt hi hsum hs3 h6
    go_wp2_with fail
    go_ret
    exact ⟨rfl,_,rfl,fun h=>by simp at h⟩
  ·have i1:¬ (i:Int) < (rs.length:Int):=by omega
   have HSE:=Lib.hid (show s = rs.length + sumN rs by rw [HSUM.out,List.take_of_length_le (by omega)])
   clear hlt hi hsum hs3
   by_cases h6:s ≤ 6000
   ·have i6:(s:Int) ≤ 6000:=by omega
    by_cases h7:rs.length ≤ 60
    ·have i7:(rs.length:Int) ≤ 60:=by omega
     have HR:=Lib.hid (And.intro h6 h7)
     clear h6 h7
     go_wp2_with fail
     go_ret
     exact ⟨rfl,_,rfl,fun _=>⟨by rw [← HSE.out];exact HR.out.1,HR.out.2⟩⟩
    ·have i7:¬ (rs.length:Int) ≤ 60:=by omega
     clear h6 h7
     go_wp2_with fail
     go_ret
     exact ⟨rfl,_,rfl,fun h=>by simp at h⟩
   ·have i6:¬ (s:Int) ≤ 6000:=by omega
    clear h6
    go_wp2_with fail
    go_ret
    exact ⟨rfl,_,rfl,fun h=>by simp at h⟩
end Go.Proofs.Ytahllkifmmjbdaa
