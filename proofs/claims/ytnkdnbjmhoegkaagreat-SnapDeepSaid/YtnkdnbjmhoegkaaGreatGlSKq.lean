/- Contracts: the reference's Find, Lies over rows. (ex_ldS_at) Contracts: the reference's Same of rows (their heads equal), of operations. (rdI, ex_ldS_at) -/
import Derived.Test.YtnkdnbjmhoegkaaGreatShaWKq
import Derived.Test.YtnkdnbjmhoegkaaGreatDifAKq
import Derived.Test.YtnkdnbjmhoegkaaGreatDifDKq
set_option linter.unusedVariables false
set_option linter.unusedSimpArgs false
namespace Go.Proofs.YtnkdnbjmhoegkaaGreat
open Go.RowKit
def idxN (s:St):List RwP → Int → Int
 | [],_=>-1
 | x :: l,k=>if x.Node = s then k else idxN s l (k + 1)
def idxR (xs:List RwP) (s:St):Int:=idxN s xs 0
theorem idxN_some {s:St}:∀ {l:List RwP} {i:Nat} {k:Int} (h:i < l.length),l[i].Node = s → (∀ j (hj:j < i),(l[j]'(by omega)).Node ≠ s) → idxN s l k = k + i
 | x :: l,0,k,h,h1,h2=>by
  unfold idxN
  rw [if_pos (by simpa using h1)];simp
 | x :: l,i + 1,k,h,h1,h2=>by
  unfold idxN
  have h0:=h2 0 (by omega)
  rw [if_neg (by simpa using h0),idxN_some (i:=i) (k:=k + 1) (by simpa using h) (by simpa using h1) (fun j hj=>by have:=h2 (j + 1) (by omega);simpa using this)]
  omega
theorem idxN_none {s:St}:∀ {l:List RwP} {k:Int},(∀ j (hj:j < l.length),l[j].Node ≠ s) → idxN s l k = -1
 | [],k,h=>rfl
 | x :: l,k,h=>by
  unfold idxN
  have h0:=h 0 (by simp)
  rw [if_neg (by simpa using h0)]
  exact idxN_none fun j hj=>by have:=h (j + 1) (by simpa using hj);simpa using this
theorem idxR_some {xs:List RwP} {s:St} {i:Nat} (h:i < xs.length) (h1:xs[i].Node = s) (h2:∀ j (hj:j < i),(xs[j]'(by omega)).Node ≠ s):idxR xs s = i:=by
 unfold idxR;rw [idxN_some h h1 h2];omega
theorem idxR_none {xs:List RwP} {s:St} (h:∀ j (hj:j < xs.length),xs[j].Node ≠ s):idxR xs s = -1:=idxN_none h
theorem idxN_find {s:St}:∀ (l:List RwP) (k:Int),(findR l s = none ∧ idxN s l k = -1) ∨ ∃ (i:Nat) (h:i < l.length),findR l s = some l[i] ∧ idxN s l k = k + i
 | [],k=>.inl ⟨rfl,rfl⟩
 | x :: l,k=>by
  unfold idxN
  by_cases h:x.Node = s
  ·refine .inr ⟨0,by simp,?_,?_⟩
   ·unfold findR;rw [List.find?_cons];simp [h]
   ·rw [if_pos h];simp
  ·rw [if_neg h]
   have e:findR (x :: l) s = findR l s:=by unfold findR;rw [List.find?_cons];simp [h]
   rw [e]
   rcases idxN_find l (k + 1) with ⟨h1,h2⟩ | ⟨i,hi,h1,h2⟩
   ·exact .inl ⟨h1,h2⟩
   ·exact .inr ⟨i + 1,by simpa using hi,by simpa using h1,by rw [h2];omega⟩
theorem idxR_find (xs:List RwP) (s:St):(findR xs s = none ∧ idxR xs s = -1) ∨ ∃ (i:Nat) (h:i < xs.length),findR xs s = some xs[i] ∧ idxR xs s = (i:Int):=by
 rcases idxN_find (s:=s) xs 0 with h | ⟨i,hi,h1,h2⟩
 ·exact .inl h
 ·exact .inr ⟨i,hi,h1,by show idxN s xs 0 = _;rw [h2];omega⟩
set_option maxRecDepth 100000 in
set_option maxHeartbeats 1000000 in
theorem r12find_any (w:World) (A:Option Addr) (c n:Nat) (rs:List RwW) (xs:List RwP) (hn:rs.length = n) (hs:Sl w A (codR.row rs)) (hb:rs.length ≤ 140737488355328) (hX:RwsIn w rs xs) (s:St) :
  Calls Tryz.prog 14 #[.slice A n c,.agg (codS.A s)] w (Gives w (.int .i64 (idxR xs s))):=by
 subst hn
 have HLX:=Lib.hid hX.len
 have f0:Fr noB w (w.alloc (.cells (codS.A s) 24)):=(Fr.refl noB w).alloc _
 have q0:=Cod.rd_new (C:=codS) w 24 s
 have hP:w.heap.size < (w.alloc (.cells (codS.A s) 24)).heap.size:=by simp
 go_enter Tryz.func14,Tryz.ntmps14
 go_upto_region 1 with fail
 replace hs:=hs.fr0 f0
 generalize w.alloc (.cells (codS.A s) 24) = W0 at f0 q0 hP hs ⊢
 generalize w.heap.size = P at q0 hP ⊢
 go_wp2_with fail
 go_loopg [5] rs.length (fun gk iv wr=>∃ k:Nat,iv = .int .i64 (k:Int) ∧ gk = rs.length - k ∧ k ≤ rs.length ∧ Fr noB W0 wr ∧ (∀ j (h:j < xs.length),j < k → xs[j].Node ≠ s))
 case atStart=>exact ⟨0,rfl,rfl,by omega,Fr.refl _ _,fun j _ h=>absurd h (by omega)⟩
 case round =>
  obtain ⟨k,rfl,rfl,hk,hf,hno⟩:=hrel
  have HNO:=Lib.hid hno
  clear hno
  by_cases hlt:k < rs.length
  ·have i1:(k:Int) < (rs.length:Int):=by omega
   have i0:(0:Int) ≤ (k:Int):=by omega
   obtain ⟨g,off,rfl,hg⟩:=hs.adC (by omega)
   have hlx:k < xs.length:=by rw [← HLX.out];exact hlt
   have hin:=hX.at_ k hlt hlx
   have e1:=(rwAtO ((hs.fr0 hf).rd k hlt)).node
   rw [← hin.node] at e1
   have q1:=(hf.same.st _ 0 hP).trans q0
   clear hin
   generalize hnd:xs[k].Node = nd at e1
   have HND:=Lib.hid hnd
   clear hnd
   go_upto_region 4 with fail
   refine wp_region_H (fun w'=>codS.rd w' g (off + k * 8) = some nd ∧ codS.rd w' P 0 = some s) (by kernel_rfl) ⟨Cod.rd_fr0 e1 (Fr.refl noB _).drew,Cod.rd_fr0 q1 (Fr.refl noB _).drew⟩ (fun hF=>?_)
   refine wpAnyH_take (i:=0) (v:=?_) rfl (by kernel_rfl) (by kernel_rfl) (by kernel_rfl) (fun _ _ _ h=>h) (Or.inl ⟨by rfl,?_⟩) hF ?_
   rotate_left
   ·intro wS hSw;(try dsimp only at hSw);obtain ⟨s1,s2⟩:=hSw;first | (apply Eq.trans;apply ex_ldS_at;exact rfl;exact rfl;assumption;with_reducible rfl) | (go_simp;try with_reducible rfl)
   try simp only [sA1,sA2,sA3,Act.put,sA4,sA5,sA6]
   refine wpAnyH_take (i:=1) (v:=?_) rfl (by kernel_rfl) (by kernel_rfl) (by kernel_rfl) (fun _ _ _ h=>h) (Or.inl ⟨by rfl,?_⟩) hF ?_
   rotate_left
   ·intro wS hSw;(try dsimp only at hSw);obtain ⟨s1,s2⟩:=hSw;first | (apply Eq.trans;apply ex_ldS_at;exact rfl;exact rfl;assumption;with_reducible rfl) | (go_simp;try with_reducible rfl)
   try simp only [sA1,sA2,sA3,Act.put,sA4,sA5,sA6]
   refine wpAnyH_take (i:=2) (v:=?_) rfl (by kernel_rfl) (by kernel_rfl) (by kernel_rfl) (fun _ _ _ h=>h) (Or.inl ⟨by rfl,?_⟩) hF ?_
   rotate_left
   ·intro wS hSw;(try dsimp only at hSw);obtain ⟨s1,s2⟩:=hSw;first | (apply Eq.trans;apply ex_ldS_at;exact rfl;exact rfl;assumption;with_reducible rfl) | (go_simp;try with_reducible rfl)
   try simp only [sA1,sA2,sA3,Act.put,sA4,sA5,sA6]
   refine wpAnyH_take (i:=3) (v:=?_) rfl (by kernel_rfl) (by kernel_rfl) (by kernel_rfl) (fun _ _ _ h=>h) (Or.inl ⟨by rfl,?_⟩) hF ?_
   rotate_left
   ·intro wS hSw;(try dsimp only at hSw);obtain ⟨s1,s2⟩:=hSw;first | (apply Eq.trans;apply ex_ldS_at;exact rfl;exact rfl;assumption;with_reducible rfl) | (go_simp;try with_reducible rfl)
   try simp only [sA1,sA2,sA3,Act.put,sA4,sA5,sA6]
   refine wpAnyH_take (i:=4) (v:=?_) rfl (by kernel_rfl) (by kernel_rfl) (by kernel_rfl) (fun _ _ _ h=>h) (Or.inl ⟨by rfl,?_⟩) hF ?_
   rotate_left
   ·intro wS hSw;(try dsimp only at hSw);obtain ⟨s1,s2⟩:=hSw;first | (apply Eq.trans;apply ex_ldS_at;exact rfl;exact rfl;assumption;with_reducible rfl) | (go_simp;try with_reducible rfl)
   try simp only [sA1,sA2,sA3,Act.put,sA4,sA5,sA6]
   refine wpAnyH_take (i:=5) (v:=?_) rfl (by kernel_rfl) (by kernel_rfl) (by kernel_rfl) (fun _ _ _ h=>h) (Or.inl ⟨by rfl,?_⟩) hF ?_
   rotate_left
   ·intro wS hSw;(try dsimp only at hSw);obtain ⟨s1,s2⟩:=hSw;first | (apply Eq.trans;apply ex_ldS_at;exact rfl;exact rfl;assumption;with_reducible rfl) | (go_simp;try with_reducible rfl)
   try simp only [sA1,sA2,sA3,Act.put,sA4,sA5,sA6]
   by_cases he:nd = s
   ·subst he
    refine wpAnyH_take (i:=6) (v:=?_) rfl (by kernel_rfl) (by kernel_rfl) (by kernel_rfl) (fun _ _ _ h=>h) (Or.inl ⟨by rfl,?_⟩) hF ?_
    rotate_left
    ·intro wS hSw;(try dsimp only at hSw);obtain ⟨s1,s2⟩:=hSw;first | (apply Eq.trans;apply ex_ldS_at;exact rfl;exact rfl;assumption;with_reducible rfl) | (go_simp;try with_reducible rfl)
    try simp only [sA1,sA2,sA3,Act.put,sA4,sA5,sA6]
    refine wpAnyH_done (by kernel_rfl) ?_ _
    clear hF
    go_wp2_with fail
    go_ret
    refine ⟨?_,f0.step0 hf.drew⟩
    rw [idxR_some hlx HND.out (fun j hj=>HNO.out j (by omega) hj)];rfl
   ·skip
    refine wpAnyH_take (i:=6) (v:=?_) rfl (by kernel_rfl) (by kernel_rfl) (by kernel_rfl) (fun _ _ _ h=>h) (Or.inl ⟨by rfl,?_⟩) hF ?_
    rotate_left
    ·intro wS hSw;(try dsimp only at hSw);obtain ⟨s1,s2⟩:=hSw;first | (apply Eq.trans;apply ex_ldS_at;exact rfl;exact rfl;assumption;with_reducible rfl) | (go_simp;try with_reducible rfl)
    try simp only [sA1,sA2,sA3,Act.put,sA4,sA5,sA6]
    refine wpAnyH_done (by kernel_rfl) ?_ _
    clear hF
    go_wp2_with fail
    go_roundg (rs.length - (k + 1))
    case measure=>omega
    case rel=>exact ⟨k + 1,by simp,rfl,by omega,hf.drew,fun j h1 h2=>by
     rcases Nat.lt_succ_iff_lt_or_eq.1 h2 with h3 | rfl
     ·exact HNO.out j h1 h3
     ·rw [HND.out];exact he⟩
  ·have hkn:k = rs.length:=by omega
   subst hkn
   have i1:¬ (rs.length:Int) < (rs.length:Int):=by omega
   go_wp2_with fail
   go_ret
   refine ⟨?_,f0.step0 hf⟩
   rw [idxR_none (fun j hj=>HNO.out j hj (by rw [HLX.out];exact hj))];rfl
@[simp] theorem str_beqG (a b:List UInt8):((str a).toList == (str b).toList) = decide (a = b):=by
 rw [str_toList,str_toList]
 by_cases h:a = b
 ·simp [h]
 ·simp [h]
def shR (x y:RwP):Bool:=decide (x.Node = y.Node) && (decide (x.Parent = y.Parent) && (decide (x.At = y.At) && decide (x.Name = y.Name)))
end Go.Proofs.YtnkdnbjmhoegkaaGreat
