/- Contract: the reference's SameHeads, of equal heads. (rdI, ex_ldH_at) Contracts: the reference's Find, Lies over rows. (ex_ldS_at) -/
import Derived.Test.YthehiobacjjakaaGreatDoorR4bKn
import Derived.Test.YthehiobacjjakaaGreatDoorBldRKn
set_option linter.unusedVariables false
set_option linter.unusedSimpArgs false
namespace Go.Proofs.YthehiobacjjakaaGreatDoor
open Go.RowKit
def idxN (s:St):List RwP → Int → Int
 | [],_=>-1
 | x :: l,k=>if x.Node = s then k else idxN s l (k + 1)
def idxR (xs:List RwP) (s:St):Int:=idxN s xs 0
theorem idxN_some {s:St}:∀ {l:List RwP} {i:Nat} {k:Int} (h:i < l.length),l[i].Node = s → (∀ j (hj:j < i),(l[j]'(by omega)).Node ≠ s) → idxN s l k = k + i
 | x :: l,0,k,h,h1,h2=>by
  unfold idxN
  rw [if_pos (by simpa using h1)];simp
 | x :: l,i + 1,k,h,h1,h2=>by
  unfold idxN
  have h0:=h2 0 (by omega)
  rw [if_neg (by simpa using h0),idxN_some (i:=i) (k:=k + 1) (by simpa using h) (by simpa using h1) (fun j hj=>by have:=h2 (j + 1) (by omega);simpa using this)]
  omega
theorem idxN_none {s:St}:∀ {l:List RwP} {k:Int},(∀ j (hj:j < l.length),l[j].Node ≠ s) → idxN s l k = -1
 | [],k,h=>rfl
 | x :: l,k,h=>by
  unfold idxN
  have h0:=h 0 (by simp)
  rw [if_neg (by simpa using h0)]
  exact idxN_none fun j hj=>by have:=h (j + 1) (by simpa using hj);simpa using this
theorem idxR_some {xs:List RwP} {s:St} {i:Nat} (h:i < xs.length) (h1:xs[i].Node = s) (h2:∀ j (hj:j < i),(xs[j]'(by omega)).Node ≠ s):idxR xs s = i:=by
 unfold idxR;rw [idxN_some h h1 h2];omega
theorem idxR_none {xs:List RwP} {s:St} (h:∀ j (hj:j < xs.length),xs[j].Node ≠ s):idxR xs s = -1:=idxN_none h
theorem idxN_find {s:St}:∀ (l:List RwP) (k:Int),(findR l s = none ∧ idxN s l k = -1) ∨ ∃ (i:Nat) (h:i < l.length),findR l s = some l[i] ∧ idxN s l k = k + i
 | [],k=>.inl ⟨rfl,rfl⟩
 | x :: l,k=>by
  unfold idxN
  by_cases h:x.Node = s
  ·refine .inr ⟨0,by simp,?_,?_⟩
   ·unfold findR;rw [List.find?_cons];simp [h]
   ·rw [if_pos h];simp
  ·rw [if_neg h]
   have e:findR (x :: l) s = findR l s:=by unfold findR;rw [List.find?_cons];simp [h]
   rw [e]
   rcases idxN_find l (k + 1) with ⟨h1,h2⟩ | ⟨i,hi,h1,h2⟩
   ·exact .inl ⟨h1,h2⟩
   ·exact .inr ⟨i + 1,by simpa using hi,by simpa using h1,by rw [h2];omega⟩
theorem idxR_find (xs:List RwP) (s:St):(findR xs s = none ∧ idxR xs s = -1) ∨ ∃ (i:Nat) (h:i < xs.length),findR xs s = some xs[i] ∧ idxR xs s = (i:Int):=by
 rcases idxN_find (s:=s) xs 0 with h | ⟨i,hi,h1,h2⟩
 ·exact .inl h
 ·exact .inr ⟨i,hi,h1,by show idxN s xs 0 = _;rw [h2];omega⟩
set_option maxRecDepth 100000 in
set_option maxHeartbeats 1000000 in
theorem r12find_any (w:World) (A:Option Addr) (c n:Nat) (rs:List RwW) (xs:List RwP) (hn:rs.length = n) (hs:Sl w A (codR.row rs)) (hb:rs.length ≤ 140737488355328) (hX:RwsIn w rs xs) (s:St) :
  Calls Tryz.prog 66 #[.slice A n c,.agg (codS.A s)] w (Gives w (.int .i64 (idxR xs s))):=by
 subst hn
 have HLX:=Lib.hid hX.len
 have f0:Fr noB w (w.alloc (.cells (codS.A s) 24)):=(Fr.refl noB w).alloc _
 have q0:=Cod.rd_new (C:=codS) w 24 s
 have hP:w.heap.size < (w.alloc (.cells (codS.A s) 24)).heap.size:=by simp
 go_enter Tryz.func66,Tryz.ntmps66
 go_upto_region 1 with fail
 replace hs:=hs.fr0 f0
 generalize w.alloc (.cells (codS.A s) 24) = W0 at f0 q0 hP hs ⊢
 generalize w.heap.size = P at q0 hP ⊢
 go_wp2_with fail
 go_loopg [5] rs.length (fun gk iv wr=>∃ k:Nat,iv = .int .i64 (k:Int) ∧ gk = rs.length - k ∧ k ≤ rs.length ∧ Fr noB W0 wr ∧ (∀ j (h:j < xs.length),j < k → xs[j].Node ≠ s))
 case atStart=>exact ⟨0,rfl,rfl,by omega,Fr.refl _ _,fun j _ h=>absurd h (by omega)⟩
 case round =>
  obtain ⟨k,rfl,rfl,hk,hf,hno⟩:=hrel
  have HNO:=Lib.hid hno
  clear hno
  by_cases hlt:k < rs.length
  ·have i1:(k:Int) < (rs.length:Int):=by omega
   have i0:(0:Int) ≤ (k:Int):=by omega
   obtain ⟨g,off,rfl,hg⟩:=hs.adC (by omega)
   have hlx:k < xs.length:=by rw [← HLX.out];exact hlt
   have hin:=hX.at_ k hlt hlx
   have e1:=(rwAtO ((hs.fr0 hf).rd k hlt)).node
   rw [← hin.node] at e1
   have q1:=(hf.same.st _ 0 hP).trans q0
   clear hin
   generalize hnd:xs[k].Node = nd at e1
   have HND:=Lib.hid hnd
   clear hnd
   go_upto_region 4 with fail
   refine wp_region_H (fun w'=>codS.rd w' g (off + k * 8) = some nd ∧ codS.rd w' P 0 = some s) (by kernel_rfl) ⟨Cod.rd_fr0 e1 (Fr.refl noB _).drew,Cod.rd_fr0 q1 (Fr.refl noB _).drew⟩ (fun hF=>?_)
   refine wpAnyH_take (i:=0) (v:=?_) rfl (by kernel_rfl) (by kernel_rfl) (by kernel_rfl) (fun _ _ _ h=>h) (Or.inl ⟨by rfl,?_⟩) hF ?_
   rotate_left
   ·intro wS hSw;(try dsimp only at hSw);obtain ⟨s1,s2⟩:=hSw;first | (apply Eq.trans;apply ex_ldS_at;exact rfl;exact rfl;assumption;with_reducible rfl) | (go_simp;try with_reducible rfl)
   try simp only [sA1,sA2,sA3,Act.put,sA4,sA5,sA6]
   refine wpAnyH_take (i:=1) (v:=?_) rfl (by kernel_rfl) (by kernel_rfl) (by kernel_rfl) (fun _ _ _ h=>h) (Or.inl ⟨by rfl,?_⟩) hF ?_
   rotate_left
   ·intro wS hSw;(try dsimp only at hSw);obtain ⟨s1,s2⟩:=hSw;first | (apply Eq.trans;apply ex_ldS_at;exact rfl;exact rfl;assumption;with_reducible rfl) | (go_simp;try with_reducible rfl)
   try simp only [sA1,sA2,sA3,Act.put,sA4,sA5,sA6]
   refine wpAnyH_take (i:=2) (v:=?_) rfl (by kernel_rfl) (by kernel_rfl) (by kernel_rfl) (fun _ _ _ h=>h) (Or.inl ⟨by rfl,?_⟩) hF ?_
   rotate_left
   ·intro wS hSw;(try dsimp only at hSw);obtain ⟨s1,s2⟩:=hSw;first | (apply Eq.trans;apply ex_ldS_at;exact rfl;exact rfl;assumption;with_reducible rfl) | (go_simp;try with_reducible rfl)
   try simp only [sA1,sA2,sA3,Act.put,sA4,sA5,sA6]
   refine wpAnyH_take (i:=3) (v:=?_) rfl (by kernel_rfl) (by kernel_rfl) (by kernel_rfl) (fun _ _ _ h=>h) (Or.inl ⟨by rfl,?_⟩) hF ?_
   rotate_left
   ·intro wS hSw;(try dsimp only at hSw);obtain ⟨s1,s2⟩:=hSw;first | (apply Eq.trans;apply ex_ldS_at;exact rfl;exact rfl;assumption;with_reducible rfl) | (go_simp;try with_reducible rfl)
   try simp only [sA1,sA2,sA3,Act.put,sA4,sA5,sA6]
   refine wpAnyH_take (i:=4) (v:=?_) rfl (by kernel_rfl) (by kernel_rfl) (by kernel_rfl) (fun _ _ _ h=>h) (Or.inl ⟨by rfl,?_⟩) hF ?_
   rotate_left
   ·intro wS hSw;(try dsimp only at hSw);obtain ⟨s1,s2⟩:=hSw;first | (apply Eq.trans;apply ex_ldS_at;exact rfl;exact rfl;assumption;with_reducible rfl) | (go_simp;try with_reducible rfl)
   try simp only [sA1,sA2,sA3,Act.put,sA4,sA5,sA6]
   refine wpAnyH_take (i:=5) (v:=?_) rfl (by kernel_rfl) (by kernel_rfl) (by kernel_rfl) (fun _ _ _ h=>h) (Or.inl ⟨by rfl,?_⟩) hF ?_
   rotate_left
   ·intro wS hSw;(try dsimp only at hSw);obtain ⟨s1,s2⟩:=hSw;first | (apply Eq.trans;apply ex_ldS_at;exact rfl;exact rfl;assumption;with_reducible rfl) | (go_simp;try with_reducible rfl)
   try simp only [sA1,sA2,sA3,Act.put,sA4,sA5,sA6]
   by_cases he:nd = s
   ·subst he
    refine wpAnyH_take (i:=6) (v:=?_) rfl (by kernel_rfl) (by kernel_rfl) (by kernel_rfl) (fun _ _ _ h=>h) (Or.inl ⟨by rfl,?_⟩) hF ?_
    rotate_left
    ·intro wS hSw;(try dsimp only at hSw);obtain ⟨s1,s2⟩:=hSw;first | (apply Eq.trans;apply ex_ldS_at;exact rfl;exact rfl;assumption;with_reducible rfl) | (go_simp;try with_reducible rfl)
    try simp only [sA1,sA2,sA3,Act.put,sA4,sA5,sA6]
    refine wpAnyH_done (by kernel_rfl) ?_ _
    clear hF
    go_wp2_with fail
    go_ret
    refine ⟨?_,f0.step0 hf.drew⟩
    rw [idxR_some hlx HND.out (fun j hj=>HNO.out j (by omega) hj)];rfl
   ·skip
    refine wpAnyH_take (i:=6) (v:=?_) rfl (by kernel_rfl) (by kernel_rfl) (by kernel_rfl) (fun _ _ _ h=>h) (Or.inl ⟨by rfl,?_⟩) hF ?_
    rotate_left
    ·intro wS hSw;(try dsimp only at hSw);obtain ⟨s1,s2⟩:=hSw;first | (apply Eq.trans;apply ex_ldS_at;exact rfl;exact rfl;assumption;with_reducible rfl) | (go_simp;try with_reducible rfl)
    try simp only [sA1,sA2,sA3,Act.put,sA4,sA5,sA6]
    refine wpAnyH_done (by kernel_rfl) ?_ _
    clear hF
    go_wp2_with fail
    go_roundg (rs.length - (k + 1))
    case measure=>omega
    case rel=>exact ⟨k + 1,by simp,rfl,by omega,hf.drew,fun j h1 h2=>by
     rcases Nat.lt_succ_iff_lt_or_eq.1 h2 with h3 | rfl
     ·exact HNO.out j h1 h3
     ·rw [HND.out];exact he⟩
  ·have hkn:k = rs.length:=by omega
   subst hkn
   have i1:¬ (rs.length:Int) < (rs.length:Int):=by omega
   go_wp2_with fail
   go_ret
   refine ⟨?_,f0.step0 hf⟩
   rw [idxR_none (fun j hj=>HNO.out j hj (by rw [HLX.out];exact hj))];rfl
def LisR (w:World) (xs:List RwP) (P Q:Nat) (p:St) (b:Bool) (L:Nat) (gk:Nat) (iv:Value) (wr:World):Prop :=
 ∃ (k:Nat) (s:St),iv = .int .i64 (k:Int) ∧ gk = L - k ∧ k ≤ L ∧ codS.bxd wr P = some s ∧ codS.rd wr Q 0 = some p ∧ liesN xs (L - k) s p = b ∧ Fr noB w wr
set_option maxRecDepth 100000 in
set_option maxHeartbeats 2000000 in
theorem r12lies_any (w:World) (A:Option Addr) (c n:Nat) (rs:List RwW) (xs:List RwP) (hn:rs.length = n) (hs:Sl w A (codR.row rs)) (hb:rs.length ≤ 140737488355328) (hX:RwsIn w rs xs) (s p:St) :
  Calls Tryz.prog 35 #[.slice A n c,.agg (codS.A s),.agg (codS.A p)] w (Gives w (.bool (liesR xs s p))):=by
 subst hn
 have f0:Fr noB w ((w.alloc (.cells (codS.A s) 24)).alloc (.cells (codS.A p) 24)):=((Fr.refl noB w).alloc _).alloc _
 have b0:=Cod.bxd_fr0 (bxS_box w s) ((Fr.refl noB _).alloc (.cells (codS.A p) 24))
 have q0:=Cod.rd_new (C:=codS) (w.alloc (.cells (codS.A s) 24)) 24 p
 have hz:(w.alloc (.cells (codS.A s) 24)).heap.size = w.heap.size + 1:=by simp
 rw [hz] at q0
 obtain ⟨b,hb0⟩:∃ b,b = liesR xs s p:=⟨_,rfl⟩
 have HB:=Lib.hid (show liesN xs (rs.length - 0) s p = b by rw [hb0,hX.len];rfl)
 rw [← hb0]
 clear hz hb0
 go_enter Tryz.func35,Tryz.ntmps35
 go_upto_region 1 with fail
 generalize (w.alloc (.cells (codS.A s) 24)).alloc (.cells (codS.A p) 24) = W0 at f0 b0 q0 ⊢
 obtain ⟨P,hP⟩:∃ t,t = w.heap.size:=⟨_,rfl⟩
 obtain ⟨Q,hQ'⟩:∃ t,t = w.heap.size + 1:=⟨_,rfl⟩
 rw [← hP] at b0 ⊢
 rw [← hQ'] at q0
 have HP:=Lib.hid (And.intro hP hQ')
 have eR:P + 1 = Q:=by omega
 rw [eR]
 clear hP hQ' eR
 go_wp2_with fail
 go_loopg [7] rs.length (fun gk iv wr=>LisR w xs P Q p b rs.length gk iv wr)
 case atStart=>exact ⟨0,s,rfl,rfl,by omega,b0,q0,HB.out,f0⟩
 case round =>
  clear b0 f0 q0 HB
  obtain ⟨k,s',rfl,rfl,hk,hbx,hq,hl,hf⟩:=hrel
  by_cases hlt:k < rs.length
  ·have i1:(k:Int) < (rs.length:Int):=by omega
   have q3:=Cod.bxd_rd hbx
   rw [show rs.length - k = (rs.length - (k + 1)) + 1 by omega] at hl
   have hl':(match findR xs s' with | none=>false | some r=>decide (r.Parent = p) || liesN xs (rs.length - (k + 1)) r.Parent p) = b:=hl
   clear hl
   rcases idxR_find xs s' with ⟨h1,h2⟩ | ⟨i,hi,h1,h2⟩
   ·rw [h1] at hl'
    have E:=Lib.hid hl'
    clear hl' h1
    go_wp2_with (go_at_call 66;refine (r12find_any _ A c rs.length rs xs rfl (hs.fr0 hf) hb (hX.fr hf) s').mono ?_;rintro e w2 ⟨rfl,f2⟩;rw [h2])
    go_ret
    exact ⟨by rw [← E.out];rfl,hf.step0 f2⟩
   ·rw [h1] at hl'
    have E:=Lib.hid (show (decide (xs[i].Parent = p) || liesN xs (rs.length - (k + 1)) xs[i].Parent p) = b from hl')
    clear hl' h1
    have hir:i < rs.length:=by rw [hX.len];exact hi
    have j0:¬ (i:Int) < 0:=by omega
    have j1:(0:Int) ≤ (i:Int):=by omega
    have j2:(i:Int) < (rs.length:Int):=by omega
    obtain ⟨g,off,rfl,hg⟩:=hs.adC (by omega)
    have hin:=hX.at_ i hir hi
    have e1:codS.rd wr g (off + i * 8 + 2) = some (rs[i]).Parent:=(rwAtO ((hs.fr0 hf).rd i hir)).parent
    rw [← hin.parent] at e1
    generalize hpp:xs[i].Parent = pp at e1 E
    clear hpp hin
    go_upto_region 5 with (go_at_call 66;refine (r12find_any _ (some ⟨g,off,none⟩) c rs.length rs xs rfl (hs.fr0 hf) hb (hX.fr hf) s').mono ?_;rintro e w2 ⟨rfl,f2⟩;rw [h2])
    have e2:=Cod.rd_fr0 e1 f2
    have hbx2:=Cod.bxd_fr0 hbx f2
    have hst:=okS.stR_box hbx2 pp
    obtain ⟨p1,p2,p3⟩:=Cod.put_fr hbx2 pp
    have q4:=Cod.bxd_rd p3
    have hPQ:=HP.out
    have hq2:=Cod.rd_fr (Cod.rd_fr0 hq f2) p1 (by show ¬ Q = P;omega)
    have F2:=(hf.step0 f2).step1 p1 (by omega)
    have hl2:(decide (pp = p) || liesN xs (rs.length - (k + 1)) pp p) = b:=E.out
    clear q3 hbx hq hPQ
    by_cases he:pp = p
    ·subst he
     go_wp2_with fail
     go_ret
     exact ⟨by rw [← hl2];simp,F2⟩
    ·rw [decide_eq_false he,Bool.false_or] at hl2
     have HL2:=Lib.hid hl2
     clear hl2
     go_wp2_with fail
     go_roundg (rs.length - (k + 1))
     case measure=>omega
     case rel=>exact ⟨k + 1,pp,by simp,rfl,by omega,p3,hq2,HL2.out,F2⟩
  ·have i1:¬ (k:Int) < (rs.length:Int):=by omega
   rw [show rs.length - k = 0 by omega] at hl
   have E:=Lib.hid (show false = b from hl)
   clear hl
   go_wp2_with fail
   go_ret
   exact ⟨by rw [← E.out];rfl,hf⟩
end Go.Proofs.YthehiobacjjakaaGreatDoor
