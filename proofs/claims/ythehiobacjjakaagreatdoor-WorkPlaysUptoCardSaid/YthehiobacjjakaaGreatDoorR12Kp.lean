/- Contract: the reference's SameHeads, of equal heads. (rdI, ex_ldH_at) Contracts: the reference's Find, Lies over rows. (ex_ldS_at) -/
import Derived.Test.YthehiobacjjakaaGreatDoorR4bKp
import Derived.Test.YthehiobacjjakaaGreatDoorDifCKp
set_option linter.unusedVariables false
set_option linter.unusedSimpArgs false
namespace Go.Proofs.YthehiobacjjakaaGreatDoor
open Go.RowKit
theorem A_H (x:Hd):codH.A x = (.int .i64 x.At.T :: .int .i64 x.At.R :: bv x.Data.1).toArray:=Cod.A_eq codH x
theorem eqIn_S (w:World) (d:Nat) (a b:Int):(Op.equalIn (d + 2) 24 (.agg #[.int .i64 a,.int .i64 b]) (.agg #[.int .i64 a,.int .i64 b])).run Tryz.prog w = .ok true w:=by
 rw [run_equalIn_struct w (d + 1) 24 _ _ (by kernel_rfl) (by kernel_rfl)]
 go_simp
theorem eqIn_I (w:World) (d:Nat) (x:ID):(Op.equalIn (d + 2) 33 (encI x) (encI x)).run Tryz.prog w = .ok true w:=by
 simp only [encI,idA_eq]
 have:=run_equalIn_bytes (P:=Tryz.prog) w d 33 5 32 Tryz.underlying33 Tryz.underlying5 (by intro w;kernel_rfl) x.1 x.1 x.2 x.2
 rw [beq_self_eq_true] at this
 exact this
theorem sizeI' (w:World):(sizeOf 33).run Tryz.prog w = .ok 32 w:=Tryz.sizeOf33 w
theorem eq_Hr (w:World) (x:Hd):(binOp .eql 78 (.agg (codH.A x)) (.agg (codH.A x))).run Tryz.prog w = .ok (.bool true) w:=by
 have p1:∀ w,(part 24 (codH.A x) 0).run Tryz.prog w = .ok (.agg #[.int .i64 x.At.T,.int .i64 x.At.R]) w:=fun w=>by
  rw [A_H]
  simp [part,isAgg,run_underlying Tryz.underlying24,Tryz.sizeOf24]
 have p2:∀ w,(part 33 (codH.A x) 2).run Tryz.prog w = .ok (encI x.Data) w:=fun w=>by
  rw [A_H]
  simp only [part,isAgg,Sem.run_bind,run_underlying Tryz.underlying33,Result.andThen_ok,sizeI',Sem.run_pure,if_true,encI,idA_eq]
  congr 2
  have:(Value.int IntKind.i64 x.At.T :: Value.int IntKind.i64 x.At.R :: bv x.Data.1).length = 34:=by simp [x.Data.2]
  apply Array.ext'
  simp only [Array.toList_extract,List.extract_eq_take_drop,List.drop_succ_cons,List.drop_zero]
  rw [List.take_of_length_le (by simp [x.Data.2])]
 rw [run_eql_struct,run_equalIn_struct w 9999 78 _ _ (by kernel_rfl) (by kernel_rfl)]
 have hf : (Tryz.prog.fieldsOf 78).toList.map (fun f => (f.name, f.type, f.offset)) = [("At", 24, 0), ("Data", 33, 2)] := by kernel_rfl
 generalize (Tryz.prog.fieldsOf 78).toList = fs at hf ⊢
 rcases fs with _ | ⟨a,_ | ⟨b,_ | ⟨c,r⟩⟩⟩
 ·simp at hf
 ·simp at hf
 ·simp only [List.map_cons,List.map_nil,List.cons.injEq,Prod.mk.injEq,and_true] at hf
  obtain ⟨⟨n1,t1,o1⟩,n2,t2,o2⟩:=hf
  simp only [Op.eqFields,n1,n2,t1,t2,o1,o2,Sem.run_ite,Sem.run_bind,p1,p2,Result.andThen_ok,eqIn_S w 9997,eqIn_I w 9997]
  simp
 ·simp at hf
@[simp] theorem neq_Hr (w:World) (x:Hd):(binOp .neq 78 (.agg (codH.A x)) (.agg (codH.A x))).run Tryz.prog w = .ok (.bool false) w:=neq_of_eql (eq_Hr w x)
def SmR (W:World) (n:Nat) (gk:Nat) (iv:Value) (wr:World):Prop:=∃ k:Nat,iv = .int .i64 (k:Int) ∧ gk = n - k ∧ k ≤ n ∧ Fr noB W wr
set_option maxRecDepth 100000 in
set_option maxHeartbeats 1000000 in
theorem same_heads (w:World) (A B:Option Addr) (c d n n':Nat) (l:List Hd) (hn:l.length = n) (hn':l.length = n') (hl:Sl w A (codH.row l)) (hm:Sl w B (codH.row l)) (hb:l.length ≤ 140737488355328) :
  Calls Tryz.prog 37 #[.slice A n c,.slice B n' d] w (Gives w (.bool true)):=by
 subst hn
 subst hn'
 have e1:((l.length:Int) != (l.length:Int)) = false:=by simp
 go_enter Tryz.func37,Tryz.ntmps37
 go_upto_region 4 with fail
 go_loopg [5] l.length (fun gk iv wr=>SmR w l.length gk iv wr)
 case atStart=>exact ⟨0,rfl,rfl,by omega,Fr.refl _ _⟩
 case round =>
  obtain ⟨k,rfl,rfl,hk,hf⟩:=hrel
  by_cases hlt:k < l.length
  ·have i1:(k:Int) < (l.length:Int):=by omega
   have i0:(0:Int) ≤ (k:Int):=by omega
   obtain ⟨g,off,rfl⟩:∃ g off,A = some ⟨g,off,none⟩:=by
    obtain ⟨g,off,h,_⟩:=hl (Cod.row_ne (by intro h0;subst h0;simp at hlt))
    exact ⟨g,off,h⟩
   obtain ⟨g',off',rfl⟩:∃ g off,B = some ⟨g,off,none⟩:=by
    obtain ⟨g,off,h,_⟩:=hm (Cod.row_ne (by intro h0;subst h0;simp at hlt))
    exact ⟨g,off,h⟩
   have r0:=(hl.fr0 hf.drew).rd k hlt
   have r1:=(hm.fr0 hf.drew).rd k hlt
   generalize l[k] = x at r0 r1
   go_upto_region 6 with fail
   refine wp_region_H (fun w'=>codH.rd w' g (off + k * 34) = some x ∧ codH.rd w' g' (off' + k * 34) = some x) (by kernel_rfl) ⟨r0,r1⟩ (fun hF=>?_)
   refine wpAnyH_take (i:=0) (v:=?_) rfl (by kernel_rfl) (by kernel_rfl) (by kernel_rfl) (fun _ _ _ h=>h) (Or.inl ⟨by rfl,?_⟩) hF ?_
   rotate_left
   ·intro wS hSw;(try dsimp only at hSw);obtain ⟨s1,s2⟩:=hSw;first | (apply Eq.trans;apply ex_ld_id;exact rfl;exact rfl;assumption;with_reducible rfl) | (apply Eq.trans;apply ex_ldH_at;exact rfl;exact rfl;assumption;with_reducible rfl) | (go_simp;try with_reducible rfl)
   try simp only [sA1,sA2,sA3,Act.put,sA4,sA5,sA6]
   refine wpAnyH_take (i:=1) (v:=?_) rfl (by kernel_rfl) (by kernel_rfl) (by kernel_rfl) (fun _ _ _ h=>h) (Or.inl ⟨by rfl,?_⟩) hF ?_
   rotate_left
   ·intro wS hSw;(try dsimp only at hSw);obtain ⟨s1,s2⟩:=hSw;first | (apply Eq.trans;apply ex_ld_id;exact rfl;exact rfl;assumption;with_reducible rfl) | (apply Eq.trans;apply ex_ldH_at;exact rfl;exact rfl;assumption;with_reducible rfl) | (go_simp;try with_reducible rfl)
   try simp only [sA1,sA2,sA3,Act.put,sA4,sA5,sA6]
   refine wpAnyH_take (i:=2) (v:=?_) rfl (by kernel_rfl) (by kernel_rfl) (by kernel_rfl) (fun _ _ _ h=>h) (Or.inl ⟨by rfl,?_⟩) hF ?_
   rotate_left
   ·intro wS hSw;(try dsimp only at hSw);obtain ⟨s1,s2⟩:=hSw;first | (apply Eq.trans;apply ex_ld_id;exact rfl;exact rfl;assumption;with_reducible rfl) | (apply Eq.trans;apply ex_ldH_at;exact rfl;exact rfl;assumption;with_reducible rfl) | (go_simp;try with_reducible rfl)
   try simp only [sA1,sA2,sA3,Act.put,sA4,sA5,sA6]
   refine wpAnyH_take (i:=3) (v:=?_) rfl (by kernel_rfl) (by kernel_rfl) (by kernel_rfl) (fun _ _ _ h=>h) (Or.inl ⟨by rfl,?_⟩) hF ?_
   rotate_left
   ·intro wS hSw;(try dsimp only at hSw);obtain ⟨s1,s2⟩:=hSw;first | (apply Eq.trans;apply ex_ld_id;exact rfl;exact rfl;assumption;with_reducible rfl) | (apply Eq.trans;apply ex_ldH_at;exact rfl;exact rfl;assumption;with_reducible rfl) | (go_simp;try with_reducible rfl)
   try simp only [sA1,sA2,sA3,Act.put,sA4,sA5,sA6]
   refine wpAnyH_take (i:=4) (v:=?_) rfl (by kernel_rfl) (by kernel_rfl) (by kernel_rfl) (fun _ _ _ h=>h) (Or.inl ⟨by rfl,?_⟩) hF ?_
   rotate_left
   ·intro wS hSw;(try dsimp only at hSw);obtain ⟨s1,s2⟩:=hSw;first | (apply Eq.trans;apply ex_ld_id;exact rfl;exact rfl;assumption;with_reducible rfl) | (apply Eq.trans;apply ex_ldH_at;exact rfl;exact rfl;assumption;with_reducible rfl) | (go_simp;try with_reducible rfl)
   try simp only [sA1,sA2,sA3,Act.put,sA4,sA5,sA6]
   refine wpAnyH_take (i:=5) (v:=?_) rfl (by kernel_rfl) (by kernel_rfl) (by kernel_rfl) (fun _ _ _ h=>h) (Or.inl ⟨by rfl,?_⟩) hF ?_
   rotate_left
   ·intro wS hSw;(try dsimp only at hSw);obtain ⟨s1,s2⟩:=hSw;first | (apply Eq.trans;apply ex_ld_id;exact rfl;exact rfl;assumption;with_reducible rfl) | (apply Eq.trans;apply ex_ldH_at;exact rfl;exact rfl;assumption;with_reducible rfl) | (go_simp;try with_reducible rfl)
   try simp only [sA1,sA2,sA3,Act.put,sA4,sA5,sA6]
   refine wpAnyH_take (i:=6) (v:=?_) rfl (by kernel_rfl) (by kernel_rfl) (by kernel_rfl) (fun _ _ _ h=>h) (Or.inl ⟨by rfl,?_⟩) hF ?_
   rotate_left
   ·intro wS hSw;(try dsimp only at hSw);obtain ⟨s1,s2⟩:=hSw;first | (apply Eq.trans;apply ex_ld_id;exact rfl;exact rfl;assumption;with_reducible rfl) | (apply Eq.trans;apply ex_ldH_at;exact rfl;exact rfl;assumption;with_reducible rfl) | (go_simp;try with_reducible rfl)
   try simp only [sA1,sA2,sA3,Act.put,sA4,sA5,sA6]
   refine wpAnyH_take (i:=7) (v:=?_) rfl (by kernel_rfl) (by kernel_rfl) (by kernel_rfl) (fun _ _ _ h=>h) (Or.inl ⟨by rfl,?_⟩) hF ?_
   rotate_left
   ·intro wS hSw;(try dsimp only at hSw);obtain ⟨s1,s2⟩:=hSw;first | (apply Eq.trans;apply ex_ld_id;exact rfl;exact rfl;assumption;with_reducible rfl) | (apply Eq.trans;apply ex_ldH_at;exact rfl;exact rfl;assumption;with_reducible rfl) | (go_simp;try with_reducible rfl)
   try simp only [sA1,sA2,sA3,Act.put,sA4,sA5,sA6]
   refine wpAnyH_take (i:=8) (v:=?_) rfl (by kernel_rfl) (by kernel_rfl) (by kernel_rfl) (fun _ _ _ h=>h) (Or.inl ⟨by rfl,?_⟩) hF ?_
   rotate_left
   ·intro wS hSw;(try dsimp only at hSw);obtain ⟨s1,s2⟩:=hSw;first | (apply Eq.trans;apply ex_ld_id;exact rfl;exact rfl;assumption;with_reducible rfl) | (apply Eq.trans;apply ex_ldH_at;exact rfl;exact rfl;assumption;with_reducible rfl) | (go_simp;try with_reducible rfl)
   try simp only [sA1,sA2,sA3,Act.put,sA4,sA5,sA6]
   refine wpAnyH_done (by kernel_rfl) ?_ _
   clear hF
   go_wp2_with fail
   go_roundg (l.length - (k + 1))
   case measure=>omega
   case rel=>exact ⟨k + 1,by simp,rfl,by omega,hf.drew⟩
  ·have hkn:k = l.length:=by omega
   subst hkn
   have i1:¬ (l.length:Int) < (l.length:Int):=by omega
   go_wp2_with fail
   go_ret
   exact ⟨rfl,hf⟩
def idxN (s:St):List RwP → Int → Int
 | [],_=>-1
 | x :: l,k=>if x.Node = s then k else idxN s l (k + 1)
def idxR (xs:List RwP) (s:St):Int:=idxN s xs 0
theorem idxN_some {s:St}:∀ {l:List RwP} {i:Nat} {k:Int} (h:i < l.length),l[i].Node = s → (∀ j (hj:j < i),(l[j]'(by omega)).Node ≠ s) → idxN s l k = k + i
 | x :: l,0,k,h,h1,h2=>by
  unfold idxN
  rw [if_pos (by simpa using h1)];simp
 | x :: l,i + 1,k,h,h1,h2=>by
  unfold idxN
  have h0:=h2 0 (by omega)
  rw [if_neg (by simpa using h0),idxN_some (i:=i) (k:=k + 1) (by simpa using h) (by simpa using h1) (fun j hj=>by have:=h2 (j + 1) (by omega);simpa using this)]
  omega
theorem idxN_none {s:St}:∀ {l:List RwP} {k:Int},(∀ j (hj:j < l.length),l[j].Node ≠ s) → idxN s l k = -1
 | [],k,h=>rfl
 | x :: l,k,h=>by
  unfold idxN
  have h0:=h 0 (by simp)
  rw [if_neg (by simpa using h0)]
  exact idxN_none fun j hj=>by have:=h (j + 1) (by simpa using hj);simpa using this
theorem idxR_some {xs:List RwP} {s:St} {i:Nat} (h:i < xs.length) (h1:xs[i].Node = s) (h2:∀ j (hj:j < i),(xs[j]'(by omega)).Node ≠ s):idxR xs s = i:=by
 unfold idxR;rw [idxN_some h h1 h2];omega
theorem idxR_none {xs:List RwP} {s:St} (h:∀ j (hj:j < xs.length),xs[j].Node ≠ s):idxR xs s = -1:=idxN_none h
theorem idxN_find {s:St}:∀ (l:List RwP) (k:Int),(findR l s = none ∧ idxN s l k = -1) ∨ ∃ (i:Nat) (h:i < l.length),findR l s = some l[i] ∧ idxN s l k = k + i
 | [],k=>.inl ⟨rfl,rfl⟩
 | x :: l,k=>by
  unfold idxN
  by_cases h:x.Node = s
  ·refine .inr ⟨0,by simp,?_,?_⟩
   ·unfold findR;rw [List.find?_cons];simp [h]
   ·rw [if_pos h];simp
  ·rw [if_neg h]
   have e:findR (x :: l) s = findR l s:=by unfold findR;rw [List.find?_cons];simp [h]
   rw [e]
   rcases idxN_find l (k + 1) with ⟨h1,h2⟩ | ⟨i,hi,h1,h2⟩
   ·exact .inl ⟨h1,h2⟩
   ·exact .inr ⟨i + 1,by simpa using hi,by simpa using h1,by rw [h2];omega⟩
theorem idxR_find (xs:List RwP) (s:St):(findR xs s = none ∧ idxR xs s = -1) ∨ ∃ (i:Nat) (h:i < xs.length),findR xs s = some xs[i] ∧ idxR xs s = (i:Int):=by
 rcases idxN_find (s:=s) xs 0 with h | ⟨i,hi,h1,h2⟩
 ·exact .inl h
 ·exact .inr ⟨i,hi,h1,by show idxN s xs 0 = _;rw [h2];omega⟩
set_option maxRecDepth 100000 in
set_option maxHeartbeats 1000000 in
theorem r12find_any (w:World) (A:Option Addr) (c n:Nat) (rs:List RwW) (xs:List RwP) (hn:rs.length = n) (hs:Sl w A (codR.row rs)) (hb:rs.length ≤ 140737488355328) (hX:RwsIn w rs xs) (s:St) :
  Calls Tryz.prog 66 #[.slice A n c,.agg (codS.A s)] w (Gives w (.int .i64 (idxR xs s))):=by
 subst hn
 have HLX:=Lib.hid hX.len
 have f0:Fr noB w (w.alloc (.cells (codS.A s) 24)):=(Fr.refl noB w).alloc _
 have q0:=Cod.rd_new (C:=codS) w 24 s
 have hP:w.heap.size < (w.alloc (.cells (codS.A s) 24)).heap.size:=by simp
 go_enter Tryz.func66,Tryz.ntmps66
 go_upto_region 1 with fail
 replace hs:=hs.fr0 f0
 generalize w.alloc (.cells (codS.A s) 24) = W0 at f0 q0 hP hs ⊢
 generalize w.heap.size = P at q0 hP ⊢
 go_wp2_with fail
 go_loopg [5] rs.length (fun gk iv wr=>∃ k:Nat,iv = .int .i64 (k:Int) ∧ gk = rs.length - k ∧ k ≤ rs.length ∧ Fr noB W0 wr ∧ (∀ j (h:j < xs.length),j < k → xs[j].Node ≠ s))
 case atStart=>exact ⟨0,rfl,rfl,by omega,Fr.refl _ _,fun j _ h=>absurd h (by omega)⟩
 case round =>
  obtain ⟨k,rfl,rfl,hk,hf,hno⟩:=hrel
  have HNO:=Lib.hid hno
  clear hno
  by_cases hlt:k < rs.length
  ·have i1:(k:Int) < (rs.length:Int):=by omega
   have i0:(0:Int) ≤ (k:Int):=by omega
   obtain ⟨g,off,rfl,hg⟩:=hs.adC (by omega)
   have hlx:k < xs.length:=by rw [← HLX.out];exact hlt
   have hin:=hX.at_ k hlt hlx
   have e1:=(rwAtO ((hs.fr0 hf).rd k hlt)).node
   rw [← hin.node] at e1
   have q1:=(hf.same.st _ 0 hP).trans q0
   clear hin
   generalize hnd:xs[k].Node = nd at e1
   have HND:=Lib.hid hnd
   clear hnd
   go_upto_region 4 with fail
   refine wp_region_H (fun w'=>codS.rd w' g (off + k * 8) = some nd ∧ codS.rd w' P 0 = some s) (by kernel_rfl) ⟨Cod.rd_fr0 e1 (Fr.refl noB _).drew,Cod.rd_fr0 q1 (Fr.refl noB _).drew⟩ (fun hF=>?_)
   refine wpAnyH_take (i:=0) (v:=?_) rfl (by kernel_rfl) (by kernel_rfl) (by kernel_rfl) (fun _ _ _ h=>h) (Or.inl ⟨by rfl,?_⟩) hF ?_
   rotate_left
   ·intro wS hSw;(try dsimp only at hSw);obtain ⟨s1,s2⟩:=hSw;first | (apply Eq.trans;apply ex_ldS_at;exact rfl;exact rfl;assumption;with_reducible rfl) | (go_simp;try with_reducible rfl)
   try simp only [sA1,sA2,sA3,Act.put,sA4,sA5,sA6]
   refine wpAnyH_take (i:=1) (v:=?_) rfl (by kernel_rfl) (by kernel_rfl) (by kernel_rfl) (fun _ _ _ h=>h) (Or.inl ⟨by rfl,?_⟩) hF ?_
   rotate_left
   ·intro wS hSw;(try dsimp only at hSw);obtain ⟨s1,s2⟩:=hSw;first | (apply Eq.trans;apply ex_ldS_at;exact rfl;exact rfl;assumption;with_reducible rfl) | (go_simp;try with_reducible rfl)
   try simp only [sA1,sA2,sA3,Act.put,sA4,sA5,sA6]
   refine wpAnyH_take (i:=2) (v:=?_) rfl (by kernel_rfl) (by kernel_rfl) (by kernel_rfl) (fun _ _ _ h=>h) (Or.inl ⟨by rfl,?_⟩) hF ?_
   rotate_left
   ·intro wS hSw;(try dsimp only at hSw);obtain ⟨s1,s2⟩:=hSw;first | (apply Eq.trans;apply ex_ldS_at;exact rfl;exact rfl;assumption;with_reducible rfl) | (go_simp;try with_reducible rfl)
   try simp only [sA1,sA2,sA3,Act.put,sA4,sA5,sA6]
   refine wpAnyH_take (i:=3) (v:=?_) rfl (by kernel_rfl) (by kernel_rfl) (by kernel_rfl) (fun _ _ _ h=>h) (Or.inl ⟨by rfl,?_⟩) hF ?_
   rotate_left
   ·intro wS hSw;(try dsimp only at hSw);obtain ⟨s1,s2⟩:=hSw;first | (apply Eq.trans;apply ex_ldS_at;exact rfl;exact rfl;assumption;with_reducible rfl) | (go_simp;try with_reducible rfl)
   try simp only [sA1,sA2,sA3,Act.put,sA4,sA5,sA6]
   refine wpAnyH_take (i:=4) (v:=?_) rfl (by kernel_rfl) (by kernel_rfl) (by kernel_rfl) (fun _ _ _ h=>h) (Or.inl ⟨by rfl,?_⟩) hF ?_
   rotate_left
   ·intro wS hSw;(try dsimp only at hSw);obtain ⟨s1,s2⟩:=hSw;first | (apply Eq.trans;apply ex_ldS_at;exact rfl;exact rfl;assumption;with_reducible rfl) | (go_simp;try with_reducible rfl)
   try simp only [sA1,sA2,sA3,Act.put,sA4,sA5,sA6]
   refine wpAnyH_take (i:=5) (v:=?_) rfl (by kernel_rfl) (by kernel_rfl) (by kernel_rfl) (fun _ _ _ h=>h) (Or.inl ⟨by rfl,?_⟩) hF ?_
   rotate_left
   ·intro wS hSw;(try dsimp only at hSw);obtain ⟨s1,s2⟩:=hSw;first | (apply Eq.trans;apply ex_ldS_at;exact rfl;exact rfl;assumption;with_reducible rfl) | (go_simp;try with_reducible rfl)
   try simp only [sA1,sA2,sA3,Act.put,sA4,sA5,sA6]
   by_cases he:nd = s
   ·subst he
    refine wpAnyH_take (i:=6) (v:=?_) rfl (by kernel_rfl) (by kernel_rfl) (by kernel_rfl) (fun _ _ _ h=>h) (Or.inl ⟨by rfl,?_⟩) hF ?_
    rotate_left
    ·intro wS hSw;(try dsimp only at hSw);obtain ⟨s1,s2⟩:=hSw;first | (apply Eq.trans;apply ex_ldS_at;exact rfl;exact rfl;assumption;with_reducible rfl) | (go_simp;try with_reducible rfl)
    try simp only [sA1,sA2,sA3,Act.put,sA4,sA5,sA6]
    refine wpAnyH_done (by kernel_rfl) ?_ _
    clear hF
    go_wp2_with fail
    go_ret
    refine ⟨?_,f0.step0 hf.drew⟩
    rw [idxR_some hlx HND.out (fun j hj=>HNO.out j (by omega) hj)];rfl
   ·skip
    refine wpAnyH_take (i:=6) (v:=?_) rfl (by kernel_rfl) (by kernel_rfl) (by kernel_rfl) (fun _ _ _ h=>h) (Or.inl ⟨by rfl,?_⟩) hF ?_
    rotate_left
    ·intro wS hSw;(try dsimp only at hSw);obtain ⟨s1,s2⟩:=hSw;first | (apply Eq.trans;apply ex_ldS_at;exact rfl;exact rfl;assumption;with_reducible rfl) | (go_simp;try with_reducible rfl)
    try simp only [sA1,sA2,sA3,Act.put,sA4,sA5,sA6]
    refine wpAnyH_done (by kernel_rfl) ?_ _
    clear hF
    go_wp2_with fail
    go_roundg (rs.length - (k + 1))
    case measure=>omega
    case rel=>exact ⟨k + 1,by simp,rfl,by omega,hf.drew,fun j h1 h2=>by
     rcases Nat.lt_succ_iff_lt_or_eq.1 h2 with h3 | rfl
     ·exact HNO.out j h1 h3
     ·rw [HND.out];exact he⟩
  ·have hkn:k = rs.length:=by omega
   subst hkn
   have i1:¬ (rs.length:Int) < (rs.length:Int):=by omega
   go_wp2_with fail
   go_ret
   refine ⟨?_,f0.step0 hf⟩
   rw [idxR_none (fun j hj=>HNO.out j hj (by rw [HLX.out];exact hj))];rfl
def LisR (w:World) (xs:List RwP) (P Q:Nat) (p:St) (b:Bool) (L:Nat) (gk:Nat) (iv:Value) (wr:World):Prop :=
 ∃ (k:Nat) (s:St),iv = .int .i64 (k:Int) ∧ gk = L - k ∧ k ≤ L ∧ codS.bxd wr P = some s ∧ codS.rd wr Q 0 = some p ∧ liesN xs (L - k) s p = b ∧ Fr noB w wr
set_option maxRecDepth 100000 in
set_option maxHeartbeats 2000000 in
theorem r12lies_any (w:World) (A:Option Addr) (c n:Nat) (rs:List RwW) (xs:List RwP) (hn:rs.length = n) (hs:Sl w A (codR.row rs)) (hb:rs.length ≤ 140737488355328) (hX:RwsIn w rs xs) (s p:St) :
  Calls Tryz.prog 35 #[.slice A n c,.agg (codS.A s),.agg (codS.A p)] w (Gives w (.bool (liesR xs s p))):=by
 subst hn
 have f0:Fr noB w ((w.alloc (.cells (codS.A s) 24)).alloc (.cells (codS.A p) 24)):=((Fr.refl noB w).alloc _).alloc _
 have b0:=Cod.bxd_fr0 (bxS_box w s) ((Fr.refl noB _).alloc (.cells (codS.A p) 24))
 have q0:=Cod.rd_new (C:=codS) (w.alloc (.cells (codS.A s) 24)) 24 p
 have hz:(w.alloc (.cells (codS.A s) 24)).heap.size = w.heap.size + 1:=by simp
 rw [hz] at q0
 obtain ⟨b,hb0⟩:∃ b,b = liesR xs s p:=⟨_,rfl⟩
 have HB:=Lib.hid (show liesN xs (rs.length - 0) s p = b by rw [hb0,hX.len];rfl)
 rw [← hb0]
 clear hz hb0
 go_enter Tryz.func35,Tryz.ntmps35
 go_upto_region 1 with fail
 generalize (w.alloc (.cells (codS.A s) 24)).alloc (.cells (codS.A p) 24) = W0 at f0 b0 q0 ⊢
 obtain ⟨P,hP⟩:∃ t,t = w.heap.size:=⟨_,rfl⟩
 obtain ⟨Q,hQ'⟩:∃ t,t = w.heap.size + 1:=⟨_,rfl⟩
 rw [← hP] at b0 ⊢
 rw [← hQ'] at q0
 have HP:=Lib.hid (And.intro hP hQ')
 have eR:P + 1 = Q:=by omega
 rw [eR]
 clear hP hQ' eR
 go_wp2_with fail
 go_loopg [7] rs.length (fun gk iv wr=>LisR w xs P Q p b rs.length gk iv wr)
 case atStart=>exact ⟨0,s,rfl,rfl,by omega,b0,q0,HB.out,f0⟩
 case round =>
  clear b0 f0 q0 HB
  obtain ⟨k,s',rfl,rfl,hk,hbx,hq,hl,hf⟩:=hrel
  by_cases hlt:k < rs.length
  ·have i1:(k:Int) < (rs.length:Int):=by omega
   have q3:=Cod.bxd_rd hbx
   rw [show rs.length - k = (rs.length - (k + 1)) + 1 by omega] at hl
   have hl':(match findR xs s' with | none=>false | some r=>decide (r.Parent = p) || liesN xs (rs.length - (k + 1)) r.Parent p) = b:=hl
   clear hl
   rcases idxR_find xs s' with ⟨h1,h2⟩ | ⟨i,hi,h1,h2⟩
   ·rw [h1] at hl'
    have E:=Lib.hid hl'
    clear hl' h1
    go_wp2_with (go_at_call 66;refine (r12find_any _ A c rs.length rs xs rfl (hs.fr0 hf) hb (hX.fr hf) s').mono ?_;rintro e w2 ⟨rfl,f2⟩;rw [h2])
    go_ret
    exact ⟨by rw [← E.out];rfl,hf.step0 f2⟩
   ·rw [h1] at hl'
    have E:=Lib.hid (show (decide (xs[i].Parent = p) || liesN xs (rs.length - (k + 1)) xs[i].Parent p) = b from hl')
    clear hl' h1
    have hir:i < rs.length:=by rw [hX.len];exact hi
    have j0:¬ (i:Int) < 0:=by omega
    have j1:(0:Int) ≤ (i:Int):=by omega
    have j2:(i:Int) < (rs.length:Int):=by omega
    obtain ⟨g,off,rfl,hg⟩:=hs.adC (by omega)
    have hin:=hX.at_ i hir hi
    have e1:codS.rd wr g (off + i * 8 + 2) = some (rs[i]).Parent:=(rwAtO ((hs.fr0 hf).rd i hir)).parent
    rw [← hin.parent] at e1
    generalize hpp:xs[i].Parent = pp at e1 E
    clear hpp hin
    go_upto_region 5 with (go_at_call 66;refine (r12find_any _ (some ⟨g,off,none⟩) c rs.length rs xs rfl (hs.fr0 hf) hb (hX.fr hf) s').mono ?_;rintro e w2 ⟨rfl,f2⟩;rw [h2])
    have e2:=Cod.rd_fr0 e1 f2
    have hbx2:=Cod.bxd_fr0 hbx f2
    have hst:=okS.stR_box hbx2 pp
    obtain ⟨p1,p2,p3⟩:=Cod.put_fr hbx2 pp
    have q4:=Cod.bxd_rd p3
    have hPQ:=HP.out
    have hq2:=Cod.rd_fr (Cod.rd_fr0 hq f2) p1 (by show ¬ Q = P;omega)
    have F2:=(hf.step0 f2).step1 p1 (by omega)
    have hl2:(decide (pp = p) || liesN xs (rs.length - (k + 1)) pp p) = b:=E.out
    clear q3 hbx hq hPQ
    by_cases he:pp = p
    ·subst he
     go_wp2_with fail
     go_ret
     exact ⟨by rw [← hl2];simp,F2⟩
    ·rw [decide_eq_false he,Bool.false_or] at hl2
     have HL2:=Lib.hid hl2
     clear hl2
     go_wp2_with fail
     go_roundg (rs.length - (k + 1))
     case measure=>omega
     case rel=>exact ⟨k + 1,pp,by simp,rfl,by omega,p3,hq2,HL2.out,F2⟩
  ·have i1:¬ (k:Int) < (rs.length:Int):=by omega
   rw [show rs.length - k = 0 by omega] at hl
   have E:=Lib.hid (show false = b from hl)
   clear hl
   go_wp2_with fail
   go_ret
   exact ⟨by rw [← E.out];rfl,hf⟩
set_option maxRecDepth 100000 in
set_option maxHeartbeats 2000000 in
theorem r12same_any (w:World) (A B:Option Addr) (c d n m:Nat) (rs ss:List RwW) (xs:List RwP) (hn:rs.length = n) (hm:ss.length = m) (hA:Sl w A (codR.row rs)) (hB:Sl w B (codR.row ss)) (hX:RwsIn w rs xs) (hY:RwsIn w ss xs) (hb:rs.length ≤ 140737488355328) :
  Calls Tryz.prog 16 #[.slice A n c,.slice B m d] w (Gives w (.bool true)):=by
 have hnm:n = m:=by rw [← hn,← hm,hX.len,hY.len]
 subst hn
 subst hnm
 have e1:((rs.length:Int) != (rs.length:Int)) = false:=by simp
 have HM:=Lib.hid hm
 have HLX:=Lib.hid hX.len
 clear hm
 go_enter Tryz.func16,Tryz.ntmps16
 go_upto_region 3 with fail
 go_upto_region 4 with fail
 go_loopg [5] rs.length (fun gk iv wr=>SmR w rs.length gk iv wr)
 case atStart=>exact ⟨0,rfl,rfl,by omega,Fr.refl _ _⟩
 case round =>
  obtain ⟨k,rfl,rfl,hk,hf⟩:=hrel
  by_cases hlt:k < rs.length
  ·have i1:(k:Int) < (rs.length:Int):=by omega
   have i0:(0:Int) ≤ (k:Int):=by omega
   have hlt2:k < ss.length:=by rw [HM.out];exact hlt
   have hltx:k < xs.length:=by rw [← HLX.out];exact hlt
   obtain ⟨g,off,rfl,hg⟩:=hA.adC (by omega)
   obtain ⟨g',off',rfl,hg'⟩:=hB.adC (by omega)
   have r1:=hX.at_ k hlt hltx
   have r2:=hY.at_ k hlt2 hltx
   have q:RwAtO wr g (off + k * 8) rs[k]:=rwAtO ((hA.fr0 hf).rd k hlt)
   have q':RwAtO wr g' (off' + k * 8) ss[k]:=rwAtO ((hB.fr0 hf).rd k hlt2)
   replace hg:=Nat.lt_of_lt_of_le hg hf.size
   replace hg':=Nat.lt_of_lt_of_le hg' hf.size
   generalize rs[k] = r at r1 q
   generalize ss[k] = s at r2 q'
   generalize xs[k] = x at r1 r2
   have D1:∀ wS,Fr noB wr wS → Calls Tryz.prog 37 #[.slice r.A r.n r.c,.slice s.A s.n s.c] wS (Gives wS (.bool true)):=fun wS f=>same_heads wS r.A s.A r.c s.c r.n s.n x.Heads r1.len r2.len ((r1.sl.fr0 hf).fr0 f) ((r2.sl.fr0 hf).fr0 f) r1.bd
   obtain ⟨a1,a2,a3,a4,a5,a6⟩:=q
   obtain ⟨b1,b2,b3,b4,b5,b6⟩:=q'
   rw [← r2.node,r1.node] at b1
   rw [← r2.parent,r1.parent] at b2
   rw [← r2.at_,r1.at_] at b3
   rw [← r2.name,r1.name] at b4
   clear r1 r2 a6 b6
   go_upto_region 6 with fail
   refine wp_region_fr (by kernel_rfl) (by kernel_rfl) ?_
   iterate 61
    refine wpQ_take (v:=?_) (by rfl) (fun wS hS=>?_) ?_
    rotate_left
    ·obtain ⟨L1,L2,L3,L4,L5,L6⟩:=Fr.same hS;go_simp;try with_reducible rfl
    try simp only [sA1,sA2,sA3,Act.put,sA4,sA5,sA6]
   refine wpQ_call (by rfl) (fun wS hS=>⟨_,_,?qh283,Calls.fr hS (D1 _ hS)⟩) ?qk283
   case qh283=>obtain ⟨L1,L2,L3,L4,L5,L6⟩:=Fr.same hS;go_simp;try with_reducible rfl
   try simp only [sA1,sA2,sA3,Act.put,sA4,sA5,sA6]
   iterate 2
    refine wpQ_take (v:=?_) (by rfl) (fun wS hS=>?_) ?_
    rotate_left
    ·obtain ⟨L1,L2,L3,L4,L5,L6⟩:=Fr.same hS;go_simp;try with_reducible rfl
    try simp only [sA1,sA2,sA3,Act.put,sA4,sA5,sA6]
   refine wpQ_nil ?_
   intro w1 f1
   go_wp2_with fail
   go_roundg (rs.length - (k + 1))
   case measure=>omega
   case rel=>exact ⟨k + 1,by simp,rfl,by omega,hf.step0 f1⟩
  ·have hkn:k = rs.length:=by omega
   subst hkn
   have i1:¬ (rs.length:Int) < (rs.length:Int):=by omega
   go_wp2_with fail
   go_ret
   exact ⟨rfl,hf⟩
end Go.Proofs.YthehiobacjjakaaGreatDoor
