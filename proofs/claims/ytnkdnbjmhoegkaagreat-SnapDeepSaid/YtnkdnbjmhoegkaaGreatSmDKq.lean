/- Contracts: the reference's SameHeads and Same of rows: are they equal? (rdI, ex_ldH_at, ex_ldS_at) -/
import Derived.Test.YtnkdnbjmhoegkaaGreatGlSKq
set_option linter.unusedVariables false
set_option linter.unusedSimpArgs false
namespace Go.Proofs.YtnkdnbjmhoegkaaGreat
open Go.RowKit
theorem eqIn_S2 (w:World) (d:Nat) (x y:St):(Op.equalIn (d + 2) 24 (.agg #[.int .i64 x.T,.int .i64 x.R]) (.agg #[.int .i64 y.T,.int .i64 y.R])).run Tryz.prog w = .ok (decide (x = y)) w:=by
 rw [run_equalIn_struct w (d + 1) 24 _ _ (by kernel_rfl) (by kernel_rfl),decS]
 go_simp
 by_cases h1:x.T = y.T <;> by_cases h2:x.R = y.R <;> simp [h1,h2]
theorem eqIn_I2 (w:World) (d:Nat) (x y:ID):(Op.equalIn (d + 2) 34 (encI x) (encI y)).run Tryz.prog w = .ok (decide (x = y)) w:=by
 simp only [encI,idA_eq]
 have:=run_equalIn_bytes (P:=Tryz.prog) w d 34 5 32 Tryz.underlying34 Tryz.underlying5 (by intro w;kernel_rfl) x.1 y.1 x.2 y.2
 refine this.trans ?_
 have e:(x.1 == y.1) = decide (x = y):=by
  rw [Bool.eq_iff_iff,beq_iff_eq,decide_eq_true_eq]
  exact Subtype.ext_iff.symm
 rw [e]
noncomputable instance:DecidableEq Hd:=fun a b=>Classical.propDecidable _
noncomputable instance:DecidableEq RwP:=fun a b=>Classical.propDecidable _
theorem eq_H2 (w:World) (x y:Hd):(binOp .eql 49 (.agg (codH.A x)) (.agg (codH.A y))).run Tryz.prog w = .ok (.bool (decide (x = y))) w:=by
 have p1:∀ (x:Hd) w,(part 24 (codH.A x) 0).run Tryz.prog w = .ok (.agg #[.int .i64 x.At.T,.int .i64 x.At.R]) w:=fun x w=>by
  rw [A_H]
  simp [part,isAgg,run_underlying Tryz.underlying24,Tryz.sizeOf24]
 have p2:∀ (x:Hd) w,(part 34 (codH.A x) 2).run Tryz.prog w = .ok (encI x.Data) w:=fun x w=>by
  rw [A_H]
  simp only [part,isAgg,Sem.run_bind,run_underlying Tryz.underlying34,Result.andThen_ok,sizeI',Sem.run_pure,if_true,encI,idA_eq]
  congr 2
  have:(Value.int IntKind.i64 x.At.T :: Value.int IntKind.i64 x.At.R :: bv x.Data.1).length = 34:=by simp [x.Data.2]
  apply Array.ext'
  simp only [Array.toList_extract,List.extract_eq_take_drop,List.drop_succ_cons,List.drop_zero]
  rw [List.take_of_length_le (by simp [x.Data.2])]
 have hd:decide (x = y) = (decide (x.At = y.At) && decide (x.Data = y.Data)):=by
  obtain ⟨a,b⟩:=x;obtain ⟨c,d⟩:=y
  rw [Bool.eq_iff_iff];simp
 rw [run_eql_struct,run_equalIn_struct w 9999 49 _ _ (by kernel_rfl) (by kernel_rfl),hd]
 have hf : (Tryz.prog.fieldsOf 49).toList.map (fun f => (f.name, f.type, f.offset)) = [("At", 24, 0), ("Data", 34, 2)] := by kernel_rfl
 generalize (Tryz.prog.fieldsOf 49).toList = fs at hf ⊢
 rcases fs with _ | ⟨a,_ | ⟨b,_ | ⟨c,r⟩⟩⟩
 ·simp at hf
 ·simp at hf
 ·simp only [List.map_cons,List.map_nil,List.cons.injEq,Prod.mk.injEq,and_true] at hf
  obtain ⟨⟨n1,t1,o1⟩,n2,t2,o2⟩:=hf
  simp only [Op.eqFields,n1,n2,t1,t2,o1,o2,Sem.run_ite,Sem.run_bind,p1,p2,Result.andThen_ok,eqIn_S2 w 9997,eqIn_I2 w 9997]
  by_cases h1:x.At = y.At <;> by_cases h2:x.Data = y.Data <;> simp [h1,h2]
 ·simp at hf
theorem neq_H2 (w:World) (x y:Hd):(binOp .neq 49 (.agg (codH.A x)) (.agg (codH.A y))).run Tryz.prog w = .ok (.bool (!decide (x = y))) w:=neq_of_eql (eq_H2 w x y)
noncomputable def sameHL:List Hd → List Hd → Bool
 | [],[]=>true
 | x :: xs,y :: ys=>decide (x = y) && sameHL xs ys
 | _,_=>false
theorem sameHL_eq:∀ xs ys:List Hd,sameHL xs ys = decide (xs = ys)
 | [],[]=>by simp [sameHL]
 | [],_ :: _=>by simp [sameHL]
 | _ :: _,[]=>by simp [sameHL]
 | x :: xs,y :: ys=>by
  rw [Bool.eq_iff_iff]
  simp [sameHL,sameHL_eq xs ys]
theorem sameHL_drop {xs ys:List Hd} {k:Nat} (h:k < xs.length) (h':k < ys.length):sameHL (xs.drop k) (ys.drop k) = (decide (xs[k] = ys[k]) && sameHL (xs.drop (k + 1)) (ys.drop (k + 1))):=by
 rw [List.drop_eq_getElem_cons h,List.drop_eq_getElem_cons h']
 rfl
def SmHL (W:World) (xs ys:List Hd) (n:Nat) (res:Bool) (gk:Nat) (iv:Value) (wr:World):Prop:=∃ k:Nat,iv = .int .i64 (k:Int) ∧ gk = n - k ∧ k ≤ n ∧ sameHL (xs.drop k) (ys.drop k) = res ∧ Fr noB W wr
set_option maxRecDepth 100000 in
set_option maxHeartbeats 1000000 in
theorem sameHeads_any (w:World) (A B:Option Addr) (c d n n':Nat) (l m:List Hd) (hn:l.length = n) (hn':m.length = n') (hl:Sl w A (codH.row l)) (hm:Sl w B (codH.row m)) (hb:l.length ≤ 140737488355328) (hb':m.length ≤ 140737488355328) :
  Calls Tryz.prog 29 #[.slice A n c,.slice B n' d] w (Gives w (.bool (decide (l = m)))):=by
 subst hn
 subst hn'
 rw [← sameHL_eq]
 by_cases hlm:l.length = m.length
 ·have e1:((l.length:Int) != (m.length:Int)) = false:=by simp [hlm]
  have HM:=Lib.hid hlm.symm
  obtain ⟨res,hres⟩:∃ r,r = sameHL l m:=⟨_,rfl⟩
  have HRES:=Lib.hid (show sameHL (l.drop 0) (m.drop 0) = res by rw [hres];rfl)
  rw [← hres]
  clear hlm hres
  go_enter Tryz.func29,Tryz.ntmps29
  go_upto_region 4 with fail
  go_loopg [5] l.length (fun gk iv wr=>SmHL w l m l.length res gk iv wr)
  case atStart=>exact ⟨0,rfl,rfl,by omega,HRES.out,Fr.refl _ _⟩
  case round =>
   clear HRES
   obtain ⟨k,rfl,rfl,hk,hsm,hf⟩:=hrel
   by_cases hlt:k < l.length
   ·have i1:(k:Int) < (l.length:Int):=by omega
    have i0:(0:Int) ≤ (k:Int):=by omega
    have hlt2:k < m.length:=by rw [HM.out];exact hlt
    have i2:(k:Int) < (m.length:Int):=by omega
    obtain ⟨g,off,rfl⟩:∃ g off,A = some ⟨g,off,none⟩:=by
     obtain ⟨g,off,h,_⟩:=hl (Cod.row_ne (by intro h0;subst h0;simp at hlt))
     exact ⟨g,off,h⟩
    obtain ⟨g',off',rfl⟩:∃ g off,B = some ⟨g,off,none⟩:=by
     obtain ⟨g,off,h,_⟩:=hm (Cod.row_ne (by intro h0;subst h0;simp at hlt2))
     exact ⟨g,off,h⟩
    have r0:=(hl.fr0 hf.drew).rd k hlt
    have r1:=(hm.fr0 hf.drew).rd k hlt2
    rw [sameHL_drop hlt hlt2] at hsm
    generalize l[k] = x at r0 hsm
    generalize m[k] = y at r1 hsm
    go_upto_region 6 with fail
    by_cases hxy:x = y
    ·have d1:(!decide (x = y)) = false:=by simp [hxy]
     have HSM:=Lib.hid (show sameHL (l.drop (k + 1)) (m.drop (k + 1)) = res by rw [← hsm];simp [hxy])
     have NEQ:∀ w:World,(binOp .neq 49 (.agg (codH.A x)) (.agg (codH.A y))).run Tryz.prog w = .ok (.bool false) w:=fun w=>by rw [neq_H2,d1]
     clear hsm d1 hxy
     refine wp_region_H (fun w'=>codH.rd w' g (off + k * 34) = some x ∧ codH.rd w' g' (off' + k * 34) = some y) (by kernel_rfl) ⟨r0,r1⟩ (fun hF=>?_)
     refine wpAnyH_take (i:=0) (v:=?_) rfl (by kernel_rfl) (by kernel_rfl) (by kernel_rfl) (fun _ _ _ h=>h) (Or.inl ⟨by rfl,?_⟩) hF ?_
     rotate_left
     ·intro wS hSw;(try dsimp only at hSw);obtain ⟨s1,s2⟩:=hSw;first | (apply Eq.trans;apply ex_ld_id;exact rfl;exact rfl;assumption;with_reducible rfl) | (apply Eq.trans;apply ex_ldH_at;exact rfl;exact rfl;assumption;with_reducible rfl) | (apply Eq.trans;apply ex_ldS_at;exact rfl;exact rfl;assumption;with_reducible rfl) | (go_simp;try with_reducible rfl)
     try simp only [sA1,sA2,sA3,Act.put,sA4,sA5,sA6]
     refine wpAnyH_take (i:=1) (v:=?_) rfl (by kernel_rfl) (by kernel_rfl) (by kernel_rfl) (fun _ _ _ h=>h) (Or.inl ⟨by rfl,?_⟩) hF ?_
     rotate_left
     ·intro wS hSw;(try dsimp only at hSw);obtain ⟨s1,s2⟩:=hSw;first | (apply Eq.trans;apply ex_ld_id;exact rfl;exact rfl;assumption;with_reducible rfl) | (apply Eq.trans;apply ex_ldH_at;exact rfl;exact rfl;assumption;with_reducible rfl) | (apply Eq.trans;apply ex_ldS_at;exact rfl;exact rfl;assumption;with_reducible rfl) | (go_simp;try with_reducible rfl)
     try simp only [sA1,sA2,sA3,Act.put,sA4,sA5,sA6]
     refine wpAnyH_take (i:=2) (v:=?_) rfl (by kernel_rfl) (by kernel_rfl) (by kernel_rfl) (fun _ _ _ h=>h) (Or.inl ⟨by rfl,?_⟩) hF ?_
     rotate_left
     ·intro wS hSw;(try dsimp only at hSw);obtain ⟨s1,s2⟩:=hSw;first | (apply Eq.trans;apply ex_ld_id;exact rfl;exact rfl;assumption;with_reducible rfl) | (apply Eq.trans;apply ex_ldH_at;exact rfl;exact rfl;assumption;with_reducible rfl) | (apply Eq.trans;apply ex_ldS_at;exact rfl;exact rfl;assumption;with_reducible rfl) | (go_simp;try with_reducible rfl)
     try simp only [sA1,sA2,sA3,Act.put,sA4,sA5,sA6]
     refine wpAnyH_take (i:=3) (v:=?_) rfl (by kernel_rfl) (by kernel_rfl) (by kernel_rfl) (fun _ _ _ h=>h) (Or.inl ⟨by rfl,?_⟩) hF ?_
     rotate_left
     ·intro wS hSw;(try dsimp only at hSw);obtain ⟨s1,s2⟩:=hSw;first | (apply Eq.trans;apply ex_ld_id;exact rfl;exact rfl;assumption;with_reducible rfl) | (apply Eq.trans;apply ex_ldH_at;exact rfl;exact rfl;assumption;with_reducible rfl) | (apply Eq.trans;apply ex_ldS_at;exact rfl;exact rfl;assumption;with_reducible rfl) | (go_simp;try with_reducible rfl)
     try simp only [sA1,sA2,sA3,Act.put,sA4,sA5,sA6]
     refine wpAnyH_take (i:=4) (v:=?_) rfl (by kernel_rfl) (by kernel_rfl) (by kernel_rfl) (fun _ _ _ h=>h) (Or.inl ⟨by rfl,?_⟩) hF ?_
     rotate_left
     ·intro wS hSw;(try dsimp only at hSw);obtain ⟨s1,s2⟩:=hSw;first | (apply Eq.trans;apply ex_ld_id;exact rfl;exact rfl;assumption;with_reducible rfl) | (apply Eq.trans;apply ex_ldH_at;exact rfl;exact rfl;assumption;with_reducible rfl) | (apply Eq.trans;apply ex_ldS_at;exact rfl;exact rfl;assumption;with_reducible rfl) | (go_simp;try with_reducible rfl)
     try simp only [sA1,sA2,sA3,Act.put,sA4,sA5,sA6]
     refine wpAnyH_take (i:=5) (v:=?_) rfl (by kernel_rfl) (by kernel_rfl) (by kernel_rfl) (fun _ _ _ h=>h) (Or.inl ⟨by rfl,?_⟩) hF ?_
     rotate_left
     ·intro wS hSw;(try dsimp only at hSw);obtain ⟨s1,s2⟩:=hSw;first | (apply Eq.trans;apply ex_ld_id;exact rfl;exact rfl;assumption;with_reducible rfl) | (apply Eq.trans;apply ex_ldH_at;exact rfl;exact rfl;assumption;with_reducible rfl) | (apply Eq.trans;apply ex_ldS_at;exact rfl;exact rfl;assumption;with_reducible rfl) | (go_simp;try with_reducible rfl)
     try simp only [sA1,sA2,sA3,Act.put,sA4,sA5,sA6]
     refine wpAnyH_take (i:=6) (v:=?_) rfl (by kernel_rfl) (by kernel_rfl) (by kernel_rfl) (fun _ _ _ h=>h) (Or.inl ⟨by rfl,?_⟩) hF ?_
     rotate_left
     ·intro wS hSw;(try dsimp only at hSw);obtain ⟨s1,s2⟩:=hSw;first | (apply Eq.trans;apply ex_ld_id;exact rfl;exact rfl;assumption;with_reducible rfl) | (apply Eq.trans;apply ex_ldH_at;exact rfl;exact rfl;assumption;with_reducible rfl) | (apply Eq.trans;apply ex_ldS_at;exact rfl;exact rfl;assumption;with_reducible rfl) | (go_simp;try with_reducible rfl)
     try simp only [sA1,sA2,sA3,Act.put,sA4,sA5,sA6]
     refine wpAnyH_take (i:=7) (v:=?_) rfl (by kernel_rfl) (by kernel_rfl) (by kernel_rfl) (fun _ _ _ h=>h) (Or.inl ⟨by rfl,?_⟩) hF ?_
     rotate_left
     ·intro wS hSw;(try dsimp only at hSw);obtain ⟨s1,s2⟩:=hSw;first | (apply Eq.trans;apply ex_ld_id;exact rfl;exact rfl;assumption;with_reducible rfl) | (apply Eq.trans;apply ex_ldH_at;exact rfl;exact rfl;assumption;with_reducible rfl) | (apply Eq.trans;apply ex_ldS_at;exact rfl;exact rfl;assumption;with_reducible rfl) | (go_simp;try with_reducible rfl)
     try simp only [sA1,sA2,sA3,Act.put,sA4,sA5,sA6]
     refine wpAnyH_take (i:=8) (v:=?_) rfl (by kernel_rfl) (by kernel_rfl) (by kernel_rfl) (fun _ _ _ h=>h) (Or.inl ⟨by rfl,?_⟩) hF ?_
     rotate_left
     ·intro wS hSw;(try dsimp only at hSw);obtain ⟨s1,s2⟩:=hSw;first | (apply Eq.trans;apply ex_ld_id;exact rfl;exact rfl;assumption;with_reducible rfl) | (apply Eq.trans;apply ex_ldH_at;exact rfl;exact rfl;assumption;with_reducible rfl) | (apply Eq.trans;apply ex_ldS_at;exact rfl;exact rfl;assumption;with_reducible rfl) | (go_simp;try with_reducible rfl)
     try simp only [sA1,sA2,sA3,Act.put,sA4,sA5,sA6]
     refine wpAnyH_done (by kernel_rfl) ?_ _
     clear hF
     go_wp2_with fail
     go_roundg (l.length - (k + 1))
     case measure=>omega
     case rel=>exact ⟨k + 1,by simp,rfl,by omega,HSM.out,hf.drew⟩
    ·have d1:(!decide (x = y)) = true:=by simp [hxy]
     have HE:=Lib.hid (show false = res by rw [← hsm];simp [hxy])
     have NEQ:∀ w:World,(binOp .neq 49 (.agg (codH.A x)) (.agg (codH.A y))).run Tryz.prog w = .ok (.bool true) w:=fun w=>by rw [neq_H2,d1]
     clear hsm d1 hxy
     refine wp_region_H (fun w'=>codH.rd w' g (off + k * 34) = some x ∧ codH.rd w' g' (off' + k * 34) = some y) (by kernel_rfl) ⟨r0,r1⟩ (fun hF=>?_)
     refine wpAnyH_take (i:=0) (v:=?_) rfl (by kernel_rfl) (by kernel_rfl) (by kernel_rfl) (fun _ _ _ h=>h) (Or.inl ⟨by rfl,?_⟩) hF ?_
     rotate_left
     ·intro wS hSw;(try dsimp only at hSw);obtain ⟨s1,s2⟩:=hSw;first | (apply Eq.trans;apply ex_ld_id;exact rfl;exact rfl;assumption;with_reducible rfl) | (apply Eq.trans;apply ex_ldH_at;exact rfl;exact rfl;assumption;with_reducible rfl) | (apply Eq.trans;apply ex_ldS_at;exact rfl;exact rfl;assumption;with_reducible rfl) | (go_simp;try with_reducible rfl)
     try simp only [sA1,sA2,sA3,Act.put,sA4,sA5,sA6]
     refine wpAnyH_take (i:=1) (v:=?_) rfl (by kernel_rfl) (by kernel_rfl) (by kernel_rfl) (fun _ _ _ h=>h) (Or.inl ⟨by rfl,?_⟩) hF ?_
     rotate_left
     ·intro wS hSw;(try dsimp only at hSw);obtain ⟨s1,s2⟩:=hSw;first | (apply Eq.trans;apply ex_ld_id;exact rfl;exact rfl;assumption;with_reducible rfl) | (apply Eq.trans;apply ex_ldH_at;exact rfl;exact rfl;assumption;with_reducible rfl) | (apply Eq.trans;apply ex_ldS_at;exact rfl;exact rfl;assumption;with_reducible rfl) | (go_simp;try with_reducible rfl)
     try simp only [sA1,sA2,sA3,Act.put,sA4,sA5,sA6]
     refine wpAnyH_take (i:=2) (v:=?_) rfl (by kernel_rfl) (by kernel_rfl) (by kernel_rfl) (fun _ _ _ h=>h) (Or.inl ⟨by rfl,?_⟩) hF ?_
     rotate_left
     ·intro wS hSw;(try dsimp only at hSw);obtain ⟨s1,s2⟩:=hSw;first | (apply Eq.trans;apply ex_ld_id;exact rfl;exact rfl;assumption;with_reducible rfl) | (apply Eq.trans;apply ex_ldH_at;exact rfl;exact rfl;assumption;with_reducible rfl) | (apply Eq.trans;apply ex_ldS_at;exact rfl;exact rfl;assumption;with_reducible rfl) | (go_simp;try with_reducible rfl)
     try simp only [sA1,sA2,sA3,Act.put,sA4,sA5,sA6]
     refine wpAnyH_take (i:=3) (v:=?_) rfl (by kernel_rfl) (by kernel_rfl) (by kernel_rfl) (fun _ _ _ h=>h) (Or.inl ⟨by rfl,?_⟩) hF ?_
     rotate_left
     ·intro wS hSw;(try dsimp only at hSw);obtain ⟨s1,s2⟩:=hSw;first | (apply Eq.trans;apply ex_ld_id;exact rfl;exact rfl;assumption;with_reducible rfl) | (apply Eq.trans;apply ex_ldH_at;exact rfl;exact rfl;assumption;with_reducible rfl) | (apply Eq.trans;apply ex_ldS_at;exact rfl;exact rfl;assumption;with_reducible rfl) | (go_simp;try with_reducible rfl)
     try simp only [sA1,sA2,sA3,Act.put,sA4,sA5,sA6]
     refine wpAnyH_take (i:=4) (v:=?_) rfl (by kernel_rfl) (by kernel_rfl) (by kernel_rfl) (fun _ _ _ h=>h) (Or.inl ⟨by rfl,?_⟩) hF ?_
     rotate_left
     ·intro wS hSw;(try dsimp only at hSw);obtain ⟨s1,s2⟩:=hSw;first | (apply Eq.trans;apply ex_ld_id;exact rfl;exact rfl;assumption;with_reducible rfl) | (apply Eq.trans;apply ex_ldH_at;exact rfl;exact rfl;assumption;with_reducible rfl) | (apply Eq.trans;apply ex_ldS_at;exact rfl;exact rfl;assumption;with_reducible rfl) | (go_simp;try with_reducible rfl)
     try simp only [sA1,sA2,sA3,Act.put,sA4,sA5,sA6]
     refine wpAnyH_take (i:=5) (v:=?_) rfl (by kernel_rfl) (by kernel_rfl) (by kernel_rfl) (fun _ _ _ h=>h) (Or.inl ⟨by rfl,?_⟩) hF ?_
     rotate_left
     ·intro wS hSw;(try dsimp only at hSw);obtain ⟨s1,s2⟩:=hSw;first | (apply Eq.trans;apply ex_ld_id;exact rfl;exact rfl;assumption;with_reducible rfl) | (apply Eq.trans;apply ex_ldH_at;exact rfl;exact rfl;assumption;with_reducible rfl) | (apply Eq.trans;apply ex_ldS_at;exact rfl;exact rfl;assumption;with_reducible rfl) | (go_simp;try with_reducible rfl)
     try simp only [sA1,sA2,sA3,Act.put,sA4,sA5,sA6]
     refine wpAnyH_take (i:=6) (v:=?_) rfl (by kernel_rfl) (by kernel_rfl) (by kernel_rfl) (fun _ _ _ h=>h) (Or.inl ⟨by rfl,?_⟩) hF ?_
     rotate_left
     ·intro wS hSw;(try dsimp only at hSw);obtain ⟨s1,s2⟩:=hSw;first | (apply Eq.trans;apply ex_ld_id;exact rfl;exact rfl;assumption;with_reducible rfl) | (apply Eq.trans;apply ex_ldH_at;exact rfl;exact rfl;assumption;with_reducible rfl) | (apply Eq.trans;apply ex_ldS_at;exact rfl;exact rfl;assumption;with_reducible rfl) | (go_simp;try with_reducible rfl)
     try simp only [sA1,sA2,sA3,Act.put,sA4,sA5,sA6]
     refine wpAnyH_take (i:=7) (v:=?_) rfl (by kernel_rfl) (by kernel_rfl) (by kernel_rfl) (fun _ _ _ h=>h) (Or.inl ⟨by rfl,?_⟩) hF ?_
     rotate_left
     ·intro wS hSw;(try dsimp only at hSw);obtain ⟨s1,s2⟩:=hSw;first | (apply Eq.trans;apply ex_ld_id;exact rfl;exact rfl;assumption;with_reducible rfl) | (apply Eq.trans;apply ex_ldH_at;exact rfl;exact rfl;assumption;with_reducible rfl) | (apply Eq.trans;apply ex_ldS_at;exact rfl;exact rfl;assumption;with_reducible rfl) | (go_simp;try with_reducible rfl)
     try simp only [sA1,sA2,sA3,Act.put,sA4,sA5,sA6]
     refine wpAnyH_take (i:=8) (v:=?_) rfl (by kernel_rfl) (by kernel_rfl) (by kernel_rfl) (fun _ _ _ h=>h) (Or.inl ⟨by rfl,?_⟩) hF ?_
     rotate_left
     ·intro wS hSw;(try dsimp only at hSw);obtain ⟨s1,s2⟩:=hSw;first | (apply Eq.trans;apply ex_ld_id;exact rfl;exact rfl;assumption;with_reducible rfl) | (apply Eq.trans;apply ex_ldH_at;exact rfl;exact rfl;assumption;with_reducible rfl) | (apply Eq.trans;apply ex_ldS_at;exact rfl;exact rfl;assumption;with_reducible rfl) | (go_simp;try with_reducible rfl)
     try simp only [sA1,sA2,sA3,Act.put,sA4,sA5,sA6]
     refine wpAnyH_done (by kernel_rfl) ?_ _
     clear hF
     go_wp2_with fail
     go_ret
     exact ⟨by rw [← HE.out];rfl,hf.drew⟩
   ·have hkn:k = l.length:=by omega
    subst hkn
    have i1:¬ (l.length:Int) < (l.length:Int):=by omega
    have HR:=Lib.hid (show res = true by
     rw [← hsm,List.drop_eq_nil_of_le (Nat.le_refl _),List.drop_eq_nil_of_le (by rw [HM.out];exact Nat.le_refl _)]
     rfl)
    clear hsm
    go_wp2_with fail
    go_ret
    exact ⟨by rw [HR.out];rfl,hf⟩
 ·have e1:((l.length:Int) != (m.length:Int)) = true:=by simp;omega
  have HR:=Lib.hid (show sameHL l m = false by
   rw [sameHL_eq,decide_eq_false_iff_not]
   exact fun e=>hlm (by rw [e]))
  clear hlm
  go_enter Tryz.func29,Tryz.ntmps29
  go_wp2_with fail
  go_ret
  exact ⟨by rw [HR.out];rfl,Fr.refl _ _⟩
noncomputable def sameY:List RwP → List RwP → Bool
 | [],[]=>true
 | x :: xs,y :: ys=>(shR x y && decide (x.Heads = y.Heads)) && sameY xs ys
 | _,_=>false
theorem sameY_eq:∀ xs ys:List RwP,sameY xs ys = decide (xs = ys)
 | [],[]=>by simp [sameY]
 | [],_ :: _=>by simp [sameY]
 | _ :: _,[]=>by simp [sameY]
 | x :: xs,y :: ys=>by
  obtain ⟨a,b,c,d,e⟩:=x
  obtain ⟨a',b',c',d',e'⟩:=y
  rw [Bool.eq_iff_iff]
  simp [sameY,shR,sameY_eq xs ys]
  grind
theorem sameY_drop {xs ys:List RwP} {k:Nat} (h:k < xs.length) (h':k < ys.length):sameY (xs.drop k) (ys.drop k) = ((shR xs[k] ys[k] && decide (xs[k].Heads = ys[k].Heads)) && sameY (xs.drop (k + 1)) (ys.drop (k + 1))):=by
 rw [List.drop_eq_getElem_cons h,List.drop_eq_getElem_cons h']
 rfl
def SmY (W:World) (xs ys:List RwP) (n:Nat) (res:Bool) (gk:Nat) (iv:Value) (wr:World):Prop:=∃ k:Nat,iv = .int .i64 (k:Int) ∧ gk = n - k ∧ k ≤ n ∧ sameY (xs.drop k) (ys.drop k) = res ∧ Fr noB W wr
set_option maxRecDepth 100000 in
set_option maxHeartbeats 2000000 in
theorem r12sameY_any (w:World) (A B:Option Addr) (c d n m:Nat) (rs ss:List RwW) (xs ys:List RwP) (hn:rs.length = n) (hm:ss.length = m) (hA:Sl w A (codR.row rs)) (hB:Sl w B (codR.row ss)) (hX:RwsIn w rs xs) (hY:RwsIn w ss ys) (hb:rs.length ≤ 140737488355328) (hb2:ss.length ≤ 140737488355328)
  :
  Calls Tryz.prog 11 #[.slice A n c,.slice B m d] w (Gives w (.bool (decide (xs = ys)))):=by
 subst hn
 subst hm
 rw [← sameY_eq]
 have HLX:=Lib.hid hX.len
 have HLY:=Lib.hid hY.len
 by_cases hlm:rs.length = ss.length
 ·have e1:((rs.length:Int) != (ss.length:Int)) = false:=by simp [hlm]
  have HM:=Lib.hid hlm.symm
  obtain ⟨res,hres⟩:∃ r,r = sameY xs ys:=⟨_,rfl⟩
  have HRES:=Lib.hid (show sameY (xs.drop 0) (ys.drop 0) = res by rw [hres];rfl)
  rw [← hres]
  clear hlm hres
  go_enter Tryz.func11,Tryz.ntmps11
  go_upto_region 3 with fail
  go_upto_region 4 with fail
  go_loopg [5] rs.length (fun gk iv wr=>SmY w xs ys rs.length res gk iv wr)
  case atStart=>exact ⟨0,rfl,rfl,by omega,HRES.out,Fr.refl _ _⟩
  case round =>
   clear HRES
   obtain ⟨k,rfl,rfl,hk,hsm,hf⟩:=hrel
   by_cases hlt:k < rs.length
   ·have i1:(k:Int) < (rs.length:Int):=by omega
    have i0:(0:Int) ≤ (k:Int):=by omega
    have hlt2:k < ss.length:=by rw [HM.out];exact hlt
    have i2:(k:Int) < (ss.length:Int):=by omega
    have hltx:k < xs.length:=by rw [← HLX.out];exact hlt
    have hlty:k < ys.length:=by rw [← HLY.out];exact hlt2
    obtain ⟨g,off,rfl,hg⟩:=hA.adC (by omega)
    obtain ⟨g',off',rfl,hg'⟩:=hB.adC (by omega)
    have r1:=hX.at_ k hlt hltx
    have r2:=hY.at_ k hlt2 hlty
    rw [sameY_drop hltx hlty] at hsm
    have q:RwAtO wr g (off + k * 8) rs[k]:=rwAtO ((hA.fr0 hf).rd k hlt)
    have q':RwAtO wr g' (off' + k * 8) ss[k]:=rwAtO ((hB.fr0 hf).rd k hlt2)
    replace hg:=Nat.lt_of_lt_of_le hg hf.size
    replace hg':=Nat.lt_of_lt_of_le hg' hf.size
    generalize rs[k] = r at r1 q
    generalize ss[k] = s at r2 q'
    generalize xs[k] = x at r1 hsm
    generalize ys[k] = y at r2 hsm
    have D1:∀ wS,Fr noB wr wS → Calls Tryz.prog 29 #[.slice r.A r.n r.c,.slice s.A s.n s.c] wS (Gives wS (.bool (decide (x.Heads = y.Heads)))):=fun wS f=>sameHeads_any wS r.A s.A r.c s.c r.n s.n x.Heads y.Heads r1.len r2.len ((r1.sl.fr0 hf).fr0 f) ((r2.sl.fr0 hf).fr0 f) r1.bd r2.bd
    have HSM:=Lib.hid (show (decide (r.Node = s.Node) && (decide (r.Parent = s.Parent) && (decide (r.At = s.At) && decide (r.Name = s.Name))) && decide (x.Heads = y.Heads) && sameY (xs.drop (k + 1)) (ys.drop (k + 1))) = res by
     rw [← hsm]
     unfold shR
     rw [r1.node,r2.node,r1.parent,r2.parent,r1.name,r2.name,r1.at_,r2.at_])
    obtain ⟨a1,a2,a3,a4,a5,a6⟩:=q
    obtain ⟨b1,b2,b3,b4,b5,b6⟩:=q'
    clear a6 b6 r1 r2 hsm
    generalize x.Heads = hx at D1 HSM
    generalize y.Heads = hy at D1 HSM
    go_upto_region 6 with fail
    by_cases h1:r.Node = s.Node
    ·have d1:decide (r.Node = s.Node) = true:=by simp [h1]
     by_cases h2:r.Parent = s.Parent
     ·have d2:decide (r.Parent = s.Parent) = true:=by simp [h2]
      by_cases h3:r.At = s.At
      ·have d3:decide (r.At = s.At) = true:=by simp [h3]
       by_cases h4:r.Name = s.Name
       ·have d4:decide (r.Name = s.Name) = true:=by simp [h4]
        by_cases h5:hx = hy
        ·have d5:decide (hx = hy) = true:=by simp [h5]
         rw [d5] at D1
         have HE:=Lib.hid (show sameY (xs.drop (k + 1)) (ys.drop (k + 1)) = res by rw [← HSM.out];simp [h1,h2,h3,h4,h5])
         clear HSM h1 h2 h3 h4 h5 d5
         refine wp_region_fr (by kernel_rfl) (by kernel_rfl) ?_
         iterate 61
          refine wpQ_take (v:=?_) (by rfl) (fun wS hS=>?_) ?_
          rotate_left
          ·obtain ⟨L1,L2,L3,L4,L5,L6⟩:=Fr.same hS;go_simp;try with_reducible rfl
          try simp only [sA1,sA2,sA3,Act.put,sA4,sA5,sA6]
         refine wpQ_call (by rfl) (fun wS hS=>⟨_,_,?qh309,Calls.fr hS (D1 _ hS)⟩) ?qk309
         case qh309=>obtain ⟨L1,L2,L3,L4,L5,L6⟩:=Fr.same hS;go_simp;try with_reducible rfl
         try simp only [sA1,sA2,sA3,Act.put,sA4,sA5,sA6]
         iterate 2
          refine wpQ_take (v:=?_) (by rfl) (fun wS hS=>?_) ?_
          rotate_left
          ·obtain ⟨L1,L2,L3,L4,L5,L6⟩:=Fr.same hS;go_simp;try with_reducible rfl
          try simp only [sA1,sA2,sA3,Act.put,sA4,sA5,sA6]
         refine wpQ_nil ?_
         intro w1 f1
         go_wp2_with fail
         go_roundg (rs.length - (k + 1))
         case measure=>omega
         case rel=>exact ⟨k + 1,by simp,rfl,by omega,HE.out,hf.step0 f1⟩
        ·have d5:decide (hx = hy) = false:=by simp [h5]
         rw [d5] at D1
         have HE:=Lib.hid (show false = res by rw [← HSM.out];simp [h5])
         clear HSM h1 h2 h3 h4 h5 d5
         refine wp_region_fr (by kernel_rfl) (by kernel_rfl) ?_
         iterate 61
          refine wpQ_take (v:=?_) (by rfl) (fun wS hS=>?_) ?_
          rotate_left
          ·obtain ⟨L1,L2,L3,L4,L5,L6⟩:=Fr.same hS;go_simp;try with_reducible rfl
          try simp only [sA1,sA2,sA3,Act.put,sA4,sA5,sA6]
         refine wpQ_call (by rfl) (fun wS hS=>⟨_,_,?qh333,Calls.fr hS (D1 _ hS)⟩) ?qk333
         case qh333=>obtain ⟨L1,L2,L3,L4,L5,L6⟩:=Fr.same hS;go_simp;try with_reducible rfl
         try simp only [sA1,sA2,sA3,Act.put,sA4,sA5,sA6]
         iterate 2
          refine wpQ_take (v:=?_) (by rfl) (fun wS hS=>?_) ?_
          rotate_left
          ·obtain ⟨L1,L2,L3,L4,L5,L6⟩:=Fr.same hS;go_simp;try with_reducible rfl
          try simp only [sA1,sA2,sA3,Act.put,sA4,sA5,sA6]
         refine wpQ_nil ?_
         intro w1 f1
         go_wp2_with fail
         go_ret
         exact ⟨by rw [← HE.out];rfl,hf.step0 f1⟩
       ·have d4:decide (r.Name = s.Name) = false:=by simp [h4]
        have HE:=Lib.hid (show false = res by rw [← HSM.out];simp [h4])
        clear HSM h4
        refine wp_region_fr (by kernel_rfl) (by kernel_rfl) ?_
        iterate 51
         refine wpQ_take (v:=?_) (by rfl) (fun wS hS=>?_) ?_
         rotate_left
         ·obtain ⟨L1,L2,L3,L4,L5,L6⟩:=Fr.same hS;go_simp;try with_reducible rfl
         try simp only [sA1,sA2,sA3,Act.put,sA4,sA5,sA6]
        iterate 12
         refine wpQ_off (by rfl) ?_
         try simp only [sA1,sA2,sA3,Act.put,sA4,sA5,sA6]
        refine wpQ_take (v:=?_) (by rfl) (fun wS hS=>?_) ?_
        rotate_left
        ·obtain ⟨L1,L2,L3,L4,L5,L6⟩:=Fr.same hS;go_simp;try with_reducible rfl
        try simp only [sA1,sA2,sA3,Act.put,sA4,sA5,sA6]
        refine wpQ_nil ?_
        intro w1 f1
        go_wp2_with fail
        go_ret
        exact ⟨by rw [← HE.out];rfl,hf.step0 f1⟩
      ·have d3:decide (r.At = s.At) = false:=by simp [h3]
       have HE:=Lib.hid (show false = res by rw [← HSM.out];simp [h3])
       clear HSM h3
       refine wp_region_fr (by kernel_rfl) (by kernel_rfl) ?_
       iterate 38
        refine wpQ_take (v:=?_) (by rfl) (fun wS hS=>?_) ?_
        rotate_left
        ·obtain ⟨L1,L2,L3,L4,L5,L6⟩:=Fr.same hS;go_simp;try with_reducible rfl
        try simp only [sA1,sA2,sA3,Act.put,sA4,sA5,sA6]
       iterate 11
        refine wpQ_off (by rfl) ?_
        try simp only [sA1,sA2,sA3,Act.put,sA4,sA5,sA6]
       iterate 2
        refine wpQ_take (v:=?_) (by rfl) (fun wS hS=>?_) ?_
        rotate_left
        ·obtain ⟨L1,L2,L3,L4,L5,L6⟩:=Fr.same hS;go_simp;try with_reducible rfl
        try simp only [sA1,sA2,sA3,Act.put,sA4,sA5,sA6]
       iterate 12
        refine wpQ_off (by rfl) ?_
        try simp only [sA1,sA2,sA3,Act.put,sA4,sA5,sA6]
       refine wpQ_take (v:=?_) (by rfl) (fun wS hS=>?_) ?_
       rotate_left
       ·obtain ⟨L1,L2,L3,L4,L5,L6⟩:=Fr.same hS;go_simp;try with_reducible rfl
       try simp only [sA1,sA2,sA3,Act.put,sA4,sA5,sA6]
       refine wpQ_nil ?_
       intro w1 f1
       go_wp2_with fail
       go_ret
       exact ⟨by rw [← HE.out];rfl,hf.step0 f1⟩
     ·have d2:decide (r.Parent = s.Parent) = false:=by simp [h2]
      have HE:=Lib.hid (show false = res by rw [← HSM.out];simp [h2])
      clear HSM h2
      refine wp_region_fr (by kernel_rfl) (by kernel_rfl) ?_
      iterate 25
       refine wpQ_take (v:=?_) (by rfl) (fun wS hS=>?_) ?_
       rotate_left
       ·obtain ⟨L1,L2,L3,L4,L5,L6⟩:=Fr.same hS;go_simp;try with_reducible rfl
       try simp only [sA1,sA2,sA3,Act.put,sA4,sA5,sA6]
      iterate 11
       refine wpQ_off (by rfl) ?_
       try simp only [sA1,sA2,sA3,Act.put,sA4,sA5,sA6]
      iterate 2
       refine wpQ_take (v:=?_) (by rfl) (fun wS hS=>?_) ?_
       rotate_left
       ·obtain ⟨L1,L2,L3,L4,L5,L6⟩:=Fr.same hS;go_simp;try with_reducible rfl
       try simp only [sA1,sA2,sA3,Act.put,sA4,sA5,sA6]
      iterate 11
       refine wpQ_off (by rfl) ?_
       try simp only [sA1,sA2,sA3,Act.put,sA4,sA5,sA6]
      iterate 2
       refine wpQ_take (v:=?_) (by rfl) (fun wS hS=>?_) ?_
       rotate_left
       ·obtain ⟨L1,L2,L3,L4,L5,L6⟩:=Fr.same hS;go_simp;try with_reducible rfl
       try simp only [sA1,sA2,sA3,Act.put,sA4,sA5,sA6]
      iterate 12
       refine wpQ_off (by rfl) ?_
       try simp only [sA1,sA2,sA3,Act.put,sA4,sA5,sA6]
      refine wpQ_take (v:=?_) (by rfl) (fun wS hS=>?_) ?_
      rotate_left
      ·obtain ⟨L1,L2,L3,L4,L5,L6⟩:=Fr.same hS;go_simp;try with_reducible rfl
      try simp only [sA1,sA2,sA3,Act.put,sA4,sA5,sA6]
      refine wpQ_nil ?_
      intro w1 f1
      go_wp2_with fail
      go_ret
      exact ⟨by rw [← HE.out];rfl,hf.step0 f1⟩
    ·have d1:decide (r.Node = s.Node) = false:=by simp [h1]
     have HE:=Lib.hid (show false = res by rw [← HSM.out];simp [h1])
     clear HSM h1
     refine wp_region_fr (by kernel_rfl) (by kernel_rfl) ?_
     iterate 12
      refine wpQ_take (v:=?_) (by rfl) (fun wS hS=>?_) ?_
      rotate_left
      ·obtain ⟨L1,L2,L3,L4,L5,L6⟩:=Fr.same hS;go_simp;try with_reducible rfl
      try simp only [sA1,sA2,sA3,Act.put,sA4,sA5,sA6]
     iterate 11
      refine wpQ_off (by rfl) ?_
      try simp only [sA1,sA2,sA3,Act.put,sA4,sA5,sA6]
     iterate 2
      refine wpQ_take (v:=?_) (by rfl) (fun wS hS=>?_) ?_
      rotate_left
      ·obtain ⟨L1,L2,L3,L4,L5,L6⟩:=Fr.same hS;go_simp;try with_reducible rfl
      try simp only [sA1,sA2,sA3,Act.put,sA4,sA5,sA6]
     iterate 11
      refine wpQ_off (by rfl) ?_
      try simp only [sA1,sA2,sA3,Act.put,sA4,sA5,sA6]
     iterate 2
      refine wpQ_take (v:=?_) (by rfl) (fun wS hS=>?_) ?_
      rotate_left
      ·obtain ⟨L1,L2,L3,L4,L5,L6⟩:=Fr.same hS;go_simp;try with_reducible rfl
      try simp only [sA1,sA2,sA3,Act.put,sA4,sA5,sA6]
     iterate 11
      refine wpQ_off (by rfl) ?_
      try simp only [sA1,sA2,sA3,Act.put,sA4,sA5,sA6]
     iterate 2
      refine wpQ_take (v:=?_) (by rfl) (fun wS hS=>?_) ?_
      rotate_left
      ·obtain ⟨L1,L2,L3,L4,L5,L6⟩:=Fr.same hS;go_simp;try with_reducible rfl
      try simp only [sA1,sA2,sA3,Act.put,sA4,sA5,sA6]
     iterate 12
      refine wpQ_off (by rfl) ?_
      try simp only [sA1,sA2,sA3,Act.put,sA4,sA5,sA6]
     refine wpQ_take (v:=?_) (by rfl) (fun wS hS=>?_) ?_
     rotate_left
     ·obtain ⟨L1,L2,L3,L4,L5,L6⟩:=Fr.same hS;go_simp;try with_reducible rfl
     try simp only [sA1,sA2,sA3,Act.put,sA4,sA5,sA6]
     refine wpQ_nil ?_
     intro w1 f1
     go_wp2_with fail
     go_ret
     exact ⟨by rw [← HE.out];rfl,hf.step0 f1⟩
   ·have hkn:k = rs.length:=by omega
    subst hkn
    have i1:¬ (rs.length:Int) < (rs.length:Int):=by omega
    have HR:=Lib.hid (show res = true by
     rw [← hsm,List.drop_eq_nil_of_le (by rw [HLX.out];exact Nat.le_refl _),List.drop_eq_nil_of_le (by rw [← HLY.out,HM.out];exact Nat.le_refl _)]
     rfl)
    clear hsm
    go_wp2_with fail
    go_ret
    exact ⟨by rw [HR.out];rfl,hf⟩
 ·have e1:((rs.length:Int) != (ss.length:Int)) = true:=by simp;omega
  have HR:=Lib.hid (show sameY xs ys = false by
   rw [sameY_eq,decide_eq_false_iff_not]
   exact fun e=>hlm (by rw [HLX.out,HLY.out,e]))
  clear hlm
  go_enter Tryz.func11,Tryz.ntmps11
  go_wp2_with fail
  go_ret
  exact ⟨by rw [HR.out];rfl,Fr.refl _ _⟩
end Go.Proofs.YtnkdnbjmhoegkaaGreat
