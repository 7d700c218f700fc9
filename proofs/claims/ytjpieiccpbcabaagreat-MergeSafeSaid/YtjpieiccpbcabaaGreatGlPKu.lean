/- Contract: grove's Kids. (ex_ldS_at, ex_ldR_at) Contracts: pollardlaw12.move, alive. (ex_ldS_at, ex_ldR_at) Plain laws of a tree that comes of operations (grove): ways, where rows come from, heads, kids counted. -/
import Derived.Test.YtjpieiccpbcabaaGreatGwAKu
set_option linter.unusedVariables false
set_option linter.unusedSimpArgs false
namespace Go.Proofs.YtjpieiccpbcabaaGreat
open Go.RowKit Go.Maps Go.Sort Go.Shelf
attribute [local go_sem] Oper.semAt_some
def Gr (w w':World):Prop:=∃ q os,w' = grow (w.drewN q) os
section
variable {w w1:World}
theorem Gr.alloc (h:Gr w w1) (o:Obj):Gr w (w1.alloc o):=by
 obtain ⟨q,os,rfl⟩:=h
 exact ⟨q,os ++ #[o],by rw [alloc_eq_grow,grow_grow]⟩
theorem Gr.trans {w2:World} (h:Gr w w1) (k:Gr w1 w2):Gr w w2:=by
 obtain ⟨q,os,rfl⟩:=h
 obtain ⟨q',os',rfl⟩:=k
 exact ⟨q + q',os ++ os',by simp [grow,World.drewN,Nat.add_assoc]⟩
end
instance:Inhabited KS:=⟨⟨zSt,by decide⟩⟩
end Go.Proofs.YtjpieiccpbcabaaGreat
namespace Go.Proofs.YtjpieiccpbcabaaGreat
open Go.RowKit Go.Sort
theorem filter_split {L1 L2:List Opn} {s:St} (h1:∀ p ∈ L1,cmpS p.At s < 0) (h2:∀ p ∈ L2,cmpS s p.At < 0):(L1 ++ L2).filter (fun p=>decide (cmpS p.At s < 0)) = L1:=by
 rw [List.filter_append,List.filter_eq_self.2 (fun p hp=>by simpa using h1 p hp),List.filter_eq_nil_iff.2 (fun p hp=>by
  have:=h2 p hp
  have e:=cmpS_flip s p.At
  simp only [decide_eq_true_eq]
  omega),List.append_nil]
theorem InsP.mid {M1 M2 L':List Opn} {o:Opn} {u E u':Int} (h:InsP (M1 ++ M2) o u E L' u') (hg:goodOp o = true) (h1:∀ p ∈ M1,cmpS p.At o.At < 0) (h2:∀ p ∈ M2,cmpS o.At p.At < 0):E = 0 ∧ L' = M1 ++ o :: M2 ∧ u' = (M2.length:Int):=by
 rcases h with ⟨h,_⟩ | ⟨_,p,hp,he,_⟩ | ⟨_,hE,L1,L2,hL,hL',h3,h4,hu⟩
 ·rw [hg] at h;cases h
 ·exfalso
  rcases List.mem_append.1 hp with hp | hp
  ·have:=h1 p hp
   rw [he,cmpS_self] at this
   omega
  ·have:=h2 p hp
   rw [he,cmpS_self] at this
   omega
 ·have e1:M1 = L1:=by rw [← filter_split h1 h2,hL,filter_split h3 h4]
  subst e1
  have e2:=List.append_cancel_left hL
  subst e2
  exact ⟨hE,hL',hu⟩
theorem InsP.len {L L':List Opn} {o:Opn} {u E u':Int} (h:InsP L o u E L' u'):L'.length ≤ L.length + 1:=by
 rcases h with ⟨_,_,rfl,_⟩ | ⟨_,p,hp,he,h⟩ | ⟨_,hE,L1,L2,rfl,rfl,h3,h4,hu⟩
 ·omega
 ·rcases h with ⟨_,_,rfl,_⟩ | ⟨_,_,rfl,_⟩ <;> omega
 ·simp only [List.length_append,List.length_cons];omega
theorem off_ins {b P:Nat} {t t':TrW} {w:World} (hP:¬ trM b t P) (hlt:P < w.heap.size) (hm:t'.m = t.m) (hA:t'.A.map (·.block) = t.A.map (·.block) ∨ ∀ g,t'.A.map (·.block) = some g → w.heap.size ≤ g):¬ trM b t' P:=by
 rintro (h | h | h)
 ·exact hP (.inl h)
 ·exact hP (.inr (.inl (h.trans hm)))
 ·rcases hA with e | e
  ·exact hP (.inr (.inr (e ▸ h)))
  ·have:=e _ h
   omega
def InOk (base:Nat) (w:World) (b:Nat) (t:TrW) (L':List Opn) (u:Int) (e:Ending) (w':World):Prop :=
 ∃ t':TrW,e = .returned (.int .i64 0) ∧ GvS base w' b t' L' ∧ t'.u = u ∧ (∀ P,P < w.heap.size → ¬ trM b t P → ¬ trM b t' P) ∧ Fr (trM b t) w w'
theorem gvIns_mid {base:Nat} {w:World} {b:Nat} {t:TrW} (M1 M2:List Opn) (hS:GvS base w b t (M1 ++ M2)) (hsrt:SrtL (M1 ++ M2)) (hL:(M1 ++ M2).length ≤ 100000) (r:OpW) (o:Opn) (ho:OpIn w r o) (hov:o.Over.length ≤ 1000000) (hg:goodOp o = true) (h1:∀ p ∈ M1,cmpS p.At o.At < 0) (h2:∀ p ∈ M2,cmpS o.At p.At < 0) :
  Calls Tryz.prog 82 #[.pointer (some ⟨b,0,none⟩),.agg (codO.A r)] w (InOk base w b t (M1 ++ o :: M2) (M2.length:Int)):=by
 refine (gvInsert_any base w b t _ hS hsrt hL r o ho hov).mono ?_
 rintro e w' ⟨E,t',L',rfl,h3,h4,h5,h6,h7⟩
 obtain ⟨rfl,rfl,hu⟩:=h7.mid hg h1 h2
 exact ⟨t',rfl,h3,hu,fun P hP hP2=>off_ins hP2 hP h4 h5,h6⟩
theorem GvS.base {base:Nat} {w:World} {b:Nat} {t:TrW} {L:List Opn} (h:GvS base w b t L) {q:Nat} (hq:trM b t q):base ≤ q:=by
 rcases hq with rfl | rfl | h1
 ·exact h.bb
 ·exact h.mm
 ·obtain ⟨ds,_,h2,_⟩:=h.log
  exact (own_blk h2 h1).1
end Go.Proofs.YtjpieiccpbcabaaGreat
namespace Go.Proofs.YtjpieiccpbcabaaGreat
end Go.Proofs.YtjpieiccpbcabaaGreat
