/- Entries of a map taken away. -/
import Derived.Test.YtjpieiccpbcabaaGreatTreeSK
namespace Go.Proofs.YtjpieiccpbcabaaGreat
open Go.RowKit Go.Maps Go.Sort
set_option linter.unusedVariables false
set_option linter.unusedSimpArgs false

theorem map_erase {α β:Type} (f:α → β):∀ (l:List α) (j:Nat),(l.eraseIdx j).map f = (l.map f).eraseIdx j
 | [],_=>rfl
 | x :: l,0=>rfl
 | x :: l,j + 1=>by simp [map_erase f l j]
section
variable {κ:Type} {enc:κ → Value} {P:Program} {kt t E:TypeId} {w w':World} {r:Nat} {kv:List (κ × Value)} [DecidableEq κ]
def delL (kv:List (κ × Value)) (k:κ):List (κ × Value):=kv.filter fun p=>!decide (p.1 = k)
theorem delL_none {k:κ} (h:look kv k = none):delL kv k = kv:=by
 unfold delL
 rw [List.filter_eq_self]
 intro p hp
 have:=look_none.1 h
 have hne:p.1 ≠ k:=fun e=>this (by rw [← e];exact List.mem_map.2 ⟨p,hp,rfl⟩)
 simp [hne]
theorem delL_idx:∀ {kv:List (κ × Value)} (hn:(kv.map (·.1)).Nodup) {j:Nat} {p:κ × Value} (h:kv[j]? = some p),delL kv p.1 = kv.eraseIdx j
 | [],_,j,p,h=>by simp at h
 | q :: kv,hn,0,p,h=>by
  simp only [List.getElem?_cons_zero,Option.some.injEq] at h
  subst h
  simp only [List.map_cons,List.nodup_cons] at hn
  unfold delL
  rw [List.filter_cons]
  simp only [decide_true,Bool.not_true,Bool.false_eq_true,if_false,List.eraseIdx_cons_zero]
  rw [List.filter_eq_self]
  intro x hx
  have hne:x.1 ≠ q.1:=fun e=>hn.1 (by rw [← e];exact List.mem_map.2 ⟨x,hx,rfl⟩)
  simp [hne]
 | q :: kv,hn,j + 1,p,h=>by
  simp only [List.getElem?_cons_succ] at h
  simp only [List.map_cons,List.nodup_cons] at hn
  have ih:=delL_idx hn.2 h
  have hne:q.1 ≠ p.1:=fun e=>hn.1 (by rw [e];exact List.mem_map.2 ⟨p,List.mem_of_getElem? h,rfl⟩)
  unfold delL at ih ⊢
  rw [List.filter_cons]
  simp only [hne,decide_false,Bool.not_false,if_true,List.eraseIdx_cons_succ]
  rw [ih]
theorem MapL.del (H:KeyE P kt enc) (h:MapL enc w r kv) (ht:P.underlying t = some (.map kt E)) (k:κ) (ty:TypeId) :
  ∃ w2,(Builtin.delete_ #[t,kt] ty #[.map (some r),enc k]).run P w = .ok (.tuple #[]) w2 ∧ MapL enc w2 r (delL kv k) ∧ Fr (oneB r) w w2 ∧ w2.heap.size = w.heap.size:=by
 obtain ⟨l,hl⟩:=H.good k
 have hlt:=h.lt
 obtain ⟨es,clock,hb,he⟩:=h
 rcases he.find H w k with ⟨f1,f2⟩ | ⟨j,e,f1,f2,f3,f4⟩
 ·obtain ⟨g1,g2,g3⟩:=frameMap hlt (.map es clock)
  refine ⟨_,?_,⟨_,_,g3,?_⟩,g1,g2⟩
  ·simp [Builtin.delete_,run_underlying ht,MapKept.run_getObj_map hb,H.K.check w _ hl,f1,MapKept.run_setObj_map _ hb,Result.andThen,ChangeMaps.setBlock]
  ·rw [delL_none f2];exact he
 ·obtain ⟨g1,g2,g3⟩:=frameMap hlt (.map (es.eraseIdxIfInBounds j) clock)
  refine ⟨_,?_,⟨_,_,g3,?_⟩,g1,g2⟩
  ·simp [Builtin.delete_,run_underlying ht,MapKept.run_getObj_map hb,H.K.check w _ hl,f1,MapKept.run_setObj_map _ hb,Result.andThen,ChangeMaps.setBlock]
  ·have hj:j < es.size:=by
    have:=(List.getElem?_eq_some_iff.1 f2).1
    simpa using this
   have hl2:(es.eraseIdxIfInBounds j).toList = es.toList.eraseIdx j:=by
    unfold Array.eraseIdxIfInBounds
    rw [dif_pos hj]
    simp
   have hkv:∃ p,kv[j]? = some p ∧ p.1 = k:=by
    have hi:=congrArg (fun l=>l[j]?) he.is
    simp only [List.getElem?_map,f2,Option.map_some] at hi
    cases hk:kv[j]? with
    | none=>rw [hk] at hi;cases hi
    | some p =>
     rw [hk] at hi
     simp only [Option.map_some,Option.some.injEq,Prod.mk.injEq] at hi
     exact ⟨p,rfl,H.inj _ _ (hi.1.symm.trans f3)⟩
   obtain ⟨p,hp,rfl⟩:=hkv
   have hd:=delL_idx he.nd hp
   rw [hd]
   refine ⟨?_,?_,?_,?_⟩
   ·rw [hl2,map_erase,he.is,map_erase]
   ·rw [map_erase];exact he.nd.sublist (List.eraseIdx_sublist _ _)
   ·rw [hl2,map_erase];exact he.bn.sublist (List.eraseIdx_sublist _ _)
   ·intro x hx
    rw [hl2] at hx
    exact he.bl x ((List.eraseIdx_sublist _ _).subset hx)
end
theorem delL_upK (kv:List (KS × Value)) (k:KS):delL (upK kv) k.1 = upK (delL kv k):=by
 unfold delL upK
 rw [List.filter_map]
 congr 1
 refine List.filter_congr fun p _=>?_
 simp only [Function.comp_apply]
 by_cases h:p.1 = k
 ·simp [h]
 ·have h':p.1.1 ≠ k.1:=fun e=>h (Subtype.ext e)
  simp [h,h']
open Classical in
noncomputable def mdelT (t:TypeId) (w:World) (r:Nat) (x:St):World :=
 if h:∃ w2,(Builtin.delete_ #[t,80] 0 #[.map (some r),.agg (codS.A x)]).run Tryz.prog w = .ok (.tuple #[]) w2 then h.choose else w
theorem mdelT_all {t E:TypeId} (ht:Tryz.prog.underlying t = some (.map 80 E)) {w:World} {r:Nat} {kv:List (St × Value)} (h:mpT w r = some kv) {x:St} (hx:wfS x = true) (ty:TypeId) :
  (Builtin.delete_ #[t,80] ty #[.map (some r),.agg (codS.A x)]).run Tryz.prog w = .ok (.tuple #[]) (mdelT t w r x) ∧ mpT (mdelT t w r x) r = some (delL kv x) ∧ Fr (oneB r) w (mdelT t w r x) ∧ (mdelT t w r x).heap.size = w.heap.size:=by
 obtain ⟨kv,rfl,hm⟩:=mpT_mp h
 obtain ⟨w2,h1,h2,h3,h4⟩:=hm.del keyK ht ⟨x,hx⟩ 0
 have e:mdelT t w r x = w2:=by
  unfold mdelT
  have hx:∃ w2,(Builtin.delete_ #[t,80] 0 #[.map (some r),.agg (codS.A x)]).run Tryz.prog w = .ok (.tuple #[]) w2:=⟨w2,h1⟩
  refine (dif_pos hx).trans ?_
  exact ((Result.ok.inj (h1.symm.trans hx.choose_spec)).2).symm
 rw [e]
 exact ⟨h1,by rw [delL_upK kv ⟨x,hx⟩];exact h2.mpT,h3,h4⟩
end Go.Proofs.YtjpieiccpbcabaaGreat
