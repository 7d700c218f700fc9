/- Plain: a tree that comes of operations (grove): what an operation does, how it is undone, operations in the order of their times. -/
import Derived.Test.YtjpieiccpbcabaaGreatTreePKu
set_option linter.unusedVariables false
set_option linter.unusedSimpArgs false
namespace Go.Proofs.YtjpieiccpbcabaaGreat
def zRwP:RwP:=⟨zSt,zSt,zSt,[],[]⟩
structure DnP where
 op:Opn
 tn:Bool
 was:RwP
 was0:Bool
def aboveN (xs:List RwP):Nat → St → St → Bool
 | 0,_,_=>false
 | k + 1,n,p=>if p.T = 0 then false else decide (p = n) || match findR xs p with
  | none=>false
  | some r=>aboveN xs k n r.Parent
def aboveR (xs:List RwP) (n p:St):Bool:=aboveN xs xs.length n p
def hdsR (xs:List RwP) (s:St):List Hd:=match findR xs s with
 | none=>[]
 | some r=>r.Heads
def leftH (ov:List St) (l:List Hd):List Hd:=l.filter fun h=>!decide (h.At ∈ ov)
def newR (xs:List RwP) (o:Opn):Option RwP :=
 if o.Kind = 1 then
  if ((findR xs o.Parent).isNone && !decide (o.Parent.T = 0)) || aboveR xs o.Node o.Parent then none
  else some ⟨o.Node,o.Parent,o.At,o.Name,hdsR xs o.Node⟩
 else match findR xs o.Node with
  | none=>none
  | some r=>some ⟨r.Node,r.Parent,r.At,r.Name,leftH o.Over r.Heads ++ [⟨o.At,o.Data⟩]⟩
def putR (xs:List RwP) (r:RwP):List RwP:=if (findR xs r.Node).isSome then xs.map (fun x=>if x.Node = r.Node then r else x) else xs ++ [r]
def doX (xs:List RwP) (o:Opn):List RwP:=match newR xs o with
 | none=>xs
 | some r=>putR xs r
def doD (xs:List RwP) (o:Opn):DnP:=⟨o,(newR xs o).isSome,(findR xs o.Node).getD zRwP,(findR xs o.Node).isSome⟩
def undoX (xs:List RwP) (d:DnP):List RwP:=if d.tn then (if d.was0 then putR xs d.was else xs.filter fun x=>!decide (x.Node = d.op.Node)) else xs
def runX (xs:List RwP) (L:List Opn):List RwP:=L.foldl doX xs
def logX (xs:List RwP):List Opn → List DnP
 | []=>[]
 | o :: L=>doD xs o :: logX (doX xs o) L
theorem runX_app (xs:List RwP) (L M:List Opn):runX xs (L ++ M) = runX (runX xs L) M:=by simp [runX]
theorem logX_app (xs:List RwP) (L M:List Opn):logX xs (L ++ M) = logX xs L ++ logX (runX xs L) M:=by
 induction L generalizing xs with
 | nil=>rfl
 | cons o L ih=>simp [logX,ih,runX]
theorem logX_len (xs:List RwP) (L:List Opn):(logX xs L).length = L.length:=by
 induction L generalizing xs with
 | nil=>rfl
 | cons o L ih=>simp [logX,ih]
theorem logX_get (xs:List RwP) (L:List Opn) (i:Nat) (h:i < L.length):(logX xs L)[i]'(by rw [logX_len];exact h) = doD (runX xs (L.take i)) L[i]:=by
 induction L generalizing xs i with
 | nil=>simp at h
 | cons o L ih =>
  cases i with
  | zero=>simp [logX,runX]
  | succ i =>
   simp only [logX,List.getElem_cons_succ,List.take_succ_cons]
   rw [ih _ i (by simpa using h)]
   rfl
theorem findR_node {xs:List RwP} {s:St} {r:RwP} (h:findR xs s = some r):r.Node = s:=(findR_some h).2
theorem newR_node {xs:List RwP} {o:Opn} {r:RwP} (h:newR xs o = some r):r.Node = o.Node:=by
 unfold newR at h
 split at h
 ·split at h
  ·cases h
  ·injection h with h
   rw [← h]
 ·split at h
  ·cases h
  ·rename_i q hq
   injection h with h
   subst h
   exact (findR_node hq:q.Node = o.Node)
theorem putR_nodes (xs:List RwP) (r:RwP):(putR xs r).map (·.Node) = if (findR xs r.Node).isSome then xs.map (·.Node) else xs.map (·.Node) ++ [r.Node]:=by
 unfold putR
 split
 ·rw [List.map_map]
  refine List.map_congr_left fun x _=>?_
  simp only [Function.comp_apply]
  split
  ·rename_i h;exact h.symm
  ·rfl
 ·simp
theorem putR_nd {xs:List RwP} (h:(xs.map (·.Node)).Nodup) (r:RwP):((putR xs r).map (·.Node)).Nodup:=by
 rw [putR_nodes]
 split
 ·exact h
 ·rename_i hn
  have hn':findR xs r.Node = none:=by simpa using hn
  rw [List.nodup_append]
  refine ⟨h,by simp,fun a ha b hb e=>?_⟩
  rw [List.mem_singleton] at hb
  obtain ⟨x,hx,rfl⟩:=List.mem_map.1 ha
  exact findR_none.1 hn' x hx (e.trans hb)
theorem doX_nd {xs:List RwP} (h:(xs.map (·.Node)).Nodup) (o:Opn):((doX xs o).map (·.Node)).Nodup:=by
 unfold doX
 split
 ·exact h
 ·exact putR_nd h _
theorem runX_nd {xs:List RwP} (h:(xs.map (·.Node)).Nodup) (L:List Opn):((runX xs L).map (·.Node)).Nodup:=by
 induction L generalizing xs with
 | nil=>exact h
 | cons o L ih=>exact ih (doX_nd h o)
theorem map_same {xs:List RwP} (h:(xs.map (·.Node)).Nodup) {x:RwP} (hx:x ∈ xs):xs.map (fun y=>if y.Node = x.Node then x else y) = xs:=by
 have:xs.map (fun y=>if y.Node = x.Node then x else y) = xs.map id:=by
  refine List.map_congr_left fun y hy=>?_
  split
  ·rename_i e
   have h1:=findR_mem h hx
   have h2:=findR_mem h hy
   rw [e,h1] at h2
   injection h2
  ·rfl
 rw [this,List.map_id]
theorem findR_put (xs:List RwP) (r:RwP) (s:St):findR (putR xs r) s = if r.Node = s then some r else findR xs s:=by
 unfold putR
 split
 ·rename_i hs
  induction xs with
  | nil=>simp [findR] at hs
  | cons x xs ih =>
   unfold findR at ih hs ⊢
   rw [List.map_cons,List.find?_cons,List.find?_cons]
   rw [List.find?_cons] at hs
   by_cases hx:x.Node = r.Node
   ·simp only [hx,if_true]
    by_cases e:r.Node = s
    ·simp [e]
    ·simp only [e,decide_false,if_false]
     by_cases h2:((xs.find? fun q=>decide (q.Node = r.Node))).isSome
     ·rw [ih h2,if_neg e]
     ·have:∀ y ∈ xs,y.Node ≠ r.Node:=by
       have:=List.find?_eq_none.1 (by simpa using h2:(xs.find? fun q=>decide (q.Node = r.Node)) = none)
       simpa using this
      rw [List.map_congr_left (g:=id) (fun y hy=>by rw [if_neg (this y hy)];rfl),List.map_id]
   ·simp only [hx,if_false]
    simp only [hx,decide_false] at hs
    by_cases e:x.Node = s
    ·have:r.Node ≠ s:=fun e2=>hx (by rw [e,e2])
     simp [e,this]
    ·simp only [e,decide_false]
     exact ih hs
 ·rename_i hs
  have hn:findR xs r.Node = none:=by simpa using hs
  unfold findR at hn ⊢
  rw [List.find?_append]
  by_cases e:r.Node = s
  ·rw [if_pos e,← e,hn];simp
  ·rw [if_neg e];simp [e]
theorem undo_do {xs:List RwP} (h:(xs.map (·.Node)).Nodup) (o:Opn):undoX (doX xs o) (doD xs o) = xs:=by
 unfold undoX doX doD
 cases hn:newR xs o with
 | none=>simp
 | some r =>
  have hnode:=newR_node hn
  simp only [Option.isSome_some,if_true]
  cases hf:findR xs o.Node with
  | none =>
   simp only [Option.isSome_none,Bool.false_eq_true,if_false]
   unfold putR
   rw [hnode,hf]
   simp only [Option.isSome_none,Bool.false_eq_true,if_false]
   rw [List.filter_append]
   have h1:xs.filter (fun x=>!decide (x.Node = o.Node)) = xs:=by
    rw [List.filter_eq_self]
    intro x hx
    have:=findR_none.1 hf x hx
    simp [this]
   rw [h1]
   simp [hnode]
  | some x =>
   obtain ⟨hx1,hx2⟩:=findR_some hf
   simp only [Option.isSome_some,Option.getD_some,if_true]
   have hp:findR (putR xs r) x.Node = some r:=by rw [findR_put,if_pos (by rw [hnode,hx2])]
   show putR (putR xs r) x = xs
   unfold putR at hp ⊢
   rw [hp]
   rw [hnode,hf]
   simp only [Option.isSome_some,if_true,List.map_map]
   conv=>rhs;rw [← map_same h hx1]
   refine List.map_congr_left fun y _=>?_
   simp only [Function.comp_apply]
   by_cases e:y.Node = o.Node
   ·simp [e,hnode,hx2]
   ·have e2:y.Node ≠ x.Node:=by rw [hx2];exact e
    simp [e,e2]
theorem undo_all {xs:List RwP} (h:(xs.map (·.Node)).Nodup) (L:List Opn):(logX xs L).reverse.foldl undoX (runX xs L) = xs:=by
 induction L generalizing xs with
 | nil=>rfl
 | cons o L ih =>
  simp only [logX,List.reverse_cons,List.foldl_append,List.foldl_cons,List.foldl_nil]
  have:=ih (doX_nd h o)
  unfold runX at this ⊢
  rw [List.foldl_cons,this]
  exact undo_do h o
/-! a tree's rows: nodes that are right, each with a way to the root or the trash -/
structure GvI (xs:List RwP):Prop where
 nd:(xs.map (·.Node)).Nodup
 rt:∀ x ∈ xs,rightS x.Node = true
 up:∀ x ∈ xs,∃ k,reach xs k x.Node = true
theorem GvI.nil:GvI []:=⟨by simp,by simp,by simp⟩
theorem rightS_T {s:St} (h:rightS s = true):s.T ≠ 0:=by
 unfold rightS at h
 simp only [Bool.and_eq_true,decide_eq_true_eq] at h
 omega
theorem fixedS_T {s:St} (h:fixedS s = true):s.T = 0:=by
 unfold fixedS at h
 simp only [Bool.and_eq_true,decide_eq_true_eq] at h
 exact h.1
theorem reach_step {xs:List RwP} {k:Nat} {s:St} {r:RwP} (hf:findR xs s = some r) (h:reach xs k r.Parent = true):reach xs (k + 1) s = true:=by
 unfold reach
 rw [hf]
 show (fixedS s || reach xs k r.Parent) = true
 rw [h,Bool.or_true]
theorem reach_inv {xs:List RwP} {k:Nat} {s:St} (h:reach xs k s = true):fixedS s = true ∨ ∃ j r,k = j + 1 ∧ findR xs s = some r ∧ reach xs j r.Parent = true:=by
 cases k with
 | zero=>exact .inl h
 | succ k =>
  unfold reach at h
  rw [Bool.or_eq_true] at h
  rcases h with h | h
  ·exact .inl h
  ·cases hf:findR xs s with
   | none=>rw [hf] at h;cases h
   | some r=>rw [hf] at h;exact .inr ⟨k,r,rfl,rfl,h⟩
theorem reach_fixed {xs:List RwP} {s:St} (h:fixedS s = true) (k:Nat):reach xs k s = true:=by
 cases k with
 | zero=>exact h
 | succ k=>unfold reach;rw [h];rfl
theorem reach_put {xs:List RwP} {r:RwP} {K:Nat} (hK:reach (putR xs r) K r.Parent = true):∀ (k:Nat) (s:St),reach xs k s = true → ∃ j,reach (putR xs r) j s = true:=by
 intro k
 induction k with
 | zero=>exact fun s h=>⟨0,h⟩
 | succ k ih =>
  intro s h
  rcases reach_inv h with h | ⟨j,x,hj,hf,hx⟩
  ·exact ⟨0,h⟩
  ·obtain rfl:j = k:=by omega
   by_cases e:r.Node = s
   ·exact ⟨K + 1,reach_step (by rw [findR_put,if_pos e]) hK⟩
   ·obtain ⟨j',hj'⟩:=ih x.Parent hx
    exact ⟨j' + 1,reach_step (by rw [findR_put,if_neg e];exact hf) hj'⟩
theorem reach_off {xs:List RwP} {r:RwP}:∀ (k:Nat) (p:St),reach xs k p = true → aboveN xs k r.Node p = false → (fixedS p = true ∨ p.T ≠ 0) → (∀ x ∈ xs,fixedS x.Parent = true ∨ x.Parent.T ≠ 0) → reach (putR xs r) k p = true:=by
 intro k
 induction k with
 | zero=>exact fun p h _ _ _=>h
 | succ k ih =>
  intro p h ha hp hxs
  rcases reach_inv h with h | ⟨j,x,hj,hf,hx⟩
  ·exact reach_fixed h _
  ·obtain rfl:j = k:=by omega
   rcases hp with hp | hp
   ·exact reach_fixed hp _
   ·have e:aboveN xs (j + 1) r.Node p = (if p.T = 0 then false else decide (p = r.Node) || match findR xs p with | none=>false | some r'=>aboveN xs j r.Node r'.Parent):=rfl
    rw [e,if_neg hp,hf] at ha
    simp only [Bool.or_eq_false_iff,decide_eq_false_iff_not] at ha
    refine reach_step (r:=x) ?_ (ih x.Parent hx ha.2 (hxs x (findR_some hf).1) hxs)
    rw [findR_put,if_neg (fun e=>ha.1 e.symm)]
    exact hf
theorem mem_put {xs:List RwP} {r x:RwP} (h:x ∈ putR xs r):x = r ∨ (x ∈ xs ∧ x.Node ≠ r.Node):=by
 unfold putR at h
 split at h
 ·obtain ⟨y,hy,hyx⟩:=List.mem_map.1 h
  split at hyx
  ·exact .inl hyx.symm
  ·rename_i hne
   subst hyx
   exact .inr ⟨hy,hne⟩
 ·rename_i hs
  have hn:findR xs r.Node = none:=by simpa using hs
  rcases List.mem_append.1 h with h | h
  ·exact .inr ⟨h,findR_none.1 hn x h⟩
  ·exact .inl (by simpa using h)
def okP (s:St):Bool:=rightS s || fixedS s
theorem okP_or {s:St} (h:okP s = true):fixedS s = true ∨ s.T ≠ 0:=by
 unfold okP at h
 rw [Bool.or_eq_true] at h
 rcases h with h | h
 ·exact .inr (rightS_T h)
 ·exact .inl h
structure GvT (xs:List RwP):Prop extends GvI xs where
 pr:∀ x ∈ xs,okP x.Parent = true
theorem GvT.nil:GvT []:=⟨GvI.nil,by simp⟩
theorem goodOp_at {o:Opn} (h:goodOp o = true):rightS o.At = true ∧ rightS o.Node = true ∧ (o.Kind = 1 ∨ o.Kind = 2):=by
 unfold goodOp at h
 simp only [Bool.and_eq_true] at h
 refine ⟨h.1.1,h.1.2,?_⟩
 have:=h.2
 split at this
 ·rename_i e;exact .inl e
 ·split at this
  ·rename_i e;exact .inr e
  ·cases this
theorem goodOp_move {o:Opn} (h:goodOp o = true) (hk:o.Kind = 1):okP o.Parent = true ∧ nameOk o.Name = true ∧ cmpS o.Node o.At ≤ 0 ∧ o.Over = []:=by
 unfold goodOp at h
 simp only [Bool.and_eq_true] at h
 have:=h.2
 rw [if_pos hk] at this
 unfold moveOk at this
 simp only [Bool.and_eq_true,decide_eq_true_eq] at this
 unfold okP
 exact ⟨this.1.1.1.2,this.1.1.2,this.1.1.1.1,List.length_eq_zero_iff.1 this.2⟩
theorem doX_gvt {xs:List RwP} (h:GvT xs) {o:Opn} (hg:goodOp o = true):GvT (doX xs o):=by
 unfold doX
 cases hn:newR xs o with
 | none=>exact h
 | some r =>
  have hnode:=newR_node hn
  obtain ⟨ga,gn,gk⟩:=goodOp_at hg
  -- the new row's parent has a way in the new rows
  have key:∃ K,reach (putR xs r) K r.Parent = true ∧ okP r.Parent = true:=by
   unfold newR at hn
   split at hn
   ·rename_i hk
    obtain ⟨hp,_,_,_⟩:=goodOp_move hg hk
    split at hn
    ·cases hn
    ·rename_i hc
     injection hn with hn
     have hpr:r.Parent = o.Parent:=by rw [← hn]
     rw [Bool.or_eq_true,not_or] at hc
     obtain ⟨c1,c2⟩:=hc
     have hw:∃ k,reach xs k o.Parent = true:=by
      unfold okP at hp
      rw [Bool.or_eq_true] at hp
      rcases hp with hp | hp
      ·have hT:=rightS_T hp
       cases hf:findR xs o.Parent with
       | none =>
        exfalso
        apply c1
        rw [hf]
        simp [hT]
       | some q =>
        obtain ⟨k,hk'⟩:=h.up q (findR_some hf).1
        rw [findR_node hf] at hk'
        exact ⟨k,hk'⟩
      ·exact ⟨0,hp⟩
     obtain ⟨k,hk'⟩:=hw
     have hl:=reach_len hk'
     have ha:aboveN xs xs.length r.Node o.Parent = false:=by
      rw [hnode]
      simpa [aboveR] using c2
     refine ⟨xs.length,?_,by rw [hpr];exact hp⟩
     rw [hpr]
     exact reach_off xs.length o.Parent hl ha (okP_or hp) (fun x hx=>okP_or (h.pr x hx))
   ·cases hf:findR xs o.Node with
    | none=>rw [hf] at hn;cases hn
    | some q =>
     rw [hf] at hn
     injection hn with hn
     have hpr:r.Parent = q.Parent:=by rw [← hn]
     have hq:=(findR_some hf).1
     -- parents stay as they were: every way stays
     have same:∀ (k:Nat) (s:St),reach xs k s = true → reach (putR xs r) k s = true:=by
      intro k
      induction k with
      | zero=>exact fun s h=>h
      | succ k ih =>
       intro s hs
       rcases reach_inv hs with h' | ⟨j,x,hj,hfx,hx⟩
       ·exact reach_fixed h' _
       ·obtain rfl:j = k:=by omega
        by_cases e:r.Node = s
        ·have:x = q:=by
          rw [← e,hnode,hf] at hfx
          injection hfx with hfx
          exact hfx.symm
         subst this
         exact reach_step (r:=r) (by rw [findR_put,if_pos e]) (by rw [hpr];exact ih _ hx)
        ·exact reach_step (r:=x) (by rw [findR_put,if_neg e];exact hfx) (ih _ hx)
     obtain ⟨k,hk⟩:=h.up q hq
     rcases reach_inv hk with h' | ⟨j,x,hj,hfx,hx⟩
     ·exact absurd (fixedS_T h') (rightS_T (h.rt q hq))
     ·have:x = q:=by
       rw [findR_mem h.nd hq] at hfx
       injection hfx with hfx
       exact hfx.symm
      subst this
      exact ⟨j,by rw [hpr];exact same j _ hx,by rw [hpr];exact h.pr _ hq⟩
  obtain ⟨K,hK,hp⟩:=key
  refine ⟨⟨putR_nd h.nd r,fun x hx=>?_,fun x hx=>?_⟩,fun x hx=>?_⟩
  ·rcases mem_put hx with rfl | ⟨hx,_⟩
   ·rw [hnode];exact gn
   ·exact h.rt x hx
  ·rcases mem_put hx with rfl | ⟨hx,_⟩
   ·exact ⟨K + 1,reach_step (by rw [findR_put,if_pos rfl]) hK⟩
   ·obtain ⟨k,hk⟩:=h.up x hx
    exact reach_put hK k _ hk
  ·rcases mem_put hx with rfl | ⟨hx,_⟩
   ·exact hp
   ·exact h.pr x hx
theorem runX_gvt {xs:List RwP} (h:GvT xs) {L:List Opn} (hg:∀ o ∈ L,goodOp o = true):GvT (runX xs L):=by
 induction L generalizing xs with
 | nil=>exact h
 | cons o L ih=>exact ih (doX_gvt h (hg o (by simp))) (fun o ho=>hg o (by simp [ho]))
end Go.Proofs.YtjpieiccpbcabaaGreat
