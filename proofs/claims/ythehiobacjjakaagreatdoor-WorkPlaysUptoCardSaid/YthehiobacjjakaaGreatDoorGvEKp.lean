/- What has been done to a tree of operations (grove), as a value; the tree's variable; rules for the walk. Contracts: slices.Clone, Index, Contains, Equal of stamps; Clone of what has been done; sort.Search; rows owned that are stored into. (ex_ldS_at) Contracts: stamp.Same; the closure of grove's do, IndexFunc and DeleteFunc of heads with it. (ex_ldS_at) Contracts: the closure of grove's do, IndexFunc and DeleteFunc of heads with it. (ex_ldS_at) Entries of a map taken away. A tree (grove) in memory; contracts: fixed, above, undo. (ex_ldS_at, ex_ldR_at) -/
import Derived.Test.YthehiobacjjakaaGreatDoorDifCKp
import Derived.Test.YthehiobacjjakaaGreatDoorStabCKp
import Derived.Lib.SliceRun
import Derived.Test.YthehiobacjjakaaGreatDoorWkQKp
import Derived.Test.YthehiobacjjakaaGreatDoorFrameOKp
set_option linter.unusedVariables false
set_option linter.unusedSimpArgs false
namespace Go.Proofs.YthehiobacjjakaaGreatDoor
open Go.RowKit
structure DnW where
 op:OpW
 tn:Bool
 was:RwW
 was0:Bool
def zDnW:DnW:=⟨zOpW,false,zRwW,false⟩
/-! stamps among stamps -/
/-! sort.Search -/
end Go.Proofs.YthehiobacjjakaaGreatDoor
namespace Go.Proofs.YthehiobacjjakaaGreatDoor
open Go.RowKit
set_option linter.unusedSectionVars false
/-! rows owned that are stored into -/
section
variable {α:Type} [Inhabited α] {C:Cod α}
theorem OwnC.sets {w0 w:World} {A:Option Addr} {c g:Nat} {l:List α} (h:OwnC C w0 w A c l) (hA:A = some ⟨g,0,none⟩) (k:Nat) (news:List α) (hk:k + news.length ≤ l.length) (hl:l ≠ []) :
  OwnC C w0 (w.setCells g (k * C.n) (C.row news)) A c (l.take k ++ news ++ l.drop (k + news.length)) ∧ Fr (oneB g) w (w.setCells g (k * C.n) (C.row news)):=by
 have hlp:=List.length_pos_iff.2 hl
 have hlen:(l.take k ++ news ++ l.drop (k + news.length)).length = l.length:=by simp;omega
 rcases h.2 with ⟨hv,h00⟩ | ⟨blk,cap,cur,hv,hb,hg,hnc,hm,hs,ht⟩
 ·omega
 ·injection hv with h1 _ h3
  rw [hA] at h1
  injection h1 with h1
  injection h1 with h1
  subst h1;subst h3
  have hlt:g < w.heap.size:=(Array.getElem?_eq_some_iff.1 hg).1
  have hg':w.heap[g]? = some (.cells cur.toList.toArray C.t (0,0)):=by rw [Array.toArray_toList];exact hg
  have hcl:l.length * C.n ≤ cur.toList.length:=by
   have:=congrArg List.length ht
   rw [List.length_take,Cod.row_len] at this
   omega
  have hnl:(C.row news).length = news.length * C.n:=Cod.row_len _
  have hin:k * C.n + news.length * C.n ≤ l.length * C.n:=by rw [← Nat.add_mul];exact Nat.mul_le_mul_right _ hk
  have e:=setCells_row g C.t (C.row news) w cur.toList (k * C.n) hg' (by rw [hnl];omega)
  obtain ⟨f1,f2,f3⟩:=frameMap hlt (Obj.cells (cur.toList.take (k * C.n) ++ C.row news ++ cur.toList.drop (k * C.n + (C.row news).length)).toArray C.t (0,0))
  rw [e]
  refine ⟨⟨by rw [Cod.row_len],.inr ⟨g,c,_,by rw [hA,hlen],hb,f3,by rw [hlen];exact hnc,hm,?_,?_⟩⟩,f1⟩
  ·have:cur.toList.length = cur.size:=by simp
   simp only [List.size_toArray,List.length_append,List.length_take,List.length_drop,hnl]
   rw [← hs]
   omega
  ·rw [hlen,Cod.row_append,Cod.row_append,hnl]
   have e1:cur.toList.take (k * C.n) = C.row (l.take k):=by
    rw [← Cod.row_take _ k (by omega),← ht,List.take_take]
    congr 1
    omega
   have e2:(cur.toList.drop (k * C.n + news.length * C.n)).take (l.length * C.n - (k * C.n + news.length * C.n)) = C.row (l.drop (k + news.length)):=by
    rw [← Cod.row_drop _ _ hk,← ht,List.drop_take,Nat.add_mul]
   have hl3:(C.row (l.take k) ++ C.row news).length = k * C.n + news.length * C.n:=by
    rw [List.length_append,Cod.row_len,List.length_take,hnl,Nat.min_eq_left (by omega)]
   show List.take (l.length * C.n) (cur.toList.take (k * C.n) ++ C.row news ++ cur.toList.drop (k * C.n + news.length * C.n)) = _
   rw [e1,← e2,List.take_append,List.take_of_length_le (by rw [hl3];omega),hl3]
theorem OwnC.set {w0 w:World} {A:Option Addr} {c g:Nat} {l:List α} (h:OwnC C w0 w A c l) (hA:A = some ⟨g,0,none⟩) (k:Nat) (hk:k < l.length) (x:α) :
  OwnC C w0 (w.setCells g (k * C.n) (C.cs x)) A c (l.set k x) ∧ Fr (oneB g) w (w.setCells g (k * C.n) (C.cs x)):=by
 have:=OwnC.sets h hA k [x] (by simp only [List.length_singleton];omega) (by intro h0;rw [h0] at hk;simp at hk)
 rw [Cod.row_one_] at this
 rw [List.set_eq_take_append_cons_drop,if_pos hk]
 simpa using this
end
instance:Inhabited Hd:=⟨codH.z⟩
instance:Inhabited DnW:=⟨zDnW⟩
instance:Inhabited OpW:=⟨zOpW⟩
end Go.Proofs.YthehiobacjjakaaGreatDoor
namespace Go.Proofs.YthehiobacjjakaaGreatDoor
open Go.RowKit
def FstI (n:Nat) (p:Nat → Bool) (z:Int):Prop:=(∃ i:Nat,i < n ∧ z = (i:Int) ∧ p i = true ∧ ∀ j,j < i → p j = false) ∨ (z = -1 ∧ ∀ j,j < n → p j = false)
def FiTo (w:World) (n:Nat) (p:Nat → Bool) (e:Ending) (w':World):Prop:=∃ z:Int,e = .returned (.int .i64 z) ∧ FstI n p z ∧ Fr noB w w'
end Go.Proofs.YthehiobacjjakaaGreatDoor
namespace Go.Proofs.YthehiobacjjakaaGreatDoor
open Go.RowKit Go.Maps Go.Sort
section
variable {κ:Type} {enc:κ → Value} {P:Program} {kt t E:TypeId} {w w':World} {r:Nat} {kv:List (κ × Value)} [DecidableEq κ]
end
end Go.Proofs.YthehiobacjjakaaGreatDoor
namespace Go.Proofs.YthehiobacjjakaaGreatDoor
open Go.RowKit
theorem stp_skip {P:Program} {w:World} {ops:Array Oper} {o:Oper} {a:Act} {K:Act → World → Prop} {Q:Exit → Act → World → Prop} {E:Prop} (hgd:o.guard = none) (w':World)
  (hr:(execOp a.eval o).run P w = .ok .skip w') (h:K (a.put o.dst undef) w'):if Region.wanted o (yielded ops a.tmps) = true then Oper.wp P o a w K Q else E:=by
 have hw:Region.wanted o (yielded ops a.tmps) = true:=by simp [Region.wanted,hgd]
 rw [if_pos hw]
 unfold Oper.wp
 rw [hr]
 exact h
theorem ex_stV_at {α:Type} {C:Cod α} {ρ:Operand → Value} {o:Oper} {a x:Operand} {w w':World} {pa:Value} {v:α} (ho:o.op = .store C.t a x) (ha:ρ a = pa) (hx:ρ x = .agg (C.A v)) (hs:C.stR w pa (.agg (C.A v)) = .ok .skip w') :
  (execOp ρ o).run Tryz.prog w = .ok .skip w':=by
 rw [Cod.stOp (C:=C) ρ o a x ho w,ha,hx]
 exact hs
/-! rows, operations, what has been done: with rows of their own -/
structure RwO (w:World) (r:RwW) (x:RwP):Prop where
 inn:RwIn w r x
 own:w.ownsRow 0 78 34 (.slice r.A r.n r.c) r.n (codH.row x.Heads)
def NoHS (M:Nat → Prop) (w:World):Prop:=∀ b,M b → ∀ cs z,w.heap[b]? ≠ some (.cells cs 78 z) ∧ w.heap[b]? ≠ some (.cells cs 24 z)
theorem NoHS.nob (w:World):NoHS noB w:=fun b h=>absurd h (by simp [noB])
theorem NoHS.map {w:World} {m:Nat} {kv:List (St × Value)} (h:mpT w m = some kv):NoHS (oneB m) w:=fun b hb cs z=>by
 obtain ⟨es,c,h1⟩:=mpT_blk h
 have e:b = m:=hb
 subst e
 rw [h1]
 exact ⟨fun h=>(by cases h),fun h=>(by cases h)⟩
theorem NoHS.blk {w:World} {g:Nat} {t:TypeId} {cs:List Value} (h:Blk w g t cs) (h1:t ≠ 78) (h2:t ≠ 24):NoHS (oneB g) w:=fun b hb c z=>by
 have e:b = g:=hb
 subst e
 have hh:w.heap[b]? = some (.cells cs.toArray t (0,0)):=h
 rw [hh]
 exact ⟨fun h=>by injection h with h;injection h with _ h _;exact h1 h,fun h=>by injection h with h;injection h with _ h _;exact h2 h⟩
theorem NoHS.own {w:World} {base size n:Nat} {e:TypeId} {v:Value} {xs:List Value} (h:w.ownsRow base e size v n xs) (h1:e ≠ 78) (h2:e ≠ 24):NoHS (fun b=>v.ownBlock = some b) w:=fun b hb c z=>by
 rcases h.2 with ⟨hv,_⟩ | ⟨blk,cap,cur,hv,_,hg,_⟩
 ·rw [hv] at hb;cases hb
 ·rw [hv] at hb
  have e:blk = b:=by simpa [Value.ownBlock] using hb
  subst e
  rw [hg]
  exact ⟨fun h=>by injection h with h;injection h with _ h _;exact h1 h,fun h=>by injection h with h;injection h with _ h _;exact h2 h⟩
theorem own_hs {M:Nat → Prop} {w w':World} {e:TypeId} {size n:Nat} {v:Value} {xs:List Value} (h:w.ownsRow 0 e size v n xs) (f:Fr M w w') (hM:∀ b,M b → ∀ cs z,w.heap[b]? ≠ some (.cells cs e z)):w'.ownsRow 0 e size v n xs :=
 own_fr h f (fun g hg hm=>by
  rcases h.2 with ⟨hv,_⟩ | ⟨blk,cap,cur,hv,_,hgg,_⟩
  ·rw [hv] at hg;cases hg
  ·rw [hv] at hg
   have e:blk = g:=by simpa [Value.ownBlock] using hg
   subst e
   exact hM blk hm _ _ hgg)
theorem RwIn.own_ {w w':World} {r:RwW} {x:RwP} (h:RwIn w r x) {base:Nat} (ho:w'.ownsRow base 78 34 (.slice r.A r.n r.c) r.n (codH.row x.Heads)):RwIn w' r x:=⟨h.eq,h.len,Sl.own ho,h.bd,h.nm,h.wn,h.wp⟩
theorem RwO.fr {M:Nat → Prop} {w w':World} {r:RwW} {x:RwP} (h:RwO w r x) (f:Fr M w w') (hM:NoHS M w):RwO w' r x:=by
 have ho:=own_hs h.own f (fun b hb cs z=>(hM b hb cs z).1)
 exact ⟨h.inn.own_ ho,ho⟩
def AllO {α β:Type} (R:World → α → β → Prop) (w:World) (rs:List α) (xs:List β):Prop:=rs.length = xs.length ∧ ∀ i (h:i < rs.length) (h':i < xs.length),R w rs[i] xs[i]
theorem AllO.map {α β:Type} {R:World → α → β → Prop} {w w':World} {rs:List α} {xs:List β} (h:AllO R w rs xs) (k:∀ r x,R w r x → R w' r x):AllO R w' rs xs:=⟨h.1,fun i h1 h2=>k _ _ (h.2 i h1 h2)⟩
theorem AllO.nil {α β:Type} {R:World → α → β → Prop} {w:World}:AllO R w [] []:=⟨rfl,fun i h=>absurd h (by simp)⟩
theorem AllO.cons {α β:Type} {R:World → α → β → Prop} {w:World} {r:α} {x:β} {rs:List α} {xs:List β} (h1:R w r x) (h2:AllO R w rs xs):AllO R w (r :: rs) (x :: xs) :=
 ⟨by simp [h2.1],fun i h3 h4=>by
  cases i with
  | zero=>exact h1
  | succ i=>exact h2.2 i (by simpa using h3) (by simpa using h4)⟩
theorem AllO.tail {α β:Type} {R:World → α → β → Prop} {w:World} {r:α} {x:β} {rs:List α} {xs:List β} (h:AllO R w (r :: rs) (x :: xs)):R w r x ∧ AllO R w rs xs :=
 ⟨h.2 0 (by simp) (by simp),by have:=h.1;simpa using this,fun i h1 h2=>h.2 (i + 1) (by simpa using h1) (by simpa using h2)⟩
theorem AllO.app {α β:Type} {R:World → α → β → Prop} {w:World} {rs ss:List α} {xs ys:List β} (h:AllO R w rs xs) (k:AllO R w ss ys):AllO R w (rs ++ ss) (xs ++ ys):=by
 induction rs generalizing xs with
 | nil =>
  obtain rfl:xs = []:=List.length_eq_zero_iff.1 (by simpa using h.1.symm)
  exact k
 | cons r rs ih =>
  match xs,h with
  | [],h=>have:=h.1;simp at this
  | x :: xs,h=>exact AllO.cons h.tail.1 (ih h.tail.2)
theorem AllO.snoc {α β:Type} {R:World → α → β → Prop} {w:World} {rs:List α} {xs:List β} {r:α} {x:β} (h:AllO R w rs xs) (k:R w r x):AllO R w (rs ++ [r]) (xs ++ [x]):=h.app (AllO.cons k AllO.nil)
theorem AllO.take {α β:Type} {R:World → α → β → Prop} {w:World} {rs:List α} {xs:List β} (h:AllO R w rs xs) (k:Nat):AllO R w (rs.take k) (xs.take k) :=
 ⟨by simp [h.1],fun i h1 h2=>by
  rw [List.getElem_take,List.getElem_take]
  exact h.2 i (by simp at h1;omega) (by simp at h2;omega)⟩
theorem AllO.drop {α β:Type} {R:World → α → β → Prop} {w:World} {rs:List α} {xs:List β} (h:AllO R w rs xs) (k:Nat):AllO R w (rs.drop k) (xs.drop k) :=
 ⟨by simp [h.1],fun i h1 h2=>by
  rw [List.getElem_drop,List.getElem_drop]
  exact h.2 (k + i) (by simp at h1;omega) (by simp at h2;omega)⟩
abbrev RwsO_:=AllO RwO
theorem RwsO_.rws {w:World} {rs:List RwW} {xs:List RwP} (h:AllO RwO w rs xs):RwsIn w rs xs:=⟨h.1,fun i h1 h2=>(h.2 i h1 h2).inn⟩
theorem RwsO_.find {w:World} {rs:List RwW} {xs:List RwP} (h:AllO RwO w rs xs) (s:St):(findW rs s = none ∧ findR xs s = none) ∨ ∃ r x,findW rs s = some r ∧ findR xs s = some x ∧ RwO w r x:=by
 induction rs generalizing xs with
 | nil =>
  obtain rfl:xs = []:=List.length_eq_zero_iff.1 (by simpa using h.1.symm)
  exact .inl ⟨rfl,rfl⟩
 | cons r rs ih =>
  match xs,h with
  | [],h=>have:=h.1;simp at this
  | x :: xs,h =>
   obtain ⟨h1,h2⟩:=h.tail
   unfold findW findR at ih ⊢
   rw [List.find?_cons,List.find?_cons]
   by_cases e:r.Node = s
   ·have e':x.Node = s:=by rw [h1.inn.node];exact e
    simp only [e,e',decide_true]
    exact .inr ⟨r,x,rfl,rfl,h1⟩
   ·have e':¬ x.Node = s:=by rw [h1.inn.node];exact e
    simp only [e,e',decide_false]
    exact ih h2
def putW (rs:List RwW) (r:RwW):List RwW:=if (findW rs r.Node).isSome then rs.map (fun x=>if x.Node = r.Node then r else x) else rs ++ [r]
theorem RwsO_.put {w:World} {rs:List RwW} {xs:List RwP} (h:AllO RwO w rs xs) {r:RwW} {x:RwP} (hr:RwO w r x):AllO RwO w (putW rs r) (putR xs x):=by
 have hn:x.Node = r.Node:=hr.inn.node
 have hs:(findW rs r.Node).isSome = (findR xs x.Node).isSome:=by
  rw [hn]
  rcases RwsO_.find h r.Node with ⟨h1,h2⟩ | ⟨q,y,h1,h2,_⟩
  ·rw [h1,h2];rfl
  ·rw [h1,h2];rfl
 unfold putW putR
 rw [hs]
 split
 ·refine ⟨by simp [h.1],fun i h1 h2=>?_⟩
  simp only [List.getElem_map]
  have hi:=h.2 i (by simpa using h1) (by simpa using h2)
  by_cases e:(rs[i]'(by simpa using h1)).Node = r.Node
  ·have e':(xs[i]'(by simpa using h2)).Node = x.Node:=by rw [hi.inn.node,hn];exact e
   rw [if_pos e,if_pos e']
   exact hr
  ·have e':¬ (xs[i]'(by simpa using h2)).Node = x.Node:=by rw [hi.inn.node,hn];exact e
   rw [if_neg e,if_neg e']
   exact hi
 ·exact h.snoc hr
/-! contracts -/
end Go.Proofs.YthehiobacjjakaaGreatDoor
