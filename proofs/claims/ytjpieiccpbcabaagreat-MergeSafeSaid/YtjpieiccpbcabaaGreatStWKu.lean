/- Plain: stamps, operations, items, commits, tags; when they are right; their bytes; how they are read. Plain: what is put is read again; a reader takes the same of longer bytes. Plain: rows of a tree; ways up from row to row; places; names from the root. Plain: a tree that comes of operations (grove): what an operation does, how it is undone, operations in the order of their times. Contracts: cmp.Compare, cmp.Or; stamps: Right, fixed, Cmp. -/
import Derived.Test.YtjpieiccpbcabaaGreatNumWKu
import Derived.Test.YtjpieiccpbcabaaGreatBasePKu
import Derived.Test.YtjpieiccpbcabaaGreatRegTKu
import Derived.Deep.Cut
set_option linter.unusedVariables false
set_option linter.unusedSimpArgs false
namespace Go.Proofs.YtjpieiccpbcabaaGreat
structure St where
 T:Int
 R:Int
deriving DecidableEq
structure Hd where
 At:St
 Data:ID
structure It where
 Node:St
 At:St
 Name:List UInt8
 Sub:ID
 Heads:List Hd
structure Opn where
 Kind:Int
 At:St
 Node:St
 Parent:St
 Name:List UInt8
 Data:ID
 Over:List St
structure Chg where
 Parents:List ID
 Time:Int
 R:Int
 Ops:List Opn
 Tree:ID
 Msg:List UInt8
def zSt:St:=⟨0,0⟩
def cmpS (a b:St):Int:=if a.T < b.T then -1 else if b.T < a.T then 1 else if a.R < b.R then -1 else if b.R < a.R then 1 else 0
def rightS (s:St):Bool:=decide (1 ≤ s.T) && decide (s.T ≤ 1099511627776) && decide (1 ≤ s.R) && decide (s.R ≤ 65536)
def nameOk (l:List UInt8):Bool:=decide (1 ≤ l.length) && decide (l.length ≤ 60) && decide (l ≠ [46]) && decide (l ≠ [46,46]) && l.all fun b=>decide (b ≠ 0) && decide (b ≠ 47) && decide (b ≠ 10)
def fixedS (s:St):Bool:=decide (s.T = 0) && (decide (s.R = 0) || decide (s.R = 1))
def riseB {α:Type} (cf:α → α → Int):List α → Bool
 | x :: y :: l=>decide (cf x y < 0) && riseB cf (y :: l)
 | _=>true
def moveOk (o:Opn):Bool:=decide (cmpS o.Node o.At ≤ 0) && (rightS o.Parent || fixedS o.Parent) && nameOk o.Name && decide (o.Data = zID) && decide (o.Over.length = 0)
def editOk (o:Opn):Bool:=decide (cmpS o.Node o.At < 0) && decide (o.Parent = zSt) && decide (o.Name = []) && decide (o.Data ≠ zID) && decide (o.Over.length ≤ 64) && (o.Over.all fun s=>rightS s && decide (cmpS s o.At < 0)) && riseB cmpS o.Over
def goodOp (o:Opn):Bool:=rightS o.At && rightS o.Node && (if o.Kind = 1 then moveOk o else if o.Kind = 2 then editOk o else false)
def rightCh (c:Chg):Bool:=decide (c.Parents.length ≤ 2) && (c.Parents.all fun p=>decide (p ≠ zID)) && riseB cmpI c.Parents && rightS ⟨c.Time,c.R⟩ && decide (c.Msg.length ≤ 200) && decide (c.Tree ≠ zID) && decide (c.Ops.length ≤ 64) && !(decide (c.Parents.length = 2) && decide (0 < c.Ops.length)) &&
 (c.Ops.all fun o=>goodOp o && decide (o.At.T ≤ c.Time) && decide (o.At.R = c.R)) && riseB (fun a b:Opn=>cmpS a.At b.At) c.Ops
/-! bytes -/
def stB (s:St):List UInt8:=numB s.T.toNat ++ numB s.R.toNat
def txB (l:List UInt8):List UInt8:=numB l.length ++ l
def opB (o:Opn):List UInt8:=if goodOp o then numB o.Kind.toNat ++ stB o.At ++ stB o.Node ++ (if o.Kind = 1 then stB o.Parent ++ txB o.Name else o.Data.1 ++ numB o.Over.length ++ o.Over.flatMap stB) else []
def chB (c:Chg):List UInt8:=3 :: numB c.Parents.length ++ c.Parents.flatMap (·.1) ++ numB c.Time.toNat ++ numB c.R.toNat ++ numB c.Ops.length ++ c.Ops.flatMap opB ++ c.Tree.1 ++ txB c.Msg
/-! reading -/
def rdTake (n:Nat) (s:RS):List UInt8 × RS:=if s.2 = true ∨ s.1.length < n then ([],([],true)) else (s.1.take n,(s.1.drop n,false))
def rdAll {α:Type} (f:RS → α × RS):Nat → RS → List α × RS
 | 0,s=>([],s)
 | n + 1,s=>((f s).1 :: (rdAll f n (f s).2).1,(rdAll f n (f s).2).2)
def openR (b:List UInt8) (k:UInt8):RS:=match b with
 | []=>([],true)
 | c :: l=>if c = k then (l,false) else ([],true)
structure Ext {α:Type} (f:RS → α × RS):Prop where
 ext:∀ s t e,(f (s,false)).2 = (t,false) → f (s ++ e,false) = ((f (s,false)).1,(t ++ e,false))
 go:∀ s,s.2 = true → (f s).2.2 = true
theorem Ext.take (n:Nat):Ext (rdTake n):=by
 refine ⟨fun s t e h=>?_,fun s h=>?_⟩
 ·unfold rdTake at *
  simp only [Bool.false_eq_true,false_or] at *
  split at h
  ·simp at h
  ·rename_i h1
   have h2:¬ (s ++ e).length < n:=by rw [List.length_append];omega
   rw [if_neg h2,if_neg h1]
   simp only [Prod.mk.injEq,and_true] at h ⊢
   subst h
   rw [List.take_append_of_le_length (by omega),List.drop_append_of_le_length (by omega)]
   exact ⟨rfl,rfl⟩
 ·unfold rdTake
  rw [if_pos (.inl h)]
theorem Ext.bind {α β:Type} {f:RS → α × RS} {g:α → RS → β × RS} (hf:Ext f) (hg:∀ a,Ext (g a)):Ext (fun s=>g (f s).1 (f s).2):=by
 refine ⟨fun s t e h=>?_,fun s h=>(hg _).go _ (hf.go _ h)⟩
 try dsimp only at h ⊢
 cases hb:(f (s,false)).2.2 with
 | true =>
  have:=(hg (f (s,false)).1).go _ hb
  rw [h] at this;cases this
 | false =>
  obtain ⟨r,hr⟩:∃ r,(f (s,false)).2 = (r,false):=⟨(f (s,false)).2.1,Prod.ext rfl hb⟩
  rw [hf.ext s r e hr]
  rw [hr] at h
  rw [hr]
  exact (hg _).ext r t e h
theorem Ext.pure {α β:Type} {f:RS → α × RS} (hf:Ext f) (k:α → β):Ext (fun s=>(k (f s).1,(f s).2)):=by
 refine ⟨fun s t e h=>?_,fun s h=>hf.go _ h⟩
 simp only at h
 rw [hf.ext s t e h]
theorem Ext.congr {α:Type} {f g:RS → α × RS} (hf:Ext f) (h:∀ s,g s = f s):Ext g:=by
 have:f = g:=funext fun s=>(h s).symm
 rw [← this];exact hf
theorem Ext.ret {α:Type} (a:α):Ext (fun s:RS=>(a,s)):=by
 refine ⟨fun s t e h=>?_,fun s h=>h⟩
 simp only [Prod.mk.injEq,and_true] at h ⊢
 rw [h];exact ⟨trivial,rfl⟩
theorem Ext.all {α:Type} {f:RS → α × RS} (hf:Ext f) (n:Nat):Ext (rdAll f n):=by
 induction n with
 | zero=>exact (Ext.ret ([]:List α)).congr fun s=>rfl
 | succ n ih=>exact (hf.bind (g:=fun a s=>(a :: (rdAll f n s).1,(rdAll f n s).2)) fun a=>ih.pure fun l=>a :: l).congr fun s=>rfl
def whole {α:Type} (f:RS → α × RS) (k:UInt8) (p:α → Bool) (b:List UInt8):Option α :=
 if (f (openR b k)).2 = ([],false) ∧ p (f (openR b k)).1 = true then some (f (openR b k)).1 else none
/-! what is put is read -/
def Rt {α:Type} (f:RS → α × RS) (b:α → List UInt8) (x:α):Prop:=∀ e,f (b x ++ e,false) = (x,(e,false))
theorem Rt.all {α:Type} {f:RS → α × RS} {b:α → List UInt8}:∀ {l:List α},(∀ x ∈ l,Rt f b x) → ∀ e,rdAll f l.length (l.flatMap b ++ e,false) = (l,(e,false))
 | [],_,e=>rfl
 | x :: l,h,e=>by
  simp only [List.length_cons,rdAll,List.flatMap_cons,List.append_assoc]
  rw [h x (by simp)]
  dsimp only
  rw [Rt.all (fun y hy=>h y (by simp [hy])) e]
theorem nameOk_le {l:List UInt8} (h:nameOk l = true):l.length ≤ 60:=by
 simp only [nameOk,Bool.and_eq_true,decide_eq_true_eq] at h
 exact h.1.1.1.2
structure RwP where
 Node:St
 Parent:St
 At:St
 Name:List UInt8
 Heads:List Hd
def findR (rs:List RwP) (s:St):Option RwP:=rs.find? fun r=>decide (r.Node = s)
def reach (rs:List RwP):Nat → St → Bool
 | 0,s=>fixedS s
 | k + 1,s=>fixedS s || match findR rs s with
  | none=>false
  | some r=>reach rs k r.Parent
def riseR (rs:List RwP):Bool:=riseB (fun a b:RwP=>cmpS a.Node b.Node) rs
theorem findR_some {rs:List RwP} {s:St} {r:RwP} (h:findR rs s = some r):r ∈ rs ∧ r.Node = s:=by
 unfold findR at h
 exact ⟨List.mem_of_find?_eq_some h,by simpa using List.find?_some h⟩
theorem findR_none {rs:List RwP} {s:St}:findR rs s = none ↔ ∀ r ∈ rs,r.Node ≠ s:=by
 unfold findR
 rw [List.find?_eq_none]
 simp
theorem findR_mem {rs:List RwP} (hn:(rs.map (·.Node)).Nodup) {r:RwP} (h:r ∈ rs):findR rs r.Node = some r:=by
 induction rs with
 | nil=>cases h
 | cons x rs ih =>
  unfold findR at ih ⊢
  rw [List.find?_cons]
  simp only [List.map_cons,List.nodup_cons] at hn
  rcases List.mem_cons.1 h with rfl | h
  ·simp
  ·have:x.Node ≠ r.Node:=fun e=>hn.1 (by rw [e];exact List.mem_map.2 ⟨r,h,rfl⟩)
   simp only [this,decide_false]
   exact ih hn.2 h
theorem cmpS_trans {a b c:St} (h1:cmpS a b < 0) (h2:cmpS b c < 0):cmpS a c < 0:=by
 unfold cmpS at *
 repeat' split at h1
 all_goals repeat' split at h2
 all_goals (repeat' split) <;> omega
theorem cmpS_self (a:St):cmpS a a = 0:=by unfold cmpS;simp
theorem cmpS_zero {a b:St}:cmpS a b = 0 ↔ a = b:=by
 constructor
 ·intro h
  unfold cmpS at h
  cases a with | mk t r =>
  cases b with | mk t' r' =>
  simp only at h
  simp only [St.mk.injEq]
  repeat' split at h
  all_goals omega
 ·rintro rfl;exact cmpS_self a
theorem cmpS_flip (a b:St):cmpS b a = - cmpS a b:=by
 unfold cmpS
 repeat' split
 all_goals omega
theorem riseB_pw {α:Type} (cf:α → α → Int) (ht:∀ a b c,cf a b < 0 → cf b c < 0 → cf a c < 0):∀ l:List α,riseB cf l = true ↔ l.Pairwise (fun a b=>cf a b < 0)
 | []=>by simp [riseB]
 | [x]=>by simp [riseB]
 | x :: y :: l=>by
  have ih:=riseB_pw cf ht (y :: l)
  unfold riseB
  rw [Bool.and_eq_true,ih,decide_eq_true_eq,List.pairwise_cons (a:=x)]
  constructor
  ·rintro ⟨h1,h2⟩
   refine ⟨fun z hz=>?_,h2⟩
   rcases List.mem_cons.1 hz with rfl | hz
   ·exact h1
   ·exact ht _ _ _ h1 ((List.pairwise_cons.1 h2).1 z hz)
  ·rintro ⟨h1,h2⟩
   exact ⟨h1 y (by simp),h2⟩
theorem reach_succ {rs:List RwP}:∀ (k:Nat) (s:St),reach rs k s = true → reach rs (k + 1) s = true
 | 0,s,h=>by unfold reach at h ⊢;simp [h]
 | k + 1,s,h=>by
  unfold reach at h ⊢
  rw [Bool.or_eq_true] at h ⊢
  rcases h with h | h
  ·exact .inl h
  ·refine .inr ?_
   cases hf:findR rs s with
   | none=>rw [hf] at h;cases h
   | some r=>rw [hf] at h;exact reach_succ k _ h
theorem reach_le {rs:List RwP} {k j:Nat} {s:St} (h:reach rs k s = true) (hj:k ≤ j):reach rs j s = true:=by
 induction hj with
 | refl=>exact h
 | step _ ih=>exact reach_succ _ _ ih
def wayR (rs:List RwP):Nat → St → List St
 | 0,_=>[]
 | k + 1,s=>if fixedS s then [] else match findR rs s with
  | none=>[]
  | some r=>s :: wayR rs k r.Parent
theorem wayR_min {rs:List RwP}:∀ (k:Nat) (s:St),reach rs k s = true → (∀ j,j < k → reach rs j s = false) →
  (wayR rs k s).length = k ∧ (wayR rs k s).Nodup ∧ (∀ t ∈ wayR rs k s,t ∈ rs.map (·.Node)) ∧ ∀ t ∈ wayR rs k s,∃ i,i ≤ k ∧ reach rs i t = true
 | 0,s,_,_=>⟨rfl,by simp [wayR],by simp [wayR],by simp [wayR]⟩
 | k + 1,s,h,hm=>by
  have h0:fixedS s = false:=hm 0 (by omega)
  have h':=h
  unfold reach at h
  rw [h0,Bool.false_or] at h
  cases hf:findR rs s with
  | none=>rw [hf] at h;cases h
  | some r =>
   rw [hf] at h
   simp only at h
   have hm':∀ j,j < k → reach rs j r.Parent = false:=fun j hj=>by
    cases hr:reach rs j r.Parent with
    | false=>rfl
    | true =>
     have:=hm (j + 1) (by omega)
     unfold reach at this
     rw [h0,hf,Bool.false_or] at this
     simp only at this
     rw [hr] at this;cases this
   obtain ⟨i1,i2,i3,i4⟩:=wayR_min k r.Parent h hm'
   have e:wayR rs (k + 1) s = s :: wayR rs k r.Parent:=by
    show (if fixedS s then [] else match findR rs s with | none=>[] | some r=>s :: wayR rs k r.Parent) = _
    rw [h0,hf];rfl
   rw [e]
   refine ⟨by simp [i1],?_,?_,?_⟩
   ·rw [List.nodup_cons]
    refine ⟨fun hx=>?_,i2⟩
    obtain ⟨i,hi,hr⟩:=i4 s hx
    have:=hm i (by omega)
    rw [hr] at this;cases this
   ·intro t ht
    rcases List.mem_cons.1 ht with rfl | ht
    ·obtain ⟨h1,h2⟩:=findR_some hf
     exact List.mem_map.2 ⟨r,h1,h2⟩
    ·exact i3 t ht
   ·intro t ht
    rcases List.mem_cons.1 ht with rfl | ht
    ·exact ⟨k + 1,Nat.le_refl _,h'⟩
    ·obtain ⟨i,hi,hr⟩:=i4 t ht
     exact ⟨i,by omega,hr⟩
theorem nd_leS {α:Type} [DecidableEq α]:∀ (l m:List α),l.Nodup → (∀ x ∈ l,x ∈ m) → l.length ≤ m.length
 | [],m,_,_=>by simp
 | x :: l,m,hn,hm=>by
  rw [List.nodup_cons] at hn
  have hx:=hm x (by simp)
  have:=nd_leS l (m.erase x) hn.2 (fun y hy=>(List.mem_erase_of_ne (fun e=>hn.1 (by rw [← e];exact hy))).2 (hm y (by simp [hy])))
  rw [List.length_erase_of_mem hx] at this
  have:=List.length_pos_of_mem hx
  simp only [List.length_cons]
  omega
theorem reach_len {rs:List RwP} {k:Nat} {s:St} (h:reach rs k s = true):reach rs rs.length s = true:=by
 induction k using Nat.strongRecOn with
 | ind k ih =>
  by_cases hm:∀ j,j < k → reach rs j s = false
  ·obtain ⟨h1,h2,h3,_⟩:=wayR_min k s h hm
   have:=nd_leS _ _ h2 h3
   rw [h1,List.length_map] at this
   exact reach_le h this
  ·simp only [Classical.not_forall] at hm
   obtain ⟨j,hj,hr⟩:=hm
   exact ih j hj (by cases e:reach rs j s with | true=>rfl | false=>exact absurd e hr)
def zRwP:RwP:=⟨zSt,zSt,zSt,[],[]⟩
structure DnP where
 op:Opn
 tn:Bool
 was:RwP
 was0:Bool
def aboveN (xs:List RwP):Nat → St → St → Bool
 | 0,_,_=>false
 | k + 1,n,p=>if p.T = 0 then false else decide (p = n) || match findR xs p with
  | none=>false
  | some r=>aboveN xs k n r.Parent
def aboveR (xs:List RwP) (n p:St):Bool:=aboveN xs xs.length n p
def hdsR (xs:List RwP) (s:St):List Hd:=match findR xs s with
 | none=>[]
 | some r=>r.Heads
def leftH (ov:List St) (l:List Hd):List Hd:=l.filter fun h=>!decide (h.At ∈ ov)
def newR (xs:List RwP) (o:Opn):Option RwP :=
 if o.Kind = 1 then
  if ((findR xs o.Parent).isNone && !decide (o.Parent.T = 0)) || aboveR xs o.Node o.Parent then none
  else some ⟨o.Node,o.Parent,o.At,o.Name,hdsR xs o.Node⟩
 else match findR xs o.Node with
  | none=>none
  | some r=>some ⟨r.Node,r.Parent,r.At,r.Name,leftH o.Over r.Heads ++ [⟨o.At,o.Data⟩]⟩
def putR (xs:List RwP) (r:RwP):List RwP:=if (findR xs r.Node).isSome then xs.map (fun x=>if x.Node = r.Node then r else x) else xs ++ [r]
def doX (xs:List RwP) (o:Opn):List RwP:=match newR xs o with
 | none=>xs
 | some r=>putR xs r
def doD (xs:List RwP) (o:Opn):DnP:=⟨o,(newR xs o).isSome,(findR xs o.Node).getD zRwP,(findR xs o.Node).isSome⟩
def undoX (xs:List RwP) (d:DnP):List RwP:=if d.tn then (if d.was0 then putR xs d.was else xs.filter fun x=>!decide (x.Node = d.op.Node)) else xs
def runX (xs:List RwP) (L:List Opn):List RwP:=L.foldl doX xs
def logX (xs:List RwP):List Opn → List DnP
 | []=>[]
 | o :: L=>doD xs o :: logX (doX xs o) L
theorem runX_app (xs:List RwP) (L M:List Opn):runX xs (L ++ M) = runX (runX xs L) M:=by simp [runX]
theorem logX_app (xs:List RwP) (L M:List Opn):logX xs (L ++ M) = logX xs L ++ logX (runX xs L) M:=by
 induction L generalizing xs with
 | nil=>rfl
 | cons o L ih=>simp [logX,ih,runX]
theorem logX_len (xs:List RwP) (L:List Opn):(logX xs L).length = L.length:=by
 induction L generalizing xs with
 | nil=>rfl
 | cons o L ih=>simp [logX,ih]
theorem logX_get (xs:List RwP) (L:List Opn) (i:Nat) (h:i < L.length):(logX xs L)[i]'(by rw [logX_len];exact h) = doD (runX xs (L.take i)) L[i]:=by
 induction L generalizing xs i with
 | nil=>simp at h
 | cons o L ih =>
  cases i with
  | zero=>simp [logX,runX]
  | succ i =>
   simp only [logX,List.getElem_cons_succ,List.take_succ_cons]
   rw [ih _ i (by simpa using h)]
   rfl
theorem findR_node {xs:List RwP} {s:St} {r:RwP} (h:findR xs s = some r):r.Node = s:=(findR_some h).2
theorem newR_node {xs:List RwP} {o:Opn} {r:RwP} (h:newR xs o = some r):r.Node = o.Node:=by
 unfold newR at h
 split at h
 ·split at h
  ·cases h
  ·injection h with h
   rw [← h]
 ·split at h
  ·cases h
  ·rename_i q hq
   injection h with h
   subst h
   exact (findR_node hq:q.Node = o.Node)
theorem putR_nodes (xs:List RwP) (r:RwP):(putR xs r).map (·.Node) = if (findR xs r.Node).isSome then xs.map (·.Node) else xs.map (·.Node) ++ [r.Node]:=by
 unfold putR
 split
 ·rw [List.map_map]
  refine List.map_congr_left fun x _=>?_
  simp only [Function.comp_apply]
  split
  ·rename_i h;exact h.symm
  ·rfl
 ·simp
theorem putR_nd {xs:List RwP} (h:(xs.map (·.Node)).Nodup) (r:RwP):((putR xs r).map (·.Node)).Nodup:=by
 rw [putR_nodes]
 split
 ·exact h
 ·rename_i hn
  have hn':findR xs r.Node = none:=by simpa using hn
  rw [List.nodup_append]
  refine ⟨h,by simp,fun a ha b hb e=>?_⟩
  rw [List.mem_singleton] at hb
  obtain ⟨x,hx,rfl⟩:=List.mem_map.1 ha
  exact findR_none.1 hn' x hx (e.trans hb)
theorem doX_nd {xs:List RwP} (h:(xs.map (·.Node)).Nodup) (o:Opn):((doX xs o).map (·.Node)).Nodup:=by
 unfold doX
 split
 ·exact h
 ·exact putR_nd h _
theorem runX_nd {xs:List RwP} (h:(xs.map (·.Node)).Nodup) (L:List Opn):((runX xs L).map (·.Node)).Nodup:=by
 induction L generalizing xs with
 | nil=>exact h
 | cons o L ih=>exact ih (doX_nd h o)
theorem map_same {xs:List RwP} (h:(xs.map (·.Node)).Nodup) {x:RwP} (hx:x ∈ xs):xs.map (fun y=>if y.Node = x.Node then x else y) = xs:=by
 have:xs.map (fun y=>if y.Node = x.Node then x else y) = xs.map id:=by
  refine List.map_congr_left fun y hy=>?_
  split
  ·rename_i e
   have h1:=findR_mem h hx
   have h2:=findR_mem h hy
   rw [e,h1] at h2
   injection h2
  ·rfl
 rw [this,List.map_id]
theorem findR_put (xs:List RwP) (r:RwP) (s:St):findR (putR xs r) s = if r.Node = s then some r else findR xs s:=by
 unfold putR
 split
 ·rename_i hs
  induction xs with
  | nil=>simp [findR] at hs
  | cons x xs ih =>
   unfold findR at ih hs ⊢
   rw [List.map_cons,List.find?_cons,List.find?_cons]
   rw [List.find?_cons] at hs
   by_cases hx:x.Node = r.Node
   ·simp only [hx,if_true]
    by_cases e:r.Node = s
    ·simp [e]
    ·simp only [e,decide_false,if_false]
     by_cases h2:((xs.find? fun q=>decide (q.Node = r.Node))).isSome
     ·rw [ih h2,if_neg e]
     ·have:∀ y ∈ xs,y.Node ≠ r.Node:=by
       have:=List.find?_eq_none.1 (by simpa using h2:(xs.find? fun q=>decide (q.Node = r.Node)) = none)
       simpa using this
      rw [List.map_congr_left (g:=id) (fun y hy=>by rw [if_neg (this y hy)];rfl),List.map_id]
   ·simp only [hx,if_false]
    simp only [hx,decide_false] at hs
    by_cases e:x.Node = s
    ·have:r.Node ≠ s:=fun e2=>hx (by rw [e,e2])
     simp [e,this]
    ·simp only [e,decide_false]
     exact ih hs
 ·rename_i hs
  have hn:findR xs r.Node = none:=by simpa using hs
  unfold findR at hn ⊢
  rw [List.find?_append]
  by_cases e:r.Node = s
  ·rw [if_pos e,← e,hn];simp
  ·rw [if_neg e];simp [e]
theorem undo_do {xs:List RwP} (h:(xs.map (·.Node)).Nodup) (o:Opn):undoX (doX xs o) (doD xs o) = xs:=by
 unfold undoX doX doD
 cases hn:newR xs o with
 | none=>simp
 | some r =>
  have hnode:=newR_node hn
  simp only [Option.isSome_some,if_true]
  cases hf:findR xs o.Node with
  | none =>
   simp only [Option.isSome_none,Bool.false_eq_true,if_false]
   unfold putR
   rw [hnode,hf]
   simp only [Option.isSome_none,Bool.false_eq_true,if_false]
   rw [List.filter_append]
   have h1:xs.filter (fun x=>!decide (x.Node = o.Node)) = xs:=by
    rw [List.filter_eq_self]
    intro x hx
    have:=findR_none.1 hf x hx
    simp [this]
   rw [h1]
   simp [hnode]
  | some x =>
   obtain ⟨hx1,hx2⟩:=findR_some hf
   simp only [Option.isSome_some,Option.getD_some,if_true]
   have hp:findR (putR xs r) x.Node = some r:=by rw [findR_put,if_pos (by rw [hnode,hx2])]
   show putR (putR xs r) x = xs
   unfold putR at hp ⊢
   rw [hp]
   rw [hnode,hf]
   simp only [Option.isSome_some,if_true,List.map_map]
   conv=>rhs;rw [← map_same h hx1]
   refine List.map_congr_left fun y _=>?_
   simp only [Function.comp_apply]
   by_cases e:y.Node = o.Node
   ·simp [e,hnode,hx2]
   ·have e2:y.Node ≠ x.Node:=by rw [hx2];exact e
    simp [e,e2]
theorem undo_all {xs:List RwP} (h:(xs.map (·.Node)).Nodup) (L:List Opn):(logX xs L).reverse.foldl undoX (runX xs L) = xs:=by
 induction L generalizing xs with
 | nil=>rfl
 | cons o L ih =>
  simp only [logX,List.reverse_cons,List.foldl_append,List.foldl_cons,List.foldl_nil]
  have:=ih (doX_nd h o)
  unfold runX at this ⊢
  rw [List.foldl_cons,this]
  exact undo_do h o
/-! a tree's rows: nodes that are right, each with a way to the root or the trash -/
structure GvI (xs:List RwP):Prop where
 nd:(xs.map (·.Node)).Nodup
 rt:∀ x ∈ xs,rightS x.Node = true
 up:∀ x ∈ xs,∃ k,reach xs k x.Node = true
theorem GvI.nil:GvI []:=⟨by simp,by simp,by simp⟩
theorem rightS_T {s:St} (h:rightS s = true):s.T ≠ 0:=by
 unfold rightS at h
 simp only [Bool.and_eq_true,decide_eq_true_eq] at h
 omega
theorem fixedS_T {s:St} (h:fixedS s = true):s.T = 0:=by
 unfold fixedS at h
 simp only [Bool.and_eq_true,decide_eq_true_eq] at h
 exact h.1
theorem reach_step {xs:List RwP} {k:Nat} {s:St} {r:RwP} (hf:findR xs s = some r) (h:reach xs k r.Parent = true):reach xs (k + 1) s = true:=by
 unfold reach
 rw [hf]
 show (fixedS s || reach xs k r.Parent) = true
 rw [h,Bool.or_true]
theorem reach_inv {xs:List RwP} {k:Nat} {s:St} (h:reach xs k s = true):fixedS s = true ∨ ∃ j r,k = j + 1 ∧ findR xs s = some r ∧ reach xs j r.Parent = true:=by
 cases k with
 | zero=>exact .inl h
 | succ k =>
  unfold reach at h
  rw [Bool.or_eq_true] at h
  rcases h with h | h
  ·exact .inl h
  ·cases hf:findR xs s with
   | none=>rw [hf] at h;cases h
   | some r=>rw [hf] at h;exact .inr ⟨k,r,rfl,rfl,h⟩
theorem reach_fixed {xs:List RwP} {s:St} (h:fixedS s = true) (k:Nat):reach xs k s = true:=by
 cases k with
 | zero=>exact h
 | succ k=>unfold reach;rw [h];rfl
theorem reach_put {xs:List RwP} {r:RwP} {K:Nat} (hK:reach (putR xs r) K r.Parent = true):∀ (k:Nat) (s:St),reach xs k s = true → ∃ j,reach (putR xs r) j s = true:=by
 intro k
 induction k with
 | zero=>exact fun s h=>⟨0,h⟩
 | succ k ih =>
  intro s h
  rcases reach_inv h with h | ⟨j,x,hj,hf,hx⟩
  ·exact ⟨0,h⟩
  ·obtain rfl:j = k:=by omega
   by_cases e:r.Node = s
   ·exact ⟨K + 1,reach_step (by rw [findR_put,if_pos e]) hK⟩
   ·obtain ⟨j',hj'⟩:=ih x.Parent hx
    exact ⟨j' + 1,reach_step (by rw [findR_put,if_neg e];exact hf) hj'⟩
theorem reach_off {xs:List RwP} {r:RwP}:∀ (k:Nat) (p:St),reach xs k p = true → aboveN xs k r.Node p = false → (fixedS p = true ∨ p.T ≠ 0) → (∀ x ∈ xs,fixedS x.Parent = true ∨ x.Parent.T ≠ 0) → reach (putR xs r) k p = true:=by
 intro k
 induction k with
 | zero=>exact fun p h _ _ _=>h
 | succ k ih =>
  intro p h ha hp hxs
  rcases reach_inv h with h | ⟨j,x,hj,hf,hx⟩
  ·exact reach_fixed h _
  ·obtain rfl:j = k:=by omega
   rcases hp with hp | hp
   ·exact reach_fixed hp _
   ·have e:aboveN xs (j + 1) r.Node p = (if p.T = 0 then false else decide (p = r.Node) || match findR xs p with | none=>false | some r'=>aboveN xs j r.Node r'.Parent):=rfl
    rw [e,if_neg hp,hf] at ha
    simp only [Bool.or_eq_false_iff,decide_eq_false_iff_not] at ha
    refine reach_step (r:=x) ?_ (ih x.Parent hx ha.2 (hxs x (findR_some hf).1) hxs)
    rw [findR_put,if_neg (fun e=>ha.1 e.symm)]
    exact hf
theorem mem_put {xs:List RwP} {r x:RwP} (h:x ∈ putR xs r):x = r ∨ (x ∈ xs ∧ x.Node ≠ r.Node):=by
 unfold putR at h
 split at h
 ·obtain ⟨y,hy,hyx⟩:=List.mem_map.1 h
  split at hyx
  ·exact .inl hyx.symm
  ·rename_i hne
   subst hyx
   exact .inr ⟨hy,hne⟩
 ·rename_i hs
  have hn:findR xs r.Node = none:=by simpa using hs
  rcases List.mem_append.1 h with h | h
  ·exact .inr ⟨h,findR_none.1 hn x h⟩
  ·exact .inl (by simpa using h)
def okP (s:St):Bool:=rightS s || fixedS s
theorem okP_or {s:St} (h:okP s = true):fixedS s = true ∨ s.T ≠ 0:=by
 unfold okP at h
 rw [Bool.or_eq_true] at h
 rcases h with h | h
 ·exact .inr (rightS_T h)
 ·exact .inl h
structure GvT (xs:List RwP):Prop extends GvI xs where
 pr:∀ x ∈ xs,okP x.Parent = true
theorem GvT.nil:GvT []:=⟨GvI.nil,by simp⟩
theorem goodOp_at {o:Opn} (h:goodOp o = true):rightS o.At = true ∧ rightS o.Node = true ∧ (o.Kind = 1 ∨ o.Kind = 2):=by
 unfold goodOp at h
 simp only [Bool.and_eq_true] at h
 refine ⟨h.1.1,h.1.2,?_⟩
 have:=h.2
 split at this
 ·rename_i e;exact .inl e
 ·split at this
  ·rename_i e;exact .inr e
  ·cases this
theorem goodOp_move {o:Opn} (h:goodOp o = true) (hk:o.Kind = 1):okP o.Parent = true ∧ nameOk o.Name = true ∧ cmpS o.Node o.At ≤ 0 ∧ o.Over = []:=by
 unfold goodOp at h
 simp only [Bool.and_eq_true] at h
 have:=h.2
 rw [if_pos hk] at this
 unfold moveOk at this
 simp only [Bool.and_eq_true,decide_eq_true_eq] at this
 unfold okP
 exact ⟨this.1.1.1.2,this.1.1.2,this.1.1.1.1,List.length_eq_zero_iff.1 this.2⟩
theorem doX_gvt {xs:List RwP} (h:GvT xs) {o:Opn} (hg:goodOp o = true):GvT (doX xs o):=by
 unfold doX
 cases hn:newR xs o with
 | none=>exact h
 | some r =>
  have hnode:=newR_node hn
  obtain ⟨ga,gn,gk⟩:=goodOp_at hg
  -- the new row's parent has a way in the new rows
  have key:∃ K,reach (putR xs r) K r.Parent = true ∧ okP r.Parent = true:=by
   unfold newR at hn
   split at hn
   ·rename_i hk
    obtain ⟨hp,_,_,_⟩:=goodOp_move hg hk
    split at hn
    ·cases hn
    ·rename_i hc
     injection hn with hn
     have hpr:r.Parent = o.Parent:=by rw [← hn]
     rw [Bool.or_eq_true,not_or] at hc
     obtain ⟨c1,c2⟩:=hc
     have hw:∃ k,reach xs k o.Parent = true:=by
      unfold okP at hp
      rw [Bool.or_eq_true] at hp
      rcases hp with hp | hp
      ·have hT:=rightS_T hp
       cases hf:findR xs o.Parent with
       | none =>
        exfalso
        apply c1
        rw [hf]
        simp [hT]
       | some q =>
        obtain ⟨k,hk'⟩:=h.up q (findR_some hf).1
        rw [findR_node hf] at hk'
        exact ⟨k,hk'⟩
      ·exact ⟨0,hp⟩
     obtain ⟨k,hk'⟩:=hw
     have hl:=reach_len hk'
     have ha:aboveN xs xs.length r.Node o.Parent = false:=by
      rw [hnode]
      simpa [aboveR] using c2
     refine ⟨xs.length,?_,by rw [hpr];exact hp⟩
     rw [hpr]
     exact reach_off xs.length o.Parent hl ha (okP_or hp) (fun x hx=>okP_or (h.pr x hx))
   ·cases hf:findR xs o.Node with
    | none=>rw [hf] at hn;cases hn
    | some q =>
     rw [hf] at hn
     injection hn with hn
     have hpr:r.Parent = q.Parent:=by rw [← hn]
     have hq:=(findR_some hf).1
     -- parents stay as they were: every way stays
     have same:∀ (k:Nat) (s:St),reach xs k s = true → reach (putR xs r) k s = true:=by
      intro k
      induction k with
      | zero=>exact fun s h=>h
      | succ k ih =>
       intro s hs
       rcases reach_inv hs with h' | ⟨j,x,hj,hfx,hx⟩
       ·exact reach_fixed h' _
       ·obtain rfl:j = k:=by omega
        by_cases e:r.Node = s
        ·have:x = q:=by
          rw [← e,hnode,hf] at hfx
          injection hfx with hfx
          exact hfx.symm
         subst this
         exact reach_step (r:=r) (by rw [findR_put,if_pos e]) (by rw [hpr];exact ih _ hx)
        ·exact reach_step (r:=x) (by rw [findR_put,if_neg e];exact hfx) (ih _ hx)
     obtain ⟨k,hk⟩:=h.up q hq
     rcases reach_inv hk with h' | ⟨j,x,hj,hfx,hx⟩
     ·exact absurd (fixedS_T h') (rightS_T (h.rt q hq))
     ·have:x = q:=by
       rw [findR_mem h.nd hq] at hfx
       injection hfx with hfx
       exact hfx.symm
      subst this
      exact ⟨j,by rw [hpr];exact same j _ hx,by rw [hpr];exact h.pr _ hq⟩
  obtain ⟨K,hK,hp⟩:=key
  refine ⟨⟨putR_nd h.nd r,fun x hx=>?_,fun x hx=>?_⟩,fun x hx=>?_⟩
  ·rcases mem_put hx with rfl | ⟨hx,_⟩
   ·rw [hnode];exact gn
   ·exact h.rt x hx
  ·rcases mem_put hx with rfl | ⟨hx,_⟩
   ·exact ⟨K + 1,reach_step (by rw [findR_put,if_pos rfl]) hK⟩
   ·obtain ⟨k,hk⟩:=h.up x hx
    exact reach_put hK k _ hk
  ·rcases mem_put hx with rfl | ⟨hx,_⟩
   ·exact hp
   ·exact h.pr x hx
theorem runX_gvt {xs:List RwP} (h:GvT xs) {L:List Opn} (hg:∀ o ∈ L,goodOp o = true):GvT (runX xs L):=by
 induction L generalizing xs with
 | nil=>exact h
 | cons o L ih=>exact ih (doX_gvt h (hg o (by simp))) (fun o ho=>hg o (by simp [ho]))
end Go.Proofs.YtjpieiccpbcabaaGreat
namespace Go.Proofs.YtjpieiccpbcabaaGreat
open Go.RowKit
def Gives (w:World) (v:Value) (e:Ending) (w':World):Prop:=e = .returned v ∧ Fr noB w w'
def cmpZ (a b:Int):Int:=if a < b then -1 else if b < a then 1 else 0
theorem nan_any (w:World) (a:Int):Calls Tryz.prog 130 #[.int .i64 a] w fun e w'=>e = .returned (.bool false) ∧ w' = w:=by
 go_enter Tryz.func130,Tryz.ntmps130
 go_wp2
 go_ret
 exact ⟨by simp,rfl⟩
theorem nan64_any (w:World) (a:Int):Calls Tryz.prog 133 #[.int .i64 a] w fun e w'=>e = .returned (.bool false) ∧ w' = w:=by
 go_enter Tryz.func133,Tryz.ntmps133
 go_wp2
 go_ret
 exact ⟨by simp,rfl⟩
theorem compareI_any (w:World) (a b:Int):Calls Tryz.prog 102 #[.int .i64 a,.int .i64 b] w fun e w'=>e = .returned (.int .i64 (cmpZ a b)) ∧ w' = w:=by
 go_enter Tryz.func102,Tryz.ntmps102
 go_wp2_with fail
 go_at_call 130
 refine (nan_any w a).mono ?_
 rintro e w1 ⟨rfl,rfl⟩
 go_wp2_with fail
 go_at_call 130
 refine (nan_any _ b).mono ?_
 rintro e w1 ⟨rfl,rfl⟩
 have e1:a < b → cmpZ a b = -1:=fun h=>by simp [cmpZ,h]
 have e2:¬ a < b → b < a → cmpZ a b = 1:=fun h h'=>by simp [cmpZ,h,h']
 have e3:¬ a < b → ¬ b < a → cmpZ a b = 0:=fun h h'=>by simp [cmpZ,h,h']
 by_cases h1:a < b
 ·have E:=Lib.hid (e1 h1)
  clear e1 e2 e3
  go_wp2_with fail
  go_ret
  exact ⟨by rw [E.out];rfl,rfl⟩
 ·by_cases h2:b < a
  ·have E:=Lib.hid (e2 h1 h2)
   clear e1 e2 e3
   go_wp2_with fail
   go_ret
   exact ⟨by rw [E.out];rfl,rfl⟩
  ·have E:=Lib.hid (e3 h1 h2)
   clear e1 e2 e3
   go_wp2_with fail
   go_ret
   exact ⟨by rw [E.out];rfl,rfl⟩
theorem compare64_any (w:World) (a b:Int):Calls Tryz.prog 104 #[.int .i64 a,.int .i64 b] w fun e w'=>e = .returned (.int .i64 (cmpZ a b)) ∧ w' = w:=by
 go_enter Tryz.func104,Tryz.ntmps104
 go_wp2_with fail
 go_at_call 133
 refine (nan64_any w a).mono ?_
 rintro e w1 ⟨rfl,rfl⟩
 go_wp2_with fail
 go_at_call 133
 refine (nan64_any _ b).mono ?_
 rintro e w1 ⟨rfl,rfl⟩
 have e1:a < b → cmpZ a b = -1:=fun h=>by simp [cmpZ,h]
 have e2:¬ a < b → b < a → cmpZ a b = 1:=fun h h'=>by simp [cmpZ,h,h']
 have e3:¬ a < b → ¬ b < a → cmpZ a b = 0:=fun h h'=>by simp [cmpZ,h,h']
 by_cases h1:a < b
 ·have E:=Lib.hid (e1 h1)
  clear e1 e2 e3
  go_wp2_with fail
  go_ret
  exact ⟨by rw [E.out];rfl,rfl⟩
 ·by_cases h2:b < a
  ·have E:=Lib.hid (e2 h1 h2)
   clear e1 e2 e3
   go_wp2_with fail
   go_ret
   exact ⟨by rw [E.out];rfl,rfl⟩
  ·have E:=Lib.hid (e3 h1 h2)
   clear e1 e2 e3
   go_wp2_with fail
   go_ret
   exact ⟨by rw [E.out];rfl,rfl⟩
@[irreducible] def orI (a b:Int):Int:=if a = 0 then b else a
theorem orI_eq (a b:Int):orI a b = if a = 0 then b else a:=by unfold orI;rfl
theorem or_any (w:World) (A:Option Addr) (c:Nat) (a b:Int) (h:Sl w A [.int .i64 a,.int .i64 b]) :
  Calls Tryz.prog 101 #[.slice A 2 c] w fun e w'=>e = .returned (.int .i64 (orI a b)) ∧ w' = w:=by
 obtain ⟨g,off,rfl,_,hc⟩:=h (by simp)
 have c0:=hc 0 _ rfl
 have c1:=hc 1 _ rfl
 rw [Nat.add_zero] at c0
 go_enter Tryz.func101,Tryz.ntmps101
 go_wp2
 refine wp_loop_rounds 3 ?_
 by_cases ha:a = 0
 ·by_cases hb:b = 0
  ·subst ha hb
   rw [rounds_succ]
   go_wp2
   rw [rounds_succ]
   go_wp2
   rw [rounds_succ]
   go_wp2
   go_ret
   exact ⟨by simp [orI_eq],rfl⟩
  ·subst ha
   rw [rounds_succ]
   go_wp2
   rw [rounds_succ]
   go_wp2
   go_ret
   exact ⟨by simp [orI_eq],rfl⟩
 ·rw [rounds_succ]
  go_wp2
  go_ret
  exact ⟨by simp [orI_eq,ha],rfl⟩
theorem cmpS_or (a b:St):orI (cmpZ a.T b.T) (cmpZ a.R b.R) = cmpS a b:=by
 rw [orI_eq]
 unfold cmpZ cmpS
 split <;> (repeat' split) <;> first | rfl | omega
abbrev encS (s:St):Value:=.agg #[.int .i64 s.T,.int .i64 s.R]
abbrev sto (s:St):Obj:=.cells #[.int .i64 s.T,.int .i64 s.R] 80
theorem sto_cell (w:World) (s:St):(w.alloc (sto s)).cell? ⟨w.heap.size,0,none⟩ = some (.int .i64 s.T) ∧ (w.alloc (sto s)).cell? ⟨w.heap.size,1,none⟩ = some (.int .i64 s.R):=by
 have h:=Blk.new w 80 [.int .i64 s.T,.int .i64 s.R]
 exact ⟨h.cell 0,h.cell 1⟩
set_option maxRecDepth 100000 in
theorem right_any (w:World) (s:St):Calls Tryz.prog 124 #[encS s] w (Gives w (.bool (rightS s))):=by
 obtain ⟨c0,c1⟩:=sto_cell w s
 have f0:Fr noB w (w.alloc (sto s)):=(Fr.refl noB w).alloc _
 have e:∀ v:Bool,rightS s = v → rightS s = v:=fun _ h=>h
 obtain ⟨T,R⟩:=s
 simp only at c0 c1
 clear e
 by_cases h1:1 ≤ T
 ·by_cases h2:T ≤ 1099511627776
  ·by_cases h3:1 ≤ R
   ·by_cases h4:R ≤ 65536
    ·have e:rightS ⟨T,R⟩ = true:=by simp [rightS,h1,h2,h3,h4]
     have E:=Lib.hid e
     clear e
     go_enter Tryz.func124,Tryz.ntmps124
     go_wp2_with fail
     go_ret
     exact ⟨by rw [E.out];rfl,f0⟩
    ·have e:rightS ⟨T,R⟩ = false:=by simp [rightS,h4]
     have E:=Lib.hid e
     clear e
     go_enter Tryz.func124,Tryz.ntmps124
     go_wp2_with fail
     go_ret
     exact ⟨by rw [E.out];rfl,f0⟩
   ·have e:rightS ⟨T,R⟩ = false:=by simp [rightS,h3]
    have E:=Lib.hid e
    clear e
    go_enter Tryz.func124,Tryz.ntmps124
    go_wp2_with fail
    go_ret
    exact ⟨by rw [E.out];rfl,f0⟩
  ·have e:rightS ⟨T,R⟩ = false:=by simp [rightS,h2]
   have E:=Lib.hid e
   clear e
   go_enter Tryz.func124,Tryz.ntmps124
   go_wp2_with fail
   go_ret
   exact ⟨by rw [E.out];rfl,f0⟩
 ·have e:rightS ⟨T,R⟩ = false:=by simp [rightS,h1]
  have E:=Lib.hid e
  clear e
  go_enter Tryz.func124,Tryz.ntmps124
  go_wp2_with fail
  go_ret
  exact ⟨by rw [E.out];rfl,f0⟩
set_option maxRecDepth 100000 in
theorem fixed_any (w:World) (s:St):Calls Tryz.prog 163 #[encS s] w (Gives w (.bool (fixedS s))):=by
 obtain ⟨c0,c1⟩:=sto_cell w s
 have f0:Fr noB w (w.alloc (sto s)):=(Fr.refl noB w).alloc _
 obtain ⟨T,R⟩:=s
 simp only at c0 c1
 by_cases h1:T = 0
 ·subst h1
  by_cases h2:R = 0
  ·subst h2
   have e:fixedS ⟨0,0⟩ = true:=rfl
   have E:=Lib.hid e
   clear e
   go_enter Tryz.func163,Tryz.ntmps163
   go_wp2_with fail
   go_ret
   exact ⟨by rw [E.out];rfl,f0⟩
  ·by_cases h3:R = 1
   ·subst h3
    have e:fixedS ⟨0,1⟩ = true:=rfl
    have E:=Lib.hid e
    clear e
    go_enter Tryz.func163,Tryz.ntmps163
    go_wp2_with fail
    go_ret
    exact ⟨by rw [E.out];rfl,f0⟩
   ·have e:fixedS ⟨0,R⟩ = false:=by simp [fixedS,h2,h3]
    have h2':(R == 0) = false:=by simpa using h2
    have h3':(R == 1) = false:=by simpa using h3
    have E:=Lib.hid e
    clear e
    go_enter Tryz.func163,Tryz.ntmps163
    go_wp2_with fail
    go_ret
    exact ⟨by rw [E.out];rfl,f0⟩
 ·have e:fixedS ⟨T,R⟩ = false:=by simp [fixedS,h1]
  have h1':(T == 0) = false:=by simpa using h1
  have E:=Lib.hid e
  clear e
  go_enter Tryz.func163,Tryz.ntmps163
  go_wp2_with fail
  go_ret
  exact ⟨by rw [E.out];rfl,f0⟩
theorem cell_fr0 {w w':World} {b o:Nat} {v:Value} (h:w.cell? ⟨b,o,none⟩ = some v) (f:Fr noB w w'):w'.cell? ⟨b,o,none⟩ = some v :=
 (World.cell?_of_block (a:=⟨b,o,none⟩) (f.block b (World.block_lt_of_cell? _ _ h) (by simp [noB]))).trans h
set_option maxRecDepth 100000 in
theorem scmp_any (w:World) (a b:St):Calls Tryz.prog 76 #[encS a,encS b] w (Gives w (.int .i64 (cmpS a b))):=by
 have f1:Fr noB (w.alloc (sto a)) ((w.alloc (sto a)).alloc (sto b)):=(Fr.refl noB _).alloc _
 have f0:Fr noB w ((w.alloc (sto a)).alloc (sto b)):=((Fr.refl noB w).alloc _).alloc _
 obtain ⟨a0,a1⟩:=sto_cell w a
 obtain ⟨b0,b1⟩:=sto_cell (w.alloc (sto a)) b
 rw [World.size_alloc] at b0 b1
 have A0:=cell_fr0 a0 f1
 have A1:=cell_fr0 a1 f1
 have hcs:=cmpS_or a b
 have HCS:=Lib.hid hcs
 clear hcs a0 a1 f1
 go_enter Tryz.func76,Tryz.ntmps76
 go_upto_region 1 with fail
 generalize (w.alloc (sto a)).alloc (sto b) = W at f0 b0 b1 A0 A1 ⊢
 generalize w.heap.size + 1 = B at b0 b1 ⊢
 generalize w.heap.size = A at A0 A1 ⊢
 have keep:∀ w' w'':World,Fr noB w' w'' → (w'.cell? ⟨A,0,none⟩ = some (.int .i64 a.T) ∧ w'.cell? ⟨A,1,none⟩ = some (.int .i64 a.R) ∧ w'.cell? ⟨B,0,none⟩ = some (.int .i64 b.T) ∧ w'.cell? ⟨B,1,none⟩ = some (.int .i64 b.R)) → (w''.cell? ⟨A,0,none⟩ = some (.int .i64 a.T) ∧ w''.cell? ⟨A,1,none⟩ = some (.int .i64 a.R) ∧ w''.cell? ⟨B,0,none⟩ = some (.int .i64 b.T) ∧ w''.cell? ⟨B,1,none⟩ = some (.int .i64 b.R)):=fun w' w'' f h=>⟨cell_fr0 h.1 f,cell_fr0 h.2.1 f,cell_fr0 h.2.2.1 f,cell_fr0 h.2.2.2 f⟩
 have fd:=(Fr.refl noB W).drew
 have F0:=keep _ _ fd ⟨A0,A1,b0,b1⟩
 go_wp2_with fail
 refine wp_region_M 12 13 [⟨32,4,0⟩,⟨64,32,1⟩,⟨128,8,0⟩,⟨256,128,4⟩,⟨512,320,10⟩,⟨1024,4,0⟩,⟨2048,1024,32⟩,⟨4096,8,0⟩,⟨8192,4096,128⟩,⟨16384,10240,336⟩,⟨32768,16896,528⟩,⟨65536,32768,1536⟩,⟨16,65536,4095⟩] [(true,0),(true,1),(true,2),(true,3),(true,5),(true,6),(true,7),(true,8),(false,4),(false,9),(false,10),(false,11)] (fun w'=>w'.cell? ⟨A,0,none⟩ = some (.int .i64 a.T) ∧ w'.cell? ⟨A,1,none⟩ = some (.int .i64 a.R) ∧ w'.cell? ⟨B,0,none⟩ = some (.int .i64 b.T) ∧ w'.cell? ⟨B,1,none⟩ = some (.int .i64 b.R)) (by kernel_rfl) rfl (by kernel_rfl) (by kernel_rfl) (by kernel_rfl) F0 (fun hA hF=>?_)
 iterate 8
  refine wpAnyS_take (v:=?_) hA rfl (fun _ _ _ h=>h) (Or.inl ⟨by rfl,?_⟩) hF (fun hA=>?_)
  rotate_left
  ·intro wS hSw;(try dsimp only at hSw);obtain ⟨s1,s2,s3,s4⟩:=hSw;(go_simp;try with_reducible rfl)
  try simp only [sA1,sA2,sA3,Act.put,sA4,sA5,sA6]
 refine wpAnyS_one hA rfl (fun K' hK=>?_)
 go_simp
 go_at_call 104
 refine (compare64_any _ a.T b.T).mono ?_
 rintro e u1 ⟨rfl,rfl⟩
 replace hF:=keep _ _ (Fr.refl noB _) hF
 refine hK.out _ _ hF (fun hA=>?_)
 clear hK K'
 as_aux_lemma =>
 refine wpAnyS_one hA rfl (fun K' hK=>?_)
 go_simp
 go_at_call 102
 refine (compareI_any _ a.R b.R).mono ?_
 rintro e u2 ⟨rfl,rfl⟩
 replace hF:=keep _ _ (Fr.refl noB _) hF
 refine hK.out _ _ hF (fun hA=>?_)
 clear hK K'
 as_aux_lemma =>
 refine wpAnyS_one hA rfl (fun K' hK=>?_)
 go_simp
 have f3:Fr noB W.drew (W.drew.alloc (.cells #[.int .i64 (cmpZ a.T b.T),.int .i64 (cmpZ a.R b.R)] 3)):=(Fr.refl noB _).alloc _
 have s3:Sl (W.drew.alloc (.cells #[.int .i64 (cmpZ a.T b.T),.int .i64 (cmpZ a.R b.R)] 3)) (some ⟨W.heap.size,0,none⟩) [.int .i64 (cmpZ a.T b.T),.int .i64 (cmpZ a.R b.R)]:=Sl.new W.drew _ _
 replace hF:=keep _ _ f3 hF
 refine hK.out _ _ hF (fun hA=>?_)
 clear hK K'
 as_aux_lemma =>
 refine wpAnyS_one hA rfl (fun K' hK=>?_)
 go_simp
 go_at_call 101
 refine (or_any _ _ _ (cmpZ a.T b.T) (cmpZ a.R b.R) s3).mono ?_
 rintro e u4 ⟨rfl,rfl⟩
 replace hF:=keep _ _ (Fr.refl noB _) hF
 refine hK.out _ _ hF (fun hA=>?_)
 clear hK K'
 as_aux_lemma =>
 refine wpAnyS_end hA rfl ?_
 simp only [List.drop_succ_cons,List.drop_zero]
 clear hF
 go_wp2_with fail
 go_ret
 exact ⟨by rw [HCS.out];rfl,(f0.step0 fd).step0 f3⟩
end Go.Proofs.YtjpieiccpbcabaaGreat
