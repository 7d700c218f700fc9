/- Plain: stamps, operations, items, commits, tags; when they are right; their bytes; how they are read. Plain: rows of a tree; ways up from row to row; places; names from the root. Plain: paths as the program and as the document make them. -/
import Derived.Test.YtnkdnbjmhoegkaaGreatNumBKp
import Derived.Test.YtnkdnbjmhoegkaaGreatShaRKp
set_option linter.unusedVariables false
set_option linter.unusedSimpArgs false
namespace Go.Proofs.YtnkdnbjmhoegkaaGreat
structure St where
 T:Int
 R:Int
deriving DecidableEq
structure Hd where
 At:St
 Data:ID
structure It where
 Node:St
 At:St
 Name:List UInt8
 Sub:ID
 Heads:List Hd
structure Opn where
 Kind:Int
 At:St
 Node:St
 Parent:St
 Name:List UInt8
 Data:ID
 Over:List St
def zSt:St:=⟨0,0⟩
def zOp:Opn:=⟨0,zSt,zSt,zSt,[],zID,[]⟩
def cmpS (a b:St):Int:=if a.T < b.T then -1 else if b.T < a.T then 1 else if a.R < b.R then -1 else if b.R < a.R then 1 else 0
def rightS (s:St):Bool:=decide (1 ≤ s.T) && decide (s.T ≤ 1099511627776) && decide (1 ≤ s.R) && decide (s.R ≤ 65536)
def nameOk (l:List UInt8):Bool:=decide (1 ≤ l.length) && decide (l.length ≤ 60) && decide (l ≠ [46]) && decide (l ≠ [46,46]) && l.all fun b=>decide (b ≠ 0) && decide (b ≠ 47) && decide (b ≠ 10)
def fixedS (s:St):Bool:=decide (s.T = 0) && (decide (s.R = 0) || decide (s.R = 1))
def riseB {α:Type} (cf:α → α → Int):List α → Bool
 | x :: y :: l=>decide (cf x y < 0) && riseB cf (y :: l)
 | _=>true
def moveOk (o:Opn):Bool:=decide (cmpS o.Node o.At ≤ 0) && (rightS o.Parent || fixedS o.Parent) && nameOk o.Name && decide (o.Data = zID) && decide (o.Over.length = 0)
def editOk (o:Opn):Bool:=decide (cmpS o.Node o.At < 0) && decide (o.Parent = zSt) && decide (o.Name = []) && decide (o.Data ≠ zID) && decide (o.Over.length ≤ 64) && (o.Over.all fun s=>rightS s && decide (cmpS s o.At < 0)) && riseB cmpS o.Over
def goodOp (o:Opn):Bool:=rightS o.At && rightS o.Node && (if o.Kind = 1 then moveOk o else if o.Kind = 2 then editOk o else false)
def rightIt (x:It):Bool:=rightS x.Node && rightS x.At && decide (0 ≤ cmpS x.At x.Node) && nameOk x.Name && decide (x.Heads.length ≤ 1000) && (x.Heads.all fun h=>rightS h.At && decide (0 < cmpS h.At x.Node) && decide (h.Data ≠ zID)) && riseB (fun a b:Hd=>cmpS a.At b.At) x.Heads
def rightDr (l:List It):Bool:=decide (l.length ≤ 1000) && l.all rightIt && riseB (fun a b:It=>cmpS a.Node b.Node) l
/-! bytes -/
def stB (s:St):List UInt8:=numB s.T.toNat ++ numB s.R.toNat
def txB (l:List UInt8):List UInt8:=numB l.length ++ l
def hdB (h:Hd):List UInt8:=stB h.At ++ h.Data.1
def itB (x:It):List UInt8:=stB x.Node ++ stB x.At ++ txB x.Name ++ x.Sub.1 ++ numB x.Heads.length ++ x.Heads.flatMap hdB
def drB (l:List It):List UInt8:=2 :: numB l.length ++ l.flatMap itB
def opB (o:Opn):List UInt8:=if goodOp o then numB o.Kind.toNat ++ stB o.At ++ stB o.Node ++ (if o.Kind = 1 then stB o.Parent ++ txB o.Name else o.Data.1 ++ numB o.Over.length ++ o.Over.flatMap stB) else []
/-! reading -/
def rdTake (n:Nat) (s:RS):List UInt8 × RS:=if s.2 = true ∨ s.1.length < n then ([],([],true)) else (s.1.take n,(s.1.drop n,false))
def rdText (most:Nat) (s:RS):List UInt8 × RS:=rdTake (rdNum most s).1 (rdNum most s).2
def idOf (l:List UInt8):ID:=if h:l.length = 32 then ⟨l,h⟩ else zID
def rdId (s:RS):ID × RS:=(idOf (rdTake 32 s).1,(rdTake 32 s).2)
def rdSt (s:RS):St × RS:=(⟨(rdNum 1099511627776 s).1,(rdNum 65536 (rdNum 1099511627776 s).2).1⟩,(rdNum 65536 (rdNum 1099511627776 s).2).2)
def rdMany {α:Type} (f:RS → α × RS):Nat → RS → List α × RS
 | 0,s=>([],s)
 | n + 1,s=>if (f s).2.2 = true then ([(f s).1],(f s).2) else ((f s).1 :: (rdMany f n (f s).2).1,(rdMany f n (f s).2).2)
def rdAll {α:Type} (f:RS → α × RS):Nat → RS → List α × RS
 | 0,s=>([],s)
 | n + 1,s=>((f s).1 :: (rdAll f n (f s).2).1,(rdAll f n (f s).2).2)
def rdHd (s:RS):Hd × RS:=(⟨(rdSt s).1,(rdId (rdSt s).2).1⟩,(rdId (rdSt s).2).2)
def rdIt (s:RS):It × RS :=
 let a:=rdSt s
 let b:=rdSt a.2
 let c:=rdText 60 b.2
 let d:=rdId c.2
 let n:=rdNum 1000 d.2
 let hs:=rdMany rdHd n.1 n.2
 (⟨a.1,b.1,c.1,d.1,hs.1⟩,hs.2)
def openR (b:List UInt8) (k:UInt8):RS:=match b with
 | []=>([],true)
 | c :: l=>if c = k then (l,false) else ([],true)
def rdDr (b:List UInt8):Option (List It) :=
 let n:=rdNum 1000 (openR b 2)
 let x:=rdMany rdIt n.1 n.2
 if x.2 = ([],false) ∧ rightDr x.1 = true then some x.1 else none
def rdOp0 (s:RS):Opn × RS :=
 let k:=rdNum 2 s
 let a:=rdSt k.2
 let b:=rdSt a.2
 if k.1 = 1 then
  let p:=rdSt b.2
  let t:=rdText 60 p.2
  (⟨k.1,a.1,b.1,p.1,t.1,zID,[]⟩,t.2)
 else
  let d:=rdId b.2
  let n:=rdNum 64 d.2
  let l:=rdAll rdSt n.1 n.2
  (⟨k.1,a.1,b.1,zSt,[],d.1,l.1⟩,l.2)
def rdOp (s:RS):Opn × RS:=if (rdOp0 s).2.2 = true ∨ goodOp (rdOp0 s).1 = false then (zOp,([],true)) else rdOp0 s
structure RwP where
 Node:St
 Parent:St
 At:St
 Name:List UInt8
 Heads:List Hd
def trS:St:=⟨0,1⟩
def lastS:St:=⟨1099511627776,65536⟩
def itR (r:RwP) (sub:ID):It:=⟨r.Node,r.At,r.Name,sub,r.Heads⟩
def rightR (r:RwP):Bool:=rightDr [itR r zID] && decide (r.Node ≠ lastS)
def findR (rs:List RwP) (s:St):Option RwP:=rs.find? fun r=>decide (r.Node = s)
def reach (rs:List RwP):Nat → St → Bool
 | 0,s=>fixedS s
 | k + 1,s=>fixedS s || match findR rs s with
  | none=>false
  | some r=>reach rs k r.Parent
def riseR (rs:List RwP):Bool:=riseB (fun a b:RwP=>cmpS a.Node b.Node) rs
structure TreeOk (rs:List RwP):Prop where
 len:rs.length ≤ 5000
 ok:∀ r ∈ rs,rightR r = true
 rise:riseR rs = true
 up:∀ r ∈ rs,∃ k,reach rs k r.Node = true
theorem findR_some {rs:List RwP} {s:St} {r:RwP} (h:findR rs s = some r):r ∈ rs ∧ r.Node = s:=by
 unfold findR at h
 exact ⟨List.mem_of_find?_eq_some h,by simpa using List.find?_some h⟩
theorem findR_none {rs:List RwP} {s:St}:findR rs s = none ↔ ∀ r ∈ rs,r.Node ≠ s:=by
 unfold findR
 rw [List.find?_eq_none]
 simp
theorem findR_mem {rs:List RwP} (hn:(rs.map (·.Node)).Nodup) {r:RwP} (h:r ∈ rs):findR rs r.Node = some r:=by
 induction rs with
 | nil=>cases h
 | cons x rs ih =>
  unfold findR at ih ⊢
  rw [List.find?_cons]
  simp only [List.map_cons,List.nodup_cons] at hn
  rcases List.mem_cons.1 h with rfl | h
  ·simp
  ·have:x.Node ≠ r.Node:=fun e=>hn.1 (by rw [e];exact List.mem_map.2 ⟨r,h,rfl⟩)
   simp only [this,decide_false]
   exact ih hn.2 h
theorem cmpS_trans {a b c:St} (h1:cmpS a b < 0) (h2:cmpS b c < 0):cmpS a c < 0:=by
 unfold cmpS at *
 repeat' split at h1
 all_goals repeat' split at h2
 all_goals (repeat' split) <;> omega
theorem cmpS_self (a:St):cmpS a a = 0:=by unfold cmpS;simp
theorem cmpS_zero {a b:St}:cmpS a b = 0 ↔ a = b:=by
 constructor
 ·intro h
  unfold cmpS at h
  cases a with | mk t r =>
  cases b with | mk t' r' =>
  simp only at h
  simp only [St.mk.injEq]
  repeat' split at h
  all_goals omega
 ·rintro rfl;exact cmpS_self a
theorem cmpS_flip (a b:St):cmpS b a = - cmpS a b:=by
 unfold cmpS
 repeat' split
 all_goals omega
theorem riseB_pw {α:Type} (cf:α → α → Int) (ht:∀ a b c,cf a b < 0 → cf b c < 0 → cf a c < 0):∀ l:List α,riseB cf l = true ↔ l.Pairwise (fun a b=>cf a b < 0)
 | []=>by simp [riseB]
 | [x]=>by simp [riseB]
 | x :: y :: l=>by
  have ih:=riseB_pw cf ht (y :: l)
  unfold riseB
  rw [Bool.and_eq_true,ih,decide_eq_true_eq,List.pairwise_cons (a:=x)]
  constructor
  ·rintro ⟨h1,h2⟩
   refine ⟨fun z hz=>?_,h2⟩
   rcases List.mem_cons.1 hz with rfl | hz
   ·exact h1
   ·exact ht _ _ _ h1 ((List.pairwise_cons.1 h2).1 z hz)
  ·rintro ⟨h1,h2⟩
   exact ⟨h1 y (by simp),h2⟩
theorem riseR_pw {rs:List RwP} (h:riseR rs = true):rs.Pairwise (fun a b=>cmpS a.Node b.Node < 0):=(riseB_pw (fun a b:RwP=>cmpS a.Node b.Node) (fun _ _ _=>cmpS_trans) rs).1 h
theorem riseR_nd {rs:List RwP} (h:riseR rs = true):(rs.map (·.Node)).Nodup:=by
 have:=riseR_pw h
 rw [List.Nodup,List.pairwise_map]
 refine this.imp fun {a b} hab e=>?_
 rw [e,cmpS_self] at hab
 omega
theorem TreeOk.nd {rs:List RwP} (h:TreeOk rs):(rs.map (·.Node)).Nodup:=riseR_nd h.rise
theorem reach_succ {rs:List RwP}:∀ (k:Nat) (s:St),reach rs k s = true → reach rs (k + 1) s = true
 | 0,s,h=>by unfold reach at h ⊢;simp [h]
 | k + 1,s,h=>by
  unfold reach at h ⊢
  rw [Bool.or_eq_true] at h ⊢
  rcases h with h | h
  ·exact .inl h
  ·refine .inr ?_
   cases hf:findR rs s with
   | none=>rw [hf] at h;cases h
   | some r=>rw [hf] at h;exact reach_succ k _ h
theorem reach_le {rs:List RwP} {k j:Nat} {s:St} (h:reach rs k s = true) (hj:k ≤ j):reach rs j s = true:=by
 induction hj with
 | refl=>exact h
 | step _ ih=>exact reach_succ _ _ ih
def wayR (rs:List RwP):Nat → St → List St
 | 0,_=>[]
 | k + 1,s=>if fixedS s then [] else match findR rs s with
  | none=>[]
  | some r=>s :: wayR rs k r.Parent
theorem wayR_min {rs:List RwP}:∀ (k:Nat) (s:St),reach rs k s = true → (∀ j,j < k → reach rs j s = false) →
  (wayR rs k s).length = k ∧ (wayR rs k s).Nodup ∧ (∀ t ∈ wayR rs k s,t ∈ rs.map (·.Node)) ∧ ∀ t ∈ wayR rs k s,∃ i,i ≤ k ∧ reach rs i t = true
 | 0,s,_,_=>⟨rfl,by simp [wayR],by simp [wayR],by simp [wayR]⟩
 | k + 1,s,h,hm=>by
  have h0:fixedS s = false:=hm 0 (by omega)
  have h':=h
  unfold reach at h
  rw [h0,Bool.false_or] at h
  cases hf:findR rs s with
  | none=>rw [hf] at h;cases h
  | some r =>
   rw [hf] at h
   simp only at h
   have hm':∀ j,j < k → reach rs j r.Parent = false:=fun j hj=>by
    cases hr:reach rs j r.Parent with
    | false=>rfl
    | true =>
     have:=hm (j + 1) (by omega)
     unfold reach at this
     rw [h0,hf,Bool.false_or] at this
     simp only at this
     rw [hr] at this;cases this
   obtain ⟨i1,i2,i3,i4⟩:=wayR_min k r.Parent h hm'
   have e:wayR rs (k + 1) s = s :: wayR rs k r.Parent:=by
    show (if fixedS s then [] else match findR rs s with | none=>[] | some r=>s :: wayR rs k r.Parent) = _
    rw [h0,hf];rfl
   rw [e]
   refine ⟨by simp [i1],?_,?_,?_⟩
   ·rw [List.nodup_cons]
    refine ⟨fun hx=>?_,i2⟩
    obtain ⟨i,hi,hr⟩:=i4 s hx
    have:=hm i (by omega)
    rw [hr] at this;cases this
   ·intro t ht
    rcases List.mem_cons.1 ht with rfl | ht
    ·obtain ⟨h1,h2⟩:=findR_some hf
     exact List.mem_map.2 ⟨r,h1,h2⟩
    ·exact i3 t ht
   ·intro t ht
    rcases List.mem_cons.1 ht with rfl | ht
    ·exact ⟨k + 1,Nat.le_refl _,h'⟩
    ·obtain ⟨i,hi,hr⟩:=i4 t ht
     exact ⟨i,by omega,hr⟩
theorem nd_leS {α:Type} [DecidableEq α]:∀ (l m:List α),l.Nodup → (∀ x ∈ l,x ∈ m) → l.length ≤ m.length
 | [],m,_,_=>by simp
 | x :: l,m,hn,hm=>by
  rw [List.nodup_cons] at hn
  have hx:=hm x (by simp)
  have:=nd_leS l (m.erase x) hn.2 (fun y hy=>(List.mem_erase_of_ne (fun e=>hn.1 (by rw [← e];exact hy))).2 (hm y (by simp [hy])))
  rw [List.length_erase_of_mem hx] at this
  have:=List.length_pos_of_mem hx
  simp only [List.length_cons]
  omega
theorem reach_len {rs:List RwP} {k:Nat} {s:St} (h:reach rs k s = true):reach rs rs.length s = true:=by
 induction k using Nat.strongRecOn with
 | ind k ih =>
  by_cases hm:∀ j,j < k → reach rs j s = false
  ·obtain ⟨h1,h2,h3,_⟩:=wayR_min k s h hm
   have:=nd_leS _ _ h2 h3
   rw [h1,List.length_map] at this
   exact reach_le h this
  ·simp only [Classical.not_forall] at hm
   obtain ⟨j,hj,hr⟩:=hm
   exact ih j hj (by cases e:reach rs j s with | true=>rfl | false=>exact absurd e hr)
def placeN (rs:List RwP):Nat → St → Option St
 | 0,_=>none
 | k + 1,s=>if s.T = 0 then some s else match findR rs s with
  | none=>none
  | some r=>placeN rs k r.Parent
def placeR (rs:List RwP) (s:St):Option St:=placeN rs (rs.length + 1) s
def liesN (rs:List RwP):Nat → St → St → Bool
 | 0,_,_=>false
 | k + 1,s,p=>match findR rs s with
  | none=>false
  | some r=>decide (r.Parent = p) || liesN rs k r.Parent p
def liesR (rs:List RwP) (s p:St):Bool:=liesN rs rs.length s p
theorem place_lies {rs:List RwP} (h0:∀ r ∈ rs,r.Node.T ≠ 0) {p:St} (hp:p.T = 0):∀ (k:Nat) (s:St),reach rs k s = true → s.T ≠ 0 → (placeN rs (k + 1) s = some p ↔ liesN rs k s p = true)
 | 0,s,h,hs=>absurd h (by unfold reach fixedS;simp [hs])
 | k + 1,s,h,hs=>by
  have hx:fixedS s = false:=by unfold fixedS;simp [hs]
  unfold reach at h
  rw [hx,Bool.false_or] at h
  cases hf:findR rs s with
  | none=>rw [hf] at h;cases h
  | some r =>
   rw [hf] at h
   simp only at h
   have e1:placeN rs (k + 2) s = placeN rs (k + 1) r.Parent:=by
    show (if s.T = 0 then some s else match findR rs s with | none=>none | some r=>placeN rs (k + 1) r.Parent) = _
    rw [if_neg hs,hf]
   have e2:liesN rs (k + 1) s p = (decide (r.Parent = p) || liesN rs k r.Parent p):=by
    show (match findR rs s with | none=>false | some r=>decide (r.Parent = p) || liesN rs k r.Parent p) = _
    rw [hf]
   rw [e1,e2,Bool.or_eq_true,decide_eq_true_eq]
   by_cases ht:r.Parent.T = 0
   ·have e3:placeN rs (k + 1) r.Parent = some r.Parent:=by
     show (if r.Parent.T = 0 then _ else _) = _
     rw [if_pos ht]
    have e4:liesN rs k r.Parent p = false:=by
     cases k with
     | zero=>rfl
     | succ k =>
      have:findR rs r.Parent = none:=findR_none.2 fun x hx e=>h0 x hx (by rw [e];exact ht)
      show (match findR rs r.Parent with | none=>false | some r=>_) = _
      rw [this]
    rw [e3,e4]
    simp
   ·have hne:r.Parent ≠ p:=fun e=>ht (by rw [e];exact hp)
    rw [place_lies h0 hp k _ h ht]
    simp [hne]
theorem rightR_T {r:RwP} (h:rightR r = true):r.Node.T ≠ 0:=by
 unfold rightR rightDr at h
 simp only [Bool.and_eq_true,List.all_cons,List.all_nil] at h
 have:=h.1.1.2.1
 unfold rightIt at this
 simp only [Bool.and_eq_true] at this
 have:=this.1.1.1.1.1.1
 unfold rightS itR at this
 simp only [Bool.and_eq_true,decide_eq_true_eq] at this
 omega
theorem TreeOk.T {rs:List RwP} (h:TreeOk rs):∀ r ∈ rs,r.Node.T ≠ 0:=fun r hr=>rightR_T (h.ok r hr)
theorem TreeOk.place {rs:List RwP} (h:TreeOk rs) {r:RwP} (hr:r ∈ rs) {p:St} (hp:p.T = 0):placeR rs r.Node = some p ↔ liesR rs r.Node p = true:=by
 obtain ⟨k,hk⟩:=h.up r hr
 exact place_lies h.T hp rs.length _ (reach_len hk) (h.T r hr)
theorem lies_none {rs:List RwP} {s p:St} (h:findR rs s = none):liesR rs s p = false:=by
 unfold liesR
 cases rs.length with
 | zero=>rfl
 | succ k =>
  show (match findR rs s with | none=>false | some r=>_) = _
  rw [h]
theorem place_none {rs:List RwP} {s:St} (h:s.T ≠ 0) (hf:findR rs s = none):placeR rs s = none:=by
 show (if s.T = 0 then some s else match findR rs s with | none=>none | some r=>placeN rs rs.length r.Parent) = _
 rw [if_neg h,hf]
theorem TreeOk.root {rs:List RwP} (h:TreeOk rs) (s:St):(placeR rs s = some zSt ∧ s.T ≠ 0 ↔ liesR rs s zSt = true):=by
 by_cases hT:s.T = 0
 ·have:findR rs s = none:=findR_none.2 fun x hx e=>h.T x hx (by rw [e];exact hT)
  rw [lies_none this]
  simp [hT]
 ·cases hf:findR rs s with
  | none =>
   rw [lies_none hf,place_none hT hf]
   simp
  | some r =>
   obtain ⟨h1,h2⟩:=findR_some hf
   have:=h.place h1 (p:=zSt) rfl
   rw [h2] at this
   simp [this,hT]
end Go.Proofs.YtnkdnbjmhoegkaaGreat
