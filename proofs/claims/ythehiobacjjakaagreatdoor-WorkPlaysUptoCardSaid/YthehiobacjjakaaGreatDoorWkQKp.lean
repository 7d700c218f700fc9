/- Plain: drafts of a tree: shown names are unlike, paths; what Put, Move and Remove do. Plain: a tree that comes of operations (grove): what an operation does, how it is undone, operations in the order of their times. Plain: what Put, Move and Remove do to a draft; a draft's rows stay a tree; how many rows and stamps are taken. -/
import Derived.Test.YthehiobacjjakaaGreatDoorPathPKp
import Derived.Lib.ItoaNum
set_option linter.unusedVariables false
set_option linter.unusedSimpArgs false
namespace Go.Proofs.YthehiobacjjakaaGreatDoor
/-! digits -/
theorem dec_val (n:Nat):(Lib.decDigits n).foldl (fun a (b:UInt8)=>10 * a + (b.toNat - 48)) 0 = n:=by
 induction n using Nat.strongRecOn with
 | _ n ih =>
  rw [Lib.decDigits]
  split
  ·rename_i h
   have:(UInt8.ofNat (48 + n)).toNat = 48 + n:=by rw [UInt8.toNat_ofNat'];omega
   simp only [List.foldl_cons,List.foldl_nil,this]
   omega
  ·rename_i h
   have h10:n / 10 < n:=by omega
   rw [List.foldl_append,ih _ h10]
   have:(UInt8.ofNat (48 + n % 10)).toNat = 48 + n % 10:=by rw [UInt8.toNat_ofNat'];omega
   simp only [List.foldl_cons,List.foldl_nil,this]
   omega
theorem dec_dig (n:Nat):∀ b ∈ Lib.decDigits n,48 ≤ b.toNat ∧ b.toNat ≤ 57:=by
 induction n using Nat.strongRecOn with
 | _ n ih =>
  rw [Lib.decDigits]
  split
  ·rename_i h
   intro b hb
   rw [List.mem_singleton] at hb
   subst hb
   rw [UInt8.toNat_ofNat']
   omega
  ·rename_i h
   intro b hb
   rcases List.mem_append.1 hb with hb | hb
   ·exact ih _ (by omega) b hb
   ·rw [List.mem_singleton] at hb
    subst hb
    rw [UInt8.toNat_ofNat']
    omega
theorem dec_inj {m n:Nat} (h:Lib.decDigits m = Lib.decDigits n):m = n:=by
 rw [← dec_val m,h,dec_val]
theorem itoa_pos {n:Int} (h:0 ≤ n):Lib.itoa n = Lib.decDigits n.toNat:=by
 unfold Lib.itoa
 rw [if_neg (by omega)]
theorem last_mark {c:UInt8}:∀ {l1 l2 t1 t2:List UInt8},c ∉ t1 → c ∉ t2 → l1 ++ c :: t1 = l2 ++ c :: t2 → l1 = l2 ∧ t1 = t2
 | [],[],t1,t2,_,_,h=>by simpa using h
 | [],y :: l2,t1,t2,h1,_,h=>by
  simp only [List.nil_append,List.cons_append,List.cons.injEq] at h
  exact absurd (by rw [h.2];simp) h1
 | x :: l1,[],t1,t2,_,h2,h=>by
  simp only [List.nil_append,List.cons_append,List.cons.injEq] at h
  exact absurd (by rw [← h.2];simp) h2
 | x :: l1,y :: l2,t1,t2,h1,h2,h=>by
  simp only [List.cons_append,List.cons.injEq] at h
  obtain ⟨e1,e2⟩:=last_mark h1 h2 h.2
  exact ⟨by rw [h.1,e1],e2⟩
theorem first_mark {c:UInt8}:∀ {l1 l2 t1 t2:List UInt8},c ∉ l1 → c ∉ l2 → l1 ++ c :: t1 = l2 ++ c :: t2 → l1 = l2 ∧ t1 = t2
 | [],[],t1,t2,_,_,h=>by simpa using h
 | [],y :: l2,t1,t2,_,h2,h=>by
  simp only [List.nil_append,List.cons_append,List.cons.injEq] at h
  exact absurd (by rw [h.1];simp) h2
 | x :: l1,[],t1,t2,h1,_,h=>by
  simp only [List.nil_append,List.cons_append,List.cons.injEq] at h
  exact absurd (by rw [h.1];simp) h1
 | x :: l1,y :: l2,t1,t2,h1,h2,h=>by
  simp only [List.cons_append,List.cons.injEq] at h
  obtain ⟨e1,e2⟩:=first_mark (fun hm=>h1 (List.mem_cons_of_mem _ hm)) (fun hm=>h2 (List.mem_cons_of_mem _ hm)) h.2
  exact ⟨by rw [h.1,e1],e2⟩
/-! shown names -/
def sfxD (s:St):List UInt8:=126 :: (Lib.itoa s.T ++ 46 :: Lib.itoa s.R)
theorem no_dig {n:Nat} {c:UInt8} (h:c.toNat < 48 ∨ 57 < c.toNat):c ∉ Lib.decDigits n:=fun hm=>by
 have:=dec_dig n c hm
 omega
theorem sfx_tail {s:St} (h:rightS s = true):(126:UInt8) ∉ Lib.itoa s.T ++ 46 :: Lib.itoa s.R:=by
 unfold rightS at h
 simp only [Bool.and_eq_true,decide_eq_true_eq] at h
 rw [itoa_pos (by omega),itoa_pos (by omega)]
 intro hm
 rcases List.mem_append.1 hm with hm | hm
 ·exact no_dig (.inr (by decide)) hm
 ·rcases List.mem_cons.1 hm with hm | hm
  ·exact absurd hm (by decide)
  ·exact no_dig (.inr (by decide)) hm
theorem sfx_inj {a b:St} (ha:rightS a = true) (hb:rightS b = true) (h:Lib.itoa a.T ++ 46 :: Lib.itoa a.R = Lib.itoa b.T ++ 46 :: Lib.itoa b.R):a = b:=by
 unfold rightS at ha hb
 simp only [Bool.and_eq_true,decide_eq_true_eq] at ha hb
 rw [itoa_pos (by omega),itoa_pos (by omega),itoa_pos (by omega),itoa_pos (by omega)] at h
 obtain ⟨e1,e2⟩:=first_mark (no_dig (.inl (by decide))) (no_dig (.inl (by decide))) h
 have h1:=dec_inj e1
 have h2:=dec_inj e2
 obtain ⟨aT,aR⟩:=a
 obtain ⟨bT,bR⟩:=b
 simp only at *
 rw [show aT = bT by omega,show aR = bR by omega]
def twiceD (us:List RwP) (i:Nat) (r:RwP):Bool:=((us.take i).any fun x=>decide (x.Name = r.Name)) || r.Name.contains 126
def shownD (us:List RwP) (i:Nat) (r:RwP):List UInt8:=if twiceD us i r then r.Name ++ sfxD r.Node else r.Name
theorem shown_inj {us:List RwP} (hn:(us.map (·.Node)).Nodup) (hr:∀ r ∈ us,rightS r.Node = true) {i j:Nat} (hi:i < us.length) (hj:j < us.length) (h:shownD us i us[i] = shownD us j us[j]):i = j:=by
 have key:∀ {i j:Nat} (hi:i < us.length) (hj:j < us.length),i < j → us[i].Name = us[j].Name → twiceD us j us[j] = true:=fun {i j} hi hj hij e=>by
  unfold twiceD
  rw [Bool.or_eq_true,List.any_eq_true]
  refine .inl ⟨us[i],?_,by simpa using e⟩
  exact List.mem_take_iff_getElem.2 ⟨i,by omega,rfl⟩
 have tl:∀ {i:Nat} (hi:i < us.length),twiceD us i us[i] = false → (126:UInt8) ∉ us[i].Name:=fun {i} hi e hm=>by
  unfold twiceD at e
  rw [Bool.or_eq_false_iff] at e
  have:=e.2
  rw [List.contains_iff_mem.2 hm] at this
  cases this
 unfold shownD at h
 cases ti:twiceD us i us[i] with
 | false =>
  cases tj:twiceD us j us[j] with
  | false =>
   simp only [ti,tj,Bool.false_eq_true,if_false] at h
   rcases Nat.lt_trichotomy i j with hij | hij | hij
   ·rw [key hi hj hij h] at tj;cases tj
   ·exact hij
   ·rw [key hj hi hij h.symm] at ti;cases ti
  | true =>
   simp only [ti,tj,Bool.false_eq_true,if_false,if_true] at h
   exact absurd (by rw [h];unfold sfxD;simp) (tl hi ti)
 | true =>
  cases tj:twiceD us j us[j] with
  | false =>
   simp only [ti,tj,Bool.false_eq_true,if_false,if_true] at h
   exact absurd (by rw [← h];unfold sfxD;simp) (tl hj tj)
  | true =>
   simp only [ti,tj,if_true] at h
   unfold sfxD at h
   have hri:=hr _ (List.getElem_mem hi)
   have hrj:=hr _ (List.getElem_mem hj)
   obtain ⟨_,e2⟩:=last_mark (sfx_tail hri) (sfx_tail hrj) h
   have e3:=sfx_inj hri hrj e2
   have h1:(us.map (·.Node))[i]'(by simpa using hi) = (us.map (·.Node))[j]'(by simpa using hj):=by simpa using e3
   rcases Nat.lt_trichotomy i j with hij | hij | hij
   ·exact absurd h1 ((List.pairwise_iff_getElem.1 hn) i j (by simpa using hi) (by simpa using hj) hij)
   ·exact hij
   ·exact absurd h1.symm ((List.pairwise_iff_getElem.1 hn) j i (by simpa using hj) (by simpa using hi) hij)
/-! rows of a place, rows that are shown by a name -/
def kidsD (rs:List RwP) (p:St):List RwP:=rs.filter fun r=>decide (r.Parent = p)
def kidFrom (us:List RwP) (nm:List UInt8):Nat → List RwP → Option RwP
 | _,[]=>none
 | i,r :: l=>if shownD us i r = nm then some r else kidFrom us nm (i + 1) l
def kidD (rs:List RwP) (p:St) (nm:List UInt8):Option RwP:=kidFrom (kidsD rs p) nm 0 (kidsD rs p)
theorem kidFrom_some {us:List RwP} {nm:List UInt8}:∀ {i:Nat} {l:List RwP} {r:RwP},kidFrom us nm i l = some r → ∃ k,∃ h:k < l.length,l[k] = r ∧ shownD us (i + k) r = nm
 | i,x :: l,r,h=>by
  unfold kidFrom at h
  split at h
  ·rename_i e
   injection h with h
   subst h
   exact ⟨0,by simp,rfl,e⟩
  ·obtain ⟨k,hk,e1,e2⟩:=kidFrom_some h
   exact ⟨k + 1,by simpa using hk,e1,by rw [show i + (k + 1) = i + 1 + k by omega];exact e2⟩
theorem kidD_some {rs:List RwP} {p:St} {nm:List UInt8} {r:RwP} (h:kidD rs p nm = some r):r ∈ rs ∧ r.Parent = p ∧ ∃ i,∃ hi:i < (kidsD rs p).length,(kidsD rs p)[i] = r ∧ shownD (kidsD rs p) i r = nm:=by
 obtain ⟨k,hk,e1,e2⟩:=kidFrom_some h
 have hm:r ∈ kidsD rs p:=by rw [← e1];exact List.getElem_mem hk
 unfold kidsD at hm
 rw [List.mem_filter] at hm
 exact ⟨hm.1,by simpa using hm.2,k,hk,e1,by rw [Nat.zero_add] at e2;exact e2⟩
theorem kidFrom_at {us:List RwP} {nm:List UInt8}:∀ {i:Nat} {l:List RwP},(∀ k (h:k < l.length),shownD us (i + k) l[k] = nm → kidFrom us nm i l = some l[k] ∨ ∃ k',∃ h':k' < k,shownD us (i + k') (l[k']'(by omega)) = nm)
 | i,[],k,h,_=>by simp at h
 | i,x :: l,0,h,e=>by
  left
  unfold kidFrom
  rw [if_pos (by simpa using e)]
  rfl
 | i,x :: l,k + 1,h,e=>by
  by_cases hx:shownD us i x = nm
  ·exact .inr ⟨0,by omega,by simpa using hx⟩
  ·have e':shownD us (i + 1 + k) (l[k]'(by simpa using h)) = nm:=by rw [show i + 1 + k = i + (k + 1) by omega];simpa using e
   rcases kidFrom_at k (by simpa using h) e' with h1 | ⟨k',hk',h1⟩
   ·left
    unfold kidFrom
    rw [if_neg hx,h1]
    rfl
   ·exact .inr ⟨k' + 1,by omega,by rw [show i + (k' + 1) = i + 1 + k' by omega];simpa using h1⟩
theorem kidD_at {rs:List RwP} {p:St} (hn:(rs.map (·.Node)).Nodup) (hr:∀ r ∈ rs,rightS r.Node = true) {i:Nat} (hi:i < (kidsD rs p).length):kidD rs p (shownD (kidsD rs p) i (kidsD rs p)[i]) = some (kidsD rs p)[i]:=by
 have hk:((kidsD rs p).map (·.Node)).Nodup:=hn.sublist ((List.filter_sublist).map _)
 have hr':∀ r ∈ kidsD rs p,rightS r.Node = true:=fun r h=>hr r (List.mem_filter.1 h).1
 rcases kidFrom_at (us:=kidsD rs p) (i:=0) i hi (by rw [Nat.zero_add]) with h | ⟨k',hk',e⟩
 ·exact h
 ·rw [Nat.zero_add] at e
  have:=shown_inj hk hr' (by omega) hi e
  omega
def zRwP:RwP:=⟨zSt,zSt,zSt,[],[]⟩
def aboveN (xs:List RwP):Nat → St → St → Bool
 | 0,_,_=>false
 | k + 1,n,p=>if p.T = 0 then false else decide (p = n) || match findR xs p with
  | none=>false
  | some r=>aboveN xs k n r.Parent
def aboveR (xs:List RwP) (n p:St):Bool:=aboveN xs xs.length n p
def putR (xs:List RwP) (r:RwP):List RwP:=if (findR xs r.Node).isSome then xs.map (fun x=>if x.Node = r.Node then r else x) else xs ++ [r]
theorem findR_put (xs:List RwP) (r:RwP) (s:St):findR (putR xs r) s = if r.Node = s then some r else findR xs s:=by
 unfold putR
 split
 ·rename_i hs
  induction xs with
  | nil=>simp [findR] at hs
  | cons x xs ih =>
   unfold findR at ih hs ⊢
   rw [List.map_cons,List.find?_cons,List.find?_cons]
   rw [List.find?_cons] at hs
   by_cases hx:x.Node = r.Node
   ·simp only [hx,if_true]
    by_cases e:r.Node = s
    ·simp [e]
    ·simp only [e,decide_false,if_false]
     by_cases h2:((xs.find? fun q=>decide (q.Node = r.Node))).isSome
     ·rw [ih h2,if_neg e]
     ·have:∀ y ∈ xs,y.Node ≠ r.Node:=by
       have:=List.find?_eq_none.1 (by simpa using h2:(xs.find? fun q=>decide (q.Node = r.Node)) = none)
       simpa using this
      rw [List.map_congr_left (g:=id) (fun y hy=>by rw [if_neg (this y hy)];rfl),List.map_id]
   ·simp only [hx,if_false]
    simp only [hx,decide_false] at hs
    by_cases e:x.Node = s
    ·have:r.Node ≠ s:=fun e2=>hx (by rw [e,e2])
     simp [e,this]
    ·simp only [e,decide_false]
     exact ih hs
 ·rename_i hs
  have hn:findR xs r.Node = none:=by simpa using hs
  unfold findR at hn ⊢
  rw [List.find?_append]
  by_cases e:r.Node = s
  ·rw [if_pos e,← e,hn];simp
  ·rw [if_neg e];simp [e]
/-! a tree's rows: nodes that are right, each with a way to the root or the trash -/
structure GvI (xs:List RwP):Prop where
 nd:(xs.map (·.Node)).Nodup
 rt:∀ x ∈ xs,rightS x.Node = true
 up:∀ x ∈ xs,∃ k,reach xs k x.Node = true
theorem GvI.nil:GvI []:=⟨by simp,by simp,by simp⟩
theorem rightS_T {s:St} (h:rightS s = true):s.T ≠ 0:=by
 unfold rightS at h
 simp only [Bool.and_eq_true,decide_eq_true_eq] at h
 omega
theorem fixedS_T {s:St} (h:fixedS s = true):s.T = 0:=by
 unfold fixedS at h
 simp only [Bool.and_eq_true,decide_eq_true_eq] at h
 exact h.1
theorem reach_step {xs:List RwP} {k:Nat} {s:St} {r:RwP} (hf:findR xs s = some r) (h:reach xs k r.Parent = true):reach xs (k + 1) s = true:=by
 unfold reach
 rw [hf]
 show (fixedS s || reach xs k r.Parent) = true
 rw [h,Bool.or_true]
theorem reach_inv {xs:List RwP} {k:Nat} {s:St} (h:reach xs k s = true):fixedS s = true ∨ ∃ j r,k = j + 1 ∧ findR xs s = some r ∧ reach xs j r.Parent = true:=by
 cases k with
 | zero=>exact .inl h
 | succ k =>
  unfold reach at h
  rw [Bool.or_eq_true] at h
  rcases h with h | h
  ·exact .inl h
  ·cases hf:findR xs s with
   | none=>rw [hf] at h;cases h
   | some r=>rw [hf] at h;exact .inr ⟨k,r,rfl,rfl,h⟩
theorem reach_fixed {xs:List RwP} {s:St} (h:fixedS s = true) (k:Nat):reach xs k s = true:=by
 cases k with
 | zero=>exact h
 | succ k=>unfold reach;rw [h];rfl
theorem reach_put {xs:List RwP} {r:RwP} {K:Nat} (hK:reach (putR xs r) K r.Parent = true):∀ (k:Nat) (s:St),reach xs k s = true → ∃ j,reach (putR xs r) j s = true:=by
 intro k
 induction k with
 | zero=>exact fun s h=>⟨0,h⟩
 | succ k ih =>
  intro s h
  rcases reach_inv h with h | ⟨j,x,hj,hf,hx⟩
  ·exact ⟨0,h⟩
  ·obtain rfl:j = k:=by omega
   by_cases e:r.Node = s
   ·exact ⟨K + 1,reach_step (by rw [findR_put,if_pos e]) hK⟩
   ·obtain ⟨j',hj'⟩:=ih x.Parent hx
    exact ⟨j' + 1,reach_step (by rw [findR_put,if_neg e];exact hf) hj'⟩
theorem reach_off {xs:List RwP} {r:RwP}:∀ (k:Nat) (p:St),reach xs k p = true → aboveN xs k r.Node p = false → (fixedS p = true ∨ p.T ≠ 0) → (∀ x ∈ xs,fixedS x.Parent = true ∨ x.Parent.T ≠ 0) → reach (putR xs r) k p = true:=by
 intro k
 induction k with
 | zero=>exact fun p h _ _ _=>h
 | succ k ih =>
  intro p h ha hp hxs
  rcases reach_inv h with h | ⟨j,x,hj,hf,hx⟩
  ·exact reach_fixed h _
  ·obtain rfl:j = k:=by omega
   rcases hp with hp | hp
   ·exact reach_fixed hp _
   ·have e:aboveN xs (j + 1) r.Node p = (if p.T = 0 then false else decide (p = r.Node) || match findR xs p with | none=>false | some r'=>aboveN xs j r.Node r'.Parent):=rfl
    rw [e,if_neg hp,hf] at ha
    simp only [Bool.or_eq_false_iff,decide_eq_false_iff_not] at ha
    refine reach_step (r:=x) ?_ (ih x.Parent hx ha.2 (hxs x (findR_some hf).1) hxs)
    rw [findR_put,if_neg (fun e=>ha.1 e.symm)]
    exact hf
theorem mem_put {xs:List RwP} {r x:RwP} (h:x ∈ putR xs r):x = r ∨ (x ∈ xs ∧ x.Node ≠ r.Node):=by
 unfold putR at h
 split at h
 ·obtain ⟨y,hy,hyx⟩:=List.mem_map.1 h
  split at hyx
  ·exact .inl hyx.symm
  ·rename_i hne
   subst hyx
   exact .inr ⟨hy,hne⟩
 ·rename_i hs
  have hn:findR xs r.Node = none:=by simpa using hs
  rcases List.mem_append.1 h with h | h
  ·exact .inr ⟨h,findR_none.1 hn x h⟩
  ·exact .inl (by simpa using h)
def okP (s:St):Bool:=rightS s || fixedS s
structure GvT (xs:List RwP):Prop extends GvI xs where
 pr:∀ x ∈ xs,okP x.Parent = true
theorem GvT.nil:GvT []:=⟨GvI.nil,by simp⟩
structure Dft where
 rows:List RwP
 next:St
def tickD (s:St) (n:Nat):St:=⟨s.T + n,s.R⟩
def splitD:List UInt8 → List (List UInt8)
 | []=>[[]]
 | b :: l=>if b = 47 then [] :: splitD l else match splitD l with
  | []=>[[b]]
  | x :: t=>(b :: x) :: t
def namesOk (p:List UInt8):Bool:=(splitD p).all nameOk && decide ((splitD p).length ≤ 20) && decide (p.length ≤ 1000)
theorem split_ne:∀ p:List UInt8,splitD p ≠ []
 | []=>by simp [splitD]
 | b :: l=>by
  unfold splitD
  split
  ·simp
  ·split <;> simp
def walkD (rs:List RwP):RwP → List (List UInt8) → RwP × Nat
 | a,[]=>(a,0)
 | a,nm :: l=>match kidD rs a.Node nm with
  | none=>(a,0)
  | some r=>((walkD rs r l).1,(walkD rs r l).2 + 1)
theorem walkD_le (rs:List RwP):∀ (a:RwP) (l:List (List UInt8)),(walkD rs a l).2 ≤ l.length
 | a,[]=>by simp [walkD]
 | a,nm :: l=>by
  unfold walkD
  cases kidD rs a.Node nm with
  | none=>simp
  | some r=>have:=walkD_le rs r l;simp only [List.length_cons];omega
theorem walkD_mem (rs:List RwP):∀ (a:RwP) (l:List (List UInt8)),((walkD rs a l).1 = a ∧ (walkD rs a l).2 = 0) ∨ (walkD rs a l).1 ∈ rs
 | a,[]=>by simp [walkD]
 | a,nm :: l=>by
  unfold walkD
  cases hk:kidD rs a.Node nm with
  | none=>simp
  | some r =>
   right
   rcases walkD_mem rs r l with h | h
   ·show (walkD rs r l).1 ∈ rs
    rw [h.1]
    exact (kidD_some hk).1
   ·exact h
def roomD (d:Dft) (n:Nat):Bool:=rightS d.next && rightS ⟨d.next.T + n - 1,d.next.R⟩ && !(d.rows.any fun r=>decide (0 ≤ cmpS r.Node d.next))
theorem room_lt {d:Dft} {n:Nat} (h:roomD d n = true):∀ r ∈ d.rows,cmpS r.Node d.next < 0:=fun r hr=>by
 unfold roomD at h
 simp only [Bool.and_eq_true,Bool.not_eq_true',List.any_eq_false,decide_eq_true_eq] at h
 have:=h.2 r hr
 omega
def growD (d:Dft) (a:RwP):List (List UInt8) → Dft × RwP
 | []=>(d,a)
 | nm :: l=>growD ⟨putR d.rows ⟨d.next,a.Node,d.next,nm,[]⟩,tickD d.next 1⟩ ⟨d.next,a.Node,d.next,nm,[]⟩ l
def fileD (rs:List RwP) (l:List (List UInt8)) (n:Nat):Bool:=(List.range (min n (l.length - 1))).any fun i=>decide (0 < (walkD rs zRwP (l.take (i + 1))).1.Heads.length)
def freshD (d:Dft) (p:List UInt8):List (List UInt8):=(splitD p).drop (walkD d.rows zRwP (splitD p)).2
def putF (d:Dft) (p:List UInt8) (data:ID):Dft × Int :=
 if namesOk p = false then (d,170)
 else if ((freshD d p).any fun s=>s.contains 126) = true then (d,170)
 else if data = zID then (d,1)
 else if fileD d.rows (splitD p) (walkD d.rows zRwP (splitD p)).2 = true then (d,170)
 else if freshD d p = [] ∧ (walkD d.rows zRwP (splitD p)).1.Heads = [] then (d,5)
 else if 5000 < d.rows.length + (freshD d p).length then (d,3)
 else if roomD d ((freshD d p).length + 1) = false then (d,1)
 else (⟨putR (growD d (walkD d.rows zRwP (splitD p)).1 (freshD d p)).1.rows { (growD d (walkD d.rows zRwP (splitD p)).1 (freshD d p)).2 with Heads:=[⟨(growD d (walkD d.rows zRwP (splitD p)).1 (freshD d p)).1.next,data⟩] },
  tickD (growD d (walkD d.rows zRwP (splitD p)).1 (freshD d p)).1.next 1⟩,0)
def removeF (d:Dft) (p:List UInt8):Dft × Int :=
 if namesOk p = false then (d,170)
 else if (walkD d.rows zRwP (splitD p)).2 < (splitD p).length then (d,4)
 else if roomD d 1 = false then (d,1)
 else (⟨putR d.rows { (walkD d.rows zRwP (splitD p)).1 with Parent:=trS,At:=d.next },tickD d.next 1⟩,0)
def lastN (q:List UInt8):List UInt8:=(splitD q).getLast (split_ne q)
def aheadN (q:List UInt8):List (List UInt8):=(splitD q).take ((splitD q).length - 1)
def moveF (d:Dft) (p q:List UInt8):Dft × Int :=
 if (namesOk p && namesOk q && !(lastN q).contains 126) = false then (d,170)
 else if (walkD d.rows zRwP (splitD p)).2 < (splitD p).length then (d,4)
 else if (walkD d.rows zRwP (aheadN q)).2 < (aheadN q).length then (d,4)
 else if 0 < (walkD d.rows zRwP (aheadN q)).1.Heads.length ∨ aboveR d.rows (walkD d.rows zRwP (splitD p)).1.Node (walkD d.rows zRwP (aheadN q)).1.Node = true then (d,170)
 else if (kidD d.rows (walkD d.rows zRwP (aheadN q)).1.Node (lastN q)).isSome = true then (d,5)
 else if roomD d 1 = false then (d,1)
 else (⟨putR d.rows { (walkD d.rows zRwP (splitD p)).1 with Parent:=(walkD d.rows zRwP (aheadN q)).1.Node,Name:=lastN q,At:=d.next },tickD d.next 1⟩,0)
/-! rows stay a tree -/
theorem reach_new {rs:List RwP} {r:RwP} (hn:findR rs r.Node = none):∀ (k:Nat) (s:St),reach rs k s = true → reach (putR rs r) k s = true
 | 0,s,h=>h
 | k + 1,s,h=>by
  rcases reach_inv h with h | ⟨j,x,hj,hf,hx⟩
  ·exact reach_fixed h _
  ·obtain rfl:j = k:=by omega
   refine reach_step (r:=x) ?_ (reach_new hn j _ hx)
   rw [findR_put,if_neg]
   ·exact hf
   ·rintro rfl
    rw [hn] at hf
    cases hf
theorem reach_same {rs:List RwP} {r x:RwP} (hf:findR rs r.Node = some x) (hp:x.Parent = r.Parent):∀ (k:Nat) (s:St),reach rs k s = true → reach (putR rs r) k s = true
 | 0,s,h=>h
 | k + 1,s,h=>by
  rcases reach_inv h with h | ⟨j,y,hj,hfy,hy⟩
  ·exact reach_fixed h _
  ·obtain rfl:j = k:=by omega
   by_cases e:r.Node = s
   ·refine reach_step (r:=r) (by rw [findR_put,if_pos e]) ?_
    subst e
    rw [hf] at hfy
    injection hfy with hfy
    rw [← hp,hfy]
    exact reach_same hf hp j _ hy
   ·exact reach_step (r:=y) (by rw [findR_put,if_neg e];exact hfy) (reach_same hf hp j _ hy)
theorem putR_len (rs:List RwP) (r:RwP):(putR rs r).length = if (findR rs r.Node).isSome then rs.length else rs.length + 1:=by
 unfold putR
 split <;> simp
theorem TreeOk.put {rs:List RwP} (h:TreeOk rs) {r:RwP} (hr:rightR r = true) (hl:(findR rs r.Node).isSome = true ∨ (rs.length < 5000 ∧ ∀ x ∈ rs,cmpS x.Node r.Node < 0)) {K:Nat} (hK:reach (putR rs r) K r.Parent = true):TreeOk (putR rs r) where
 len:=by
  rw [putR_len]
  have:=h.len
  split
  ·exact this
  ·rename_i hs
   rcases hl with hl | hl
   ·exact absurd hl hs
   ·omega
 ok:=fun x hx=>by
  rcases mem_put hx with rfl | ⟨hx,_⟩
  ·exact hr
  ·exact h.ok x hx
 rise:=by
  have hp:=riseR_pw h.rise
  refine (riseB_pw (fun a b:RwP=>cmpS a.Node b.Node) (fun _ _ _=>cmpS_trans) _).2 ?_
  unfold putR
  split
  ·rw [List.pairwise_map]
   have e:∀ x:RwP,(if x.Node = r.Node then r else x).Node = x.Node:=fun x=>by
    split
    ·rename_i e;exact e.symm
    ·rfl
   refine hp.imp fun {a b} hab=>?_
   rw [e,e]
   exact hab
  ·rename_i hs
   rw [List.pairwise_append]
   refine ⟨hp,List.pairwise_singleton _ _,fun a ha b hb=>?_⟩
   rw [List.mem_singleton] at hb
   subst hb
   rcases hl with hl | hl
   ·exact absurd hl hs
   ·exact hl.2 a ha
 up:=fun x hx=>by
  rcases mem_put hx with rfl | ⟨hx,_⟩
  ·exact ⟨K + 1,reach_step (by rw [findR_put,if_pos rfl]) hK⟩
  ·obtain ⟨k,hk⟩:=h.up x hx
   exact reach_put hK k _ hk
theorem TreeOk.find {rs:List RwP} (h:TreeOk rs) {r:RwP} (hr:r ∈ rs):findR rs r.Node = some r:=findR_mem h.nd hr
theorem rightR_node {r:RwP} (h:rightR r = true):rightS r.Node = true:=by
 unfold rightR rightDr at h
 simp only [Bool.and_eq_true,List.all_cons,List.all_nil,Bool.and_true] at h
 have:=h.1.1.2
 unfold rightIt at this
 simp only [Bool.and_eq_true] at this
 exact this.1.1.1.1.1.1
theorem rightR_iff (r:RwP):rightR r = true ↔ (rightS r.Node = true ∧ rightS r.At = true ∧ 0 ≤ cmpS r.At r.Node ∧ nameOk r.Name = true ∧ r.Heads.length ≤ 1000 ∧ (∀ h ∈ r.Heads,rightS h.At = true ∧ 0 < cmpS h.At r.Node ∧ h.Data ≠ zID) ∧ riseB (fun a b:Hd=>cmpS a.At b.At) r.Heads = true) ∧ r.Node ≠ lastS:=by
 unfold rightR rightDr rightIt
 simp only [Bool.and_eq_true,List.all_cons,List.all_nil,Bool.and_true,decide_eq_true_eq,List.length_cons,List.length_nil,riseB,and_true,itR,List.all_eq_true]
 constructor
 ·rintro ⟨⟨_,⟨⟨⟨⟨⟨a,b⟩,c⟩,d⟩,e⟩,f⟩,g⟩,i⟩
  exact ⟨⟨a,b,c,d,e,fun h hh=>⟨(f h hh).1.1,(f h hh).1.2,(f h hh).2⟩,g⟩,i⟩
 ·rintro ⟨⟨a,b,c,d,e,f,g⟩,i⟩
  exact ⟨⟨by decide,⟨⟨⟨⟨⟨a,b⟩,c⟩,d⟩,e⟩,fun h hh=>⟨⟨(f h hh).1,(f h hh).2.1⟩,(f h hh).2.2⟩⟩,g⟩,i⟩
end Go.Proofs.YthehiobacjjakaaGreatDoor
