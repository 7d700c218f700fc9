/- Tables of rows: what lies at a node; depths. Plain: what snap.Right's loops have found up to now. Plain: rows whose nodes are numbered, side by side or in a line: trees; how many objects a line is. Plain: a tree with a node renamed; the way up, counted. -/
import Derived.Test.YtnkdnbjmhoegkaaGreatMapEnKq
import Derived.Test.YtnkdnbjmhoegkaaGreatSnpSKq
set_option linter.unusedVariables false
set_option linter.unusedSimpArgs false
namespace Go.Proofs.YtnkdnbjmhoegkaaGreat
open Go.RowKit Go.Maps Go.Sort
def findW (rs:List RwW) (s:St):Option RwW:=rs.find? fun r=>decide (r.Node = s)
theorem RwsIn.tail {w:World} {r:RwW} {rs:List RwW} {x:RwP} {xs:List RwP} (h:RwsIn w (r :: rs) (x :: xs)):RwIn w r x ∧ RwsIn w rs xs :=
 ⟨h.at_ 0 (by simp) (by simp),by have:=h.len;simpa using this,fun i h1 h2=>h.at_ (i + 1) (by simpa using h1) (by simpa using h2)⟩
theorem RwsIn.find {w:World} {rs:List RwW} {xs:List RwP} (h:RwsIn w rs xs) (s:St):(findW rs s = none ∧ findR xs s = none) ∨ ∃ r x,findW rs s = some r ∧ findR xs s = some x ∧ RwIn w r x:=by
 induction rs generalizing xs with
 | nil =>
  have:=h.len
  obtain rfl:xs = []:=List.length_eq_zero_iff.1 (by simpa using this.symm)
  exact .inl ⟨rfl,rfl⟩
 | cons r rs ih =>
  match xs,h with
  | [],h=>have:=h.len;simp at this
  | x :: xs,h =>
   obtain ⟨h1,h2⟩:=h.tail
   unfold findW findR at ih ⊢
   rw [List.find?_cons,List.find?_cons]
   by_cases e:r.Node = s
   ·have e':x.Node = s:=by rw [h1.node];exact e
    simp only [e,e',decide_true]
    exact .inr ⟨r,x,rfl,rfl,h1⟩
   ·have e':¬ x.Node = s:=by rw [h1.node];exact e
    simp only [e,e',decide_false]
    exact ih h2
theorem RwsIn.mem {w:World} {rs:List RwW} {xs:List RwP} (h:RwsIn w rs xs) {r:RwW} (hr:r ∈ rs):∃ x,x ∈ xs ∧ RwIn w r x:=by
 obtain ⟨i,hi,rfl⟩:=List.getElem_of_mem hr
 have hi':i < xs.length:=by rw [← h.len];exact hi
 exact ⟨xs[i],List.getElem_mem hi',h.at_ i hi hi'⟩
theorem RwsIn.wf {w:World} {rs:List RwW} {xs:List RwP} (h:RwsIn w rs xs) {r:RwW} (hr:r ∈ rs):wfS r.Node = true ∧ wfS r.Parent = true:=by
 obtain ⟨x,_,hx⟩:=h.mem hr
 exact ⟨hx.wn,hx.wp⟩
def PwT (xs:List RwP) (k:Nat):Prop:=∀ i j (h1:i < j) (h2:j < xs.length),j < k → cmpS (xs[i]'(by omega)).Node xs[j].Node < 0
theorem PwT.zero (xs:List RwP):PwT xs 0:=fun i j h1 h2 h3=>by omega
theorem PwT.step {xs:List RwP} {k:Nat} (h:PwT xs k) (hk:k < xs.length) (hc:k = 0 ∨ ∃ (q:Nat) (hq:q + 1 = k),cmpS (xs[q]'(by omega)).Node xs[k].Node < 0):PwT xs (k + 1):=by
 intro i j h1 h2 h3
 by_cases hj:j < k
 ·exact h i j h1 h2 hj
 ·obtain rfl:j = k:=by omega
  rcases hc with rfl | ⟨q,hq,hc⟩
  ·omega
  ·subst hq
   by_cases hi:i = q
   ·subst hi;exact hc
   ·exact cmpS_trans (h i q (by omega) (by omega) (by omega)) hc
theorem PwT.all {xs:List RwP}:PwT xs xs.length ↔ riseR xs = true:=by
 unfold riseR
 rw [riseB_pw (fun a b:RwP=>cmpS a.Node b.Node) (fun _ _ _=>cmpS_trans) xs,List.pairwise_iff_getElem]
 constructor
 ·intro h i j hi hj hij
  exact h i j hij hj hj
 ·intro h i j h1 h2 _
  exact h i j (by omega) h2 h1
theorem PwT.ne {xs:List RwP} {k:Nat} (h:PwT xs (k + 1)) (hk:k < xs.length) {i:Nat} (hi:i < k):(xs[i]'(by omega)).Node ≠ xs[k].Node:=fun e=>by
 have:=h i k hi hk (by omega)
 rw [e,cmpS_self] at this
 omega
theorem treeOk_of {xs:List RwP} (h1:xs.length ≤ 5000) (h2:∀ i (h:i < xs.length),rightR xs[i] = true) (h3:PwT xs xs.length) (h4:∀ i (h:i < xs.length),∃ m,reach xs m xs[i].Node = true):TreeOk xs :=
 ⟨h1,fun r hr=>by obtain ⟨i,hi,rfl⟩:=List.getElem_of_mem hr;exact h2 i hi,PwT.all.1 h3,fun r hr=>by obtain ⟨i,hi,rfl⟩:=List.getElem_of_mem hr;exact h4 i hi⟩
theorem TreeOk.pw {xs:List RwP} (h:TreeOk xs):PwT xs xs.length:=PwT.all.2 h.rise
def parK (rs:List RwW):List (St × Value):=rs.map fun r=>(r.Node,.agg (codS.A r.Parent))
theorem look_par (rs:List RwW) (s:St):look (parK rs) s = (findW rs s).map fun r=>.agg (codS.A r.Parent):=by
 induction rs with
 | nil=>rfl
 | cons r rs ih =>
  unfold look parK findW at ih ⊢
  rw [List.map_cons,List.find?_cons,List.find?_cons]
  by_cases e:r.Node = s
  ·simp [e]
  ·simp only [e,decide_false]
   exact ih
theorem par_put {rs:List RwW} {r:RwW} (h:∀ x ∈ rs,x.Node ≠ r.Node):putL (parK rs) r.Node (.agg (codS.A r.Parent)) = parK (rs ++ [r]):=by
 have hn:findW rs r.Node = none:=by
  unfold findW
  rw [List.find?_eq_none]
  simpa using h
 unfold putL
 rw [look_par,hn]
 simp [parK]
def GoodK (xs:List RwP) (kv:List (St × Value)):Prop:=∀ p ∈ kv,p.2 = .bool true ∧ ∃ m,reach xs m p.1 = true
theorem GoodK.nil (xs:List RwP):GoodK xs []:=fun p hp=>by cases hp
theorem lookK_mem {kv:List (St × Value)} {s:St} {v:Value} (h:look kv s = some v):(s,v) ∈ kv:=by
 unfold look at h
 cases hf:kv.find? (fun p=>decide (p.1 = s)) with
 | none=>rw [hf] at h;cases h
 | some p =>
  rw [hf] at h
  have h1:=List.mem_of_find?_eq_some hf
  have h2:p.1 = s:=by simpa using List.find?_some hf
  injection h with h
  rw [← h2,← h]
  exact h1
theorem GoodK.look {xs:List RwP} {kv:List (St × Value)} (h:GoodK xs kv) (s:St):∃ b,(Go.Proofs.YtnkdnbjmhoegkaaGreat.look kv s).getD (.bool false) = .bool b ∧ (b = true → ∃ m,reach xs m s = true):=by
 cases hl:Go.Proofs.YtnkdnbjmhoegkaaGreat.look kv s with
 | none=>exact ⟨false,rfl,fun h=>by cases h⟩
 | some v =>
  obtain ⟨h1,h2⟩:=h _ (lookK_mem hl)
  simp only at h1 h2
  subst h1
  exact ⟨true,rfl,fun _=>h2⟩
theorem GoodK.put {xs:List RwP} {kv:List (St × Value)} (h:GoodK xs kv) {s:St} (hs:∃ m,reach xs m s = true):GoodK xs (putL kv s (.bool true)):=by
 intro p hp
 unfold putL at hp
 split at hp
 ·obtain ⟨q,hq,rfl⟩:=List.mem_map.1 hp
  by_cases e:q.1 = s
  ·rw [if_pos e]
   exact ⟨rfl,hs⟩
  ·rw [if_neg e]
   exact h q hq
 ·rcases List.mem_append.1 hp with hp | hp
  ·exact h p hp
  ·rw [List.mem_singleton] at hp
   subst hp
   exact ⟨rfl,hs⟩
structure WayT (xs:List RwP) (s t:St) (way:List St):Prop where
 down:∀ m,reach xs m s = true → ∃ j,m = way.length + j ∧ reach xs j t = true
 up:∀ m,reach xs m t = true → ∃ j,reach xs j s = true
 all:∀ x ∈ way,∀ m,reach xs m t = true → ∃ j,reach xs j x = true
theorem WayT.nil (xs:List RwP) (s:St):WayT xs s s []:=⟨fun m h=>⟨m,by simp,h⟩,fun m h=>⟨m,h⟩,fun x hx=>by cases hx⟩
theorem WayT.step {xs:List RwP} {s t:St} {way:List St} (h:WayT xs s t way) (hf:fixedS t = false) {r:RwP} (hr:findR xs t = some r):WayT xs s r.Parent (way ++ [t]):=by
 have e:∀ m,reach xs (m + 1) t = reach xs m r.Parent:=fun m=>by
  show (fixedS t || match findR xs t with | none=>false | some r=>reach xs m r.Parent) = _
  rw [hf,hr,Bool.false_or]
 refine ⟨fun m hm=>?_,fun m hm=>?_,fun x hx m hm=>?_⟩
 ·obtain ⟨j,rfl,hj⟩:=h.down m hm
  cases j with
  | zero =>
   unfold reach at hj
   rw [hf] at hj;cases hj
  | succ j =>
   rw [e] at hj
   exact ⟨j,by simp only [List.length_append,List.length_singleton];omega,hj⟩
 ·exact h.up (m + 1) (by rw [e];exact hm)
 ·rcases List.mem_append.1 hx with hx | hx
  ·exact h.all x hx (m + 1) (by rw [e];exact hm)
  ·rw [List.mem_singleton] at hx
   subst hx
   exact ⟨m + 1,by rw [e];exact hm⟩
theorem WayT.stuck {xs:List RwP} {s t:St} {way:List St} (h:WayT xs s t way) (hf:fixedS t = false) (hr:findR xs t = none):∀ m,reach xs m s = false:=fun m=>by
 cases hm:reach xs m s with
 | false=>rfl
 | true =>
  obtain ⟨j,rfl,hj⟩:=h.down m hm
  cases j with
  | zero=>unfold reach at hj;rw [hf] at hj;cases hj
  | succ j =>
   unfold reach at hj
   rw [hf,hr] at hj;cases hj
theorem WayT.long {xs:List RwP} {s t:St} {way:List St} (h:WayT xs s t way) (hl:xs.length < way.length):∀ m,reach xs m s = false:=fun m=>by
 cases hm:reach xs m s with
 | false=>rfl
 | true =>
  obtain ⟨j,hj,_⟩:=h.down xs.length (reach_len hm)
  omega
theorem not_tree {xs:List RwP} {i:Nat} (hi:i < xs.length) (h:∀ m,reach xs m xs[i].Node = false):¬ TreeOk xs:=fun ht=>by
 obtain ⟨m,hm⟩:=ht.up _ (List.getElem_mem hi)
 rw [h m] at hm;cases hm
end Go.Proofs.YtnkdnbjmhoegkaaGreat
namespace Go.Proofs.YtnkdnbjmhoegkaaGreat
def nodeW (i:Nat):St:=⟨(i:Int) + 1,1⟩
def rowW (p:St) (i:Nat):RwP:=⟨nodeW i,p,nodeW i,[110],[]⟩
def rowsF (f:Nat → St) (n:Nat):List RwP:=(List.range n).map fun i=>rowW (f i) i
theorem rowsF_len (f:Nat → St) (n:Nat):(rowsF f n).length = n:=by simp [rowsF]
theorem mem_rowsF {f:Nat → St} {n:Nat} {r:RwP}:r ∈ rowsF f n ↔ ∃ i,i < n ∧ r = rowW (f i) i:=by
 unfold rowsF
 rw [List.mem_map]
 constructor
 ·rintro ⟨i,hi,e⟩;exact ⟨i,List.mem_range.1 hi,e.symm⟩
 ·rintro ⟨i,hi,e⟩;exact ⟨i,List.mem_range.2 hi,e.symm⟩
theorem nodeW_inj {i j:Nat} (h:nodeW i = nodeW j):i = j:=by
 unfold nodeW at h
 injection h with h
 omega
theorem right_rowW (p:St) {i:Nat} (hi:i ≤ 5000):rightR (rowW p i) = true:=by
 have h1:rightS (nodeW i) = true:=by
  unfold rightS nodeW
  simp only [Bool.and_eq_true,decide_eq_true_eq]
  omega
 have h2:cmpS (nodeW i) (nodeW i) = 0:=cmpS_self _
 have h3:nodeW i ≠ lastS:=by
  unfold nodeW lastS
  intro e
  injection e with e
  omega
 have h4:nameOk [110] = true:=by decide
 unfold rightR rightDr rightIt
 simp [rowW,itR,h1,h2,h3,h4,riseB]
theorem get_rowsF {f:Nat → St} {n i:Nat} (h:i < (rowsF f n).length):(rowsF f n)[i] = rowW (f i) i:=by simp [rowsF]
theorem cmp_nodeW {i j:Nat} (h:i < j):cmpS (nodeW i) (nodeW j) < 0:=by
 unfold cmpS nodeW
 have:(i:Int) + 1 < (j:Int) + 1:=by omega
 simp [this]
theorem nd_rowsF (f:Nat → St) (n:Nat):((rowsF f n).map (·.Node)).Nodup:=by
 unfold rowsF
 rw [List.map_map,List.Nodup,List.pairwise_map]
 exact (List.pairwise_lt_range (n:=n)).imp fun {a b} h e=>by have:=nodeW_inj e;omega
theorem treeF {f:Nat → St} {n:Nat} (hn:n ≤ 5000) (hu:∀ i,i < n → ∃ m,reach (rowsF f n) m (nodeW i) = true):TreeOk (rowsF f n) :=
 treeOk_of (by rw [rowsF_len];exact hn) (fun i h=>by rw [get_rowsF];rw [rowsF_len] at h;exact right_rowW _ (by omega)) (fun i j h1 h2 h3=>by
  rw [get_rowsF,get_rowsF];exact cmp_nodeW h1) (fun i h=>by rw [get_rowsF];rw [rowsF_len] at h;exact hu i h)
theorem reach_rowsF {f:Nat → St} {n i m:Nat} (hi:i < n) (h:reach (rowsF f n) m (f i) = true):reach (rowsF f n) (m + 1) (nodeW i) = true:=by
 have h1:findR (rowsF f n) (nodeW i) = some (rowW (f i) i):=findR_mem (nd_rowsF f n) (mem_rowsF.2 ⟨i,hi,rfl⟩)
 rw [reach,h1]
 have h2:reach (rowsF f n) m (rowW (f i) i).Parent = true:=h
 simp [h2]
/-! side by side -/
/-! in a line -/
def deepF (p:St) (i:Nat):St:=if i = 0 then p else nodeW (i - 1)
theorem tree_deep {p:St} (hp:fixedS p = true) {n:Nat} (hn:n ≤ 5000):TreeOk (rowsF (deepF p) n):=treeF hn fun i=>by
 induction i with
 | zero=>exact fun hi=>⟨1,reach_rowsF (m:=0) hi (by unfold deepF;rw [if_pos rfl];exact hp)⟩
 | succ i ih =>
  intro hi
  obtain ⟨m,hm⟩:=ih (by omega)
  exact ⟨m + 1,reach_rowsF hi (by unfold deepF;rw [if_neg (by omega)];exact hm)⟩
section
variable {H:List UInt8 → ID}
theorem puts_dfs {rs:List RwP}:∀ (k:Nat) (p:St),(putsZ H rs k p).length ≤ (dfsZ rs k p).length
 | 0,p=>Nat.le_refl _
 | k + 1,p=>by
  unfold putsZ dfsZ
  generalize kidsZ rs p = ks
  induction ks with
  | nil=>exact Nat.le_refl _
  | cons r ks ih =>
   rw [List.flatMap_cons,List.flatMap_cons,List.length_append,List.length_append,List.length_append,List.length_cons]
   have h1:=puts_dfs (rs:=rs) k r.Node
   have h2:(dpZ (itsZ H rs k r.Node)).length ≤ 1:=by unfold dpZ;split <;> simp
   omega
theorem all_len {rs:List RwP} (T:TreeOk rs):(allZ H rs).length ≤ rs.length + 2:=by
 have h1:=(dfs_perm T).1.length_eq
 rw [List.length_append] at h1
 have h2:=puts_dfs (H:=H) (rs:=rs) rs.length trS
 have h3:=puts_dfs (H:=H) (rs:=rs) rs.length zSt
 have h4:(dpZ (itsZ H rs rs.length trS)).length ≤ 1:=by unfold dpZ;split <;> simp
 unfold allZ
 simp only [List.length_append,List.length_singleton]
 omega
theorem full_kids {rs:List RwP} (T:TreeOk rs) {p:St} (hp:p ∈ placesZ rs) (h0:p ≠ zSt):fullZ H rs p ≠ [] ↔ ∃ r ∈ rs,r.Parent = p:=by
 rw [full_ne h0,dir_eq T (place_hgt T hp)]
 rw [Ne,List.map_eq_nil_iff]
 constructor
 ·intro h
  obtain ⟨r,hr⟩:=List.exists_mem_of_ne_nil _ h
  exact ⟨r,mem_kids.1 hr⟩
 ·rintro ⟨r,h1,h2⟩ e
  have:=mem_kids.2 ⟨h1,h2⟩
  rw [e] at this
  cases this
theorem deep_count {p:St} (hp:p = zSt ∨ p = trS) {n:Nat} (hn:n ≤ 900):(putAll [] (allZ H (rowsF (deepF p) n))).length = if p = trS ∧ 0 < n then n + 1 else max n 1:=by
 have T:=tree_deep (p:=p) (by rcases hp with rfl | rfl <;> rfl) (n:=n) (by omega)
 have N:NarrowZ (rowsF (deepF p) n):=fun q=>Nat.le_trans (List.length_filter_le _ _) (by rw [rowsF_len];omega)
 have nz:∀ i,nodeW i ≠ zSt:=fun i e=>by unfold nodeW zSt at e;injection e with e;omega
 have nt:∀ i,nodeW i ≠ trS:=fun i e=>by unfold nodeW trS at e;injection e with e;omega
 rw [put_count T N (S:=zSt :: ((if p = trS ∧ 0 < n then [trS] else []) ++ (List.range (n - 1)).map nodeW)) ?_ fun q=>?_]
 ·split
  ·simp;omega
  ·rename_i h
   simp
   omega
 ·rw [List.nodup_cons,List.nodup_append]
  refine ⟨fun h=>?_,by split <;> simp,?_,fun a ha b hb e=>?_⟩
  ·rw [List.mem_append] at h
   rcases h with h | h
   ·split at h
    ·rw [List.mem_singleton] at h;exact absurd h (by decide)
    ·cases h
   ·obtain ⟨i,_,e⟩:=List.mem_map.1 h
    exact nz i e
  ·rw [List.Nodup,List.pairwise_map]
   exact (List.pairwise_lt_range (n:=n - 1)).imp fun {a b} h e=>by have:=nodeW_inj e;omega
  ·subst e
   obtain ⟨i,_,e⟩:=List.mem_map.1 hb
   split at ha
   ·rw [List.mem_singleton] at ha;rw [ha] at e;exact nt i e
   ·cases ha
 ·have hpl:∀ i,i < n → nodeW i ∈ placesZ (rowsF (deepF p) n):=fun i hi=>by
   unfold placesZ
   exact List.mem_cons_of_mem _ (List.mem_cons_of_mem _ (List.mem_map.2 ⟨_,mem_rowsF.2 ⟨i,hi,rfl⟩,rfl⟩))
  have hz:zSt ∈ placesZ (rowsF (deepF p) n):=by unfold placesZ;simp
  have ht:trS ∈ placesZ (rowsF (deepF p) n):=by unfold placesZ;simp
  rw [List.mem_cons,List.mem_append]
  constructor
  ·rintro (rfl | h | h)
   ·exact ⟨hz,by rw [full_zero];exact root_ne⟩
   ·split at h
    ·rename_i hc
     rw [List.mem_singleton] at h
     subst h
     exact ⟨ht,(full_kids T ht (by decide)).2 ⟨_,mem_rowsF.2 ⟨0,hc.2,rfl⟩,by show deepF p 0 = trS;rw [← hc.1];rfl⟩⟩
    ·cases h
   ·obtain ⟨i,hi,rfl⟩:=List.mem_map.1 h
    rw [List.mem_range] at hi
    exact ⟨hpl i (by omega),(full_kids T (hpl i (by omega)) (nz i)).2 ⟨_,mem_rowsF.2 ⟨i + 1,by omega,rfl⟩,by show deepF p (i + 1) = nodeW i;rfl⟩⟩
  ·rintro ⟨h1,h2⟩
   by_cases hq:q = zSt
   ·exact .inl hq
   right
   obtain ⟨r,hr,hrp⟩:=(full_kids T h1 hq).1 h2
   obtain ⟨i,hi,rfl⟩:=mem_rowsF.1 hr
   have hrp:deepF p i = q:=hrp
   unfold deepF at hrp
   split at hrp
   ·left
    rename_i h0
    rcases hp with rfl | rfl
    ·exact absurd hrp.symm hq
    ·rw [if_pos ⟨rfl,by omega⟩,← hrp];simp
   ·right
    exact List.mem_map.2 ⟨i - 1,List.mem_range.2 (by omega),hrp⟩
end
end Go.Proofs.YtnkdnbjmhoegkaaGreat
namespace Go.Proofs.YtnkdnbjmhoegkaaGreat
def turnB:List UInt8:=[116,117,114,110,101,100]
def turnF (s:St) (r:RwP):RwP:=if r.Node = s then { r with Name:=turnB } else r
theorem stays_turn (s:St):Stays (turnF s):=⟨fun r=>by unfold turnF;split <;> rfl,fun r=>by unfold turnF;split <;> rfl⟩
theorem right_name {r:RwP} (h:rightR r = true):rightR { r with Name:=turnB } = true:=by
 unfold rightR rightDr rightIt itR at h ⊢
 simp only [List.all_cons,List.all_nil,Bool.and_true,Bool.and_eq_true,riseB] at h ⊢
 have hn:nameOk turnB = true:=by decide
 simp only [hn]
 simp_all
theorem right_turn {s:St} {r:RwP} (h:rightR r = true):rightR (turnF s r) = true:=by
 unfold turnF
 split
 ·exact right_name h
 ·exact h
theorem nd_nodes {xs:List RwP} (T:TreeOk xs):(xs.map (·.Node)).Nodup:=by
 rw [List.Nodup,List.pairwise_map]
 exact (riseR_pw T.rise).imp fun {a b} h e=>by rw [e,cmpS_self] at h;omega
theorem set_turn {xs:List RwP} (hn:(xs.map (·.Node)).Nodup) {k:Nat} (hk:k < xs.length):xs.set k { xs[k] with Name:=turnB } = xs.map (turnF xs[k].Node):=by
 refine List.ext_getElem (by simp) fun i h1 h2=>?_
 rw [List.getElem_set,List.getElem_map]
 by_cases hik:k = i
 ·subst hik
  rw [if_pos rfl]
  unfold turnF
  rw [if_pos rfl]
 ·rw [if_neg hik]
  have hi:i < xs.length:=by simpa using h1
  have:xs[i].Node ≠ xs[k].Node:=fun e=>by
   have hp:(xs.map (·.Node)).Pairwise (· ≠ ·):=hn
   rw [List.pairwise_iff_getElem] at hp
   rcases Nat.lt_or_ge i k with h | h
   ·exact hp i k (by simpa using hi) (by simpa using hk) h (by simpa using e)
   ·exact hp k i (by simpa using hk) (by simpa using hi) (by omega) (by simpa using e.symm)
  unfold turnF
  rw [if_neg this]
theorem chain_up1 {rs:List RwP} (T:TreeOk rs) {j:Nat} {p:St} (h:levZ rs p (j + 1)):∃ q,findR rs p = some q ∧ q ∈ rs ∧ q.Node = p ∧ levZ rs q.Parent j ∧ p.T ≠ 0 ∧ (chainL rs (j + 1) p).length = 1 + (chainL rs j q.Parent).length:=by
 obtain ⟨q,h1,h2,h3,h4⟩:=lev_find T h
 refine ⟨q,h1,h2,h3,h4,by rw [← h3];exact T.T q h2,?_⟩
 show (match findR rs p with | none=>topL p | some q=>p :: chainL rs j q.Parent).length = _
 rw [h1]
 simp only [List.length_cons]
 omega
theorem chain_len (rs:List RwP):∀ (j:Nat) (p:St),(chainL rs j p).length ≤ j + 2
 | 0,p=>by show (topL p).length ≤ _;unfold topL;split <;> simp
 | j + 1,p=>by
  show (match findR rs p with | none=>topL p | some q=>p :: chainL rs j q.Parent).length ≤ _
  cases findR rs p with
  | none=>show (topL p).length ≤ _;unfold topL;split <;> simp
  | some q=>have:=chain_len rs j q.Parent;simp only [List.length_cons];omega
theorem chain_top {rs:List RwP} {p:St} (h:levZ rs p 0):p.T = 0 ∧ (p.R = 0 ∨ p.R = 1) ∧ (chainL rs 0 p).length = if p.R = 1 then 2 else 1:=by
 have h1:fixedS p = true:=h.1
 unfold fixedS at h1
 simp only [Bool.and_eq_true,Bool.or_eq_true,decide_eq_true_eq] at h1
 refine ⟨h1.1,h1.2,?_⟩
 unfold chainL topL trS
 rcases fixed_two h.1 with rfl | rfl
 ·rfl
 ·rfl
end Go.Proofs.YtnkdnbjmhoegkaaGreat
