/- Maps with stamps as keys, read by a function: facts on it are rewrite rules of the walk. Tables of rows: what lies at a node; depths. Plain: what snap.Right's loops have found up to now. -/
import Derived.Test.YtjpieiccpbcabaaGreatRowCK
import Derived.Test.YtjpieiccpbcabaaGreatMapRK
import Derived.Test.YtjpieiccpbcabaaGreatBoxOK
import Derived.DeepKeys4
import Derived.WideLaws
namespace Go.Proofs.YtjpieiccpbcabaaGreat
open Go.RowKit Go.Maps Go.Sort
set_option linter.unusedVariables false
set_option linter.unusedSimpArgs false

theorem laidOutP:laidOutB Tryz.prog = true:=by kernel_rfl
abbrev KS:={ s:St // wfS s = true }
abbrev encK (k:KS):Value:=.agg (codS.A k.1)
theorem wf_lit {k:Int} (h1 : -9223372036854775808 ≤ k) (h2:k ≤ 9223372036854775807):(Lit.int .i64 k).wf = true:=by
 simp only [Lit.wf]
 have e1:IntKind.i64.min = -9223372036854775808:=rfl
 have e2:IntKind.i64.max = 9223372036854775807:=rfl
 rw [e1,e2]
 simp [h1,h2]
theorem keyK_good (x:KS):∃ l,keyOf Tryz.prog 80 (encK x) = some l:=by
 have h1:Tryz.prog.keyType 80 = true:=by kernel_rfl
 have h2:Tryz.prog.cellsOf 80 = 2:=by kernel_rfl
 have h3:Tryz.prog.cellsOf 2 = 1:=by kernel_rfl
 have h3':Tryz.prog.cellsOf 3 = 1:=by kernel_rfl
 have hw:=x.2
 unfold wfS at hw
 simp only [Bool.and_eq_true,decide_eq_true_eq] at hw
 have w1:=wf_lit hw.1.1.1 hw.1.1.2
 have w2:=wf_lit hw.1.2 hw.2
 have h4:(encK x).formed Tryz.prog 80 = true:=by
  simp [Value.formed,Tryz.underlying80,h2,Cod.A_eq,codS,csS]
 have hs:∃ d,Tryz.prog.types.size = d + 1:=⟨Tryz.prog.types.size - 1,by
  have:0 < Tryz.prog.types.size:=of_decide_eq_true (by kernel_rfl)
  omega⟩
 obtain ⟨d,hd⟩:=hs
 have k1:Tryz.prog.keyLits (d + 1) 2 [.int .i64 x.1.T] = some [.int .i64 x.1.T]:=by
  simp [Program.keyLits,Tryz.underlying2,w1]
 have k2:Tryz.prog.keyLits (d + 1) 3 [.int .i64 x.1.R] = some [.int .i64 x.1.R]:=by
  simp [Program.keyLits,Tryz.underlying3,w2]
 have hk:∃ ls,Tryz.prog.keyLits (Tryz.prog.types.size + 1) 80 (encK x).cells.toList = some ls:=by
  have hc:(encK x).cells.toList = [.int .i64 x.1.T,.int .i64 x.1.R]:=by simp [Value.cells,Cod.A_eq,codS,csS]
  rw [hc,hd]
  unfold Program.keyLits
  rw [Tryz.underlying80]
  simp [h2,h3,h3',k1,k2]
 obtain ⟨ls,hls⟩:=hk
 unfold keyOf
 rw [Tryz.underlying80]
 simp only [h1,h4,Bool.and_self,if_true]
 rw [hls]
 exact ⟨_,rfl⟩
theorem keyK:KeyE Tryz.prog 80 encK where
 K:=Keyed.of_law (deep_law_laid laidOutP (m:=8) (by decide) (of_decide_eq_true (by kernel_rfl)) (by kernel_rfl) (by kernel_rfl))
 good:=keyK_good
 inj:=fun a b h=>Subtype.ext (Cod.v_inj (C:=codS) h)

def upK (kv:List (KS × Value)):List (St × Value):=kv.map fun p=>(p.1.1,p.2)
theorem look_upK (kv:List (KS × Value)) (k:KS):look (upK kv) k.1 = look kv k:=by
 induction kv with
 | nil=>rfl
 | cons p kv ih =>
  unfold look upK at ih ⊢
  rw [List.map_cons,List.find?_cons,List.find?_cons]
  by_cases h:p.1 = k
  ·simp [h]
  ·have h':p.1.1 ≠ k.1:=fun e=>h (Subtype.ext e)
   simp only [h,h',decide_false]
   exact ih
theorem putL_upK (kv:List (KS × Value)) (k:KS) (v:Value):putL (upK kv) k.1 v = upK (putL kv k v):=by
 unfold putL
 rw [look_upK]
 split
 ·unfold upK
  rw [List.map_map,List.map_map]
  refine List.map_congr_left fun p _=>?_
  simp only [Function.comp_apply]
  by_cases h:p.1 = k
  ·simp [h]
  ·have h':p.1.1 ≠ k.1:=fun e=>h (Subtype.ext e)
   simp [h,h']
 ·simp [upK]
theorem MapL.uniqK {w:World} {r:Nat} {a b:List (KS × Value)} (ha:MapL encK w r a) (hb:MapL encK w r b):a = b:=by
 obtain ⟨es,c,h1,e1⟩:=ha
 obtain ⟨es',c',h2,e2⟩:=hb
 rw [h1] at h2
 injection h2 with h2
 injection h2 with h2 _
 subst h2
 have h:=e1.is.symm.trans e2.is
 have inj:∀ (p q:KS × Value),(encK p.1,p.2) = (encK q.1,q.2) → p = q:=by
  intro p q e
  simp only [Prod.mk.injEq] at e
  exact Prod.ext (keyK.inj _ _ e.1) e.2
 clear e1 e2 h1
 induction a generalizing b with
 | nil=>cases b with
  | nil=>rfl
  | cons q b=>simp at h
 | cons p a ih=>cases b with
  | nil=>simp at h
  | cons q b =>
   simp only [List.map_cons,List.cons.injEq] at h
   rw [inj p q h.1,ih h.2]
open Classical in
noncomputable def mpT (w:World) (r:Nat):Option (List (St × Value)):=if h:∃ kv,MapL encK w r kv then some (upK h.choose) else none
theorem MapL.mpT {w:World} {r:Nat} {kv:List (KS × Value)} (h:MapL encK w r kv):mpT w r = some (upK kv):=by
 unfold Go.Proofs.YtjpieiccpbcabaaGreat.mpT
 have hx:∃ x,MapL encK w r x:=⟨kv,h⟩
 rw [dif_pos hx]
 exact congrArg (fun x=>some (upK x)) (hx.choose_spec.uniqK h)
theorem mpT_mp {w:World} {r:Nat} {kv:List (St × Value)} (h:mpT w r = some kv):∃ kv',kv = upK kv' ∧ MapL encK w r kv':=by
 unfold mpT at h
 split at h
 ·rename_i hx
  injection h with h
  exact ⟨_,h.symm,hx.choose_spec⟩
 ·cases h
theorem mpT_lt {w:World} {r:Nat} {kv:List (St × Value)} (h:mpT w r = some kv):r < w.heap.size:=by
 obtain ⟨_,_,h⟩:=mpT_mp h
 exact h.lt
theorem mpT_keep {w w':World} {r:Nat} (hb:w'.heap[r]? = w.heap[r]?):mpT w' r = mpT w r:=by
 cases hx:mpT w r with
 | some x =>
  obtain ⟨kv,rfl,es,c,h1,h2⟩:=mpT_mp hx
  exact MapL.mpT ⟨es,c,hb.trans h1,h2⟩
 | none =>
  cases hy:mpT w' r with
  | none=>rfl
  | some y =>
   obtain ⟨kv,rfl,es,c,h1,h2⟩:=mpT_mp hy
   rw [MapL.mpT ⟨es,c,hb.symm.trans h1,h2⟩] at hx;cases hx
theorem mpT_fr {M:Nat → Prop} {w w':World} {r:Nat} {kv:List (St × Value)} (h:mpT w r = some kv) (f:Fr M w w') (hM:¬ M r):mpT w' r = some kv:=(mpT_keep (f.block r (mpT_lt h) hM)).trans h
theorem mpT_fr0 {w w':World} {r:Nat} {kv:List (St × Value)} (h:mpT w r = some kv) (f:Fr noB w w'):mpT w' r = some kv:=mpT_fr h f (by simp [noB])
@[simp] theorem mpT_drew (w:World) (r:Nat):mpT w.drew r = mpT w r:=mpT_keep rfl
@[simp] theorem mpT_new (w:World):mpT (w.alloc (.map #[] 0)) w.heap.size = some []:=(MapL.new encK w).mpT
theorem mpT_blk {w:World} {r:Nat} {kv:List (St × Value)} (h:mpT w r = some kv):∃ es c,w.heap[r]? = some (.map es c):=by
 obtain ⟨kv,rfl,es,c,h1,_⟩:=mpT_mp h
 exact ⟨es,c,h1⟩
theorem mpT_ne {w:World} {r:Nat} {kv:List (St × Value)} (h:mpT w r = some kv) {g:Nat} {t:TypeId} {cs:Array Value} {z:Nat × Nat} (hb:w.heap[g]? = some (.cells cs t z)):g ≠ r:=by
 rintro rfl
 obtain ⟨es,c,h1⟩:=mpT_blk h
 rw [h1] at hb;cases hb
open Classical in
noncomputable def mputT (t:TypeId) (w:World) (r:Nat) (x:St) (v:Value):World :=
 if h:∃ w2,(Instr.mapUpdate t (.map (some r)) (.agg (codS.A x)) v).run Tryz.prog w = .ok () w2 then h.choose else w
theorem mputT_all {t E:TypeId} (ht:Tryz.prog.underlying t = some (.map 80 E)) {w:World} {r:Nat} {kv:List (St × Value)} (h:mpT w r = some kv) {x:St} (hx:wfS x = true) (v:Value) :
  (Instr.mapUpdate t (.map (some r)) (.agg (codS.A x)) v).run Tryz.prog w = .ok () (mputT t w r x v) ∧ mpT (mputT t w r x v) r = some (putL kv x v) ∧ Fr (oneB r) w (mputT t w r x v) ∧ (mputT t w r x v).heap.size = w.heap.size:=by
 obtain ⟨kv,rfl,hm⟩:=mpT_mp h
 obtain ⟨w2,h1,h2,h3,h4⟩:=hm.put keyK ht ⟨x,hx⟩ v
 have e:mputT t w r x v = w2:=by
  unfold mputT
  have hx:∃ w2,(Instr.mapUpdate t (.map (some r)) (.agg (codS.A x)) v).run Tryz.prog w = .ok () w2:=⟨w2,h1⟩
  refine (dif_pos hx).trans ?_
  exact ((Result.ok.inj (h1.symm.trans hx.choose_spec)).2).symm
 rw [e]
 exact ⟨h1,by rw [putL_upK kv ⟨x,hx⟩ v];exact h2.mpT,h3,h4⟩
noncomputable def rngOT (w:World) (r:Nat):Obj:=match w.heap[r]? with | some (.map es clock)=>.mapIter (some r) clock #[] clock | _=>.map #[] 0
def RngT (w:World) (it r:Nat) (kv left:List (St × Value)):Prop:=∃ kv' left',RngL encK w it r kv' left' ∧ kv = upK kv' ∧ left = upK left'
theorem rngT_all {t E:TypeId} (ht:Tryz.prog.underlying t = some (.map 80 E)) {w:World} {r:Nat} {kv:List (St × Value)} (h:mpT w r = some kv) :
  (Instr.range t (.map (some r))).run Tryz.prog w = .ok (.pointer (some ⟨w.heap.size,0,none⟩)) (w.alloc (rngOT w r)) ∧ RngT (w.alloc (rngOT w r)) w.heap.size r kv kv:=by
 obtain ⟨kv,rfl,hm⟩:=mpT_mp h
 have hl:=hm.lt
 obtain ⟨es,clock,hb,he⟩:=hm
 have e:rngOT w r = .mapIter (some r) clock #[] clock:=by unfold rngOT;rw [hb]
 rw [e]
 refine ⟨run_range_map w t 80 E r es clock ht hb,kv,kv,⟨es,clock,#[],heap_alloc_new w _,by rw [heap_alloc_old w _ hl];exact hb,he,?_⟩,rfl,rfl⟩
 have:leftOf es #[] = es:=by unfold leftOf;simp
 rw [this];exact he.is
theorem RngT.map {w:World} {it r:Nat} {kv left:List (St × Value)} (h:RngT w it r kv left):mpT w r = some kv:=by
 obtain ⟨kv',left',h,rfl,rfl⟩:=h
 exact h.map.mpT
theorem RngT.fr {M:Nat → Prop} {w w':World} {it r:Nat} {kv left:List (St × Value)} (h:RngT w it r kv left) (hf:Fr M w w') (h1:¬ M it) (h2:¬ M r):RngT w' it r kv left:=by
 obtain ⟨kv',left',h,rfl,rfl⟩:=h
 exact ⟨_,_,h.fr hf h1 h2,rfl,rfl⟩
theorem RngT.next {w:World} {it r:Nat} {kv left:List (St × Value)} (h:RngT w it r kv left) (hne:it ≠ r) (ty:TypeId) :
  (left = [] ∧ (Instr.next (.pointer (some ⟨it,0,none⟩)) false ty).run Tryz.prog w = .ok (.tuple #[.bool false]) w) ∨
  ∃ l1 p l2 w',left = l1 ++ p :: l2 ∧ p ∈ kv ∧ wfS p.1 = true ∧ (Instr.next (.pointer (some ⟨it,0,none⟩)) false ty).run Tryz.prog w = .ok (.tuple #[.bool true,.agg (codS.A p.1),p.2]) w' ∧ RngT w' it r kv (l1 ++ l2) ∧ Fr (oneB it) w w' ∧
   ∀ (M:Nat → Prop) w'',Fr M w' w'' → ¬ M it → ¬ M r → (Instr.entry (.pointer (some ⟨it,0,none⟩))).run Tryz.prog w'' = .ok (.tuple #[.agg (codS.A p.1),p.2]) w'':=by
 obtain ⟨kv',left',h,rfl,rfl⟩:=h
 rcases h.next keyK hne ty with ⟨rfl,h1⟩ | ⟨l1,p,l2,w',rfl,h2,h3,h4,h5,h6⟩
 ·exact .inl ⟨rfl,h1⟩
 ·exact .inr ⟨upK l1,(p.1.1,p.2),upK l2,w',by simp [upK],List.mem_map.2 ⟨p,h2,rfl⟩,p.1.2,h3,⟨_,_,h4,rfl,by simp [upK]⟩,h5,h6⟩
@[simp] theorem mk_mapT (t:TypeId) (w:World):(Instr.makeMap t none).run Tryz.prog w = .ok (.map (some w.heap.size)) (w.alloc (.map #[] 0)):=rfl
theorem zeroRw (w:World):(zeroValue 110).run Tryz.prog w = .ok (.agg (codR.A zRwW)) w:=okR.zv w
theorem zeroBl (w:World):(zeroValue 4).run Tryz.prog w = .ok (.bool false) w:=Tryz.zeroValue4 w
@[simp] theorem lkStB (w:World) (r:Nat) (x:St):(Instr.lookup 78 (.map (some r)) (.agg (codS.A x)) false).run Tryz.prog w = match mpT w r with | some kv=>if wfS x = true then .ok ((look kv x).getD (.bool false)) w else elseR ((Instr.lookup 78 (.map (some r)) (.agg (codS.A x)) false).run Tryz.prog w) | none=>elseR ((Instr.lookup 78 (.map (some r)) (.agg (codS.A x)) false).run Tryz.prog w):=by
 cases h:mpT w r with
 | none=>exact elseR_eq _
 | some kv =>
  simp only
  split
  ·rename_i hx
   obtain ⟨kv,rfl,hm⟩:=mpT_mp h
   rw [look_upK kv ⟨x,hx⟩]
   exact hm.look keyK Tryz.underlying78 (zeroBl w) ⟨x,hx⟩
  ·exact elseR_eq _
@[simp] theorem lkStRow (w:World) (r:Nat) (x:St):(Instr.lookup 152 (.map (some r)) (.agg (codS.A x)) false).run Tryz.prog w = match mpT w r with | some kv=>if wfS x = true then .ok ((look kv x).getD (.agg (codR.A zRwW))) w else elseR ((Instr.lookup 152 (.map (some r)) (.agg (codS.A x)) false).run Tryz.prog w) | none=>elseR ((Instr.lookup 152 (.map (some r)) (.agg (codS.A x)) false).run Tryz.prog w):=by
 cases h:mpT w r with
 | none=>exact elseR_eq _
 | some kv =>
  simp only
  split
  ·rename_i hx
   obtain ⟨kv,rfl,hm⟩:=mpT_mp h
   rw [look_upK kv ⟨x,hx⟩]
   exact hm.look keyK Tryz.underlying152 (zeroRw w) ⟨x,hx⟩
  ·exact elseR_eq _
@[simp] theorem lkStRow_ok (w:World) (r:Nat) (x:St):(Instr.lookup 152 (.map (some r)) (.agg (codS.A x)) true).run Tryz.prog w = match mpT w r with | some kv=>if wfS x = true then .ok (.tuple #[(look kv x).getD (.agg (codR.A zRwW)),.bool (look kv x).isSome]) w else elseR ((Instr.lookup 152 (.map (some r)) (.agg (codS.A x)) true).run Tryz.prog w) | none=>elseR ((Instr.lookup 152 (.map (some r)) (.agg (codS.A x)) true).run Tryz.prog w):=by
 cases h:mpT w r with
 | none=>exact elseR_eq _
 | some kv =>
  simp only
  split
  ·rename_i hx
   obtain ⟨kv,rfl,hm⟩:=mpT_mp h
   rw [look_upK kv ⟨x,hx⟩]
   exact hm.lookOk keyK Tryz.underlying152 (zeroRw w) ⟨x,hx⟩
  ·exact elseR_eq _
end Go.Proofs.YtjpieiccpbcabaaGreat
namespace Go.Proofs.YtjpieiccpbcabaaGreat
open Go.RowKit Go.Maps Go.Sort
set_option linter.unusedVariables false
set_option linter.unusedSimpArgs false

def findW (rs:List RwW) (s:St):Option RwW:=rs.find? fun r=>decide (r.Node = s)
theorem RwsIn.tail {w:World} {r:RwW} {rs:List RwW} {x:RwP} {xs:List RwP} (h:RwsIn w (r :: rs) (x :: xs)):RwIn w r x ∧ RwsIn w rs xs :=
 ⟨h.at_ 0 (by simp) (by simp),by have:=h.len;simpa using this,fun i h1 h2=>h.at_ (i + 1) (by simpa using h1) (by simpa using h2)⟩
theorem RwsIn.find {w:World} {rs:List RwW} {xs:List RwP} (h:RwsIn w rs xs) (s:St):(findW rs s = none ∧ findR xs s = none) ∨ ∃ r x,findW rs s = some r ∧ findR xs s = some x ∧ RwIn w r x:=by
 induction rs generalizing xs with
 | nil =>
  have:=h.len
  obtain rfl:xs = []:=List.length_eq_zero_iff.1 (by simpa using this.symm)
  exact .inl ⟨rfl,rfl⟩
 | cons r rs ih =>
  match xs,h with
  | [],h=>have:=h.len;simp at this
  | x :: xs,h =>
   obtain ⟨h1,h2⟩:=h.tail
   unfold findW findR at ih ⊢
   rw [List.find?_cons,List.find?_cons]
   by_cases e:r.Node = s
   ·have e':x.Node = s:=by rw [h1.node];exact e
    simp only [e,e',decide_true]
    exact .inr ⟨r,x,rfl,rfl,h1⟩
   ·have e':¬ x.Node = s:=by rw [h1.node];exact e
    simp only [e,e',decide_false]
    exact ih h2
theorem RwsIn.mem {w:World} {rs:List RwW} {xs:List RwP} (h:RwsIn w rs xs) {r:RwW} (hr:r ∈ rs):∃ x,x ∈ xs ∧ RwIn w r x:=by
 obtain ⟨i,hi,rfl⟩:=List.getElem_of_mem hr
 have hi':i < xs.length:=by rw [← h.len];exact hi
 exact ⟨xs[i],List.getElem_mem hi',h.at_ i hi hi'⟩
def tab (rs:List RwW):List (St × Value):=rs.map fun r=>(r.Node,.agg (codR.A r))
theorem look_tab (rs:List RwW) (s:St):look (tab rs) s = (findW rs s).map fun r=>.agg (codR.A r):=by
 induction rs with
 | nil=>rfl
 | cons r rs ih =>
  unfold look tab findW at ih ⊢
  rw [List.map_cons,List.find?_cons,List.find?_cons]
  by_cases e:r.Node = s
  ·simp [e]
  ·simp only [e,decide_false]
   exact ih
end Go.Proofs.YtjpieiccpbcabaaGreat
namespace Go.Proofs.YtjpieiccpbcabaaGreat
open Go.RowKit Go.Maps Go.Sort
set_option linter.unusedVariables false
set_option linter.unusedSimpArgs false

def PwT (xs:List RwP) (k:Nat):Prop:=∀ i j (h1:i < j) (h2:j < xs.length),j < k → cmpS (xs[i]'(by omega)).Node xs[j].Node < 0
theorem PwT.step {xs:List RwP} {k:Nat} (h:PwT xs k) (hk:k < xs.length) (hc:k = 0 ∨ ∃ (q:Nat) (hq:q + 1 = k),cmpS (xs[q]'(by omega)).Node xs[k].Node < 0):PwT xs (k + 1):=by
 intro i j h1 h2 h3
 by_cases hj:j < k
 ·exact h i j h1 h2 hj
 ·obtain rfl:j = k:=by omega
  rcases hc with rfl | ⟨q,hq,hc⟩
  ·omega
  ·subst hq
   by_cases hi:i = q
   ·subst hi;exact hc
   ·exact cmpS_trans (h i q (by omega) (by omega) (by omega)) hc
theorem PwT.all {xs:List RwP}:PwT xs xs.length ↔ riseR xs = true:=by
 unfold riseR
 rw [riseB_pw (fun a b:RwP=>cmpS a.Node b.Node) (fun _ _ _=>cmpS_trans) xs,List.pairwise_iff_getElem]
 constructor
 ·intro h i j hi hj hij
  exact h i j hij hj hj
 ·intro h i j h1 h2 _
  exact h i j (by omega) h2 h1
structure WayT (xs:List RwP) (s t:St) (way:List St):Prop where
 down:∀ m,reach xs m s = true → ∃ j,m = way.length + j ∧ reach xs j t = true
 up:∀ m,reach xs m t = true → ∃ j,reach xs j s = true
 all:∀ x ∈ way,∀ m,reach xs m t = true → ∃ j,reach xs j x = true
theorem WayT.step {xs:List RwP} {s t:St} {way:List St} (h:WayT xs s t way) (hf:fixedS t = false) {r:RwP} (hr:findR xs t = some r):WayT xs s r.Parent (way ++ [t]):=by
 have e:∀ m,reach xs (m + 1) t = reach xs m r.Parent:=fun m=>by
  show (fixedS t || match findR xs t with | none=>false | some r=>reach xs m r.Parent) = _
  rw [hf,hr,Bool.false_or]
 refine ⟨fun m hm=>?_,fun m hm=>?_,fun x hx m hm=>?_⟩
 ·obtain ⟨j,rfl,hj⟩:=h.down m hm
  cases j with
  | zero =>
   unfold reach at hj
   rw [hf] at hj;cases hj
  | succ j =>
   rw [e] at hj
   exact ⟨j,by simp only [List.length_append,List.length_singleton];omega,hj⟩
 ·exact h.up (m + 1) (by rw [e];exact hm)
 ·rcases List.mem_append.1 hx with hx | hx
  ·exact h.all x hx (m + 1) (by rw [e];exact hm)
  ·rw [List.mem_singleton] at hx
   subst hx
   exact ⟨m + 1,by rw [e];exact hm⟩
end Go.Proofs.YtjpieiccpbcabaaGreat
