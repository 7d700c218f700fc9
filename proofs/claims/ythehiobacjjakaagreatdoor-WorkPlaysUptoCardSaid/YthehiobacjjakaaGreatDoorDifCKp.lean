/- Maps with stamps as keys, read by a function: facts on it are rewrite rules of the walk. Tables of rows: what lies at a node; depths. Plain: what snap.Right's loops have found up to now. Plain: what turns one tree into another one: moves, what goes to the trash, edits; numbered from a stamp on. Contracts: differ.trash, snap.last, snap.fixed; tables: of, depth, place; sameData. (ex_ldS_at) Values built of parts: an item of a row, operations of moves and edits. Contracts: slices.Clone of heads, snap.item, snap.right; slices.EqualFunc of heads, differ.sameData. (ex_ldS_at ex_bldT5_at) Contracts: snap.right; slices.EqualFunc of heads, differ.sameData. (ex_ldS_at) -/
import Derived.Test.YthehiobacjjakaaGreatDoorFrameRKp
import Derived.Test.YthehiobacjjakaaGreatDoorMapRKp
import Derived.Test.YthehiobacjjakaaGreatDoorBoxOKp
import Derived.DeepKeys4
import Derived.WideLaws
import Derived.Test.YthehiobacjjakaaGreatDoorPathPKp
import Derived.Test.YthehiobacjjakaaGreatDoorFrameOKp
import Derived.Deep.LoopGhost
import Derived.Test.YthehiobacjjakaaGreatDoorPutDKp
import Derived.Test.YthehiobacjjakaaGreatDoorQFrKp
import Derived.Test.YthehiobacjjakaaGreatDoorEqsKp
set_option linter.unusedVariables false
set_option linter.unusedSimpArgs false
namespace Go.Proofs.YthehiobacjjakaaGreatDoor
open Go.RowKit Go.Maps Go.Sort
theorem laidOutP:laidOutB Tryz.prog = true:=by kernel_rfl
abbrev KS:={ s:St // wfS s = true }
abbrev encK (k:KS):Value:=.agg (codS.A k.1)
theorem wf_lit {k:Int} (h1 : -9223372036854775808 ≤ k) (h2:k ≤ 9223372036854775807):(Lit.int .i64 k).wf = true:=by
 simp only [Lit.wf]
 have e1:IntKind.i64.min = -9223372036854775808:=rfl
 have e2:IntKind.i64.max = 9223372036854775807:=rfl
 rw [e1,e2]
 simp [h1,h2]
theorem keyK_good (x:KS):∃ l,keyOf Tryz.prog 24 (encK x) = some l:=by
 have h1:Tryz.prog.keyType 24 = true:=by kernel_rfl
 have h2:Tryz.prog.cellsOf 24 = 2:=by kernel_rfl
 have h3:Tryz.prog.cellsOf 2 = 1:=by kernel_rfl
 have h3':Tryz.prog.cellsOf 3 = 1:=by kernel_rfl
 have hw:=x.2
 unfold wfS at hw
 simp only [Bool.and_eq_true,decide_eq_true_eq] at hw
 have w1:=wf_lit hw.1.1.1 hw.1.1.2
 have w2:=wf_lit hw.1.2 hw.2
 have h4:(encK x).formed Tryz.prog 24 = true:=by
  simp [Value.formed,Tryz.underlying24,h2,Cod.A_eq,codS,csS]
 have hs:∃ d,Tryz.prog.types.size = d + 1:=⟨Tryz.prog.types.size - 1,by
  have:0 < Tryz.prog.types.size:=of_decide_eq_true (by kernel_rfl)
  omega⟩
 obtain ⟨d,hd⟩:=hs
 have k1:Tryz.prog.keyLits (d + 1) 2 [.int .i64 x.1.T] = some [.int .i64 x.1.T]:=by
  simp [Program.keyLits,Tryz.underlying2,w1]
 have k2:Tryz.prog.keyLits (d + 1) 3 [.int .i64 x.1.R] = some [.int .i64 x.1.R]:=by
  simp [Program.keyLits,Tryz.underlying3,w2]
 have hk:∃ ls,Tryz.prog.keyLits (Tryz.prog.types.size + 1) 24 (encK x).cells.toList = some ls:=by
  have hc:(encK x).cells.toList = [.int .i64 x.1.T,.int .i64 x.1.R]:=by simp [Value.cells,Cod.A_eq,codS,csS]
  rw [hc,hd]
  unfold Program.keyLits
  rw [Tryz.underlying24]
  simp [h2,h3,h3',k1,k2]
 obtain ⟨ls,hls⟩:=hk
 unfold keyOf
 rw [Tryz.underlying24]
 simp only [h1,h4,Bool.and_self,if_true]
 rw [hls]
 exact ⟨_,rfl⟩
theorem keyK:KeyE Tryz.prog 24 encK where
 K:=Keyed.of_law (deep_law_laid laidOutP (m:=8) (by decide) (of_decide_eq_true (by kernel_rfl)) (by kernel_rfl) (by kernel_rfl))
 good:=keyK_good
 inj:=fun a b h=>Subtype.ext (Cod.v_inj (C:=codS) h)
def upK (kv:List (KS × Value)):List (St × Value):=kv.map fun p=>(p.1.1,p.2)
theorem look_upK (kv:List (KS × Value)) (k:KS):look (upK kv) k.1 = look kv k:=by
 induction kv with
 | nil=>rfl
 | cons p kv ih =>
  unfold look upK at ih ⊢
  rw [List.map_cons,List.find?_cons,List.find?_cons]
  by_cases h:p.1 = k
  ·simp [h]
  ·have h':p.1.1 ≠ k.1:=fun e=>h (Subtype.ext e)
   simp only [h,h',decide_false]
   exact ih
theorem putL_upK (kv:List (KS × Value)) (k:KS) (v:Value):putL (upK kv) k.1 v = upK (putL kv k v):=by
 unfold putL
 rw [look_upK]
 split
 ·unfold upK
  rw [List.map_map,List.map_map]
  refine List.map_congr_left fun p _=>?_
  simp only [Function.comp_apply]
  by_cases h:p.1 = k
  ·simp [h]
  ·have h':p.1.1 ≠ k.1:=fun e=>h (Subtype.ext e)
   simp [h,h']
 ·simp [upK]
theorem MapL.uniqK {w:World} {r:Nat} {a b:List (KS × Value)} (ha:MapL encK w r a) (hb:MapL encK w r b):a = b:=by
 obtain ⟨es,c,h1,e1⟩:=ha
 obtain ⟨es',c',h2,e2⟩:=hb
 rw [h1] at h2
 injection h2 with h2
 injection h2 with h2 _
 subst h2
 have h:=e1.is.symm.trans e2.is
 have inj:∀ (p q:KS × Value),(encK p.1,p.2) = (encK q.1,q.2) → p = q:=by
  intro p q e
  simp only [Prod.mk.injEq] at e
  exact Prod.ext (keyK.inj _ _ e.1) e.2
 clear e1 e2 h1
 induction a generalizing b with
 | nil=>cases b with
  | nil=>rfl
  | cons q b=>simp at h
 | cons p a ih=>cases b with
  | nil=>simp at h
  | cons q b =>
   simp only [List.map_cons,List.cons.injEq] at h
   rw [inj p q h.1,ih h.2]
open Classical in
noncomputable def mpT (w:World) (r:Nat):Option (List (St × Value)):=if h:∃ kv,MapL encK w r kv then some (upK h.choose) else none
theorem MapL.mpT {w:World} {r:Nat} {kv:List (KS × Value)} (h:MapL encK w r kv):mpT w r = some (upK kv):=by
 unfold Go.Proofs.YthehiobacjjakaaGreatDoor.mpT
 have hx:∃ x,MapL encK w r x:=⟨kv,h⟩
 rw [dif_pos hx]
 exact congrArg (fun x=>some (upK x)) (hx.choose_spec.uniqK h)
theorem mpT_mp {w:World} {r:Nat} {kv:List (St × Value)} (h:mpT w r = some kv):∃ kv',kv = upK kv' ∧ MapL encK w r kv':=by
 unfold mpT at h
 split at h
 ·rename_i hx
  injection h with h
  exact ⟨_,h.symm,hx.choose_spec⟩
 ·cases h
theorem mpT_lt {w:World} {r:Nat} {kv:List (St × Value)} (h:mpT w r = some kv):r < w.heap.size:=by
 obtain ⟨_,_,h⟩:=mpT_mp h
 exact h.lt
theorem mpT_keep {w w':World} {r:Nat} (hb:w'.heap[r]? = w.heap[r]?):mpT w' r = mpT w r:=by
 cases hx:mpT w r with
 | some x =>
  obtain ⟨kv,rfl,es,c,h1,h2⟩:=mpT_mp hx
  exact MapL.mpT ⟨es,c,hb.trans h1,h2⟩
 | none =>
  cases hy:mpT w' r with
  | none=>rfl
  | some y =>
   obtain ⟨kv,rfl,es,c,h1,h2⟩:=mpT_mp hy
   rw [MapL.mpT ⟨es,c,hb.symm.trans h1,h2⟩] at hx;cases hx
theorem mpT_fr {M:Nat → Prop} {w w':World} {r:Nat} {kv:List (St × Value)} (h:mpT w r = some kv) (f:Fr M w w') (hM:¬ M r):mpT w' r = some kv:=(mpT_keep (f.block r (mpT_lt h) hM)).trans h
theorem mpT_fr0 {w w':World} {r:Nat} {kv:List (St × Value)} (h:mpT w r = some kv) (f:Fr noB w w'):mpT w' r = some kv:=mpT_fr h f (by simp [noB])
@[simp] theorem mpT_new (w:World):mpT (w.alloc (.map #[] 0)) w.heap.size = some []:=(MapL.new encK w).mpT
theorem mpT_blk {w:World} {r:Nat} {kv:List (St × Value)} (h:mpT w r = some kv):∃ es c,w.heap[r]? = some (.map es c):=by
 obtain ⟨kv,rfl,es,c,h1,_⟩:=mpT_mp h
 exact ⟨es,c,h1⟩
theorem mpT_cell {w:World} {r:Nat} {kv:List (St × Value)} (h:mpT w r = some kv) (o:Nat) (f:Option Nat):w.cell? ⟨r,o,f⟩ = none:=by
 obtain ⟨es,c,h1⟩:=mpT_blk h
 cases f <;> simp [World.cell?,h1]
theorem mpT_ne {w:World} {r:Nat} {kv:List (St × Value)} (h:mpT w r = some kv) {g:Nat} {t:TypeId} {cs:Array Value} {z:Nat × Nat} (hb:w.heap[g]? = some (.cells cs t z)):g ≠ r:=by
 rintro rfl
 obtain ⟨es,c,h1⟩:=mpT_blk h
 rw [h1] at hb;cases hb
theorem Sl.ne_map {w:World} {g off:Nat} {l:List Value} (h:Sl w (some ⟨g,off,none⟩) l) (hl:l ≠ []) {r:Nat} {kv:List (St × Value)} (hm:mpT w r = some kv):g ≠ r:=by
 rintro rfl
 obtain ⟨g',off',e,_,hc⟩:=h hl
 injection e with e
 injection e with e1 e2
 subst e1
 have hpos:=List.length_pos_iff.2 hl
 have:=hc 0 _ (List.getElem?_eq_getElem hpos)
 rw [mpT_cell hm] at this
 cases this
open Classical in
noncomputable def mputT (t:TypeId) (w:World) (r:Nat) (x:St) (v:Value):World :=
 if h:∃ w2,(Instr.mapUpdate t (.map (some r)) (.agg (codS.A x)) v).run Tryz.prog w = .ok () w2 then h.choose else w
theorem mputT_all {t E:TypeId} (ht:Tryz.prog.underlying t = some (.map 24 E)) {w:World} {r:Nat} {kv:List (St × Value)} (h:mpT w r = some kv) {x:St} (hx:wfS x = true) (v:Value) :
  (Instr.mapUpdate t (.map (some r)) (.agg (codS.A x)) v).run Tryz.prog w = .ok () (mputT t w r x v) ∧ mpT (mputT t w r x v) r = some (putL kv x v) ∧ Fr (oneB r) w (mputT t w r x v) ∧ (mputT t w r x v).heap.size = w.heap.size:=by
 obtain ⟨kv,rfl,hm⟩:=mpT_mp h
 obtain ⟨w2,h1,h2,h3,h4⟩:=hm.put keyK ht ⟨x,hx⟩ v
 have e:mputT t w r x v = w2:=by
  unfold mputT
  have hx:∃ w2,(Instr.mapUpdate t (.map (some r)) (.agg (codS.A x)) v).run Tryz.prog w = .ok () w2:=⟨w2,h1⟩
  refine (dif_pos hx).trans ?_
  exact ((Result.ok.inj (h1.symm.trans hx.choose_spec)).2).symm
 rw [e]
 exact ⟨h1,by rw [putL_upK kv ⟨x,hx⟩ v];exact h2.mpT,h3,h4⟩
def RngT (w:World) (it r:Nat) (kv left:List (St × Value)):Prop:=∃ kv' left',RngL encK w it r kv' left' ∧ kv = upK kv' ∧ left = upK left'
theorem RngT.map {w:World} {it r:Nat} {kv left:List (St × Value)} (h:RngT w it r kv left):mpT w r = some kv:=by
 obtain ⟨kv',left',h,rfl,rfl⟩:=h
 exact h.map.mpT
@[simp] theorem mk_mapT (t:TypeId) (w:World):(Instr.makeMap t none).run Tryz.prog w = .ok (.map (some w.heap.size)) (w.alloc (.map #[] 0)):=rfl
theorem zeroStp (w:World):(zeroValue 24).run Tryz.prog w = .ok (.agg (codS.A zSt)) w:=okS.zv w
theorem zeroBl (w:World):(zeroValue 4).run Tryz.prog w = .ok (.bool false) w:=Tryz.zeroValue4 w
@[simp] theorem lkStSt (w:World) (r:Nat) (x:St):(Instr.lookup 105 (.map (some r)) (.agg (codS.A x)) false).run Tryz.prog w = match mpT w r with | some kv=>if wfS x = true then .ok ((look kv x).getD (.agg (codS.A zSt))) w else elseR ((Instr.lookup 105 (.map (some r)) (.agg (codS.A x)) false).run Tryz.prog w) | none=>elseR ((Instr.lookup 105 (.map (some r)) (.agg (codS.A x)) false).run Tryz.prog w):=by
 cases h:mpT w r with
 | none=>exact elseR_eq _
 | some kv =>
  simp only
  split
  ·rename_i hx
   obtain ⟨kv,rfl,hm⟩:=mpT_mp h
   rw [look_upK kv ⟨x,hx⟩]
   exact hm.look keyK Tryz.underlying105 (zeroStp w) ⟨x,hx⟩
  ·exact elseR_eq _
@[simp] theorem lkStSt_ok (w:World) (r:Nat) (x:St):(Instr.lookup 105 (.map (some r)) (.agg (codS.A x)) true).run Tryz.prog w = match mpT w r with | some kv=>if wfS x = true then .ok (.tuple #[(look kv x).getD (.agg (codS.A zSt)),.bool (look kv x).isSome]) w else elseR ((Instr.lookup 105 (.map (some r)) (.agg (codS.A x)) true).run Tryz.prog w) | none=>elseR ((Instr.lookup 105 (.map (some r)) (.agg (codS.A x)) true).run Tryz.prog w):=by
 cases h:mpT w r with
 | none=>exact elseR_eq _
 | some kv =>
  simp only
  split
  ·rename_i hx
   obtain ⟨kv,rfl,hm⟩:=mpT_mp h
   rw [look_upK kv ⟨x,hx⟩]
   exact hm.lookOk keyK Tryz.underlying105 (zeroStp w) ⟨x,hx⟩
  ·exact elseR_eq _
@[simp] theorem lkStB (w:World) (r:Nat) (x:St):(Instr.lookup 107 (.map (some r)) (.agg (codS.A x)) false).run Tryz.prog w = match mpT w r with | some kv=>if wfS x = true then .ok ((look kv x).getD (.bool false)) w else elseR ((Instr.lookup 107 (.map (some r)) (.agg (codS.A x)) false).run Tryz.prog w) | none=>elseR ((Instr.lookup 107 (.map (some r)) (.agg (codS.A x)) false).run Tryz.prog w):=by
 cases h:mpT w r with
 | none=>exact elseR_eq _
 | some kv =>
  simp only
  split
  ·rename_i hx
   obtain ⟨kv,rfl,hm⟩:=mpT_mp h
   rw [look_upK kv ⟨x,hx⟩]
   exact hm.look keyK Tryz.underlying107 (zeroBl w) ⟨x,hx⟩
  ·exact elseR_eq _
def findW (rs:List RwW) (s:St):Option RwW:=rs.find? fun r=>decide (r.Node = s)
theorem findW_some {rs:List RwW} {s:St} {r:RwW} (h:findW rs s = some r):r ∈ rs ∧ r.Node = s:=by
 unfold findW at h
 exact ⟨List.mem_of_find?_eq_some h,by simpa using List.find?_some h⟩
theorem RwsIn.tail {w:World} {r:RwW} {rs:List RwW} {x:RwP} {xs:List RwP} (h:RwsIn w (r :: rs) (x :: xs)):RwIn w r x ∧ RwsIn w rs xs :=
 ⟨h.at_ 0 (by simp) (by simp),by have:=h.len;simpa using this,fun i h1 h2=>h.at_ (i + 1) (by simpa using h1) (by simpa using h2)⟩
theorem RwsIn.nil {w:World}:RwsIn w [] []:=⟨rfl,fun i h=>absurd h (by simp)⟩
theorem RwsIn.find {w:World} {rs:List RwW} {xs:List RwP} (h:RwsIn w rs xs) (s:St):(findW rs s = none ∧ findR xs s = none) ∨ ∃ r x,findW rs s = some r ∧ findR xs s = some x ∧ RwIn w r x:=by
 induction rs generalizing xs with
 | nil =>
  have:=h.len
  obtain rfl:xs = []:=List.length_eq_zero_iff.1 (by simpa using this.symm)
  exact .inl ⟨rfl,rfl⟩
 | cons r rs ih =>
  match xs,h with
  | [],h=>have:=h.len;simp at this
  | x :: xs,h =>
   obtain ⟨h1,h2⟩:=h.tail
   unfold findW findR at ih ⊢
   rw [List.find?_cons,List.find?_cons]
   by_cases e:r.Node = s
   ·have e':x.Node = s:=by rw [h1.node];exact e
    simp only [e,e',decide_true]
    exact .inr ⟨r,x,rfl,rfl,h1⟩
   ·have e':¬ x.Node = s:=by rw [h1.node];exact e
    simp only [e,e',decide_false]
    exact ih h2
theorem RwsIn.mem {w:World} {rs:List RwW} {xs:List RwP} (h:RwsIn w rs xs) {r:RwW} (hr:r ∈ rs):∃ x,x ∈ xs ∧ RwIn w r x:=by
 obtain ⟨i,hi,rfl⟩:=List.getElem_of_mem hr
 have hi':i < xs.length:=by rw [← h.len];exact hi
 exact ⟨xs[i],List.getElem_mem hi',h.at_ i hi hi'⟩
theorem RwsIn.wf {w:World} {rs:List RwW} {xs:List RwP} (h:RwsIn w rs xs) {r:RwW} (hr:r ∈ rs):wfS r.Node = true ∧ wfS r.Parent = true:=by
 obtain ⟨x,_,hx⟩:=h.mem hr
 exact ⟨hx.wn,hx.wp⟩
def PwT (xs:List RwP) (k:Nat):Prop:=∀ i j (h1:i < j) (h2:j < xs.length),j < k → cmpS (xs[i]'(by omega)).Node xs[j].Node < 0
theorem PwT.zero (xs:List RwP):PwT xs 0:=fun i j h1 h2 h3=>by omega
theorem PwT.step {xs:List RwP} {k:Nat} (h:PwT xs k) (hk:k < xs.length) (hc:k = 0 ∨ ∃ (q:Nat) (hq:q + 1 = k),cmpS (xs[q]'(by omega)).Node xs[k].Node < 0):PwT xs (k + 1):=by
 intro i j h1 h2 h3
 by_cases hj:j < k
 ·exact h i j h1 h2 hj
 ·obtain rfl:j = k:=by omega
  rcases hc with rfl | ⟨q,hq,hc⟩
  ·omega
  ·subst hq
   by_cases hi:i = q
   ·subst hi;exact hc
   ·exact cmpS_trans (h i q (by omega) (by omega) (by omega)) hc
theorem PwT.all {xs:List RwP}:PwT xs xs.length ↔ riseR xs = true:=by
 unfold riseR
 rw [riseB_pw (fun a b:RwP=>cmpS a.Node b.Node) (fun _ _ _=>cmpS_trans) xs,List.pairwise_iff_getElem]
 constructor
 ·intro h i j hi hj hij
  exact h i j hij hj hj
 ·intro h i j h1 h2 _
  exact h i j (by omega) h2 h1
theorem PwT.ne {xs:List RwP} {k:Nat} (h:PwT xs (k + 1)) (hk:k < xs.length) {i:Nat} (hi:i < k):(xs[i]'(by omega)).Node ≠ xs[k].Node:=fun e=>by
 have:=h i k hi hk (by omega)
 rw [e,cmpS_self] at this
 omega
theorem treeOk_of {xs:List RwP} (h1:xs.length ≤ 5000) (h2:∀ i (h:i < xs.length),rightR xs[i] = true) (h3:PwT xs xs.length) (h4:∀ i (h:i < xs.length),∃ m,reach xs m xs[i].Node = true):TreeOk xs :=
 ⟨h1,fun r hr=>by obtain ⟨i,hi,rfl⟩:=List.getElem_of_mem hr;exact h2 i hi,PwT.all.1 h3,fun r hr=>by obtain ⟨i,hi,rfl⟩:=List.getElem_of_mem hr;exact h4 i hi⟩
theorem TreeOk.pw {xs:List RwP} (h:TreeOk xs):PwT xs xs.length:=PwT.all.2 h.rise
def parK (rs:List RwW):List (St × Value):=rs.map fun r=>(r.Node,.agg (codS.A r.Parent))
theorem look_par (rs:List RwW) (s:St):look (parK rs) s = (findW rs s).map fun r=>.agg (codS.A r.Parent):=by
 induction rs with
 | nil=>rfl
 | cons r rs ih =>
  unfold look parK findW at ih ⊢
  rw [List.map_cons,List.find?_cons,List.find?_cons]
  by_cases e:r.Node = s
  ·simp [e]
  ·simp only [e,decide_false]
   exact ih
theorem par_put {rs:List RwW} {r:RwW} (h:∀ x ∈ rs,x.Node ≠ r.Node):putL (parK rs) r.Node (.agg (codS.A r.Parent)) = parK (rs ++ [r]):=by
 have hn:findW rs r.Node = none:=by
  unfold findW
  rw [List.find?_eq_none]
  simpa using h
 unfold putL
 rw [look_par,hn]
 simp [parK]
def GoodK (xs:List RwP) (kv:List (St × Value)):Prop:=∀ p ∈ kv,p.2 = .bool true ∧ ∃ m,reach xs m p.1 = true
theorem GoodK.nil (xs:List RwP):GoodK xs []:=fun p hp=>by cases hp
theorem lookK_mem {kv:List (St × Value)} {s:St} {v:Value} (h:look kv s = some v):(s,v) ∈ kv:=by
 unfold look at h
 cases hf:kv.find? (fun p=>decide (p.1 = s)) with
 | none=>rw [hf] at h;cases h
 | some p =>
  rw [hf] at h
  have h1:=List.mem_of_find?_eq_some hf
  have h2:p.1 = s:=by simpa using List.find?_some hf
  injection h with h
  rw [← h2,← h]
  exact h1
theorem GoodK.look {xs:List RwP} {kv:List (St × Value)} (h:GoodK xs kv) (s:St):∃ b,(Go.Proofs.YthehiobacjjakaaGreatDoor.look kv s).getD (.bool false) = .bool b ∧ (b = true → ∃ m,reach xs m s = true):=by
 cases hl:Go.Proofs.YthehiobacjjakaaGreatDoor.look kv s with
 | none=>exact ⟨false,rfl,fun h=>by cases h⟩
 | some v =>
  obtain ⟨h1,h2⟩:=h _ (lookK_mem hl)
  simp only at h1 h2
  subst h1
  exact ⟨true,rfl,fun _=>h2⟩
theorem GoodK.put {xs:List RwP} {kv:List (St × Value)} (h:GoodK xs kv) {s:St} (hs:∃ m,reach xs m s = true):GoodK xs (putL kv s (.bool true)):=by
 intro p hp
 unfold putL at hp
 split at hp
 ·obtain ⟨q,hq,rfl⟩:=List.mem_map.1 hp
  by_cases e:q.1 = s
  ·rw [if_pos e]
   exact ⟨rfl,hs⟩
  ·rw [if_neg e]
   exact h q hq
 ·rcases List.mem_append.1 hp with hp | hp
  ·exact h p hp
  ·rw [List.mem_singleton] at hp
   subst hp
   exact ⟨rfl,hs⟩
structure WayT (xs:List RwP) (s t:St) (way:List St):Prop where
 down:∀ m,reach xs m s = true → ∃ j,m = way.length + j ∧ reach xs j t = true
 up:∀ m,reach xs m t = true → ∃ j,reach xs j s = true
 all:∀ x ∈ way,∀ m,reach xs m t = true → ∃ j,reach xs j x = true
theorem WayT.nil (xs:List RwP) (s:St):WayT xs s s []:=⟨fun m h=>⟨m,by simp,h⟩,fun m h=>⟨m,h⟩,fun x hx=>by cases hx⟩
theorem WayT.step {xs:List RwP} {s t:St} {way:List St} (h:WayT xs s t way) (hf:fixedS t = false) {r:RwP} (hr:findR xs t = some r):WayT xs s r.Parent (way ++ [t]):=by
 have e:∀ m,reach xs (m + 1) t = reach xs m r.Parent:=fun m=>by
  show (fixedS t || match findR xs t with | none=>false | some r=>reach xs m r.Parent) = _
  rw [hf,hr,Bool.false_or]
 refine ⟨fun m hm=>?_,fun m hm=>?_,fun x hx m hm=>?_⟩
 ·obtain ⟨j,rfl,hj⟩:=h.down m hm
  cases j with
  | zero =>
   unfold reach at hj
   rw [hf] at hj;cases hj
  | succ j =>
   rw [e] at hj
   exact ⟨j,by simp only [List.length_append,List.length_singleton];omega,hj⟩
 ·exact h.up (m + 1) (by rw [e];exact hm)
 ·rcases List.mem_append.1 hx with hx | hx
  ·exact h.all x hx (m + 1) (by rw [e];exact hm)
  ·rw [List.mem_singleton] at hx
   subst hx
   exact ⟨m + 1,by rw [e];exact hm⟩
theorem WayT.stuck {xs:List RwP} {s t:St} {way:List St} (h:WayT xs s t way) (hf:fixedS t = false) (hr:findR xs t = none):∀ m,reach xs m s = false:=fun m=>by
 cases hm:reach xs m s with
 | false=>rfl
 | true =>
  obtain ⟨j,rfl,hj⟩:=h.down m hm
  cases j with
  | zero=>unfold reach at hj;rw [hf] at hj;cases hj
  | succ j =>
   unfold reach at hj
   rw [hf,hr] at hj;cases hj
theorem WayT.long {xs:List RwP} {s t:St} {way:List St} (h:WayT xs s t way) (hl:xs.length < way.length):∀ m,reach xs m s = false:=fun m=>by
 cases hm:reach xs m s with
 | false=>rfl
 | true =>
  obtain ⟨j,hj,_⟩:=h.down xs.length (reach_len hm)
  omega
theorem not_tree {xs:List RwP} {i:Nat} (hi:i < xs.length) (h:∀ m,reach xs m xs[i].Node = false):¬ TreeOk xs:=fun ht=>by
 obtain ⟨m,hm⟩:=ht.up _ (List.getElem_mem hi)
 rw [h m] at hm;cases hm
end Go.Proofs.YthehiobacjjakaaGreatDoor
namespace Go.Proofs.YthehiobacjjakaaGreatDoor
end Go.Proofs.YthehiobacjjakaaGreatDoor
namespace Go.Proofs.YthehiobacjjakaaGreatDoor
open Go.RowKit
theorem Cod.bxd_box {α:Type} {C:Cod α} (w:World) (x:α):C.bxd (w.alloc (.cells (C.A x) C.t)) w.heap.size = some x:=by
 have h:=Cod.bxd_new (C:=C) w x
 rwa [show C.o x = .cells (C.A x) C.t from by unfold Cod.o;rfl] at h
theorem bxS_box (w:World) (x:St):codS.bxd (w.alloc (.cells (codS.A x) 24)) w.heap.size = some x:=Cod.bxd_box w x
set_option maxRecDepth 100000 in
theorem last_any (w:World):Calls Tryz.prog 91 #[] w (Gives w (.agg (codS.A lastS))):=by
 go_enter Tryz.func91,Tryz.ntmps91
 go_wp2_with fail
 refine bodyPost_ret (ret_row okS rfl _ _ w.heap.size lastS (by rfl) (Cod.bxd_new w _)) rfl ?_
 exact ⟨rfl,(Fr.refl noB w).alloc _⟩
theorem stCell {w:World} {b:Nat} {s:St} (h:codS.rd w b 0 = some s):w.cell? ⟨b,0,none⟩ = some (.int .i64 s.T) ∧ w.cell? ⟨b,1,none⟩ = some (.int .i64 s.R) :=
 ⟨by simpa using Cod.rd_cell h 0 (v:=.int .i64 s.T) rfl,by simpa using Cod.rd_cell h 1 (v:=.int .i64 s.R) rfl⟩
set_option maxRecDepth 100000 in
theorem nfixed_any (w:World) (s:St):Calls Tryz.prog 61 #[.agg (codS.A s)] w (Gives w (.bool (fixedS s))):=by
 have f0:Fr noB w (w.alloc (.cells (codS.A s) 24)):=(Fr.refl noB w).alloc _
 obtain ⟨q1,q2⟩:=stCell (Cod.bxd_rd (bxS_box w s))
 obtain ⟨T,R⟩:=s
 simp only at q1 q2
 by_cases h1:T = 0
 ·subst h1
  by_cases h2:R = 0
  ·subst h2
   have e:fixedS ⟨0,0⟩ = true:=rfl
   have E:=Lib.hid e
   clear e
   go_enter Tryz.func61,Tryz.ntmps61
   go_wp2_with fail
   go_ret
   exact ⟨by rw [E.out];rfl,f0⟩
  ·by_cases h3:R = 1
   ·subst h3
    have e:fixedS ⟨0,1⟩ = true:=rfl
    have E:=Lib.hid e
    clear e
    go_enter Tryz.func61,Tryz.ntmps61
    go_wp2_with fail
    go_ret
    exact ⟨by rw [E.out];rfl,f0⟩
   ·have e:fixedS ⟨0,R⟩ = false:=by simp [fixedS,h2,h3]
    have h2':(R == 0) = false:=by simpa using h2
    have h3':(R == 1) = false:=by simpa using h3
    have E:=Lib.hid e
    clear e
    go_enter Tryz.func61,Tryz.ntmps61
    go_wp2_with fail
    go_ret
    exact ⟨by rw [E.out];rfl,f0⟩
 ·have e:fixedS ⟨T,R⟩ = false:=by simp [fixedS,h1]
  have h1':(T == 0) = false:=by simpa using h1
  have E:=Lib.hid e
  clear e
  go_enter Tryz.func61,Tryz.ntmps61
  go_wp2_with fail
  go_ret
  exact ⟨by rw [E.out];rfl,f0⟩
/-! tables -/
@[irreducible] noncomputable def mkB (t:TypeId) (w:World) (fs:List (Nat × Value)):Result Next:=((Instr.build t fs.toArray).run Tryz.prog w).andThen (fun v w=>.ok (.value v) w)
theorem mkB_ok {t:TypeId} {w:World} {fs:List (Nat × Value)} {v:Value} (h:(Instr.build t fs.toArray).run Tryz.prog w = .ok v w):mkB t w fs = .ok (.value v) w:=by
 unfold mkB
 rw [h]
 rfl
theorem exB (ρ:Operand → Value) (o:Oper) (t:TypeId) (fs:Array (Nat × Operand)) (ho:o.op = .build t fs) (w:World):(execOp ρ o).run Tryz.prog w = mkB t w (fs.map fun (i,x)=>(i,ρ x)).toList:=by
 unfold execOp mkB
 simp only [ho,Sem.run_bind,Sem.run_pure,Array.toArray_toList]
theorem bldT_5 (w:World) (s t:St) (m:List UInt8) (x:ID) (A:Option Addr) (n c:Nat):(Instr.build 95 #[(0,.agg (codS.A s)),(1,.agg (codS.A t)),(2,.string (str m)),(3,encI x),(4,.slice A n c)]).run Tryz.prog w = .ok (.agg (codT.A ⟨s,t,m,x,A,n,c⟩)) w:=by
 have h1:∀ place:Nat → Option (Nat × Nat),place 0 = some (0,2) → place 1 = some (2,2) → place 2 = some (4,1) → place 3 = some (5,32) → place 4 = some (37,1) → Instr.fill place ([] ++ [Value.int .i64 0,Value.int .i64 0] ++ ([Value.int .i64 0,Value.int .i64 0,Value.string (str [])] ++ bv zID.1 ++ [Value.slice none 0 0])).toArray [(0,.agg (codS.A s)),(1,.agg (codS.A t)),(2,.string (str m)),(3,encI x),(4,.slice A n c)] = some (codT.cs ⟨s,t,m,x,A,n,c⟩).toArray:=by
  intro place p0 p1 p2 p3 p4
  refine (fill_one place [] [.int .i64 0,.int .i64 0] ([Value.int .i64 0,Value.int .i64 0,Value.string (str [])] ++ bv zID.1 ++ [Value.slice none 0 0]) [.int .i64 s.T,.int .i64 s.R] 0 (.agg (codS.A s)) _ (by rw [A_SS];rfl) (by simpa using p0) rfl).trans ?_
  have e1:=fill_one place [.int .i64 s.T,.int .i64 s.R] [.int .i64 0,.int .i64 0] ([Value.string (str [])] ++ bv zID.1 ++ [Value.slice none 0 0]) [.int .i64 t.T,.int .i64 t.R] 1 (.agg (codS.A t)) [(2,.string (str m)),(3,encI x),(4,.slice A n c)] (by rw [A_SS];rfl) (by simpa using p1) rfl
  refine Eq.trans ?_ (e1.trans ?_)
  ·simp
  have e2:=fill_one place [.int .i64 s.T,.int .i64 s.R,.int .i64 t.T,.int .i64 t.R] [Value.string (str [])] (bv zID.1 ++ [Value.slice none 0 0]) [.string (str m)] 2 (.string (str m)) [(3,encI x),(4,.slice A n c)] rfl (by simpa using p2) rfl
  refine Eq.trans ?_ (e2.trans ?_)
  ·simp
  have e3:=fill_one place [.int .i64 s.T,.int .i64 s.R,.int .i64 t.T,.int .i64 t.R,.string (str m)] (bv zID.1) [Value.slice none 0 0] (bv x.1) 3 (encI x) [(4,.slice A n c)] (cellsI x) (by simpa [x.2] using p3) (by simp [x.2,zID])
  refine Eq.trans ?_ (e3.trans ?_)
  ·simp
  have e4:=fill_one place ([.int .i64 s.T,.int .i64 s.R,.int .i64 t.T,.int .i64 t.R,.string (str m)] ++ bv x.1) [Value.slice none 0 0] [] [.slice A n c] 4 (.slice A n c) [] rfl (by simpa [x.2] using p4) rfl
  refine Eq.trans ?_ (e4.trans ?_)
  ·simp
  ·simp [Instr.fill,codT,csT]
 have hz:(zeroValue 95).run Tryz.prog w = .ok (.agg (codT.cs codT.z).toArray) w:=okT.zero w
 have hc:(Value.agg (codT.cs codT.z).toArray).cells = ([] ++ [Value.int .i64 0,Value.int .i64 0] ++ ([Value.int .i64 0,Value.int .i64 0,Value.string (str [])] ++ bv zID.1 ++ [Value.slice none 0 0])).toArray:=rfl
 have hsI:∀ w,(sizeOf 33).run Tryz.prog w = .ok 32 w:=fun w=>Tryz.sizeOf33 w
 simp only [Instr.build,Sem.run_bind,hz,Result.andThen_ok,run_underlying Tryz.underlying95,hc]
 simp only [List.mapM_toArray,List.mapM_cons,List.mapM_nil,Sem.run_bind,hsI,Tryz.sizeOf9,Tryz.sizeOf55,Tryz.sizeOf24,Result.andThen_ok,Sem.run_pure,Sem.run_map,map_pure,bind_pure_comp]
 rw [h1 _ rfl rfl rfl rfl rfl]
 simp [Cod.A_eq]
/-! the rules of the walk -/
@[simp ↓] theorem ex_bldT5 (ρ:Operand → Value) (x0 x1 x2 x3 x4:Operand) (d:Option Nat) (t:TypeId) (p:String) (f:Array Edge) (g:Option (Nat × Bool)) (w:World) :
  (execOp ρ { dst:=d,op:=.build 95 #[(0,x0),(1,x1),(2,x2),(3,x3),(4,x4)],type:=t,pos:=p,after:=f,guard:=g }).run Tryz.prog w = mkB 95 w [(0,ρ x0),(1,ρ x1),(2,ρ x2),(3,ρ x3),(4,ρ x4)]:=(exB ρ _ _ _ rfl w).trans (by simp only [List.map_toArray,List.map_cons,List.map_nil])
@[simp] theorem mkB_T5 (w:World) (s t:St) (m:List UInt8) (x:ID) (A:Option Addr) (n c:Nat):mkB 95 w [(0,.agg (codS.A s)),(1,.agg (codS.A t)),(2,.string (str m)),(3,encI x),(4,.slice A n c)] = .ok (.value (.agg (codT.A ⟨s,t,m,x,A,n,c⟩))) w:=mkB_ok (bldT_5 w s t m x A n c)
theorem ex_bldT5_at {ρ:Operand → Value} {o:Oper} {x0 x1 x2 x3 x4:Operand} {w:World} {s t:St} {m:List UInt8} {x:ID} {A:Option Addr} {n c:Nat} (ho:o.op = .build 95 #[(0,x0),(1,x1),(2,x2),(3,x3),(4,x4)]) (h0:ρ x0 = .agg (codS.A s)) (h1:ρ x1 = .agg (codS.A t)) (h2:ρ x2 = .string (str m)) (h3:ρ x3 = encI x) (h4:ρ x4 = .slice A n c) :
  (execOp ρ o).run Tryz.prog w = .ok (.value (.agg (codT.A ⟨s,t,m,x,A,n,c⟩))) w:=by
 rw [exB ρ o _ _ ho w]
 simp only [List.map_toArray,List.map_cons,List.map_nil,h0,h1,h2,h3,h4]
 exact mkB_T5 w s t m x A n c
@[go_sem] theorem hs_eq_nil (w:World) (a:Option Addr) (n c:Nat):(binOp .eql 55 (.slice a n c) (.slice none 0 0)).run Tryz.prog w = .ok (.bool a.isNone) w :=
 Lib.run_eql_slice_nil w _ _ a n c 0 0 Tryz.underlying55
def NewHs (w:World) (l:List Hd) (e:Ending) (w':World):Prop:=∃ A c,e = .returned (.slice A l.length c) ∧ OwnC codH w w' A c l ∧ Fr noB w w'
set_option maxRecDepth 100000 in
theorem clHeads_any (w:World) (A:Option Addr) (c:Nat) (l:List Hd) (n:Nat) (hn:l.length = n) (hs:Sl w A (codH.row l)) (hb:l.length ≤ 2932031007402) :
  Calls Tryz.prog 63 #[.slice A n c] w (NewHs w l):=by
 subst hn
 rcases A with _ | ad
 ·have hl:l = []:=by
   cases l with
   | nil=>rfl
   | cons b t=>obtain ⟨g,off,h,_⟩:=hs (Cod.row_ne (by simp));cases h
  subst hl
  go_enter Tryz.func63,Tryz.ntmps63
  go_wp2
  go_ret
  exact ⟨none,0,rfl,World.ownsRow_nil _ _ _ _,Fr.refl _ _⟩
 ·have hown:=World.ownsRow_lit (base:=w.heap.size) (e:=78) (size:=34) w #[] 0 (Nat.le_refl _) (by simp [maxLen]) rfl
  have hs1:Sl (w.alloc (.cells #[] 78)) (some ad) (codH.row l):=hs.fr0 ((Fr.refl noB w).alloc _)
  go_enter Tryz.func63,Tryz.ntmps63
  go_wp2_with (at_builtin;refine wpList_app _ etH rfl _ _ rfl w.heap.size _ _ _ rfl hown (some ad) l.length c (codH.row l) rfl hs1 (Cod.row_len l) (Cod.row_one l) (by omega) (by simp) ?_;intro v' w1 h1 h2 h3)
  go_ret
  obtain ⟨A',c',rfl,_,_⟩:=own_form h1
  simp only [Nat.zero_add,List.nil_append] at h1
  exact ⟨A',c',by simp,h1,((Fr.refl noB w).alloc _).stepG (r:=some w.heap.size) h2 (by intro g hg;injection hg with hg;omega)⟩
def ItTo (w:World) (r:RwW) (sub:ID) (hs:List Hd) (e:Ending) (w':World):Prop:=∃ A c,e = .returned (.agg (codT.A ⟨r.Node,r.At,r.Name,sub,A,r.n,c⟩)) ∧ Sl w' A (codH.row hs) ∧ Fr noB w w'
set_option maxRecDepth 100000 in
set_option maxHeartbeats 1000000 in
theorem nitem_any (w:World) (r:RwW) (sub:ID) (hs:List Hd) (hn:hs.length = r.n) (hl:Sl w r.A (codH.row hs)) (hb:hs.length ≤ 2932031007402):Calls Tryz.prog 90 #[.agg (codR.A r),encI sub] w (ItTo w r sub hs):=by
 have fa:Fr noB w (w.alloc (.cells (codR.A r) 60)):=(Fr.refl noB w).alloc _
 have fb:Fr noB (w.alloc (.cells (codR.A r) 60)) ((w.alloc (.cells (codR.A r) 60)).alloc (ido sub)):=(Fr.refl noB _).alloc _
 have fc:Fr noB ((w.alloc (.cells (codR.A r) 60)).alloc (ido sub)) (((w.alloc (.cells (codR.A r) 60)).alloc (ido sub)).alloc (codT.o zItW)):=(Fr.refl noB _).alloc _
 have q:=rwAt (Cod.rd_fr0 (Cod.rd_new (C:=codR) w 60 r) (fb.step0 fc))
 have z1:(w.alloc (.cells (codR.A r) 60)).heap.size = w.heap.size + 1:=by simp
 have z2:((w.alloc (.cells (codR.A r) 60)).alloc (ido sub)).heap.size = w.heap.size + 2:=by simp
 have i1:rdI (((w.alloc (.cells (codR.A r) 60)).alloc (ido sub)).alloc (codT.o zItW)) (w.heap.size + 1) 0 = some sub:=by
  have:=rdI_new (w.alloc (.cells (codR.A r) 60)) sub
  rw [z1] at this
  exact rdI_fr this (rdI_lt this) fc (by simp [noB])
 have b1:=Cod.bxd_new (C:=codT) ((w.alloc (.cells (codR.A r) 60)).alloc (ido sub)) zItW
 rw [z2] at b1
 have f0:=(fa.step0 fb).step0 fc
 clear fa fb fc z1 z2
 have HN:=Lib.hid hn
 clear hn
 go_enter Tryz.func90,Tryz.ntmps90
 go_upto_region 1 with fail
 generalize ((w.alloc (.cells (codR.A r) 60)).alloc (ido sub)).alloc (codT.o zItW) = W0 at q i1 b1 f0 ⊢
 obtain ⟨P,hP⟩:∃ x,x = w.heap.size:=⟨_,rfl⟩
 rw [← hP] at q i1 b1 ⊢
 have HP:=Lib.hid hP
 clear hP
 obtain ⟨q1,q2,q3,q4,q5,q6⟩:=q
 clear q2 q6
 replace hl:=hl.fr0 f0
 have hk:∀ w' w'':World,Fr noB w' w'' → (codS.rd w' P 0 = some r.Node ∧ codS.rd w' P 4 = some r.At ∧ w'.cell? ⟨P,6,none⟩ = some (.string (str r.Name)) ∧ w'.cell? ⟨P,7,none⟩ = some (.slice r.A r.n r.c) ∧ rdI w' (P + 1) 0 = some sub) → (codS.rd w'' P 0 = some r.Node ∧ codS.rd w'' P 4 = some r.At ∧ w''.cell? ⟨P,6,none⟩ = some (.string (str r.Name)) ∧ w''.cell? ⟨P,7,none⟩ = some (.slice r.A r.n r.c) ∧ rdI w'' (P + 1) 0 = some sub) :=
  fun w' w'' f h=>⟨Cod.rd_fr0 h.1 f,Cod.rd_fr0 h.2.1 f,cell_fr0 h.2.2.1 f,cell_fr0 h.2.2.2.1 f,rdI_fr h.2.2.2.2 (rdI_lt h.2.2.2.2) f (by simp [noB])⟩
 refine wp_region_M 11 12 [⟨32,4,0⟩,⟨64,32,1⟩,⟨128,4,0⟩,⟨256,128,4⟩,⟨512,4,0⟩,⟨1024,512,16⟩,⟨2048,8,0⟩,⟨4096,4,0⟩,⟨8192,4096,128⟩,⟨16384,8192,256⟩,⟨32768,19776,618⟩,⟨0,32784,2047⟩] [(true,0),(true,1),(true,2),(true,3),(true,4),(true,5),(true,6),(true,7),(true,8),(false,9),(true,10)] (fun w'=>codS.rd w' P 0 = some r.Node ∧ codS.rd w' P 4 = some r.At ∧ w'.cell? ⟨P,6,none⟩ = some (.string (str r.Name)) ∧ w'.cell? ⟨P,7,none⟩ = some (.slice r.A r.n r.c) ∧ rdI w' (P + 1) 0 = some sub) (by kernel_rfl) rfl (by kernel_rfl) (by kernel_rfl) (by kernel_rfl) (hk _ _ ((Fr.refl noB W0).drew) ⟨q1,q3,q4,q5,i1⟩) (fun hA hF=>?_)
 iterate 9
  refine wpAnyS_take (v:=?_) hA rfl (fun _ _ _ h=>h) (Or.inl ⟨by rfl,?_⟩) hF (fun hA=>?_)
  rotate_left
  ·intro wS hSw;(try dsimp only at hSw);obtain ⟨s1,s2,s3,s4,s5⟩:=hSw;first | (apply Eq.trans;apply ex_ld_id;exact rfl;exact rfl;assumption;with_reducible rfl) | (apply Eq.trans;apply ex_ldS_at;exact rfl;exact rfl;assumption;with_reducible rfl) | (apply Eq.trans;apply ex_bldT5_at;exact rfl;exact rfl;exact rfl;exact rfl;exact rfl;exact rfl;with_reducible rfl) | (go_simp;try with_reducible rfl)
  try simp only [sA1,sA2,sA3,Act.put,sA4,sA5,sA6]
 refine wpAnyS_one hA rfl (fun K' hK=>?_)
 go_simp
 go_at_call 63
 refine (clHeads_any _ r.A r.c hs r.n HN.out (hl.fr0 ((Fr.refl noB W0).drew)) hb).mono ?_
 rintro e w2 ⟨A2,c2,rfl,ho2,f2⟩
 have sl2:=Sl.own ho2
 have hlen:=HN.out
 rw [hlen]
 replace hF:=hk _ _ f2 hF
 refine hK.out _ _ hF (fun hA=>?_)
 clear hK K'
 as_aux_lemma =>
 refine wpAnyS_take (v:=?_) hA rfl (fun _ _ _ h=>h) (Or.inl ⟨by rfl,?_⟩) hF (fun hA=>?_)
 rotate_left
 ·intro wS hSw;(try dsimp only at hSw);obtain ⟨s1,s2,s3,s4,s5⟩:=hSw;first | (apply Eq.trans;apply ex_ld_id;exact rfl;exact rfl;assumption;with_reducible rfl) | (apply Eq.trans;apply ex_ldS_at;exact rfl;exact rfl;assumption;with_reducible rfl) | (apply Eq.trans;apply ex_bldT5_at;exact rfl;exact rfl;exact rfl;exact rfl;exact rfl;exact rfl;with_reducible rfl) | (go_simp;try with_reducible rfl)
 try simp only [sA1,sA2,sA3,Act.put,sA4,sA5,sA6]
 refine wpAnyS_end hA rfl ?_
 simp only [List.drop_succ_cons,List.drop_zero]
 clear hF hk
 have b2:=Cod.bxd_fr0 (Cod.bxd_fr0 b1 ((Fr.refl noB W0).drew)) f2
 have hst:=okT.stR_box b2 ⟨r.Node,r.At,r.Name,sub,A2,r.n,c2⟩
 obtain ⟨p1,p2,p3⟩:=Cod.put_fr b2 ⟨r.Node,r.At,r.Name,sub,A2,r.n,c2⟩
 have gz:=(f0.step0 ((Fr.refl noB W0).drew)).step0 f2
 have sl3:Sl (codT.put w2 (P + 2) ⟨r.Node,r.At,r.Name,sub,A2,r.n,c2⟩) A2 (codH.row hs):=Sl.own (own_box (Cod.bxd_blk b2) ho2 (by decide) p1)
 go_wp2_with fail
 refine bodyPost_ret (ret_row okT rfl _ _ (P + 2) ⟨r.Node,r.At,r.Name,sub,A2,r.n,c2⟩ (by rfl) p3) rfl ?_
 exact ⟨A2,c2,rfl,sl3,gz.step1 p1 (by have:=HP.out;omega)⟩
theorem RwIn.item {w:World} {r:RwW} {x:RwP} (h:RwIn w r x) {A:Option Addr} {c:Nat} {w':World} (hs:Sl w' A (codH.row x.Heads)):ItsIn w' [⟨r.Node,r.At,r.Name,zID,A,r.n,c⟩] [itR x zID] :=
 ⟨rfl,fun i h1 h2=>by
  have hi:i = 0:=by simp at h1;omega
  subst hi
  refine ⟨?_,h.len,hs,h.bd,h.nm⟩
  show itR x zID = itOf _ x.Heads
  unfold itR itOf
  simp only [h.node,h.at_,h.name]
  rfl⟩
set_option maxRecDepth 100000 in
set_option maxHeartbeats 2000000 in
theorem nrow_any (w:World) (r:RwW) (x:RwP) (h:RwIn w r x) (hb:x.Heads.length ≤ 2932031007402):Calls Tryz.prog 60 #[.agg (codR.A r)] w (Gives w (.bool (rightR x))):=by
 have f0:Fr noB w (w.alloc (.cells (codR.A r) 60)):=(Fr.refl noB w).alloc _
 have q:=rwAt (Cod.rd_new (C:=codR) w 60 r)
 have hP:w.heap.size < (w.alloc (.cells (codR.A r) 60)).heap.size:=by simp
 have H:=Lib.hid (h.fr f0)
 have HM:=Lib.hid (show rightR x = (rightDr [itR x zID] && decide (x.Node ≠ lastS)) from rfl)
 have HND:=Lib.hid h.node
 clear h
 go_enter Tryz.func60,Tryz.ntmps60
 go_upto_region 1 with fail
 generalize w.alloc (.cells (codR.A r) 60) = W0 at f0 q H hP ⊢
 obtain ⟨P,hP'⟩:∃ x,x = w.heap.size:=⟨_,rfl⟩
 rw [← hP'] at q hP ⊢
 clear hP'
 obtain ⟨q1,q2,q3,q4,q5,q6⟩:=q
 clear q2 q3 q4 q5
 go_upto_region 2 with (first
  | (go_at_call 90;refine (nitem_any W0 r zID x.Heads H.out.len H.out.sl hb).mono ?_;rintro e w2 ⟨A2,c2,rfl,sl2,f2⟩)
  | (go_at_call 89;refine (putDir_any _ (some ⟨w2.heap.size,0,none⟩) 1 1 [⟨r.Node,r.At,r.Name,zID,A2,r.n,c2⟩] [itR x zID] rfl (Cod.sl_new (C:=codT) w2 [⟨r.Node,r.At,r.Name,zID,A2,r.n,c2⟩]) (by simp) (H.out.item (sl2.fr0 ((Fr.refl noB w2).alloc _)))).mono ?_;rintro e w3 ⟨A3,c3,rfl,ho3,f3,hc3⟩))
 have f4:Fr noB W0 w3:=(f2.alloc _).step0 f3
 clear ho3 hc3 sl2
 replace q1:=Cod.rd_fr0 q1 f4
 have hPs:P < w3.heap.size:=Cod.rd_lt q1
 by_cases hr:rightDr [itR x zID] = true
 ·have hs:(putDr [itR x zID]).isSome = true:=by unfold putDr;rw [if_pos hr];rfl
  rw [if_pos hs]
  clear hs
  have C1:=fun wS:World=>last_any wS
  by_cases hl:r.Node = lastS
  ·have HE:=Lib.hid (show rightR x = false by rw [HM.out,HND.out,hl];simp)
   have hl':(decide (r.Node = lastS)) = true:=by simp [hl]
   clear hr HM hl
   refine wp_region_fr (by kernel_rfl) (by kernel_rfl) ?_
   iterate 5
    refine wpQ_take (v:=?_) (by rfl) (fun wS hS=>?_) ?_
    rotate_left
    ·obtain ⟨L1,L2,L3,L4,L5,L6⟩:=Fr.same hS;go_simp;try with_reducible rfl
    try simp only [sA1,sA2,sA3,Act.put,sA4,sA5,sA6]
   refine wpQ_call (by rfl) (fun wS hS=>⟨_,_,?qh58,Calls.fr hS (C1 _)⟩) ?qk58
   case qh58=>obtain ⟨L1,L2,L3,L4,L5,L6⟩:=Fr.same hS;go_simp;try with_reducible rfl
   try simp only [sA1,sA2,sA3,Act.put,sA4,sA5,sA6]
   iterate 3
    refine wpQ_take (v:=?_) (by rfl) (fun wS hS=>?_) ?_
    rotate_left
    ·obtain ⟨L1,L2,L3,L4,L5,L6⟩:=Fr.same hS;go_simp;try with_reducible rfl
    try simp only [sA1,sA2,sA3,Act.put,sA4,sA5,sA6]
   refine wpQ_nil ?_
   intro w1 f1
   go_wp2_with fail
   go_ret
   exact ⟨by rw [HE.out];rfl,(f0.step0 f4).step0 f1⟩
  ·have HE:=Lib.hid (show rightR x = true by rw [HM.out,HND.out,hr];simp [hl])
   clear hr HM
   refine wp_region_fr (by kernel_rfl) (by kernel_rfl) ?_
   iterate 5
    refine wpQ_take (v:=?_) (by rfl) (fun wS hS=>?_) ?_
    rotate_left
    ·obtain ⟨L1,L2,L3,L4,L5,L6⟩:=Fr.same hS;go_simp;try with_reducible rfl
    try simp only [sA1,sA2,sA3,Act.put,sA4,sA5,sA6]
   refine wpQ_call (by rfl) (fun wS hS=>⟨_,_,?qh79,Calls.fr hS (C1 _)⟩) ?qk79
   case qh79=>obtain ⟨L1,L2,L3,L4,L5,L6⟩:=Fr.same hS;go_simp;try with_reducible rfl
   try simp only [sA1,sA2,sA3,Act.put,sA4,sA5,sA6]
   iterate 3
    refine wpQ_take (v:=?_) (by rfl) (fun wS hS=>?_) ?_
    rotate_left
    ·obtain ⟨L1,L2,L3,L4,L5,L6⟩:=Fr.same hS;go_simp;try with_reducible rfl
    try simp only [sA1,sA2,sA3,Act.put,sA4,sA5,sA6]
   refine wpQ_nil ?_
   intro w1 f1
   go_wp2_with fail
   go_ret
   exact ⟨by rw [HE.out];rfl,(f0.step0 f4).step0 f1⟩
 ·have hs:¬ (putDr [itR x zID]).isSome = true:=by unfold putDr;rw [if_neg hr];decide
  rw [if_neg hs]
  clear hs
  have HE:=Lib.hid (show rightR x = false by rw [HM.out];simp [hr])
  clear hr HM
  refine wp_region_fr (by kernel_rfl) (by kernel_rfl) ?_
  iterate 3
   refine wpQ_take (v:=?_) (by rfl) (fun wS hS=>?_) ?_
   rotate_left
   ·obtain ⟨L1,L2,L3,L4,L5,L6⟩:=Fr.same hS;go_simp;try with_reducible rfl
   try simp only [sA1,sA2,sA3,Act.put,sA4,sA5,sA6]
  iterate 4
   refine wpQ_off (by rfl) ?_
   try simp only [sA1,sA2,sA3,Act.put,sA4,sA5,sA6]
  iterate 2
   refine wpQ_take (v:=?_) (by rfl) (fun wS hS=>?_) ?_
   rotate_left
   ·obtain ⟨L1,L2,L3,L4,L5,L6⟩:=Fr.same hS;go_simp;try with_reducible rfl
   try simp only [sA1,sA2,sA3,Act.put,sA4,sA5,sA6]
  refine wpQ_nil ?_
  intro w1 f1
  go_wp2_with fail
  go_ret
  exact ⟨by rw [HE.out];rfl,(f0.step0 f4).step0 f1⟩
theorem CodOk.stR_new1 {α:Type} {C:Cod α} (H:CodOk Tryz.prog C) (w:World) (ob:Obj) (x y:α):C.stR ((w.alloc ob).alloc (C.o y)) (.pointer (some ⟨w.heap.size + 1,0,none⟩)) (.agg (C.A x)) = .ok .skip ((w.alloc ob).alloc (C.o x)):=by
 have h:=H.stR_new (w.alloc ob) x y
 rwa [World.size_alloc] at h
/-! sameData -/
end Go.Proofs.YthehiobacjjakaaGreatDoor
