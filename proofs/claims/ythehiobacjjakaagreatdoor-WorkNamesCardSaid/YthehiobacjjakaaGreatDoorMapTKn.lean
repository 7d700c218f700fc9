/- Maps with stamps as keys, read by a function: facts on it are rewrite rules of the walk. -/
import Derived.Test.YthehiobacjjakaaGreatDoorRowCKn
import Derived.Test.YthehiobacjjakaaGreatDoorMapRKn
import Derived.Test.YthehiobacjjakaaGreatDoorBoxOKn
import Derived.DeepKeys4
import Derived.WideLaws
set_option linter.unusedVariables false
set_option linter.unusedSimpArgs false
namespace Go.Proofs.YthehiobacjjakaaGreatDoor
open Go.RowKit Go.Maps Go.Sort
theorem laidOutP:laidOutB Tryz.prog = true:=by kernel_rfl
abbrev KS:={ s:St // wfS s = true }
abbrev encK (k:KS):Value:=.agg (codS.A k.1)
theorem wf_lit {k:Int} (h1 : -9223372036854775808 ≤ k) (h2:k ≤ 9223372036854775807):(Lit.int .i64 k).wf = true:=by
 simp only [Lit.wf]
 have e1:IntKind.i64.min = -9223372036854775808:=rfl
 have e2:IntKind.i64.max = 9223372036854775807:=rfl
 rw [e1,e2]
 simp [h1,h2]
theorem keyK_good (x:KS):∃ l,keyOf Tryz.prog 24 (encK x) = some l:=by
 have h1:Tryz.prog.keyType 24 = true:=by kernel_rfl
 have h2:Tryz.prog.cellsOf 24 = 2:=by kernel_rfl
 have h3:Tryz.prog.cellsOf 2 = 1:=by kernel_rfl
 have h3':Tryz.prog.cellsOf 3 = 1:=by kernel_rfl
 have hw:=x.2
 unfold wfS at hw
 simp only [Bool.and_eq_true,decide_eq_true_eq] at hw
 have w1:=wf_lit hw.1.1.1 hw.1.1.2
 have w2:=wf_lit hw.1.2 hw.2
 have h4:(encK x).formed Tryz.prog 24 = true:=by
  simp [Value.formed,Tryz.underlying24,h2,Cod.A_eq,codS,csS]
 have hs:∃ d,Tryz.prog.types.size = d + 1:=⟨Tryz.prog.types.size - 1,by
  have:0 < Tryz.prog.types.size:=of_decide_eq_true (by kernel_rfl)
  omega⟩
 obtain ⟨d,hd⟩:=hs
 have k1:Tryz.prog.keyLits (d + 1) 2 [.int .i64 x.1.T] = some [.int .i64 x.1.T]:=by
  simp [Program.keyLits,Tryz.underlying2,w1]
 have k2:Tryz.prog.keyLits (d + 1) 3 [.int .i64 x.1.R] = some [.int .i64 x.1.R]:=by
  simp [Program.keyLits,Tryz.underlying3,w2]
 have hk:∃ ls,Tryz.prog.keyLits (Tryz.prog.types.size + 1) 24 (encK x).cells.toList = some ls:=by
  have hc:(encK x).cells.toList = [.int .i64 x.1.T,.int .i64 x.1.R]:=by simp [Value.cells,Cod.A_eq,codS,csS]
  rw [hc,hd]
  unfold Program.keyLits
  rw [Tryz.underlying24]
  simp [h2,h3,h3',k1,k2]
 obtain ⟨ls,hls⟩:=hk
 unfold keyOf
 rw [Tryz.underlying24]
 simp only [h1,h4,Bool.and_self,if_true]
 rw [hls]
 exact ⟨_,rfl⟩
theorem keyK:KeyE Tryz.prog 24 encK where
 K:=Keyed.of_law (deep_law_laid laidOutP (m:=8) (by decide) (of_decide_eq_true (by kernel_rfl)) (by kernel_rfl) (by kernel_rfl))
 good:=keyK_good
 inj:=fun a b h=>Subtype.ext (Cod.v_inj (C:=codS) h)
def upK (kv:List (KS × Value)):List (St × Value):=kv.map fun p=>(p.1.1,p.2)
theorem look_upK (kv:List (KS × Value)) (k:KS):look (upK kv) k.1 = look kv k:=by
 induction kv with
 | nil=>rfl
 | cons p kv ih =>
  unfold look upK at ih ⊢
  rw [List.map_cons,List.find?_cons,List.find?_cons]
  by_cases h:p.1 = k
  ·simp [h]
  ·have h':p.1.1 ≠ k.1:=fun e=>h (Subtype.ext e)
   simp only [h,h',decide_false]
   exact ih
theorem putL_upK (kv:List (KS × Value)) (k:KS) (v:Value):putL (upK kv) k.1 v = upK (putL kv k v):=by
 unfold putL
 rw [look_upK]
 split
 ·unfold upK
  rw [List.map_map,List.map_map]
  refine List.map_congr_left fun p _=>?_
  simp only [Function.comp_apply]
  by_cases h:p.1 = k
  ·simp [h]
  ·have h':p.1.1 ≠ k.1:=fun e=>h (Subtype.ext e)
   simp [h,h']
 ·simp [upK]
theorem MapL.uniqK {w:World} {r:Nat} {a b:List (KS × Value)} (ha:MapL encK w r a) (hb:MapL encK w r b):a = b:=by
 obtain ⟨es,c,h1,e1⟩:=ha
 obtain ⟨es',c',h2,e2⟩:=hb
 rw [h1] at h2
 injection h2 with h2
 injection h2 with h2 _
 subst h2
 have h:=e1.is.symm.trans e2.is
 have inj:∀ (p q:KS × Value),(encK p.1,p.2) = (encK q.1,q.2) → p = q:=by
  intro p q e
  simp only [Prod.mk.injEq] at e
  exact Prod.ext (keyK.inj _ _ e.1) e.2
 clear e1 e2 h1
 induction a generalizing b with
 | nil=>cases b with
  | nil=>rfl
  | cons q b=>simp at h
 | cons p a ih=>cases b with
  | nil=>simp at h
  | cons q b =>
   simp only [List.map_cons,List.cons.injEq] at h
   rw [inj p q h.1,ih h.2]
open Classical in
noncomputable def mpT (w:World) (r:Nat):Option (List (St × Value)):=if h:∃ kv,MapL encK w r kv then some (upK h.choose) else none
theorem MapL.mpT {w:World} {r:Nat} {kv:List (KS × Value)} (h:MapL encK w r kv):mpT w r = some (upK kv):=by
 unfold Go.Proofs.YthehiobacjjakaaGreatDoor.mpT
 have hx:∃ x,MapL encK w r x:=⟨kv,h⟩
 rw [dif_pos hx]
 exact congrArg (fun x=>some (upK x)) (hx.choose_spec.uniqK h)
theorem mpT_mp {w:World} {r:Nat} {kv:List (St × Value)} (h:mpT w r = some kv):∃ kv',kv = upK kv' ∧ MapL encK w r kv':=by
 unfold mpT at h
 split at h
 ·rename_i hx
  injection h with h
  exact ⟨_,h.symm,hx.choose_spec⟩
 ·cases h
theorem mpT_lt {w:World} {r:Nat} {kv:List (St × Value)} (h:mpT w r = some kv):r < w.heap.size:=by
 obtain ⟨_,_,h⟩:=mpT_mp h
 exact h.lt
theorem mpT_keep {w w':World} {r:Nat} (hb:w'.heap[r]? = w.heap[r]?):mpT w' r = mpT w r:=by
 cases hx:mpT w r with
 | some x =>
  obtain ⟨kv,rfl,es,c,h1,h2⟩:=mpT_mp hx
  exact MapL.mpT ⟨es,c,hb.trans h1,h2⟩
 | none =>
  cases hy:mpT w' r with
  | none=>rfl
  | some y =>
   obtain ⟨kv,rfl,es,c,h1,h2⟩:=mpT_mp hy
   rw [MapL.mpT ⟨es,c,hb.symm.trans h1,h2⟩] at hx;cases hx
theorem mpT_fr {M:Nat → Prop} {w w':World} {r:Nat} {kv:List (St × Value)} (h:mpT w r = some kv) (f:Fr M w w') (hM:¬ M r):mpT w' r = some kv:=(mpT_keep (f.block r (mpT_lt h) hM)).trans h
theorem mpT_fr0 {w w':World} {r:Nat} {kv:List (St × Value)} (h:mpT w r = some kv) (f:Fr noB w w'):mpT w' r = some kv:=mpT_fr h f (by simp [noB])
@[simp] theorem mpT_new (w:World):mpT (w.alloc (.map #[] 0)) w.heap.size = some []:=(MapL.new encK w).mpT
theorem mpT_blk {w:World} {r:Nat} {kv:List (St × Value)} (h:mpT w r = some kv):∃ es c,w.heap[r]? = some (.map es c):=by
 obtain ⟨kv,rfl,es,c,h1,_⟩:=mpT_mp h
 exact ⟨es,c,h1⟩
theorem mpT_cell {w:World} {r:Nat} {kv:List (St × Value)} (h:mpT w r = some kv) (o:Nat) (f:Option Nat):w.cell? ⟨r,o,f⟩ = none:=by
 obtain ⟨es,c,h1⟩:=mpT_blk h
 cases f <;> simp [World.cell?,h1]
theorem mpT_ne {w:World} {r:Nat} {kv:List (St × Value)} (h:mpT w r = some kv) {g:Nat} {t:TypeId} {cs:Array Value} {z:Nat × Nat} (hb:w.heap[g]? = some (.cells cs t z)):g ≠ r:=by
 rintro rfl
 obtain ⟨es,c,h1⟩:=mpT_blk h
 rw [h1] at hb;cases hb
theorem Sl.ne_map {w:World} {g off:Nat} {l:List Value} (h:Sl w (some ⟨g,off,none⟩) l) (hl:l ≠ []) {r:Nat} {kv:List (St × Value)} (hm:mpT w r = some kv):g ≠ r:=by
 rintro rfl
 obtain ⟨g',off',e,_,hc⟩:=h hl
 injection e with e
 injection e with e1 e2
 subst e1
 have hpos:=List.length_pos_iff.2 hl
 have:=hc 0 _ (List.getElem?_eq_getElem hpos)
 rw [mpT_cell hm] at this
 cases this
open Classical in
noncomputable def mputT (t:TypeId) (w:World) (r:Nat) (x:St) (v:Value):World :=
 if h:∃ w2,(Instr.mapUpdate t (.map (some r)) (.agg (codS.A x)) v).run Tryz.prog w = .ok () w2 then h.choose else w
theorem mputT_all {t E:TypeId} (ht:Tryz.prog.underlying t = some (.map 24 E)) {w:World} {r:Nat} {kv:List (St × Value)} (h:mpT w r = some kv) {x:St} (hx:wfS x = true) (v:Value) :
  (Instr.mapUpdate t (.map (some r)) (.agg (codS.A x)) v).run Tryz.prog w = .ok () (mputT t w r x v) ∧ mpT (mputT t w r x v) r = some (putL kv x v) ∧ Fr (oneB r) w (mputT t w r x v) ∧ (mputT t w r x v).heap.size = w.heap.size:=by
 obtain ⟨kv,rfl,hm⟩:=mpT_mp h
 obtain ⟨w2,h1,h2,h3,h4⟩:=hm.put keyK ht ⟨x,hx⟩ v
 have e:mputT t w r x v = w2:=by
  unfold mputT
  have hx:∃ w2,(Instr.mapUpdate t (.map (some r)) (.agg (codS.A x)) v).run Tryz.prog w = .ok () w2:=⟨w2,h1⟩
  refine (dif_pos hx).trans ?_
  exact ((Result.ok.inj (h1.symm.trans hx.choose_spec)).2).symm
 rw [e]
 exact ⟨h1,by rw [putL_upK kv ⟨x,hx⟩ v];exact h2.mpT,h3,h4⟩
def RngT (w:World) (it r:Nat) (kv left:List (St × Value)):Prop:=∃ kv' left',RngL encK w it r kv' left' ∧ kv = upK kv' ∧ left = upK left'
theorem RngT.map {w:World} {it r:Nat} {kv left:List (St × Value)} (h:RngT w it r kv left):mpT w r = some kv:=by
 obtain ⟨kv',left',h,rfl,rfl⟩:=h
 exact h.map.mpT
@[simp] theorem mk_mapT (t:TypeId) (w:World):(Instr.makeMap t none).run Tryz.prog w = .ok (.map (some w.heap.size)) (w.alloc (.map #[] 0)):=rfl
theorem zeroStp (w:World):(zeroValue 24).run Tryz.prog w = .ok (.agg (codS.A zSt)) w:=okS.zv w
theorem zeroBl (w:World):(zeroValue 4).run Tryz.prog w = .ok (.bool false) w:=Tryz.zeroValue4 w
@[simp] theorem lkStSt (w:World) (r:Nat) (x:St):(Instr.lookup 105 (.map (some r)) (.agg (codS.A x)) false).run Tryz.prog w = match mpT w r with | some kv=>if wfS x = true then .ok ((look kv x).getD (.agg (codS.A zSt))) w else elseR ((Instr.lookup 105 (.map (some r)) (.agg (codS.A x)) false).run Tryz.prog w) | none=>elseR ((Instr.lookup 105 (.map (some r)) (.agg (codS.A x)) false).run Tryz.prog w):=by
 cases h:mpT w r with
 | none=>exact elseR_eq _
 | some kv =>
  simp only
  split
  ·rename_i hx
   obtain ⟨kv,rfl,hm⟩:=mpT_mp h
   rw [look_upK kv ⟨x,hx⟩]
   exact hm.look keyK Tryz.underlying105 (zeroStp w) ⟨x,hx⟩
  ·exact elseR_eq _
@[simp] theorem lkStSt_ok (w:World) (r:Nat) (x:St):(Instr.lookup 105 (.map (some r)) (.agg (codS.A x)) true).run Tryz.prog w = match mpT w r with | some kv=>if wfS x = true then .ok (.tuple #[(look kv x).getD (.agg (codS.A zSt)),.bool (look kv x).isSome]) w else elseR ((Instr.lookup 105 (.map (some r)) (.agg (codS.A x)) true).run Tryz.prog w) | none=>elseR ((Instr.lookup 105 (.map (some r)) (.agg (codS.A x)) true).run Tryz.prog w):=by
 cases h:mpT w r with
 | none=>exact elseR_eq _
 | some kv =>
  simp only
  split
  ·rename_i hx
   obtain ⟨kv,rfl,hm⟩:=mpT_mp h
   rw [look_upK kv ⟨x,hx⟩]
   exact hm.lookOk keyK Tryz.underlying105 (zeroStp w) ⟨x,hx⟩
  ·exact elseR_eq _
@[simp] theorem lkStB (w:World) (r:Nat) (x:St):(Instr.lookup 107 (.map (some r)) (.agg (codS.A x)) false).run Tryz.prog w = match mpT w r with | some kv=>if wfS x = true then .ok ((look kv x).getD (.bool false)) w else elseR ((Instr.lookup 107 (.map (some r)) (.agg (codS.A x)) false).run Tryz.prog w) | none=>elseR ((Instr.lookup 107 (.map (some r)) (.agg (codS.A x)) false).run Tryz.prog w):=by
 cases h:mpT w r with
 | none=>exact elseR_eq _
 | some kv =>
  simp only
  split
  ·rename_i hx
   obtain ⟨kv,rfl,hm⟩:=mpT_mp h
   rw [look_upK kv ⟨x,hx⟩]
   exact hm.look keyK Tryz.underlying107 (zeroBl w) ⟨x,hx⟩
  ·exact elseR_eq _
end Go.Proofs.YthehiobacjjakaaGreatDoor
