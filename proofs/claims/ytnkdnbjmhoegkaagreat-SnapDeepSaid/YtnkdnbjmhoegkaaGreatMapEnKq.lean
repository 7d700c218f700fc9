/- Maps with stamps as keys, read by a function: facts on it are rewrite rules of the walk. 'm[k] = append(m[k], ..)': the entry is made first (mapEntry), then stored into by its number (entryStore). -/
import Derived.Test.YtnkdnbjmhoegkaaGreatRowCKq
import Derived.Test.YtnkdnbjmhoegkaaGreatMapRKq
import Derived.Test.YtnkdnbjmhoegkaaGreatBoxOKq
import Derived.DeepKeys4
import Derived.WideLaws
set_option linter.unusedVariables false
set_option linter.unusedSimpArgs false
namespace Go.Proofs.YtnkdnbjmhoegkaaGreat
open Go.RowKit Go.Maps Go.Sort
theorem laidOutP:laidOutB Tryz.prog = true:=by kernel_rfl
abbrev KS:={ s:St // wfS s = true }
abbrev encK (k:KS):Value:=.agg (codS.A k.1)
theorem wf_lit {k:Int} (h1 : -9223372036854775808 ≤ k) (h2:k ≤ 9223372036854775807):(Lit.int .i64 k).wf = true:=by
 simp only [Lit.wf]
 have e1:IntKind.i64.min = -9223372036854775808:=rfl
 have e2:IntKind.i64.max = 9223372036854775807:=rfl
 rw [e1,e2]
 simp [h1,h2]
theorem keyK_good (x:KS):∃ l,keyOf Tryz.prog 24 (encK x) = some l:=by
 have h1:Tryz.prog.keyType 24 = true:=by kernel_rfl
 have h2:Tryz.prog.cellsOf 24 = 2:=by kernel_rfl
 have h3:Tryz.prog.cellsOf 2 = 1:=by kernel_rfl
 have h3':Tryz.prog.cellsOf 3 = 1:=by kernel_rfl
 have hw:=x.2
 unfold wfS at hw
 simp only [Bool.and_eq_true,decide_eq_true_eq] at hw
 have w1:=wf_lit hw.1.1.1 hw.1.1.2
 have w2:=wf_lit hw.1.2 hw.2
 have h4:(encK x).formed Tryz.prog 24 = true:=by
  simp [Value.formed,Tryz.underlying24,h2,Cod.A_eq,codS,csS]
 have hs:∃ d,Tryz.prog.types.size = d + 1:=⟨Tryz.prog.types.size - 1,by
  have:0 < Tryz.prog.types.size:=of_decide_eq_true (by kernel_rfl)
  omega⟩
 obtain ⟨d,hd⟩:=hs
 have k1:Tryz.prog.keyLits (d + 1) 2 [.int .i64 x.1.T] = some [.int .i64 x.1.T]:=by
  simp [Program.keyLits,Tryz.underlying2,w1]
 have k2:Tryz.prog.keyLits (d + 1) 3 [.int .i64 x.1.R] = some [.int .i64 x.1.R]:=by
  simp [Program.keyLits,Tryz.underlying3,w2]
 have hk:∃ ls,Tryz.prog.keyLits (Tryz.prog.types.size + 1) 24 (encK x).cells.toList = some ls:=by
  have hc:(encK x).cells.toList = [.int .i64 x.1.T,.int .i64 x.1.R]:=by simp [Value.cells,Cod.A_eq,codS,csS]
  rw [hc,hd]
  unfold Program.keyLits
  rw [Tryz.underlying24]
  simp [h2,h3,h3',k1,k2]
 obtain ⟨ls,hls⟩:=hk
 unfold keyOf
 rw [Tryz.underlying24]
 simp only [h1,h4,Bool.and_self,if_true]
 rw [hls]
 exact ⟨_,rfl⟩
theorem keyK:KeyE Tryz.prog 24 encK where
 K:=Keyed.of_law (deep_law_laid laidOutP (m:=8) (by decide) (of_decide_eq_true (by kernel_rfl)) (by kernel_rfl) (by kernel_rfl))
 good:=keyK_good
 inj:=fun a b h=>Subtype.ext (Cod.v_inj (C:=codS) h)
def upK (kv:List (KS × Value)):List (St × Value):=kv.map fun p=>(p.1.1,p.2)
theorem look_upK (kv:List (KS × Value)) (k:KS):look (upK kv) k.1 = look kv k:=by
 induction kv with
 | nil=>rfl
 | cons p kv ih =>
  unfold look upK at ih ⊢
  rw [List.map_cons,List.find?_cons,List.find?_cons]
  by_cases h:p.1 = k
  ·simp [h]
  ·have h':p.1.1 ≠ k.1:=fun e=>h (Subtype.ext e)
   simp only [h,h',decide_false]
   exact ih
theorem putL_upK (kv:List (KS × Value)) (k:KS) (v:Value):putL (upK kv) k.1 v = upK (putL kv k v):=by
 unfold putL
 rw [look_upK]
 split
 ·unfold upK
  rw [List.map_map,List.map_map]
  refine List.map_congr_left fun p _=>?_
  simp only [Function.comp_apply]
  by_cases h:p.1 = k
  ·simp [h]
  ·have h':p.1.1 ≠ k.1:=fun e=>h (Subtype.ext e)
   simp [h,h']
 ·simp [upK]
theorem MapL.uniqK {w:World} {r:Nat} {a b:List (KS × Value)} (ha:MapL encK w r a) (hb:MapL encK w r b):a = b:=by
 obtain ⟨es,c,h1,e1⟩:=ha
 obtain ⟨es',c',h2,e2⟩:=hb
 rw [h1] at h2
 injection h2 with h2
 injection h2 with h2 _
 subst h2
 have h:=e1.is.symm.trans e2.is
 have inj:∀ (p q:KS × Value),(encK p.1,p.2) = (encK q.1,q.2) → p = q:=by
  intro p q e
  simp only [Prod.mk.injEq] at e
  exact Prod.ext (keyK.inj _ _ e.1) e.2
 clear e1 e2 h1
 induction a generalizing b with
 | nil=>cases b with
  | nil=>rfl
  | cons q b=>simp at h
 | cons p a ih=>cases b with
  | nil=>simp at h
  | cons q b =>
   simp only [List.map_cons,List.cons.injEq] at h
   rw [inj p q h.1,ih h.2]
open Classical in
noncomputable def mpT (w:World) (r:Nat):Option (List (St × Value)):=if h:∃ kv,MapL encK w r kv then some (upK h.choose) else none
theorem MapL.mpT {w:World} {r:Nat} {kv:List (KS × Value)} (h:MapL encK w r kv):mpT w r = some (upK kv):=by
 unfold Go.Proofs.YtnkdnbjmhoegkaaGreat.mpT
 have hx:∃ x,MapL encK w r x:=⟨kv,h⟩
 rw [dif_pos hx]
 exact congrArg (fun x=>some (upK x)) (hx.choose_spec.uniqK h)
theorem mpT_mp {w:World} {r:Nat} {kv:List (St × Value)} (h:mpT w r = some kv):∃ kv',kv = upK kv' ∧ MapL encK w r kv':=by
 unfold mpT at h
 split at h
 ·rename_i hx
  injection h with h
  exact ⟨_,h.symm,hx.choose_spec⟩
 ·cases h
theorem mpT_lt {w:World} {r:Nat} {kv:List (St × Value)} (h:mpT w r = some kv):r < w.heap.size:=by
 obtain ⟨_,_,h⟩:=mpT_mp h
 exact h.lt
theorem mpT_keep {w w':World} {r:Nat} (hb:w'.heap[r]? = w.heap[r]?):mpT w' r = mpT w r:=by
 cases hx:mpT w r with
 | some x =>
  obtain ⟨kv,rfl,es,c,h1,h2⟩:=mpT_mp hx
  exact MapL.mpT ⟨es,c,hb.trans h1,h2⟩
 | none =>
  cases hy:mpT w' r with
  | none=>rfl
  | some y =>
   obtain ⟨kv,rfl,es,c,h1,h2⟩:=mpT_mp hy
   rw [MapL.mpT ⟨es,c,hb.symm.trans h1,h2⟩] at hx;cases hx
theorem mpT_fr {M:Nat → Prop} {w w':World} {r:Nat} {kv:List (St × Value)} (h:mpT w r = some kv) (f:Fr M w w') (hM:¬ M r):mpT w' r = some kv:=(mpT_keep (f.block r (mpT_lt h) hM)).trans h
theorem mpT_fr0 {w w':World} {r:Nat} {kv:List (St × Value)} (h:mpT w r = some kv) (f:Fr noB w w'):mpT w' r = some kv:=mpT_fr h f (by simp [noB])
@[simp] theorem mpT_drewN (w:World) (n r:Nat):mpT (w.drewN n) r = mpT w r:=mpT_keep rfl
@[simp] theorem mpT_new (w:World):mpT (w.alloc (.map #[] 0)) w.heap.size = some []:=(MapL.new encK w).mpT
theorem mpT_blk {w:World} {r:Nat} {kv:List (St × Value)} (h:mpT w r = some kv):∃ es c,w.heap[r]? = some (.map es c):=by
 obtain ⟨kv,rfl,es,c,h1,_⟩:=mpT_mp h
 exact ⟨es,c,h1⟩
theorem mpT_cell {w:World} {r:Nat} {kv:List (St × Value)} (h:mpT w r = some kv) (o:Nat) (f:Option Nat):w.cell? ⟨r,o,f⟩ = none:=by
 obtain ⟨es,c,h1⟩:=mpT_blk h
 cases f <;> simp [World.cell?,h1]
theorem mpT_ne {w:World} {r:Nat} {kv:List (St × Value)} (h:mpT w r = some kv) {g:Nat} {t:TypeId} {cs:Array Value} {z:Nat × Nat} (hb:w.heap[g]? = some (.cells cs t z)):g ≠ r:=by
 rintro rfl
 obtain ⟨es,c,h1⟩:=mpT_blk h
 rw [h1] at hb;cases hb
theorem Sl.ne_map {w:World} {g off:Nat} {l:List Value} (h:Sl w (some ⟨g,off,none⟩) l) (hl:l ≠ []) {r:Nat} {kv:List (St × Value)} (hm:mpT w r = some kv):g ≠ r:=by
 rintro rfl
 obtain ⟨g',off',e,_,hc⟩:=h hl
 injection e with e
 injection e with e1 e2
 subst e1
 have hpos:=List.length_pos_iff.2 hl
 have:=hc 0 _ (List.getElem?_eq_getElem hpos)
 rw [mpT_cell hm] at this
 cases this
open Classical in
noncomputable def mputT (t:TypeId) (w:World) (r:Nat) (x:St) (v:Value):World :=
 if h:∃ w2,(Instr.mapUpdate t (.map (some r)) (.agg (codS.A x)) v).run Tryz.prog w = .ok () w2 then h.choose else w
theorem mputT_all {t E:TypeId} (ht:Tryz.prog.underlying t = some (.map 24 E)) {w:World} {r:Nat} {kv:List (St × Value)} (h:mpT w r = some kv) {x:St} (hx:wfS x = true) (v:Value) :
  (Instr.mapUpdate t (.map (some r)) (.agg (codS.A x)) v).run Tryz.prog w = .ok () (mputT t w r x v) ∧ mpT (mputT t w r x v) r = some (putL kv x v) ∧ Fr (oneB r) w (mputT t w r x v) ∧ (mputT t w r x v).heap.size = w.heap.size:=by
 obtain ⟨kv,rfl,hm⟩:=mpT_mp h
 obtain ⟨w2,h1,h2,h3,h4⟩:=hm.put keyK ht ⟨x,hx⟩ v
 have e:mputT t w r x v = w2:=by
  unfold mputT
  have hx:∃ w2,(Instr.mapUpdate t (.map (some r)) (.agg (codS.A x)) v).run Tryz.prog w = .ok () w2:=⟨w2,h1⟩
  refine (dif_pos hx).trans ?_
  exact ((Result.ok.inj (h1.symm.trans hx.choose_spec)).2).symm
 rw [e]
 exact ⟨h1,by rw [putL_upK kv ⟨x,hx⟩ v];exact h2.mpT,h3,h4⟩
def RngT (w:World) (it r:Nat) (kv left:List (St × Value)):Prop:=∃ kv' left',RngL encK w it r kv' left' ∧ kv = upK kv' ∧ left = upK left'
theorem RngT.map {w:World} {it r:Nat} {kv left:List (St × Value)} (h:RngT w it r kv left):mpT w r = some kv:=by
 obtain ⟨kv',left',h,rfl,rfl⟩:=h
 exact h.map.mpT
@[simp] theorem mk_mapT (t:TypeId) (w:World):(Instr.makeMap t none).run Tryz.prog w = .ok (.map (some w.heap.size)) (w.alloc (.map #[] 0)):=rfl
noncomputable def lkElse (t:TypeId) (r:Nat) (x:St) (b:Bool) (w:World):Result Value:=(Instr.lookup t (.map (some r)) (.agg (codS.A x)) b).run Tryz.prog w
theorem zeroStp (w:World):(zeroValue 24).run Tryz.prog w = .ok (.agg (codS.A zSt)) w:=okS.zv w
theorem zeroBl (w:World):(zeroValue 4).run Tryz.prog w = .ok (.bool false) w:=Tryz.zeroValue4 w
@[simp] theorem lkStSt (w:World) (r:Nat) (x:St):(Instr.lookup 81 (.map (some r)) (.agg (codS.A x)) false).run Tryz.prog w = match mpT w r with | some kv=>if wfS x = true then .ok ((look kv x).getD (.agg (codS.A zSt))) w else lkElse 81 r x false w | none=>lkElse 81 r x false w:=by
 cases h:mpT w r with
 | none=>rfl
 | some kv =>
  simp only
  split
  ·rename_i hx
   obtain ⟨kv,rfl,hm⟩:=mpT_mp h
   rw [look_upK kv ⟨x,hx⟩]
   exact hm.look keyK Tryz.underlying81 (zeroStp w) ⟨x,hx⟩
  ·rfl
@[simp] theorem lkStSt_ok (w:World) (r:Nat) (x:St):(Instr.lookup 81 (.map (some r)) (.agg (codS.A x)) true).run Tryz.prog w = match mpT w r with | some kv=>if wfS x = true then .ok (.tuple #[(look kv x).getD (.agg (codS.A zSt)),.bool (look kv x).isSome]) w else lkElse 81 r x true w | none=>lkElse 81 r x true w:=by
 cases h:mpT w r with
 | none=>rfl
 | some kv =>
  simp only
  split
  ·rename_i hx
   obtain ⟨kv,rfl,hm⟩:=mpT_mp h
   rw [look_upK kv ⟨x,hx⟩]
   exact hm.lookOk keyK Tryz.underlying81 (zeroStp w) ⟨x,hx⟩
  ·rfl
@[simp] theorem lkStB (w:World) (r:Nat) (x:St):(Instr.lookup 68 (.map (some r)) (.agg (codS.A x)) false).run Tryz.prog w = match mpT w r with | some kv=>if wfS x = true then .ok ((look kv x).getD (.bool false)) w else lkElse 68 r x false w | none=>lkElse 68 r x false w:=by
 cases h:mpT w r with
 | none=>rfl
 | some kv =>
  simp only
  split
  ·rename_i hx
   obtain ⟨kv,rfl,hm⟩:=mpT_mp h
   rw [look_upK kv ⟨x,hx⟩]
   exact hm.look keyK Tryz.underlying68 (zeroBl w) ⟨x,hx⟩
  ·rfl
theorem zeroRws (w:World):(zeroValue 25).run Tryz.prog w = .ok (.slice none 0 0) w:=Tryz.zeroValue25 w
@[simp] theorem lkStRows (w:World) (r:Nat) (x:St):(Instr.lookup 53 (.map (some r)) (.agg (codS.A x)) false).run Tryz.prog w = match mpT w r with | some kv=>if wfS x = true then .ok ((look kv x).getD (.slice none 0 0)) w else lkElse 53 r x false w | none=>lkElse 53 r x false w:=by
 cases h:mpT w r with
 | none=>rfl
 | some kv =>
  simp only
  split
  ·rename_i hx
   obtain ⟨kv,rfl,hm⟩:=mpT_mp h
   rw [look_upK kv ⟨x,hx⟩]
   exact hm.look keyK Tryz.underlying53 (zeroRws w) ⟨x,hx⟩
  ·rfl
end Go.Proofs.YtnkdnbjmhoegkaaGreat
namespace Go.Proofs.YtnkdnbjmhoegkaaGreat
open Go.RowKit Go.Maps
def EnAt {κ:Type} (enc:κ → Value) (w:World) (r:Nat) (kv:List (κ × Value)) (k:κ) (born:Nat):Prop :=
 ∃ (es:Array MapEntry) (clock:Nat),w.heap[r]? = some (.map es clock) ∧ EntL enc es clock kv ∧ ∃ (j:Nat) (e:MapEntry),es.toList[j]? = some e ∧ e.key = enc k ∧ e.born = born
section
variable {κ:Type} {enc:κ → Value} {P:Program} {kt t E:TypeId} {w w':World} {r:Nat} {kv:List (κ × Value)}
theorem EnAt.map {k:κ} {b:Nat} (h:EnAt enc w r kv k b):MapL enc w r kv:=by
 obtain ⟨es,c,h1,h2,_⟩:=h
 exact ⟨es,c,h1,h2⟩
theorem EnAt.fr {M:Nat → Prop} {k:κ} {b:Nat} (h:EnAt enc w r kv k b) (f:Fr M w w') (hr:¬ M r):EnAt enc w' r kv k b:=by
 have hl:=h.map.lt
 obtain ⟨es,c,h1,h2⟩:=h
 exact ⟨es,c,by rw [f.block r hl hr];exact h1,h2⟩
variable [DecidableEq κ]
theorem MapL.entry (H:KeyE P kt enc) (h:MapL enc w r kv) (ht:P.underlying t = some (.map kt E)) {z:Value} (hz:(zeroValue E).run P w = .ok z w) (k:κ) :
  ∃ born w1,(Instr.mapEntry t (.map (some r)) (enc k)).run P w = .ok (.tuple #[(Go.Proofs.YtnkdnbjmhoegkaaGreat.look kv k).getD z,.int .i64 ((born:Nat):Int)]) w1 ∧ EnAt enc w1 r (if (Go.Proofs.YtnkdnbjmhoegkaaGreat.look kv k).isSome then kv else kv ++ [(k,z)]) k born ∧ Fr (oneB r) w w1 ∧ w1.heap.size = w.heap.size:=by
 obtain ⟨l,hl⟩:=H.good k
 have hlt:=h.lt
 obtain ⟨es,clock,hb,he⟩:=h
 rcases he.find H w k with ⟨f1,f2⟩ | ⟨j,e,f1,f2,f3,f4⟩
 ·obtain ⟨g1,g2,g3⟩:=frameMap hlt (.map (es.push ⟨enc k,z,clock⟩) (clock + 1))
  refine ⟨clock,_,?_,⟨_,_,g3,?_,es.size,⟨enc k,z,clock⟩,by simp,rfl,rfl⟩,g1,g2⟩
  ·rw [f2]
   simp [Instr.mapEntry,run_underlying ht,MapKept.run_getObj_map hb,H.K.check w false hl,f1,hz,MapKept.run_setObj_map _ hb,Result.andThen,ChangeMaps.setBlock,goInt]
  ·rw [f2]
   simp only [Option.isSome_none,Bool.false_eq_true,if_false]
   refine ⟨?_,?_,?_,?_⟩
   ·rw [Array.toList_push,List.map_append,List.map_append,he.is];rfl
   ·rw [List.map_append,List.nodup_append]
    refine ⟨he.nd,by simp,?_⟩
    intro a ha b hb' e
    simp only [List.map_cons,List.map_nil,List.mem_singleton] at hb'
    subst hb';subst e
    exact look_none.1 f2 ha
   ·rw [Array.toList_push,List.map_append,List.nodup_append]
    refine ⟨he.bn,by simp,?_⟩
    intro a ha b hb' e
    simp only [List.map_cons,List.map_nil,List.mem_singleton] at hb'
    subst hb';subst e
    obtain ⟨x,hx,hxe⟩:=List.mem_map.1 ha
    have:=he.bl x hx
    omega
   ·intro x hx
    rw [Array.toList_push,List.mem_append,List.mem_singleton] at hx
    rcases hx with hx | rfl
    ·have:=he.bl x hx;omega
    ·exact Nat.lt_succ_self _
 ·have hej:es[j]? = some e:=by rw [← Array.getElem?_toList];exact f2
  have hmod:(es.modify j fun x=>{ x with key:=enc k }) = es:=by
   apply Array.ext_getElem?
   intro i
   rw [Array.getElem?_modify]
   split
   ·rename_i hji;subst hji
    rw [hej,Option.map_some,← f3]
   ·rfl
  obtain ⟨g1,g2,g3⟩:=frameMap hlt (.map es clock)
  refine ⟨e.born,_,?_,⟨_,_,g3,?_,j,e,f2,f3,rfl⟩,g1,g2⟩
  ·have hst:=H.K.stays w hl
   rw [f4]
   simp [Instr.mapEntry,run_underlying ht,MapKept.run_getObj_map hb,H.K.check w false hl,f1,hej,f3,hst,hmod,MapKept.run_setObj_map _ hb,Result.andThen,ChangeMaps.setBlock,goInt]
  ·rw [f4]
   simpa using he
theorem EnAt.store {k:κ} {born:Nat} (H:KeyE P kt enc) (h:EnAt enc w r kv k born) (t:TypeId) (v:Value) :
  ∃ w2,(Instr.entryStore t (.map (some r)) (.int .i64 (born:Int)) v).run P w = .ok () w2 ∧ MapL enc w2 r (putL kv k v) ∧ Fr (oneB r) w w2 ∧ w2.heap.size = w.heap.size:=by
 have hlt:=h.map.lt
 obtain ⟨es,clock,hb,he,j,e,hj,hk,hborn⟩:=h
 have hjl:j < es.toList.length:=(List.getElem?_eq_some_iff.1 hj).1
 have hej:es[j]? = some e:=by rw [← Array.getElem?_toList];exact hj
 have hidx:es.findIdx? (fun e=>(e.born:Int) == (born:Int)) = some j:=by
  rw [Array.findIdx?_eq_some_iff_getElem]
  have hjs:j < es.size:=by simpa using hjl
  refine ⟨hjs,?_,fun i hi=>?_⟩
  ·have:es[j] = e:=by rw [Array.getElem?_eq_getElem hjs] at hej;injection hej
   rw [this,hborn];simp
  ·have his:i < es.size:=by omega
   have hne:es[i].born ≠ born:=fun eq=>by
    have hn:=he.bn
    have e1:(es.toList.map (·.born))[i]? = some born:=by rw [List.getElem?_map,Array.getElem?_toList,Array.getElem?_eq_getElem his,Option.map_some,eq]
    have e2:(es.toList.map (·.born))[j]? = some born:=by rw [List.getElem?_map,hj,Option.map_some,hborn]
    have:=(List.getElem?_inj (by rw [List.length_map];simpa using his) hn).1 (e1.trans e2.symm)
    omega
   have:¬ (es[i].born:Int) = (born:Int):=fun eq=>hne (by omega)
   simpa using this
 have hmem:e ∈ es.toList:=List.mem_of_getElem? hj
 have hlook:(Go.Proofs.YtnkdnbjmhoegkaaGreat.look kv k).isSome = true:=by
  obtain ⟨k',hk',hf⟩:=he.mem H hmem
  have:k' = k:=H.inj _ _ (hk'.symm.trans hk)
  subst this
  rw [(look_mem he.nd).2 hf];rfl
 obtain ⟨g1,g2,g3⟩:=frameMap hlt (.map (es.modify j fun x=>{ x with val:=v }) clock)
 have hget:∀ i,(es.modify j fun x=>{ x with val:=v }).toList[i]? = if j = i then (es.toList[i]?).map (fun x=>{ x with val:=v }) else es.toList[i]?:=by
  intro i
  simp only [Array.getElem?_toList,Array.getElem?_modify]
 refine ⟨_,?_,⟨_,_,g3,?_⟩,g1,g2⟩
 ·simp [Instr.entryStore,MapKept.run_getObj_map hb,asInt,asIntOf,hidx,MapKept.run_setObj_map _ hb,Result.andThen,ChangeMaps.setBlock]
 ·unfold putL
  rw [hlook]
  simp only [if_true]
  have hbrn:(es.modify j fun x=>{ x with val:=v }).toList.map (·.born) = es.toList.map (·.born):=by
   apply List.ext_getElem?
   intro i
   simp only [List.getElem?_map,hget]
   split
   ·cases es.toList[i]? <;> rfl
   ·rfl
  refine ⟨?_,by rw [keys_map];exact he.nd,by rw [hbrn];exact he.bn,?_⟩
  ·apply List.ext_getElem?
   intro i
   have hi:=congrArg (fun l=>l[i]?) he.is
   simp only [List.getElem?_map] at hi ⊢
   rw [hget]
   cases hk2:kv[i]? with
   | none =>
    rw [hk2] at hi
    simp only [Option.map_none,Option.map_eq_none_iff] at hi
    rw [hi]
    split <;> rfl
   | some p =>
    rw [hk2] at hi
    cases hx:es.toList[i]? with
    | none=>rw [hx] at hi;cases hi
    | some x =>
     rw [hx] at hi
     simp only [Option.map_some,Option.some.injEq,Prod.mk.injEq] at hi ⊢
     by_cases hji:j = i
     ·subst hji
      rw [hj] at hx
      injection hx with hx
      subst hx
      have hp:p.1 = k:=H.inj _ _ (hi.1.symm.trans hk)
      simp only [if_true,Option.map_some,hp]
      rw [hk]
     ·have hp:p.1 ≠ k:=fun eq=>by
       have hkj:=congrArg (fun l=>l[j]?) he.is
       simp only [List.getElem?_map,hj,Option.map_some] at hkj
       cases hq:kv[j]? with
       | none=>rw [hq] at hkj;cases hkj
       | some q =>
        rw [hq] at hkj
        simp only [Option.map_some,Option.some.injEq,Prod.mk.injEq] at hkj
        have hqk:q.1 = k:=H.inj _ _ (hkj.1.symm.trans hk)
        have e1:(kv.map (·.1))[j]? = some k:=by rw [List.getElem?_map,hq,Option.map_some,hqk]
        have e2:(kv.map (·.1))[i]? = some k:=by rw [List.getElem?_map,hk2,Option.map_some,eq]
        have hjk:j < (kv.map (·.1)).length:=(List.getElem?_eq_some_iff.1 e1).1
        exact hji ((List.getElem?_inj hjk he.nd).1 (e1.trans e2.symm))
      rw [if_neg hji,if_neg hp,Option.map_some,hi.1,hi.2]
  ·intro x hx
   obtain ⟨i,hi⟩:=List.mem_iff_getElem?.1 hx
   rw [hget] at hi
   split at hi
   ·cases hy:es.toList[i]? with
    | none=>rw [hy] at hi;cases hi
    | some y =>
     rw [hy] at hi
     simp only [Option.map_some,Option.some.injEq] at hi
     rw [← hi]
     exact he.bl y (List.mem_of_getElem? hy)
   ·exact he.bl x (List.mem_of_getElem? hi)
theorem putL_new {k:κ} {z v:Value}:putL (if (Go.Proofs.YtnkdnbjmhoegkaaGreat.look kv k).isSome then kv else kv ++ [(k,z)]) k v = putL kv k v:=by
 cases hl:Go.Proofs.YtnkdnbjmhoegkaaGreat.look kv k with
 | some u=>simp
 | none =>
  have hn:=look_none.1 hl
  have e1:Go.Proofs.YtnkdnbjmhoegkaaGreat.look (kv ++ [(k,z)]) k = some z:=by
   unfold Go.Proofs.YtnkdnbjmhoegkaaGreat.look at hl ⊢
   rw [Option.map_eq_none_iff] at hl
   rw [List.find?_append,hl]
   simp
  simp only [Option.isSome_none,Bool.false_eq_true,if_false]
  unfold putL
  rw [e1,hl]
  simp only [Option.isSome_some,if_true,Option.isSome_none,Bool.false_eq_true,if_false,List.map_append,List.map_cons,List.map_nil]
  congr 1
  conv=>rhs;rw [← List.map_id kv]
  refine List.map_congr_left fun p hp=>?_
  have:p.1 ≠ k:=fun e=>hn (List.mem_map.2 ⟨p,hp,e⟩)
  simp [this]
end
end Go.Proofs.YtnkdnbjmhoegkaaGreat
