/- IDs as keys of maps. Maps with IDs as keys, read by a function: facts on it are rewrite rules of the walk. -/
import Derived.Test.YtahllkifmmjbdaaDagQKp
import Derived.Test.YtahllkifmmjbdaaMapRKp
import Derived.DeepKeys4
import Derived.WideLaws
set_option linter.unusedVariables false
set_option linter.unusedSimpArgs false
namespace Go.Proofs.Ytahllkifmmjbdaa
open Go.RowKit Go.Maps Go.Sort
theorem laidOutI:laidOutB Try.prog = true:=by kernel_rfl
theorem keyLitU8 (d:Nat) (b:UInt8):Try.prog.keyLits (d + 1) 5 [u8v b] = some [.int .u8 (b.toNat:Int)]:=by
 have hw:(Lit.int .u8 (b.toNat:Int)).wf = true:=by
  have h:∀ n,n < 256 → (Lit.int .u8 ((n:Nat):Int)).wf = true:=by decide +kernel
  exact h _ b.toNat_lt
 simp only [Program.keyLits,Try.underlying5,u8v,hw]
 simp
theorem mapM_some {α β:Type} (f:α → Option β):∀ (l:List α),(∀ x ∈ l,∃ y,f x = some y) → ∃ ys,l.mapM f = some ys:=by
 intro l
 induction l with
 | nil=>intro _;exact ⟨[],rfl⟩
 | cons x l ih =>
  intro h
  obtain ⟨y,hy⟩:=h x (by simp)
  obtain ⟨ys,hys⟩:=ih (fun z hz=>h z (by simp [hz]))
  exact ⟨y :: ys,by simp [List.mapM_cons,hy,hys]⟩
theorem keyI_good (x:ID):∃ l,keyOf Try.prog 37 (encI x) = some l:=by
 have h1:Try.prog.keyType 37 = true:=by kernel_rfl
 have h2:Try.prog.cellsOf 37 = 32:=by kernel_rfl
 have h3:Try.prog.cellsOf 5 = 1:=by kernel_rfl
 have h4:(encI x).formed Try.prog 37 = true:=by
  simp [Value.formed,Try.underlying37,h2,idA_eq,x.2]
 unfold keyOf
 rw [Try.underlying37]
 simp only [h1,h4,Bool.and_self,if_true]
 have hk:∃ ls,Try.prog.keyLits (Try.prog.types.size + 1) 37 (encI x).cells.toList = some ls:=by
  have hc:(encI x).cells.toList = bv x.1:=by simp [Value.cells,idA_eq]
  have hs:∃ d,Try.prog.types.size = d + 1:=⟨Try.prog.types.size - 1,by
   have:0 < Try.prog.types.size:=of_decide_eq_true (by kernel_rfl)
   omega⟩
  obtain ⟨d,hd⟩:=hs
  rw [hc,hd]
  unfold Program.keyLits
  rw [Try.underlying37]
  simp only [bv_length,x.2,h2,if_true,h3]
  obtain ⟨ys,hys⟩:=mapM_some (fun i=>Try.prog.keyLits (d + 1) 5 (((bv x.1).drop (i * 1)).take 1)) (List.range 32) (fun i hi=>by
   have hi':i < x.1.length:=by rw [x.2];simpa using hi
   have:((bv x.1).drop (i * 1)).take 1 = [u8v x.1[i]]:=by
    rw [Nat.mul_one,← bv_drop,List.drop_eq_getElem_cons hi',bv_cons]
    simp
   rw [this]
   exact ⟨_,keyLitU8 d _⟩)
  rw [hys]
  exact ⟨_,rfl⟩
 obtain ⟨ls,hls⟩:=hk
 rw [hls]
 exact ⟨_,rfl⟩
theorem keyI:KeyE Try.prog 37 encI where
 K:=Keyed.of_law (deep_law_laid laidOutI (m:=8) (by decide) (of_decide_eq_true (by kernel_rfl)) (by kernel_rfl) (by kernel_rfl))
 good:=keyI_good
 inj:=fun _ _ h=>encI_inj h
end Go.Proofs.Ytahllkifmmjbdaa
namespace Go.Proofs.Ytahllkifmmjbdaa
open Go.RowKit Go.Maps
theorem MapL.uniq {w:World} {r:Nat} {a b:List (ID × Value)} (ha:MapL encI w r a) (hb:MapL encI w r b):a = b:=by
 obtain ⟨es,c,h1,e1⟩:=ha
 obtain ⟨es',c',h2,e2⟩:=hb
 rw [h1] at h2
 injection h2 with h2
 injection h2 with h2 _
 subst h2
 have h:=e1.is.symm.trans e2.is
 have inj:∀ (p q:ID × Value),(encI p.1,p.2) = (encI q.1,q.2) → p = q:=by
  intro p q e
  simp only [Prod.mk.injEq] at e
  exact Prod.ext (encI_inj e.1) e.2
 clear e1 e2 h1
 induction a generalizing b with
 | nil=>cases b with
  | nil=>rfl
  | cons q b=>simp at h
 | cons p a ih=>cases b with
  | nil=>simp at h
  | cons q b =>
   simp only [List.map_cons,List.cons.injEq] at h
   rw [inj p q h.1,ih h.2]
open Classical in
noncomputable def mpI (w:World) (r:Nat):Option (List (ID × Value)):=if h:∃ kv,MapL encI w r kv then some h.choose else none
theorem MapL.mpI {w:World} {r:Nat} {kv:List (ID × Value)} (h:MapL encI w r kv):mpI w r = some kv:=by
 unfold Go.Proofs.Ytahllkifmmjbdaa.mpI
 have hx:∃ x,MapL encI w r x:=⟨kv,h⟩
 rw [dif_pos hx]
 exact congrArg some (hx.choose_spec.uniq h)
theorem mpI_mp {w:World} {r:Nat} {kv:List (ID × Value)} (h:mpI w r = some kv):MapL encI w r kv:=by
 unfold mpI at h
 split at h
 ·rename_i hx
  injection h with h
  rw [← h];exact hx.choose_spec
 ·cases h
theorem mpI_lt {w:World} {r:Nat} {kv:List (ID × Value)} (h:mpI w r = some kv):r < w.heap.size:=(mpI_mp h).lt
theorem mpI_keep {w w':World} {r:Nat} (hb:w'.heap[r]? = w.heap[r]?):mpI w' r = mpI w r:=by
 cases hx:mpI w r with
 | some x =>
  obtain ⟨es,c,h1,h2⟩:=mpI_mp hx
  exact MapL.mpI ⟨es,c,hb.trans h1,h2⟩
 | none =>
  cases hy:mpI w' r with
  | none=>rfl
  | some y =>
   obtain ⟨es,c,h1,h2⟩:=mpI_mp hy
   rw [MapL.mpI ⟨es,c,hb.symm.trans h1,h2⟩] at hx;cases hx
theorem mpI_fr {M:Nat → Prop} {w w':World} {r:Nat} {kv:List (ID × Value)} (h:mpI w r = some kv) (f:Fr M w w') (hM:¬ M r):mpI w' r = some kv:=(mpI_keep (f.block r (mpI_lt h) hM)).trans h
@[simp] theorem mpI_old (w:World) (ob:Obj) (r:Nat) (h:r < w.heap.size):mpI (w.alloc ob) r = mpI w r:=mpI_keep (heap_alloc_old w ob h)
@[simp] theorem mpI_new (w:World):mpI (w.alloc (.map #[] 0)) w.heap.size = some []:=(MapL.new encI w).mpI
theorem mpI_blk {w:World} {r:Nat} {kv:List (ID × Value)} (h:mpI w r = some kv):∃ es c,w.heap[r]? = some (.map es c):=by
 obtain ⟨es,c,h1,_⟩:=mpI_mp h
 exact ⟨es,c,h1⟩
theorem mpI_nd {w:World} {r:Nat} {kv:List (ID × Value)} (h:mpI w r = some kv):(kv.map (·.1)).Nodup:=by
 obtain ⟨es,c,_,h1⟩:=mpI_mp h
 exact h1.nd
theorem mp_cell {w:World} {r:Nat} {kv:List (ID × Value)} (h:mpI w r = some kv) (o:Nat) (f:Option Nat):w.cell? ⟨r,o,f⟩ = none:=by
 obtain ⟨es,c,h1⟩:=mpI_blk h
 cases f <;> simp [World.cell?,h1]
theorem mp_ne {w:World} {r:Nat} {kv:List (ID × Value)} (h:mpI w r = some kv) {g:Nat} {t:TypeId} {cs:Array Value} {z:Nat × Nat} (hb:w.heap[g]? = some (.cells cs t z)):g ≠ r:=by
 rintro rfl
 obtain ⟨es,c,h1⟩:=mpI_blk h
 rw [h1] at hb;cases hb
open Classical in
noncomputable def mput (t:TypeId) (w:World) (r:Nat) (x:ID) (v:Value):World :=
 if h:∃ w2,(Instr.mapUpdate t (.map (some r)) (encI x) v).run Try.prog w = .ok () w2 then h.choose else w
theorem mput_all {t E:TypeId} (ht:Try.prog.underlying t = some (.map 37 E)) {w:World} {r:Nat} {kv:List (ID × Value)} (h:mpI w r = some kv) (x:ID) (v:Value) :
  (Instr.mapUpdate t (.map (some r)) (encI x) v).run Try.prog w = .ok () (mput t w r x v) ∧ mpI (mput t w r x v) r = some (putL kv x v) ∧ Fr (oneB r) w (mput t w r x v) ∧ (mput t w r x v).heap.size = w.heap.size:=by
 obtain ⟨w2,h1,h2,h3,h4⟩:=(mpI_mp h).put keyI ht x v
 have e:mput t w r x v = w2:=by
  unfold mput
  have hx:∃ w2,(Instr.mapUpdate t (.map (some r)) (encI x) v).run Try.prog w = .ok () w2:=⟨w2,h1⟩
  refine (dif_pos hx).trans ?_
  exact ((Result.ok.inj (h1.symm.trans hx.choose_spec)).2).symm
 rw [e]
 exact ⟨h1,h2.mpI,h3,h4⟩
noncomputable def rngO (w:World) (r:Nat):Obj:=match w.heap[r]? with | some (.map es clock)=>.mapIter (some r) clock #[] clock | _=>.map #[] 0
theorem rng_all {t E:TypeId} (ht:Try.prog.underlying t = some (.map 37 E)) {w:World} {r:Nat} {kv:List (ID × Value)} (h:mpI w r = some kv) :
  (Instr.range t (.map (some r))).run Try.prog w = .ok (.pointer (some ⟨w.heap.size,0,none⟩)) (w.alloc (rngO w r)) ∧ RngL encI (w.alloc (rngO w r)) w.heap.size r kv kv:=by
 have hm:=mpI_mp h
 have hl:=hm.lt
 obtain ⟨es,clock,hb,he⟩:=hm
 have e:rngO w r = .mapIter (some r) clock #[] clock:=by unfold rngO;rw [hb]
 rw [e]
 refine ⟨run_range_map w t 37 E r es clock ht hb,es,clock,#[],heap_alloc_new w _,by rw [heap_alloc_old w _ hl];exact hb,he,?_⟩
 have:leftOf es #[] = es:=by unfold leftOf;simp
 rw [this];exact he.is
end Go.Proofs.Ytahllkifmmjbdaa
