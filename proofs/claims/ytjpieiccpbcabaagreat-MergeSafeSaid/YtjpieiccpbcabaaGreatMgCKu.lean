/- A history in memory; maps from IDs to commits, from stamps to operations. Contracts: merge.New, Dag, clone, Commit. Contracts: merge's Commit, tree. (rdI, ex_ldS_at, ex_ldO_at) -/
import Derived.Test.YtjpieiccpbcabaaGreatMgPKu
import Derived.Test.YtjpieiccpbcabaaGreatMgSKu
import Derived.Test.YtjpieiccpbcabaaGreatDagW8Ku
import Derived.Test.YtjpieiccpbcabaaGreatFrameOKu
set_option linter.unusedVariables false
set_option linter.unusedSimpArgs false
namespace Go.Proofs.YtjpieiccpbcabaaGreat
open Go.RowKit Go.Maps Go.Sort
theorem zeroCg (w:World):(zeroValue 35).run Tryz.prog w = .ok (.agg (codC.A zCgW)) w:=okC.zv w
theorem zeroOp (w:World):(zeroValue 83).run Tryz.prog w = .ok (.agg (codO.A zOpW)) w:=okO.zv w
/-! map[api.ID]api.Change -/
@[simp] theorem lk_ic (w:World) (r:Nat) (x:ID):(Instr.lookup 86 (.map (some r)) (encI x) false).run Tryz.prog w = match mpI w r with | some kv=>.ok ((look kv x).getD (.agg (codC.A zCgW))) w | none=>elseR ((Instr.lookup 86 (.map (some r)) (encI x) false).run Tryz.prog w):=by
 cases h:mpI w r with
 | none=>exact elseR_eq _
 | some kv=>exact (mpI_mp h).look keyI Tryz.underlying86 (zeroCg w) x
@[simp] theorem lk_ic_ok (w:World) (r:Nat) (x:ID):(Instr.lookup 86 (.map (some r)) (encI x) true).run Tryz.prog w = match mpI w r with | some kv=>.ok (.tuple #[(look kv x).getD (.agg (codC.A zCgW)),.bool (look kv x).isSome]) w | none=>elseR ((Instr.lookup 86 (.map (some r)) (encI x) true).run Tryz.prog w):=by
 cases h:mpI w r with
 | none=>exact elseR_eq _
 | some kv=>exact (mpI_mp h).lookOk keyI Tryz.underlying86 (zeroCg w) x
/-! map[api.Stamp]api.Op -/
@[simp] theorem lk_so_ok (w:World) (r:Nat) (x:St):(Instr.lookup 87 (.map (some r)) (.agg (codS.A x)) true).run Tryz.prog w = match mpT w r with | some kv=>if wfS x = true then .ok (.tuple #[(look kv x).getD (.agg (codO.A zOpW)),.bool (look kv x).isSome]) w else elseR ((Instr.lookup 87 (.map (some r)) (.agg (codS.A x)) true).run Tryz.prog w) | none=>elseR ((Instr.lookup 87 (.map (some r)) (.agg (codS.A x)) true).run Tryz.prog w):=by
 cases h:mpT w r with
 | none=>exact elseR_eq _
 | some kv =>
  simp only
  split
  ·rename_i hx
   obtain ⟨kv,rfl,hm⟩:=mpT_mp h
   rw [look_upK kv ⟨x,hx⟩]
   exact hm.lookOk keyK Tryz.underlying87 (zeroOp w) ⟨x,hx⟩
  ·exact elseR_eq _
@[simp] theorem bld_hist (w:World) (p:Option Addr) (q r:Option Nat):(Instr.build 89 #[(0,.pointer p),(1,.map q),(2,.map r)]).run Tryz.prog w = .ok (.agg #[.pointer p,.map q,.map r]) w:=by kernel_rfl
def InQ (Q:Nat → Prop) (A:Option Addr):Prop:=∀ g,A.map (·.block) = some g → Q g
theorem Sl.frQ {Q M:Nat → Prop} {w w':World} {A:Option Addr} {xs:List Value} (h:Sl w A xs) (f:Fr M w w') (hq:xs ≠ [] → InQ Q A) (hM:∀ g,Q g → ¬ M g):Sl w' A xs:=by
 intro hne
 obtain ⟨g,off,e,hg,hc⟩:=h hne
 have hQ:Q g:=hq hne g (by rw [e];rfl)
 exact ⟨g,off,e,Nat.lt_of_lt_of_le hg f.size,fun j u hu=>(World.cell?_of_block (w:=w) (a:=⟨g,off + j,none⟩) (f.block g hg (hM g hQ))).trans (hc j u hu)⟩
structure OpQ (Q:Nat → Prop) (w:World) (r:OpW) (o:Opn):Prop where
 inn:OpIn w r o
 q:o.Over ≠ [] → InQ Q r.A
theorem row_nil {α:Type} {C:Cod α} {l:List α} (h:C.row l ≠ []):l ≠ []:=by
 rintro rfl
 exact h rfl
theorem OpQ.fr {Q M:Nat → Prop} {w w':World} {r:OpW} {o:Opn} (h:OpQ Q w r o) (f:Fr M w w') (hM:∀ g,Q g → ¬ M g):OpQ Q w' r o :=
 ⟨⟨h.inn.eq,h.inn.len,h.inn.sl.frQ f (fun hne=>h.q (row_nil hne)) hM,h.inn.bd,h.inn.nm⟩,h.q⟩
theorem OpQ.mono {Q Q':Nat → Prop} {w:World} {r:OpW} {o:Opn} (h:OpQ Q w r o) (hQ:∀ g,Q g → Q' g):OpQ Q' w r o:=⟨h.inn,fun hne g hg=>hQ g (h.q hne g hg)⟩
theorem OpN.q {base:Nat} {w:World} {r:OpW} {o:Opn} (h:OpN base w r o) {Q:Nat → Prop} (hQ:∀ g,base ≤ g → g < w.heap.size → Q g):OpQ Q w r o :=
 ⟨h.op.inn,fun _ g hg=>by
  have:=own_lt h.own g hg
  exact hQ g this.1 this.2⟩
structure CgQ (Q:Nat → Prop) (w:World) (r:CgW) (rs:List OpW) (c:Chg):Prop where
 inn:CgIn w r rs c
 pq:c.Parents ≠ [] → InQ Q r.PA
 oq:rs ≠ [] → InQ Q r.OA
 vq:∀ i (h:i < rs.length) (h':i < c.Ops.length),OpQ Q w rs[i] c.Ops[i]
theorem idc_nil {l:List ID} (h:idc l ≠ []):l ≠ []:=by
 rintro rfl
 exact h rfl
theorem CgQ.fr {Q M:Nat → Prop} {w w':World} {r:CgW} {rs:List OpW} {c:Chg} (h:CgQ Q w r rs c) (f:Fr M w w') (hM:∀ g,Q g → ¬ M g):CgQ Q w' r rs c:=by
 obtain ⟨⟨a1,a2,a3,a4,a5,a6,a7,a8,a9,a10,a11,a12⟩,b1,b2,b3⟩:=h
 have b3':=fun i h h'=>(b3 i h h').fr f hM
 exact ⟨⟨a1,a2,a3,a4,a5,a6.frQ f (fun hne=>b1 (idc_nil hne)) hM,a7,a8.frQ f (fun hne=>b2 (row_nil hne)) hM,⟨a9.1,fun i h h'=>(b3' i h h').inn⟩,a10,a11,a12⟩,b1,b2,b3'⟩
theorem CgQ.mono {Q Q':Nat → Prop} {w:World} {r:CgW} {rs:List OpW} {c:Chg} (h:CgQ Q w r rs c) (hQ:∀ g,Q g → Q' g):CgQ Q' w r rs c :=
 ⟨h.inn,fun hne g hg=>hQ g (h.pq hne g hg),fun hne g hg=>hQ g (h.oq hne g hg),fun i a b=>(h.vq i a b).mono hQ⟩
def OpsM (Q:Nat → Prop) (w:World) (kv:List (St × Value)) (P:List Opn):Prop :=
 ∀ s,(findO P s = none ∧ look kv s = none) ∨ ∃ o r,findO P s = some o ∧ look kv s = some (.agg (codO.A r)) ∧ OpQ Q w r o
theorem OpsM.fr {Q M:Nat → Prop} {w w':World} {kv:List (St × Value)} {P:List Opn} (h:OpsM Q w kv P) (f:Fr M w w') (hM:∀ g,Q g → ¬ M g):OpsM Q w' kv P:=fun s=>by
 rcases h s with h | ⟨o,r,h1,h2,h3⟩
 ·exact .inl h
 ·exact .inr ⟨o,r,h1,h2,h3.fr f hM⟩
theorem OpsM.mono {Q Q':Nat → Prop} {w:World} {kv:List (St × Value)} {P:List Opn} (h:OpsM Q w kv P) (hQ:∀ g,Q g → Q' g):OpsM Q' w kv P:=fun s=>by
 rcases h s with h | ⟨o,r,h1,h2,h3⟩
 ·exact .inl h
 ·exact .inr ⟨o,r,h1,h2,h3.mono hQ⟩
theorem OpsM.congr {Q:Nat → Prop} {w:World} {kv:List (St × Value)} {P P':List Opn} (h:OpsM Q w kv P) (e:∀ s,findO P s = findO P' s):OpsM Q w kv P':=fun s=>by
 rw [← e s]
 exact h s
theorem look_putA {α:Type} [DecidableEq α] (x:α) (v:Value) (y:α):∀ kv:List (α × Value),look (putL kv x v) y = if x = y then some v else look kv y
 | []=>by
  by_cases h:x = y <;> simp [putL,look,h]
 | p :: kv=>by
  have ih:=look_putA x v y kv
  by_cases hp:p.1 = x
  ·have h1:(look (p :: kv) x).isSome = true:=by simp [look,hp]
   have e:putL (p :: kv) x v = (x,v) :: kv.map (fun q=>if q.1 = x then (x,v) else q):=by
    unfold putL
    rw [if_pos h1,List.map_cons,if_pos hp]
   rw [e]
   by_cases h:x = y
   ·simp [look,h]
   ·have h2:p.1 ≠ y:=by rw [hp];exact h
    have e2:look (p :: kv) y = look kv y:=by simp [look,h2]
    have e3:look ((x,v) :: kv.map (fun q=>if q.1 = x then (x,v) else q)) y = look (kv.map (fun q=>if q.1 = x then (x,v) else q)) y:=by simp [look,h]
    rw [if_neg h,e2,e3]
    clear ih e e2 e3 h1
    induction kv with
    | nil=>rfl
    | cons q kv ih =>
     rw [List.map_cons]
     by_cases hq:q.1 = x
     ·have h3:q.1 ≠ y:=by rw [hq];exact h
      rw [if_pos hq]
      have a1:look ((x,v) :: kv.map (fun q=>if q.1 = x then (x,v) else q)) y = look (kv.map (fun q=>if q.1 = x then (x,v) else q)) y:=by simp [look,h]
      have a2:look (q :: kv) y = look kv y:=by simp [look,h3]
      rw [a1,a2]
      exact ih
     ·rw [if_neg hq]
      by_cases hqy:q.1 = y
      ·simp [look,hqy]
      ·have a1:look (q :: kv.map (fun q=>if q.1 = x then (x,v) else q)) y = look (kv.map (fun q=>if q.1 = x then (x,v) else q)) y:=by simp [look,hqy]
       have a2:look (q :: kv) y = look kv y:=by simp [look,hqy]
       rw [a1,a2]
       exact ih
  ·have e:putL (p :: kv) x v = p :: putL kv x v:=by
    have h1:look (p :: kv) x = look kv x:=by simp [look,hp]
    unfold putL
    rw [h1]
    split
    ·rw [List.map_cons,if_neg hp]
    ·rfl
   rw [e]
   by_cases h:p.1 = y
   ·have:x ≠ y:=fun e=>hp (h.trans e.symm)
    simp [look,h,this]
   ·have a1:look (p :: putL kv x v) y = look (putL kv x v) y:=by simp [look,h]
    have a2:look (p :: kv) y = look kv y:=by simp [look,h]
    rw [a1,a2]
    exact ih
theorem findO_snoc {P:List Opn} {o:Opn} (hs:SameO (P ++ [o])) (s:St):findO (P ++ [o]) s = if o.At = s then some o else findO P s:=by
 unfold findO
 rw [List.find?_append]
 by_cases h:o.At = s
 ·cases hf:P.find? (fun o=>decide (o.At = s)) with
  | none=>simp [h]
  | some x =>
   obtain ⟨h1,h2⟩:=findO_some (P:=P) hf
   have:=hs x (by simp [h1]) o (by simp) (h2.trans h.symm)
   simp [h,this]
 ·cases hf:P.find? (fun o=>decide (o.At = s)) with
  | none=>simp [h]
  | some x=>simp [h]
theorem OpsM.put {Q:Nat → Prop} {w:World} {kv:List (St × Value)} {P:List Opn} {o:Opn} {r:OpW} (h:OpsM Q w kv P) (hs:SameO (P ++ [o])) (ho:OpQ Q w r o):OpsM Q w (putL kv o.At (.agg (codO.A r))) (P ++ [o]):=fun s=>by
 rw [look_putA,findO_snoc hs]
 by_cases e:o.At = s
 ·exact .inr ⟨o,r,by rw [if_pos e],by rw [if_pos e],ho⟩
 ·rw [if_neg e,if_neg e]
  exact h s
structure HsA (w:World) (H D A O:Nat) (kvA:List (ID × Value)) (kvO:List (St × Value)) (F Q:Nat → Prop) (L:Hst):Prop where
 blk:Blk w H 89 [.pointer (some ⟨D,0,none⟩),.map (some A),.map (some O)]
 dag:DagAt w D F (dgH L)
 all:mpI w A = some kvA
 ops:mpT w O = some kvO
 cn:∀ x,findC L x = none → look kvA x = none
 cs:∀ x c,findC L x = some c → ∃ r rs,look kvA x = some (.agg (codC.A r)) ∧ CgQ Q w r rs c
 os:OpsM Q w kvO (opsH L)
 ok:HOk L
 nFH:¬ F H
 nFA:¬ F A
 nFO:¬ F O
 nAO:A ≠ O
 q:∀ g,Q g → ¬ F g ∧ g ≠ A ∧ g ≠ O ∧ g < w.heap.size
 lt:∀ b,F b → b < w.heap.size
def Hs (w:World) (H:Nat) (S:Nat → Prop) (L:Hst):Prop :=
 ∃ D A O kvA kvO F Q,HsA w H D A O kvA kvO F Q L ∧ (∀ b,(F b ∨ Q b ∨ b = H ∨ b = A ∨ b = O) → S b) ∧ (∀ b,S b → b < w.heap.size)
section
variable {w w':World} {H D A O:Nat} {kvA:List (ID × Value)} {kvO:List (St × Value)} {F Q:Nat → Prop} {L:Hst}
theorem HsA.nHA (h:HsA w H D A O kvA kvO F Q L):H ≠ A:=mp_ne h.all h.blk
theorem HsA.nHO (h:HsA w H D A O kvA kvO F Q L):H ≠ O:=mpT_ne h.ops h.blk
theorem HsA.fr {M:Nat → Prop} (h:HsA w H D A O kvA kvO F Q L) (f:Fr M w w') (hM:∀ b,(F b ∨ Q b ∨ b = H ∨ b = A ∨ b = O) → ¬ M b):HsA w' H D A O kvA kvO F Q L :=
 ⟨h.blk.fr f (hM _ (by simp)),h.dag.fr f (fun b hb=>hM b (.inl hb)),mpI_fr h.all f (hM _ (by simp)),mpT_fr h.ops f (hM _ (by simp)),h.cn,
  fun x c hx=>by
   obtain ⟨r,rs,h1,h2⟩:=h.cs x c hx
   exact ⟨r,rs,h1,h2.fr f (fun g hg=>hM g (.inr (.inl hg)))⟩,
  h.os.fr f (fun g hg=>hM g (.inr (.inl hg))),h.ok,h.nFH,h.nFA,h.nFO,h.nAO,fun g hg=>by
   obtain ⟨a,b,c,d⟩:=h.q g hg
   exact ⟨a,b,c,Nat.lt_of_lt_of_le d f.size⟩,fun b hb=>Nat.lt_of_lt_of_le (h.lt b hb) f.size⟩
theorem HsA.fr0 (h:HsA w H D A O kvA kvO F Q L) (f:Fr noB w w'):HsA w' H D A O kvA kvO F Q L:=h.fr f (fun _ _=>by simp [noB])
theorem HsA.c0 (h:HsA w H D A O kvA kvO F Q L):w.cell? ⟨H,0,none⟩ = some (.pointer (some ⟨D,0,none⟩)):=Blk.cell h.blk 0
theorem HsA.c1 (h:HsA w H D A O kvA kvO F Q L):w.cell? ⟨H,1,none⟩ = some (.map (some A)):=Blk.cell h.blk 1
theorem HsA.c2 (h:HsA w H D A O kvA kvO F Q L):w.cell? ⟨H,2,none⟩ = some (.map (some O)):=Blk.cell h.blk 2
theorem HsA.look (h:HsA w H D A O kvA kvO F Q L) (x:ID):(findC L x = none ∧ look kvA x = none) ∨ ∃ c r rs,findC L x = some c ∧ Go.Proofs.YtjpieiccpbcabaaGreat.look kvA x = some (.agg (codC.A r)) ∧ CgQ Q w r rs c:=by
 cases hf:findC L x with
 | none=>exact .inl ⟨rfl,h.cn x hf⟩
 | some c =>
  obtain ⟨r,rs,h1,h2⟩:=h.cs x c hf
  exact .inr ⟨c,r,rs,rfl,h1,h2⟩
end
theorem Hs.fr {w w':World} {H:Nat} {S M:Nat → Prop} {L:Hst} (h:Hs w H S L) (f:Fr M w w') (hM:∀ b,S b → ¬ M b):Hs w' H S L:=by
 obtain ⟨D,A,O,kvA,kvO,F,Q,h1,h2,h3⟩:=h
 exact ⟨D,A,O,kvA,kvO,F,Q,h1.fr f (fun b hb=>hM b (h2 b hb)),h2,fun b hb=>Nat.lt_of_lt_of_le (h3 b hb) f.size⟩
theorem Hs.fr0 {w w':World} {H:Nat} {S:Nat → Prop} {L:Hst} (h:Hs w H S L) (f:Fr noB w w'):Hs w' H S L:=h.fr f (fun _ _=>by simp [noB])
theorem Hs.ok {w:World} {H:Nat} {S:Nat → Prop} {L:Hst} (h:Hs w H S L):HOk L:=by
 obtain ⟨D,A,O,kvA,kvO,F,Q,h1,_⟩:=h
 exact h1.ok
end Go.Proofs.YtjpieiccpbcabaaGreat
namespace Go.Proofs.YtjpieiccpbcabaaGreat
open Go.RowKit Go.Maps Go.Sort
attribute [local go_sem] Oper.semAt_some
theorem bx_hist (w:World) (p:Option Addr) (q r:Option Nat):(Instr.box 89 (.agg #[.pointer p,.map q,.map r])).run Tryz.prog w = .ok (.pointer (some ⟨w.heap.size,0,none⟩)) (w.alloc (.cells #[.pointer p,.map q,.map r] 89)):=by
 simp [Instr.box,newVar,newRow,newObj,Value.cells,Sem.run,Result.andThen]
attribute [local simp] bx_hist
theorem DagAt.lt_ {w:World} {D:Nat} {F:Nat → Prop} {G:Dg} (h:DagAt w D F G) (b:Nat) (hb:F b):b < w.heap.size:=by
 obtain ⟨_,_,_,_,h⟩:=h
 exact h.lt b hb
def HsNew (w:World) (e:Ending) (w':World):Prop:=∃ H,e = .returned (.pointer (some ⟨H,0,none⟩)) ∧ Hs w' H (grF (fun _=>False) w w') [] ∧ Fr noB w w'
set_option maxRecDepth 100000 in
theorem mgNew_any (w:World):Calls Tryz.prog 8 #[] w (HsNew w):=by
 go_enter Tryz.func8,Tryz.ntmps8
 go_wp2_with (go_at_call 30;refine (new_any _).mono ?_;rintro e w1 ⟨D,rfl,hD,f1⟩)
 go_ret
 have a1:Fr noB w1 (w1.alloc (.map #[] 0)):=(Fr.refl noB w1).alloc _
 have a2:Fr noB (w1.alloc (.map #[] 0)) ((w1.alloc (.map #[] 0)).alloc (.map #[] 0)):=(Fr.refl noB _).alloc _
 have z1:(w1.alloc (.map #[] 0)).heap.size = w1.heap.size + 1:=by simp
 have z2:((w1.alloc (.map #[] 0)).alloc (.map #[] 0)).heap.size = w1.heap.size + 1 + 1:=by simp
 have m1:=mpI_fr (mpI_new w1) a2 (by simp [noB])
 have m2:=mpT_new (w1.alloc (.map #[] 0))
 rw [z1] at m2
 have b3:=Blk.new ((w1.alloc (.map #[] 0)).alloc (.map #[] 0)) 89 [.pointer (some ⟨D,0,none⟩),.map (some w1.heap.size),.map (some (w1.heap.size + 1))]
 rw [z2] at b3
 have hD3:=hD.fr0 (a1.step0 a2)
 have hl:=f1.size
 have ff:=(f1.step0 a1).step0 a2
 have lt:=fun b hb=>(hD.lt_ b hb:b < w1.heap.size)
 generalize (w1.alloc (.map #[] 0)).alloc (.map #[] 0) = W2 at z2 m1 m2 b3 hD3 ff ⊢
 have a3:Fr noB W2 (W2.alloc (.cells #[.pointer (some ⟨D,0,none⟩),.map (some w1.heap.size),.map (some (w1.heap.size + 1))] 89)):=(Fr.refl noB _).alloc _
 have z3:(W2.alloc (.cells #[.pointer (some ⟨D,0,none⟩),.map (some w1.heap.size),.map (some (w1.heap.size + 1))] 89)).heap.size = w1.heap.size + 3:=by simp [z2]
 refine ⟨_,rfl,⟨D,w1.heap.size,w1.heap.size + 1,[],[],_,fun _=>False,⟨b3,hD3.fr0 a3,mpI_fr m1 a3 (by simp [noB]),mpT_fr0 m2 a3,fun x _=>rfl,fun x c h=>(by cases h),fun s=>.inl ⟨rfl,rfl⟩,HOk.nil,fun h=>?_,fun h=>?_,fun h=>?_,by omega,fun g h=>h.elim,fun b hb=>?_⟩,fun b hb=>?_,fun b hb=>?_⟩,ff.step0 a3⟩
 ·have:=lt _ h;omega
 ·have:=lt _ h;omega
 ·have:=lt _ h;omega
 ·have:=lt _ hb;rw [z3];omega
 ·refine .inr ?_
  rw [z3]
  rcases hb with hb | hb | hb | hb | hb
  ·have:=lt _ hb
   exact ⟨hb.1,by omega⟩
  ·exact hb.elim
  all_goals omega
 ·rcases hb with hb | hb
  ·exact hb.elim
  ·exact hb.2
def DagTo (w:World) (L:Hst) (e:Ending) (w':World):Prop:=∃ D F,e = .returned (.pointer (some ⟨D,0,none⟩)) ∧ DagAt w' D F (dgH L) ∧ Fr noB w w'
set_option maxRecDepth 100000 in
theorem mgDag_any {w:World} {H:Nat} {S:Nat → Prop} {L:Hst} (h:Hs w H S L):Calls Tryz.prog 12 #[.pointer (some ⟨H,0,none⟩)] w (DagTo w L):=by
 obtain ⟨D,A,O,kvA,kvO,F,Q,h1,h2,h3⟩:=h
 have c0:=h1.c0
 have hd:=h1.dag
 clear h1 h2 h3
 go_enter Tryz.func12,Tryz.ntmps12
 go_wp2
 go_ret
 exact ⟨D,F,rfl,hd,Fr.refl _ _⟩
structure CgNew (base:Nat) (w:World) (r:CgW) (rs:List OpW) (c:Chg):Prop where
 inn:CgIn w r rs c
 po:w.ownsRow base 24 32 (.slice r.PA r.pn r.pc) r.pn (idc c.Parents)
 oo:rs ≠ [] → ∃ g,r.OA = some ⟨g,0,none⟩ ∧ base ≤ g ∧ RwA codO w g rs.toArray
 vo:AllO (OpN base) w rs c.Ops
theorem CgNew.q {base:Nat} {w:World} {r:CgW} {rs:List OpW} {c:Chg} (h:CgNew base w r rs c) {Q:Nat → Prop} (hQ:∀ g,base ≤ g → g < w.heap.size → Q g):CgQ Q w r rs c :=
 ⟨h.inn,fun hne g hg=>by
  have:=own_lt h.po g hg
  exact hQ g this.1 this.2,fun hne g hg=>by
  obtain ⟨g',e,hb,hr⟩:=h.oo hne
  rw [e] at hg
  injection hg with hg
  subst hg
  exact hQ _ hb hr.lt,fun i h1 h2=>(h.vo.2 i h1 h2).q hQ⟩
def CgTo (w:World) (c:Chg) (e:Ending) (w':World):Prop:=∃ r rs,e = .returned (.agg (codC.A r)) ∧ CgNew w.heap.size w' r rs c ∧ Fr noB w w'
theorem srt_nd {l:List Opn} (h:SrtL l):(l.map (·.At)).Nodup:=by
 rw [List.Nodup,List.pairwise_map]
 exact h.imp fun {a b} hab e=>by
  rw [e,cmpS_self] at hab
  omega
theorem perm_srt {l m:List Opn} (hp:l.Perm m) (h1:SrtL l) (h2:SrtL m):l = m:=srt_ext h1 h2 fun o=>hp.mem_iff
set_option maxRecDepth 100000 in
set_option maxHeartbeats 4000000 in
theorem mgClone_any (w:World) (r:CgW) (rs:List OpW) (c:Chg) (h:CgIn w r rs c) (hs:SrtL c.Ops) (hb:c.Ops.length ≤ 1000000) (hov:∀ o ∈ c.Ops,o.Over.length ≤ 1000000) (hp:c.Parents.length ≤ 1000000) :
  Calls Tryz.prog 38 #[.agg (codC.A r)] w (CgTo w c):=by
 have f0:Fr noB w ((w.alloc (.cells (codC.A r) 35)).alloc (codC.o zCgW)):=((Fr.refl noB w).alloc _).alloc _
 have bA0:codC.bxd (w.alloc (.cells (codC.A r) 35)) w.heap.size = some r:=Cod.bxd_box (C:=codC) w r
 have bA:=Cod.bxd_fr0 bA0 ((Fr.refl noB _).alloc (codC.o zCgW))
 have bB:=Cod.bxd_new (C:=codC) (w.alloc (.cells (codC.A r) 35)) zCgW
 have hz:(w.alloc (.cells (codC.A r) 35)).heap.size = w.heap.size + 1:=by simp
 rw [hz] at bB
 have u2:=(cgAt (Cod.bxd_rd bA)).parents
 have HX:=Lib.hid h
 have CH:=Lib.hid (fun w' (f:Fr noB w w')=>idclone_any w' r.PA r.pc c.Parents r.pn h.pl (h.ps.fr0 f) (by omega))
 have CS:=Lib.hid (fun w' (f:Fr noB w w')=>sSortD_any w' r.OA r.oc r.on rs c.Ops h.ol (h.os.fr0 f) ⟨h.ops.len,fun i a b=>(h.ops.at_ i a b).fr f⟩ (srt_nd hs) hb hov)
 have HS:=Lib.hid hs
 clear h hs hb hov hp bA0
 go_enter Tryz.func38,Tryz.ntmps38
 go_upto_region 1 with fail
 generalize (w.alloc (.cells (codC.A r) 35)).alloc (codC.o zCgW) = W0 at f0 bA bB u2 ⊢
 obtain ⟨A,hA⟩:∃ k,k = w.heap.size:=⟨_,rfl⟩
 obtain ⟨B,hB⟩:∃ k,k = w.heap.size + 1:=⟨_,rfl⟩
 rw [← hB] at bB
 rw [← hA] at bA u2 ⊢
 have eAB:A + 1 = B:=by omega
 rw [eAB]
 have HAB:=Lib.hid (show w.heap.size ≤ A ∧ A < B from by omega)
 clear hz hA hB eAB
 go_upto_region 2 with (go_at_call 63;refine (CH.out _ f0).mono ?_;rintro e w4 ⟨A4,c4,rfl,o4,f4⟩;have u4:=cell_fr0 u2 f4;have z4:=(Cod.bxd_blk (Cod.bxd_fr0 bA f4)).frozen 0)
 have bA4:=Cod.bxd_fr0 bA f4
 have g5:=Cod.set_fr w4 A 0 (.slice A4 c.Parents.length c4)
 have bA5:=Cod.bxd_set bA4 0 (.slice A4 c.Parents.length c4) _ (seC_Parents _ _ _ _)
 have o5:=own_box (Cod.bxd_blk bA4) o4 (by decide) g5
 have hab:=HAB.out
 have bB5:=Cod.bxd_fr (Cod.bxd_fr0 bB f4) g5 (by show ¬ B = A;omega)
 have F5:=(f0.step0 f4).step1 g5 hab.1
 have hsz:=f0.size
 have o5':=own_base o5 hsz
 clear u2 u4 z4 bA4 g5 o4 f4 CH bA bB f0 o5
 generalize w4.setCell ⟨A,0,none⟩ (.slice A4 c.Parents.length c4) = W5 at bA5 bB5 o5' F5 ⊢
 have u5:=(cgAt (Cod.bxd_rd bA5)).ops
 simp only at u5
 go_upto_region 3 with (go_at_call 44;refine (CS.out _ F5).mono ?_;rintro e w6 ⟨A6,c6,rs6,L6,rfl,hp6,hs6,hsl6,ha6,hb6,f6⟩;have u6:=cell_fr0 u5 f6;have z6:=(Cod.bxd_blk (Cod.bxd_fr0 bA5 f6)).frozen 3)
 obtain rfl:=perm_srt hp6 hs6 HS.out
 have bA6:=Cod.bxd_fr0 bA5 f6
 have g7:=Cod.set_fr w6 A 3 (.slice A6 rs6.length c6)
 have bA7:=Cod.bxd_set bA6 3 (.slice A6 rs6.length c6) _ (seC_Ops _ _ _ _)
 have bB7:=Cod.bxd_fr (Cod.bxd_fr0 bB5 f6) g7 (by show ¬ B = A;omega)
 have o7:=own_box (Cod.bxd_blk bA6) (own_new0 o5' f6) (by decide) g7
 have F7:=(F5.step0 f6).step1 g7 hab.1
 have hblk:=Cod.bxd_blk bA6
 have hF5:=F5.size
 have ha7:AllO (OpN w.heap.size) (w6.setCell ⟨A,3,none⟩ (.slice A6 rs6.length c6)) rs6 c.Ops:=⟨ha6.1,fun i h h'=>by
  have hq:=ha6.2 i h h'
  have hs0:NoHS (oneB A) w6:=NoHS.blk hblk (by decide) (by decide)
  exact ⟨hq.op.fr g7 hs0,own_base (own_box hblk hq.own (by decide) g7) hF5⟩⟩
 have hb7:rs6 ≠ [] → ∃ g,A6 = some ⟨g,0,none⟩ ∧ w.heap.size ≤ g ∧ RwA codO (w6.setCell ⟨A,3,none⟩ (.slice A6 rs6.length c6)) g rs6.toArray:=fun hne=>by
  obtain ⟨g,e,hge,hr⟩:=hb6 hne
  refine ⟨g,e,by omega,?_⟩
  obtain ⟨cur,h1,h2⟩:=hr
  have hgA:g ≠ A:=fun e=>by
   rw [e,hblk] at h1
   injection h1 with h1
   injection h1 with _ h1
   exact absurd h1 (by decide)
  exact ⟨cur,(g7.block g (Array.getElem?_eq_some_iff.1 h1).1 hgA).trans h1,h2⟩
 have HN7:=Lib.hid (And.intro o7 (And.intro ha7 (And.intro hb7 F7)))
 clear u5 u6 z6 bA6 g7 f6 hsl6 ha6 hb6 hp6 o5' o7 ha7 hb7 hblk bA5 bB5 F5 CS F7
 obtain ⟨r',hr'⟩:∃ q:CgW,q = { r with PA:=A4,pn:=c.Parents.length,pc:=c4,OA:=A6,on:=rs6.length,oc:=c6 }:=⟨_,rfl⟩
 have e7:codC.bxd (w6.setCell ⟨A,3,none⟩ (.slice A6 rs6.length c6)) A = some r':=by rw [hr'];exact bA7
 have HR:=Lib.hid hr'
 clear hr' bA7
 generalize w6.setCell ⟨A,3,none⟩ (.slice A6 rs6.length c6) = W7 at e7 bB7 HN7 ⊢
 have rA7:=Cod.bxd_rd e7
 have hst:=okC.stR_box bB7 r'
 obtain ⟨p1,p2,p3⟩:=Cod.put_fr bB7 r'
 have HP:=Lib.hid (And.intro p1 (And.intro p2 p3))
 clear p1 p2 p3
 go_wp2_with fail
 obtain ⟨p1,p2,p3⟩:=HP.out
 refine bodyPost_ret (ret_row okC rfl _ _ B _ (by rfl) p3) rfl ?_
 obtain ⟨o7,ha7,hb7,F7⟩:=HN7.out
 have hblk:=Cod.bxd_blk bB7
 have hr:=HR.out
 have o8:=own_box hblk o7 (by decide) p1
 have ha8:AllO (OpN w.heap.size) (codC.put W7 B r') rs6 c.Ops:=ha7.map fun q x hq =>
  ⟨hq.op.fr p1 (NoHS.blk hblk (by decide) (by decide)),own_box hblk hq.own (by decide) p1⟩
 have hb8:rs6 ≠ [] → ∃ g,A6 = some ⟨g,0,none⟩ ∧ w.heap.size ≤ g ∧ RwA codO (codC.put W7 B r') g rs6.toArray:=fun hne=>by
  obtain ⟨g,e,hge,cur,h1,h2⟩:=hb7 hne
  have hgB:g ≠ B:=fun e=>by
   rw [e,hblk] at h1
   injection h1 with h1
   injection h1 with _ h1
   exact absurd h1 (by decide)
  exact ⟨g,e,hge,cur,(p1.block g (Array.getElem?_eq_some_iff.1 h1).1 hgB).trans h1,h2⟩
 have hsl:Sl (codC.put W7 B r') A6 (codO.row rs6):=by
  by_cases h0:rs6 = []
  ·rw [h0];exact Sl.nil _ _
  ·obtain ⟨g,e,_,hr⟩:=hb8 h0
   rw [e]
   exact hr.sl
 obtain ⟨a1,a2,a3,a4,a5,a6,a7,a8,a9,a10,a11,a12⟩:=HX.out
 refine ⟨r',rs6,rfl,?_,F7.step1 p1 (by have:=HAB.out;omega)⟩
 subst hr
 exact ⟨⟨a1,a2,a3,a4,rfl,Sl.own o8,rfl,hsl,⟨ha8.1,fun i h h'=>(ha8.2 i h h').op.inn⟩,a10,by rw [ha8.1,← a9.len];exact a11,a12⟩,o8,hb8,ha8⟩
end Go.Proofs.YtjpieiccpbcabaaGreat
namespace Go.Proofs.YtjpieiccpbcabaaGreat
open Go.RowKit Go.Maps Go.Sort Go.Shelf
attribute [local go_sem] Oper.semAt_some
def zChg:Chg:=⟨[],0,0,[],zID,[]⟩
theorem cgz_in (w:World):CgIn w zCgW [] zChg:=⟨rfl,rfl,rfl,rfl,rfl,Sl.nil _ _,rfl,Sl.nil _ _,⟨rfl,fun i h=>absurd h (by simp)⟩,by simp [zChg],by simp,by simp [zCgW]⟩
theorem HsA.getC {w:World} {H D A O:Nat} {kvA:List (ID × Value)} {kvO:List (St × Value)} {F Q:Nat → Prop} {L:Hst} (h:HsA w H D A O kvA kvO F Q L) (x:ID) :
  ∃ (r:CgW) (rs:List OpW) (c:Chg) (b:Bool),(Go.Proofs.YtjpieiccpbcabaaGreat.look kvA x).getD (.agg (codC.A zCgW)) = .agg (codC.A r) ∧ (Go.Proofs.YtjpieiccpbcabaaGreat.look kvA x).isSome = b ∧ c = (findC L x).getD zChg ∧ b = (findC L x).isSome ∧ CgQ Q w r rs c ∧ SrtL c.Ops ∧ c.Ops.length ≤ 64 ∧ (∀ o ∈ c.Ops,o.Over.length ≤ 64) ∧ c.Parents.length ≤ 2:=by
 rcases h.look x with ⟨h1,h2⟩ | ⟨c,r,rs,h1,h2,h3⟩
 ·refine ⟨zCgW,[],zChg,false,by rw [h2];rfl,by rw [h2];rfl,by rw [h1];rfl,by rw [h1];rfl,⟨cgz_in w,fun hne=>absurd rfl hne,fun hne=>absurd rfl hne,fun i h=>absurd h (by simp)⟩,by simp [zChg,SrtL],by simp [zChg],by simp [zChg],by simp [zChg]⟩
 ·obtain ⟨p1,_,_,p4,p5,p6,_⟩:=rightCh_parts (h.ok.right _ (findC_mem h1))
  exact ⟨r,rs,c,true,by rw [h2];rfl,by rw [h2];rfl,by rw [h1];rfl,by rw [h1];rfl,h3,p5,p6,fun o ho=>goodOp_over (p4 o ho).1,p1⟩
def CmTo (w:World) (L:Hst) (x:ID) (e:Ending) (w':World):Prop :=
 ∃ r rs,e = .returned (.tuple #[.agg (codC.A r),.bool (findC L x).isSome]) ∧ CgNew w.heap.size w' r rs ((findC L x).getD zChg) ∧ Fr noB w w'
theorem CgNew.put {base:Nat} {w w':World} {r:CgW} {rs:List OpW} {c:Chg} {B:Nat} {v:CgW} (h:CgNew base w r rs c) (hB:codC.bxd w B = some v) (f:Fr (oneB B) w w'):CgNew base w' r rs c:=by
 have hblk:=Cod.bxd_blk hB
 have o:=own_box hblk h.po (by decide) f
 have ha:AllO (OpN base) w' rs c.Ops:=h.vo.map fun q x hq=>⟨hq.op.fr f (NoHS.blk hblk (by decide) (by decide)),own_box hblk hq.own (by decide) f⟩
 have hb:rs ≠ [] → ∃ g,r.OA = some ⟨g,0,none⟩ ∧ base ≤ g ∧ RwA codO w' g rs.toArray:=fun hne=>by
  obtain ⟨g,e,hge,cur,h1,h2⟩:=h.oo hne
  have hgB:g ≠ B:=fun e=>by
   rw [e,hblk] at h1
   injection h1 with h1
   injection h1 with _ h1
   exact absurd h1 (by decide)
  exact ⟨g,e,hge,cur,(f.block g (Array.getElem?_eq_some_iff.1 h1).1 hgB).trans h1,h2⟩
 have hsl:Sl w' r.OA (codO.row rs):=by
  by_cases h0:rs = []
  ·rw [h0];exact Sl.nil _ _
  ·obtain ⟨g,e,_,hr⟩:=hb h0
   rw [e]
   exact hr.sl
 obtain ⟨a1,a2,a3,a4,a5,a6,a7,a8,a9,a10,a11,a12⟩:=h.inn
 exact ⟨⟨a1,a2,a3,a4,a5,by rw [← a5] at o;exact Sl.own o,a7,hsl,⟨ha.1,fun i h h'=>(ha.2 i h h').op.inn⟩,a10,a11,a12⟩,o,hb,ha⟩
set_option maxRecDepth 100000 in
set_option maxHeartbeats 4000000 in
theorem mgCommit_any {w:World} {H:Nat} {S:Nat → Prop} {L:Hst} (h:Hs w H S L) (x:ID):Calls Tryz.prog 14 #[.pointer (some ⟨H,0,none⟩),encI x] w (CmTo w L x):=by
 obtain ⟨D,A,O,kvA,kvO,F,Q,h1,h2,h3⟩:=h
 have f0:Fr noB w ((w.alloc (ido x)).alloc (codC.o zCgW)):=((Fr.refl noB w).alloc _).alloc _
 have q0:rdI (w.alloc (ido x)) w.heap.size 0 = some x:=rdI_new w x
 have q:=rdI_fr q0 (rdI_lt q0) ((Fr.refl noB _).alloc (codC.o zCgW)) (by simp [noB])
 have bB:=Cod.bxd_new (C:=codC) (w.alloc (ido x)) zCgW
 have hz:(w.alloc (ido x)).heap.size = w.heap.size + 1:=by simp
 rw [hz] at bB
 obtain ⟨rw0,rs0,c0,b0,hl1,hl2,e1,e2,hc0,hs0,hn0,hv0,hp0⟩:=h1.getC x
 have H0:=Lib.hid hc0.inn
 have HX0:=Lib.hid (And.intro e1 e2)
 have HP0:=Lib.hid (And.intro hs0 (And.intro hn0 (And.intro hv0 hp0)))
 have ht0:=cell_fr0 h1.c1 f0
 have hm0:=mpI_fr h1.all f0 (by simp [noB])
 clear h1 h2 h3 hc0 e1 e2 hs0 hn0 hv0 hp0 q0 hz
 go_enter Tryz.func14,Tryz.ntmps14
 go_upto_region 1 with fail
 generalize (w.alloc (ido x)).alloc (codC.o zCgW) = W0 at f0 q bB ht0 hm0 ⊢
 obtain ⟨S,hS⟩:∃ x,x = w.heap.size:=⟨_,rfl⟩
 obtain ⟨B,hB⟩:∃ x,x = w.heap.size + 1:=⟨_,rfl⟩
 rw [← hB] at bB
 rw [← hS] at q ⊢
 have eSB:S + 1 = B:=by omega
 rw [eSB]
 have HSB:=Lib.hid (And.intro hS hB)
 clear hS hB eSB
 have hk:∀ w' w'':World,Fr noB w' w'' → (w'.cell? ⟨H,1,none⟩ = some (.map (some A)) ∧ rdI w' S 0 = some x ∧ mpI w' A = some kvA) → (w''.cell? ⟨H,1,none⟩ = some (.map (some A)) ∧ rdI w'' S 0 = some x ∧ mpI w'' A = some kvA):=fun w' w'' f h=>⟨cell_fr0 h.1 f,rdI_fr h.2.1 (rdI_lt h.2.1) f (by simp [noB]),mpI_fr h.2.2 f (by simp [noB])⟩
 have fd:Fr noB W0 W0.drew:=(Fr.refl noB W0).drew
 have hF0:=hk _ _ fd ⟨ht0,q,hm0⟩
 refine wp_region_M 11 12 [⟨512,1,0⟩,⟨1024,512,1⟩,⟨2048,1024,2⟩,⟨4096,2048,4⟩,⟨8192,8,0⟩,⟨16384,12288,24⟩,⟨256,16384,32⟩,⟨32768,256,64⟩,⟨65536,256,64⟩,⟨64,0,0⟩,⟨0,32832,767⟩,⟨128,65536,2047⟩] [(true,0),(true,1),(true,2),(true,3),(true,4),(true,5),(true,6),(true,7),(true,8),(false,9),(false,10)] (fun w'=>w'.cell? ⟨H,1,none⟩ = some (.map (some A)) ∧ rdI w' S 0 = some x ∧ mpI w' A = some kvA) (by kernel_rfl) rfl (by kernel_rfl) (by kernel_rfl) (by kernel_rfl) hF0 (fun hA hF=>?_)
 iterate 9
  refine wpAnyS_take (v:=?_) hA rfl (fun _ _ _ h=>h) (Or.inl ⟨by rfl,?_⟩) hF (fun hA=>?_)
  rotate_left
  ·intro wS hSw;(try dsimp only at hSw);obtain ⟨s1,s2,s3⟩:=hSw;first | (apply Eq.trans;apply ex_ld_id;exact rfl;exact rfl;assumption;with_reducible rfl) | (apply Eq.trans;apply ex_ldO_at;exact rfl;exact rfl;assumption;with_reducible rfl) | (apply Eq.trans;apply ex_ldS_at;exact rfl;exact rfl;assumption;with_reducible rfl) | (go_simp;try with_reducible rfl)
  try simp only [sA1,sA2,sA3,Act.put,sA4,sA5,sA6]
 refine wpAnyS_one hA rfl (fun K' hK=>?_)
 refine step_runI rfl _ _ (okC.alOp _ _ rfl _) ?_
 have fa:Fr noB W0.drew (W0.drew.alloc (codC.o zCgW)):=(Fr.refl noB _).alloc _
 replace hF:=hk _ _ fa hF
 refine hK.out _ _ hF (fun hA=>?_)
 clear hK K'
 as_aux_lemma =>
 refine wpAnyS_one hA rfl (fun K' hK=>?_)
 refine stp_skip rfl _ (ex_stV_at (C:=codC) (v:=rw0) rfl rfl rfl (st_newC W0.drew rw0 zCgW)) ?_
 have fb:Fr noB W0.drew (W0.drew.alloc (codC.o rw0)):=(Fr.refl noB _).alloc _
 replace hF:=(hk _ _ fb hF0)
 refine hK.out _ _ hF (fun hA=>?_)
 clear hK K'
 as_aux_lemma =>
 refine wpAnyS_end hA rfl ?_
 simp only [List.drop_succ_cons,List.drop_zero]
 clear hF hk hF0 fa hl1 hl2
 have bN:codC.bxd (W0.drew.alloc (codC.o rw0)) W0.drew.heap.size = some rw0:=Cod.bxd_new (C:=codC) W0.drew rw0
 have f1:=fd.step0 fb
 have bB1:=Cod.bxd_fr0 bB f1
 have g1:=f0.step0 f1
 clear q bB ht0 hm0 f0 fd fb f1
 generalize W0.drew.alloc (codC.o rw0) = W1 at bN bB1 g1 ⊢
 generalize W0.drew.heap.size = N at bN ⊢
 have rN:=Cod.bxd_rd bN
 have CC:=Lib.hid (fun w' (f:Fr noB W1 w')=>mgClone_any w' rw0 rs0 c0 ((H0.out.fr g1).fr f) HP0.out.1 (by have:=HP0.out.2.1;omega) (fun o ho=>by have:=HP0.out.2.2.1 o ho;omega) (by have:=HP0.out.2.2.2;omega))
 go_wp2_with (go_at_call 38;refine (CC.out _ (Fr.refl noB _)).mono ?_;rintro e w4 ⟨r',rs',rfl,hr',f4⟩;have bB4:=Cod.bxd_fr0 bB1 f4;have hst:=okC.stR_box bB4 r';obtain ⟨p1,p2,p3⟩:=Cod.put_fr bB4 r')
 have hsb:=HSB.out
 refine bodyPost_ret (ret_row_tmp okC rfl _ _ B _ (by rfl) p3) rfl ?_
 obtain ⟨e1,e2⟩:=HX0.out
 refine ⟨r',rs',by rw [← e2];rfl,?_,(g1.step0 f4).step1 p1 (by omega)⟩
 rw [← e1]
 have hg:=g1.size
 have h7:=hr'.put bB4 p1
 exact ⟨h7.inn,own_base h7.po hg,fun hne=>by
  obtain ⟨g,e,hge,hr⟩:=h7.oo hne
  exact ⟨g,e,by omega,hr⟩,⟨h7.vo.1,fun i a b=>⟨(h7.vo.2 i a b).op,own_base (h7.vo.2 i a b).own hg⟩⟩⟩
def GvTo (W:World) (xs:List Opn) (e:Ending) (w':World):Prop:=∃ b t,e = .returned (.pointer (some ⟨b,0,none⟩)) ∧ GvS W.heap.size w' b t xs ∧ Fr noB W w'
def MtLoop (W:World) (b:Nat) (xs:List Opn) (gk:Nat) (iv:Value) (wr:World):Prop :=
 ∃ (k:Nat) (t:TrW),iv = .int .i64 (k:Int) ∧ gk = xs.length - k ∧ k ≤ xs.length ∧ GvS W.heap.size wr b t (xs.take k) ∧ Fr noB W wr
set_option maxRecDepth 100000 in
set_option maxHeartbeats 4000000 in
theorem mgTree_any (W:World) (A:Option Addr) (c n:Nat) (rs:List OpW) (xs:List Opn) (hn:rs.length = n) (hs:Sl W A (codO.row rs)) (hX:AllO OpIn W rs xs) (hg:∀ o ∈ xs,goodOp o = true) (hr:SrtL xs) (hb:xs.length ≤ 90000) :
  Calls Tryz.prog 48 #[.slice A n c] W (GvTo W xs):=by
 have hnx:n = xs.length:=by rw [← hn];exact hX.1
 subst hnx
 have HX:=Lib.hid hX
 have HS:=Lib.hid hs
 have HB:=Lib.hid hb
 have HG:=Lib.hid hg
 have HR:=Lib.hid hr
 have HN:=Lib.hid hn
 clear hX hs hb hg hr hn
 go_enter Tryz.func48,Tryz.ntmps48
 go_upto_region 3 with (go_at_call 81;refine (gvNew_any _).mono ?_;rintro e w1 ⟨b,t0,rfl,h0,hu0,f1⟩)
 have hi0:MtLoop W b xs xs.length (.int .i64 ((0:Nat):Int)) w1:=⟨0,t0,rfl,rfl,Nat.zero_le _,h0,f1⟩
 clear h0 f1 hu0
 go_loopg [9] xs.length (fun gk iv wr=>MtLoop W b xs gk iv wr)
 case atStart=>exact hi0
 case round =>
  clear hi0
  obtain ⟨k,t,rfl,rfl,hk,hG,hf⟩:=hrel
  by_cases hlt:k < xs.length
  ·have j0:(0:Int) ≤ (k:Int):=by omega
   have j1:(k:Int) < (xs.length:Int):=by omega
   have hkr:k < rs.length:=by rw [HN.out];exact hlt
   obtain ⟨g,off,rfl,hgg⟩:=HS.out.adC (by omega)
   have e1:codO.rd wr g (off + k * 41) = some rs[k]:=(HS.out.fr0 hf).rd k hkr
   have hin:=HX.out.2 k hkr hlt
   have HTK:=Lib.hid (show xs.take (k + 1) = xs.take k ++ xs[k] :: [] from List.take_succ_eq_append_getElem hlt)
   have hgd:=HG.out _ (List.getElem_mem hlt)
   have hlat:∀ p ∈ xs.take k,cmpS p.At (xs[k]).At < 0:=fun p hp=>by
    obtain ⟨i,hi,rfl⟩:=List.getElem_of_mem hp
    rw [List.length_take] at hi
    rw [List.getElem_take]
    exact List.pairwise_iff_getElem.1 HR.out i k (by omega) hlt (by omega)
   have HSK:=Lib.hid (show SrtL (xs.take k) from List.Pairwise.sublist (List.take_sublist _ _) HR.out)
   generalize rs[k] = r at e1 hin
   generalize xs[k] = x at hin HTK hgd hlat
   have HIN:=Lib.hid (hin.fr hf)
   have HGD:=Lib.hid hgd
   have HLAT:=Lib.hid hlat
   have HLT:=Lib.hid hlt
   have HG0:=Lib.hid hG
   have HF:=Lib.hid hf
   clear hk hlt hgg hin hgd hlat hG hf hkr
   go_upto_region 5 with fail
   have f12:Fr noB wr (wr.alloc (codO.o r)):=(Fr.refl noB wr).alloc _
   have q12:=Cod.rd_new' (C:=codO) wr r
   obtain ⟨D2,hD2⟩:∃ x,x = wr.heap.size:=⟨_,rfl⟩
   rw [← hD2] at q12 ⊢
   have HG12:=Lib.hid (HG0.out.fr0 f12)
   have HIN12:=Lib.hid (HIN.out.fr f12)
   have F12:=Lib.hid (HF.out.step0 f12)
   clear hD2 e1 f12 HG0 HIN HF
   generalize wr.alloc (codO.o r) = W12 at q12 HG12 HIN12 F12 ⊢
   have hk9:k ≤ 100000:=by have:=HB.out;have:=HLT.out;omega
   go_wp2_with (go_at_call 82;go_loud (refine (gvIns_mid (xs.take k) [] (by rw [List.append_nil];exact HG12.out) (by rw [List.append_nil];exact HSK.out) (by rw [List.append_nil,List.length_take];omega) r x HIN12.out (by have:=goodOp_over HGD.out;omega) HGD.out HLAT.out (by simp)).mono ?_;rintro e w5 ⟨t5,rfl,h5,u5,m5,f5⟩))
   go_roundg (xs.length - (k + 1))
   case measure=>have:=HLT.out;omega
   case rel=>exact ⟨k + 1,t5,rfl,rfl,HLT.out,by rw [HTK.out];exact h5,F12.out.step f5 (fun q hq=>.inl (HG12.out.base hq))⟩
  ·have j1:¬ (k:Int) < (xs.length:Int):=by omega
   have hke:k = xs.length:=by omega
   go_wp2_with fail
   go_ret
   rw [hke,List.take_length] at hG
   exact ⟨b,t,rfl,hG,hf⟩
end Go.Proofs.YtjpieiccpbcabaaGreat
