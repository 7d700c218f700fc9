/- A history in memory; maps from IDs to commits, from stamps to operations. Contracts: merge.New, Dag, clone, Commit. Contracts: merge's Commit, tree. (rdI, ex_ldS_at, ex_ldO_at) Contracts: merge's Ops, Rows. (rdI, ex_ldS_at, ex_ldO_at) Contracts: the closures of merge's Add, right, clash; right, clash. (rdI, ex_ldS_at, ex_ldO_at, ex_ldC_at) Contracts: merge's right, clash. (rdI, ex_ldS_at, ex_ldO_at, ex_ldC_at) Contract: merge's Add. (rdI, ex_ldS_at, ex_ldO_at, ex_ldC_at) Contract: merge's Add. (rdI, ex_ldS_at, ex_ldO_at, ex_ldC_at) Contracts: the closure of merge's fast, IndexFunc and DeleteFunc of operations with it. (ex_ldS_at, ex_ldO_at) -/
import Derived.Test.YtjpieiccpbcabaaGreatMgPKu
import Derived.Test.YtjpieiccpbcabaaGreatMgSKu
import Derived.Test.YtjpieiccpbcabaaGreatDagW8Ku
import Derived.Test.YtjpieiccpbcabaaGreatFrameOKu
set_option linter.unusedVariables false
set_option linter.unusedSimpArgs false
namespace Go.Proofs.YtjpieiccpbcabaaGreat
open Go.RowKit Go.Maps Go.Sort
theorem zeroCg (w:World):(zeroValue 35).run Tryz.prog w = .ok (.agg (codC.A zCgW)) w:=okC.zv w
theorem zeroOp (w:World):(zeroValue 83).run Tryz.prog w = .ok (.agg (codO.A zOpW)) w:=okO.zv w
/-! map[api.ID]api.Change -/
@[simp] theorem lk_ic (w:World) (r:Nat) (x:ID):(Instr.lookup 86 (.map (some r)) (encI x) false).run Tryz.prog w = match mpI w r with | some kv=>.ok ((look kv x).getD (.agg (codC.A zCgW))) w | none=>elseR ((Instr.lookup 86 (.map (some r)) (encI x) false).run Tryz.prog w):=by
 cases h:mpI w r with
 | none=>exact elseR_eq _
 | some kv=>exact (mpI_mp h).look keyI Tryz.underlying86 (zeroCg w) x
@[simp] theorem lk_ic_ok (w:World) (r:Nat) (x:ID):(Instr.lookup 86 (.map (some r)) (encI x) true).run Tryz.prog w = match mpI w r with | some kv=>.ok (.tuple #[(look kv x).getD (.agg (codC.A zCgW)),.bool (look kv x).isSome]) w | none=>elseR ((Instr.lookup 86 (.map (some r)) (encI x) true).run Tryz.prog w):=by
 cases h:mpI w r with
 | none=>exact elseR_eq _
 | some kv=>exact (mpI_mp h).lookOk keyI Tryz.underlying86 (zeroCg w) x
/-! map[api.Stamp]api.Op -/
@[simp] theorem lk_so_ok (w:World) (r:Nat) (x:St):(Instr.lookup 87 (.map (some r)) (.agg (codS.A x)) true).run Tryz.prog w = match mpT w r with | some kv=>if wfS x = true then .ok (.tuple #[(look kv x).getD (.agg (codO.A zOpW)),.bool (look kv x).isSome]) w else elseR ((Instr.lookup 87 (.map (some r)) (.agg (codS.A x)) true).run Tryz.prog w) | none=>elseR ((Instr.lookup 87 (.map (some r)) (.agg (codS.A x)) true).run Tryz.prog w):=by
 cases h:mpT w r with
 | none=>exact elseR_eq _
 | some kv =>
  simp only
  split
  ·rename_i hx
   obtain ⟨kv,rfl,hm⟩:=mpT_mp h
   rw [look_upK kv ⟨x,hx⟩]
   exact hm.lookOk keyK Tryz.underlying87 (zeroOp w) ⟨x,hx⟩
  ·exact elseR_eq _
@[simp] theorem bld_hist (w:World) (p:Option Addr) (q r:Option Nat):(Instr.build 89 #[(0,.pointer p),(1,.map q),(2,.map r)]).run Tryz.prog w = .ok (.agg #[.pointer p,.map q,.map r]) w:=by kernel_rfl
def InQ (Q:Nat → Prop) (A:Option Addr):Prop:=∀ g,A.map (·.block) = some g → Q g
theorem Sl.frQ {Q M:Nat → Prop} {w w':World} {A:Option Addr} {xs:List Value} (h:Sl w A xs) (f:Fr M w w') (hq:xs ≠ [] → InQ Q A) (hM:∀ g,Q g → ¬ M g):Sl w' A xs:=by
 intro hne
 obtain ⟨g,off,e,hg,hc⟩:=h hne
 have hQ:Q g:=hq hne g (by rw [e];rfl)
 exact ⟨g,off,e,Nat.lt_of_lt_of_le hg f.size,fun j u hu=>(World.cell?_of_block (w:=w) (a:=⟨g,off + j,none⟩) (f.block g hg (hM g hQ))).trans (hc j u hu)⟩
structure OpQ (Q:Nat → Prop) (w:World) (r:OpW) (o:Opn):Prop where
 inn:OpIn w r o
 q:o.Over ≠ [] → InQ Q r.A
theorem row_nil {α:Type} {C:Cod α} {l:List α} (h:C.row l ≠ []):l ≠ []:=by
 rintro rfl
 exact h rfl
theorem OpQ.fr {Q M:Nat → Prop} {w w':World} {r:OpW} {o:Opn} (h:OpQ Q w r o) (f:Fr M w w') (hM:∀ g,Q g → ¬ M g):OpQ Q w' r o :=
 ⟨⟨h.inn.eq,h.inn.len,h.inn.sl.frQ f (fun hne=>h.q (row_nil hne)) hM,h.inn.bd,h.inn.nm⟩,h.q⟩
theorem OpQ.mono {Q Q':Nat → Prop} {w:World} {r:OpW} {o:Opn} (h:OpQ Q w r o) (hQ:∀ g,Q g → Q' g):OpQ Q' w r o:=⟨h.inn,fun hne g hg=>hQ g (h.q hne g hg)⟩
theorem OpN.q {base:Nat} {w:World} {r:OpW} {o:Opn} (h:OpN base w r o) {Q:Nat → Prop} (hQ:∀ g,base ≤ g → g < w.heap.size → Q g):OpQ Q w r o :=
 ⟨h.op.inn,fun _ g hg=>by
  have:=own_lt h.own g hg
  exact hQ g this.1 this.2⟩
structure CgQ (Q:Nat → Prop) (w:World) (r:CgW) (rs:List OpW) (c:Chg):Prop where
 inn:CgIn w r rs c
 pq:c.Parents ≠ [] → InQ Q r.PA
 oq:rs ≠ [] → InQ Q r.OA
 vq:∀ i (h:i < rs.length) (h':i < c.Ops.length),OpQ Q w rs[i] c.Ops[i]
theorem idc_nil {l:List ID} (h:idc l ≠ []):l ≠ []:=by
 rintro rfl
 exact h rfl
theorem CgQ.fr {Q M:Nat → Prop} {w w':World} {r:CgW} {rs:List OpW} {c:Chg} (h:CgQ Q w r rs c) (f:Fr M w w') (hM:∀ g,Q g → ¬ M g):CgQ Q w' r rs c:=by
 obtain ⟨⟨a1,a2,a3,a4,a5,a6,a7,a8,a9,a10,a11,a12⟩,b1,b2,b3⟩:=h
 have b3':=fun i h h'=>(b3 i h h').fr f hM
 exact ⟨⟨a1,a2,a3,a4,a5,a6.frQ f (fun hne=>b1 (idc_nil hne)) hM,a7,a8.frQ f (fun hne=>b2 (row_nil hne)) hM,⟨a9.1,fun i h h'=>(b3' i h h').inn⟩,a10,a11,a12⟩,b1,b2,b3'⟩
theorem CgQ.mono {Q Q':Nat → Prop} {w:World} {r:CgW} {rs:List OpW} {c:Chg} (h:CgQ Q w r rs c) (hQ:∀ g,Q g → Q' g):CgQ Q' w r rs c :=
 ⟨h.inn,fun hne g hg=>hQ g (h.pq hne g hg),fun hne g hg=>hQ g (h.oq hne g hg),fun i a b=>(h.vq i a b).mono hQ⟩
def OpsM (Q:Nat → Prop) (w:World) (kv:List (St × Value)) (P:List Opn):Prop :=
 ∀ s,(findO P s = none ∧ look kv s = none) ∨ ∃ o r,findO P s = some o ∧ look kv s = some (.agg (codO.A r)) ∧ OpQ Q w r o
theorem OpsM.fr {Q M:Nat → Prop} {w w':World} {kv:List (St × Value)} {P:List Opn} (h:OpsM Q w kv P) (f:Fr M w w') (hM:∀ g,Q g → ¬ M g):OpsM Q w' kv P:=fun s=>by
 rcases h s with h | ⟨o,r,h1,h2,h3⟩
 ·exact .inl h
 ·exact .inr ⟨o,r,h1,h2,h3.fr f hM⟩
theorem OpsM.mono {Q Q':Nat → Prop} {w:World} {kv:List (St × Value)} {P:List Opn} (h:OpsM Q w kv P) (hQ:∀ g,Q g → Q' g):OpsM Q' w kv P:=fun s=>by
 rcases h s with h | ⟨o,r,h1,h2,h3⟩
 ·exact .inl h
 ·exact .inr ⟨o,r,h1,h2,h3.mono hQ⟩
theorem OpsM.congr {Q:Nat → Prop} {w:World} {kv:List (St × Value)} {P P':List Opn} (h:OpsM Q w kv P) (e:∀ s,findO P s = findO P' s):OpsM Q w kv P':=fun s=>by
 rw [← e s]
 exact h s
theorem look_putA {α:Type} [DecidableEq α] (x:α) (v:Value) (y:α):∀ kv:List (α × Value),look (putL kv x v) y = if x = y then some v else look kv y
 | []=>by
  by_cases h:x = y <;> simp [putL,look,h]
 | p :: kv=>by
  have ih:=look_putA x v y kv
  by_cases hp:p.1 = x
  ·have h1:(look (p :: kv) x).isSome = true:=by simp [look,hp]
   have e:putL (p :: kv) x v = (x,v) :: kv.map (fun q=>if q.1 = x then (x,v) else q):=by
    unfold putL
    rw [if_pos h1,List.map_cons,if_pos hp]
   rw [e]
   by_cases h:x = y
   ·simp [look,h]
   ·have h2:p.1 ≠ y:=by rw [hp];exact h
    have e2:look (p :: kv) y = look kv y:=by simp [look,h2]
    have e3:look ((x,v) :: kv.map (fun q=>if q.1 = x then (x,v) else q)) y = look (kv.map (fun q=>if q.1 = x then (x,v) else q)) y:=by simp [look,h]
    rw [if_neg h,e2,e3]
    clear ih e e2 e3 h1
    induction kv with
    | nil=>rfl
    | cons q kv ih =>
     rw [List.map_cons]
     by_cases hq:q.1 = x
     ·have h3:q.1 ≠ y:=by rw [hq];exact h
      rw [if_pos hq]
      have a1:look ((x,v) :: kv.map (fun q=>if q.1 = x then (x,v) else q)) y = look (kv.map (fun q=>if q.1 = x then (x,v) else q)) y:=by simp [look,h]
      have a2:look (q :: kv) y = look kv y:=by simp [look,h3]
      rw [a1,a2]
      exact ih
     ·rw [if_neg hq]
      by_cases hqy:q.1 = y
      ·simp [look,hqy]
      ·have a1:look (q :: kv.map (fun q=>if q.1 = x then (x,v) else q)) y = look (kv.map (fun q=>if q.1 = x then (x,v) else q)) y:=by simp [look,hqy]
       have a2:look (q :: kv) y = look kv y:=by simp [look,hqy]
       rw [a1,a2]
       exact ih
  ·have e:putL (p :: kv) x v = p :: putL kv x v:=by
    have h1:look (p :: kv) x = look kv x:=by simp [look,hp]
    unfold putL
    rw [h1]
    split
    ·rw [List.map_cons,if_neg hp]
    ·rfl
   rw [e]
   by_cases h:p.1 = y
   ·have:x ≠ y:=fun e=>hp (h.trans e.symm)
    simp [look,h,this]
   ·have a1:look (p :: putL kv x v) y = look (putL kv x v) y:=by simp [look,h]
    have a2:look (p :: kv) y = look kv y:=by simp [look,h]
    rw [a1,a2]
    exact ih
theorem findO_snoc {P:List Opn} {o:Opn} (hs:SameO (P ++ [o])) (s:St):findO (P ++ [o]) s = if o.At = s then some o else findO P s:=by
 unfold findO
 rw [List.find?_append]
 by_cases h:o.At = s
 ·cases hf:P.find? (fun o=>decide (o.At = s)) with
  | none=>simp [h]
  | some x =>
   obtain ⟨h1,h2⟩:=findO_some (P:=P) hf
   have:=hs x (by simp [h1]) o (by simp) (h2.trans h.symm)
   simp [h,this]
 ·cases hf:P.find? (fun o=>decide (o.At = s)) with
  | none=>simp [h]
  | some x=>simp [h]
theorem OpsM.put {Q:Nat → Prop} {w:World} {kv:List (St × Value)} {P:List Opn} {o:Opn} {r:OpW} (h:OpsM Q w kv P) (hs:SameO (P ++ [o])) (ho:OpQ Q w r o):OpsM Q w (putL kv o.At (.agg (codO.A r))) (P ++ [o]):=fun s=>by
 rw [look_putA,findO_snoc hs]
 by_cases e:o.At = s
 ·exact .inr ⟨o,r,by rw [if_pos e],by rw [if_pos e],ho⟩
 ·rw [if_neg e,if_neg e]
  exact h s
structure HsA (w:World) (H D A O:Nat) (kvA:List (ID × Value)) (kvO:List (St × Value)) (F Q:Nat → Prop) (L:Hst):Prop where
 blk:Blk w H 89 [.pointer (some ⟨D,0,none⟩),.map (some A),.map (some O)]
 dag:DagAt w D F (dgH L)
 all:mpI w A = some kvA
 ops:mpT w O = some kvO
 cn:∀ x,findC L x = none → look kvA x = none
 cs:∀ x c,findC L x = some c → ∃ r rs,look kvA x = some (.agg (codC.A r)) ∧ CgQ Q w r rs c
 os:OpsM Q w kvO (opsH L)
 ok:HOk L
 nFH:¬ F H
 nFA:¬ F A
 nFO:¬ F O
 nAO:A ≠ O
 q:∀ g,Q g → ¬ F g ∧ g ≠ A ∧ g ≠ O ∧ g < w.heap.size
 lt:∀ b,F b → b < w.heap.size
def Hs (w:World) (H:Nat) (S:Nat → Prop) (L:Hst):Prop :=
 ∃ D A O kvA kvO F Q,HsA w H D A O kvA kvO F Q L ∧ (∀ b,(F b ∨ Q b ∨ b = H ∨ b = A ∨ b = O) → S b) ∧ (∀ b,S b → b < w.heap.size)
section
variable {w w':World} {H D A O:Nat} {kvA:List (ID × Value)} {kvO:List (St × Value)} {F Q:Nat → Prop} {L:Hst}
theorem HsA.nHA (h:HsA w H D A O kvA kvO F Q L):H ≠ A:=mp_ne h.all h.blk
theorem HsA.nHO (h:HsA w H D A O kvA kvO F Q L):H ≠ O:=mpT_ne h.ops h.blk
theorem HsA.fr {M:Nat → Prop} (h:HsA w H D A O kvA kvO F Q L) (f:Fr M w w') (hM:∀ b,(F b ∨ Q b ∨ b = H ∨ b = A ∨ b = O) → ¬ M b):HsA w' H D A O kvA kvO F Q L :=
 ⟨h.blk.fr f (hM _ (by simp)),h.dag.fr f (fun b hb=>hM b (.inl hb)),mpI_fr h.all f (hM _ (by simp)),mpT_fr h.ops f (hM _ (by simp)),h.cn,
  fun x c hx=>by
   obtain ⟨r,rs,h1,h2⟩:=h.cs x c hx
   exact ⟨r,rs,h1,h2.fr f (fun g hg=>hM g (.inr (.inl hg)))⟩,
  h.os.fr f (fun g hg=>hM g (.inr (.inl hg))),h.ok,h.nFH,h.nFA,h.nFO,h.nAO,fun g hg=>by
   obtain ⟨a,b,c,d⟩:=h.q g hg
   exact ⟨a,b,c,Nat.lt_of_lt_of_le d f.size⟩,fun b hb=>Nat.lt_of_lt_of_le (h.lt b hb) f.size⟩
theorem HsA.fr0 (h:HsA w H D A O kvA kvO F Q L) (f:Fr noB w w'):HsA w' H D A O kvA kvO F Q L:=h.fr f (fun _ _=>by simp [noB])
theorem HsA.c0 (h:HsA w H D A O kvA kvO F Q L):w.cell? ⟨H,0,none⟩ = some (.pointer (some ⟨D,0,none⟩)):=Blk.cell h.blk 0
theorem HsA.c1 (h:HsA w H D A O kvA kvO F Q L):w.cell? ⟨H,1,none⟩ = some (.map (some A)):=Blk.cell h.blk 1
theorem HsA.c2 (h:HsA w H D A O kvA kvO F Q L):w.cell? ⟨H,2,none⟩ = some (.map (some O)):=Blk.cell h.blk 2
theorem HsA.look (h:HsA w H D A O kvA kvO F Q L) (x:ID):(findC L x = none ∧ look kvA x = none) ∨ ∃ c r rs,findC L x = some c ∧ Go.Proofs.YtjpieiccpbcabaaGreat.look kvA x = some (.agg (codC.A r)) ∧ CgQ Q w r rs c:=by
 cases hf:findC L x with
 | none=>exact .inl ⟨rfl,h.cn x hf⟩
 | some c =>
  obtain ⟨r,rs,h1,h2⟩:=h.cs x c hf
  exact .inr ⟨c,r,rs,rfl,h1,h2⟩
end
theorem Hs.fr {w w':World} {H:Nat} {S M:Nat → Prop} {L:Hst} (h:Hs w H S L) (f:Fr M w w') (hM:∀ b,S b → ¬ M b):Hs w' H S L:=by
 obtain ⟨D,A,O,kvA,kvO,F,Q,h1,h2,h3⟩:=h
 exact ⟨D,A,O,kvA,kvO,F,Q,h1.fr f (fun b hb=>hM b (h2 b hb)),h2,fun b hb=>Nat.lt_of_lt_of_le (h3 b hb) f.size⟩
theorem Hs.fr0 {w w':World} {H:Nat} {S:Nat → Prop} {L:Hst} (h:Hs w H S L) (f:Fr noB w w'):Hs w' H S L:=h.fr f (fun _ _=>by simp [noB])
theorem Hs.ok {w:World} {H:Nat} {S:Nat → Prop} {L:Hst} (h:Hs w H S L):HOk L:=by
 obtain ⟨D,A,O,kvA,kvO,F,Q,h1,_⟩:=h
 exact h1.ok
end Go.Proofs.YtjpieiccpbcabaaGreat
namespace Go.Proofs.YtjpieiccpbcabaaGreat
open Go.RowKit Go.Maps Go.Sort
attribute [local go_sem] Oper.semAt_some
theorem bx_hist (w:World) (p:Option Addr) (q r:Option Nat):(Instr.box 89 (.agg #[.pointer p,.map q,.map r])).run Tryz.prog w = .ok (.pointer (some ⟨w.heap.size,0,none⟩)) (w.alloc (.cells #[.pointer p,.map q,.map r] 89)):=by
 simp [Instr.box,newVar,newRow,newObj,Value.cells,Sem.run,Result.andThen]
attribute [local simp] bx_hist
theorem DagAt.lt_ {w:World} {D:Nat} {F:Nat → Prop} {G:Dg} (h:DagAt w D F G) (b:Nat) (hb:F b):b < w.heap.size:=by
 obtain ⟨_,_,_,_,h⟩:=h
 exact h.lt b hb
def HsNew (w:World) (e:Ending) (w':World):Prop:=∃ H,e = .returned (.pointer (some ⟨H,0,none⟩)) ∧ Hs w' H (grF (fun _=>False) w w') [] ∧ Fr noB w w'
set_option maxRecDepth 100000 in
theorem mgNew_any (w:World):Calls Tryz.prog 8 #[] w (HsNew w):=by
 go_enter Tryz.func8,Tryz.ntmps8
 go_wp2_with (go_at_call 30;refine (new_any _).mono ?_;rintro e w1 ⟨D,rfl,hD,f1⟩)
 go_ret
 have a1:Fr noB w1 (w1.alloc (.map #[] 0)):=(Fr.refl noB w1).alloc _
 have a2:Fr noB (w1.alloc (.map #[] 0)) ((w1.alloc (.map #[] 0)).alloc (.map #[] 0)):=(Fr.refl noB _).alloc _
 have z1:(w1.alloc (.map #[] 0)).heap.size = w1.heap.size + 1:=by simp
 have z2:((w1.alloc (.map #[] 0)).alloc (.map #[] 0)).heap.size = w1.heap.size + 1 + 1:=by simp
 have m1:=mpI_fr (mpI_new w1) a2 (by simp [noB])
 have m2:=mpT_new (w1.alloc (.map #[] 0))
 rw [z1] at m2
 have b3:=Blk.new ((w1.alloc (.map #[] 0)).alloc (.map #[] 0)) 89 [.pointer (some ⟨D,0,none⟩),.map (some w1.heap.size),.map (some (w1.heap.size + 1))]
 rw [z2] at b3
 have hD3:=hD.fr0 (a1.step0 a2)
 have hl:=f1.size
 have ff:=(f1.step0 a1).step0 a2
 have lt:=fun b hb=>(hD.lt_ b hb:b < w1.heap.size)
 generalize (w1.alloc (.map #[] 0)).alloc (.map #[] 0) = W2 at z2 m1 m2 b3 hD3 ff ⊢
 have a3:Fr noB W2 (W2.alloc (.cells #[.pointer (some ⟨D,0,none⟩),.map (some w1.heap.size),.map (some (w1.heap.size + 1))] 89)):=(Fr.refl noB _).alloc _
 have z3:(W2.alloc (.cells #[.pointer (some ⟨D,0,none⟩),.map (some w1.heap.size),.map (some (w1.heap.size + 1))] 89)).heap.size = w1.heap.size + 3:=by simp [z2]
 refine ⟨_,rfl,⟨D,w1.heap.size,w1.heap.size + 1,[],[],_,fun _=>False,⟨b3,hD3.fr0 a3,mpI_fr m1 a3 (by simp [noB]),mpT_fr0 m2 a3,fun x _=>rfl,fun x c h=>(by cases h),fun s=>.inl ⟨rfl,rfl⟩,HOk.nil,fun h=>?_,fun h=>?_,fun h=>?_,by omega,fun g h=>h.elim,fun b hb=>?_⟩,fun b hb=>?_,fun b hb=>?_⟩,ff.step0 a3⟩
 ·have:=lt _ h;omega
 ·have:=lt _ h;omega
 ·have:=lt _ h;omega
 ·have:=lt _ hb;rw [z3];omega
 ·refine .inr ?_
  rw [z3]
  rcases hb with hb | hb | hb | hb | hb
  ·have:=lt _ hb
   exact ⟨hb.1,by omega⟩
  ·exact hb.elim
  all_goals omega
 ·rcases hb with hb | hb
  ·exact hb.elim
  ·exact hb.2
def DagTo (w:World) (L:Hst) (e:Ending) (w':World):Prop:=∃ D F,e = .returned (.pointer (some ⟨D,0,none⟩)) ∧ DagAt w' D F (dgH L) ∧ Fr noB w w'
set_option maxRecDepth 100000 in
theorem mgDag_any {w:World} {H:Nat} {S:Nat → Prop} {L:Hst} (h:Hs w H S L):Calls Tryz.prog 12 #[.pointer (some ⟨H,0,none⟩)] w (DagTo w L):=by
 obtain ⟨D,A,O,kvA,kvO,F,Q,h1,h2,h3⟩:=h
 have c0:=h1.c0
 have hd:=h1.dag
 clear h1 h2 h3
 go_enter Tryz.func12,Tryz.ntmps12
 go_wp2
 go_ret
 exact ⟨D,F,rfl,hd,Fr.refl _ _⟩
structure CgNew (base:Nat) (w:World) (r:CgW) (rs:List OpW) (c:Chg):Prop where
 inn:CgIn w r rs c
 po:w.ownsRow base 24 32 (.slice r.PA r.pn r.pc) r.pn (idc c.Parents)
 oo:rs ≠ [] → ∃ g,r.OA = some ⟨g,0,none⟩ ∧ base ≤ g ∧ RwA codO w g rs.toArray
 vo:AllO (OpN base) w rs c.Ops
theorem CgNew.q {base:Nat} {w:World} {r:CgW} {rs:List OpW} {c:Chg} (h:CgNew base w r rs c) {Q:Nat → Prop} (hQ:∀ g,base ≤ g → g < w.heap.size → Q g):CgQ Q w r rs c :=
 ⟨h.inn,fun hne g hg=>by
  have:=own_lt h.po g hg
  exact hQ g this.1 this.2,fun hne g hg=>by
  obtain ⟨g',e,hb,hr⟩:=h.oo hne
  rw [e] at hg
  injection hg with hg
  subst hg
  exact hQ _ hb hr.lt,fun i h1 h2=>(h.vo.2 i h1 h2).q hQ⟩
def CgTo (w:World) (c:Chg) (e:Ending) (w':World):Prop:=∃ r rs,e = .returned (.agg (codC.A r)) ∧ CgNew w.heap.size w' r rs c ∧ Fr noB w w'
theorem srt_nd {l:List Opn} (h:SrtL l):(l.map (·.At)).Nodup:=by
 rw [List.Nodup,List.pairwise_map]
 exact h.imp fun {a b} hab e=>by
  rw [e,cmpS_self] at hab
  omega
theorem perm_srt {l m:List Opn} (hp:l.Perm m) (h1:SrtL l) (h2:SrtL m):l = m:=srt_ext h1 h2 fun o=>hp.mem_iff
set_option maxRecDepth 100000 in
set_option maxHeartbeats 4000000 in
theorem mgClone_any (w:World) (r:CgW) (rs:List OpW) (c:Chg) (h:CgIn w r rs c) (hs:SrtL c.Ops) (hb:c.Ops.length ≤ 1000000) (hov:∀ o ∈ c.Ops,o.Over.length ≤ 1000000) (hp:c.Parents.length ≤ 1000000) :
  Calls Tryz.prog 38 #[.agg (codC.A r)] w (CgTo w c):=by
 have f0:Fr noB w ((w.alloc (.cells (codC.A r) 35)).alloc (codC.o zCgW)):=((Fr.refl noB w).alloc _).alloc _
 have bA0:codC.bxd (w.alloc (.cells (codC.A r) 35)) w.heap.size = some r:=Cod.bxd_box (C:=codC) w r
 have bA:=Cod.bxd_fr0 bA0 ((Fr.refl noB _).alloc (codC.o zCgW))
 have bB:=Cod.bxd_new (C:=codC) (w.alloc (.cells (codC.A r) 35)) zCgW
 have hz:(w.alloc (.cells (codC.A r) 35)).heap.size = w.heap.size + 1:=by simp
 rw [hz] at bB
 have u2:=(cgAt (Cod.bxd_rd bA)).parents
 have HX:=Lib.hid h
 have CH:=Lib.hid (fun w' (f:Fr noB w w')=>idclone_any w' r.PA r.pc c.Parents r.pn h.pl (h.ps.fr0 f) (by omega))
 have CS:=Lib.hid (fun w' (f:Fr noB w w')=>sSortD_any w' r.OA r.oc r.on rs c.Ops h.ol (h.os.fr0 f) ⟨h.ops.len,fun i a b=>(h.ops.at_ i a b).fr f⟩ (srt_nd hs) hb hov)
 have HS:=Lib.hid hs
 clear h hs hb hov hp bA0
 go_enter Tryz.func38,Tryz.ntmps38
 go_upto_region 1 with fail
 generalize (w.alloc (.cells (codC.A r) 35)).alloc (codC.o zCgW) = W0 at f0 bA bB u2 ⊢
 obtain ⟨A,hA⟩:∃ k,k = w.heap.size:=⟨_,rfl⟩
 obtain ⟨B,hB⟩:∃ k,k = w.heap.size + 1:=⟨_,rfl⟩
 rw [← hB] at bB
 rw [← hA] at bA u2 ⊢
 have eAB:A + 1 = B:=by omega
 rw [eAB]
 have HAB:=Lib.hid (show w.heap.size ≤ A ∧ A < B from by omega)
 clear hz hA hB eAB
 go_upto_region 2 with (go_at_call 63;refine (CH.out _ f0).mono ?_;rintro e w4 ⟨A4,c4,rfl,o4,f4⟩;have u4:=cell_fr0 u2 f4;have z4:=(Cod.bxd_blk (Cod.bxd_fr0 bA f4)).frozen 0)
 have bA4:=Cod.bxd_fr0 bA f4
 have g5:=Cod.set_fr w4 A 0 (.slice A4 c.Parents.length c4)
 have bA5:=Cod.bxd_set bA4 0 (.slice A4 c.Parents.length c4) _ (seC_Parents _ _ _ _)
 have o5:=own_box (Cod.bxd_blk bA4) o4 (by decide) g5
 have hab:=HAB.out
 have bB5:=Cod.bxd_fr (Cod.bxd_fr0 bB f4) g5 (by show ¬ B = A;omega)
 have F5:=(f0.step0 f4).step1 g5 hab.1
 have hsz:=f0.size
 have o5':=own_base o5 hsz
 clear u2 u4 z4 bA4 g5 o4 f4 CH bA bB f0 o5
 generalize w4.setCell ⟨A,0,none⟩ (.slice A4 c.Parents.length c4) = W5 at bA5 bB5 o5' F5 ⊢
 have u5:=(cgAt (Cod.bxd_rd bA5)).ops
 simp only at u5
 go_upto_region 3 with (go_at_call 44;refine (CS.out _ F5).mono ?_;rintro e w6 ⟨A6,c6,rs6,L6,rfl,hp6,hs6,hsl6,ha6,hb6,f6⟩;have u6:=cell_fr0 u5 f6;have z6:=(Cod.bxd_blk (Cod.bxd_fr0 bA5 f6)).frozen 3)
 obtain rfl:=perm_srt hp6 hs6 HS.out
 have bA6:=Cod.bxd_fr0 bA5 f6
 have g7:=Cod.set_fr w6 A 3 (.slice A6 rs6.length c6)
 have bA7:=Cod.bxd_set bA6 3 (.slice A6 rs6.length c6) _ (seC_Ops _ _ _ _)
 have bB7:=Cod.bxd_fr (Cod.bxd_fr0 bB5 f6) g7 (by show ¬ B = A;omega)
 have o7:=own_box (Cod.bxd_blk bA6) (own_new0 o5' f6) (by decide) g7
 have F7:=(F5.step0 f6).step1 g7 hab.1
 have hblk:=Cod.bxd_blk bA6
 have hF5:=F5.size
 have ha7:AllO (OpN w.heap.size) (w6.setCell ⟨A,3,none⟩ (.slice A6 rs6.length c6)) rs6 c.Ops:=⟨ha6.1,fun i h h'=>by
  have hq:=ha6.2 i h h'
  have hs0:NoHS (oneB A) w6:=NoHS.blk hblk (by decide) (by decide)
  exact ⟨hq.op.fr g7 hs0,own_base (own_box hblk hq.own (by decide) g7) hF5⟩⟩
 have hb7:rs6 ≠ [] → ∃ g,A6 = some ⟨g,0,none⟩ ∧ w.heap.size ≤ g ∧ RwA codO (w6.setCell ⟨A,3,none⟩ (.slice A6 rs6.length c6)) g rs6.toArray:=fun hne=>by
  obtain ⟨g,e,hge,hr⟩:=hb6 hne
  refine ⟨g,e,by omega,?_⟩
  obtain ⟨cur,h1,h2⟩:=hr
  have hgA:g ≠ A:=fun e=>by
   rw [e,hblk] at h1
   injection h1 with h1
   injection h1 with _ h1
   exact absurd h1 (by decide)
  exact ⟨cur,(g7.block g (Array.getElem?_eq_some_iff.1 h1).1 hgA).trans h1,h2⟩
 have HN7:=Lib.hid (And.intro o7 (And.intro ha7 (And.intro hb7 F7)))
 clear u5 u6 z6 bA6 g7 f6 hsl6 ha6 hb6 hp6 o5' o7 ha7 hb7 hblk bA5 bB5 F5 CS F7
 obtain ⟨r',hr'⟩:∃ q:CgW,q = { r with PA:=A4,pn:=c.Parents.length,pc:=c4,OA:=A6,on:=rs6.length,oc:=c6 }:=⟨_,rfl⟩
 have e7:codC.bxd (w6.setCell ⟨A,3,none⟩ (.slice A6 rs6.length c6)) A = some r':=by rw [hr'];exact bA7
 have HR:=Lib.hid hr'
 clear hr' bA7
 generalize w6.setCell ⟨A,3,none⟩ (.slice A6 rs6.length c6) = W7 at e7 bB7 HN7 ⊢
 have rA7:=Cod.bxd_rd e7
 have hst:=okC.stR_box bB7 r'
 obtain ⟨p1,p2,p3⟩:=Cod.put_fr bB7 r'
 have HP:=Lib.hid (And.intro p1 (And.intro p2 p3))
 clear p1 p2 p3
 go_wp2_with fail
 obtain ⟨p1,p2,p3⟩:=HP.out
 refine bodyPost_ret (ret_row okC rfl _ _ B _ (by rfl) p3) rfl ?_
 obtain ⟨o7,ha7,hb7,F7⟩:=HN7.out
 have hblk:=Cod.bxd_blk bB7
 have hr:=HR.out
 have o8:=own_box hblk o7 (by decide) p1
 have ha8:AllO (OpN w.heap.size) (codC.put W7 B r') rs6 c.Ops:=ha7.map fun q x hq =>
  ⟨hq.op.fr p1 (NoHS.blk hblk (by decide) (by decide)),own_box hblk hq.own (by decide) p1⟩
 have hb8:rs6 ≠ [] → ∃ g,A6 = some ⟨g,0,none⟩ ∧ w.heap.size ≤ g ∧ RwA codO (codC.put W7 B r') g rs6.toArray:=fun hne=>by
  obtain ⟨g,e,hge,cur,h1,h2⟩:=hb7 hne
  have hgB:g ≠ B:=fun e=>by
   rw [e,hblk] at h1
   injection h1 with h1
   injection h1 with _ h1
   exact absurd h1 (by decide)
  exact ⟨g,e,hge,cur,(p1.block g (Array.getElem?_eq_some_iff.1 h1).1 hgB).trans h1,h2⟩
 have hsl:Sl (codC.put W7 B r') A6 (codO.row rs6):=by
  by_cases h0:rs6 = []
  ·rw [h0];exact Sl.nil _ _
  ·obtain ⟨g,e,_,hr⟩:=hb8 h0
   rw [e]
   exact hr.sl
 obtain ⟨a1,a2,a3,a4,a5,a6,a7,a8,a9,a10,a11,a12⟩:=HX.out
 refine ⟨r',rs6,rfl,?_,F7.step1 p1 (by have:=HAB.out;omega)⟩
 subst hr
 exact ⟨⟨a1,a2,a3,a4,rfl,Sl.own o8,rfl,hsl,⟨ha8.1,fun i h h'=>(ha8.2 i h h').op.inn⟩,a10,by rw [ha8.1,← a9.len];exact a11,a12⟩,o8,hb8,ha8⟩
end Go.Proofs.YtjpieiccpbcabaaGreat
namespace Go.Proofs.YtjpieiccpbcabaaGreat
open Go.RowKit Go.Maps Go.Sort Go.Shelf
attribute [local go_sem] Oper.semAt_some
def zChg:Chg:=⟨[],0,0,[],zID,[]⟩
theorem cgz_in (w:World):CgIn w zCgW [] zChg:=⟨rfl,rfl,rfl,rfl,rfl,Sl.nil _ _,rfl,Sl.nil _ _,⟨rfl,fun i h=>absurd h (by simp)⟩,by simp [zChg],by simp,by simp [zCgW]⟩
theorem HsA.getC {w:World} {H D A O:Nat} {kvA:List (ID × Value)} {kvO:List (St × Value)} {F Q:Nat → Prop} {L:Hst} (h:HsA w H D A O kvA kvO F Q L) (x:ID) :
  ∃ (r:CgW) (rs:List OpW) (c:Chg) (b:Bool),(Go.Proofs.YtjpieiccpbcabaaGreat.look kvA x).getD (.agg (codC.A zCgW)) = .agg (codC.A r) ∧ (Go.Proofs.YtjpieiccpbcabaaGreat.look kvA x).isSome = b ∧ c = (findC L x).getD zChg ∧ b = (findC L x).isSome ∧ CgQ Q w r rs c ∧ SrtL c.Ops ∧ c.Ops.length ≤ 64 ∧ (∀ o ∈ c.Ops,o.Over.length ≤ 64) ∧ c.Parents.length ≤ 2:=by
 rcases h.look x with ⟨h1,h2⟩ | ⟨c,r,rs,h1,h2,h3⟩
 ·refine ⟨zCgW,[],zChg,false,by rw [h2];rfl,by rw [h2];rfl,by rw [h1];rfl,by rw [h1];rfl,⟨cgz_in w,fun hne=>absurd rfl hne,fun hne=>absurd rfl hne,fun i h=>absurd h (by simp)⟩,by simp [zChg,SrtL],by simp [zChg],by simp [zChg],by simp [zChg]⟩
 ·obtain ⟨p1,_,_,p4,p5,p6,_⟩:=rightCh_parts (h.ok.right _ (findC_mem h1))
  exact ⟨r,rs,c,true,by rw [h2];rfl,by rw [h2];rfl,by rw [h1];rfl,by rw [h1];rfl,h3,p5,p6,fun o ho=>goodOp_over (p4 o ho).1,p1⟩
def CmTo (w:World) (L:Hst) (x:ID) (e:Ending) (w':World):Prop :=
 ∃ r rs,e = .returned (.tuple #[.agg (codC.A r),.bool (findC L x).isSome]) ∧ CgNew w.heap.size w' r rs ((findC L x).getD zChg) ∧ Fr noB w w'
theorem CgNew.put {base:Nat} {w w':World} {r:CgW} {rs:List OpW} {c:Chg} {B:Nat} {v:CgW} (h:CgNew base w r rs c) (hB:codC.bxd w B = some v) (f:Fr (oneB B) w w'):CgNew base w' r rs c:=by
 have hblk:=Cod.bxd_blk hB
 have o:=own_box hblk h.po (by decide) f
 have ha:AllO (OpN base) w' rs c.Ops:=h.vo.map fun q x hq=>⟨hq.op.fr f (NoHS.blk hblk (by decide) (by decide)),own_box hblk hq.own (by decide) f⟩
 have hb:rs ≠ [] → ∃ g,r.OA = some ⟨g,0,none⟩ ∧ base ≤ g ∧ RwA codO w' g rs.toArray:=fun hne=>by
  obtain ⟨g,e,hge,cur,h1,h2⟩:=h.oo hne
  have hgB:g ≠ B:=fun e=>by
   rw [e,hblk] at h1
   injection h1 with h1
   injection h1 with _ h1
   exact absurd h1 (by decide)
  exact ⟨g,e,hge,cur,(f.block g (Array.getElem?_eq_some_iff.1 h1).1 hgB).trans h1,h2⟩
 have hsl:Sl w' r.OA (codO.row rs):=by
  by_cases h0:rs = []
  ·rw [h0];exact Sl.nil _ _
  ·obtain ⟨g,e,_,hr⟩:=hb h0
   rw [e]
   exact hr.sl
 obtain ⟨a1,a2,a3,a4,a5,a6,a7,a8,a9,a10,a11,a12⟩:=h.inn
 exact ⟨⟨a1,a2,a3,a4,a5,by rw [← a5] at o;exact Sl.own o,a7,hsl,⟨ha.1,fun i h h'=>(ha.2 i h h').op.inn⟩,a10,a11,a12⟩,o,hb,ha⟩
set_option maxRecDepth 100000 in
set_option maxHeartbeats 4000000 in
theorem mgCommit_any {w:World} {H:Nat} {S:Nat → Prop} {L:Hst} (h:Hs w H S L) (x:ID):Calls Tryz.prog 14 #[.pointer (some ⟨H,0,none⟩),encI x] w (CmTo w L x):=by
 obtain ⟨D,A,O,kvA,kvO,F,Q,h1,h2,h3⟩:=h
 have f0:Fr noB w ((w.alloc (ido x)).alloc (codC.o zCgW)):=((Fr.refl noB w).alloc _).alloc _
 have q0:rdI (w.alloc (ido x)) w.heap.size 0 = some x:=rdI_new w x
 have q:=rdI_fr q0 (rdI_lt q0) ((Fr.refl noB _).alloc (codC.o zCgW)) (by simp [noB])
 have bB:=Cod.bxd_new (C:=codC) (w.alloc (ido x)) zCgW
 have hz:(w.alloc (ido x)).heap.size = w.heap.size + 1:=by simp
 rw [hz] at bB
 obtain ⟨rw0,rs0,c0,b0,hl1,hl2,e1,e2,hc0,hs0,hn0,hv0,hp0⟩:=h1.getC x
 have H0:=Lib.hid hc0.inn
 have HX0:=Lib.hid (And.intro e1 e2)
 have HP0:=Lib.hid (And.intro hs0 (And.intro hn0 (And.intro hv0 hp0)))
 have ht0:=cell_fr0 h1.c1 f0
 have hm0:=mpI_fr h1.all f0 (by simp [noB])
 clear h1 h2 h3 hc0 e1 e2 hs0 hn0 hv0 hp0 q0 hz
 go_enter Tryz.func14,Tryz.ntmps14
 go_upto_region 1 with fail
 generalize (w.alloc (ido x)).alloc (codC.o zCgW) = W0 at f0 q bB ht0 hm0 ⊢
 obtain ⟨S,hS⟩:∃ x,x = w.heap.size:=⟨_,rfl⟩
 obtain ⟨B,hB⟩:∃ x,x = w.heap.size + 1:=⟨_,rfl⟩
 rw [← hB] at bB
 rw [← hS] at q ⊢
 have eSB:S + 1 = B:=by omega
 rw [eSB]
 have HSB:=Lib.hid (And.intro hS hB)
 clear hS hB eSB
 have hk:∀ w' w'':World,Fr noB w' w'' → (w'.cell? ⟨H,1,none⟩ = some (.map (some A)) ∧ rdI w' S 0 = some x ∧ mpI w' A = some kvA) → (w''.cell? ⟨H,1,none⟩ = some (.map (some A)) ∧ rdI w'' S 0 = some x ∧ mpI w'' A = some kvA):=fun w' w'' f h=>⟨cell_fr0 h.1 f,rdI_fr h.2.1 (rdI_lt h.2.1) f (by simp [noB]),mpI_fr h.2.2 f (by simp [noB])⟩
 have fd:Fr noB W0 W0.drew:=(Fr.refl noB W0).drew
 have hF0:=hk _ _ fd ⟨ht0,q,hm0⟩
 refine wp_region_M 11 12 [⟨512,1,0⟩,⟨1024,512,1⟩,⟨2048,1024,2⟩,⟨4096,2048,4⟩,⟨8192,8,0⟩,⟨16384,12288,24⟩,⟨256,16384,32⟩,⟨32768,256,64⟩,⟨65536,256,64⟩,⟨64,0,0⟩,⟨0,32832,767⟩,⟨128,65536,2047⟩] [(true,0),(true,1),(true,2),(true,3),(true,4),(true,5),(true,6),(true,7),(true,8),(false,9),(false,10)] (fun w'=>w'.cell? ⟨H,1,none⟩ = some (.map (some A)) ∧ rdI w' S 0 = some x ∧ mpI w' A = some kvA) (by kernel_rfl) rfl (by kernel_rfl) (by kernel_rfl) (by kernel_rfl) hF0 (fun hA hF=>?_)
 iterate 9
  refine wpAnyS_take (v:=?_) hA rfl (fun _ _ _ h=>h) (Or.inl ⟨by rfl,?_⟩) hF (fun hA=>?_)
  rotate_left
  ·intro wS hSw;(try dsimp only at hSw);obtain ⟨s1,s2,s3⟩:=hSw;first | (apply Eq.trans;apply ex_ld_id;exact rfl;exact rfl;assumption;with_reducible rfl) | (apply Eq.trans;apply ex_ldO_at;exact rfl;exact rfl;assumption;with_reducible rfl) | (apply Eq.trans;apply ex_ldS_at;exact rfl;exact rfl;assumption;with_reducible rfl) | (go_simp;try with_reducible rfl)
  try simp only [sA1,sA2,sA3,Act.put,sA4,sA5,sA6]
 refine wpAnyS_one hA rfl (fun K' hK=>?_)
 refine step_runI rfl _ _ (okC.alOp _ _ rfl _) ?_
 have fa:Fr noB W0.drew (W0.drew.alloc (codC.o zCgW)):=(Fr.refl noB _).alloc _
 replace hF:=hk _ _ fa hF
 refine hK.out _ _ hF (fun hA=>?_)
 clear hK K'
 as_aux_lemma =>
 refine wpAnyS_one hA rfl (fun K' hK=>?_)
 refine stp_skip rfl _ (ex_stV_at (C:=codC) (v:=rw0) rfl rfl rfl (st_newC W0.drew rw0 zCgW)) ?_
 have fb:Fr noB W0.drew (W0.drew.alloc (codC.o rw0)):=(Fr.refl noB _).alloc _
 replace hF:=(hk _ _ fb hF0)
 refine hK.out _ _ hF (fun hA=>?_)
 clear hK K'
 as_aux_lemma =>
 refine wpAnyS_end hA rfl ?_
 simp only [List.drop_succ_cons,List.drop_zero]
 clear hF hk hF0 fa hl1 hl2
 have bN:codC.bxd (W0.drew.alloc (codC.o rw0)) W0.drew.heap.size = some rw0:=Cod.bxd_new (C:=codC) W0.drew rw0
 have f1:=fd.step0 fb
 have bB1:=Cod.bxd_fr0 bB f1
 have g1:=f0.step0 f1
 clear q bB ht0 hm0 f0 fd fb f1
 generalize W0.drew.alloc (codC.o rw0) = W1 at bN bB1 g1 ⊢
 generalize W0.drew.heap.size = N at bN ⊢
 have rN:=Cod.bxd_rd bN
 have CC:=Lib.hid (fun w' (f:Fr noB W1 w')=>mgClone_any w' rw0 rs0 c0 ((H0.out.fr g1).fr f) HP0.out.1 (by have:=HP0.out.2.1;omega) (fun o ho=>by have:=HP0.out.2.2.1 o ho;omega) (by have:=HP0.out.2.2.2;omega))
 go_wp2_with (go_at_call 38;refine (CC.out _ (Fr.refl noB _)).mono ?_;rintro e w4 ⟨r',rs',rfl,hr',f4⟩;have bB4:=Cod.bxd_fr0 bB1 f4;have hst:=okC.stR_box bB4 r';obtain ⟨p1,p2,p3⟩:=Cod.put_fr bB4 r')
 have hsb:=HSB.out
 refine bodyPost_ret (ret_row_tmp okC rfl _ _ B _ (by rfl) p3) rfl ?_
 obtain ⟨e1,e2⟩:=HX0.out
 refine ⟨r',rs',by rw [← e2];rfl,?_,(g1.step0 f4).step1 p1 (by omega)⟩
 rw [← e1]
 have hg:=g1.size
 have h7:=hr'.put bB4 p1
 exact ⟨h7.inn,own_base h7.po hg,fun hne=>by
  obtain ⟨g,e,hge,hr⟩:=h7.oo hne
  exact ⟨g,e,by omega,hr⟩,⟨h7.vo.1,fun i a b=>⟨(h7.vo.2 i a b).op,own_base (h7.vo.2 i a b).own hg⟩⟩⟩
def GvTo (W:World) (xs:List Opn) (e:Ending) (w':World):Prop:=∃ b t,e = .returned (.pointer (some ⟨b,0,none⟩)) ∧ GvS W.heap.size w' b t xs ∧ Fr noB W w'
def MtLoop (W:World) (b:Nat) (xs:List Opn) (gk:Nat) (iv:Value) (wr:World):Prop :=
 ∃ (k:Nat) (t:TrW),iv = .int .i64 (k:Int) ∧ gk = xs.length - k ∧ k ≤ xs.length ∧ GvS W.heap.size wr b t (xs.take k) ∧ Fr noB W wr
set_option maxRecDepth 100000 in
set_option maxHeartbeats 4000000 in
theorem mgTree_any (W:World) (A:Option Addr) (c n:Nat) (rs:List OpW) (xs:List Opn) (hn:rs.length = n) (hs:Sl W A (codO.row rs)) (hX:AllO OpIn W rs xs) (hg:∀ o ∈ xs,goodOp o = true) (hr:SrtL xs) (hb:xs.length ≤ 90000) :
  Calls Tryz.prog 48 #[.slice A n c] W (GvTo W xs):=by
 have hnx:n = xs.length:=by rw [← hn];exact hX.1
 subst hnx
 have HX:=Lib.hid hX
 have HS:=Lib.hid hs
 have HB:=Lib.hid hb
 have HG:=Lib.hid hg
 have HR:=Lib.hid hr
 have HN:=Lib.hid hn
 clear hX hs hb hg hr hn
 go_enter Tryz.func48,Tryz.ntmps48
 go_upto_region 3 with (go_at_call 81;refine (gvNew_any _).mono ?_;rintro e w1 ⟨b,t0,rfl,h0,hu0,f1⟩)
 have hi0:MtLoop W b xs xs.length (.int .i64 ((0:Nat):Int)) w1:=⟨0,t0,rfl,rfl,Nat.zero_le _,h0,f1⟩
 clear h0 f1 hu0
 go_loopg [9] xs.length (fun gk iv wr=>MtLoop W b xs gk iv wr)
 case atStart=>exact hi0
 case round =>
  clear hi0
  obtain ⟨k,t,rfl,rfl,hk,hG,hf⟩:=hrel
  by_cases hlt:k < xs.length
  ·have j0:(0:Int) ≤ (k:Int):=by omega
   have j1:(k:Int) < (xs.length:Int):=by omega
   have hkr:k < rs.length:=by rw [HN.out];exact hlt
   obtain ⟨g,off,rfl,hgg⟩:=HS.out.adC (by omega)
   have e1:codO.rd wr g (off + k * 41) = some rs[k]:=(HS.out.fr0 hf).rd k hkr
   have hin:=HX.out.2 k hkr hlt
   have HTK:=Lib.hid (show xs.take (k + 1) = xs.take k ++ xs[k] :: [] from List.take_succ_eq_append_getElem hlt)
   have hgd:=HG.out _ (List.getElem_mem hlt)
   have hlat:∀ p ∈ xs.take k,cmpS p.At (xs[k]).At < 0:=fun p hp=>by
    obtain ⟨i,hi,rfl⟩:=List.getElem_of_mem hp
    rw [List.length_take] at hi
    rw [List.getElem_take]
    exact List.pairwise_iff_getElem.1 HR.out i k (by omega) hlt (by omega)
   have HSK:=Lib.hid (show SrtL (xs.take k) from List.Pairwise.sublist (List.take_sublist _ _) HR.out)
   generalize rs[k] = r at e1 hin
   generalize xs[k] = x at hin HTK hgd hlat
   have HIN:=Lib.hid (hin.fr hf)
   have HGD:=Lib.hid hgd
   have HLAT:=Lib.hid hlat
   have HLT:=Lib.hid hlt
   have HG0:=Lib.hid hG
   have HF:=Lib.hid hf
   clear hk hlt hgg hin hgd hlat hG hf hkr
   go_upto_region 5 with fail
   have f12:Fr noB wr (wr.alloc (codO.o r)):=(Fr.refl noB wr).alloc _
   have q12:=Cod.rd_new' (C:=codO) wr r
   obtain ⟨D2,hD2⟩:∃ x,x = wr.heap.size:=⟨_,rfl⟩
   rw [← hD2] at q12 ⊢
   have HG12:=Lib.hid (HG0.out.fr0 f12)
   have HIN12:=Lib.hid (HIN.out.fr f12)
   have F12:=Lib.hid (HF.out.step0 f12)
   clear hD2 e1 f12 HG0 HIN HF
   generalize wr.alloc (codO.o r) = W12 at q12 HG12 HIN12 F12 ⊢
   have hk9:k ≤ 100000:=by have:=HB.out;have:=HLT.out;omega
   go_wp2_with (go_at_call 82;go_loud (refine (gvIns_mid (xs.take k) [] (by rw [List.append_nil];exact HG12.out) (by rw [List.append_nil];exact HSK.out) (by rw [List.append_nil,List.length_take];omega) r x HIN12.out (by have:=goodOp_over HGD.out;omega) HGD.out HLAT.out (by simp)).mono ?_;rintro e w5 ⟨t5,rfl,h5,u5,m5,f5⟩))
   go_roundg (xs.length - (k + 1))
   case measure=>have:=HLT.out;omega
   case rel=>exact ⟨k + 1,t5,rfl,rfl,HLT.out,by rw [HTK.out];exact h5,F12.out.step f5 (fun q hq=>.inl (HG12.out.base hq))⟩
  ·have j1:¬ (k:Int) < (xs.length:Int):=by omega
   have hke:k = xs.length:=by omega
   go_wp2_with fail
   go_ret
   rw [hke,List.take_length] at hG
   exact ⟨b,t,rfl,hG,hf⟩
end Go.Proofs.YtjpieiccpbcabaaGreat
namespace Go.Proofs.YtjpieiccpbcabaaGreat
open Go.RowKit Go.Maps Go.Sort Go.Shelf
attribute [local go_sem] Oper.semAt_some
@[simp] theorem fldC_3 (w:World) (r:CgW):(Instr.field 35 (.agg (codC.A r)) 3).run Tryz.prog w = .ok (.slice r.OA r.on r.oc) w:=by
 rw [Cod.A_eq]
 kernel_rfl
def opsAt (L:Hst) (x:ID):List Opn:=((findC L x).getD zChg).Ops
theorem riseD_nd {G:Dg} {l:List ID} (h:Rise (cfD G) l):l.Nodup:=by
 refine List.Pairwise.imp (fun {a b} hab e=>?_) h
 subst e
 rw [cfD_lt] at hab
 rcases hab with hab | ⟨_,hab⟩
 ·omega
 ·rw [cmpD_self] at hab
  omega
def NdH (L:Hst):Prop:=((opsH L).map (·.At)).Nodup
theorem flat_nd {L:Hst} (hk:HOk L) (hn:NdH L) {l:List ID} (h:l.Nodup):((l.flatMap (opsAt L)).map (·.At)).Nodup:=by
 have hn':(L.flatMap fun p=>p.2.Ops.map (·.At)).Nodup:=by
  unfold NdH opsH at hn
  rwa [List.map_flatMap] at hn
 rw [List.map_flatMap]
 unfold List.Nodup at hn' ⊢
 rw [List.pairwise_flatMap] at hn' ⊢
 constructor
 ·intro x hx
  unfold opsAt
  cases hf:findC L x with
  | none=>simp [zChg]
  | some c=>exact srt_nd (rightCh_parts (hk.right _ (findC_mem hf))).2.2.2.2.1
 ·refine List.Pairwise.imp (fun {x y} hxy=>?_) h
  rintro a ha b hb rfl
  unfold opsAt at ha hb
  cases hfx:findC L x with
  | none=>rw [hfx] at ha;simp [zChg] at ha
  | some c =>
   cases hfy:findC L y with
   | none=>rw [hfy] at hb;simp [zChg] at hb
   | some d =>
    rw [hfx] at ha
    rw [hfy] at hb
    obtain ⟨i,hi,ei⟩:=List.getElem_of_mem (findC_mem hfx)
    obtain ⟨j,hj,ej⟩:=List.getElem_of_mem (findC_mem hfy)
    have hp:=List.pairwise_iff_getElem.1 hn'.2
    rcases Nat.lt_trichotomy i j with hij | rfl | hij
    ·have:=hp i j hi hj hij
     rw [ei,ej] at this
     exact this a ha a hb rfl
    ·rw [ei] at ej
     injection ej with e1 e2
     exact hxy e1
    ·have:=hp j i hj hi hij
     rw [ei,ej] at this
     exact this a hb a ha rfl
theorem ops_of {L:Hst} {ids as_:List ID} {l:List Opn} (hm:∀ y,y ∈ as_ ↔ Reached (dgH L) ids y) (hp:l.Perm (as_.flatMap (opsAt L))) (hs:SrtL l):OpsP L ids l:=by
 refine ⟨hs,fun o=>?_⟩
 rw [hp.mem_iff,List.mem_flatMap]
 constructor
 ·rintro ⟨x,hx,ho⟩
  unfold opsAt at ho
  cases hf:findC L x with
  | none=>rw [hf] at ho;simp [zChg] at ho
  | some c =>
   rw [hf] at ho
   exact ⟨x,c,hf,(hm x).1 hx,ho⟩
 ·rintro ⟨x,c,hf,hr,ho⟩
  exact ⟨x,(hm x).2 hr,by unfold opsAt;rw [hf];exact ho⟩
theorem flat_le {L:Hst} (hk:HOk L):∀ l:List ID,(l.flatMap (opsAt L)).length ≤ 64 * l.length
 | []=>by simp
 | x :: l=>by
  have ih:=flat_le hk l
  have:(opsAt L x).length ≤ 64:=by
   unfold opsAt
   cases hf:findC L x with
   | none=>simp [zChg]
   | some c=>exact (rightCh_parts (hk.right _ (findC_mem hf))).2.2.2.2.2.1
  simp only [List.flatMap_cons,List.length_append,List.length_cons]
  omega
def OpTo (w:World) (L:Hst) (ids:List ID) (e:Ending) (w':World):Prop :=
 ∃ A c rs l,e = .returned (.slice A rs.length c) ∧ OpsP L ids l ∧ l.length ≤ 64000 ∧ Sl w' A (codO.row rs) ∧ AllO (OpN w.heap.size) w' rs l ∧ Fr noB w w'
def MoLoop (w w1:World) (L:Hst) (as_:List ID) (gk:Nat) (iv ov:Value) (wr:World):Prop :=
 ∃ (k:Nat) (A:Option Addr) (c:Nat) (raw:List OpW),iv = .int .i64 (k:Int) ∧ ov = .slice A raw.length c ∧ gk = as_.length - k ∧ k ≤ as_.length ∧ OwnC codO w1 wr A c raw ∧ AllO OpIn w raw ((as_.take k).flatMap (opsAt L)) ∧ Fr noB w1 wr
set_option maxRecDepth 100000 in
set_option maxHeartbeats 4000000 in
theorem mgOps_any {w:World} {H:Nat} {S:Nat → Prop} {L:Hst} (h:Hs w H S L) (hn:NdH L) (hl:L.length ≤ 1000) (P:Option Addr) (c n:Nat) (ids:List ID) (hi:ids.length = n) (hs:Sl w P (idc ids)) (hb:ids.length ≤ 1000000000) :
  Calls Tryz.prog 17 #[.pointer (some ⟨H,0,none⟩),.slice P n c] w (OpTo w L ids):=by
 subst hi
 obtain ⟨D,A,O,kvA,kvO,F,Q,h1,h2,h3⟩:=h
 have HA:=Lib.hid h1
 have HN:=Lib.hid hn
 have HL:=Lib.hid hl
 have c0:=h1.c0
 have AN:=Lib.hid (ancestors_any w D F (dgH L) h1.dag P c _ ids rfl hs hb)
 clear h1 h2 h3 hn hl hs hb
 go_enter Tryz.func17,Tryz.ntmps17
 go_upto_region 3 with (go_at_call 43;refine AN.out.mono ?_;rintro e w1 ⟨as_,⟨A1,c1,rfl,o1,f1⟩,hr1,hm1,hb1⟩)
 have HND:=Lib.hid (riseD_nd hr1)
 have HM:=Lib.hid hm1
 have hle:=reached_len HA.out.ok.ok (riseD_nd hr1) hm1
 have HLE:=Lib.hid (show as_.length ≤ 1000 by have:=HL.out;unfold dgH at hle;rw [List.length_map] at hle;omega)
 have HCL:=Lib.hid (show H < w1.heap.size ∧ A < w1.heap.size from ⟨Nat.lt_of_lt_of_le (Blk.lt HA.out.blk) f1.size,Nat.lt_of_lt_of_le (mpI_lt HA.out.all) f1.size⟩)
 have h0:MoLoop w w1 L as_ as_.length (.int .i64 ((0:Nat):Int)) (.slice none 0 0) w1:=⟨0,none,0,[],rfl,rfl,rfl,Nat.zero_le _,World.ownsRow_nil _ _ _ _,AllO.nil,Fr.refl _ _⟩
 have HS1:=Lib.hid (Sl.own o1)
 clear hr1 hm1 hb1 hle o1 AN c0
 have HF1:=Lib.hid f1
 go_loopg [15,5] as_.length (fun gk iv ov wr=>MoLoop w w1 L as_ gk iv ov wr)
 case atStart=>exact h0
 case round =>
  clear h0 f1
  obtain ⟨k,A2,c2,raw,rfl,rfl,rfl,hk,ho,hx,hf1⟩:=hrel
  have hf:=HF1.out.step0 hf1
  by_cases hlt:k < as_.length
  ·have j0:(0:Int) ≤ (k:Int):=by omega
   have j1:(k:Int) < (as_.length:Int):=by omega
   obtain ⟨g,off,rfl⟩:=Sl.adG HS1.out (by omega)
   have e1:rdI wr g (off + k * 32) = some as_[k]:=(HS1.out.fr0 hf1).id k hlt
   have HTK:=Lib.hid (show (as_.take (k + 1)).flatMap (opsAt L) = (as_.take k).flatMap (opsAt L) ++ opsAt L as_[k] by
    rw [List.take_succ_eq_append_getElem hlt,List.flatMap_append];simp)
   obtain ⟨rw0,rs0,c0,b0,hl1,hl2,ee1,ee2,hc0,hs0,hn0,hv0,hp0⟩:=HA.out.getC as_[k]
   have HC0:=Lib.hid hc0.inn
   have HE0:=Lib.hid (show opsAt L as_[k] = c0.Ops by unfold opsAt;rw [ee1])
   generalize as_[k] = x at e1 HTK hl1 hl2 ee1 ee2 HE0
   have HX:=Lib.hid hx
   have HO:=Lib.hid ho
   have HLT:=Lib.hid hlt
   have HF:=Lib.hid hf
   have HFa:=Lib.hid hf1
   have HN0:=Lib.hid hn0
   have cc1:=cell_fr0 HA.out.c1 hf
   have mm1:=mpI_fr HA.out.all hf (by simp [noB])
   clear hk hlt ee1 ee2 hc0 hs0 hn0 hv0 hp0 hx ho hf hf1
   go_upto_region 5 with fail
   have fz:Fr noB wr (wr.alloc (ido zID)):=(Fr.refl noB wr).alloc _
   have bz:bxI (wr.alloc (ido zID)) wr.heap.size = some zID:=bxI_new wr zID
   obtain ⟨p1,p2,p3⟩:=putB_fr bz x
   have f12:Fr noB wr (putB (wr.alloc (ido zID)) wr.heap.size x):=fz.step1 p1 (Nat.le_refl _)
   have q12:=bxI_rd p3
   obtain ⟨D2,hD2⟩:∃ x,x = wr.heap.size:=⟨_,rfl⟩
   rw [← hD2] at q12 f12 ⊢
   have cc2:=cell_fr0 cc1 f12
   have mm2:=mpI_fr mm1 f12 (by simp [noB])
   have HD2:=Lib.hid hD2
   have HF12:=Lib.hid (HF.out.step0 f12)
   have HO12:=Lib.hid (own_new0 HO.out f12)
   have HFb:=Lib.hid (HFa.out.step0 f12)
   clear hD2 e1 f12 cc1 mm1 fz bz p1 p2 p3
   generalize putB (wr.alloc (ido zID)) D2 x = W12 at q12 cc2 mm2 HF12 HO12 HFb ⊢
   have hk5:∀ w' w'':World,Fr noB w' w'' → (w'.cell? ⟨H,1,none⟩ = some (.map (some A)) ∧ rdI w' D2 0 = some x ∧ mpI w' A = some kvA) → (w''.cell? ⟨H,1,none⟩ = some (.map (some A)) ∧ rdI w'' D2 0 = some x ∧ mpI w'' A = some kvA):=fun w' w'' f h=>⟨cell_fr0 h.1 f,rdI_fr h.2.1 (rdI_lt h.2.1) f (by simp [noB]),mpI_fr h.2.2 f (by simp [noB])⟩
   have fd:Fr noB W12 W12.drew:=(Fr.refl noB W12).drew
   have hF0:=hk5 _ _ fd ⟨cc2,q12,mm2⟩
   refine wp_region_M 9 10 [⟨524288,32,0⟩,⟨1048576,1,0⟩,⟨2097152,1048576,2⟩,⟨4194304,2097152,4⟩,⟨8388608,4194304,8⟩,⟨16777216,128,0⟩,⟨33554432,25165824,48⟩,⟨67108864,33554432,64⟩,⟨134217728,67633152,129⟩,⟨32,134217728,511⟩] [(true,0),(true,1),(true,2),(true,3),(true,4),(true,5),(true,6),(true,7),(false,8)] (fun w'=>w'.cell? ⟨H,1,none⟩ = some (.map (some A)) ∧ rdI w' D2 0 = some x ∧ mpI w' A = some kvA) (by kernel_rfl) rfl (by kernel_rfl) (by kernel_rfl) (by kernel_rfl) hF0 (fun hA hF=>?_)
   iterate 8
    refine wpAnyS_take (v:=?_) hA rfl (fun _ _ _ h=>h) (Or.inl ⟨by rfl,?_⟩) hF (fun hA=>?_)
    rotate_left
    ·intro wS hSw;(try dsimp only at hSw);obtain ⟨s1,s2,s3⟩:=hSw;first | (apply Eq.trans;apply ex_ld_id;exact rfl;exact rfl;assumption;with_reducible rfl) | (apply Eq.trans;apply ex_ldO_at;exact rfl;exact rfl;assumption;with_reducible rfl) | (apply Eq.trans;apply ex_ldS_at;exact rfl;exact rfl;assumption;with_reducible rfl) | (go_simp;try with_reducible rfl)
    try simp only [sA1,sA2,sA3,Act.put,sA4,sA5,sA6]
   refine wpAnyS_one hA rfl (fun K' hK=>?_)
   have hxl:=HX.out.1
   have hfl:=flat_le HA.out.ok (as_.take k)
   have hlen:raw.length ≤ 64000:=by
    have:=HLE.out
    have:=HLT.out
    rw [List.length_take] at hfl
    omega
   have hrl:rs0.length ≤ 64:=by rw [HC0.out.ops.len];exact HN0.out
   refine step_appC' etO w1 _ rfl _ _ rfl A2 raw.length c2 raw rfl rfl (own_new0 HO12.out fd) rw0.OA rw0.on rw0.oc rs0 rfl ((HC0.out.os.fr0 HF12.out).fr0 fd) HC0.out.ol (by omega) (HFb.out.step0 fd).size ?_
   intro A7 c7 w7 hc7 hm7 o7 g7 hA7
   have oo:=own_new0 HO12.out fd
   have fg:Fr noB w1 w7:=gv_own (HFb.out.step0 fd) oo g7
   have fm:Fr (fun b=>A2.map (·.block) = some b) W12.drew w7:=Fr.ofGrown g7 (fun g hg=>hg)
   replace hF:=And.intro (gcell_fr hF0.1 fm (fun h=>by have:=(own_lt oo _ h).1;have:=HCL.out.1;omega)) (And.intro (rdI_fr hF0.2.1 (rdI_lt hF0.2.1) fm (fun h=>by have:=(own_lt HO.out _ h).2;have:=HD2.out;omega)) (mpI_fr hF0.2.2 fm (fun h=>by have:=(own_lt oo _ h).1;have:=HCL.out.2;omega)))
   refine hK.out _ _ hF (fun hA=>?_)
   clear hK K'
   as_aux_lemma =>
   refine wpAnyS_end hA rfl ?_
   simp only [List.drop_succ_cons,List.drop_zero]
   clear hF hk5 hF0 oo fm
   have hll:(raw ++ rs0).length = raw.length + rs0.length:=List.length_append
   rw [hll]
   have HNX:=Lib.hid (And.intro o7 (And.intro fg hll))
   clear o7 g7 hA7 fg cc2 mm2 q12 fd hll hfl hxl
   go_wp2_with fail
   go_roundg (as_.length - (k + 1))
   case measure=>have:=HLT.out;omega
   case rel =>
    refine ⟨k + 1,A7,c7,raw ++ rs0,congrArg (Value.int .i64) (IntWalk.wrap64_in _ (by have:=HLT.out;have:=HLE.out;omega)),by rw [HNX.out.2.2],rfl,HLT.out,HNX.out.1,?_,HNX.out.2.1⟩
    rw [HTK.out,HE0.out]
    exact HX.out.app ⟨HC0.out.ops.len,HC0.out.ops.at_⟩
  ·have j1:¬ (k:Int) < (as_.length:Int):=by omega
   have hke:k = as_.length:=by omega
   have hxl:=hx.1
   rw [hke,List.take_length] at hx hxl
   have hfl:=flat_le HA.out.ok as_
   have hrb:raw.length ≤ 64000:=by have:=HLE.out;omega
   have hov:∀ o ∈ as_.flatMap (opsAt L),o.Over.length ≤ 1000000:=fun o ho=>by
    obtain ⟨x,_,hx2⟩:=List.mem_flatMap.1 ho
    unfold opsAt at hx2
    cases hfx:findC L x with
    | none=>rw [hfx] at hx2;simp [zChg] at hx2
    | some c =>
     rw [hfx] at hx2
     have:=goodOp_over ((rightCh_parts (HA.out.ok.right _ (findC_mem hfx))).2.2.2.1 o hx2).1
     omega
   have CS:=Lib.hid (sSortD_any wr A2 c2 _ raw (as_.flatMap (opsAt L)) rfl (Sl.own ho) (hx.map fun r o h=>h.fr hf) (flat_nd HA.out.ok HN.out HND.out) (by rw [← hxl];omega) hov)
   have HXL:=Lib.hid (And.intro hxl hrb)
   clear hx hxl hfl hrb hov hk hlt ho
   go_wp2_with (go_at_call 44;refine CS.out.mono ?_;rintro e w6 ⟨A6,c6,rs6,L6,rfl,hp6,hs6,hsl6,ha6,_,f6⟩)
   go_ret
   refine ⟨A6,c6,rs6,L6,rfl,ops_of HM.out hp6 hs6,by rw [hp6.length_eq,← HXL.out.1];exact HXL.out.2,hsl6,⟨ha6.1,fun i a b=>?_⟩,hf.step0 f6⟩
   have hq:=ha6.2 i a b
   exact ⟨hq.op,own_base hq.own hf.size⟩
def RwsTo (w:World) (L:Hst) (ids:List ID) (e:Ending) (w':World):Prop:=∃ l wa,OpsP L ids l ∧ l.length ≤ 64000 ∧ Fr noB w wa ∧ RowsTo wa (runX [] l) e w'
set_option maxRecDepth 100000 in
theorem mgRows_any {w:World} {H:Nat} {S:Nat → Prop} {L:Hst} (h:Hs w H S L) (hn:NdH L) (hl:L.length ≤ 1000) (P:Option Addr) (c n:Nat) (ids:List ID) (hi:ids.length = n) (hs:Sl w P (idc ids)) (hb:ids.length ≤ 1000000000) :
  Calls Tryz.prog 20 #[.pointer (some ⟨H,0,none⟩),.slice P n c] w (RwsTo w L ids):=by
 have CO:=Lib.hid (mgOps_any h hn hl P c n ids hi hs hb)
 have HK:=Lib.hid h.ok
 clear h hn hl hi hs hb
 go_enter Tryz.func20,Tryz.ntmps20
 go_wp2_with (first
  | (go_at_call 17;refine CO.out.mono ?_;rintro e w1 ⟨A1,c1,rs1,l1,rfl,p1,b1,s1,a1,f1⟩)
  | (go_at_call 48;refine (mgTree_any w1 A1 c1 _ rs1 l1 rfl s1 ⟨a1.1,fun i h h'=>(a1.2 i h h').op.inn⟩ (p1.good HK.out) p1.srt (by omega)).mono ?_;rintro e w2 ⟨b2,t2,rfl,g2,f2⟩)
  | (go_at_call 49;refine (gvRows_any g2 (by omega)).mono ?_;rintro e w3 ⟨A3,c3,rs3,ys3,rfl,o3,x3,ap3,p3,q3,f3⟩))
 go_ret
 exact ⟨l1,w2,p1,b1,f1.step0 f2,A3,c3,rs3,ys3,rfl,o3,x3,ap3,p3,q3,f3⟩
end Go.Proofs.YtjpieiccpbcabaaGreat
namespace Go.Proofs.YtjpieiccpbcabaaGreat
open Go.RowKit Go.Maps Go.Sort Go.Shelf
attribute [local go_sem] Oper.semAt_some
theorem any_rangeD {α:Type} (l:List α) (d:α) (q:α → Bool):(List.range l.length).any (fun i=>q (l.getD i d)) = l.any q:=by
 rw [Bool.eq_iff_iff,List.any_eq_true,List.any_eq_true]
 constructor
 ·rintro ⟨i,hi,h⟩
  have hi':=List.mem_range.1 hi
  rw [List.getD_eq_getElem?_getD,List.getElem?_eq_getElem hi'] at h
  exact ⟨_,List.getElem_mem hi',h⟩
 ·rintro ⟨x,hx,h⟩
  obtain ⟨i,hi,rfl⟩:=List.getElem_of_mem hx
  refine ⟨i,List.mem_range.2 hi,?_⟩
  rw [List.getD_eq_getElem?_getD,List.getElem?_eq_getElem hi]
  exact h
set_option maxRecDepth 100000 in
theorem mgAdd1_any {w:World} {H:Nat} {S:Nat → Prop} {L:Hst} (h:Hs w H S L) (B:Nat) (hB:w.cell? ⟨B,0,none⟩ = some (.pointer (some ⟨H,0,none⟩))) (x:ID) :
  Calls Tryz.prog 34 #[encI x,.pointer (some ⟨B,0,none⟩)] w (Gives w (.bool (!hasG (dgH L) x))):=by
 obtain ⟨D,A,O,kvA,kvO,F,Q,h1,h2,h3⟩:=h
 have f0:Fr noB w (w.alloc (ido x)):=(Fr.refl noB w).alloc _
 have q0:rdI (w.alloc (ido x)) w.heap.size 0 = some x:=rdI_new w x
 have b0:=cell_fr0 hB f0
 have c0:=cell_fr0 h1.c0 f0
 have hd:=h1.dag
 have CH:=Lib.hid (fun w' (f:Fr noB w w')=>has_any w' D F (dgH L) (hd.fr0 f) x)
 clear h1 h2 h3 hd hB
 go_enter Tryz.func34,Tryz.ntmps34
 go_upto_region 1 with fail
 generalize w.alloc (ido x) = W0 at f0 q0 b0 c0 ⊢
 generalize w.heap.size = X at q0 ⊢
 have hk:∀ w' w'':World,Fr noB w' w'' → (w'.cell? ⟨B,0,none⟩ = some (.pointer (some ⟨H,0,none⟩)) ∧ w'.cell? ⟨H,0,none⟩ = some (.pointer (some ⟨D,0,none⟩)) ∧ rdI w' X 0 = some x) → (w''.cell? ⟨B,0,none⟩ = some (.pointer (some ⟨H,0,none⟩)) ∧ w''.cell? ⟨H,0,none⟩ = some (.pointer (some ⟨D,0,none⟩)) ∧ rdI w'' X 0 = some x):=fun w' w'' f h=>⟨cell_fr0 h.1 f,cell_fr0 h.2.1 f,rdI_fr h.2.2 (rdI_lt h.2.2) f (by simp [noB])⟩
 have fd:Fr noB W0 W0.drew:=(Fr.refl noB W0).drew
 have hF0:=hk _ _ fd ⟨b0,c0,q0⟩
 refine wp_region_M 7 8 [⟨16,2,0⟩,⟨32,16,1⟩,⟨64,32,2⟩,⟨128,64,4⟩,⟨256,4,0⟩,⟨512,384,24⟩,⟨1024,512,32⟩,⟨8,1024,127⟩] [(true,0),(true,1),(true,2),(true,3),(true,4),(false,5),(true,6)] (fun w'=>w'.cell? ⟨B,0,none⟩ = some (.pointer (some ⟨H,0,none⟩)) ∧ w'.cell? ⟨H,0,none⟩ = some (.pointer (some ⟨D,0,none⟩)) ∧ rdI w' X 0 = some x) (by kernel_rfl) rfl (by kernel_rfl) (by kernel_rfl) (by kernel_rfl) hF0 (fun hA hF=>?_)
 iterate 5
  refine wpAnyS_take (v:=?_) hA rfl (fun _ _ _ h=>h) (Or.inl ⟨by rfl,?_⟩) hF (fun hA=>?_)
  rotate_left
  ·intro wS hSw;(try dsimp only at hSw);obtain ⟨s1,s2,s3⟩:=hSw;first | (apply Eq.trans;apply ex_ld_id;exact rfl;exact rfl;assumption;with_reducible rfl) | (apply Eq.trans;apply ex_ldO_at;exact rfl;exact rfl;assumption;with_reducible rfl) | (apply Eq.trans;apply ex_ldC_at;exact rfl;exact rfl;assumption;with_reducible rfl) | (apply Eq.trans;apply ex_ldS_at;exact rfl;exact rfl;assumption;with_reducible rfl) | (go_simp;try with_reducible rfl)
  try simp only [sA1,sA2,sA3,Act.put,sA4,sA5,sA6]
 refine wpAnyS_one hA rfl (fun K' hK=>?_)
 go_simp
 go_at_call 32
 refine (CH.out _ (f0.step0 fd)).mono ?_
 rintro e w2 ⟨rfl,f2⟩
 replace hF:=hk _ _ f2 hF
 refine hK.out _ _ hF (fun hA=>?_)
 clear hK K'
 as_aux_lemma =>
 refine wpAnyS_take (v:=?_) hA rfl (fun _ _ _ h=>h) (Or.inl ⟨by rfl,?_⟩) hF (fun hA=>?_)
 rotate_left
 ·intro wS hSw;(try dsimp only at hSw);obtain ⟨s1,s2,s3⟩:=hSw;first | (apply Eq.trans;apply ex_ld_id;exact rfl;exact rfl;assumption;with_reducible rfl) | (apply Eq.trans;apply ex_ldO_at;exact rfl;exact rfl;assumption;with_reducible rfl) | (apply Eq.trans;apply ex_ldC_at;exact rfl;exact rfl;assumption;with_reducible rfl) | (apply Eq.trans;apply ex_ldS_at;exact rfl;exact rfl;assumption;with_reducible rfl) | (go_simp;try with_reducible rfl)
 try simp only [sA1,sA2,sA3,Act.put,sA4,sA5,sA6]
 refine wpAnyS_end hA rfl ?_
 simp only [List.drop_succ_cons,List.drop_zero]
 clear hF hk hF0
 go_wp2_with fail
 go_ret
 exact ⟨rfl,(f0.step0 fd).step0 f2⟩
set_option maxRecDepth 100000 in
theorem mgRight1_any {w:World} {H:Nat} {S:Nat → Prop} {L:Hst} (h:Hs w H S L) (B C:Nat) (T:Int) (hB:w.cell? ⟨B,0,none⟩ = some (.pointer (some ⟨H,0,none⟩))) (hC:w.cell? ⟨C,1,none⟩ = some (.int .i64 T)) (x:ID) :
  Calls Tryz.prog 65 #[encI x,.pointer (some ⟨B,0,none⟩),.pointer (some ⟨C,0,none⟩)] w (Gives w (.bool (match findC L x with | none=>false | some d=>decide (T ≤ d.Time)))):=by
 obtain ⟨D,A,O,kvA,kvO,F,Q,h1,h2,h3⟩:=h
 have f0:Fr noB w (w.alloc (ido x)):=(Fr.refl noB w).alloc _
 have q0:rdI (w.alloc (ido x)) w.heap.size 0 = some x:=rdI_new w x
 have b0':=cell_fr0 hB f0
 have t0:=cell_fr0 hC f0
 have c1:=cell_fr0 h1.c1 f0
 have m1:=mpI_fr h1.all f0 (by simp [noB])
 obtain ⟨rw0,rs0,c0,b0,hl1,hl2,e1,e2,hc0,_⟩:=h1.getC x
 have hres:(match findC L x with | none=>false | some d=>decide (T ≤ d.Time)) = (b0 && decide (T ≤ rw0.Time)):=by
  cases hf:findC L x with
  | none=>rw [hf] at e2;rw [e2];rfl
  | some d =>
   rw [hf] at e1 e2
   have:d.Time = rw0.Time:=by rw [← hc0.inn.time,e1];rfl
   rw [e2,← this];rfl
 rw [hres]
 clear h1 h2 h3 hB hC hc0 e1 e2 hres
 go_enter Tryz.func65,Tryz.ntmps65
 go_upto_region 1 with fail
 generalize w.alloc (ido x) = W0 at f0 q0 b0' t0 c1 m1 ⊢
 generalize w.heap.size = X at q0 ⊢
 have hk:∀ w' w'':World,Fr noB w' w'' → (w'.cell? ⟨B,0,none⟩ = some (.pointer (some ⟨H,0,none⟩)) ∧ w'.cell? ⟨H,1,none⟩ = some (.map (some A)) ∧ rdI w' X 0 = some x ∧ mpI w' A = some kvA) → (w''.cell? ⟨B,0,none⟩ = some (.pointer (some ⟨H,0,none⟩)) ∧ w''.cell? ⟨H,1,none⟩ = some (.map (some A)) ∧ rdI w'' X 0 = some x ∧ mpI w'' A = some kvA):=fun w' w'' f h=>⟨cell_fr0 h.1 f,cell_fr0 h.2.1 f,rdI_fr h.2.2.1 (rdI_lt h.2.2.1) f (by simp [noB]),mpI_fr h.2.2.2 f (by simp [noB])⟩
 have fd:Fr noB W0 W0.drew:=(Fr.refl noB W0).drew
 have hF0:=hk _ _ fd ⟨b0',c1,q0,m1⟩
 refine wp_region_M 11 12 [⟨256,2,0⟩,⟨512,256,1⟩,⟨1024,512,2⟩,⟨2048,1024,4⟩,⟨4096,8,0⟩,⟨8192,6144,24⟩,⟨128,8192,32⟩,⟨16384,128,64⟩,⟨32768,128,64⟩,⟨32,0,0⟩,⟨0,16416,767⟩,⟨64,32768,2047⟩] [(true,0),(true,1),(true,2),(true,3),(true,4),(true,5),(true,6),(true,7),(true,8),(false,9),(false,10)] (fun w'=>w'.cell? ⟨B,0,none⟩ = some (.pointer (some ⟨H,0,none⟩)) ∧ w'.cell? ⟨H,1,none⟩ = some (.map (some A)) ∧ rdI w' X 0 = some x ∧ mpI w' A = some kvA) (by kernel_rfl) rfl (by kernel_rfl) (by kernel_rfl) (by kernel_rfl) hF0 (fun hA hF=>?_)
 iterate 9
  refine wpAnyS_take (v:=?_) hA rfl (fun _ _ _ h=>h) (Or.inl ⟨by rfl,?_⟩) hF (fun hA=>?_)
  rotate_left
  ·intro wS hSw;(try dsimp only at hSw);obtain ⟨s1,s2,s3,s4⟩:=hSw;first | (apply Eq.trans;apply ex_ld_id;exact rfl;exact rfl;assumption;with_reducible rfl) | (apply Eq.trans;apply ex_ldO_at;exact rfl;exact rfl;assumption;with_reducible rfl) | (apply Eq.trans;apply ex_ldC_at;exact rfl;exact rfl;assumption;with_reducible rfl) | (apply Eq.trans;apply ex_ldS_at;exact rfl;exact rfl;assumption;with_reducible rfl) | (go_simp;try with_reducible rfl)
  try simp only [sA1,sA2,sA3,Act.put,sA4,sA5,sA6]
 refine wpAnyS_one hA rfl (fun K' hK=>?_)
 refine step_runI rfl _ _ (okC.alOp _ _ rfl _) ?_
 have fa:Fr noB W0.drew (W0.drew.alloc (codC.o zCgW)):=(Fr.refl noB _).alloc _
 replace hF:=hk _ _ fa hF
 refine hK.out _ _ hF (fun hA=>?_)
 clear hK K'
 as_aux_lemma =>
 refine wpAnyS_one hA rfl (fun K' hK=>?_)
 refine stp_skip rfl _ (ex_stV_at (C:=codC) (v:=rw0) rfl rfl rfl (st_newC W0.drew rw0 zCgW)) ?_
 have fb:Fr noB W0.drew (W0.drew.alloc (codC.o rw0)):=(Fr.refl noB _).alloc _
 replace hF:=(hk _ _ fb hF0)
 refine hK.out _ _ hF (fun hA=>?_)
 clear hK K'
 as_aux_lemma =>
 refine wpAnyS_end hA rfl ?_
 simp only [List.drop_succ_cons,List.drop_zero]
 clear hF hk hF0 fa hl1 hl2
 have u:=(cgAt (Cod.bxd_rd (Cod.bxd_new (C:=codC) W0.drew rw0))).time
 have t1:=cell_fr0 (cell_fr0 t0 fd) fb
 have g1:=(f0.step0 fd).step0 fb
 clear f0 fd fb q0 b0' c1 m1 t0
 generalize W0.drew.alloc (codC.o rw0) = W1 at u t1 g1 ⊢
 generalize W0.drew.heap.size = N at u ⊢
 cases b0 with
 | false =>
  go_wp2_with fail
  go_ret
  exact ⟨rfl,g1⟩
 | true =>
  go_wp2_with fail
  go_ret
  exact ⟨by simp,g1⟩
set_option maxRecDepth 100000 in
theorem mgClash1_any {w:World} {H:Nat} {S:Nat → Prop} {L:Hst} (h:Hs w H S L) (B:Nat) (hB:w.cell? ⟨B,0,none⟩ = some (.pointer (some ⟨H,0,none⟩))) (r:OpW) (o:Opn) (ho:OpIn w r o) (hw:wfS o.At = true) :
  Calls Tryz.prog 67 #[.agg (codO.A r),.pointer (some ⟨B,0,none⟩)] w (Gives w (.bool (match findO (opsH L) o.At with | none=>false | some x=>!decide (x = o)))):=by
 obtain ⟨D,A,O,kvA,kvO,F,Q,h1,h2,h3⟩:=h
 have f0:Fr noB w (w.alloc (.cells (codO.A r) 83)):=(Fr.refl noB w).alloc _
 have q0:codO.rd (w.alloc (.cells (codO.A r) 83)) w.heap.size 0 = some r:=Cod.rd_new w 83 r
 have a0:=(opAt q0).At
 have b0':=cell_fr0 hB f0
 have c2:=cell_fr0 h1.c2 f0
 have m2:=mpT_fr0 h1.ops f0
 have ea:o.At = r.At:=by rw [ho.eq];rfl
 obtain ⟨rw0,x0,b0,hl1,hl2,e1,hx0⟩:∃ (rw0:OpW) (x0:Opn) (b0:Bool),(look kvO r.At).getD (.agg (codO.A zOpW)) = .agg (codO.A rw0) ∧ (look kvO r.At).isSome = b0 ∧ (match findO (opsH L) o.At with | none=>false | some x=>!decide (x = o)) = (b0 && !sameO x0 o) ∧ (b0 = true → OpIn w rw0 x0):=by
  rcases h1.os r.At with ⟨g1,g2⟩ | ⟨x,q,g1,g2,g3⟩
  ·exact ⟨zOpW,o,false,by rw [g2];rfl,by rw [g2];rfl,by rw [ea,g1];rfl,fun h=>(by cases h)⟩
  ·refine ⟨q,x,true,by rw [g2];rfl,by rw [g2];rfl,?_,fun _=>g3.inn⟩
   rw [ea,g1]
   have:sameO x o = decide (x = o):=by
    rw [Bool.eq_iff_iff,sameO_iff,decide_eq_true_eq]
   rw [this];rfl
 rw [e1]
 have HO:=Lib.hid ho
 have HX:=Lib.hid hx0
 rw [ea] at hw
 clear h1 h2 h3 hB e1 ho hx0 ea
 go_enter Tryz.func67,Tryz.ntmps67
 go_upto_region 1 with fail
 generalize w.alloc (.cells (codO.A r) 83) = W0 at f0 q0 a0 b0' c2 m2 ⊢
 generalize w.heap.size = X at q0 a0 ⊢
 have hk:∀ w' w'':World,Fr noB w' w'' → (w'.cell? ⟨B,0,none⟩ = some (.pointer (some ⟨H,0,none⟩)) ∧ w'.cell? ⟨H,2,none⟩ = some (.map (some O)) ∧ codS.rd w' X 1 = some r.At ∧ mpT w' O = some kvO) → (w''.cell? ⟨B,0,none⟩ = some (.pointer (some ⟨H,0,none⟩)) ∧ w''.cell? ⟨H,2,none⟩ = some (.map (some O)) ∧ codS.rd w'' X 1 = some r.At ∧ mpT w'' O = some kvO):=fun w' w'' f h=>⟨cell_fr0 h.1 f,cell_fr0 h.2.1 f,Cod.rd_fr0 h.2.2.1 f,mpT_fr0 h.2.2.2 f⟩
 have fd:Fr noB W0 W0.drew:=(Fr.refl noB W0).drew
 have hF0:=hk _ _ fd ⟨b0',c2,a0,m2⟩
 refine wp_region_M 12 13 [⟨128,2,0⟩,⟨256,128,1⟩,⟨512,256,2⟩,⟨1024,512,4⟩,⟨2048,4,0⟩,⟨4096,2048,16⟩,⟨8192,5120,40⟩,⟨64,8192,64⟩,⟨16384,64,128⟩,⟨32768,64,128⟩,⟨16,0,0⟩,⟨0,16400,1535⟩,⟨32,32768,4095⟩] [(true,0),(true,1),(true,2),(true,3),(true,4),(true,5),(true,6),(true,7),(true,8),(true,9),(false,10),(false,11)] (fun w'=>w'.cell? ⟨B,0,none⟩ = some (.pointer (some ⟨H,0,none⟩)) ∧ w'.cell? ⟨H,2,none⟩ = some (.map (some O)) ∧ codS.rd w' X 1 = some r.At ∧ mpT w' O = some kvO) (by kernel_rfl) rfl (by kernel_rfl) (by kernel_rfl) (by kernel_rfl) hF0 (fun hA hF=>?_)
 iterate 10
  refine wpAnyS_take (v:=?_) hA rfl (fun _ _ _ h=>h) (Or.inl ⟨by rfl,?_⟩) hF (fun hA=>?_)
  rotate_left
  ·intro wS hSw;(try dsimp only at hSw);obtain ⟨s1,s2,s3,s4⟩:=hSw;first | (apply Eq.trans;apply ex_ld_id;exact rfl;exact rfl;assumption;with_reducible rfl) | (apply Eq.trans;apply ex_ldO_at;exact rfl;exact rfl;assumption;with_reducible rfl) | (apply Eq.trans;apply ex_ldC_at;exact rfl;exact rfl;assumption;with_reducible rfl) | (apply Eq.trans;apply ex_ldS_at;exact rfl;exact rfl;assumption;with_reducible rfl) | (go_simp;try with_reducible rfl)
  try simp only [sA1,sA2,sA3,Act.put,sA4,sA5,sA6]
 refine wpAnyS_one hA rfl (fun K' hK=>?_)
 refine step_runI rfl _ _ (okO.alOp _ _ rfl _) ?_
 have fa:Fr noB W0.drew (W0.drew.alloc (codO.o zOpW)):=(Fr.refl noB _).alloc _
 replace hF:=hk _ _ fa hF
 refine hK.out _ _ hF (fun hA=>?_)
 clear hK K'
 as_aux_lemma =>
 refine wpAnyS_one hA rfl (fun K' hK=>?_)
 refine stp_skip rfl _ (ex_stV_at (C:=codO) (v:=rw0) rfl rfl rfl (st_newO W0.drew rw0 zOpW)) ?_
 have fb:Fr noB W0.drew (W0.drew.alloc (codO.o rw0)):=(Fr.refl noB _).alloc _
 replace hF:=(hk _ _ fb hF0)
 refine hK.out _ _ hF (fun hA=>?_)
 clear hK K'
 as_aux_lemma =>
 refine wpAnyS_end hA rfl ?_
 simp only [List.drop_succ_cons,List.drop_zero]
 clear hF hk hF0 fa hl1 hl2
 have u:=Cod.bxd_rd (Cod.bxd_new (C:=codO) W0.drew rw0)
 have q1:=Cod.rd_fr0 (Cod.rd_fr0 q0 fd) fb
 have g1:=(f0.step0 fd).step0 fb
 clear f0 fd fb q0 b0' c2 m2 a0
 generalize W0.drew.alloc (codO.o rw0) = W1 at u q1 g1 ⊢
 generalize W0.drew.heap.size = N at u ⊢
 cases b0 with
 | false =>
  go_wp2_with fail
  go_ret
  exact ⟨rfl,g1⟩
 | true =>
  have hx:=HX.out rfl
  have CS:=Lib.hid (sSame_any W1 rw0 r x0 o (hx.fr g1) (HO.out.fr g1))
  go_wp2_with (go_at_call 68;refine CS.out.mono ?_;rintro e w2 ⟨rfl,f2⟩)
  go_ret
  exact ⟨by simp,g1.step0 f2⟩
set_option maxRecDepth 100000 in
set_option maxHeartbeats 1000000 in
theorem ixA1_ix (w:World) (A:Option Addr) (c n:Nat) (l:List ID) (hn:l.length = n) (hs:Sl w A (idc l)) (hb:l.length ≤ 1000000000) (c1:Value) (p:Nat → Bool)
  (hf:∀ w',Fr noB w w' → ∀ i (hi:i < l.length),Calls Tryz.prog 34 #[encI l[i],c1] w' (Gives w' (.bool (p i)))) :
  Calls Tryz.prog 60 #[.slice A n c,.func (.func 34) #[] #[c1]] w (IxTo w ((List.range l.length).any p)):=by
 subst hn
 go_enter Tryz.func60,Tryz.ntmps60
 go_wp2_with fail
 go_loopg [8] l.length (fun gk iv wr=>IxR w l.length p gk iv wr)
 case atStart=>exact ⟨0,rfl,by omega,by omega,fun j hj=>absurd hj (by omega),Fr.refl _ _⟩
 case round =>
  obtain ⟨k,rfl,rfl,hk,hj,hf0⟩:=hrel
  have HJ:=Lib.hid hj
  clear hj
  by_cases hlt:k < l.length
  ·have i1:(k:Int) < (l.length:Int):=by omega
   have i0:(0:Int) ≤ (k:Int):=by omega
   obtain ⟨g,off,rfl⟩:∃ g off,A = some ⟨g,off,none⟩:=Sl.adG hs (by omega)
   have e1:rdI wr g (off + k * 32) = some l[k]:=(hs.fr0 hf0).id k hlt
   have hc:=hf wr hf0 k hlt
   generalize l[k] = x at e1 hc
   by_cases hp:p k = true
   ·rw [hp] at hc
    have HP:=Lib.hid (any_hit hlt hp)
    clear hp
    go_wp2_with (go_at_call 34;refine hc.mono ?_;rintro e w1 ⟨rfl,f1⟩)
    go_ret
    exact ⟨k,rfl,by rw [HP.out];simp,hf0.step0 f1⟩
   ·have hp':p k = false:=by simpa using hp
    rw [hp'] at hc
    have HP:=Lib.hid hp'
    clear hp hp'
    go_wp2_with (go_at_call 34;refine hc.mono ?_;rintro e w1 ⟨rfl,f1⟩)
    go_roundg (l.length - (k + 1))
    case measure=>omega
    case rel=>exact ⟨k + 1,by simp,rfl,by omega,fun j hj=>by
     rcases Nat.lt_or_ge j k with h | h
     ·exact HJ.out j h
     ·have:j = k:=by omega
      rw [this];exact HP.out,hf0.step0 f1⟩
  ·have hkl:k = l.length:=by omega
   subst hkl
   have i1:¬ (l.length:Int) < (l.length:Int):=by omega
   have HP:=Lib.hid (any_none HJ.out)
   go_wp2_with fail
   go_ret
   exact ⟨-1,rfl,by rw [HP.out];rfl,hf0⟩
set_option maxRecDepth 100000 in
theorem ixA1_ct (w:World) (A:Option Addr) (c n:Nat) (l:List ID) (hn:l.length = n) (hs:Sl w A (idc l)) (hb:l.length ≤ 1000000000) (c1:Value) (p:Nat → Bool)
  (hf:∀ w',Fr noB w w' → ∀ i (hi:i < l.length),Calls Tryz.prog 34 #[encI l[i],c1] w' (Gives w' (.bool (p i)))) :
  Calls Tryz.prog 33 #[.slice A n c,.func (.func 34) #[] #[c1]] w (Gives w (.bool ((List.range l.length).any p))):=by
 have h:=Lib.hid (ixA1_ix w A c n l hn hs hb c1 p hf)
 clear hf hs
 subst hn
 generalize (List.range l.length).any p = b at h
 go_enter Tryz.func33,Tryz.ntmps33
 go_wp2_with (go_at_call 60;refine h.out.mono ?_;rintro e w1 ⟨z,rfl,hz,f1⟩)
 go_ret
 exact ⟨by rw [← hz];rfl,f1⟩
set_option maxRecDepth 100000 in
set_option maxHeartbeats 1000000 in
theorem ixR1_ix (w:World) (A:Option Addr) (c n:Nat) (l:List ID) (hn:l.length = n) (hs:Sl w A (idc l)) (hb:l.length ≤ 1000000000) (c1 c2:Value) (p:Nat → Bool)
  (hf:∀ w',Fr noB w w' → ∀ i (hi:i < l.length),Calls Tryz.prog 65 #[encI l[i],c1,c2] w' (Gives w' (.bool (p i)))) :
  Calls Tryz.prog 60 #[.slice A n c,.func (.func 65) #[] #[c1,c2]] w (IxTo w ((List.range l.length).any p)):=by
 subst hn
 go_enter Tryz.func60,Tryz.ntmps60
 go_wp2_with fail
 go_loopg [8] l.length (fun gk iv wr=>IxR w l.length p gk iv wr)
 case atStart=>exact ⟨0,rfl,by omega,by omega,fun j hj=>absurd hj (by omega),Fr.refl _ _⟩
 case round =>
  obtain ⟨k,rfl,rfl,hk,hj,hf0⟩:=hrel
  have HJ:=Lib.hid hj
  clear hj
  by_cases hlt:k < l.length
  ·have i1:(k:Int) < (l.length:Int):=by omega
   have i0:(0:Int) ≤ (k:Int):=by omega
   obtain ⟨g,off,rfl⟩:∃ g off,A = some ⟨g,off,none⟩:=Sl.adG hs (by omega)
   have e1:rdI wr g (off + k * 32) = some l[k]:=(hs.fr0 hf0).id k hlt
   have hc:=hf wr hf0 k hlt
   generalize l[k] = x at e1 hc
   by_cases hp:p k = true
   ·rw [hp] at hc
    have HP:=Lib.hid (any_hit hlt hp)
    clear hp
    go_wp2_with (go_at_call 65;refine hc.mono ?_;rintro e w1 ⟨rfl,f1⟩)
    go_ret
    exact ⟨k,rfl,by rw [HP.out];simp,hf0.step0 f1⟩
   ·have hp':p k = false:=by simpa using hp
    rw [hp'] at hc
    have HP:=Lib.hid hp'
    clear hp hp'
    go_wp2_with (go_at_call 65;refine hc.mono ?_;rintro e w1 ⟨rfl,f1⟩)
    go_roundg (l.length - (k + 1))
    case measure=>omega
    case rel=>exact ⟨k + 1,by simp,rfl,by omega,fun j hj=>by
     rcases Nat.lt_or_ge j k with h | h
     ·exact HJ.out j h
     ·have:j = k:=by omega
      rw [this];exact HP.out,hf0.step0 f1⟩
  ·have hkl:k = l.length:=by omega
   subst hkl
   have i1:¬ (l.length:Int) < (l.length:Int):=by omega
   have HP:=Lib.hid (any_none HJ.out)
   go_wp2_with fail
   go_ret
   exact ⟨-1,rfl,by rw [HP.out];rfl,hf0⟩
set_option maxRecDepth 100000 in
theorem ixR1_ct (w:World) (A:Option Addr) (c n:Nat) (l:List ID) (hn:l.length = n) (hs:Sl w A (idc l)) (hb:l.length ≤ 1000000000) (c1 c2:Value) (p:Nat → Bool)
  (hf:∀ w',Fr noB w w' → ∀ i (hi:i < l.length),Calls Tryz.prog 65 #[encI l[i],c1,c2] w' (Gives w' (.bool (p i)))) :
  Calls Tryz.prog 33 #[.slice A n c,.func (.func 65) #[] #[c1,c2]] w (Gives w (.bool ((List.range l.length).any p))):=by
 have h:=Lib.hid (ixR1_ix w A c n l hn hs hb c1 c2 p hf)
 clear hf hs
 subst hn
 generalize (List.range l.length).any p = b at h
 go_enter Tryz.func33,Tryz.ntmps33
 go_wp2_with (go_at_call 60;refine h.out.mono ?_;rintro e w1 ⟨z,rfl,hz,f1⟩)
 go_ret
 exact ⟨by rw [← hz];rfl,f1⟩
set_option maxRecDepth 100000 in
set_option maxHeartbeats 1000000 in
theorem ixC1_ix (w:World) (A:Option Addr) (c n:Nat) (l:List OpW) (hn:l.length = n) (hs:Sl w A (codO.row l)) (hb:l.length ≤ 1000000000) (c1:Value) (p:Nat → Bool)
  (hf:∀ w',Fr noB w w' → ∀ i (hi:i < l.length),Calls Tryz.prog 67 #[.agg (codO.A l[i]),c1] w' (Gives w' (.bool (p i)))) :
  Calls Tryz.prog 97 #[.slice A n c,.func (.func 67) #[] #[c1]] w (IxTo w ((List.range l.length).any p)):=by
 subst hn
 go_enter Tryz.func97,Tryz.ntmps97
 go_wp2_with fail
 go_loopg [8] l.length (fun gk iv wr=>IxR w l.length p gk iv wr)
 case atStart=>exact ⟨0,rfl,by omega,by omega,fun j hj=>absurd hj (by omega),Fr.refl _ _⟩
 case round =>
  obtain ⟨k,rfl,rfl,hk,hj,hf0⟩:=hrel
  have HJ:=Lib.hid hj
  clear hj
  by_cases hlt:k < l.length
  ·have i1:(k:Int) < (l.length:Int):=by omega
   have i0:(0:Int) ≤ (k:Int):=by omega
   obtain ⟨g,off,rfl⟩:∃ g off,A = some ⟨g,off,none⟩:=(by obtain ⟨g,off,h,_⟩:=hs.adC (by omega);exact ⟨g,off,h⟩)
   have e1:codO.rd wr g (off + k * 41) = some l[k]:=(hs.fr0 hf0).rd k hlt
   have hc:=hf wr hf0 k hlt
   generalize l[k] = x at e1 hc
   by_cases hp:p k = true
   ·rw [hp] at hc
    have HP:=Lib.hid (any_hit hlt hp)
    clear hp
    go_wp2_with (go_at_call 67;refine hc.mono ?_;rintro e w1 ⟨rfl,f1⟩)
    go_ret
    exact ⟨k,rfl,by rw [HP.out];simp,hf0.step0 f1⟩
   ·have hp':p k = false:=by simpa using hp
    rw [hp'] at hc
    have HP:=Lib.hid hp'
    clear hp hp'
    go_wp2_with (go_at_call 67;refine hc.mono ?_;rintro e w1 ⟨rfl,f1⟩)
    go_roundg (l.length - (k + 1))
    case measure=>omega
    case rel=>exact ⟨k + 1,by simp,rfl,by omega,fun j hj=>by
     rcases Nat.lt_or_ge j k with h | h
     ·exact HJ.out j h
     ·have:j = k:=by omega
      rw [this];exact HP.out,hf0.step0 f1⟩
  ·have hkl:k = l.length:=by omega
   subst hkl
   have i1:¬ (l.length:Int) < (l.length:Int):=by omega
   have HP:=Lib.hid (any_none HJ.out)
   go_wp2_with fail
   go_ret
   exact ⟨-1,rfl,by rw [HP.out];rfl,hf0⟩
set_option maxRecDepth 100000 in
theorem ixC1_ct (w:World) (A:Option Addr) (c n:Nat) (l:List OpW) (hn:l.length = n) (hs:Sl w A (codO.row l)) (hb:l.length ≤ 1000000000) (c1:Value) (p:Nat → Bool)
  (hf:∀ w',Fr noB w w' → ∀ i (hi:i < l.length),Calls Tryz.prog 67 #[.agg (codO.A l[i]),c1] w' (Gives w' (.bool (p i)))) :
  Calls Tryz.prog 66 #[.slice A n c,.func (.func 67) #[] #[c1]] w (Gives w (.bool ((List.range l.length).any p))):=by
 have h:=Lib.hid (ixC1_ix w A c n l hn hs hb c1 p hf)
 clear hf hs
 subst hn
 generalize (List.range l.length).any p = b at h
 go_enter Tryz.func66,Tryz.ntmps66
 go_wp2_with (go_at_call 97;refine h.out.mono ?_;rintro e w1 ⟨z,rfl,hz,f1⟩)
 go_ret
 exact ⟨by rw [← hz];rfl,f1⟩
end Go.Proofs.YtjpieiccpbcabaaGreat
namespace Go.Proofs.YtjpieiccpbcabaaGreat
open Go.RowKit Go.Maps Go.Sort Go.Shelf
attribute [local go_sem] Oper.semAt_some
theorem timeOk_any (L:Hst) (c:Chg):timeOk L c = !(List.range c.Parents.length).any (fun i=>match findC L (c.Parents.getD i zID) with | none=>false | some d=>decide (c.Time ≤ d.Time)):=by
 rw [any_rangeD c.Parents zID (fun p=>match findC L p with | none=>false | some d=>decide (c.Time ≤ d.Time))]
 unfold timeOk
 rw [List.all_eq_not_any_not]
 congr 2
 funext p
 cases findC L p with
 | none=>rfl
 | some d =>
  simp only
  rw [← decide_not]
  congr 1
  rw [eq_iff_iff]
  omega
set_option maxRecDepth 100000 in
set_option maxHeartbeats 1000000 in
theorem mgRight_any {w:World} {H:Nat} {S:Nat → Prop} {L:Hst} (h:Hs w H S L) (r:CgW) (rs:List OpW) (c:Chg) (hc:CgIn w r rs c) :
  Calls Tryz.prog 36 #[.pointer (some ⟨H,0,none⟩),.agg (codC.A r)] w (Gives w (.bool (rightCh c && timeOk L c))):=by
 have f0:Fr noB w ((w.alloc (.cells #[.pointer (some ⟨H,0,none⟩)] 25)).alloc (.cells (codC.A r) 35)):=((Fr.refl noB w).alloc _).alloc _
 have hz:(w.alloc (.cells #[.pointer (some ⟨H,0,none⟩)] 25)).heap.size = w.heap.size + 1:=by simp
 have b0:((w.alloc (.cells #[.pointer (some ⟨H,0,none⟩)] 25)).alloc (.cells (codC.A r) 35)).cell? ⟨w.heap.size,0,none⟩ = some (.pointer (some ⟨H,0,none⟩)):=cell_fr0 ((Blk.new w 25 [.pointer (some ⟨H,0,none⟩)]).cell 0) ((Fr.refl noB _).alloc _)
 have q0:codC.rd ((w.alloc (.cells #[.pointer (some ⟨H,0,none⟩)] 25)).alloc (.cells (codC.A r) 35)) (w.alloc (.cells #[.pointer (some ⟨H,0,none⟩)] 25)).heap.size 0 = some r:=Cod.rd_new _ 35 r
 rw [hz] at q0
 have CP:=Lib.hid (fun w' (f:Fr noB w w')=>putChange_any w' r rs c (hc.fr f))
 have HS:=Lib.hid h
 have HC:=Lib.hid hc
 have hrm:(rightCh c && timeOk L c) = (rightCh c && !(List.range c.Parents.length).any (fun i=>match findC L (c.Parents.getD i zID) with | none=>false | some d=>decide (c.Time ≤ d.Time))):=by rw [timeOk_any]
 rw [hrm]
 obtain ⟨bad,hbad⟩:∃ b,b = (List.range c.Parents.length).any (fun i=>match findC L (c.Parents.getD i zID) with | none=>false | some d=>decide (c.Time ≤ d.Time)):=⟨_,rfl⟩
 rw [← hbad]
 have HB:=Lib.hid hbad
 clear hbad hrm h hc
 go_enter Tryz.func36,Tryz.ntmps36
 go_upto_region 1 with fail
 generalize (w.alloc (.cells #[.pointer (some ⟨H,0,none⟩)] 25)).alloc (.cells (codC.A r) 35) = W0 at f0 b0 q0 ⊢
 generalize w.heap.size = P at b0 q0 ⊢
 cases hr:rightCh c with
 | false =>
  have HR:=Lib.hid (show putCh c = none by unfold putCh;rw [hr];rfl)
  have HG:=Lib.hid hr
  clear hr
  go_wp2_with (go_at_call 64;refine (CP.out _ f0).mono ?_;rintro e w2 ⟨A2,c2,rfl,_,f2,_⟩;rw [HR.out])
  go_ret
  exact ⟨by rw [HG.out];rfl,f0.step0 f2⟩
 | true =>
  have HR:=Lib.hid (show putCh c = some (chB c) by unfold putCh;rw [hr];rfl)
  have HG:=Lib.hid hr
  clear hr
  go_upto_region 2 with (go_at_call 64;refine (CP.out _ f0).mono ?_;rintro e w2 ⟨A2,c2,rfl,_,f2,_⟩;rw [HR.out])
  have g2:=f0.step0 f2
  have b2:=cell_fr0 b0 f2
  have q2:=Cod.rd_fr0 q0 f2
  have qa:=cgAt q2
  have u1:=qa.parents
  have t1:=qa.time
  rw [← HC.out.time] at t1
  rw [← HC.out.pl] at u1
  have CI:=Lib.hid (ixR1_ct w2 r.PA r.pc c.Parents.length c.Parents rfl (HC.out.ps.fr0 g2) (by have:=(rightCh_parts HG.out).1;omega) (.pointer (some ⟨P,0,none⟩)) (.pointer (some ⟨P + 1,0,none⟩)) (fun i=>match findC L (c.Parents.getD i zID) with | none=>false | some d=>decide (c.Time ≤ d.Time)) (fun w' f i hi=>by
   have h1:=mgRight1_any ((HS.out.fr0 g2).fr0 f) P (P + 1) c.Time (cell_fr0 b2 f) (cell_fr0 t1 f) c.Parents[i]
   have e:c.Parents.getD i zID = c.Parents[i]:=by rw [List.getD_eq_getElem?_getD,List.getElem?_eq_getElem hi];rfl
   rw [e]
   exact h1))
  rw [← HB.out] at CI
  clear q2 q0 b0 t1 qa
  go_wp2_with (go_at_call 33;refine CI.out.mono ?_;rintro e w3 ⟨rfl,f3⟩)
  go_ret
  exact ⟨by rw [HG.out];rfl,g2.step0 f3⟩
theorem clash_any (P os:List Opn):clashO P os = (List.range os.length).any (fun i=>match findO P (os.getD i (opOf zOpW [])).At with | none=>false | some x=>!decide (x = os.getD i (opOf zOpW []))) :=
 (any_rangeD os (opOf zOpW []) (fun o=>match findO P o.At with | none=>false | some x=>!decide (x = o))).symm
set_option maxRecDepth 100000 in
set_option maxHeartbeats 1000000 in
theorem mgClash_any {w:World} {H:Nat} {S:Nat → Prop} {L:Hst} (h:Hs w H S L) (A:Option Addr) (c n:Nat) (rs:List OpW) (os:List Opn) (hn:rs.length = n) (hs:Sl w A (codO.row rs)) (hX:AllO OpIn w rs os) (hb:os.length ≤ 1000000) (hw:∀ o ∈ os,wfS o.At = true) :
  Calls Tryz.prog 37 #[.pointer (some ⟨H,0,none⟩),.slice A n c] w (Gives w (.bool (clashO (opsH L) os))):=by
 have f0:Fr noB w (w.alloc (.cells #[.pointer (some ⟨H,0,none⟩)] 25)):=(Fr.refl noB w).alloc _
 have b0:(w.alloc (.cells #[.pointer (some ⟨H,0,none⟩)] 25)).cell? ⟨w.heap.size,0,none⟩ = some (.pointer (some ⟨H,0,none⟩)):=(Blk.new w 25 [.pointer (some ⟨H,0,none⟩)]).cell 0
 have hrl:=hX.1
 have CI:=Lib.hid (ixC1_ct (w.alloc (.cells #[.pointer (some ⟨H,0,none⟩)] 25)) A c n rs hn (hs.fr0 f0) (by omega) (.pointer (some ⟨w.heap.size,0,none⟩)) (fun i=>match findO (opsH L) (os.getD i (opOf zOpW [])).At with | none=>false | some x=>!decide (x = os.getD i (opOf zOpW []))) (fun w' f i hi=>by
  have hi':i < os.length:=by omega
  have h1:=mgClash1_any ((h.fr0 f0).fr0 f) w.heap.size (cell_fr0 b0 f) rs[i] os[i] (((hX.2 i hi hi').fr f0).fr f) (hw _ (List.getElem_mem hi'))
  have e:os.getD i (opOf zOpW []) = os[i]:=by rw [List.getD_eq_getElem?_getD,List.getElem?_eq_getElem hi'];rfl
  rw [e]
  exact h1))
 rw [hrl,← clash_any] at CI
 generalize clashO (opsH L) os = b at CI ⊢
 clear h hs hX hw hrl
 go_enter Tryz.func37,Tryz.ntmps37
 go_wp2_with (go_at_call 66;refine CI.out.mono ?_;rintro e w3 ⟨rfl,f3⟩)
 go_ret
 exact ⟨rfl,f0.step0 f3⟩
end Go.Proofs.YtjpieiccpbcabaaGreat
namespace Go.Proofs.YtjpieiccpbcabaaGreat
open Go.RowKit Go.Maps Go.Sort Go.Shelf
attribute [local go_sem] Oper.semAt_some
def Add15 (w:World) (H:Nat) (S:Nat → Prop) (L:Hst) (x:ID) (c:Chg) (e:Ending) (w':World):Prop :=
 e = .returned (.int .i64 (addH L x c).1) ∧ Hs w' H (grF S w w') (addH L x c).2 ∧ Fr S w w'
theorem Hs.same {w w':World} {H:Nat} {S:Nat → Prop} {L:Hst} (h:Hs w H S L) (f:Fr noB w w'):Hs w' H (grF S w w') L:=by
 obtain ⟨D,A,O,kvA,kvO,F,Q,h1,h2,h3⟩:=h
 exact ⟨D,A,O,kvA,kvO,F,Q,h1.fr0 f,fun b hb=>.inl (h2 b hb),fun b hb=>hb.elim (fun h=>Nat.lt_of_lt_of_le (h3 b h) f.size) (fun h=>h.2)⟩
theorem HsA.dag0 {w w':World} {H D A O:Nat} {kvA:List (ID × Value)} {kvO:List (St × Value)} {F Q:Nat → Prop} {L:Hst} (h:HsA w H D A O kvA kvO F Q L) (hd:DagAt w' D (grF F w w') (dgH L)) (f:Fr F w w'):HsA w' H D A O kvA kvO (grF F w w') Q L:=by
 have lH:=Blk.lt h.blk
 have lA:=mpI_lt h.all
 have lO:=mpT_lt h.ops
 have hq:∀ g,Q g → ¬ F g:=fun g hg=>(h.q g hg).1
 refine ⟨h.blk.fr f h.nFH,hd,mpI_fr h.all f h.nFA,mpT_fr h.ops f h.nFO,h.cn,fun y d hy=>?_,h.os.fr f hq,h.ok,fun hb=>?_,fun hb=>?_,fun hb=>?_,h.nAO,fun g hg=>?_,fun b hb=>?_⟩
 ·obtain ⟨r,rs,h1,h2⟩:=h.cs y d hy
  exact ⟨r,rs,h1,h2.fr f hq⟩
 ·rcases hb with hb | hb
  ·exact h.nFH hb
  ·omega
 ·rcases hb with hb | hb
  ·exact h.nFA hb
  ·omega
 ·rcases hb with hb | hb
  ·exact h.nFO hb
  ·omega
 ·obtain ⟨a,b,c,d⟩:=h.q g hg
  exact ⟨fun hb=>hb.elim a (fun hb=>by omega),b,c,Nat.lt_of_lt_of_le d f.size⟩
 ·exact hb.elim (fun hb=>Nat.lt_of_lt_of_le (h.lt b hb) f.size) (fun hb=>hb.2)
theorem findO_comm {P R:List Opn} (h:SameO (P ++ R)) (s:St):findO (P ++ R) s = findO (R ++ P) s:=by
 cases h1:findO (P ++ R) s with
 | none =>
  symm
  rw [findO_none] at h1 ⊢
  exact fun o ho=>h1 o (by simpa [or_comm] using ho)
 | some o =>
  obtain ⟨m1,e1⟩:=findO_some h1
  cases h2:findO (R ++ P) s with
  | none=>exact absurd e1 (findO_none.1 h2 o (by simpa [or_comm] using m1))
  | some o' =>
   obtain ⟨m2,e2⟩:=findO_some h2
   rw [h o m1 o' (by simpa [or_comm] using m2) (e1.trans e2.symm)]
theorem SameO.sub {P R:List Opn} (h:SameO P) (hs:∀ o ∈ R,o ∈ P):SameO R:=fun o ho o' ho' e=>h o (hs o ho) o' (hs o' ho') e
theorem HsA.more {w w':World} {H D A O:Nat} {kvA:List (ID × Value)} {kvO kvO':List (St × Value)} {F F' Q Q' M:Nat → Prop} {L:Hst} {x:ID} {c:Chg} {r:CgW} {rs:List OpW}
  (h:HsA w H D A O kvA kvO F Q L) (f:Fr M w w') (hMH:¬ M H) (hMQ:∀ g,Q g → ¬ M g) (hd:DagAt w' D F' (dgH ((x,c) :: L))) (hx:findC L x = none)
  (hA:mpI w' A = some (putL kvA x (.agg (codC.A r)))) (hO:mpT w' O = some kvO') (hos:OpsM (fun g=>Q g ∨ Q' g) w' kvO' (opsH L ++ c.Ops)) (hc:CgQ Q' w' r rs c) (ok:HOk ((x,c) :: L))
  (n1:¬ F' H) (n2:¬ F' A) (n3:¬ F' O) (hq:∀ g,Q g → ¬ F' g) (hq':∀ g,Q' g → ¬ F' g ∧ g ≠ A ∧ g ≠ O ∧ g < w'.heap.size) (hl:∀ b,F' b → b < w'.heap.size) :
  HsA w' H D A O (putL kvA x (.agg (codC.A r))) kvO' F' (fun g=>Q g ∨ Q' g) ((x,c) :: L):=by
 refine ⟨h.blk.fr f hMH,hd,hA,hO,fun y hy=>?_,fun y d hy=>?_,hos.congr fun s=>?_,ok,n1,n2,n3,h.nAO,fun g hg=>?_,hl⟩
 ·have hy':(if y = x then some c else findC L y) = none:=hy
  by_cases e:y = x
  ·rw [if_pos e] at hy';cases hy'
  ·rw [if_neg e] at hy'
   rw [look_putA,if_neg (fun e'=>e e'.symm)]
   exact h.cn y hy'
 ·have hy':(if y = x then some c else findC L y) = some d:=hy
  by_cases e:y = x
  ·rw [if_pos e] at hy'
   injection hy' with hy'
   subst hy'
   exact ⟨r,rs,by rw [look_putA,if_pos e.symm],hc.mono fun g hg=>.inr hg⟩
  ·rw [if_neg e] at hy'
   obtain ⟨r',rs',h1,h2⟩:=h.cs y d hy'
   exact ⟨r',rs',by rw [look_putA,if_neg (fun e'=>e e'.symm)];exact h1,(h2.fr f hMQ).mono fun g hg=>.inl hg⟩
 ·have e:opsH ((x,c) :: L) = c.Ops ++ opsH L:=rfl
  rw [e]
  have hs:SameO (opsH L ++ c.Ops):=ok.same.sub fun o ho=>by rw [e];simpa [or_comm] using ho
  exact findO_comm hs s
 ·rcases hg with hg | hg
  ·obtain ⟨a,b,d,g'⟩:=h.q g hg
   exact ⟨hq g hg,b,d,Nat.lt_of_lt_of_le g' f.size⟩
  ·exact hq' g hg
end Go.Proofs.YtjpieiccpbcabaaGreat
namespace Go.Proofs.YtjpieiccpbcabaaGreat
open Go.RowKit Go.Maps Go.Sort Go.Shelf
attribute [local go_sem] Oper.semAt_some
theorem miss_any (L:Hst) (ps:List ID):(ps.any fun p=>!hasG (dgH L) p) = (List.range ps.length).any (fun i=>!hasG (dgH L) (ps.getD i zID)):=(any_rangeD ps zID (fun p=>!hasG (dgH L) p)).symm
structure AdB (w:World) (P H:Nat) (x:ID) (r:CgW):Prop where
 p:w.cell? ⟨P,0,none⟩ = some (.pointer (some ⟨H,0,none⟩))
 i:rdI w (P + 1) 0 = some x
 c:codC.bxd w (P + 2) = some r
theorem AdB.fr {M:Nat → Prop} {w w':World} {P H:Nat} {x:ID} {r:CgW} (h:AdB w P H x r) (f:Fr M w w') (h0:¬ M P) (h1:¬ M (P + 1)) (h2:¬ M (P + 2)):AdB w' P H x r :=
 ⟨gcell_fr h.p f h0,rdI_fr h.i (rdI_lt h.i) f h1,Cod.bxd_fr h.c f h2⟩
theorem AdB.fr0 {w w':World} {P H:Nat} {x:ID} {r:CgW} (h:AdB w P H x r) (f:Fr noB w w'):AdB w' P H x r:=h.fr f (by simp [noB]) (by simp [noB]) (by simp [noB])
def AdLoop (W8:World) (O:Nat) (Q2:Nat → Prop) (P:List Opn) (os:List Opn) (gk:Nat) (iv:Value) (wr:World):Prop :=
 ∃ (k:Nat) (kv:List (St × Value)),iv = .int .i64 (k:Int) ∧ gk = os.length - k ∧ k ≤ os.length ∧ mpT wr O = some kv ∧ OpsM Q2 wr kv (P ++ os.take k) ∧ Fr (oneB O) W8 wr
set_option maxRecDepth 100000 in
set_option maxHeartbeats 8000000 in
theorem mgAdd_any {w:World} {H:Nat} {S:Nat → Prop} {L:Hst} (h:Hs w H S L) (hl:L.length < 100000) (x:ID) (r:CgW) (rs:List OpW) (c:Chg) (hq:CgQ (fun g=>¬ S g) w r rs c) (hpb:c.Parents.length ≤ 1000000000) :
  Calls Tryz.prog 10 #[.pointer (some ⟨H,0,none⟩),encI x,.agg (codC.A r)] w (Add15 w H S L x c):=by
 have fa:Fr noB w (w.alloc (.cells #[.pointer (some ⟨H,0,none⟩)] 25)):=(Fr.refl noB w).alloc _
 have fb:Fr noB (w.alloc (.cells #[.pointer (some ⟨H,0,none⟩)] 25)) ((w.alloc (.cells #[.pointer (some ⟨H,0,none⟩)] 25)).alloc (ido x)):=(Fr.refl noB _).alloc _
 have fc:Fr noB ((w.alloc (.cells #[.pointer (some ⟨H,0,none⟩)] 25)).alloc (ido x)) (((w.alloc (.cells #[.pointer (some ⟨H,0,none⟩)] 25)).alloc (ido x)).alloc (.cells (codC.A r) 35)):=(Fr.refl noB _).alloc _
 have za:(w.alloc (.cells #[.pointer (some ⟨H,0,none⟩)] 25)).heap.size = w.heap.size + 1:=by simp
 have zb:((w.alloc (.cells #[.pointer (some ⟨H,0,none⟩)] 25)).alloc (ido x)).heap.size = w.heap.size + 2:=by simp
 have q0:AdB (((w.alloc (.cells #[.pointer (some ⟨H,0,none⟩)] 25)).alloc (ido x)).alloc (.cells (codC.A r) 35)) w.heap.size H x r:=by
  have h1:=(Blk.new w 25 [.pointer (some ⟨H,0,none⟩)]).cell 0
  have h2:rdI ((w.alloc (.cells #[.pointer (some ⟨H,0,none⟩)] 25)).alloc (ido x)) (w.alloc (.cells #[.pointer (some ⟨H,0,none⟩)] 25)).heap.size 0 = some x:=rdI_new _ x
  rw [za] at h2
  have h3:=Cod.bxd_box (C:=codC) ((w.alloc (.cells #[.pointer (some ⟨H,0,none⟩)] 25)).alloc (ido x)) r
  rw [zb] at h3
  exact ⟨cell_fr0 (cell_fr0 h1 fb) fc,rdI_fr h2 (rdI_lt h2) fc (by simp [noB]),h3⟩
 have f0:=(fa.step0 fb).step0 fc
 have zc:(((w.alloc (.cells #[.pointer (some ⟨H,0,none⟩)] 25)).alloc (ido x)).alloc (.cells (codC.A r) 35)).heap.size = w.heap.size + 3:=by simp
 have HH:=Lib.hid h
 have hc:=hq.inn
 have HC:=Lib.hid hc
 have HCQ:=Lib.hid hq
 have HL:=Lib.hid hl
 have HPB:=Lib.hid hpb
 obtain ⟨D,A,O,kvA,kvO,F,Q,h1,h2,h3⟩:=h
 have HA:=Lib.hid h1
 have HS2:=Lib.hid h2
 have HS3:=Lib.hid h3
 have c0':=cell_fr0 h1.c0 f0
 have CHas:=Lib.hid (fun w' (f:Fr noB w w')=>has_any w' D F (dgH L) (h1.dag.fr0 f) x)
 clear fa fb fc za zb h1 h2 h3 hc hl hpb hq
 go_enter Tryz.func10,Tryz.ntmps10
 go_upto_region 1 with fail
 generalize ((w.alloc (.cells #[.pointer (some ⟨H,0,none⟩)] 25)).alloc (ido x)).alloc (.cells (codC.A r) 35) = W0 at q0 f0 zc c0' ⊢
 obtain ⟨P,hP⟩:∃ P,P = w.heap.size:=⟨_,rfl⟩
 rw [← hP] at q0 zc ⊢
 have e2:P + 1 + 1 = P + 2:=rfl
 have HP:=Lib.hid (And.intro hP zc)
 clear hP zc
 -- known
 have hk:∀ w' w'':World,Fr noB w' w'' → (w'.cell? ⟨P,0,none⟩ = some (.pointer (some ⟨H,0,none⟩)) ∧ w'.cell? ⟨H,0,none⟩ = some (.pointer (some ⟨D,0,none⟩)) ∧ rdI w' (P + 1) 0 = some x) → (w''.cell? ⟨P,0,none⟩ = some (.pointer (some ⟨H,0,none⟩)) ∧ w''.cell? ⟨H,0,none⟩ = some (.pointer (some ⟨D,0,none⟩)) ∧ rdI w'' (P + 1) 0 = some x):=fun w' w'' f h=>⟨cell_fr0 h.1 f,cell_fr0 h.2.1 f,rdI_fr h.2.2 (rdI_lt h.2.2) f (by simp [noB])⟩
 have fd:Fr noB W0 W0.drew:=(Fr.refl noB W0).drew
 have hF0:=hk _ _ fd ⟨q0.p,c0',q0.i⟩
 refine wp_region_M 6 7 [⟨4096,8,0⟩,⟨8192,4096,1⟩,⟨16384,8192,2⟩,⟨32768,16384,4⟩,⟨65536,16,0⟩,⟨131072,98304,24⟩,⟨128,131072,63⟩] [(true,0),(true,1),(true,2),(true,3),(true,4),(false,5)] (fun w'=>w'.cell? ⟨P,0,none⟩ = some (.pointer (some ⟨H,0,none⟩)) ∧ w'.cell? ⟨H,0,none⟩ = some (.pointer (some ⟨D,0,none⟩)) ∧ rdI w' (P + 1) 0 = some x) (by kernel_rfl) rfl (by kernel_rfl) (by kernel_rfl) (by kernel_rfl) hF0 (fun hA hF=>?_)
 iterate 5
  refine wpAnyS_take (v:=?_) hA rfl (fun _ _ _ h=>h) (Or.inl ⟨by rfl,?_⟩) hF (fun hA=>?_)
  rotate_left
  ·intro wS hSw;(try dsimp only at hSw);obtain ⟨s1,s2,s3⟩:=hSw;first | (apply Eq.trans;apply ex_ld_id;exact rfl;exact rfl;assumption;with_reducible rfl) | (apply Eq.trans;apply ex_ldO_at;exact rfl;exact rfl;assumption;with_reducible rfl) | (apply Eq.trans;apply ex_ldC_at;exact rfl;exact rfl;assumption;with_reducible rfl) | (apply Eq.trans;apply ex_ldS_at;exact rfl;exact rfl;assumption;with_reducible rfl) | (go_simp;try with_reducible rfl)
  try simp only [sA1,sA2,sA3,Act.put,sA4,sA5,sA6]
 refine wpAnyS_one hA rfl (fun K' hK=>?_)
 go_simp
 go_at_call 32
 refine (CHas.out _ (f0.step0 fd)).mono ?_
 rintro e w1 ⟨rfl,f1⟩
 replace hF:=hk _ _ f1 hF
 refine hK.out _ _ hF (fun hA=>?_)
 clear hK K'
 as_aux_lemma =>
 refine wpAnyS_end hA rfl ?_
 simp only [List.drop_succ_cons,List.drop_zero]
 clear hF hk hF0 CHas
 have q1:=(q0.fr0 fd).fr0 f1
 have g1:=(f0.step0 fd).step0 f1
 clear q0 f0 fd f1 c0'
 -- missing
 have u1:=(cgAt (Cod.bxd_rd q1.c)).parents
 rw [← HC.out.pl] at u1
 have CM:=Lib.hid (ixA1_ct w1 r.PA r.pc c.Parents.length c.Parents rfl (HC.out.ps.fr0 g1) HPB.out (.pointer (some ⟨P,0,none⟩)) (fun i=>!hasG (dgH L) (c.Parents.getD i zID)) (fun w' f i hi=>by
  have h1:=mgAdd1_any ((HH.out.fr0 g1).fr0 f) P (cell_fr0 q1.p f) c.Parents[i]
  have e:c.Parents.getD i zID = c.Parents[i]:=by rw [List.getD_eq_getElem?_getD,List.getElem?_eq_getElem hi];rfl
  rw [e]
  exact h1))
 rw [← miss_any] at CM
 obtain ⟨ms,hms⟩:∃ m,m = (c.Parents.any fun p=>!hasG (dgH L) p):=⟨_,rfl⟩
 obtain ⟨kn,hkn⟩:∃ m,m = hasG (dgH L) x:=⟨_,rfl⟩
 rw [← hms] at CM
 rw [← hkn]
 have HMS:=Lib.hid hms
 have HKN:=Lib.hid hkn
 clear hms hkn
 go_upto_region 3 with (go_at_call 33;refine CM.out.mono ?_;rintro e w2 ⟨rfl,f2⟩)
 have q2:=q1.fr0 f2
 have g2:=g1.step0 f2
 clear q1 g1 u1 CM f2
 cases kn with
 | true =>
  have HKZ:=Lib.hid (show (hasG (dgH L) x || decide (x = zID)) = true by rw [← HKN.out];rfl)
  go_upto_region 4 with fail
  have u2:=(cgAt (Cod.bxd_rd q2.c)).parents
  rw [← HC.out.pl] at u2
  have c2':=cell_fr0 HA.out.c0 g2
  have hk:∀ w' w'':World,Fr noB w' w'' → (w'.cell? ⟨P,0,none⟩ = some (.pointer (some ⟨H,0,none⟩)) ∧ w'.cell? ⟨H,0,none⟩ = some (.pointer (some ⟨D,0,none⟩)) ∧ rdI w' (P + 1) 0 = some x ∧ w'.cell? ⟨P + 2,0,none⟩ = some (.slice r.PA c.Parents.length r.pc)) → (w''.cell? ⟨P,0,none⟩ = some (.pointer (some ⟨H,0,none⟩)) ∧ w''.cell? ⟨H,0,none⟩ = some (.pointer (some ⟨D,0,none⟩)) ∧ rdI w'' (P + 1) 0 = some x ∧ w''.cell? ⟨P + 2,0,none⟩ = some (.slice r.PA c.Parents.length r.pc)):=fun w' w'' f h=>⟨cell_fr0 h.1 f,cell_fr0 h.2.1 f,rdI_fr h.2.2.1 (rdI_lt h.2.2.1) f (by simp [noB]),cell_fr0 h.2.2.2 f⟩
  have fd:Fr noB w2 w2.drew:=(Fr.refl noB w2).drew
  have hF0:=hk _ _ fd ⟨q2.p,c2',q2.i,u2⟩
  have hA2:=HA.out.fr0 (g2.step0 fd)
  have CA:=Lib.hid (add_any w2.drew D F (dgH L) hA2.dag (by unfold dgH;rw [List.length_map];have:=HL.out;omega) x r.PA r.pc c.Parents.length c.Parents rfl (HC.out.ps.fr0 (g2.step0 fd)) (by have:=HPB.out;omega))
  refine wp_region_M 8 9 [⟨536870912,8,0⟩,⟨1073741824,536870912,1⟩,⟨2147483648,1073741824,2⟩,⟨4294967296,2147483648,4⟩,⟨8589934592,16,0⟩,⟨17179869184,32,0⟩,⟨34359738368,17179869184,32⟩,⟨68719476736,47244640256,88⟩,⟨64,68719476736,255⟩] [(true,0),(true,1),(true,2),(true,3),(true,4),(true,5),(true,6),(false,7)] (fun w'=>w'.cell? ⟨P,0,none⟩ = some (.pointer (some ⟨H,0,none⟩)) ∧ w'.cell? ⟨H,0,none⟩ = some (.pointer (some ⟨D,0,none⟩)) ∧ rdI w' (P + 1) 0 = some x ∧ w'.cell? ⟨P + 2,0,none⟩ = some (.slice r.PA c.Parents.length r.pc)) (by kernel_rfl) rfl (by kernel_rfl) (by kernel_rfl) (by kernel_rfl) hF0 (fun hA hF=>?_)
  iterate 7
   refine wpAnyS_take (v:=?_) hA rfl (fun _ _ _ h=>h) (Or.inl ⟨by rfl,?_⟩) hF (fun hA=>?_)
   rotate_left
   ·intro wS hSw;(try dsimp only at hSw);obtain ⟨s1,s2,s3,s4⟩:=hSw;first | (apply Eq.trans;apply ex_ld_id;exact rfl;exact rfl;assumption;with_reducible rfl) | (apply Eq.trans;apply ex_ldO_at;exact rfl;exact rfl;assumption;with_reducible rfl) | (apply Eq.trans;apply ex_ldC_at;exact rfl;exact rfl;assumption;with_reducible rfl) | (apply Eq.trans;apply ex_ldS_at;exact rfl;exact rfl;assumption;with_reducible rfl) | (go_simp;try with_reducible rfl)
   try simp only [sA1,sA2,sA3,Act.put,sA4,sA5,sA6]
  refine wpAnyS_one hA rfl (fun K' hK=>?_)
  go_simp
  go_at_call 35
  refine CA.out.mono ?_
  rintro e w3 ⟨rfl,hd3,f3⟩
  replace hF:=And.intro (gcell_fr hF0.1 f3 (fun h=>by have:=HA.out.lt _ h;have:=HP.out.1;omega)) (And.intro (gcell_fr hF0.2.1 f3 HA.out.nFH) (And.intro (rdI_fr hF0.2.2.1 (rdI_lt hF0.2.2.1) f3 (fun h=>by have:=HA.out.lt _ h;have:=HP.out.1;omega)) (gcell_fr hF0.2.2.2 f3 (fun h=>by have:=HA.out.lt _ h;have:=HP.out.1;omega))))
  refine hK.out _ _ hF (fun hA=>?_)
  clear hK K'
  as_aux_lemma =>
  refine wpAnyS_end hA rfl ?_
  simp only [List.drop_succ_cons,List.drop_zero]
  clear hF hk hF0 CA u2 c2'
  rw [addG_known HKZ.out] at hd3
  have h3:=hA2.dag0 hd3 f3
  have FF:Fr S w w3:=((g2.step0 fd).any (M:=S)).trans f3 (fun b _ hb=>HS2.out b (.inl hb))
  have hsz:w.heap.size ≤ w2.drew.heap.size:=(g2.step0 fd).size
  have HNX:=Lib.hid (show Hs w3 H (grF S w w3) L from ⟨D,A,O,kvA,kvO,grF F w2.drew w3,Q,h3,fun b hb=>by
   rcases hb with hb | hb
   ·rcases hb with hb | hb
    ·exact .inl (HS2.out b (.inl hb))
    ·exact .inr ⟨by omega,hb.2⟩
   ·exact .inl (HS2.out b (.inr hb)),fun b hb=>hb.elim (fun h=>Nat.lt_of_lt_of_le (HS3.out b h) FF.size) (fun h=>h.2)⟩)
  have HFF:=Lib.hid FF
  clear hd3 h3 FF f3 hsz hA2 fd
  go_wp2_with fail
  go_ret
  have e:addH L x c = ((((addG (dgH L) x c.Parents).1:Nat):Int),L):=by unfold addH;rw [if_pos HKZ.out]
  unfold Add15
  rw [e]
  exact ⟨rfl,HNX.out,HFF.out⟩
 | false =>
  by_cases hxz:x = zID
  ·have dz:decide (x = zID) = true:=by simp [hxz]
   have HKZ:=Lib.hid (show (hasG (dgH L) x || decide (x = zID)) = true by rw [dz,Bool.or_true])
   have i2:=q2.i
   clear hxz
   go_upto_region 4 with fail
   clear i2 dz
   have u2:=(cgAt (Cod.bxd_rd q2.c)).parents
   rw [← HC.out.pl] at u2
   have c2':=cell_fr0 HA.out.c0 g2
   have hk:∀ w' w'':World,Fr noB w' w'' → (w'.cell? ⟨P,0,none⟩ = some (.pointer (some ⟨H,0,none⟩)) ∧ w'.cell? ⟨H,0,none⟩ = some (.pointer (some ⟨D,0,none⟩)) ∧ rdI w' (P + 1) 0 = some x ∧ w'.cell? ⟨P + 2,0,none⟩ = some (.slice r.PA c.Parents.length r.pc)) → (w''.cell? ⟨P,0,none⟩ = some (.pointer (some ⟨H,0,none⟩)) ∧ w''.cell? ⟨H,0,none⟩ = some (.pointer (some ⟨D,0,none⟩)) ∧ rdI w'' (P + 1) 0 = some x ∧ w''.cell? ⟨P + 2,0,none⟩ = some (.slice r.PA c.Parents.length r.pc)):=fun w' w'' f h=>⟨cell_fr0 h.1 f,cell_fr0 h.2.1 f,rdI_fr h.2.2.1 (rdI_lt h.2.2.1) f (by simp [noB]),cell_fr0 h.2.2.2 f⟩
   have fd:Fr noB w2 w2.drew:=(Fr.refl noB w2).drew
   have hF0:=hk _ _ fd ⟨q2.p,c2',q2.i,u2⟩
   have hA2:=HA.out.fr0 (g2.step0 fd)
   have CA:=Lib.hid (add_any w2.drew D F (dgH L) hA2.dag (by unfold dgH;rw [List.length_map];have:=HL.out;omega) x r.PA r.pc c.Parents.length c.Parents rfl (HC.out.ps.fr0 (g2.step0 fd)) (by have:=HPB.out;omega))
   refine wp_region_M 8 9 [⟨536870912,8,0⟩,⟨1073741824,536870912,1⟩,⟨2147483648,1073741824,2⟩,⟨4294967296,2147483648,4⟩,⟨8589934592,16,0⟩,⟨17179869184,32,0⟩,⟨34359738368,17179869184,32⟩,⟨68719476736,47244640256,88⟩,⟨64,68719476736,255⟩] [(true,0),(true,1),(true,2),(true,3),(true,4),(true,5),(true,6),(false,7)] (fun w'=>w'.cell? ⟨P,0,none⟩ = some (.pointer (some ⟨H,0,none⟩)) ∧ w'.cell? ⟨H,0,none⟩ = some (.pointer (some ⟨D,0,none⟩)) ∧ rdI w' (P + 1) 0 = some x ∧ w'.cell? ⟨P + 2,0,none⟩ = some (.slice r.PA c.Parents.length r.pc)) (by kernel_rfl) rfl (by kernel_rfl) (by kernel_rfl) (by kernel_rfl) hF0 (fun hA hF=>?_)
   iterate 7
    refine wpAnyS_take (v:=?_) hA rfl (fun _ _ _ h=>h) (Or.inl ⟨by rfl,?_⟩) hF (fun hA=>?_)
    rotate_left
    ·intro wS hSw;(try dsimp only at hSw);obtain ⟨s1,s2,s3,s4⟩:=hSw;first | (apply Eq.trans;apply ex_ld_id;exact rfl;exact rfl;assumption;with_reducible rfl) | (apply Eq.trans;apply ex_ldO_at;exact rfl;exact rfl;assumption;with_reducible rfl) | (apply Eq.trans;apply ex_ldC_at;exact rfl;exact rfl;assumption;with_reducible rfl) | (apply Eq.trans;apply ex_ldS_at;exact rfl;exact rfl;assumption;with_reducible rfl) | (go_simp;try with_reducible rfl)
    try simp only [sA1,sA2,sA3,Act.put,sA4,sA5,sA6]
   refine wpAnyS_one hA rfl (fun K' hK=>?_)
   go_simp
   go_at_call 35
   refine CA.out.mono ?_
   rintro e w3 ⟨rfl,hd3,f3⟩
   replace hF:=And.intro (gcell_fr hF0.1 f3 (fun h=>by have:=HA.out.lt _ h;have:=HP.out.1;omega)) (And.intro (gcell_fr hF0.2.1 f3 HA.out.nFH) (And.intro (rdI_fr hF0.2.2.1 (rdI_lt hF0.2.2.1) f3 (fun h=>by have:=HA.out.lt _ h;have:=HP.out.1;omega)) (gcell_fr hF0.2.2.2 f3 (fun h=>by have:=HA.out.lt _ h;have:=HP.out.1;omega))))
   refine hK.out _ _ hF (fun hA=>?_)
   clear hK K'
   as_aux_lemma =>
   refine wpAnyS_end hA rfl ?_
   simp only [List.drop_succ_cons,List.drop_zero]
   clear hF hk hF0 CA u2 c2'
   rw [addG_known HKZ.out] at hd3
   have h3:=hA2.dag0 hd3 f3
   have FF:Fr S w w3:=((g2.step0 fd).any (M:=S)).trans f3 (fun b _ hb=>HS2.out b (.inl hb))
   have hsz:w.heap.size ≤ w2.drew.heap.size:=(g2.step0 fd).size
   have HNX:=Lib.hid (show Hs w3 H (grF S w w3) L from ⟨D,A,O,kvA,kvO,grF F w2.drew w3,Q,h3,fun b hb=>by
    rcases hb with hb | hb
    ·rcases hb with hb | hb
     ·exact .inl (HS2.out b (.inl hb))
     ·exact .inr ⟨by omega,hb.2⟩
    ·exact .inl (HS2.out b (.inr hb)),fun b hb=>hb.elim (fun h=>Nat.lt_of_lt_of_le (HS3.out b h) FF.size) (fun h=>h.2)⟩)
   have HFF:=Lib.hid FF
   clear hd3 h3 FF f3 hsz hA2 fd
   go_wp2_with fail
   go_ret
   have e:addH L x c = ((((addG (dgH L) x c.Parents).1:Nat):Int),L):=by unfold addH;rw [if_pos HKZ.out]
   unfold Add15
   rw [e]
   exact ⟨rfl,HNX.out,HFF.out⟩
  ·have dz:decide (x = zID) = false:=by simp [hxz]
   have HKZ:=Lib.hid (show (hasG (dgH L) x || decide (x = zID)) = false by rw [← HKN.out,dz];rfl)
   have i2:=q2.i
   clear hxz
   go_upto_region 5 with fail
   clear i2 dz
   have q2c:=Cod.bxd_rd q2.c
   have q2p:=q2.p
   have CR:=Lib.hid (mgRight_any (HH.out.fr0 g2) r rs c (HC.out.fr g2))
   obtain ⟨rg,hrg⟩:∃ b,b = (rightCh c && timeOk L c):=⟨_,rfl⟩
   rw [← hrg] at CR
   have HRG:=Lib.hid hrg
   clear hrg
   cases rg with
   | false =>
    go_wp2_with (go_at_call 36;refine CR.out.mono ?_;rintro e w3 ⟨rfl,f3⟩)
    go_ret
    have e:addH L x c = (1,L):=by
     unfold addH
     rw [if_neg (by rw [HKZ.out];decide),if_pos (by rw [← HRG.out];rfl)]
    unfold Add15
    rw [e]
    exact ⟨rfl,HH.out.same (g2.step0 f3),(g2.step0 f3).any⟩
   | true =>
    have HR1:=Lib.hid (show rightCh c = true ∧ timeOk L c = true by have:=HRG.out;simpa using this.symm)
    go_upto_region 7 with (go_at_call 36;refine CR.out.mono ?_;rintro e w3 ⟨rfl,f3⟩)
    have q3:=q2.fr0 f3
    have g3:=g2.step0 f3
    clear q2 g2 q2c q2p f3 CR
    cases ms with
    | true =>
     go_wp2_with fail
     go_ret
     have e:addH L x c = (110,L):=by
      unfold addH
      rw [if_neg (by rw [HKZ.out];decide),if_neg (by rw [← HRG.out];decide),if_pos HMS.out.symm]
     unfold Add15
     rw [e]
     exact ⟨rfl,HH.out.same g3,g3.any⟩
    | false =>
     go_upto_region 9 with fail
     have u3:=(cgAt (Cod.bxd_rd q3.c)).ops
     have p3:=q3.p
     obtain ⟨r1,r2,r3,r4,r5,r6,r7⟩:=rightCh_parts HR1.out.1
     have HRP:=Lib.hid (And.intro r4 (And.intro r5 r6))
     have CC:=Lib.hid (mgClash_any (HH.out.fr0 g3) r.OA r.oc r.on rs c.Ops HC.out.ol (HC.out.os.fr0 g3) ⟨HC.out.ops.len,fun i a b=>(HC.out.ops.at_ i a b).fr g3⟩ (by omega) (fun o ho=>rightS_wf (goodOp_at (r4 o ho).1).1))
     clear r1 r2 r3 r4 r5 r6 r7
     obtain ⟨cl,hcl⟩:∃ b,b = clashO (opsH L) c.Ops:=⟨_,rfl⟩
     rw [← hcl] at CC
     have HCL:=Lib.hid hcl
     clear hcl
     cases cl with
     | true =>
      go_wp2_with (go_at_call 37;refine CC.out.mono ?_;rintro e w4 ⟨rfl,f4⟩)
      go_ret
      have e:addH L x c = (5,L):=by
       unfold addH
       rw [if_neg (by rw [HKZ.out];decide),if_neg (by rw [← HRG.out];decide),if_neg (by rw [← HMS.out];decide),if_pos HCL.out.symm]
      unfold Add15
      rw [e]
      exact ⟨rfl,HH.out.same (g3.step0 f4),(g3.step0 f4).any⟩
     | false =>
      have HE:=Lib.hid (show addH L x c = (0,(x,c) :: L) by
       unfold addH
       rw [if_neg (by rw [HKZ.out];decide),if_neg (by rw [← HRG.out];decide),if_neg (by rw [← HMS.out];decide),if_neg (by rw [← HCL.out];decide)])
      have HG:=Lib.hid (show addG (dgH L) x c.Parents = (0,(x,c.Parents) :: dgH L) from addG_new HKZ.out HR1.out.1 HMS.out.symm)
      go_upto_region 11 with (go_at_call 37;refine CC.out.mono ?_;rintro e w4 ⟨rfl,f4⟩)
      have q4:=q3.fr0 f4
      have g4:=g3.step0 f4
      clear q3 g3 u3 p3 f4 CC
      have u4:=(cgAt (Cod.bxd_rd q4.c)).parents
      rw [← HC.out.pl] at u4
      have c4':=cell_fr0 HA.out.c0 g4
      have hk:∀ w' w'':World,Fr noB w' w'' → (w'.cell? ⟨P,0,none⟩ = some (.pointer (some ⟨H,0,none⟩)) ∧ w'.cell? ⟨H,0,none⟩ = some (.pointer (some ⟨D,0,none⟩)) ∧ rdI w' (P + 1) 0 = some x ∧ w'.cell? ⟨P + 2,0,none⟩ = some (.slice r.PA c.Parents.length r.pc)) → (w''.cell? ⟨P,0,none⟩ = some (.pointer (some ⟨H,0,none⟩)) ∧ w''.cell? ⟨H,0,none⟩ = some (.pointer (some ⟨D,0,none⟩)) ∧ rdI w'' (P + 1) 0 = some x ∧ w''.cell? ⟨P + 2,0,none⟩ = some (.slice r.PA c.Parents.length r.pc)):=fun w' w'' f h=>⟨cell_fr0 h.1 f,cell_fr0 h.2.1 f,rdI_fr h.2.2.1 (rdI_lt h.2.2.1) f (by simp [noB]),cell_fr0 h.2.2.2 f⟩
      have fd:Fr noB w4 w4.drew:=(Fr.refl noB w4).drew
      have hF0:=hk _ _ fd ⟨q4.p,c4',q4.i,u4⟩
      have hA4:=HA.out.fr0 (g4.step0 fd)
      have CA:=Lib.hid (add_any w4.drew D F (dgH L) hA4.dag (by unfold dgH;rw [List.length_map];have:=HL.out;omega) x r.PA r.pc c.Parents.length c.Parents rfl (HC.out.ps.fr0 (g4.step0 fd)) (by have:=HPB.out;omega))
      refine wp_region_M 8 9 [⟨562949953421312,8,0⟩,⟨1125899906842624,562949953421312,1⟩,⟨2251799813685248,1125899906842624,2⟩,⟨4503599627370496,2251799813685248,4⟩,⟨9007199254740992,16,0⟩,⟨18014398509481984,32,0⟩,⟨36028797018963968,18014398509481984,32⟩,⟨72057594037927936,49539595901075456,88⟩,⟨512,72057594037927936,255⟩] [(true,0),(true,1),(true,2),(true,3),(true,4),(true,5),(true,6),(false,7)] (fun w'=>w'.cell? ⟨P,0,none⟩ = some (.pointer (some ⟨H,0,none⟩)) ∧ w'.cell? ⟨H,0,none⟩ = some (.pointer (some ⟨D,0,none⟩)) ∧ rdI w' (P + 1) 0 = some x ∧ w'.cell? ⟨P + 2,0,none⟩ = some (.slice r.PA c.Parents.length r.pc)) (by kernel_rfl) rfl (by kernel_rfl) (by kernel_rfl) (by kernel_rfl) hF0 (fun hA hF=>?_)
      iterate 7
       refine wpAnyS_take (v:=?_) hA rfl (fun _ _ _ h=>h) (Or.inl ⟨by rfl,?_⟩) hF (fun hA=>?_)
       rotate_left
       ·intro wS hSw;(try dsimp only at hSw);obtain ⟨s1,s2,s3,s4⟩:=hSw;first | (apply Eq.trans;apply ex_ld_id;exact rfl;exact rfl;assumption;with_reducible rfl) | (apply Eq.trans;apply ex_ldO_at;exact rfl;exact rfl;assumption;with_reducible rfl) | (apply Eq.trans;apply ex_ldC_at;exact rfl;exact rfl;assumption;with_reducible rfl) | (apply Eq.trans;apply ex_ldS_at;exact rfl;exact rfl;assumption;with_reducible rfl) | (go_simp;try with_reducible rfl)
       try simp only [sA1,sA2,sA3,Act.put,sA4,sA5,sA6]
      refine wpAnyS_one hA rfl (fun K' hK=>?_)
      go_simp
      go_at_call 35
      refine CA.out.mono ?_
      rintro e w5 ⟨rfl,hd5,f5⟩
      replace hF:=And.intro (gcell_fr hF0.1 f5 (fun h=>by have:=HA.out.lt _ h;have:=HP.out.1;omega)) (And.intro (gcell_fr hF0.2.1 f5 HA.out.nFH) (And.intro (rdI_fr hF0.2.2.1 (rdI_lt hF0.2.2.1) f5 (fun h=>by have:=HA.out.lt _ h;have:=HP.out.1;omega)) (gcell_fr hF0.2.2.2 f5 (fun h=>by have:=HA.out.lt _ h;have:=HP.out.1;omega))))
      refine hK.out _ _ hF (fun hA=>?_)
      clear hK K'
      as_aux_lemma =>
      refine wpAnyS_end hA rfl ?_
      simp only [List.drop_succ_cons,List.drop_zero]
      clear hF hk hF0 CA u4 c4'
      rw [HG.out] at hd5 ⊢
      have HP4:=Lib.hid (show P + 2 < w4.drew.heap.size by have:=(g4.step0 fd).size;have h3:=HP.out.2;have:=q4.c;exact (Cod.bxd_lt (Cod.bxd_fr0 q4.c fd)))
      have q5:=(q4.fr0 fd).fr f5 (fun h=>by have:=HA.out.lt _ h;have:=HP.out.1;omega) (fun h=>by have:=HA.out.lt _ h;have:=HP.out.1;omega) (fun h=>by have:=HA.out.lt _ h;have:=HP.out.1;omega)
      have HA4:=Lib.hid hA4
      have HD5:=Lib.hid hd5
      have HF5:=Lib.hid f5
      have HG4:=Lib.hid (g4.step0 fd)
      clear hA4 hd5 f5 g4 fd q4
      generalize w4.drew = V4 at HP4 HA4 HD5 HF5 HG4
      go_upto_region 14 with fail
      have cq5:=(HCQ.out.fr HG4.out (by simp [noB])).fr HF5.out (fun g hg hF=>hg (HS2.out g (.inl hF)))
      have CL:=Lib.hid (mgClone_any w5 r rs c cq5.inn HRP.out.2.1 (by have:=HRP.out.2.2;omega) (fun o ho=>by have:=goodOp_over (HRP.out.1 o ho).1;omega) (by have:=(rightCh_parts HR1.out.1).1;omega))
      have r5:=Cod.bxd_rd q5.c
      have z5:=q5.c
      clear cq5
      go_upto_region 15 with (go_at_call 38;refine CL.out.mono ?_;rintro e w6 ⟨r6,rs6,rfl,n6,f6⟩;have hst:=okC.stR_box (Cod.bxd_fr0 z5 f6) r6;obtain ⟨p1,p2,p3⟩:=Cod.put_fr (Cod.bxd_fr0 z5 f6) r6)
      have hne:=fun b (hb:grF F V4 w5 b)=>(show b ≠ P + 2 from fun e=>by
       subst e
       rcases hb with hb | hb
       ·have:=HA.out.lt _ hb;have:=HP.out.1;omega
       ·have:=HP4.out;omega)
      have f65:Fr noB w5 w6:=f6
      have fD:=(f65.any (M:=oneB (P + 2))).trans p1 (fun _ _ h=>h)
      have HD7:=Lib.hid (HD5.out.fr fD (fun b hb e=>hne b hb e))
      have n7:=n6.put (Cod.bxd_fr0 q5.c f6) p1
      have q7p:=gcell_fr (cell_fr0 q5.p f6) p1 (by show ¬ P = P + 2;omega)
      have q7i:=rdI_fr (rdI_fr q5.i (rdI_lt q5.i) f6 (by simp [noB])) (rdI_lt (rdI_fr q5.i (rdI_lt q5.i) f6 (by simp [noB]))) p1 (by show ¬ P + 1 = P + 2;omega)
      have HN7:=Lib.hid n7
      have HFD:=Lib.hid fD
      have HR6:=Lib.hid (show c.Ops.length = r6.on ∧ rs6.length = r6.on ∧ rs6.length = c.Ops.length from ⟨by rw [← n6.inn.ops.len];exact n6.inn.ol,n6.inn.ol,n6.inn.ops.len⟩)
      clear hne n6 f6 f65 fD n7 p1 p2 z5 r5 q5 CL hst
      generalize codC.put w6 (P + 2) r6 = W7 at p3 HD7 q7p q7i HN7 HFD ⊢
      -- the map of commits
      have sl5:=HFD.out.size
      have h5s:=HF5.out.size
      have lA:=mpI_lt HA4.out.all
      have lO:=mpT_lt HA4.out.ops
      have lH:=Blk.lt HA4.out.blk
      have P2:=HP4.out
      have cA:W7.cell? ⟨H,1,none⟩ = some (.map (some A)):=gcell_fr (gcell_fr HA4.out.c1 HF5.out HA4.out.nFH) HFD.out (by show ¬ H = P + 2;have:=Blk.lt HA.out.blk;have:=HP.out.1;omega)
      have mA:mpI W7 A = some kvA:=mpI_fr (mpI_fr HA4.out.all HF5.out HA4.out.nFA) HFD.out (by show ¬ A = P + 2;have:=mpI_lt HA.out.all;have:=HP.out.1;omega)
      have r7:=Cod.bxd_rd p3
      have hk:∀ w' w'':World,Fr noB w' w'' → (w'.cell? ⟨P,0,none⟩ = some (.pointer (some ⟨H,0,none⟩)) ∧ w'.cell? ⟨H,1,none⟩ = some (.map (some A)) ∧ rdI w' (P + 1) 0 = some x ∧ codC.rd w' (P + 2) 0 = some r6) → (w''.cell? ⟨P,0,none⟩ = some (.pointer (some ⟨H,0,none⟩)) ∧ w''.cell? ⟨H,1,none⟩ = some (.map (some A)) ∧ rdI w'' (P + 1) 0 = some x ∧ codC.rd w'' (P + 2) 0 = some r6):=fun w' w'' f h=>⟨cell_fr0 h.1 f,cell_fr0 h.2.1 f,rdI_fr h.2.2.1 (rdI_lt h.2.2.1) f (by simp [noB]),Cod.rd_fr0 h.2.2.2 f⟩
      have fd:Fr noB W7 W7.drew:=(Fr.refl noB W7).drew
      have hF0:=hk _ _ fd ⟨q7p,cA,q7i,r7⟩
      have mA7:mpI W7.drew A = some kvA:=by rw [mpI_drew];exact mA
      refine wp_region_M 6 7 [⟨4611686018427387904,8,0⟩,⟨9223372036854775808,4611686018427387904,1⟩,⟨18446744073709551616,9223372036854775808,2⟩,⟨36893488147419103232,18446744073709551616,4⟩,⟨73786976294838206464,16,0⟩,⟨147573952589676412928,32,0⟩,⟨0,258254417031933722624,63⟩] [(true,0),(true,1),(true,2),(true,3),(true,4),(true,5)] (fun w'=>w'.cell? ⟨P,0,none⟩ = some (.pointer (some ⟨H,0,none⟩)) ∧ w'.cell? ⟨H,1,none⟩ = some (.map (some A)) ∧ rdI w' (P + 1) 0 = some x ∧ codC.rd w' (P + 2) 0 = some r6) (by kernel_rfl) rfl (by kernel_rfl) (by kernel_rfl) (by kernel_rfl) hF0 (fun hA hF=>?_)
      iterate 6
       refine wpAnyS_take (v:=?_) hA rfl (fun _ _ _ h=>h) (Or.inl ⟨by rfl,?_⟩) hF (fun hA=>?_)
       rotate_left
       ·intro wS hSw;(try dsimp only at hSw);obtain ⟨s1,s2,s3,s4⟩:=hSw;first | (apply Eq.trans;apply ex_ld_id;exact rfl;exact rfl;assumption;with_reducible rfl) | (apply Eq.trans;apply ex_ldO_at;exact rfl;exact rfl;assumption;with_reducible rfl) | (apply Eq.trans;apply ex_ldC_at;exact rfl;exact rfl;assumption;with_reducible rfl) | (apply Eq.trans;apply ex_ldS_at;exact rfl;exact rfl;assumption;with_reducible rfl) | (go_simp;try with_reducible rfl)
       try simp only [sA1,sA2,sA3,Act.put,sA4,sA5,sA6]
      refine wpAnyS_end hA rfl ?_
      simp only [List.drop_succ_cons,List.drop_zero]
      clear hF hk hF0
      obtain ⟨_,v2,v3,v4⟩:=mput_all Tryz.underlying86 mA7 x (.agg (codC.A r6))
      have FA:=(fd.any (M:=oneB A)).trans v3 (fun _ _ h=>h)
      have nHA:=HA.out.nHA
      have q8p:=gcell_fr q7p FA (by show ¬ P = A;have:=mpI_lt HA.out.all;have:=HP.out.1;omega)
      have q8c:=Cod.bxd_fr p3 FA (by show ¬ P + 2 = A;have:=mpI_lt HA.out.all;have:=HP.out.1;omega)
      have c8H:(mput 86 W7.drew A x (.agg (codC.A r6))).cell? ⟨H,2,none⟩ = some (.map (some O)):=gcell_fr (gcell_fr (gcell_fr HA4.out.c2 HF5.out HA4.out.nFH) HFD.out (by show ¬ H = P + 2;have:=Blk.lt HA.out.blk;have:=HP.out.1;omega)) FA nHA
      have mO:mpT (mput 86 W7.drew A x (.agg (codC.A r6))) O = some kvO:=mpT_fr (mpT_fr (mpT_fr HA4.out.ops HF5.out HA4.out.nFO) HFD.out (by show ¬ O = P + 2;have:=mpT_lt HA.out.ops;have:=HP.out.1;omega)) FA (fun e=>HA.out.nAO e.symm)
      have HFA:=Lib.hid FA
      have HMA:=Lib.hid v2
      clear v3 v4 FA fd mA7 mA cA q7p q7i r7
      go_upto_region 16 with fail
      generalize mput 86 W7.drew A x (.agg (codC.A r6)) = W8 at q8p q8c c8H mO HFA HMA ⊢
      have u8:=(cgAt (Cod.bxd_rd q8c)).ops
      rw [← HR6.out.1] at u8
      obtain ⟨AO,hAO⟩:∃ A,A = r6.OA:=⟨_,rfl⟩
      rw [← hAO] at u8
      have HAO:=Lib.hid hAO
      clear hAO
      obtain ⟨Q',hQ'⟩:∃ Q':Nat → Prop,Q' = fun g=>w5.heap.size ≤ g ∧ g < W7.heap.size:=⟨_,rfl⟩
      have hq7:CgQ Q' W7 r6 rs6 c:=HN7.out.q (fun g h1 h2=>by rw [hQ'];exact ⟨h1,h2⟩)
      have lA0:=mpI_lt HA.out.all
      have lO0:=mpT_lt HA.out.ops
      have hPP:=HP.out.1
      have nQA:∀ g,Q' g → g ≠ A ∧ g ≠ O ∧ ¬ grF F V4 w5 g ∧ ¬ Q g ∧ g < W7.heap.size:=fun g hg=>by
       rw [hQ'] at hg
       refine ⟨by omega,by omega,fun hb=>?_,fun hb=>?_,hg.2⟩
       ·rcases hb with hb | hb
        ·have:=HA.out.lt _ hb;omega
        ·omega
       ·have:=(HA.out.q _ hb).2.2.2;omega
      have HQ8:=Lib.hid (hq7.fr HFA.out (fun g hg e=>(nQA g hg).1 e))
      have HNQ:=Lib.hid nQA
      have HNL:=Lib.hid (show ∀ g,Q' g → ¬ g < w.heap.size from fun g hg hlt=>by rw [hQ'] at hg;omega)
      have hs8:OpsM (fun g=>Q g ∨ Q' g) W8 kvO (opsH L ++ c.Ops.take 0):=by
       rw [List.take_zero,List.append_nil]
       exact ((((HA.out.os.fr HG4.out (by simp [noB])).fr HF5.out (fun g hg=>(HA.out.q g hg).1)).fr HFD.out (fun g hg e=>by have:=(HA.out.q g hg).2.2.2;have e':g = P + 2:=e;omega)).fr HFA.out (fun g hg e=>(HA.out.q g hg).2.1 e)).mono fun g hg=>.inl hg
      have hi0:AdLoop W8 O (fun g=>Q g ∨ Q' g) (opsH L) c.Ops c.Ops.length (.int .i64 ((0:Nat):Int)) W8:=⟨0,kvO,rfl,rfl,Nat.zero_le _,mO,hs8,Fr.refl _ _⟩
      have HP8:=Lib.hid q8p
      have HC8:=Lib.hid c8H
      have HSO:=Lib.hid (show SameO (opsH L ++ c.Ops) by
       have h1:=(HH.out.ok.add x c).same
       rw [HE.out] at h1
       exact h1.sub fun o ho=>by
        rw [show opsH ((x,c) :: L) = c.Ops ++ opsH L from rfl]
        simpa [or_comm] using ho)
      clear hq7 nQA hs8 mO q8p c8H hQ' hPP lA0 lO0 sl5 h5s lA lO lH P2
      go_wp2_with fail
      clear u8
      go_loopg [71] c.Ops.length (fun gk iv wr=>AdLoop W8 O (fun g=>Q g ∨ Q' g) (opsH L) c.Ops gk iv wr)
      case atStart=>exact hi0
      case round =>
       clear hi0
       obtain ⟨k,kv,rfl,rfl,hk,hm,hom,hf⟩:=hrel
       by_cases hlt:k < c.Ops.length
       ·have j0:(0:Int) ≤ (k:Int):=by omega
        have j1:(k:Int) < (c.Ops.length:Int):=by omega
        have hkr:k < rs6.length:=by rw [HR6.out.2.2];exact hlt
        have hq:=HQ8.out.fr hf (fun g hg e=>(HNQ.out g hg).2.1 e)
        obtain ⟨g,off,hOA,hgg⟩:=hq.inn.os.adC (by omega)
        have e1:codO.rd wr g (off + k * 41) = some rs6[k]:=by
         have:=hq.inn.os
         rw [hOA] at this
         exact this.rd k hkr
        have hin:=hq.vq k hkr hlt
        have HTK:=Lib.hid (show c.Ops.take (k + 1) = c.Ops.take k ++ [c.Ops[k]] from List.take_succ_eq_append_getElem hlt)
        have hgd:=(HRP.out.1 _ (List.getElem_mem hlt)).1
        have HSK:=Lib.hid (show SameO ((opsH L ++ c.Ops.take k) ++ [c.Ops[k]]) from HSO.out.sub fun o ho=>by
         rw [List.append_assoc,← HTK.out] at ho
         rcases List.mem_append.1 ho with ho | ho
         ·exact List.mem_append_left _ ho
         ·exact List.mem_append_right _ (List.mem_of_mem_take ho))
        generalize rs6[k] = ro at e1 hin
        generalize c.Ops[k] = o at hin HTK hgd HSK
        have ea:ro.At = o.At:=by rw [hin.inn.eq];rfl
        have hw:=rightS_wf (goodOp_at hgd).1
        have HIN:=Lib.hid hin
        have HLT:=Lib.hid hlt
        have HOM:=Lib.hid hom
        have HF:=Lib.hid hf
        have p9:=gcell_fr HP8.out hf (by show ¬ P = O;have:=mpT_lt HA.out.ops;have:=HP.out.1;omega)
        have c9:=gcell_fr HC8.out hf HA.out.nHO
        have hAOg:=HAO.out.trans hOA
        subst hAOg
        clear hOA
        clear hk hlt hq hin hom hf hgd hkr
        go_upto_region 19 with fail
        have f12:Fr noB wr (wr.alloc (codO.o ro)):=(Fr.refl noB wr).alloc _
        have q12:=opAt (Cod.rd_new' (C:=codO) wr ro)
        obtain ⟨D2,hD2⟩:∃ x,x = wr.heap.size:=⟨_,rfl⟩
        rw [← hD2] at q12 ⊢
        have p10:=cell_fr0 p9 f12
        have c10:=cell_fr0 c9 f12
        have m10:=mpT_fr0 hm f12
        have a10:=q12.At
        have s10:=q12.self
        rw [ea] at a10
        have HF12:=Lib.hid ((HF.out.trans (f12.any (M:=oneB O)) (fun _ _ h=>h)))
        have HIN12:=Lib.hid (HIN.out.fr f12 (by simp [noB]))
        have HOM12:=Lib.hid (HOM.out.fr f12 (by simp [noB]))
        clear e1 hD2 p9 c9 hm f12 q12
        generalize wr.alloc (codO.o ro) = W12 at p10 c10 m10 a10 s10 HF12 HIN12 HOM12 ⊢
        have hk:∀ w' w'':World,Fr noB w' w'' → (w'.cell? ⟨P,0,none⟩ = some (.pointer (some ⟨H,0,none⟩)) ∧ w'.cell? ⟨H,2,none⟩ = some (.map (some O)) ∧ codS.rd w' D2 1 = some o.At ∧ codO.rd w' D2 0 = some ro) → (w''.cell? ⟨P,0,none⟩ = some (.pointer (some ⟨H,0,none⟩)) ∧ w''.cell? ⟨H,2,none⟩ = some (.map (some O)) ∧ codS.rd w'' D2 1 = some o.At ∧ codO.rd w'' D2 0 = some ro):=fun w' w'' f h=>⟨cell_fr0 h.1 f,cell_fr0 h.2.1 f,Cod.rd_fr0 h.2.2.1 f,Cod.rd_fr0 h.2.2.2 f⟩
        have fd:Fr noB W12 W12.drew:=(Fr.refl noB W12).drew
        have hF0:=hk _ _ fd ⟨p10,c10,a10,s10⟩
        have m11:mpT W12.drew O = some kv:=by rw [mpT_drew];exact m10
        clear m10
        refine wp_region_M 7 8 [⟨37778931862957161709568,8,0⟩,⟨75557863725914323419136,37778931862957161709568,1⟩,⟨151115727451828646838272,75557863725914323419136,2⟩,⟨302231454903657293676544,151115727451828646838272,4⟩,⟨604462909807314587353088,2048,0⟩,⟨1208925819614629174706176,604462909807314587353088,16⟩,⟨2417851639229258349412352,2048,0⟩,⟨0,3929008913747544817795072,127⟩] [(true,0),(true,1),(true,2),(true,3),(true,4),(true,5),(true,6)] (fun w'=>w'.cell? ⟨P,0,none⟩ = some (.pointer (some ⟨H,0,none⟩)) ∧ w'.cell? ⟨H,2,none⟩ = some (.map (some O)) ∧ codS.rd w' D2 1 = some o.At ∧ codO.rd w' D2 0 = some ro) (by kernel_rfl) rfl (by kernel_rfl) (by kernel_rfl) (by kernel_rfl) hF0 (fun hA hF=>?_)
        iterate 7
         refine wpAnyS_take (v:=?_) hA rfl (fun _ _ _ h=>h) (Or.inl ⟨by rfl,?_⟩) hF (fun hA=>?_)
         rotate_left
         ·intro wS hSw;(try dsimp only at hSw);obtain ⟨s1,s2,s3,s4⟩:=hSw;first | (apply Eq.trans;apply ex_ld_id;exact rfl;exact rfl;assumption;with_reducible rfl) | (apply Eq.trans;apply ex_ldO_at;exact rfl;exact rfl;assumption;with_reducible rfl) | (apply Eq.trans;apply ex_ldC_at;exact rfl;exact rfl;assumption;with_reducible rfl) | (apply Eq.trans;apply ex_ldS_at;exact rfl;exact rfl;assumption;with_reducible rfl) | (go_simp;try with_reducible rfl)
         try simp only [sA1,sA2,sA3,Act.put,sA4,sA5,sA6]
        refine wpAnyS_end hA rfl ?_
        simp only [List.drop_succ_cons,List.drop_zero]
        clear hF hk hF0
        obtain ⟨_,v2,v3,v4⟩:=mputT_all Tryz.underlying87 m11 hw (.agg (codO.A ro))
        have FO:=(fd.any (M:=oneB O)).trans v3 (fun _ _ h=>h)
        have HNX:=Lib.hid (show mpT (mputT 87 W12.drew O o.At (.agg (codO.A ro))) O = some (putL kv o.At (.agg (codO.A ro))) ∧ OpsM (fun g=>Q g ∨ Q' g) (mputT 87 W12.drew O o.At (.agg (codO.A ro))) (putL kv o.At (.agg (codO.A ro))) ((opsH L ++ c.Ops.take k) ++ [o]) ∧ Fr (oneB O) W8 (mputT 87 W12.drew O o.At (.agg (codO.A ro))) from ⟨v2,(HOM12.out.fr FO (fun g hg e=>by
         rcases hg with hg | hg
         ·exact (HA.out.q g hg).2.2.1 e
         ·exact (HNQ.out g hg).2.1 e)).put HSK.out ((HIN12.out.fr FO (fun g hg e=>(HNQ.out g hg).2.1 e)).mono fun g hg=>.inr hg),HF12.out.trans FO (fun _ _ h=>h)⟩)
        have hk9:k ≤ 64:=by have:=HLT.out;have:=HRP.out.2.2;omega
        clear v2 v3 v4 FO fd p10 c10 a10 s10
        go_wp2_with fail
        go_roundg (c.Ops.length - (k + 1))
        case measure=>have:=HLT.out;omega
        case rel=>exact ⟨k + 1,_,by simp,rfl,HLT.out,HNX.out.1,by rw [HTK.out,← List.append_assoc];exact HNX.out.2.1,HNX.out.2.2⟩
       ·have j1:¬ (k:Int) < (c.Ops.length:Int):=by omega
        have hke:k = c.Ops.length:=by omega
        rw [hke,List.take_length] at hom
        go_wp2_with fail
        go_ret
        unfold Add15
        rw [HE.out]
        have lA0:=mpI_lt HA.out.all
        have lO0:=mpT_lt HA.out.ops
        have lH0:=Blk.lt HA.out.blk
        have hPP:=HP.out.1
        have hP4:=HP4.out
        have s4:=HG4.out.size
        have s5:=HF5.out.size
        have s7:=HFD.out.size
        have s8:=HFA.out.size
        have sr:=hf.size
        -- the whole step, from V4 on
        have fTq:Fr (fun b=>F b ∨ b = A ∨ b = O ∨ b = P + 2) V4 wr:=(((HF5.out.mono (fun b hb=>.inl hb)).trans (HFD.out.mono (fun b hb=>.inr (.inr (.inr hb)))) (fun _ _ h=>h)).trans (HFA.out.mono (fun b hb=>.inr (.inl hb))) (fun _ _ h=>h)).trans (hf.mono (fun b hb=>.inr (.inr (.inl hb)))) (fun _ _ h=>h)
        have hgF:∀ b,grF F V4 w5 b → b ≠ A ∧ b ≠ O ∧ b ≠ H:=fun b hb=>by
         rcases hb with hb | hb
         ·exact ⟨fun e=>HA.out.nFA (e ▸ hb),fun e=>HA.out.nFO (e ▸ hb),fun e=>HA.out.nFH (e ▸ hb)⟩
         ·refine ⟨by omega,by omega,by omega⟩
        have hdE:DagAt wr D (grF F V4 w5) (dgH ((x,c) :: L)):=(HD7.out.fr HFA.out (fun b hb e=>(hgF b hb).1 e)).fr hf (fun b hb e=>(hgF b hb).2.1 e)
        have hnx:findC L x = none:=by
         have h9:=HKZ.out
         rw [Bool.or_eq_false_iff,has_dg] at h9
         cases hfc:findC L x with
         | none=>rfl
         | some d=>rw [hfc] at h9;exact absurd h9.1 (by simp)
        have hmore:=HA4.out.more fTq (fun hb=>by
         rcases hb with hb | hb | hb | hb
         ·exact HA.out.nFH hb
         ·exact HA.out.nHA hb
         ·exact HA.out.nHO hb
         ·omega) (fun g hg hb=>by
         have hq:=HA.out.q g hg
         rcases hb with hb | hb | hb | hb
         ·exact hq.1 hb
         ·exact hq.2.1 hb
         ·exact hq.2.2.1 hb
         ·omega) hdE hnx (mpI_fr HMA.out hf (fun e=>HA.out.nAO e)) hm hom (HQ8.out.fr hf (fun g hg e=>(HNQ.out g hg).2.1 e)) (by have:=HH.out.ok.add x c;rw [HE.out] at this;exact this)
         (fun hb=>(hgF H hb).2.2 rfl) (fun hb=>(hgF A hb).1 rfl) (fun hb=>(hgF O hb).2.1 rfl) (fun g hg hb=>by
          have hq:=HA.out.q g hg
          rcases hb with hb | hb
          ·exact hq.1 hb
          ·omega) (fun g hg=>by
          have:=HNQ.out g hg
          exact ⟨this.2.2.1,this.1,this.2.1,by omega⟩) (fun b hb=>by
          rcases hb with hb | hb
          ·have:=HA.out.lt b hb;omega
          ·omega)
        have FF:Fr S w wr:=(HG4.out.any (M:=S)).step (fTq) (fun b hb=>by
         rcases hb with hb | hb | hb | hb
         ·exact .inr (HS2.out b (.inl hb))
         ·exact .inr (HS2.out b (by rw [hb];simp))
         ·exact .inr (HS2.out b (by rw [hb];simp))
         ·exact .inl (by omega))
        refine ⟨rfl,⟨D,A,O,_,_,_,_,hmore,fun b hb=>?_,fun b hb=>?_⟩,FF⟩
        ·rcases hb with hb | hb | hb
         ·rcases hb with hb | hb
          ·exact .inl (HS2.out b (.inl hb))
          ·exact .inr ⟨by omega,by omega⟩
         ·rcases hb with hb | hb
          ·exact .inl (HS2.out b (.inr (.inl hb)))
          ·have h1:=HNQ.out b hb
           have h2:¬ b < w.heap.size:=fun hlt=>HNL.out b hb hlt
           exact .inr ⟨by omega,by omega⟩
         ·exact .inl (HS2.out b (.inr (.inr hb)))
        ·rcases hb with hb | hb
         ·have:=HS3.out b hb;have:=FF.size;omega
         ·exact hb.2
end Go.Proofs.YtjpieiccpbcabaaGreat
namespace Go.Proofs.YtjpieiccpbcabaaGreat
open Go.RowKit
attribute [local go_sem] Oper.semAt_some
set_option maxRecDepth 100000 in
theorem mgFast1_any (w:World) (B t:Nat) (kv:List (St × Value)) (ov:List St) (hB:w.cell? ⟨B,0,none⟩ = some (.map (some t))) (hm:mpT w t = some kv) (hk:∀ s,(look kv s).getD (.bool false) = .bool (decide (s ∈ ov))) (r:OpW) (hw:wfS r.At = true) :
  Calls Tryz.prog 90 #[.agg (codO.A r),.pointer (some ⟨B,0,none⟩)] w (Gives w (.bool (decide (r.At ∈ ov)))):=by
 have f0:Fr noB w (w.alloc (.cells (codO.A r) 83)):=(Fr.refl noB w).alloc _
 have q1:=(opAt (Cod.rd_new (C:=codO) w 83 r)).At
 have q2:=cell_fr0 hB f0
 have q3:=mpT_fr0 hm f0
 have q4:=hk r.At
 clear hB hm hk
 go_enter Tryz.func90,Tryz.ntmps90
 go_wp2_with fail
 go_ret
 exact ⟨by rw [← q4];rfl,f0⟩
set_option maxRecDepth 100000 in
set_option maxHeartbeats 1000000 in
theorem ixF1_any (w:World) (A:Option Addr) (c n:Nat) (l:List OpW) (hn:l.length = n) (hs:Sl w A (codO.row l)) (hb:l.length ≤ 140737488355328) (cp:Value) (p:Nat → Bool)
  (hf:∀ w',Fr noB w w' → ∀ i (hi:i < l.length),Calls Tryz.prog 90 #[.agg (codO.A l[i]),cp] w' (Gives w' (.bool (p i)))) :
  Calls Tryz.prog 97 #[.slice A n c,.func (.func 90) #[] #[cp]] w (FiTo w l.length p):=by
 subst hn
 go_enter Tryz.func97,Tryz.ntmps97
 go_wp2_with fail
 go_loopg [8] l.length (fun gk iv wr=>IxR w l.length p gk iv wr)
 case atStart=>exact ⟨0,rfl,by omega,by omega,fun j hj=>absurd hj (by omega),Fr.refl _ _⟩
 case round =>
  obtain ⟨k,rfl,rfl,hk,hj,hf0⟩:=hrel
  have HJ:=Lib.hid hj
  clear hj
  by_cases hlt:k < l.length
  ·have i1:(k:Int) < (l.length:Int):=by omega
   have i0:(0:Int) ≤ (k:Int):=by omega
   obtain ⟨g,off,rfl,hg⟩:=hs.adC (by omega)
   have e1:codO.rd wr g (off + k * 41) = some l[k]:=(hs.fr0 hf0).rd k hlt
   have hc:=hf wr hf0 k hlt
   generalize l[k] = x at e1 hc
   by_cases hp:p k = true
   ·rw [hp] at hc
    have HP:=Lib.hid hp
    clear hp
    go_wp2_with (go_at_call 90;refine hc.mono ?_;rintro e w1 ⟨rfl,f1⟩)
    go_ret
    exact ⟨k,rfl,.inl ⟨k,hlt,rfl,HP.out,HJ.out⟩,hf0.step0 f1⟩
   ·have hp':p k = false:=by simpa using hp
    rw [hp'] at hc
    have HP:=Lib.hid hp'
    clear hp hp'
    go_wp2_with (go_at_call 90;refine hc.mono ?_;rintro e w1 ⟨rfl,f1⟩)
    go_roundg (l.length - (k + 1))
    case measure=>omega
    case rel=>exact ⟨k + 1,by simp,rfl,by omega,fun j hj=>by
     rcases Nat.lt_or_ge j k with h | h
     ·exact HJ.out j h
     ·have:j = k:=by omega
      rw [this];exact HP.out,hf0.step0 f1⟩
  ·have hkl:k = l.length:=by omega
   subst hkl
   have i1:¬ (l.length:Int) < (l.length:Int):=by omega
   go_wp2_with fail
   go_ret
   exact ⟨-1,rfl,.inr ⟨rfl,HJ.out⟩,hf0⟩
def leftW (ov:List St) (l:List OpW):List OpW:=l.filter fun h=>!decide (h.At ∈ ov)
def DelToW (w0:World) (l:List OpW) (e:Ending) (w':World):Prop:=∃ A c,e = .returned (.slice A l.length c) ∧ OwnC codO w0 w' A c l ∧ Fr noB w0 w' ∧ l.length ≤ c
def DelRW (w0:World) (A:Option Addr) (c g:Nat) (ov:List St) (l:List OpW) (gk:Nat) (iv jv:Value) (wr:World):Prop :=
 ∃ (m j:Nat) (d:List OpW),iv = .int .i64 (m:Int) ∧ jv = .int .i64 (j:Int) ∧ gk = l.length - j ∧ m < j ∧ j ≤ l.length ∧ d.length = l.length ∧ OwnC codO w0 wr A c d ∧ d.take m = leftW ov (l.take j) ∧ d.drop j = l.drop j ∧ Fr noB w0 wr
theorem leftW_none {ov:List St} {l:List OpW} {k:Nat} (hk:k ≤ l.length) (h:∀ j (hj:j < l.length),j < k → decide ((l[j]).At ∈ ov) = false):leftW ov (l.take k) = l.take k:=by
 unfold leftW
 rw [List.filter_eq_self]
 intro x hx
 obtain ⟨j,hj,rfl⟩:=List.getElem_of_mem hx
 rw [List.getElem_take]
 have hj':j < k:=by rw [List.length_take] at hj;omega
 rw [h j (by omega) hj'];rfl
theorem leftW_succ (ov:List St) (l:List OpW) (k:Nat) (hk:k < l.length):leftW ov (l.take (k + 1)) = leftW ov (l.take k) ++ (if decide ((l[k]).At ∈ ov) = true then [] else [l[k]]):=by
 unfold leftW
 rw [List.take_succ_eq_append_getElem hk,List.filter_append]
 congr 1
 cases h:decide ((l[k]).At ∈ ov) <;> simp [h]
set_option maxRecDepth 100000 in
set_option maxHeartbeats 4000000 in
theorem delOps_any (w0 w:World) (fw:Fr noB w0 w) (A:Option Addr) (c n:Nat) (l:List OpW) (hn:l.length = n) (hown:OwnC codO w0 w A c l) (hcap:l.length ≤ c) (hb:l.length ≤ 1000000)
  (B t:Nat) (kv:List (St × Value)) (ov:List St) (hB:w0.cell? ⟨B,0,none⟩ = some (.map (some t))) (hm:mpT w0 t = some kv) (hk:∀ s,(look kv s).getD (.bool false) = .bool (decide (s ∈ ov))) (hw:∀ r ∈ l,wfS r.At = true) :
  Calls Tryz.prog 89 #[.slice A n c,.func (.func 90) #[] #[.pointer (some ⟨B,0,none⟩)]] w (DelToW w0 (leftW ov l)):=by
 subst hn
 have HW:=Lib.hid hw
 have HC:=Lib.hid (fun w' (f:Fr noB w0 w') (h:OpW) (hh:wfS h.At = true)=>mgFast1_any w' B t kv ov (cell_fr0 hB f) (mpT_fr0 hm f) hk h hh)
 have HI:=Lib.hid (ixF1_any w A c l.length l rfl (Sl.own hown) (by omega) (.pointer (some ⟨B,0,none⟩)) (fun i=>if h:i < l.length then decide ((l[i]).At ∈ ov) else false) (fun w' f i hi=>by
  have:=HC.out w' (fw.step0 f) l[i] (HW.out _ (List.getElem_mem hi))
  simpa [hi] using this))
 have hown0:=Lib.hid hown
 clear hB hm hk hw
 go_enter Tryz.func89,Tryz.ntmps89
 go_upto_region 2 with (go_at_call 97;refine HI.out.mono ?_;rintro e w1 ⟨z,rfl,hz,f1⟩)
 replace hown:=own_new0 hown f1
 replace fw:=fw.step0 f1
 clear HI hown0 f1
 rcases hz with ⟨i,hi,rfl,hp,hlo⟩ | ⟨rfl,hno⟩
 ·have hne:¬ ((i:Int) = -1):=by omega
  have hne2:((i:Int) == -1) = false:=by rw [beq_eq_false_iff_ne];omega
  have hl0:l ≠ []:=by intro h;rw [h] at hi;simp at hi
  obtain ⟨g,rfl,hg,_,_,_⟩:=RwA.own hown hl0
  have wi:IntKind.i64.wrap ((i:Int) + 1) = ((i + 1:Nat):Int):=by rw [IntKind.wrap_i64];omega
  have HS:=Lib.hid (show l.take i = leftW ov (l.take (i + 1)) by
   rw [leftW_succ ov l i hi,leftW_none (by omega) (fun j h1 h2=>by have:=hlo j h2;simpa [h1] using this)]
   have:decide ((l[i]).At ∈ ov) = true:=by simpa [hi] using hp
   rw [this];simp)
  clear hp hlo
  go_wp2_with fail
  clear wi hne hne2
  go_loopg [5,6] (l.length - (i + 1)) (fun gk iv jv wr=>DelRW w0 (some ⟨g,0,none⟩) c g ov l gk iv jv wr)
  case atStart=>exact ⟨i,i + 1,l,rfl,by simp,rfl,by omega,by omega,rfl,hown,HS.out,rfl,fw⟩
  case round =>
   clear hown fw HS
   obtain ⟨m,j,d,rfl,rfl,rfl,hmj,hjl,hdl,hod,hdt,hdd,hfr⟩:=hrel
   have HDT:=Lib.hid hdt
   have HDD:=Lib.hid hdd
   clear hdt hdd
   by_cases hlt:j < l.length
   ·have i1:(j:Int) < (l.length:Int):=by omega
    have i0:(0:Int) ≤ (j:Int):=by omega
    obtain ⟨_,e0,_,_,_,hR⟩:=RwA.own hod (by intro h;rw [h] at hdl;simp at hdl;omega)
    injection e0 with e0
    injection e0 with e0
    subst e0
    have hdj:d[j]'(by omega) = l[j]:=by
     have h1:(d.drop j)[0]? = (l.drop j)[0]?:=by rw [HDD.out]
     rw [List.getElem?_drop,List.getElem?_drop,Nat.add_zero,List.getElem?_eq_getElem (by omega),List.getElem?_eq_getElem hlt] at h1
     injection h1
    have e1:codO.rd wr g (j * 41) = some l[j]:=by
     have:=(Sl.own hod).rd j (by omega)
     rw [hdj] at this
     simpa [show codO.n = 41 from rfl] using this
    have hsc:=leftW_succ ov l j hlt
    have hc:=fun w' (f:Fr noB wr w')=>HC.out w' (hfr.step0 f) l[j] (HW.out _ (List.getElem_mem hlt))
    have hdrop:d.drop (j + 1) = l.drop (j + 1):=by
     have:=congrArg (List.drop 1) HDD.out
     rwa [List.drop_drop,List.drop_drop] at this
    have HDR:=Lib.hid hdrop
    generalize l[j] = x at e1 hsc hc hdj
    have fa:Fr noB wr (wr.alloc (codO.o x)):=(Fr.refl noB wr).alloc _
    have n1:=Cod.rd_new' (C:=codO) wr x
    have hc':=hc _ fa
    obtain ⟨b,hbb⟩:∃ b,b = decide (x.At ∈ ov):=⟨_,rfl⟩
    rw [← hbb] at hc' hsc
    have HSC:=Lib.hid hsc
    clear hsc hc hbb hdrop hdj hR
    cases b with
    | true =>
     go_wp2_with (go_at_call 90;refine hc'.mono ?_;rintro e w2 ⟨rfl,f2⟩)
     go_roundg (l.length - (j + 1))
     case measure=>omega
     case rel=>exact ⟨m,j + 1,d,rfl,by simp,rfl,by omega,by omega,hdl,own_new0 (own_new0 hod fa) f2,by rw [HDT.out,HSC.out];simp,HDR.out,(hfr.step0 fa).step0 f2⟩
    | false =>
     go_upto_region 9 with (go_at_call 90;refine hc'.mono ?_;rintro e w2 ⟨rfl,f2⟩)
     have n2:=Cod.rd_fr0 n1 f2
     have hod2:=own_new0 (own_new0 hod fa) f2
     have hfr2:=(hfr.step0 fa).step0 f2
     have hmd:m < d.length:=by omega
     obtain ⟨_,e0,_,_,_,hR⟩:=RwA.own hod2 (by intro h;rw [h] at hmd;simp at hmd)
     injection e0 with e0
     injection e0 with e0
     subst e0
     have hst:=hR.st okO m (by simpa using hmd) x
     obtain ⟨o3,f3⟩:=OwnC.set hod2 rfl m hmd x
     have j2:(0:Int) ≤ (m:Int):=by omega
     have j3:(m:Int) < (l.length:Int):=by omega
     have HO:=Lib.hid o3
     have HF:=Lib.hid f3
     clear o3 f3 hR hod e1 fa n1 hod2
     have hcn:codO.n = 41:=rfl
     rw [hcn] at hst HO HF
     have wm1:IntKind.i64.wrap ((m:Int) + 1) = ((m + 1:Nat):Int):=by rw [IntKind.wrap_i64];omega
     go_wp2_with fail
     go_roundg (l.length - (j + 1))
     case measure=>omega
     case rel =>
      refine ⟨m + 1,j + 1,d.set m x,by simp,by simp,rfl,by omega,by omega,by simp [hdl],HO.out,?_,?_,hfr2.step1 HF.out hg⟩
      ·have h1:m < (d.set m x).length:=by simpa using hmd
       rw [HSC.out,← HDT.out,List.take_succ_eq_append_getElem h1]
       simp [List.take_set_of_le]
      ·rw [List.drop_set_of_lt (by omega)]
       exact HDR.out
   ·have hjl2:j = l.length:=by omega
    subst hjl2
    have i1:¬ (l.length:Int) < (l.length:Int):=by omega
    have k1:(0:Int) ≤ (m:Int):=by omega
    have k2:(m:Int) ≤ (l.length:Int):=by omega
    have k3:(m:Int) ≤ (c:Int):=by omega
    have hHD:=Lib.hid (show d.take m = leftW ov l by rw [HDT.out,List.take_length])
    have hml:(leftW ov l).length = m:=by
     rw [← hHD.out,List.length_take];omega
    have HML:=Lib.hid hml
    clear HDT HDD hml
    have hclr:=fun cc=>OwnC.clear okO Tryz.underlying33 hod rfl m (l.length - m) cc (by omega) (by omega)
    obtain ⟨o4,f4⟩:=OwnC.sets hod rfl m (List.replicate (l.length - m) codO.z) (by simp;omega) (by intro h;rw [h] at hdl;simp at hdl;omega)
    have hcn:codO.n = 41:=rfl
    rw [hcn] at hclr o4 f4
    have HO:=Lib.hid (OwnC.pre o4 m (by simp;omega))
    have HF:=Lib.hid f4
    clear o4 f4 hod
    go_wp2_with fail
    have he:(d.take m ++ List.replicate (l.length - m) codO.z ++ d.drop (m + (List.replicate (l.length - m) codO.z).length)).take m = leftW ov l:=by
     rw [List.append_assoc,List.take_left' (by rw [List.length_take];omega)]
     exact hHD.out
    have HO2:=HO.out
    rw [he] at HO2
    go_ret
    exact ⟨some ⟨g,0,none⟩,c,by rw [HML.out];rfl,HO2,hfr.step1 HF.out hg,by rw [HML.out];omega⟩
 ·have hid:leftW ov l = l:=by
   have:=leftW_none (ov:=ov) (l:=l) (k:=l.length) (Nat.le_refl _) (fun j h1 h2=>by have:=hno j h1;simpa [h1] using this)
   rwa [List.take_length] at this
  have HID:=Lib.hid hid
  clear hid hno
  go_wp2_with fail
  go_ret
  unfold DelToW
  rw [HID.out]
  exact ⟨A,c,rfl,hown,fw,hcap⟩
end Go.Proofs.YtjpieiccpbcabaaGreat
