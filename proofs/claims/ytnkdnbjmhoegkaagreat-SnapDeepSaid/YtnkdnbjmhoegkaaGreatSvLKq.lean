/- snap's saver: items and dir at every place. snap.Save: words; from the map of kids to the saver. (ex_ldS_at, ex_ldR_at) snap.Links. (ex_ldS_at, ex_ldR_at, ex_ldH_at, ex_ld_id) -/
import Derived.Test.YtnkdnbjmhoegkaaGreatSvCKq
import Derived.Test.YtnkdnbjmhoegkaaGreatKidOKq
import Derived.Test.YtnkdnbjmhoegkaaGreatDifDKq
import Derived.Test.YtnkdnbjmhoegkaaGreatRegTKq
import Derived.Test.YtnkdnbjmhoegkaaGreatIdSortOKq
set_option linter.unusedVariables false
set_option linter.unusedSimpArgs false
namespace Go.Proofs.YtnkdnbjmhoegkaaGreat
open Go.RowKit Go.Maps Go.Sort
theorem svitems_any (S M X:Nat) (kv:List (St × Value)) {rs:List RwP} (T:TreeOk rs) (N:NarrowZ rs):∀ (k:Nat) (p:St),wfS p = true → hgtZ rs k p → IsC S M X kv rs p (itsZ nameH rs k p) (putsZ nameH rs k p)
 | 0,p,hp,hh=>by
  have hh:kidsZ rs p = []:=hh
  have h:=svitems_of S M X kv rs p hp T.ok 0 (fun _=>[]) (fun _=>[]) (fun r hr=>by rw [hh] at hr;cases hr) (by rw [hh];simp)
  rw [hh] at h
  exact h
 | k + 1,p,hp,hh =>
  svitems_of S M X kv rs p hp T.ok k (itsZ nameH rs k) (putsZ nameH rs k) (fun r hr =>
   svdir_of S M X kv rs r.Node _ _ (right_its T (Nat.le_trans (N _) (by decide))) (svitems_any S M X kv T N k r.Node (rightS_wf (rightR_S (T.ok r (mem_kids.1 hr).1))) (hh r hr))) (Nat.le_trans (N p) (by decide))
theorem svdir_any (S M X:Nat) (kv:List (St × Value)) {rs:List RwP} (T:TreeOk rs) (N:NarrowZ rs) (k:Nat) (p:St) (hp:wfS p = true) (hh:hgtZ rs k p):DsC S M X kv rs p (itsZ nameH rs k p) (putsZ nameH rs k p) :=
 svdir_of S M X kv rs p _ _ (right_its T (Nat.le_trans (N _) (by decide))) (svitems_any S M X kv T N k p hp hh)
theorem fil_at {P:RwW → RwP → Prop} (hp:∀ r x,P r x → x.Parent = r.Parent) (p:St):∀ (ws:List RwW) (xs:List RwP),ws.length = xs.length → (∀ i (h:i < ws.length) (h':i < xs.length),P ws[i] xs[i]) →
  (filZ ws p).length = (kidsZ xs p).length ∧ ∀ i (h:i < (filZ ws p).length) (h':i < (kidsZ xs p).length),P (filZ ws p)[i] (kidsZ xs p)[i]
 | [],[],_,_=>⟨rfl,fun i h=>absurd h (Nat.not_lt_zero i)⟩
 | [],_ :: _,h,_=>by simp at h
 | _ :: _,[],h,_=>by simp at h
 | r :: ws,x :: xs,hl,h=>by
  have ih:=fil_at hp p ws xs (by simpa using hl) (fun i h1 h2=>h (i + 1) (Nat.succ_lt_succ h1) (Nat.succ_lt_succ h2))
  have h0:P r x:=h 0 (by simp) (by simp)
  have e:=hp r x h0
  by_cases hq:r.Parent = p
  ·have e1:filZ (r :: ws) p = r :: filZ ws p:=by unfold filZ;rw [List.filter_cons];simp [hq]
   have e2:kidsZ (x :: xs) p = x :: kidsZ xs p:=by unfold kidsZ;rw [List.filter_cons];simp [e,hq]
   rw [e1,e2]
   refine ⟨by simp [ih.1],fun i h1 h2=>?_⟩
   cases i with
   | zero=>exact h0
   | succ i=>exact ih.2 i (Nat.lt_of_succ_lt_succ h1) (Nat.lt_of_succ_lt_succ h2)
  ·have e1:filZ (r :: ws) p = filZ ws p:=by unfold filZ;rw [List.filter_cons];simp [hq]
   have e2:kidsZ (x :: xs) p = kidsZ xs p:=by unfold kidsZ;rw [List.filter_cons];simp [e,hq]
   rw [e1,e2]
   exact ih
theorem fil_take (ws:List RwW) (k:Nat) (p:St):(filZ (ws.take k) p).length ≤ (filZ ws p).length:=by
 unfold filZ
 exact ((List.take_sublist k ws).filter _).length_le
theorem KidO.sv {W w:World} {kv:List (St × Value)} {ws:List RwW} {f:St → Option Addr × Nat} (h:KidO W w kv ws f) {xs:List RwP} {S M X:Nat} (hX:X < W.heap.size) (hb:Blk w S 55 [.map (some M),putF X]) (hm:mpT w M = some kv) (neS:S ≠ X) (neM:M ≠ X) (hin:RwsIn w ws xs)
  (hoff:∀ i (h:i < ws.length) (h':i < xs.length),xs[i].Heads ≠ [] → Off ws[i].A (fun b=>b ≠ X)):SvIn w S M X kv xs:=by
 refine ⟨hb,hm,neS,neM,fun p=>?_⟩
 obtain ⟨h1,h2⟩:=fil_at (P:=fun r x=>RwIn w r x ∧ (x.Heads ≠ [] → Off r.A (fun b=>b ≠ X))) (fun r x h=>h.1.parent) p ws xs hin.len (fun i h1 h2=>⟨hin.at_ i h1 h2,hoff i h1 h2⟩)
 exact ⟨(f p).1,(f p).2,filZ ws p,h.at_ p,Sl.own (h.own p),⟨h1,fun i a b=>(h2 i a b).1⟩,fun _=>(Off.own (h.own p)).mono fun b hb e=>by omega,fun i a b=>(h2 i a b).2⟩
theorem ex_me_at {ρ:Operand → Value} {o:Oper} {m x:Operand} {w w1:World} {u v k:Value} {t:TypeId} (ho:o.op = .mapEntry t m x) (hm:ρ m = u) (hk:ρ x = k) (h:(Instr.mapEntry t u k).run Tryz.prog w = .ok v w1):(execOp ρ o).run Tryz.prog w = .ok (.value v) w1:=by
 unfold execOp
 simp only [ho,hm,hk,Sem.run_bind,h,Result.andThen_ok,Sem.run_pure]
theorem cellZ_fr {M:Nat → Prop} {w w':World} {b o:Nat} {v:Value} (h:w.cell? ⟨b,o,none⟩ = some v) (f:Fr M w w') (hM:¬ M b):w'.cell? ⟨b,o,none⟩ = some v:=by
 have hl:=World.block_lt_of_cell? _ _ h
 exact (World.cell?_of_block (w:=w) (a:=⟨b,o,none⟩) (f.block b hl hM)).trans h
theorem filZ_snoc (ws:List RwW) (r:RwW) (q:St):filZ (ws ++ [r]) q = if q = r.Parent then filZ ws r.Parent ++ [r] else filZ ws q:=by
 unfold filZ
 rw [List.filter_append]
 by_cases hq:q = r.Parent
 ·subst hq;simp
 ·have:¬ r.Parent = q:=fun e=>hq e.symm
  simp [hq,this]
theorem ntreeZ_yes (w:World) (A:Option Addr) (c n:Nat) (rs:List RwW) (xs:List RwP) (hn:rs.length = n) (hs:Sl w A (codR.row rs)) (hb:rs.length ≤ 140737488355328) (h:RwsIn w rs xs) (hbd:∀ x ∈ xs,x.Heads.length ≤ 2932031007402) (ht:TreeOk xs) :
  Calls Tryz.prog 13 #[.slice A n c] w (Gives w (.bool true)):=(ntree_any w A c n rs xs hn hs hb h hbd).mono fun e w' ⟨b,h1,h2,h3⟩=>⟨by rw [h1,h3.2 ht],h2⟩
theorem bldT_4z (w:World) (s t:St) (m:List UInt8) (x:ID):(Instr.build 63 #[(0,.agg (codS.A s)),(1,.agg (codS.A t)),(2,.string (str m)),(3,encI x)]).run Tryz.prog w = .ok (.agg (codT.A { zItW with Node:=s,At:=t,Name:=m,Sub:=x })) w:=by
 have h1:∀ place:Nat → Option (Nat × Nat),place 0 = some (0,2) → place 1 = some (2,2) → place 2 = some (4,1) → place 3 = some (5,32) → Instr.fill place ([] ++ [Value.int .i64 0,Value.int .i64 0] ++ ([Value.int .i64 0,Value.int .i64 0,Value.string (str [])] ++ bv zID.1 ++ [Value.slice none 0 0])).toArray [(0,.agg (codS.A s)),(1,.agg (codS.A t)),(2,.string (str m)),(3,encI x)] = some (codT.cs { zItW with Node:=s,At:=t,Name:=m,Sub:=x }).toArray:=by
  intro place p0 p1 p2 p3
  refine (fill_one place [] [.int .i64 0,.int .i64 0] ([Value.int .i64 0,Value.int .i64 0,Value.string (str [])] ++ bv zID.1 ++ [Value.slice none 0 0]) [.int .i64 s.T,.int .i64 s.R] 0 (.agg (codS.A s)) _ (by rw [A_SS];rfl) (by simpa using p0) rfl).trans ?_
  have e1:=fill_one place [.int .i64 s.T,.int .i64 s.R] [.int .i64 0,.int .i64 0] ([Value.string (str [])] ++ bv zID.1 ++ [Value.slice none 0 0]) [.int .i64 t.T,.int .i64 t.R] 1 (.agg (codS.A t)) [(2,.string (str m)),(3,encI x)] (by rw [A_SS];rfl) (by simpa using p1) rfl
  refine Eq.trans ?_ (e1.trans ?_)
  ·simp
  have e2:=fill_one place [.int .i64 s.T,.int .i64 s.R,.int .i64 t.T,.int .i64 t.R] [Value.string (str [])] (bv zID.1 ++ [Value.slice none 0 0]) [.string (str m)] 2 (.string (str m)) [(3,encI x)] rfl (by simpa using p2) rfl
  refine Eq.trans ?_ (e2.trans ?_)
  ·simp
  have e3:=fill_one place [.int .i64 s.T,.int .i64 s.R,.int .i64 t.T,.int .i64 t.R,.string (str m)] (bv zID.1) [Value.slice none 0 0] (bv x.1) 3 (encI x) [] (cellsI x) (by simpa [x.2] using p3) (by simp [x.2,zID])
  refine Eq.trans ?_ (e3.trans ?_)
  ·simp
  ·simp [Instr.fill,codT,csT,zItW]
 have hz:(zeroValue 63).run Tryz.prog w = .ok (.agg (codT.cs codT.z).toArray) w:=okT.zero w
 have hc:(Value.agg (codT.cs codT.z).toArray).cells = ([] ++ [Value.int .i64 0,Value.int .i64 0] ++ ([Value.int .i64 0,Value.int .i64 0,Value.string (str [])] ++ bv zID.1 ++ [Value.slice none 0 0])).toArray:=rfl
 have hsI:∀ w,(sizeOf 34).run Tryz.prog w = .ok 32 w:=fun w=>Tryz.sizeOf34 w
 simp only [Instr.build,Sem.run_bind,hz,Result.andThen_ok,run_underlying Tryz.underlying63,hc]
 simp only [List.mapM_toArray,List.mapM_cons,List.mapM_nil,Sem.run_bind,hsI,Tryz.sizeOf9,Tryz.sizeOf26,Tryz.sizeOf24,Result.andThen_ok,Sem.run_pure,Sem.run_map,map_pure,bind_pure_comp]
 rw [h1 _ rfl rfl rfl rfl]
 simp [Cod.A_eq]
def tiZ (sub:ID):ItW:={ zItW with Node:=lastS,At:=lastS,Name:=trashB,Sub:=sub }
theorem ex_bldT4_at {ρ:Operand → Value} {o:Oper} {x0 x1 x2 x3:Operand} {w:World} {x:ID} (ho:o.op = .build 63 #[(0,x0),(1,x1),(2,x2),(3,x3)]) (h0:ρ x0 = .agg (codS.A lastS)) (h1:ρ x1 = .agg (codS.A lastS)) (h2:ρ x2 = .string (str trashB)) (h3:ρ x3 = encI x) :
  (execOp ρ o).run Tryz.prog w = .ok (.value (.agg (codT.A (tiZ x)))) w:=by
 rw [exB ρ o _ _ ho w]
 simp only [List.map_toArray,List.map_cons,List.map_nil,h0,h1,h2,h3]
 exact mkB_ok (bldT_4z w lastS lastS trashB x)
theorem ex_alI_at {ρ:Operand → Value} {o:Oper} {w:World} (ho:o.op = .alloc 34):(execOp ρ o).run Tryz.prog w = .ok (.value (.pointer (some ⟨w.heap.size,0,none⟩))) (w.alloc (ido zID)):=by
 unfold execOp
 simp only [ho,Sem.run_bind,al_id,Result.andThen_ok,Sem.run_pure]
theorem ex_stI_at {ρ:Operand → Value} {o:Oper} {a b:Operand} {w:World} {k:Nat} {x y:ID} (ho:o.op = .store 34 a b) (ha:ρ a = .pointer (some ⟨k,0,none⟩)) (hb:ρ b = encI x) (hk:bxI w k = some y):(execOp ρ o).run Tryz.prog w = .ok .skip (putB w k x):=by
 obtain ⟨d,op,t,p,f,g⟩:=o
 simp only at ho
 subst ho
 rw [ex_st,ha,hb]
 exact stI_box hk x
theorem zk_skip {P:Program} {w:World} {o:Oper} {a:Act} {K:Act → World → Prop} {Q:Exit → Act → World → Prop} (w':World)
  (hr:(execOp a.eval o).run P w = .ok .skip w') (h:K (a.put o.dst undef) w'):Oper.wp P o a w K Q:=by
 unfold Oper.wp
 rw [hr]
 exact h
theorem tiZ_in (w:World) (sub:ID):ItIn w (tiZ sub) (trashI sub):=⟨rfl,rfl,Sl.nil _ _,by show 0 ≤ _;omega,by show 5 ≤ _;omega⟩
theorem root_in {W w w':World} {A:Option Addr} {c:Nat} {rs:List ItW} {its:List It} (ho:OwnC codT W w A c rs) (hi:ItsOwn W w rs its) (sub:ID) (f:Fr (fun b=>A.map (·.block) = some b) w w'):ItsIn w' (rs ++ [tiZ sub]) (its ++ [trashI sub]) :=
 ((hi.map fun v n l h=>own_two ho h (by decide) f).snoc (tiZ_in w' sub) (World.ownsRow_nil _ _ _ _)).its
def SaR (W:World) (S M X:Nat) (ws:List RwW) (gk:Nat) (iv:Value) (wr:World):Prop :=
 ∃ (k:Nat) (kv:List (St × Value)) (f:St → Option Addr × Nat),iv = .int .i64 (k:Int) ∧ gk = ws.length - k ∧ k ≤ ws.length ∧ KidO W wr kv (ws.take k) f ∧ mpT wr M = some kv ∧ Blk wr S 55 [.map (some M),putF X] ∧ Fr (oneB M) W wr ∧ ∀ p,(filZ (ws.take k) p).length ≤ 999
def SaTo (w:World) (X:Nat) (Z:Nat → Prop) (o:List (List UInt8)) (xs:List RwP) (e:Ending) (w':World):Prop :=
 (NarrowZ xs ∧ e = .returned (.tuple #[encI (saveZ nameH xs),.int .i64 0]) ∧ BoxIn w' X Z (putAll o (allZ nameH xs)) ∧ Fr (oneB X) w w') ∨
 (¬ NarrowZ xs ∧ e = .returned (.tuple #[encI zID,.int .i64 3]) ∧ Fr noB w w')
def lksR (xs:List RwP):List ID:=xs.flatMap fun r=>r.Heads.map (·.Data)
def LkRTo (w:World) (xs:List RwP) (e:Ending) (w':World):Prop:=∃ A c,e = .returned (.slice A (cpt (sortBy cmpI (lksR xs))).length c) ∧ Fr noB w w'
theorem lksR_len:∀ (xs:List RwP),(∀ x ∈ xs,x.Heads.length ≤ 1000) → (lksR xs).length ≤ xs.length * 1000
 | [],_=>by simp [lksR]
 | x :: xs,h=>by
  have ih:=lksR_len xs fun y hy=>h y (List.mem_cons_of_mem _ hy)
  have h1:=h x (by simp)
  unfold lksR at ih ⊢
  rw [List.flatMap_cons,List.length_append,List.length_map,List.length_cons]
  omega
theorem lksR_snoc (xs:List RwP) (i:Nat) (hi:i < xs.length):lksR (xs.take (i + 1)) = lksR (xs.take i) ++ xs[i].Heads.map (·.Data):=by
 rw [List.take_succ_eq_append_getElem hi]
 unfold lksR
 rw [List.flatMap_append,List.flatMap_cons,List.flatMap_nil,List.append_nil]
set_option maxRecDepth 100000 in
set_option maxHeartbeats 4000000 in
theorem svlinks_any (w:World) (A:Option Addr) (c n:Nat) (ws:List RwW) (xs:List RwP) (hn:ws.length = n) (hs:Sl w A (codR.row ws)) (hb:ws.length ≤ 100000) (h:RwsIn w ws xs) (hbd:∀ x ∈ xs,x.Heads.length ≤ 1000) :
  Calls Tryz.prog 15 #[.slice A n c] w (LkRTo w xs):=by
 subst hn
 have HS:=Lib.hid hs
 have HB:=Lib.hid hb
 have HH:=Lib.hid h
 have HBD:=Lib.hid hbd
 have HXL:=Lib.hid h.len
 have H0:=Lib.hid (show ∃ (i:Nat) (B:Option Addr) (d:Nat) (l:List ID),(Value.slice none 0 0) = .slice B l.length d ∧ (Value.int .i64 ((0:Nat):Int)) = .int .i64 (i:Int) ∧ ws.length = ws.length - i ∧ i ≤ ws.length ∧ l = lksR (xs.take i) ∧ OwnC codI w w B d l ∧ Fr noB w w from ⟨0,none,0,[],rfl,rfl,rfl,Nat.zero_le _,rfl,World.ownsRow_nil _ _ _ _,Fr.refl _ _⟩)
 clear hs hb h hbd
 go_enter Tryz.func15,Tryz.ntmps15
 go_wp2_with fail
 go_loopg [3,10] ws.length (fun gk ov iv wr=>∃ (i:Nat) (B:Option Addr) (d:Nat) (l:List ID),ov = .slice B l.length d ∧ iv = .int .i64 (i:Int) ∧ gk = ws.length - i ∧ i ≤ ws.length ∧ l = lksR (xs.take i) ∧ OwnC codI w wr B d l ∧ Fr noB w wr)
 case atStart=>exact H0.out
 case round =>
  clear H0
  obtain ⟨i,B,d,l,rfl,rfl,rfl,hi,hl,ho,hf⟩:=hrel
  have HL:=Lib.hid hl
  have HO:=Lib.hid ho
  have HF:=Lib.hid hf
  have HLB:=Lib.hid (show l.length ≤ 100000000 by
   rw [hl]
   have h1:=lksR_len (xs.take i) fun y hy=>HBD.out y (List.mem_of_mem_take hy)
   have h2:(xs.take i).length ≤ xs.length:=by rw [List.length_take];omega
   have:=HXL.out;have:=HB.out
   omega)
  clear hl ho hf
  by_cases hlt:i < ws.length
  ·have hlt2:i < xs.length:=by rw [← HXL.out];exact hlt
   have i1:(i:Int) < (ws.length:Int):=by omega
   have i0:(0:Int) ≤ (i:Int):=by omega
   obtain ⟨g,off,rfl,hg⟩:=(HS.out.fr0 HF.out).adC (by omega)
   have e1:codR.rd wr g (off + i * 8) = some ws[i]:=(HS.out.fr0 HF.out).rd i hlt
   have HIN:=Lib.hid (HH.out.at_ i hlt hlt2)
   have HSN:=Lib.hid (lksR_snoc xs i hlt2)
   have HBX:=Lib.hid (HBD.out _ (List.getElem_mem hlt2))
   have HKL:=Lib.hid hlt
   generalize ws[i] = r at e1 HIN
   generalize xs[i] = x at HIN HSN HBX
   clear hg hlt hlt2 hi
   go_upto_region 5 with fail
   have fb:Fr noB wr (wr.alloc (codR.o r)):=(Fr.refl noB wr).alloc _
   have q:=(rwAt (Cod.bxd_rd (Cod.bxd_new (C:=codR) wr r))).heads
   have HF2:=Lib.hid (HF.out.step0 fb)
   have HO2:=Lib.hid (own_new0 HO.out fb)
   have HHL:=Lib.hid HIN.out.len
   clear fb e1
   generalize wr.alloc (codR.o r) = w1 at q HF2 HO2 ⊢
   generalize wr.heap.size = N at q ⊢
   obtain ⟨rA,hrA⟩:∃ a,a = r.A:=⟨_,rfl⟩
   obtain ⟨rn,hrn⟩:∃ a,a = r.n:=⟨_,rfl⟩
   obtain ⟨rc,hrc⟩:∃ a,a = r.c:=⟨_,rfl⟩
   rw [← hrA,← hrn,← hrc] at q
   have HSH:=Lib.hid (show Sl w rA (codH.row x.Heads) by rw [hrA];exact HIN.out.sl)
   have HRN:=Lib.hid (show x.Heads.length = rn by rw [hrn];exact HHL.out)
   have I0:=Lib.hid (show ∃ (j:Nat) (B2:Option Addr) (d2:Nat) (l2:List ID),(Value.slice B l.length d) = .slice B2 l2.length d2 ∧ (Value.int .i64 ((0:Nat):Int)) = .int .i64 (j:Int) ∧ rn = rn - j ∧ j ≤ rn ∧ l2 = l ++ (x.Heads.take j).map (·.Data) ∧ OwnC codI w w1 B2 d2 l2 ∧ Fr noB w w1 from ⟨0,B,d,l,rfl,rfl,rfl,Nat.zero_le _,by simp,HO2.out,HF2.out⟩)
   clear hrA hrn hrc
   go_wp2_with fail
   go_loopg [3,17] rn (fun gk ov jv wz=>∃ (j:Nat) (B2:Option Addr) (d2:Nat) (l2:List ID),ov = .slice B2 l2.length d2 ∧ jv = .int .i64 (j:Int) ∧ gk = rn - j ∧ j ≤ rn ∧ l2 = l ++ (x.Heads.take j).map (·.Data) ∧ OwnC codI w wz B2 d2 l2 ∧ Fr noB w wz)
   case atStart=>exact I0.out
   case round =>
    clear I0 q
    obtain ⟨j,B2,d2,l2,rfl,rfl,rfl,hj,hl2,ho2,hf2⟩:=hrel
    have HL2:=Lib.hid hl2
    have HO3:=Lib.hid ho2
    have HF3:=Lib.hid hf2
    have HLB2:=Lib.hid (show l2.length ≤ 100001000 by
     rw [hl2,List.length_append,List.length_map,List.length_take]
     have:=HLB.out;have:=HBX.out
     omega)
    clear hl2 ho2 hf2
    by_cases hlj:j < rn
    ·have j1:(j:Int) < (rn:Int):=by omega
     have j0:(0:Int) ≤ (j:Int):=by omega
     have hjx:j < x.Heads.length:=by rw [HRN.out];exact hlj
     obtain ⟨gh,oh,rfl,hgh⟩:=(HSH.out.fr0 HF3.out).adC (by omega)
     have e2:codH.rd wr gh (oh + j * 34) = some x.Heads[j]:=(HSH.out.fr0 HF3.out).rd j hjx
     have HTK:=Lib.hid (show (x.Heads.take (j + 1)).map (·.Data) = (x.Heads.take j).map (·.Data) ++ [x.Heads[j].Data] by rw [List.take_succ_eq_append_getElem hjx,List.map_append];rfl)
     have HJL:=Lib.hid hlj
     generalize x.Heads[j] = h at e2 HTK
     clear hgh hjx hlj hj
     go_upto_region 8 with fail
     have fb:Fr noB wr (wr.alloc (codH.o h)):=(Fr.refl noB wr).alloc _
     have q:=(hdAt (Cod.bxd_rd (Cod.bxd_new (C:=codH) wr h))).data
     have HF4:=Lib.hid (HF3.out.step0 fb)
     have HO4:=Lib.hid (own_new0 HO3.out fb)
     clear fb e2
     generalize wr.alloc (codH.o h) = w2 at q HF4 HO4 ⊢
     generalize wr.heap.size = N2 at q ⊢
     generalize h.Data = y at q HTK
     have fn:Fr noB w2 (w2.alloc (rowo [y])):=(Fr.refl noB w2).alloc _
     have sl:Sl (w2.alloc (rowo [y])) (some ⟨w2.heap.size,0,none⟩) (codI.row [y]):=sl_new w2 [y]
     have ho5:=own_new0 HO4.out fn
     have hf5:=HF4.out.step0 fn
     clear fn
     go_wp2_with (at_builtin;refine wpList_appC' etI w _ rfl _ _ rfl B2 l2.length d2 l2 rfl rfl ho5 (some ⟨w2.heap.size,0,none⟩) 1 1 [y] rfl sl rfl (by have:=HLB2.out;simp;omega) hf5.size ?_;intro A8 c8 w8 hc8 hmx8 ho8 hg8 hA8;obtain ⟨l8,hl8⟩:∃ t,t = l2 ++ [y]:=⟨_,rfl⟩;rw [← hl8] at ho8 ⊢;have HL8:=Lib.hid hl8;clear hl8 hc8 hmx8)
     have F8:=Fr.own' hf5 ho5 hg8
     have wk:wrap64 ((j:Int) + 1) = (j:Int) + 1:=IntWalk.wrap64_in _ (by have:=HJL.out;have:=HRN.out;have:=HBX.out;omega)
     go_wp2_with fail
     go_roundg (rn - (j + 1))
     case measure=>have:=HJL.out;omega
     case rel=>exact ⟨j + 1,A8,c8,l8,rfl,by first | exact congrArg (Value.int .i64) wk | simp,rfl,by have:=HJL.out;omega,by rw [HL8.out,HL2.out,HTK.out,List.append_assoc],ho8,F8⟩
    ·have j1:¬ (j:Int) < (rn:Int):=by omega
     have wk:wrap64 ((i:Int) + 1) = (i:Int) + 1:=IntWalk.wrap64_in _ (by have:=HKL.out;have:=HB.out;omega)
     have HLN:=Lib.hid (show l2 = lksR (xs.take (i + 1)) by rw [HL2.out,HSN.out,HL.out,show x.Heads.take j = x.Heads from List.take_of_length_le (by have:=HRN.out;omega)])
     clear hlj hj
     go_wp2_with fail
     go_roundg (ws.length - (i + 1))
     case measure=>have:=HKL.out;omega
     case rel=>exact ⟨i + 1,B2,d2,l2,rfl,by first | exact congrArg (Value.int .i64) wk | simp,rfl,by have:=HKL.out;omega,HLN.out,HO3.out,HF3.out⟩
  ·have i1:¬ (i:Int) < (ws.length:Int):=by omega
   have hie:l = lksR xs:=by rw [HL.out,List.take_of_length_le (by have:=HXL.out;omega)]
   have HLE:=Lib.hid hie
   have CS:=Lib.hid (sortC_any w wr B d l.length l rfl HO.out (by have:=HLB.out;omega))
   clear hlt hi hie
   go_upto_region 12 with (go_at_call 33;refine CS.out.mono ?_;rintro e w2 ⟨rfl,ho2,f2⟩;have HO2:=Lib.hid ho2;have HF2:=Lib.hid f2;clear ho2 f2)
   have HSL:=Lib.hid (show (sortBy cmpI l).length = l.length from sortBy_length cmpI l)
   have CC:=Lib.hid (show Calls Tryz.prog 35 #[.slice B l.length d] w2 (CpTo w2 B d (sortBy cmpI l)) from compact_any w2 B d l.length (sortBy cmpI l) HSL.out (by
    by_cases h0:sortBy cmpI l = []
    ·exact .inl h0
    ·exact .inr (RwI.own (show OwnC codI w w2 B d (sortBy cmpI l) from HO2.out) h0)) (by rw [HSL.out];exact (own_form HO.out).choose_spec.choose_spec.2.1 |> fun h=>(by obtain ⟨A',c',e,h1,_⟩:=own_form HO.out;injection e with _ _ e;omega)) (by rw [HSL.out];have:=HLB.out;omega))
   go_wp2_with (go_at_call 35;refine CC.out.mono ?_;rintro e w3 ⟨rfl,_,f3⟩;have HF3:=Lib.hid f3;clear f3)
   go_ret
   rw [HLE.out]
   exact ⟨B,d,rfl,(HF.out.step HF2.out fun b hb=>.inl (own_lt HO.out b hb).1).step HF3.out fun b hb=>.inl (own_lt HO.out b hb).1⟩
end Go.Proofs.YtnkdnbjmhoegkaaGreat
