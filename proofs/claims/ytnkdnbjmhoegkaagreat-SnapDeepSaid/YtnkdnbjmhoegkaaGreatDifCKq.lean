/- Values built of parts: an item of a row, operations of moves and edits. Contracts: slices.Clone of heads, snap.item, snap.right; slices.EqualFunc of heads, differ.sameData. (ex_ldS_at ex_bldT5_at) Contracts: snap.right; slices.EqualFunc of heads, differ.sameData. (ex_ldS_at) -/
import Derived.Test.YtnkdnbjmhoegkaaGreatDifAKq
import Derived.Test.YtnkdnbjmhoegkaaGreatPutDKq
import Derived.Test.YtnkdnbjmhoegkaaGreatQFrKq
import Derived.Test.YtnkdnbjmhoegkaaGreatEqsKq
set_option linter.unusedVariables false
set_option linter.unusedSimpArgs false
namespace Go.Proofs.YtnkdnbjmhoegkaaGreat
open Go.RowKit
@[irreducible] noncomputable def mkB (t:TypeId) (w:World) (fs:List (Nat × Value)):Result Next:=((Instr.build t fs.toArray).run Tryz.prog w).andThen (fun v w=>.ok (.value v) w)
theorem mkB_ok {t:TypeId} {w:World} {fs:List (Nat × Value)} {v:Value} (h:(Instr.build t fs.toArray).run Tryz.prog w = .ok v w):mkB t w fs = .ok (.value v) w:=by
 unfold mkB
 rw [h]
 rfl
theorem exB (ρ:Operand → Value) (o:Oper) (t:TypeId) (fs:Array (Nat × Operand)) (ho:o.op = .build t fs) (w:World):(execOp ρ o).run Tryz.prog w = mkB t w (fs.map fun (i,x)=>(i,ρ x)).toList:=by
 unfold execOp mkB
 simp only [ho,Sem.run_bind,Sem.run_pure,Array.toArray_toList]
theorem bldT_5 (w:World) (s t:St) (m:List UInt8) (x:ID) (A:Option Addr) (n c:Nat):(Instr.build 63 #[(0,.agg (codS.A s)),(1,.agg (codS.A t)),(2,.string (str m)),(3,encI x),(4,.slice A n c)]).run Tryz.prog w = .ok (.agg (codT.A ⟨s,t,m,x,A,n,c⟩)) w:=by
 have h1:∀ place:Nat → Option (Nat × Nat),place 0 = some (0,2) → place 1 = some (2,2) → place 2 = some (4,1) → place 3 = some (5,32) → place 4 = some (37,1) → Instr.fill place ([] ++ [Value.int .i64 0,Value.int .i64 0] ++ ([Value.int .i64 0,Value.int .i64 0,Value.string (str [])] ++ bv zID.1 ++ [Value.slice none 0 0])).toArray [(0,.agg (codS.A s)),(1,.agg (codS.A t)),(2,.string (str m)),(3,encI x),(4,.slice A n c)] = some (codT.cs ⟨s,t,m,x,A,n,c⟩).toArray:=by
  intro place p0 p1 p2 p3 p4
  refine (fill_one place [] [.int .i64 0,.int .i64 0] ([Value.int .i64 0,Value.int .i64 0,Value.string (str [])] ++ bv zID.1 ++ [Value.slice none 0 0]) [.int .i64 s.T,.int .i64 s.R] 0 (.agg (codS.A s)) _ (by rw [A_SS];rfl) (by simpa using p0) rfl).trans ?_
  have e1:=fill_one place [.int .i64 s.T,.int .i64 s.R] [.int .i64 0,.int .i64 0] ([Value.string (str [])] ++ bv zID.1 ++ [Value.slice none 0 0]) [.int .i64 t.T,.int .i64 t.R] 1 (.agg (codS.A t)) [(2,.string (str m)),(3,encI x),(4,.slice A n c)] (by rw [A_SS];rfl) (by simpa using p1) rfl
  refine Eq.trans ?_ (e1.trans ?_)
  ·simp
  have e2:=fill_one place [.int .i64 s.T,.int .i64 s.R,.int .i64 t.T,.int .i64 t.R] [Value.string (str [])] (bv zID.1 ++ [Value.slice none 0 0]) [.string (str m)] 2 (.string (str m)) [(3,encI x),(4,.slice A n c)] rfl (by simpa using p2) rfl
  refine Eq.trans ?_ (e2.trans ?_)
  ·simp
  have e3:=fill_one place [.int .i64 s.T,.int .i64 s.R,.int .i64 t.T,.int .i64 t.R,.string (str m)] (bv zID.1) [Value.slice none 0 0] (bv x.1) 3 (encI x) [(4,.slice A n c)] (cellsI x) (by simpa [x.2] using p3) (by simp [x.2,zID])
  refine Eq.trans ?_ (e3.trans ?_)
  ·simp
  have e4:=fill_one place ([.int .i64 s.T,.int .i64 s.R,.int .i64 t.T,.int .i64 t.R,.string (str m)] ++ bv x.1) [Value.slice none 0 0] [] [.slice A n c] 4 (.slice A n c) [] rfl (by simpa [x.2] using p4) rfl
  refine Eq.trans ?_ (e4.trans ?_)
  ·simp
  ·simp [Instr.fill,codT,csT]
 have hz:(zeroValue 63).run Tryz.prog w = .ok (.agg (codT.cs codT.z).toArray) w:=okT.zero w
 have hc:(Value.agg (codT.cs codT.z).toArray).cells = ([] ++ [Value.int .i64 0,Value.int .i64 0] ++ ([Value.int .i64 0,Value.int .i64 0,Value.string (str [])] ++ bv zID.1 ++ [Value.slice none 0 0])).toArray:=rfl
 have hsI:∀ w,(sizeOf 34).run Tryz.prog w = .ok 32 w:=fun w=>Tryz.sizeOf34 w
 simp only [Instr.build,Sem.run_bind,hz,Result.andThen_ok,run_underlying Tryz.underlying63,hc]
 simp only [List.mapM_toArray,List.mapM_cons,List.mapM_nil,Sem.run_bind,hsI,Tryz.sizeOf9,Tryz.sizeOf26,Tryz.sizeOf24,Result.andThen_ok,Sem.run_pure,Sem.run_map,map_pure,bind_pure_comp]
 rw [h1 _ rfl rfl rfl rfl rfl]
 simp [Cod.A_eq]
/-! the rules of the walk -/
@[simp] theorem mkB_T5 (w:World) (s t:St) (m:List UInt8) (x:ID) (A:Option Addr) (n c:Nat):mkB 63 w [(0,.agg (codS.A s)),(1,.agg (codS.A t)),(2,.string (str m)),(3,encI x),(4,.slice A n c)] = .ok (.value (.agg (codT.A ⟨s,t,m,x,A,n,c⟩))) w:=mkB_ok (bldT_5 w s t m x A n c)
theorem ex_bldT5_at {ρ:Operand → Value} {o:Oper} {x0 x1 x2 x3 x4:Operand} {w:World} {s t:St} {m:List UInt8} {x:ID} {A:Option Addr} {n c:Nat} (ho:o.op = .build 63 #[(0,x0),(1,x1),(2,x2),(3,x3),(4,x4)]) (h0:ρ x0 = .agg (codS.A s)) (h1:ρ x1 = .agg (codS.A t)) (h2:ρ x2 = .string (str m)) (h3:ρ x3 = encI x) (h4:ρ x4 = .slice A n c) :
  (execOp ρ o).run Tryz.prog w = .ok (.value (.agg (codT.A ⟨s,t,m,x,A,n,c⟩))) w:=by
 rw [exB ρ o _ _ ho w]
 simp only [List.map_toArray,List.map_cons,List.map_nil,h0,h1,h2,h3,h4]
 exact mkB_T5 w s t m x A n c
@[go_sem] theorem hs_eq_nil (w:World) (a:Option Addr) (n c:Nat):(binOp .eql 26 (.slice a n c) (.slice none 0 0)).run Tryz.prog w = .ok (.bool a.isNone) w :=
 Lib.run_eql_slice_nil w _ _ a n c 0 0 Tryz.underlying26
def NewHs (w:World) (l:List Hd) (e:Ending) (w':World):Prop:=∃ A c,e = .returned (.slice A l.length c) ∧ OwnC codH w w' A c l ∧ Fr noB w w'
set_option maxRecDepth 100000 in
theorem clHeads_any (w:World) (A:Option Addr) (c:Nat) (l:List Hd) (n:Nat) (hn:l.length = n) (hs:Sl w A (codH.row l)) (hb:l.length ≤ 2932031007402) :
  Calls Tryz.prog 48 #[.slice A n c] w (NewHs w l):=by
 subst hn
 rcases A with _ | ad
 ·have hl:l = []:=by
   cases l with
   | nil=>rfl
   | cons b t=>obtain ⟨g,off,h,_⟩:=hs (Cod.row_ne (by simp));cases h
  subst hl
  go_enter Tryz.func48,Tryz.ntmps48
  go_wp2
  go_ret
  exact ⟨none,0,rfl,World.ownsRow_nil _ _ _ _,Fr.refl _ _⟩
 ·have hown:=World.ownsRow_lit (base:=w.heap.size) (e:=49) (size:=34) w #[] 0 (Nat.le_refl _) (by simp [maxLen]) rfl
  have hs1:Sl (w.alloc (.cells #[] 49)) (some ad) (codH.row l):=hs.fr0 ((Fr.refl noB w).alloc _)
  go_enter Tryz.func48,Tryz.ntmps48
  go_wp2_with (at_builtin;refine wpList_app _ etH rfl _ _ rfl w.heap.size _ _ _ rfl hown (some ad) l.length c (codH.row l) rfl hs1 (Cod.row_len l) (Cod.row_one l) (by omega) (by simp) ?_;intro v' w1 h1 h2 h3)
  go_ret
  obtain ⟨A',c',rfl,_,_⟩:=own_form h1
  simp only [Nat.zero_add,List.nil_append] at h1
  exact ⟨A',c',by simp,h1,((Fr.refl noB w).alloc _).stepG (r:=some w.heap.size) h2 (by intro g hg;injection hg with hg;omega)⟩
def ItTo (w:World) (r:RwW) (sub:ID) (hs:List Hd) (e:Ending) (w':World):Prop:=∃ A c,e = .returned (.agg (codT.A ⟨r.Node,r.At,r.Name,sub,A,r.n,c⟩)) ∧ Sl w' A (codH.row hs) ∧ Fr noB w w'
def ItToO (w:World) (r:RwW) (sub:ID) (hs:List Hd) (e:Ending) (w':World):Prop:=∃ A c,e = .returned (.agg (codT.A ⟨r.Node,r.At,r.Name,sub,A,r.n,c⟩)) ∧ w'.ownsRow w.heap.size 49 34 (.slice A r.n c) r.n (codH.row hs) ∧ Fr noB w w'
set_option maxRecDepth 100000 in
set_option maxHeartbeats 1000000 in
theorem nitemO_any (w:World) (r:RwW) (sub:ID) (hs:List Hd) (hn:hs.length = r.n) (hl:Sl w r.A (codH.row hs)) (hb:hs.length ≤ 2932031007402):Calls Tryz.prog 36 #[.agg (codR.A r),encI sub] w (ItToO w r sub hs):=by
 have fa:Fr noB w (w.alloc (.cells (codR.A r) 28)):=(Fr.refl noB w).alloc _
 have fb:Fr noB (w.alloc (.cells (codR.A r) 28)) ((w.alloc (.cells (codR.A r) 28)).alloc (ido sub)):=(Fr.refl noB _).alloc _
 have fc:Fr noB ((w.alloc (.cells (codR.A r) 28)).alloc (ido sub)) (((w.alloc (.cells (codR.A r) 28)).alloc (ido sub)).alloc (codT.o zItW)):=(Fr.refl noB _).alloc _
 have q:=rwAt (Cod.rd_fr0 (Cod.rd_new (C:=codR) w 28 r) (fb.step0 fc))
 have z1:(w.alloc (.cells (codR.A r) 28)).heap.size = w.heap.size + 1:=by simp
 have z2:((w.alloc (.cells (codR.A r) 28)).alloc (ido sub)).heap.size = w.heap.size + 2:=by simp
 have i1:rdI (((w.alloc (.cells (codR.A r) 28)).alloc (ido sub)).alloc (codT.o zItW)) (w.heap.size + 1) 0 = some sub:=by
  have:=rdI_new (w.alloc (.cells (codR.A r) 28)) sub
  rw [z1] at this
  exact rdI_fr this (rdI_lt this) fc (by simp [noB])
 have b1:=Cod.bxd_new (C:=codT) ((w.alloc (.cells (codR.A r) 28)).alloc (ido sub)) zItW
 rw [z2] at b1
 have f0:=(fa.step0 fb).step0 fc
 clear fa fb fc z1 z2
 have HN:=Lib.hid hn
 clear hn
 go_enter Tryz.func36,Tryz.ntmps36
 go_upto_region 1 with fail
 generalize ((w.alloc (.cells (codR.A r) 28)).alloc (ido sub)).alloc (codT.o zItW) = W0 at q i1 b1 f0 ⊢
 obtain ⟨P,hP⟩:∃ x,x = w.heap.size:=⟨_,rfl⟩
 rw [← hP] at q i1 b1 ⊢
 have HP:=Lib.hid hP
 clear hP
 obtain ⟨q1,q2,q3,q4,q5,q6⟩:=q
 clear q2 q6
 replace hl:=hl.fr0 f0
 have hk:∀ w' w'':World,Fr noB w' w'' → (codS.rd w' P 0 = some r.Node ∧ codS.rd w' P 4 = some r.At ∧ w'.cell? ⟨P,6,none⟩ = some (.string (str r.Name)) ∧ w'.cell? ⟨P,7,none⟩ = some (.slice r.A r.n r.c) ∧ rdI w' (P + 1) 0 = some sub) → (codS.rd w'' P 0 = some r.Node ∧ codS.rd w'' P 4 = some r.At ∧ w''.cell? ⟨P,6,none⟩ = some (.string (str r.Name)) ∧ w''.cell? ⟨P,7,none⟩ = some (.slice r.A r.n r.c) ∧ rdI w'' (P + 1) 0 = some sub) :=
  fun w' w'' f h=>⟨Cod.rd_fr0 h.1 f,Cod.rd_fr0 h.2.1 f,cell_fr0 h.2.2.1 f,cell_fr0 h.2.2.2.1 f,rdI_fr h.2.2.2.2 (rdI_lt h.2.2.2.2) f (by simp [noB])⟩
 refine wp_region_M 11 12 [⟨32,4,0⟩,⟨64,32,1⟩,⟨128,4,0⟩,⟨256,128,4⟩,⟨512,4,0⟩,⟨1024,512,16⟩,⟨2048,8,0⟩,⟨4096,4,0⟩,⟨8192,4096,128⟩,⟨16384,8192,256⟩,⟨32768,19776,618⟩,⟨0,32784,2047⟩] [(true,0),(true,1),(true,2),(true,3),(true,4),(true,5),(true,6),(true,7),(true,8),(false,9),(true,10)] (fun w'=>codS.rd w' P 0 = some r.Node ∧ codS.rd w' P 4 = some r.At ∧ w'.cell? ⟨P,6,none⟩ = some (.string (str r.Name)) ∧ w'.cell? ⟨P,7,none⟩ = some (.slice r.A r.n r.c) ∧ rdI w' (P + 1) 0 = some sub) (by kernel_rfl) rfl (by kernel_rfl) (by kernel_rfl) (by kernel_rfl) (hk _ _ ((Fr.refl noB W0).drew) ⟨q1,q3,q4,q5,i1⟩) (fun hA hF=>?_)
 iterate 9
  refine wpAnyS_take (v:=?_) hA rfl (fun _ _ _ h=>h) (Or.inl ⟨by rfl,?_⟩) hF (fun hA=>?_)
  rotate_left
  ·intro wS hSw;(try dsimp only at hSw);obtain ⟨s1,s2,s3,s4,s5⟩:=hSw;first | (apply Eq.trans;apply ex_ld_id;exact rfl;exact rfl;assumption;with_reducible rfl) | (apply Eq.trans;apply ex_ldS_at;exact rfl;exact rfl;assumption;with_reducible rfl) | (apply Eq.trans;apply ex_bldT5_at;exact rfl;exact rfl;exact rfl;exact rfl;exact rfl;exact rfl;with_reducible rfl) | (go_simp;try with_reducible rfl)
  try simp only [sA1,sA2,sA3,Act.put,sA4,sA5,sA6]
 refine wpAnyS_one hA rfl (fun K' hK=>?_)
 go_simp
 go_at_call 48
 refine (clHeads_any _ r.A r.c hs r.n HN.out (hl.fr0 ((Fr.refl noB W0).drew)) hb).mono ?_
 rintro e w2 ⟨A2,c2,rfl,ho2,f2⟩
 have sl2:=Sl.own ho2
 have hlen:=HN.out
 rw [hlen]
 replace hF:=hk _ _ f2 hF
 refine hK.out _ _ hF (fun hA=>?_)
 clear hK K'
 as_aux_lemma =>
 refine wpAnyS_take (v:=?_) hA rfl (fun _ _ _ h=>h) (Or.inl ⟨by rfl,?_⟩) hF (fun hA=>?_)
 rotate_left
 ·intro wS hSw;(try dsimp only at hSw);obtain ⟨s1,s2,s3,s4,s5⟩:=hSw;first | (apply Eq.trans;apply ex_ld_id;exact rfl;exact rfl;assumption;with_reducible rfl) | (apply Eq.trans;apply ex_ldS_at;exact rfl;exact rfl;assumption;with_reducible rfl) | (apply Eq.trans;apply ex_bldT5_at;exact rfl;exact rfl;exact rfl;exact rfl;exact rfl;exact rfl;with_reducible rfl) | (go_simp;try with_reducible rfl)
 try simp only [sA1,sA2,sA3,Act.put,sA4,sA5,sA6]
 refine wpAnyS_end hA rfl ?_
 simp only [List.drop_succ_cons,List.drop_zero]
 clear hF hk
 have b2:=Cod.bxd_fr0 (Cod.bxd_fr0 b1 ((Fr.refl noB W0).drew)) f2
 have hst:=okT.stR_box b2 ⟨r.Node,r.At,r.Name,sub,A2,r.n,c2⟩
 obtain ⟨p1,p2,p3⟩:=Cod.put_fr b2 ⟨r.Node,r.At,r.Name,sub,A2,r.n,c2⟩
 have gz:=(f0.step0 ((Fr.refl noB W0).drew)).step0 f2
 have ho3:=own_base (own_box (Cod.bxd_blk b2) ho2 (by decide) p1) (show w.heap.size ≤ W0.drew.heap.size from (f0.step0 ((Fr.refl noB W0).drew)).size)
 rw [HN.out] at ho3
 go_wp2_with fail
 refine bodyPost_ret (ret_row okT rfl _ _ (P + 2) ⟨r.Node,r.At,r.Name,sub,A2,r.n,c2⟩ (by rfl) p3) rfl ?_
 exact ⟨A2,c2,rfl,ho3,gz.step1 p1 (by have:=HP.out;omega)⟩
theorem nitem_any (w:World) (r:RwW) (sub:ID) (hs:List Hd) (hn:hs.length = r.n) (hl:Sl w r.A (codH.row hs)) (hb:hs.length ≤ 2932031007402):Calls Tryz.prog 36 #[.agg (codR.A r),encI sub] w (ItTo w r sub hs) :=
 (nitemO_any w r sub hs hn hl hb).mono fun e w' ⟨A,c,he,ho,hf⟩=>⟨A,c,he,Sl.own ho,hf⟩
theorem RwIn.item {w:World} {r:RwW} {x:RwP} (h:RwIn w r x) {A:Option Addr} {c:Nat} {w':World} (hs:Sl w' A (codH.row x.Heads)):ItsIn w' [⟨r.Node,r.At,r.Name,zID,A,r.n,c⟩] [itR x zID] :=
 ⟨rfl,fun i h1 h2=>by
  have hi:i = 0:=by simp at h1;omega
  subst hi
  refine ⟨?_,h.len,hs,h.bd,h.nm⟩
  show itR x zID = itOf _ x.Heads
  unfold itR itOf
  simp only [h.node,h.at_,h.name]
  rfl⟩
set_option maxRecDepth 100000 in
set_option maxHeartbeats 2000000 in
theorem nrow_any (w:World) (r:RwW) (x:RwP) (h:RwIn w r x) (hb:x.Heads.length ≤ 2932031007402):Calls Tryz.prog 31 #[.agg (codR.A r)] w (Gives w (.bool (rightR x))):=by
 have f0:Fr noB w (w.alloc (.cells (codR.A r) 28)):=(Fr.refl noB w).alloc _
 have q:=rwAt (Cod.rd_new (C:=codR) w 28 r)
 have hP:w.heap.size < (w.alloc (.cells (codR.A r) 28)).heap.size:=by simp
 have H:=Lib.hid (h.fr f0)
 have HM:=Lib.hid (show rightR x = (rightDr [itR x zID] && decide (x.Node ≠ lastS)) from rfl)
 have HND:=Lib.hid h.node
 clear h
 go_enter Tryz.func31,Tryz.ntmps31
 go_upto_region 1 with fail
 generalize w.alloc (.cells (codR.A r) 28) = W0 at f0 q H hP ⊢
 obtain ⟨P,hP'⟩:∃ x,x = w.heap.size:=⟨_,rfl⟩
 rw [← hP'] at q hP ⊢
 clear hP'
 obtain ⟨q1,q2,q3,q4,q5,q6⟩:=q
 clear q2 q3 q4 q5
 go_upto_region 2 with (first
  | (go_at_call 36;refine (nitem_any W0 r zID x.Heads H.out.len H.out.sl hb).mono ?_;rintro e w2 ⟨A2,c2,rfl,sl2,f2⟩)
  | (go_at_call 37;refine (putDir_any _ (some ⟨w2.heap.size,0,none⟩) 1 1 [⟨r.Node,r.At,r.Name,zID,A2,r.n,c2⟩] [itR x zID] rfl (Cod.sl_new (C:=codT) w2 [⟨r.Node,r.At,r.Name,zID,A2,r.n,c2⟩]) (by simp) (H.out.item (sl2.fr0 ((Fr.refl noB w2).alloc _)))).mono ?_;rintro e w3 ⟨A3,c3,rfl,ho3,f3,hc3⟩))
 have f4:Fr noB W0 w3:=(f2.alloc _).step0 f3
 clear ho3 hc3 sl2
 replace q1:=Cod.rd_fr0 q1 f4
 have hPs:P < w3.heap.size:=Cod.rd_lt q1
 by_cases hr:rightDr [itR x zID] = true
 ·have hs:(putDr [itR x zID]).isSome = true:=by unfold putDr;rw [if_pos hr];rfl
  rw [if_pos hs]
  clear hs
  have C1:=fun wS:World=>last_any wS
  by_cases hl:r.Node = lastS
  ·have HE:=Lib.hid (show rightR x = false by rw [HM.out,HND.out,hl];simp)
   have hl':(decide (r.Node = lastS)) = true:=by simp [hl]
   clear hr HM hl
   refine wp_region_fr (by kernel_rfl) (by kernel_rfl) ?_
   iterate 5
    refine wpQ_take (v:=?_) (by rfl) (fun wS hS=>?_) ?_
    rotate_left
    ·obtain ⟨L1,L2,L3,L4,L5,L6⟩:=Fr.same hS;go_simp;try with_reducible rfl
    try simp only [sA1,sA2,sA3,Act.put,sA4,sA5,sA6]
   refine wpQ_call (by rfl) (fun wS hS=>⟨_,_,?qh58,Calls.fr hS (C1 _)⟩) ?qk58
   case qh58=>obtain ⟨L1,L2,L3,L4,L5,L6⟩:=Fr.same hS;go_simp;try with_reducible rfl
   try simp only [sA1,sA2,sA3,Act.put,sA4,sA5,sA6]
   iterate 3
    refine wpQ_take (v:=?_) (by rfl) (fun wS hS=>?_) ?_
    rotate_left
    ·obtain ⟨L1,L2,L3,L4,L5,L6⟩:=Fr.same hS;go_simp;try with_reducible rfl
    try simp only [sA1,sA2,sA3,Act.put,sA4,sA5,sA6]
   refine wpQ_nil ?_
   intro w1 f1
   go_wp2_with fail
   go_ret
   exact ⟨by rw [HE.out];rfl,(f0.step0 f4).step0 f1⟩
  ·have HE:=Lib.hid (show rightR x = true by rw [HM.out,HND.out,hr];simp [hl])
   clear hr HM
   refine wp_region_fr (by kernel_rfl) (by kernel_rfl) ?_
   iterate 5
    refine wpQ_take (v:=?_) (by rfl) (fun wS hS=>?_) ?_
    rotate_left
    ·obtain ⟨L1,L2,L3,L4,L5,L6⟩:=Fr.same hS;go_simp;try with_reducible rfl
    try simp only [sA1,sA2,sA3,Act.put,sA4,sA5,sA6]
   refine wpQ_call (by rfl) (fun wS hS=>⟨_,_,?qh79,Calls.fr hS (C1 _)⟩) ?qk79
   case qh79=>obtain ⟨L1,L2,L3,L4,L5,L6⟩:=Fr.same hS;go_simp;try with_reducible rfl
   try simp only [sA1,sA2,sA3,Act.put,sA4,sA5,sA6]
   iterate 3
    refine wpQ_take (v:=?_) (by rfl) (fun wS hS=>?_) ?_
    rotate_left
    ·obtain ⟨L1,L2,L3,L4,L5,L6⟩:=Fr.same hS;go_simp;try with_reducible rfl
    try simp only [sA1,sA2,sA3,Act.put,sA4,sA5,sA6]
   refine wpQ_nil ?_
   intro w1 f1
   go_wp2_with fail
   go_ret
   exact ⟨by rw [HE.out];rfl,(f0.step0 f4).step0 f1⟩
 ·have hs:¬ (putDr [itR x zID]).isSome = true:=by unfold putDr;rw [if_neg hr];decide
  rw [if_neg hs]
  clear hs
  have HE:=Lib.hid (show rightR x = false by rw [HM.out];simp [hr])
  clear hr HM
  refine wp_region_fr (by kernel_rfl) (by kernel_rfl) ?_
  iterate 3
   refine wpQ_take (v:=?_) (by rfl) (fun wS hS=>?_) ?_
   rotate_left
   ·obtain ⟨L1,L2,L3,L4,L5,L6⟩:=Fr.same hS;go_simp;try with_reducible rfl
   try simp only [sA1,sA2,sA3,Act.put,sA4,sA5,sA6]
  iterate 4
   refine wpQ_off (by rfl) ?_
   try simp only [sA1,sA2,sA3,Act.put,sA4,sA5,sA6]
  iterate 2
   refine wpQ_take (v:=?_) (by rfl) (fun wS hS=>?_) ?_
   rotate_left
   ·obtain ⟨L1,L2,L3,L4,L5,L6⟩:=Fr.same hS;go_simp;try with_reducible rfl
   try simp only [sA1,sA2,sA3,Act.put,sA4,sA5,sA6]
  refine wpQ_nil ?_
  intro w1 f1
  go_wp2_with fail
  go_ret
  exact ⟨by rw [HE.out];rfl,(f0.step0 f4).step0 f1⟩
theorem CodOk.stR_new1 {α:Type} {C:Cod α} (H:CodOk Tryz.prog C) (w:World) (ob:Obj) (x y:α):C.stR ((w.alloc ob).alloc (C.o y)) (.pointer (some ⟨w.heap.size + 1,0,none⟩)) (.agg (C.A x)) = .ok .skip ((w.alloc ob).alloc (C.o x)):=by
 have h:=H.stR_new (w.alloc ob) x y
 rwa [World.size_alloc] at h
/-! sameData -/
end Go.Proofs.YtnkdnbjmhoegkaaGreat
