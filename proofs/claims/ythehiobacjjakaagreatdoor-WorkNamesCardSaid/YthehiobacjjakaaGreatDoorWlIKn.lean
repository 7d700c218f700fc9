/- Contract of work: List. (ex_ldS_at) -/
import Derived.Test.YthehiobacjjakaaGreatDoorWlHKn
set_option linter.unusedVariables false
set_option linter.unusedSimpArgs false
namespace Go.Proofs.YthehiobacjjakaaGreatDoor
open Go.RowKit Go.Maps Go.Sort Go.Shelf
theorem AllO.perm {α β:Type} {R:World → α → β → Prop} {w:World} {rs rs':List α} (hp:rs'.Perm rs):∀ {xs:List β},AllO R w rs xs → ∃ xs',xs'.Perm xs ∧ AllO R w rs' xs':=by
 induction hp with
 | nil=>exact fun h=>⟨_,.refl _,h⟩
 | cons r _ ih =>
  intro xs h
  match xs,h with
  | [],h=>have:=h.1;simp at this
  | x :: xs,h =>
   obtain ⟨ys,h1,h2⟩:=ih h.tail.2
   exact ⟨x :: ys,h1.cons x,AllO.cons h.tail.1 h2⟩
 | swap a b l =>
  intro xs h
  match xs,h with
  | [],h=>have:=h.1;simp at this
  | [x],h=>have:=h.1;simp at this
  | x :: y :: xs,h=>exact ⟨y :: x :: xs,.swap x y xs,AllO.cons h.tail.2.tail.1 (AllO.cons h.tail.1 h.tail.2.tail.2)⟩
 | trans _ _ ih1 ih2 =>
  intro xs h
  obtain ⟨ys,h1,h2⟩:=ih2 h
  obtain ⟨zs,h3,h4⟩:=ih1 h2
  exact ⟨zs,h3.trans h1,h4⟩
def cfQ (p:List UInt8 × St) (q:List UInt8 × St):Int:=orI (cmpB p.1 q.1) (cmpS p.2 q.2)
theorem cfQ_lt {p q:List UInt8 × St}:cfQ p q < 0 ↔ Op.bytesLess p.1 q.1 = true ∨ (p.1 = q.1 ∧ cmpS p.2 q.2 < 0):=by
 unfold cfQ
 rw [orI_eq]
 split
 ·rename_i h
  have:=cmpB_zero.1 h
  rw [this,less_self]
  simp
 ·rename_i h
  rw [cmpB_lt]
  have:p.1 ≠ q.1:=fun e=>h (cmpB_zero.2 e)
  simp [this]
theorem cfQ_self (p:List UInt8 × St):cfQ p p = 0:=by unfold cfQ;rw [orI_eq,cmpB_self,cmpS_self];rfl
theorem cfQ_trans {a b c:List UInt8 × St} (h1:cfQ a b < 0) (h2:cfQ b c < 0):cfQ a c < 0:=by
 rw [cfQ_lt] at *
 rcases h1 with h1 | ⟨e1,h1⟩
 ·rcases h2 with h2 | ⟨e2,h2⟩
  ·exact .inl (less_trans h1 h2)
  ·rw [e2] at h1;exact .inl h1
 ·rcases h2 with h2 | ⟨e2,h2⟩
  ·rw [← e1] at h2;exact .inl h2
  ·exact .inr ⟨e1.trans e2,cmpS_trans h1 h2⟩
theorem cfQ_tri {a b:List UInt8 × St} (h1:¬ cfQ a b < 0) (h2:¬ cfQ b a < 0):a = b:=by
 rw [cfQ_lt] at h1 h2
 have e:a.1 = b.1:=less_tri (Bool.eq_false_iff.2 fun h=>h1 (.inl h)) (Bool.eq_false_iff.2 fun h=>h2 (.inl h))
 have h3:¬ cmpS a.2 b.2 < 0:=fun h=>h1 (.inr ⟨e,h⟩)
 have h4:¬ cmpS b.2 a.2 < 0:=fun h=>h2 (.inr ⟨e.symm,h⟩)
 have:=cmpS_flip a.2 b.2
 exact Prod.ext e (cmpS_zero.1 (by omega))
theorem swoQ {α:Type} (f:α → List UInt8 × St):SWO (ltOf fun x y:α=>cfQ (f x) (f y)) where
 irrefl x:=by simp [ltOf,cfQ_self]
 trans x y z h1 h2:=by
  simp only [ltOf,decide_eq_true_eq] at *
  exact cfQ_trans h1 h2
 ntrans x y z h1 h2:=by
  simp only [ltOf,decide_eq_false_iff_not] at *
  intro h
  by_cases h3:cfQ (f y) (f x) < 0
  ·exact h2 (cfQ_trans h3 h)
  ·have:=cfQ_tri h1 h3
   rw [this] at h
   exact h2 h
def pnW (x:EnW):List UInt8 × St:=(x.Path,x.Node)
def pnP (x:EnP):List UInt8 × St:=(x.Path,x.Node)
theorem EnO.pn {w:World} {r:EnW} {x:EnP} (h:EnO w r x):pnP x = pnW r:=by unfold pnP pnW;rw [h.path,h.node]
set_option maxRecDepth 100000 in
set_option maxHeartbeats 4000000 in
theorem ls1X_any (w:World) (x y:EnW):Calls Tryz.prog 42 #[.agg (codEn.A x),.agg (codEn.A y)] w (GivesX w (.int .i64 (cfQ (pnW x) (pnW y)))):=by
 have b0:codEn.bxd (w.alloc (.cells (codEn.A x) 57)) w.heap.size = some x:=Cod.bxd_box (C:=codEn) w x
 have b1:=Cod.bxd_fr0 b0 ((Fr.refl noB _).alloc (.cells (codEn.A y) 57))
 have b2:codEn.bxd ((w.alloc (.cells (codEn.A x) 57)).alloc (.cells (codEn.A y) 57)) (w.alloc (.cells (codEn.A x) 57)).heap.size = some y:=Cod.bxd_box (C:=codEn) _ y
 have hz:(w.alloc (.cells (codEn.A x) 57)).heap.size = w.heap.size + 1:=by simp
 rw [hz] at b2
 have g0:Gr w ((w.alloc (.cells (codEn.A x) 57)).alloc (.cells (codEn.A y) 57)):=((Gr.refl w).alloc _).alloc _
 have q1:=enAt (Cod.bxd_rd b1)
 have q2:=enAt (Cod.bxd_rd b2)
 have HC:=Lib.hid (show orI (cmpB x.Path y.Path) (cmpS x.Node y.Node) = cfQ (pnW x) (pnW y) from rfl)
 generalize cfQ (pnW x) (pnW y) = res at HC ⊢
 clear b0 b1 b2 hz
 go_enter Tryz.func42,Tryz.ntmps42
 go_upto_region 1 with fail
 generalize (w.alloc (.cells (codEn.A x) 57)).alloc (.cells (codEn.A y) 57) = W0 at g0 q1 q2 ⊢
 generalize w.heap.size + 1 = Q at q2 ⊢
 generalize w.heap.size = R at q1 ⊢
 have hk:∀ w' w'':World,Fr noB w' w'' → (w'.cell? ⟨R,0,none⟩ = some (.string (str x.Path)) ∧ w'.cell? ⟨Q,0,none⟩ = some (.string (str y.Path)) ∧ codS.rd w' R 1 = some x.Node ∧ codS.rd w' Q 1 = some y.Node) → (w''.cell? ⟨R,0,none⟩ = some (.string (str x.Path)) ∧ w''.cell? ⟨Q,0,none⟩ = some (.string (str y.Path)) ∧ codS.rd w'' R 1 = some x.Node ∧ codS.rd w'' Q 1 = some y.Node):=fun w' w'' f h=>⟨cell_fr0 h.1 f,cell_fr0 h.2.1 f,Cod.rd_fr0 h.2.2.1 f,Cod.rd_fr0 h.2.2.2 f⟩
 have fd:Fr noB W0 W0.drew:=(Fr.refl noB W0).drew
 have g1:=g0.drew
 refine wp_region_M 12 13 [⟨32,4,0⟩,⟨64,32,1⟩,⟨128,8,0⟩,⟨256,128,4⟩,⟨512,320,10⟩,⟨1024,4,0⟩,⟨2048,1024,32⟩,⟨4096,8,0⟩,⟨8192,4096,128⟩,⟨16384,10240,336⟩,⟨32768,16896,528⟩,⟨65536,32768,1536⟩,⟨16,65536,4095⟩] [(true,0),(true,1),(true,2),(true,3),(true,5),(true,6),(true,7),(true,8),(false,4),(false,9),(false,10),(false,11)] (fun w'=>w'.cell? ⟨R,0,none⟩ = some (.string (str x.Path)) ∧ w'.cell? ⟨Q,0,none⟩ = some (.string (str y.Path)) ∧ codS.rd w' R 1 = some x.Node ∧ codS.rd w' Q 1 = some y.Node) (by kernel_rfl) rfl (by kernel_rfl) (by kernel_rfl) (by kernel_rfl) (hk _ _ fd ⟨q1.path,q2.path,q1.node,q2.node⟩) (fun hA hF=>?_)
 iterate 8
  refine wpAnyS_take (v:=?_) hA rfl (fun _ _ _ h=>h) (Or.inl ⟨by rfl,?_⟩) hF (fun hA=>?_)
  rotate_left
  ·intro wS hSw;(try dsimp only at hSw);obtain ⟨s1,s2,s3,s4⟩:=hSw;first | (apply Eq.trans;apply ex_ldS_at;exact rfl;exact rfl;assumption;with_reducible rfl) | (go_simp;try with_reducible rfl)
  try simp only [sA1,sA2,sA3,Act.put,sA4,sA5,sA6]
 refine wpAnyS_one hA rfl (fun K' hK=>?_)
 go_simp
 go_at_call 44
 refine (compareS_any _ x.Path y.Path).mono ?_
 rintro e u1 ⟨rfl,rfl⟩
 replace hF:=hk _ _ (Fr.refl noB _) hF
 refine hK.out _ _ hF (fun hA=>?_)
 clear hK K'
 as_aux_lemma =>
 refine wpAnyS_one hA rfl (fun K' hK=>?_)
 go_simp
 go_at_call 45
 refine (scmpX_v _ x.Node y.Node).mono ?_
 rintro e u2 ⟨rfl,g2⟩
 have g3:=g1.trans g2
 replace hF:=hk _ _ (Gr.fr g2) hF
 refine hK.out _ _ hF (fun hA=>?_)
 clear hK K'
 as_aux_lemma =>
 refine wpAnyS_one hA rfl (fun K' hK=>?_)
 go_simp
 have f3:Fr noB u2 (u2.alloc (.cells #[.int .i64 (cmpB x.Path y.Path),.int .i64 (cmpS x.Node y.Node)] 3)):=(Fr.refl noB _).alloc _
 have s3:Sl (u2.alloc (.cells #[.int .i64 (cmpB x.Path y.Path),.int .i64 (cmpS x.Node y.Node)] 3)) (some ⟨u2.heap.size,0,none⟩) [.int .i64 (cmpB x.Path y.Path),.int .i64 (cmpS x.Node y.Node)]:=Sl.new u2 _ _
 have g4:=g3.alloc (.cells #[.int .i64 (cmpB x.Path y.Path),.int .i64 (cmpS x.Node y.Node)] 3)
 replace hF:=hk _ _ f3 hF
 refine hK.out _ _ hF (fun hA=>?_)
 clear hK K'
 as_aux_lemma =>
 refine wpAnyS_one hA rfl (fun K' hK=>?_)
 go_simp
 go_at_call 43
 refine (or_any _ _ _ (cmpB x.Path y.Path) (cmpS x.Node y.Node) s3).mono ?_
 rintro e u4 ⟨rfl,rfl⟩
 replace hF:=hk _ _ (Fr.refl noB _) hF
 refine hK.out _ _ hF (fun hA=>?_)
 clear hK K'
 as_aux_lemma =>
 refine wpAnyS_end hA rfl ?_
 simp only [List.drop_succ_cons,List.drop_zero]
 clear hF
 go_wp2_with fail
 go_ret
 exact ⟨by rw [HC.out];rfl,g4⟩
theorem cmpEn_lays (W w:World) (hW:W = w) (x y:EnW):Calls Tryz.prog 42 (#[.agg (codEn.cs x).toArray,.agg (codEn.cs y).toArray] ++ #[]) W fun e w'=>e = .returned (.int .i64 (cfQ (pnW x) (pnW y))) ∧ ∃ q os',w' = grow (W.drewN q) os':=by
 have:=ls1X_any W x y
 rw [Cod.A_eq,Cod.A_eq] at this
 rw [Array.append_empty]
 exact this
theorem srtEn_any (w0 w:World) (A:Option Addr) (c n:Nat) (l:List EnW) (hn:l.length = n) (ho:OwnC codEn w0 w A c l) (hl:l.length ≤ 1000000000000) :
  Calls Tryz.prog 41 #[.slice A n c,.func (.func 42) #[] #[]] w fun e w'=>e = .returned (.tuple #[]) ∧ ∃ l':List EnW,l'.Perm l ∧ l'.Pairwise (fun x y=>ltOf (fun x y=>cfQ (pnW x) (pnW y)) y x = false) ∧ OwnC codEn w0 w' A c l' ∧ Fr (fun b=>A.map (·.block) = some b) w w' :=
 srtC_any codEn Tryz.sortE (fun w=>Tryz.isAgg57 w) (fun w=>Tryz.sizeOf57 w) (fun x y=>cfQ (pnW x) (pnW y)) (swoQ pnW) 42 #[] (enters_of Tryz.func42 (by kernel_rfl) rfl) w0 w A c n l hn ho hl (fun blk _ _ _ m os dk _ x y=>cmpEn_lays _ _ rfl x y)
structure LiP (xs:List RwP) (ys:List EnP):Prop where
 tree:TreeOk xs → ys.Perm (listF xs xs.length zSt []) ∧ ys.Pairwise (fun a b=>¬ cfQ (pnP b) (pnP a) < 0)
 none:¬ TreeOk xs → ys = []
def LiTo (w:World) (xs:List RwP) (e:Ending) (w':World):Prop:=∃ A c os ys,e = .returned (.slice A os.length c) ∧ OwnC codEn w w' A c os ∧ AllO EnO w' os ys ∧ LiP xs ys ∧ Fr noB w w'
theorem pw_map {α β:Type} {R:World → α → β → Prop} {w:World} {P:α → α → Prop} {Q:β → β → Prop} (h:∀ a b x y,R w a x → R w b y → P a b → Q x y) {rs:List α} {xs:List β} (ha:AllO R w rs xs) (hp:rs.Pairwise P):xs.Pairwise Q:=by
 rw [List.pairwise_iff_getElem] at hp ⊢
 intro i j hi hj hij
 have hi':i < rs.length:=by rw [ha.1];exact hi
 have hj':j < rs.length:=by rw [ha.1];exact hj
 exact h _ _ _ _ (ha.2 i hi' hi) (ha.2 j hj' hj) (hp i j hi' hj' hij)
set_option maxRecDepth 100000 in
set_option maxHeartbeats 4000000 in
theorem li_any (w:World) (A:Option Addr) (c n:Nat) (rs:List RwW) (xs:List RwP) (hn:rs.length = n) (hs:Sl w A (codR.row rs)) (hb:rs.length ≤ 140737488355328) (hX:RwsIn w rs xs) (hbd:∀ x ∈ xs,x.Heads.length ≤ 2932031007402) (hT:HasT w) :
  Calls Tryz.prog 21 #[.slice A n c] w (LiTo w xs):=by
 have NT:=Lib.hid (ntree_any w A c n rs xs hn hs hb hX hbd)
 have LA:=Lib.hid (fun w' (f:Fr noB w w') (ht:TreeOk xs)=>list_any xs.length 0 zSt [] w' A c n rs xs hn (hs.fr0 f) (hX.fr f) ht (hT.fr f) (lev_fixed (by decide)) (by omega) (by simp))
 clear hn hs hb hX hbd hT
 go_enter Tryz.func21,Tryz.ntmps21
 by_cases ht:TreeOk xs
 ·have HT:=Lib.hid ht
  go_upto_region 3 with (go_at_call 28;refine NT.out.mono ?_;rintro e w1 ⟨b,rfl,f1,hbb⟩;have eb:b = true:=hbb.2 HT.out;rw [eb])
  have F1:=Lib.hid f1
  have LA:=Lib.hid (LA.out w1 f1 ht)
  have HLN:=Lib.hid (listF_len ht xs.length (lev_fixed (by decide:fixedS zSt = true)) [])
  have HN5:=Lib.hid ht.len
  clear hbb f1 eb ht
  go_upto_region 4 with (go_at_call 40;refine LA.out.mono ?_;rintro e w2 ⟨A2,c2,os,rfl,o2,a2,f2⟩)
  have SE:=Lib.hid (srtEn_any w1 w2 A2 c2 os.length os rfl o2 (by have:=a2.1;have:=HLN.out;have:=HN5.out;omega))
  have O2:=Lib.hid o2
  have A2':=Lib.hid a2
  have F2:=Lib.hid f2
  clear o2 a2 f2
  go_wp2_with (go_at_call 41;refine SE.out.mono ?_;rintro e w3 ⟨rfl,os',hp,hpw,o3,f3⟩)
  go_ret
  have a3:=A2'.out.map fun r x k=>k.frH f3 (NoH.ownEn O2.out)
  obtain ⟨ys,hy,ay⟩:=AllO.perm hp a3
  refine ⟨A2,c2,os',ys,by rw [← hp.length_eq];rfl,own_base o3 F1.out.size,ay,⟨fun _=>⟨hy,pw_map (fun a b x y ha hb h=>?_) ay hpw⟩,fun h=>absurd HT.out h⟩,F1.out.step0 (F2.out.step f3 fun b hb=>.inl (own_lt O2.out b hb).1)⟩
  rw [ha.pn,hb.pn]
  simpa [ltOf] using h
 ·have HT:=Lib.hid ht
  clear ht
  go_wp2_with (go_at_call 28;refine NT.out.mono ?_;rintro e w1 ⟨b,rfl,f1,hbb⟩;have eb:b = false:=(by cases b with | false=>rfl | true=>exact absurd (hbb.1 rfl) HT.out);rw [eb])
  go_ret
  exact ⟨none,0,[],[],rfl,own0En _ _,AllO.nil,⟨fun h=>absurd h HT.out,fun _=>rfl⟩,f1⟩
end Go.Proofs.YthehiobacjjakaaGreatDoor
