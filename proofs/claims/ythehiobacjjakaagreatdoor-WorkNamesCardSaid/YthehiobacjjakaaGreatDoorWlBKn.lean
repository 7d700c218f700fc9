/- Plain links: what the walks of work reckon on rows in memory is what is said of plain rows. A draft in memory through its calls. -/
import Derived.Test.YthehiobacjjakaaGreatDoorWkOKn
set_option linter.unusedVariables false
set_option linter.unusedSimpArgs false
namespace Go.Proofs.YthehiobacjjakaaGreatDoor
open Go.RowKit Go.Maps Go.Sort
theorem AllO.filter {α β:Type} {R:World → α → β → Prop} {w:World} (f:α → Bool) (g:β → Bool) (hfg:∀ r x,R w r x → f r = g x):∀ {rs:List α} {xs:List β},AllO R w rs xs → AllO R w (rs.filter f) (xs.filter g)
 | [],[],_=>AllO.nil
 | [],_ :: _,h=>by have:=h.1;simp at this
 | _ :: _,[],h=>by have:=h.1;simp at this
 | r :: rs,x :: xs,h=>by
  obtain ⟨h1,h2⟩:=h.tail
  rw [List.filter_cons,List.filter_cons,hfg r x h1]
  split
  ·exact AllO.cons h1 (h2.filter f g hfg)
  ·exact h2.filter f g hfg
theorem AllO.any {α β:Type} {R:World → α → β → Prop} {w:World} (f:α → Bool) (g:β → Bool) (hfg:∀ r x,R w r x → f r = g x):∀ {rs:List α} {xs:List β},AllO R w rs xs → rs.any f = xs.any g
 | [],[],_=>rfl
 | [],_ :: _,h=>by have:=h.1;simp at this
 | _ :: _,[],h=>by have:=h.1;simp at this
 | r :: rs,x :: xs,h=>by
  obtain ⟨h1,h2⟩:=h.tail
  rw [List.any_cons,List.any_cons,hfg r x h1,h2.any f g hfg]
theorem kids_link {w:World} {rs:List RwW} {xs:List RwP} (h:AllO RwO w rs xs) (p:St):AllO RwO w (kidsM rs p) (kidsD xs p) :=
 h.filter _ _ fun r x hr=>by rw [hr.inn.parent]
theorem shown_link {w:World} {us:List RwW} {vs:List RwP} (h:AllO RwO w us vs) (i:Nat) {r:RwW} {x:RwP} (hr:RwO w r x):shownM us i r = shownD vs i x:=by
 unfold shownM shownD twiceD
 rw [(h.take i).any (fun y=>decide (y.Name = r.Name)) (fun y=>decide (y.Name = x.Name)) (fun a b hab=>by rw [hab.inn.name,hr.inn.name]),hr.inn.name,hr.inn.node]
theorem kidFrom_link {w:World} {us:List RwW} {vs:List RwP} (h:AllO RwO w us vs) (nm:List UInt8):∀ (i:Nat) {l:List RwW} {m:List RwP},AllO RwO w l m → (kidFromM us nm i l = none ∧ kidFrom vs nm i m = none) ∨ ∃ r x,kidFromM us nm i l = some r ∧ kidFrom vs nm i m = some x ∧ RwO w r x
 | i,[],[],_=>.inl ⟨rfl,rfl⟩
 | i,[],_ :: _,h=>by have:=h.1;simp at this
 | i,_ :: _,[],h=>by have:=h.1;simp at this
 | i,r :: l,x :: m,hl=>by
  obtain ⟨h1,h2⟩:=hl.tail
  unfold kidFromM kidFrom
  rw [shown_link h i h1]
  split
  ·exact .inr ⟨r,x,rfl,rfl,h1⟩
  ·exact kidFrom_link h nm (i + 1) h2
theorem kid_link {w:World} {rs:List RwW} {xs:List RwP} (h:AllO RwO w rs xs) (p:St) (nm:List UInt8):(kidM rs p nm = none ∧ kidD xs p nm = none) ∨ ∃ r x,kidM rs p nm = some r ∧ kidD xs p nm = some x ∧ RwO w r x :=
 kidFrom_link (kids_link h p) nm 0 (kids_link h p)
theorem walk_link {w:World} {rs:List RwW} {xs:List RwP} (h:AllO RwO w rs xs):∀ (l:List (List UInt8)) {a:RwW} {b:RwP},RwO w a b → RwO w (walkM rs a l).1 (walkD xs b l).1 ∧ (walkM rs a l).2 = (walkD xs b l).2
 | [],a,b,hab=>⟨hab,rfl⟩
 | nm :: l,a,b,hab=>by
  unfold walkM walkD
  rw [hab.inn.node]
  rcases kid_link h a.Node nm with ⟨e1,e2⟩ | ⟨r,x,e1,e2,h1⟩
  ·rw [e1,e2]
   exact ⟨hab,rfl⟩
  ·rw [e1,e2]
   obtain ⟨h2,h3⟩:=walk_link h l h1
   exact ⟨h2,by simp only [h3]⟩
theorem RwO.zeroW (w:World):RwO w zRwW zRwP:=⟨⟨rfl,rfl,Sl.nil _ _,by simp [zRwP],by simp [zRwW],wf_zSt,wf_zSt⟩,World.ownsRow_nil _ _ _ _⟩
theorem walk_link0 {w:World} {rs:List RwW} {xs:List RwP} (h:AllO RwO w rs xs) (l:List (List UInt8)):RwO w (walkM rs zRwW l).1 (walkD xs zRwP l).1 ∧ (walkM rs zRwW l).2 = (walkD xs zRwP l).2:=walk_link h l (RwO.zeroW w)
theorem room_link {w:World} {rs:List RwW} {D:Dft} (h:AllO RwO w rs D.rows) {d:DfW} (hd:d.next = D.next) (n:Nat):roomM rs d n = roomD D n:=by
 unfold roomM roomD
 rw [hd]
 congr 2
 have e:((List.range rs.length).any fun k=>if h:k < rs.length then decide (0 ≤ cmpS rs[k].Node D.next) else false) = rs.any fun r=>decide (0 ≤ cmpS r.Node D.next):=by
  rw [Bool.eq_iff_iff,List.any_eq_true,List.any_eq_true]
  constructor
  ·rintro ⟨k,hk,h⟩
   rw [List.mem_range] at hk
   rw [dif_pos hk] at h
   exact ⟨_,List.getElem_mem hk,h⟩
  ·rintro ⟨x,hx,h⟩
   obtain ⟨k,hk,rfl⟩:=List.getElem_of_mem hx
   exact ⟨k,List.mem_range.2 hk,by rw [dif_pos hk];exact h⟩
 rw [e]
 exact h.any _ _ fun r x hr=>by rw [hr.inn.node]
theorem find_link {w:World} {rs:List RwW} {xs:List RwP} (h:AllO RwO w rs xs) (p:List UInt8):findM rs p = if namesOk p && decide ((splitD p).length ≤ (walkD xs zRwP (splitD p)).2) then ((walkD xs zRwP (splitD p)).1.Node,true) else (zSt,false):=by
 unfold findM
 obtain ⟨h1,h2⟩:=walk_link0 h (splitD p)
 rw [h2,h1.inn.node]
theorem rowsOk_link {w:World} {rs:List RwW} {xs:List RwP} (h:AllO RwO w rs xs):RowsOk rs:=fun r hr=>by
 obtain ⟨i,hi,rfl⟩:=List.getElem_of_mem hr
 have:=(h.2 i hi (by rw [← h.1];exact hi)).inn
 exact ⟨this.wn,this.nm⟩
theorem ris_linkP {w:World} {rs:List RwW} {xs:List RwP} (h:AllO RwO w rs xs) (ht:xs.Pairwise fun a b=>cmpS a.Node b.Node < 0):RisM rs:=by
 unfold RisM
 rw [List.pairwise_iff_getElem]
 intro i j hi hj hij
 have h1:=(h.2 i hi (by rw [← h.1];exact hi)).inn.node
 have h2:=(h.2 j hj (by rw [← h.1];exact hj)).inn.node
 rw [← h1,← h2]
 exact List.pairwise_iff_getElem.1 ht i j _ _ hij
theorem heads_small {xs:List RwP} (ht:TreeOk xs):∀ x ∈ xs,x.Heads.length ≤ 2932031007402:=fun x hx=>by
 have:=((rightR_iff x).1 (ht.ok x hx)).1.2.2.2.2.1
 omega
theorem dM.nohs {w:World} {P:Nat} {d:DfW} {W:World} {rs:List RwW} (hb:codDf.bxd w P = some d) (ho:OwnC codR W w d.A d.c rs):NoHS (dM P d) w:=by
 have h1:NoHS (oneB P) w:=NoHS.blk (Cod.bxd_blk hb) (by decide) (by decide)
 have h2:=NoHS.own ho (by decide) (by decide)
 rw [ownBlock_sl'] at h2
 intro b hb2
 rcases hb2 with e | e
 ·exact h1 b e
 ·exact h2 b e
structure DwTo (W w:World) (P:Nat) (d:DfW) (D':Dft) (w':World):Prop where
 ex:∃ d' rs',Dw W w' P D' d' rs' ∧ dN w d d'
 fr:Fr (dM P d) w w'
theorem dN.refl (w:World) (d:DfW):dN w d d:=.inl rfl
theorem dN.trans {w w1:World} {d d1 d2:DfW} (h:dN w d d1) (k:dN w1 d1 d2) (f:w.heap.size ≤ w1.heap.size):dN w d d2:=by
 rcases k with k | k
 ·rcases h with h | h
  ·exact .inl (k.trans h)
  ·exact .inr fun b hb=>h b (by rw [← k];exact hb)
 ·exact .inr fun b hb=>Nat.le_trans f (k b hb)
theorem dM.trans {w w1 w2:World} {P:Nat} {d d1:DfW} (f:Fr (dM P d) w w1) (h:dN w d d1) (k:Fr (dM P d1) w1 w2):Fr (dM P d) w w2 :=
 f.trans k fun b hb hm=>by
  rcases hm with e | e
  ·exact .inl e
  ·rcases h with h | h
   ·exact .inr (by rw [← h];exact e)
   ·have:=h b e
    omega
theorem Dw.fr0 {W w w':World} {P:Nat} {D:Dft} {d:DfW} {rs:List RwW} (h:Dw W w P D d rs) (f:Fr noB w w'):Dw W w' P D d rs :=
 ⟨Cod.bxd_fr0 h.bx f,h.n,own_new0 h.own f,h.rows.map fun r x hr=>hr.fr f (NoHS.nob _),h.next,h.base⟩
def NoH (M:Nat → Prop) (w:World):Prop:=∀ b,M b → ∀ cs z,w.heap[b]? ≠ some (.cells cs 78 z)
theorem NoHS.h {M:Nat → Prop} {w:World} (h:NoHS M w):NoH M w:=fun b hb cs z=>(h b hb cs z).1
theorem NoH.blk {w:World} {g:Nat} {t:TypeId} {cs:List Value} (h:Blk w g t cs) (h1:t ≠ 78):NoH (oneB g) w:=fun b hb c z e=>by
 have e1:b = g:=hb
 subst e1
 unfold Blk at h
 rw [h] at e
 injection e with e
 injection e with _ e
 exact h1 e
theorem RwO.frH {M:Nat → Prop} {w w':World} {r:RwW} {x:RwP} (h:RwO w r x) (f:Fr M w w') (hM:NoH M w):RwO w' r x:=by
 have ho:=own_hs h.own f hM
 exact ⟨h.inn.own_ ho,ho⟩
theorem Dw.frM {W w w':World} {P:Nat} {D:Dft} {d:DfW} {rs:List RwW} {M:Nat → Prop} (h:Dw W w P D d rs) (f:Fr M w w') (h1:¬ M P) (h2:∀ b,d.A.map (·.block) = some b → ¬ M b) (h3:NoH M w):Dw W w' P D d rs :=
 ⟨Cod.bxd_fr h.bx f h1,h.n,own_fr h.own f (fun g hg=>h2 g (by rw [ownBlock_sl'] at hg;exact hg)),h.rows.map fun r x hr=>hr.frH f h3,h.next,h.base⟩
theorem DwTo.old {W w w':World} {P:Nat} {D D':Dft} {d:DfW} {rs:List RwW} (h:Dw W w P D d rs) (k:DwTo W w P d D' w') (f:Fr noB W w):Fr noB W w' :=
 f.step k.fr fun b hb=>by
  rcases hb with e | e
  ·exact .inl (by rw [e];exact h.base)
  ·exact .inl (own_lt h.own b e).1
theorem DwTo.of0 {W w w':World} {P:Nat} {D:Dft} {d:DfW} {rs:List RwW} (h:Dw W w P D d rs) (f:Fr noB w w'):DwTo W w P d D w':=⟨⟨d,rs,h.fr0 f,dN.refl w d⟩,wk0 f⟩
structure PcTo (W w:World) (P:Nat) (d:DfW) (D':Dft) (e:Ending) (w':World):Prop where
 ret:e = .returned (.tuple #[])
 tw:DwTo W w P d D' w'
theorem put_call {W w:World} {P:Nat} {D:Dft} {d:DfW} {rs:List RwW} (h:Dw W w P D d rs) (hW:W.heap.size ≤ w.heap.size) (hp:D.rows.Pairwise fun a b=>cmpS a.Node b.Node < 0) (hb:D.rows.length ≤ 100000) {r:RwW} {x:RwP} (hr:RwO w r x)
  (hq:(∃ y ∈ D.rows,y.Node = x.Node) ∨ ∀ y ∈ D.rows,cmpS y.Node x.Node < 0):Calls Tryz.prog 57 #[.pointer (some ⟨P,0,none⟩),.agg (codR.A r)] w (PcTo W w P d ⟨putR D.rows x,D.next⟩):=by
 have hq':(∃ y ∈ rs,y.Node = r.Node) ∨ ∀ y ∈ rs,cmpS y.Node r.Node < 0:=by
  have hl:=h.rows.1
  rcases hq with ⟨y,hy,e⟩ | hq
  ·obtain ⟨i,hi,rfl⟩:=List.getElem_of_mem hy
   have h1:=(h.rows.2 i (by omega) hi).inn.node
   exact .inl ⟨rs[i]'(by omega),List.getElem_mem _,by rw [← h1,e,hr.inn.node]⟩
  ·refine .inr fun y hy=>?_
   obtain ⟨i,hi,rfl⟩:=List.getElem_of_mem hy
   have h1:=(h.rows.2 i hi (by omega)).inn.node
   rw [← h1,← hr.inn.node]
   exact hq _ (List.getElem_mem _)
 refine (put_any' W w P d h.bx rs h.n h.own hW (by have:=h.rows.1;omega) (ris_linkP h.rows hp) r hq').mono fun e w' k=>?_
 obtain ⟨d',h1,h2,h3,h4,h5⟩:=k.ex
 have hn:=dM.nohs h.bx h.own
 exact ⟨k.ret,⟨d',_,⟨h1,h4,h3,(RwsO_.put h.rows hr).map (fun r x hx=>hx.fr k.fr hn),h2.trans h.next,h.base⟩,h5⟩,k.fr⟩
structure TcTo (W w:World) (P:Nat) (D:Dft) (d:DfW) (rs:List RwW) (e:Ending) (w':World):Prop where
 ret:e = .returned (.agg (codS.A D.next))
 tw:Dw W w' P ⟨D.rows,tickD D.next 1⟩ { d with next:=tickW d.next } rs
 fr:Fr (oneB P) w w'
theorem take_call {W w:World} {P:Nat} {D:Dft} {d:DfW} {rs:List RwW} (h:Dw W w P D d rs) (hb : -9223372036854775808 ≤ D.next.T ∧ D.next.T < 9223372036854775807):Calls Tryz.prog 56 #[.pointer (some ⟨P,0,none⟩)] w (TcTo W w P D d rs) :=
 (wtake_any w P d h.bx (by rw [h.next];exact hb)).mono fun e w' k=>by
  have hn:NoHS (oneB P) w:=NoHS.blk (Cod.bxd_blk h.bx) (by decide) (by decide)
  refine ⟨by rw [← h.next];exact k.ret,⟨k.bx,h.n,own_fr h.own k.fr (fun g hg e=>?_),h.rows.map fun r x hr=>hr.fr k.fr hn,?_,h.base⟩,k.fr⟩
  ·rw [ownBlock_sl'] at hg
   obtain ⟨_,cur,z,h1⟩:=own_blkW h.own hg
   have h2:=Cod.bxd_blk h.bx
   have e:g = P:=e
   unfold Blk at h2
   rw [← e,h1] at h2
   injection h2 with h2
   injection h2 with _ h2
   exact absurd h2 (by decide)
  ·show tickW d.next = tickD D.next 1
   rw [h.next]
   rfl
theorem dM.one (P:Nat) (d:DfW) {w w':World} (f:Fr (oneB P) w w'):Fr (dM P d) w w':=f.mono fun b hb=>.inl hb
theorem room_call {W w:World} {P:Nat} {D:Dft} {d:DfW} {rs:List RwW} (h:Dw W w P D d rs) (hb:D.rows.length ≤ 100000) (hw:wfS D.next = true) (n:Nat) (hn:n ≤ 1000000):Calls Tryz.prog 55 #[.pointer (some ⟨P,0,none⟩),.int .i64 (n:Int)] w (Gives w (.bool (roomD D n))):=by
 have:=room_any w P d h.bx rs h.n (Sl.own h.own) (by have:=h.rows.1;omega) (by rw [h.next];exact hw) n hn
 rw [room_link h.rows h.next] at this
 exact this
theorem walk_call {W w:World} {P:Nat} {D:Dft} {d:DfW} {rs:List RwW} (h:Dw W w P D d rs) (hb:D.rows.length ≤ 100000) (hT:HasT w) (A:Option Addr) (c n:Nat) (l:List (List UInt8)) (hl:l.length = n) (hsl:Sl w A (nmsV l)) (hlb:l.length ≤ 100000000000000) :
  Calls Tryz.prog 39 #[.pointer (some ⟨P,0,none⟩),.slice A n c] w (fun e w'=>∃ r,e = .returned (.tuple #[.agg (codR.A r),.int .i64 ((walkD D.rows zRwP l).2:Int)]) ∧ RwO w' r (walkD D.rows zRwP l).1 ∧ Fr noB w w') :=
 (walk_any w P d h.bx rs h.n (Sl.own h.own) (by have:=h.rows.1;omega) (rowsOk_link h.rows) hT A c n l hl hsl hlb).mono fun e w' ⟨h1,f⟩=>by
  obtain ⟨h2,h3⟩:=walk_link0 h.rows l
  exact ⟨(walkM rs zRwW l).1,by rw [← h3];exact h1,h2.fr f (NoHS.nob _),f⟩
theorem kid_call {W w:World} {P:Nat} {D:Dft} {d:DfW} {rs:List RwW} (h:Dw W w P D d rs) (hb:D.rows.length ≤ 100000) (hT:HasT w) (p:St) (nm:List UInt8) :
  Calls Tryz.prog 58 #[.pointer (some ⟨P,0,none⟩),.agg (codS.A p),.string (str nm)] w (fun e w'=>∃ r,e = .returned (.tuple #[.agg (codR.A r),.bool (kidD D.rows p nm).isSome]) ∧ Fr noB w w') :=
 (kid_any w P d h.bx rs h.n (Sl.own h.own) (by have:=h.rows.1;omega) (rowsOk_link h.rows) hT p nm).mono fun e w' ⟨h1,f⟩=>by
  refine ⟨(kidM rs p nm).getD zRwW,?_,f⟩
  rcases kid_link h.rows p nm with ⟨e1,e2⟩ | ⟨r,x,e1,e2,_⟩ <;> rw [e1] at h1 ⊢ <;> rw [e2] <;> exact h1
end Go.Proofs.YthehiobacjjakaaGreatDoor
