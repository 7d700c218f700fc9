/- Plain: the reference's list is the list of work (WorkLists). -/
import Derived.Test.YthehiobacjjakaaGreatDoorRfQKp
import Derived.Test.YthehiobacjjakaaGreatDoorSmVKp
import Derived.Test.YthehiobacjjakaaGreatDoorClkPKp
set_option linter.unusedVariables false
set_option linter.unusedSimpArgs false
namespace Go.Proofs.YthehiobacjjakaaGreatDoor
open Go.RowKit
theorem ways_snoc {xs:List RwP} (h:TreeOk xs) {x y:RwP} {i:Nat} (hi:i < (kidsD xs y.Node).length) (hx:(kidsD xs y.Node)[i] = x):∀ {k:Nat} {p:St} {l:List (List UInt8)},(l,y) ∈ waysD xs k p → (l ++ [shownD (kidsD xs y.Node) i x],x) ∈ waysD xs (k + 1) p:=by
 intro k
 induction k with
 | zero=>intro p l hl;cases hl
 | succ k ih =>
  intro p l hl
  obtain ⟨j,hj,h1 | ⟨l',h1,h2⟩⟩:=ways_mem.1 hl
  ·obtain ⟨rfl,hy⟩:=h1
   refine ways_mem.2 ⟨j,hj,.inr ⟨_,rfl,?_⟩⟩
   refine ways_mem.2 ⟨i,by rw [← hy];exact hi,.inl ⟨?_,?_⟩⟩
   ·simp only [← hy,hx];rfl
   ·simp only [← hy,hx]
  ·subst h1
   exact ways_mem.2 ⟨j,hj,.inr ⟨_,rfl,ih h2⟩⟩
theorem joinD_snoc:∀ {l:List (List UInt8)} (x:List UInt8),l ≠ [] → joinD (l ++ [x]) = joinD l ++ 47 :: x
 | [],x,h=>absurd rfl h
 | [a],x,_=>rfl
 | a :: b :: l,x,_=>by
  show joinD (a :: (b :: l ++ [x])) = _
  rw [joinD_cons a (by simp),joinD_snoc x (by simp),joinD_cons a (by simp)]
  simp
theorem way_short {xs:List RwP} (h:TreeOk xs) {k:Nat} {l:List (List UInt8)} {x:RwP} (hl:(l,x) ∈ waysD xs k zSt):(joinD l).length ≤ 755000:=by
 have h2:=joinD_len l (ways_150 (fun r hr=>⟨((rightR_iff r).1 (h.ok r hr)).1.2.2.2.1,rightS_wf (rightR_node (h.ok r hr))⟩) hl)
 have h3:=lev_le (ways_lev h (lev_fixed (by decide:fixedS zSt = true)) hl)
 have h4:=h.len
 omega
theorem lies_way {xs:List RwP} (h:TreeOk xs):∀ (k:Nat) (x:RwP),x ∈ xs → liesN xs k x.Node zSt = true → ∃ l,(l,x) ∈ waysD xs k zSt ∧ PathOf xs x (joinD l)
 | 0,x,_,hl=>by cases hl
 | k + 1,x,hx,hl=>by
  have hf:=h.find hx
  unfold liesN at hl
  rw [hf] at hl
  simp only [Bool.or_eq_true,decide_eq_true_eq] at hl
  obtain ⟨i,hi,ei⟩:=kid_idx hx rfl
  have hs:=shownR_eq h hi
  by_cases hz:x.Parent = zSt
  ·refine ⟨[shownD (kidsD xs x.Parent) i x],?_,?_⟩
   ·have hw:∀ q,q = x.Parent → ([shownD (kidsD xs x.Parent) i x],x) ∈ waysD xs (k + 1) q:=by
     rintro q rfl
     exact ways_mem.2 ⟨i,hi,.inl ⟨by rw [ei],ei.symm⟩⟩
    exact hw zSt hz.symm
   ·show PathOf xs x (shownD (kidsD xs x.Parent) i x)
    rw [ei] at hs
    rw [← hs]
    exact .root hx hz
  ·have hl:=hl.resolve_left hz
   cases hy:findR xs x.Parent with
   | none =>
    cases k with
    | zero=>cases hl
    | succ k =>
     unfold liesN at hl
     rw [hy] at hl
     cases hl
   | some y =>
    obtain ⟨hym,hyn⟩:=findR_some hy
    rw [← hyn] at hl
    obtain ⟨l,h1,h2⟩:=lies_way h k y hym hl
    have hi':i < (kidsD xs y.Node).length:=by rw [hyn];exact hi
    have ei':(kidsD xs y.Node)[i] = x:=by simp only [hyn];exact ei
    have hw:=ways_snoc h hi' ei' h1
    have hne:=(ways_ne h1).1
    have hs':shownR xs x = shownD (kidsD xs y.Node) i x:=by rw [hyn];rw [ei] at hs;exact hs
    refine ⟨_,hw,?_⟩
    have hlen:=way_short h hw
    rw [joinD_snoc _ hne,← hs'] at hlen ⊢
    exact .kid hx hz hy h2 (by omega)
theorem lies_up1 {xs:List RwP} {q:RwP} {p:St} (hq:findR xs q.Node = some q) (hp:q.Parent = p):∀ (n:Nat) (s:St),liesN xs n s q.Node = true → liesN xs (n + 1) s p = true
 | 0,s,h=>by cases h
 | n + 1,s,h=>by
  unfold liesN at h ⊢
  cases hf:findR xs s with
  | none=>rw [hf] at h;cases h
  | some r =>
   rw [hf] at h
   simp only [Bool.or_eq_true,decide_eq_true_eq] at h ⊢
   rcases h with h | h
   ·right
    unfold liesN
    rw [h,hq]
    simp [hp]
   ·exact .inr (lies_up1 hq hp n _ h)
theorem lies_more {xs:List RwP} {p:St}:∀ (k:Nat) (s:St),liesN xs k s p = true → liesN xs (k + 1) s p = true
 | 0,s,h=>by cases h
 | k + 1,s,h=>by
  unfold liesN at h ⊢
  cases hf:findR xs s with
  | none=>rw [hf] at h;cases h
  | some r =>
   rw [hf] at h
   simp only [Bool.or_eq_true,decide_eq_true_eq] at h ⊢
   rcases h with h | h
   ·exact .inl h
   ·exact .inr (lies_more k _ h)
theorem lies_le {xs:List RwP} {p s:St} {k:Nat} (h:liesN xs k s p = true):∀ d,liesN xs (k + d) s p = true
 | 0=>h
 | d + 1=>lies_more _ _ (lies_le h d)
theorem way_lies {xs:List RwP} (h:TreeOk xs) {k:Nat}:∀ {p:St} {l:List (List UInt8)} {x:RwP},(l,x) ∈ waysD xs k p → liesN xs l.length x.Node p = true:=by
 induction k with
 | zero=>intro p l x hl;cases hl
 | succ k ih =>
  intro p l x hl
  obtain ⟨j,hj,h1 | ⟨l',h1,h2⟩⟩:=ways_mem.1 hl
  ·obtain ⟨rfl,rfl⟩:=h1
   show liesN xs 1 _ _ = true
   unfold liesN
   rw [h.find (kids_in hj).1]
   simp [(kids_in hj).2]
  ·subst h1
   have:=ih h2
   exact lies_up1 (h.find (kids_in hj).1) (kids_in hj).2 _ _ this
theorem way_liesR {xs:List RwP} (h:TreeOk xs) {k:Nat} {l:List (List UInt8)} {x:RwP} (hl:(l,x) ∈ waysD xs k zSt):liesR xs x.Node zSt = true:=by
 have h3:=lev_le (ways_lev h (lev_fixed (by decide:fixedS zSt = true)) hl)
 have:=lies_le (way_lies h hl) (xs.length - l.length)
 rw [show l.length + (xs.length - l.length) = xs.length by omega] at this
 exact this
open Classical in
noncomputable def ptD (xs:List RwP) (x:RwP):List UInt8:=if h:∃ l,(l,x) ∈ waysD xs xs.length zSt ∧ PathOf xs x (joinD l) then joinD h.choose else []
theorem ptD_spec {xs:List RwP} (h:TreeOk xs) {x:RwP} (hx:x ∈ xs) (hl:liesR xs x.Node zSt = true):PathOf xs x (ptD xs x) ∧ ∃ l,(l,x) ∈ waysD xs xs.length zSt ∧ ptD xs x = joinD l:=by
 have he:=lies_way h xs.length x hx hl
 unfold ptD
 rw [dif_pos he]
 exact ⟨he.choose_spec.2,_,he.choose_spec.1,rfl⟩
theorem ways_one {xs:List RwP} (h:TreeOk xs) {k:Nat} {l m:List (List UInt8)} {x:RwP} (h1:(l,x) ∈ waysD xs k zSt) (h2:(m,x) ∈ waysD xs k zSt):l = m:=by
 have nd:=ways_nodes h k zSt 0 (lev_fixed (by decide:fixedS zSt = true))
 rw [List.Nodup,List.pairwise_map] at nd
 obtain ⟨i,hi,ei⟩:=List.getElem_of_mem h1
 obtain ⟨j,hj,ej⟩:=List.getElem_of_mem h2
 rcases Nat.lt_trichotomy i j with hij | hij | hij
 ·have:=List.pairwise_iff_getElem.1 nd i j hi hj hij
  rw [ei,ej] at this
  exact absurd rfl this
 ·subst hij
  rw [ei] at ej
  injection ej
 ·have:=List.pairwise_iff_getElem.1 nd j i hj hi hij
  rw [ei,ej] at this
  exact absurd rfl this
def ltE (a b:EnP):Prop:=Op.bytesLess a.Path b.Path = true
theorem ltE_uniq:∀ (l m:List EnP),l.Pairwise ltE → m.Pairwise ltE → (∀ x,x ∈ l ↔ x ∈ m) → l = m
 | [],[],_,_,_=>rfl
 | [],y :: m,_,_,h=>by have:=(h y).2 (by simp);simp at this
 | x :: l,[],_,_,h=>by have:=(h x).1 (by simp);simp at this
 | x :: l,y :: m,hl,hm,h=>by
  rw [List.pairwise_cons] at hl hm
  have asym:∀ {a b:EnP},ltE a b → ltE b a → False:=fun {a b} h1 h2=>by
   have:=less_trans h1 h2
   rw [less_self] at this
   cases this
  have e:x = y:=by
   rcases List.mem_cons.1 ((h x).1 (by simp)) with e | hx
   ·exact e
   ·rcases List.mem_cons.1 ((h y).2 (by simp)) with e | hy
    ·exact e.symm
    ·exact (asym (hl.1 y hy) (hm.1 x hx)).elim
  subst e
  congr 1
  refine ltE_uniq l m hl.2 hm.2 fun z=>?_
  constructor
  ·intro hz
   rcases List.mem_cons.1 ((h z).1 (by simp [hz])) with e | hz'
   ·subst e
    exact (asym (hl.1 _ hz) (hl.1 _ hz)).elim
   ·exact hz'
  ·intro hz
   rcases List.mem_cons.1 ((h z).2 (by simp [hz])) with e | hz'
   ·subst e
    exact (asym (hm.1 _ hz) (hm.1 _ hz)).elim
   ·exact hz'
theorem insB_mem (x:EnP):∀ (l:List EnP) (y:EnP),y ∈ insB EnP.Path x l ↔ y = x ∨ y ∈ l
 | [],y=>by simp [insB]
 | z :: l,y=>by
  unfold insB
  split
  ·simp
  ·rw [List.mem_cons,insB_mem x l y,List.mem_cons]
   constructor
   ·rintro (h | h | h)
    ·exact .inr (.inl h)
    ·exact .inl h
    ·exact .inr (.inr h)
   ·rintro (h | h | h)
    ·exact .inr (.inl h)
    ·exact .inl h
    ·exact .inr (.inr h)
theorem insB_up (x:EnP):∀ (l:List EnP),l.Pairwise ltE → (∀ y ∈ l,y.Path ≠ x.Path) → (insB EnP.Path x l).Pairwise ltE
 | [],_,_=>by simp [insB]
 | z :: l,h,hn=>by
  rw [List.pairwise_cons] at h
  unfold insB
  split
  ·rename_i hl
   rw [List.pairwise_cons]
   refine ⟨fun y hy=>?_,List.pairwise_cons.2 h⟩
   rcases List.mem_cons.1 hy with rfl | hy
   ·exact hl
   ·exact less_trans hl (h.1 y hy)
  ·rename_i hl
   rw [List.pairwise_cons]
   refine ⟨fun y hy=>?_,insB_up x l h.2 (fun y hy=>hn y (by simp [hy]))⟩
   rcases (insB_mem x l y).1 hy with rfl | hy
   ·show Op.bytesLess z.Path y.Path = true
    cases hb:Op.bytesLess z.Path y.Path with
    | true=>rfl
    | false=>exact absurd (less_tri hb (by simpa using hl)) (hn z (by simp))
   ·exact h.1 y hy
theorem refL_spec {all:List RwP} {pt:RwP → List UInt8}:∀ (n:Nat) (xs:List RwP),xs.length = n → (∀ i j (hi:i < xs.length) (hj:j < xs.length),i ≠ j → liesR all xs[i].Node zSt = true → liesR all xs[j].Node zSt = true → pt xs[i] ≠ pt xs[j]) →
  (refL all pt xs).Pairwise ltE ∧ ∀ y,y ∈ refL all pt xs ↔ ∃ x ∈ xs,liesR all x.Node zSt = true ∧ y = ⟨pt x,x.Node,x.Heads⟩
 | 0,xs,hn,_=>by
  obtain rfl:=List.eq_nil_of_length_eq_zero hn
  simp [refL]
 | n + 1,xs,hn,hu=>by
  obtain ⟨l,x,rfl⟩:∃ l x,xs = l ++ [x]:=⟨xs.dropLast,xs.getLast (by rintro rfl;simp at hn),(List.dropLast_concat_getLast _).symm⟩
  have hnl:l.length = n:=by simpa using hn
  have ih:=refL_spec (all:=all) (pt:=pt) n l hnl (fun i j hi hj hij h1 h2=>by
   have:=hu i j (by simp;omega) (by simp;omega) hij
   rw [List.getElem_append_left hi,List.getElem_append_left hj] at this
   exact this h1 h2)
  rw [refL_snoc]
  split
  ·rename_i hlx
   refine ⟨insB_up _ _ ih.1 (fun y hy=>?_),fun y=>?_⟩
   ·obtain ⟨z,hz,hlz,rfl⟩:=(ih.2 y).1 hy
    obtain ⟨i,hi,rfl⟩:=List.getElem_of_mem hz
    have:=hu i l.length (by simp;omega) (by simp) (by omega)
    rw [List.getElem_append_left hi,List.getElem_concat_length rfl] at this
    exact this hlz hlx
   ·rw [insB_mem,ih.2]
    constructor
    ·rintro (rfl | ⟨z,hz,h1,h2⟩)
     ·exact ⟨x,by simp,hlx,rfl⟩
     ·exact ⟨z,by simp [hz],h1,h2⟩
    ·rintro ⟨z,hz,h1,h2⟩
     rcases List.mem_append.1 hz with hz | hz
     ·exact .inr ⟨z,hz,h1,h2⟩
     ·rw [List.mem_singleton] at hz
      subst hz
      exact .inl h2
  ·rename_i hlx
   refine ⟨ih.1,fun y=>?_⟩
   rw [ih.2]
   constructor
   ·rintro ⟨z,hz,h1,h2⟩
    exact ⟨z,by simp [hz],h1,h2⟩
   ·rintro ⟨z,hz,h1,h2⟩
    rcases List.mem_append.1 hz with hz | hz
    ·exact ⟨z,hz,h1,h2⟩
    ·rw [List.mem_singleton] at hz
     subst hz
     exact absurd h1 hlx
theorem refL_eq {xs:List RwP} (h:TreeOk xs) {ys:List EnP} (hy:LiP xs ys):refL xs (ptD xs) xs = ys:=by
 have hu:∀ i j (hi:i < xs.length) (hj:j < xs.length),i ≠ j → liesR xs xs[i].Node zSt = true → liesR xs xs[j].Node zSt = true → ptD xs xs[i] ≠ ptD xs xs[j]:=fun i j hi hj hij h1 h2 e=>by
  obtain ⟨_,l,hl,e1⟩:=ptD_spec h (List.getElem_mem hi) h1
  obtain ⟨_,m,hm,e2⟩:=ptD_spec h (List.getElem_mem hj) h2
  rw [e1,e2] at e
  have s1:=ways_path h hl
  have s2:=ways_path h hm
  rw [← e] at s2
  have e3:=s1.2.symm.trans s2.2
  injection e3 with e3 _
  have nd:=riseR_pw h.rise
  rcases Nat.lt_or_gt_of_ne hij with hlt | hlt
  ·have:=List.pairwise_iff_getElem.1 nd i j hi hj hlt
   rw [e3,cmpS_self] at this
   omega
  ·have:=List.pairwise_iff_getElem.1 nd j i hj hi hlt
   rw [e3,cmpS_self] at this
   omega
 obtain ⟨h1,h2⟩:=refL_spec (all:=xs) (pt:=ptD xs) xs.length xs rfl hu
 refine ltE_uniq _ _ h1 (hy.rise h) fun y=>?_
 rw [h2]
 constructor
 ·rintro ⟨x,hx,hl,rfl⟩
  obtain ⟨_,l,hlw,e1⟩:=ptD_spec h hx hl
  have hp:=(hy.tree h).1
  refine hp.symm.subset ?_
  unfold listF
  exact List.mem_map.2 ⟨(l,x),hlw,by simp [entD,e1]⟩
 ·intro hm
  obtain ⟨l,x,hlw,rfl⟩:=hy.way h hm
  have hx:=(ways_ne hlw).2
  have hl:=way_liesR h hlw
  obtain ⟨_,m,hmw,e1⟩:=ptD_spec h hx hl
  refine ⟨x,hx,hl,?_⟩
  rw [e1,ways_one h hlw hmw]
end Go.Proofs.YthehiobacjjakaaGreatDoor
