/- Plain: commits and their parents. Plain: ancestors. Plain: what is a base of two. -/
import Derived.Test.YtjpieiccpbcabaaGreatShaCmpK
namespace Go.Proofs.YtjpieiccpbcabaaGreat

abbrev Dg:=List (ID × List ID)
def parents:Dg → ID → Option (List ID)
 | [],_=>none
 | (y,ps) :: g,x=>if x = y then some ps else parents g x
def hasG (g:Dg) (x:ID):Bool:=(parents g x).isSome
def upD (g:ID → Nat) (ps:List ID):Nat:=ps.foldl (fun d p=>max d (g p + 1)) 1
def depthG:Dg → ID → Nat
 | [],_=>0
 | (y,ps) :: g,x=>if x = y then upD (depthG g) ps else depthG g x
def ancG:Dg → ID → ID → Bool
 | [],_,_=>false
 | (z,ps) :: g,x,y=>if x = z then decide (y = z) || ps.any (fun p=>ancG g p y) else ancG g x y
def asc:List ID → Bool
 | x :: y :: l=>decide (cmpI x y < 0) && asc (y :: l)
 | _=>true
def rightL (x:ID) (ps:List ID):Bool:=asc ps && decide (x ≠ zID) && decide (ps.length ≤ 2)
def okG:Dg → Prop
 | []=>True
 | (y,ps) :: g=>rightL y ps = true ∧ hasG g y = false ∧ (∀ p ∈ ps,hasG g p = true) ∧ okG g
def addG (g:Dg) (x:ID) (ps:List ID):Nat × Dg :=
 if rightL x ps then
  match parents g x with
  | some q=>if q = ps then (0,g) else (5,g)
  | none=>if ps.all (hasG g) then (0,(x,ps) :: g) else (110,g)
 else (1,g)

theorem hasG_mem (g:Dg) (x:ID):hasG g x = true ↔ x ∈ g.map (·.1):=by
 induction g with
 | nil=>simp [hasG,parents]
 | cons p g ih =>
  unfold hasG at ih ⊢
  by_cases h:x = p.1
  ·simp [parents,h]
  ·simp [parents,h,ih]
theorem okG_par {g:Dg} (h:okG g) {x:ID} {ps:List ID} (hp:parents g x = some ps):(∀ p ∈ ps,hasG g p = true) ∧ ps.length ≤ 2 ∧ asc ps = true:=by
 induction g with
 | nil=>cases hp
 | cons q g ih =>
  obtain ⟨h1,h2,h3,h4⟩:=h
  have up:∀ p,hasG g p = true → hasG (q :: g) p = true:=fun p hq=>by
   rw [hasG_mem] at hq ⊢;exact List.mem_cons_of_mem _ hq
  unfold parents at hp
  split at hp
  ·injection hp with hp
   subst hp
   simp only [rightL,Bool.and_eq_true,decide_eq_true_eq] at h1
   exact ⟨fun p hq=>up p (h3 p hq),h1.2,h1.1.1⟩
  ·obtain ⟨a,b⟩:=ih h4 hp
   exact ⟨fun p hq=>up p (a p hq),b⟩
theorem upD_le (f:ID → Nat) (n:Nat) (hf:∀ p,f p ≤ n) (ps:List ID):upD f ps ≤ n + 1:=by
 unfold upD
 have:∀ (l:List ID) (d:Nat),d ≤ n + 1 → l.foldl (fun d p=>max d (f p + 1)) d ≤ n + 1:=by
  intro l
  induction l with
  | nil=>intro d h;exact h
  | cons p l ih=>intro d h;exact ih (max d (f p + 1)) (Nat.max_le.2 ⟨h,by have:=hf p;omega⟩)
 exact this ps 1 (by omega)
theorem depthG_le (g:Dg) (x:ID):depthG g x ≤ g.length:=by
 induction g generalizing x with
 | nil=>simp [depthG]
 | cons q g ih =>
  unfold depthG
  split
  ·exact upD_le _ _ ih _
  ·exact Nat.le_trans (ih x) (by simp)
theorem depth_none {g:Dg} {x:ID} (h:parents g x = none):depthG g x = 0:=by
 induction g with
 | nil=>rfl
 | cons q g ih =>
  unfold parents at h
  unfold depthG
  split at h
  ·cases h
  ·rename_i hx;rw [if_neg hx];exact ih h
theorem okG_add {g:Dg} (h:okG g) (x:ID) (ps:List ID):okG (addG g x ps).2:=by
 unfold addG
 split
 ·rename_i hr
  split
  ·split <;> exact h
  ·rename_i hn
   split
   ·rename_i ha
    refine ⟨hr,by simp [hasG,hn],fun p hp=>?_,h⟩
    exact List.all_eq_true.1 ha p hp
   ·exact h
 ·exact h
end Go.Proofs.YtjpieiccpbcabaaGreat
namespace Go.Proofs.YtjpieiccpbcabaaGreat

theorem hasG_cons (z:ID) (ps:List ID) (g:Dg) (x:ID):hasG ((z,ps) :: g) x = (decide (x = z) || hasG g x):=by
 unfold hasG
 by_cases h:x = z <;> simp [parents,h]
theorem anc_refl {g:Dg} {x:ID} (h:hasG g x = true):ancG g x x = true:=by
 induction g with
 | nil=>cases h
 | cons q g ih =>
  obtain ⟨z,ps⟩:=q
  rw [hasG_cons] at h
  unfold ancG
  by_cases e:x = z
  ·simp [e]
  ·simp only [e,if_false]
   exact ih (by simpa [e] using h)
theorem anc_has {g:Dg} (hk:okG g) {x y:ID} (h:ancG g x y = true):hasG g x = true ∧ hasG g y = true:=by
 induction g generalizing x with
 | nil=>cases h
 | cons q g ih =>
  obtain ⟨z,ps⟩:=q
  obtain ⟨h1,h2,h3,h4⟩:=hk
  rw [hasG_cons,hasG_cons]
  unfold ancG at h
  by_cases e:x = z
  ·simp only [e,if_true,Bool.or_eq_true,decide_eq_true_eq,List.any_eq_true] at h
   rcases h with h | ⟨p,_,hp⟩
   ·simp [e,h]
   ·simp [e,(ih h4 hp).2]
  ·simp only [e,if_false] at h
   simp [(ih h4 h).1,(ih h4 h).2]
theorem anc_step {g:Dg} (hk:okG g) {x y p:ID} {ps:List ID} (h:ancG g x y = true) (hp:parents g y = some ps) (hm:p ∈ ps):ancG g x p = true:=by
 induction g generalizing x with
 | nil=>cases h
 | cons q g ih =>
  obtain ⟨z,qs⟩:=q
  obtain ⟨h1,h2,h3,h4⟩:=hk
  have old:∀ u,ancG g u y = true → parents g y = some ps:=by
   intro u hu
   have hy:=(anc_has h4 hu).2
   have hyz:y ≠ z:=by rintro rfl;rw [hy] at h2;cases h2
   unfold parents at hp
   rwa [if_neg hyz] at hp
  unfold ancG at h ⊢
  by_cases e:x = z
  ·simp only [e,if_true,Bool.or_eq_true,decide_eq_true_eq,List.any_eq_true] at h ⊢
   rcases h with h | ⟨u,hu,hup⟩
   ·unfold parents at hp
    rw [if_pos h] at hp
    injection hp with hp
    subst hp
    exact .inr ⟨p,hm,anc_refl (h3 p hm)⟩
   ·exact .inr ⟨u,hu,ih h4 hup (old u hup)⟩
  ·simp only [e,if_false] at h ⊢
   exact ih h4 h (old x h)
theorem anc_closed {g:Dg} (hk:okG g) (S:ID → Prop) (hS:∀ y ps,S y → parents g y = some ps → ∀ p ∈ ps,S p) {x y:ID} (hx:S x) (h:ancG g x y = true):S y:=by
 induction g generalizing x with
 | nil=>cases h
 | cons q g ih =>
  obtain ⟨z,qs⟩:=q
  obtain ⟨h1,h2,h3,h4⟩:=hk
  have hS':∀ y ps,S y → parents g y = some ps → ∀ p ∈ ps,S p:=by
   intro y ps hy hps
   refine hS y ps hy ?_
   unfold parents
   have hyz:y ≠ z:=by
    rintro rfl
    have:hasG g y = true:=by simp [hasG,hps]
    rw [this] at h2;cases h2
   rw [if_neg hyz];exact hps
  unfold ancG at h
  by_cases e:x = z
  ·simp only [e,if_true,Bool.or_eq_true,decide_eq_true_eq,List.any_eq_true] at h
   rcases h with h | ⟨u,hu,hup⟩
   ·rw [h,← e];exact hx
   ·refine ih h4 hS' ?_ hup
    refine hS x qs hx ?_ u hu
    unfold parents;rw [if_pos e]
  ·simp only [e,if_false] at h
   exact ih h4 hS' hx h
theorem anc_trans {g:Dg} (hk:okG g) {x y z:ID} (h:ancG g x y = true) (h2:ancG g y z = true):ancG g x z = true :=
 anc_closed hk (fun u=>ancG g x u = true) (fun _ _ hy hp _ hm=>anc_step hk hy hp hm) h h2
theorem upD_gt (f:ID → Nat) (ps:List ID) (p:ID) (h:p ∈ ps):f p < upD f ps:=by
 unfold upD
 have mono:∀ (l:List ID) (d:Nat),d ≤ l.foldl (fun d p=>max d (f p + 1)) d:=by
  intro l
  induction l with
  | nil=>intro d;exact Nat.le_refl _
  | cons q l ih=>intro d;exact Nat.le_trans (Nat.le_max_left _ _) (ih _)
 have:∀ (l:List ID) (d:Nat),p ∈ l → f p < l.foldl (fun d p=>max d (f p + 1)) d:=by
  intro l
  induction l with
  | nil=>intro d h;cases h
  | cons q l ih =>
   intro d h
   rcases List.mem_cons.1 h with rfl | h
   ·rw [List.foldl_cons];exact Nat.lt_of_lt_of_le (Nat.lt_succ_self _) (Nat.le_trans (Nat.le_max_right _ _) (mono _ _))
   ·exact ih _ h
 exact this ps 1 h
theorem upD_congr (f f':ID → Nat) (ps:List ID) (h:∀ p ∈ ps,f p = f' p):upD f ps = upD f' ps:=by
 unfold upD
 have:∀ (l:List ID) (d:Nat),(∀ p ∈ l,f p = f' p) → l.foldl (fun d p=>max d (f p + 1)) d = l.foldl (fun d p=>max d (f' p + 1)) d:=by
  intro l
  induction l with
  | nil=>intro d _;rfl
  | cons q l ih =>
   intro d h
   rw [List.foldl_cons,List.foldl_cons,h q (by simp)]
   exact ih _ (fun p hp=>h p (by simp [hp]))
 exact this ps 1 h
theorem depth_par {g:Dg} (hk:okG g) {y:ID} {ps:List ID} (hp:parents g y = some ps):depthG g y = upD (depthG g) ps:=by
 induction g with
 | nil=>cases hp
 | cons q g ih =>
  obtain ⟨z,qs⟩:=q
  obtain ⟨h1,h2,h3,h4⟩:=hk
  have out:∀ ps:List ID,(∀ p ∈ ps,hasG g p = true) → upD (depthG g) ps = upD (depthG ((z,qs) :: g)) ps:=by
   intro ps hps
   refine upD_congr _ _ ps (fun p hpm=>?_)
   have hpz:p ≠ z:=by rintro rfl;rw [hps p hpm] at h2;cases h2
   conv=>rhs;unfold depthG
   rw [if_neg hpz]
  unfold parents at hp
  split at hp
  ·rename_i e
   injection hp with hp
   subst hp
   rw [← out qs h3]
   conv=>lhs;unfold depthG
   rw [if_pos e]
  ·rename_i e
   rw [← out ps (okG_par h4 hp).1,← ih h4 hp]
   conv=>lhs;unfold depthG
   rw [if_neg e]
theorem depth_lt {g:Dg} (hk:okG g) {y p:ID} {ps:List ID} (hp:parents g y = some ps) (hm:p ∈ ps):depthG g p < depthG g y:=by
 rw [depth_par hk hp];exact upD_gt _ _ _ hm
/-! the search -/
def Reached (G:Dg) (ids:List ID) (y:ID):Prop:=∃ i ∈ ids,ancG G i y = true
structure Found (G:Dg) (ids met todo:List ID):Prop where
 nd:met.Nodup
 has:∀ y ∈ met,hasG G y = true
 clo:∀ y ∈ met,∀ ps,parents G y = some ps → ∀ p ∈ ps,p ∈ met ∨ p ∈ todo
 all:∀ y ∈ ids,hasG G y = true → y ∈ met ∨ y ∈ todo
 sub:∀ y,y ∈ met ∨ y ∈ todo → hasG G y = true → Reached G ids y
 len:todo.length ≤ ids.length + 2 * met.length
theorem nd_le:∀ (l m:List ID),l.Nodup → (∀ x ∈ l,x ∈ m) → l.length ≤ m.length
 | [],_,_,_=>by simp
 | x :: l,m,nd,hs=>by
  rw [List.nodup_cons] at nd
  have hx:x ∈ m:=hs x (by simp)
  have:=nd_le l (m.erase x) nd.2 (fun y hy=>(List.mem_erase_of_ne (by rintro rfl;exact nd.1 hy)).2 (hs y (by simp [hy])))
  rw [List.length_erase_of_mem hx] at this
  have:=List.length_pos_of_mem hx
  simp only [List.length_cons]
  omega
theorem nd_len {G:Dg} {met:List ID} (nd:met.Nodup) (has:∀ y ∈ met,hasG G y = true):met.length ≤ G.length:=by
 have:=nd_le met (G.map (·.1)) nd (fun y hy=>(hasG_mem G y).1 (has y hy))
 simpa using this
theorem Found.start (G:Dg) (ids:List ID):Found G ids [] ids :=
 ⟨by simp,by simp,by simp,fun y hy _=>.inr hy,fun y hy hG=>⟨y,by simpa using hy,anc_refl hG⟩,by simp⟩
theorem Found.skip {G:Dg} {ids met todo:List ID} {x:ID} (h:Found G ids met (todo ++ [x])) (hx:x ∈ met ∨ hasG G x = false) (hk:okG G):Found G ids met todo:=by
 refine ⟨h.nd,h.has,fun y hy ps hp p hm=>?_,fun y hy hG=>?_,fun y hy hG=>h.sub y (hy.imp_right (fun h=>by simp [h])) hG,by have:=h.len;simp at this;omega⟩
 ·rcases h.clo y hy ps hp p hm with h1 | h1
  ·exact .inl h1
  ·rcases List.mem_append.1 h1 with h1 | h1
   ·exact .inr h1
   ·have e:p = x:=by simpa using h1
    subst e
    rcases hx with hx | hx
    ·exact .inl hx
    ·have:=(okG_par hk hp).1 p hm
     rw [hx] at this;cases this
 ·rcases h.all y hy hG with h1 | h1
  ·exact .inl h1
  ·rcases List.mem_append.1 h1 with h1 | h1
   ·exact .inr h1
   ·have e:y = x:=by simpa using h1
    subst e
    rcases hx with hx | hx
    ·exact .inl hx
    ·rw [hx] at hG;cases hG
theorem Found.take {G:Dg} {ids met todo ps:List ID} {x:ID} (h:Found G ids met (todo ++ [x])) (hx:x ∉ met) (hp:parents G x = some ps) (hk:okG G):Found G ids (met ++ [x]) (todo ++ ps):=by
 have hG:hasG G x = true:=by simp [hasG,hp]
 have hr:Reached G ids x:=h.sub x (.inr (by simp)) hG
 refine ⟨?_,?_,?_,?_,?_,?_⟩
 ·rw [List.nodup_append]
  refine ⟨h.nd,by simp,?_⟩
  intro a ha b hb e
  have:b = x:=by simpa using hb
  subst this;subst e;exact hx ha
 ·intro y hy
  rcases List.mem_append.1 hy with hy | hy
  ·exact h.has y hy
  ·have:y = x:=by simpa using hy
   rw [this];exact hG
 ·intro y hy qs hq p hm
  rcases List.mem_append.1 hy with hy | hy
  ·rcases h.clo y hy qs hq p hm with h1 | h1
   ·exact .inl (by simp [h1])
   ·rcases List.mem_append.1 h1 with h1 | h1
    ·exact .inr (by simp [h1])
    ·exact .inl (by simp at h1;simp [h1])
  ·have e:y = x:=by simpa using hy
   subst e
   rw [hp] at hq
   injection hq with hq
   subst hq
   exact .inr (by simp [hm])
 ·intro y hy hyG
  rcases h.all y hy hyG with h1 | h1
  ·exact .inl (by simp [h1])
  ·rcases List.mem_append.1 h1 with h1 | h1
   ·exact .inr (by simp [h1])
   ·exact .inl (by simp at h1;simp [h1])
 ·intro y hy hyG
  rcases hy with hy | hy
  ·rcases List.mem_append.1 hy with hy | hy
   ·exact h.sub y (.inl hy) hyG
   ·have:y = x:=by simpa using hy
    rw [this];exact hr
  ·rcases List.mem_append.1 hy with hy | hy
   ·exact h.sub y (.inr (by simp [hy])) hyG
   ·obtain ⟨i,hi,ha⟩:=hr
    exact ⟨i,hi,anc_step hk ha hp hy⟩
 ·have:=h.len
  have:=(okG_par hk hp).2.1
  simp at *
  omega
theorem Found.done {G:Dg} {ids met:List ID} (h:Found G ids met []) (hk:okG G) (y:ID):y ∈ met ↔ Reached G ids y:=by
 constructor
 ·intro hy
  exact h.sub y (.inl hy) (h.has y hy)
 ·rintro ⟨i,hi,ha⟩
  refine anc_closed hk (· ∈ met) (fun y ps hy hp p hm=>?_) ?_ ha
  ·exact (h.clo y hy ps hp p hm).elim id (fun h=>by cases h)
  ·exact (h.all i hi (anc_has hk ha).1).elim id (fun h=>by cases h)
end Go.Proofs.YtjpieiccpbcabaaGreat
namespace Go.Proofs.YtjpieiccpbcabaaGreat
open Go.RowKit
set_option linter.unusedVariables false
set_option linter.unusedSimpArgs false

def BaseOf (G:Dg) (x y z:ID):Prop:=(ancG G x z = true ∧ ancG G y z = true) ∧ ¬ ∃ d ps,(ancG G x d = true ∧ ancG G y d = true) ∧ parents G d = some ps ∧ z ∈ ps
theorem base_top {G:Dg} (hk:okG G) {x y:ID}:∀ (k:Nat) (c:ID),G.length - depthG G c = k → ancG G x c = true → ancG G y c = true → ∃ p,BaseOf G x y p ∧ ancG G p c = true:=by
 intro k
 induction k using Nat.strongRecOn with
 | ind k ih =>
  intro c hc h1 h2
  by_cases h:∃ d ps,(ancG G x d = true ∧ ancG G y d = true) ∧ parents G d = some ps ∧ c ∈ ps
  ·obtain ⟨d,ps,hd,hp,hm⟩:=h
   have hl:=depth_lt hk hp hm
   have hle:=depthG_le G d
   obtain ⟨p,hp1,hp2⟩:=ih (G.length - depthG G d) (by omega) d rfl hd.1 hd.2
   exact ⟨p,hp1,anc_step hk hp2 hp hm⟩
  ·exact ⟨c,⟨⟨h1,h2⟩,h⟩,anc_refl (anc_has hk h1).2⟩
end Go.Proofs.YtjpieiccpbcabaaGreat
