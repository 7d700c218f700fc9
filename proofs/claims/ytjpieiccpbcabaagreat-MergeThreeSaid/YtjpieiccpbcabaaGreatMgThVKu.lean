/- The relations of MergeThree's loops. -/
import Derived.Test.YtjpieiccpbcabaaGreatMgTvKu
import Derived.Test.YtjpieiccpbcabaaGreatMgThKu
import Derived.Test.YtjpieiccpbcabaaGreatRPtMKu
set_option linter.unusedVariables false
set_option linter.unusedSimpArgs false
namespace Go.Proofs.YtjpieiccpbcabaaGreat
open Go.RowKit Go.Maps Go.Sort
@[irreducible] noncomputable def bsI3 (w:World) (a b c:Value):Result Next:=((Instr.buildSlice 32 3 #[(0,a),(1,b),(2,c)]).run Tryz.prog w).andThen (fun v w=>.ok (.value v) w)
@[simp ↓] theorem ex_bs3M (ρ:Operand → Value) (a b c:Operand) (d:Option Nat) (t:TypeId) (p:String) (f:Array Edge) (g:Option (Nat × Bool)) (w:World) :
  (execOp ρ { dst:=d,op:=.buildSlice 32 3 #[(0,a),(1,b),(2,c)],type:=t,pos:=p,after:=f,guard:=g }).run Tryz.prog w = bsI3 w (ρ a) (ρ b) (ρ c):=by
 unfold execOp bsI3
 simp only [List.map_toArray,List.map_cons,List.map_nil,Sem.run_bind,Sem.run_pure]
@[simp] theorem bsI3_at (w:World) (x y z:ID):bsI3 w (encI x) (encI y) (encI z) = .ok (.value (.slice (some ⟨w.heap.size,0,none⟩) 3 3)) (w.alloc (rowo [x,y,z])):=by
 unfold bsI3;rw [bs_3];rfl
theorem putV_two {x y:ID} (hx:x ≠ zID) (hy:y ≠ zID) (hne:x ≠ y):ptS4 [] x = [x] ∧ ptS4 [x] y = par2 x y:=by
 unfold ptS4 par2
 rw [decide_eq_false hx,decide_eq_false hy]
 refine ⟨rfl,?_⟩
 unfold ptW4
 split
 ·rfl
 ·rw [if_neg (fun e=>hne ((cmpI_eq _ _).1 e))]
theorem par2_len (x y:ID):(par2 x y).length = 2:=by
 unfold par2
 split <;> rfl
theorem chT_q {w:World} {x y:ID} {t:Int} {A:Option Addr} {g:Nat} {Q:Nat → Prop} (hA:A = some ⟨g,0,none⟩) (hs:Sl w A (idc (par2 x y))) (hg:Q g):CgQ Q w ⟨A,2,2,t,1,none,0,0,id2 1 0,[]⟩ [] (chT (par2 x y) t):=by
 subst hA
 refine ⟨⟨rfl,rfl,rfl,rfl,par2_len x y,hs,rfl,Sl.nil _ _,⟨rfl,fun i h=>absurd h (by simp)⟩,by rw [show (chT (par2 x y) t).Parents = par2 x y from rfl,par2_len];decide,by simp,by simp⟩,fun _ b hb=>?_,fun h=>absurd rfl h,fun i h=>absurd h (by simp)⟩
 have e:g = b:=by simpa using hb
 rw [← e]
 exact hg
def ThR (W0:World) (H:Nat) (S:Nat → Prop) (L:Hst) (gk:Nat) (kv:Value) (wr:World):Prop :=
 ∃ (n:Nat) (S':Nat → Prop) (L':Hst),kv = .int .i64 (n:Int) ∧ gk = 4 - n ∧ n ≤ 4 ∧ Hs wr H S' L' ∧ (∀ b,S' b → S b ∨ W0.heap.size ≤ b) ∧ M3 L L' (2 * n) ∧ Fr S W0 wr
def ThI (W1:World) (H P:Nat) (S1:Nat → Prop) (L:Hst) (t:T3) (n gk:Nat) (kv:Value) (wr:World):Prop :=
 ∃ (m:Nat) (S':Nat → Prop) (L':Hst) (a:ID) (c:Chg),kv = .int .i64 (m:Int) ∧ gk = 2 - m ∧ m ≤ 2 ∧ Hs wr H S' L' ∧ (∀ b,S' b → S1 b ∨ W1.heap.size ≤ b) ∧ M3 L L' (2 * n + m) ∧
  bxI wr P = some a ∧ findC L' a = some c ∧ (∀ o,ROps L' [a] o ↔ ∃ i ∈ t.x :: [t.y,t.z].take m,ROps L [i] o) ∧ Fr (fun b=>S1 b ∨ b = P) W1 wr
theorem ThI.fwd {W1 wr u:World} {H P:Nat} {S1 S':Nat → Prop} {L L':Hst} {t:T3} {n m:Nat} {a0:ID} (hs:Hs wr H S' L') (hS:∀ b,S' b → S1 b ∨ W1.heap.size ≤ b) (hM:M3 L L' (2 * n + m))
  (f:Fr (fun b=>S1 b ∨ b = P) W1 wr) (g:Fr noB wr u) (hb:bxI u P = some a0) (nP:¬ S1 P) (hP:P < W1.heap.size) {a:ID} {c:Chg} (hc:findC L' a = some c)
  (hr:∀ o,ROps L' [a] o ↔ ∃ i ∈ t.x :: [t.y,t.z].take (m + 1),ROps L [i] o) (hm:m < 2) {kv:Value} (hk:kv = .int .i64 ((m + 1:Nat):Int)):ThI W1 H P S1 L t n (2 - (m + 1)) kv (putB u P a):=by
 obtain ⟨p1,p2,p3⟩:=putB_fr hb a
 refine ⟨m + 1,S',L',a,c,hk,rfl,hm,(hs.fr0 g).fr p1 (fun b hb' e=>?_),hS,hM.mono (by omega),p3,hc,hr,(f.step0 g).step p1 (fun b e=>.inr (.inr e))⟩
 have e':b = P:=e
 rcases hS b hb' with h | h
 ·rw [e'] at h
  exact nP h
 ·omega
theorem ThI.add {W1 wr u u7 w':World} {H P:Nat} {S1 S':Nat → Prop} {L L':Hst} {t:T3} {n m:Nat} {x:ID} {c:Chg} (hS:∀ b,S' b → S1 b ∨ W1.heap.size ≤ b) (hM:M3 L ((x,c) :: L') (2 * n + m + 1))
  (f:Fr (fun b=>S1 b ∨ b = P) W1 wr) (g:Fr noB wr u) (p1:Fr (oneB P) u u7) (hs:Hs w' H (grF S' u7 w') ((x,c) :: L')) (k:Fr S' u7 w') (hb:bxI u7 P = some x) (nP:¬ S1 P) (hP:P < W1.heap.size)
  (hr:∀ o,ROps ((x,c) :: L') [x] o ↔ ∃ i ∈ t.x :: [t.y,t.z].take (m + 1),ROps L [i] o) (hm:m < 2) {kv:Value} (hk:kv = .int .i64 ((m + 1:Nat):Int)):ThI W1 H P S1 L t n (2 - (m + 1)) kv w':=by
 have hz:W1.heap.size ≤ u7.heap.size:=Nat.le_trans f.size (Nat.le_trans g.size p1.size)
 have nS:¬ S' P:=fun h=>by
  rcases hS P h with h | h
  ·exact nP h
  ·omega
 refine ⟨m + 1,grF S' u7 w',(x,c) :: L',x,c,hk,rfl,hm,hs,fun b hb'=>?_,hM,bxI_fr hb k nS,?_,hr,((f.step0 g).step p1 (fun b e=>.inr (.inr e))).step k (fun b h=>?_)⟩
 ·rcases hb' with h | h
  ·exact hS b h
  ·exact .inr (Nat.le_trans hz h.1)
 ·show (if x = x then some c else findC L' x) = some c
  rw [if_pos rfl]
 ·rcases hS b h with h | h
  ·exact .inr (.inl h)
  ·exact .inl h
end Go.Proofs.YtjpieiccpbcabaaGreat
