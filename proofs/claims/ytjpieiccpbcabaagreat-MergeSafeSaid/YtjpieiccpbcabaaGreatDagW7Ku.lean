/- Contracts: cmp.Or, the order by depth and ID, sorted, Ancestors, Reaches. Contracts: sorted, Ancestors, Reaches. Contract: Heads. -/
import Derived.Test.YtjpieiccpbcabaaGreatIdSortKu
set_option linter.unusedVariables false
set_option linter.unusedSimpArgs false
namespace Go.Proofs.YtjpieiccpbcabaaGreat
open Go.RowKit Go.Maps Go.Sort Go.Shelf
def GrD (w w':World):Prop:=∃ q os,w' = grow (w.drewN q) os
section
variable {w w1:World}
theorem GrD.refl (w:World):GrD w w:=⟨0,#[],by simp [grow,World.drewN]⟩
theorem GrD.alloc (h:GrD w w1) (o:Obj):GrD w (w1.alloc o):=by
 obtain ⟨q,os,rfl⟩:=h
 exact ⟨q,os ++ #[o],by rw [alloc_eq_grow,grow_grow]⟩
theorem GrD.drew (h:GrD w w1):GrD w w1.drew:=by
 obtain ⟨q,os,rfl⟩:=h
 exact ⟨q + 1,os,rfl⟩
theorem GrD.trans {w2:World} (h:GrD w w1) (k:GrD w1 w2):GrD w w2:=by
 obtain ⟨q,os,rfl⟩:=h
 obtain ⟨q',os',rfl⟩:=k
 exact ⟨q + q',os ++ os',by simp [grow,World.drewN,Nat.add_assoc]⟩
theorem GrD.fr (h:GrD w w1):Fr noB w w1:=by
 obtain ⟨q,os,rfl⟩:=h
 refine ⟨rfl,rfl,rfl,by simp [grow,World.drewN],fun k hk _=>?_⟩
 simp [grow,World.drewN,Array.getElem?_append_left hk]
end
@[irreducible] def orID (a b:Int):Int:=if a = 0 then b else a
theorem orID_eq (a b:Int):orID a b = if a = 0 then b else a:=by unfold orID;rfl
theorem orD_any (w:World) (A:Option Addr) (c:Nat) (a b:Int) (h:Sl w A [.int .i64 a,.int .i64 b]) :
  Calls Tryz.prog 101 #[.slice A 2 c] w fun e w'=>e = .returned (.int .i64 (orID a b)) ∧ w' = w:=by
 obtain ⟨g,off,rfl,_,hc⟩:=h (by simp)
 have c0:=hc 0 _ rfl
 have c1:=hc 1 _ rfl
 rw [Nat.add_zero] at c0
 go_enter Tryz.func101,Tryz.ntmps101
 go_wp2
 refine wp_loop_rounds 3 ?_
 by_cases ha:a = 0
 ·by_cases hb:b = 0
  ·subst ha hb
   rw [rounds_succ]
   go_wp2
   rw [rounds_succ]
   go_wp2
   rw [rounds_succ]
   go_wp2
   go_ret
   exact ⟨by simp [orID_eq],rfl⟩
  ·subst ha
   rw [rounds_succ]
   go_wp2
   rw [rounds_succ]
   go_wp2
   go_ret
   exact ⟨by simp [orID_eq],rfl⟩
 ·rw [rounds_succ]
  go_wp2
  go_ret
  exact ⟨by simp [orID_eq,ha],rfl⟩
def cfD (G:Dg) (x y:ID):Int:=orID (Lib.compareInt (depthG G x) (depthG G y)) (cmpI x y)
theorem cfD_lt (G:Dg) (x y:ID):cfD G x y < 0 ↔ depthG G x < depthG G y ∨ (depthG G x = depthG G y ∧ cmpI x y < 0):=by
 unfold cfD
 rw [orID_eq]
 unfold Lib.compareInt
 rcases Nat.lt_trichotomy (depthG G x) (depthG G y) with h | h | h
 ·have h1:((depthG G x:Nat):Int) < depthG G y:=by omega
  simp [h1,h]
 ·have h1:¬ ((depthG G x:Nat):Int) < depthG G y:=by omega
  have h2:¬ ((depthG G y:Nat):Int) < depthG G x:=by omega
  simp [h1,h2,h]
 ·have h1:¬ ((depthG G x:Nat):Int) < depthG G y:=by omega
  have h2:((depthG G y:Nat):Int) < depthG G x:=by omega
  have h3:¬ depthG G x < depthG G y:=by omega
  have h4:depthG G x ≠ depthG G y:=by omega
  simp [h1,h2,h3,h4]
theorem swoD (G:Dg):SWO (ltOf (cfD G)) where
 irrefl x:=by simp [ltOf,cfD_lt,cmpD_self]
 trans x y z h1 h2:=by
  simp only [ltOf,decide_eq_true_eq,cfD_lt] at *
  rcases h1 with h1 | ⟨h1,h1'⟩ <;> rcases h2 with h2 | ⟨h2,h2'⟩
  ·exact .inl (by omega)
  ·exact .inl (by omega)
  ·exact .inl (by omega)
  ·exact .inr ⟨by omega,cmpD_trans h1' h2'⟩
 ntrans x y z h1 h2:=by
  simp only [ltOf,decide_eq_false_iff_not,cfD_lt,not_or,not_and] at *
  refine ⟨by omega,fun e=>?_⟩
  have e1:depthG G x = depthG G y:=by omega
  have e2:depthG G y = depthG G z:=by omega
  have:=swoI.ntrans x y z (by simpa [ltOf] using h1.2 e1) (by simpa [ltOf] using h2.2 e2)
  simpa [ltOf] using this
theorem totD (G:Dg):∀ x y,(ltOf (cfD G)) x y = false → (ltOf (cfD G)) y x = false → x = y:=by
 intro x y h1 h2
 simp only [ltOf,decide_eq_false_iff_not,cfD_lt,not_or,not_and] at *
 have e:depthG G x = depthG G y:=by omega
 exact totI x y (by simpa [ltOf] using h1.2 e) (by simpa [ltOf] using h2.2 e.symm)
theorem compare_any (w:World) (a b:Int):Calls Tryz.prog 102 #[.int .i64 a,.int .i64 b] w fun e w'=>e = .returned (.int .i64 (Lib.compareInt a b)) ∧ w' = w:=AnyG.cmp_Compare_int Tryz.cmpInt a b w
set_option maxRecDepth 100000 in
set_option maxHeartbeats 2000000 in
theorem closure_any (w:World) (D b0:Nat) (F:Nat → Prop) (G:Dg) (h:DagAt w D F G) (hb:w.cell? ⟨b0,0,none⟩ = some (.pointer (some ⟨D,0,none⟩))) (x y:ID) :
  Calls Tryz.prog 100 #[encI x,encI y,.pointer (some ⟨b0,0,none⟩)] w fun e w'=>e = .returned (.int .i64 (cfD G x y)) ∧ GrD w w':=by
 obtain ⟨A,K,kv,ks,h⟩:=h
 obtain ⟨B1,k1,hn1,_⟩:=h.node x
 obtain ⟨B2,k2,hn2,_⟩:=h.node y
 have G1:GrD w ((w.alloc (ido x)).alloc (ido y)).drew:=(((GrD.refl w).alloc _).alloc _).drew
 have lb:b0 < w.heap.size:=World.block_lt_of_cell? _ _ hb
 have fb:∀ w',GrD w w' → w'.cell? ⟨b0,0,none⟩ = some (.pointer (some ⟨D,0,none⟩)):=fun w' g=>(World.cell?_of_block (w:=w) (a:=⟨b0,0,none⟩) (g.fr.block b0 lb (by simp [noB]))).trans hb
 have r1:rdI ((w.alloc (ido x)).alloc (ido y)).drew w.heap.size 0 = some x:=by rw [rdI_drew,rdI_old _ _ _ _ (by simp),rdI_new]
 have r2:rdI ((w.alloc (ido x)).alloc (ido y)).drew (w.heap.size + 1) 0 = some y:=by
  have:=rdI_new (w.alloc (ido x)) y
  rw [World.size_alloc] at this
  rw [rdI_drew];exact this
 have h1:=h.fr0 G1.fr
 have b1:=fb _ G1
 clear hb
 go_enter Tryz.func100,Tryz.ntmps100
 go_wp2_with fail
 refine wp_region_N 20 (fun w'=>w'.cell? ⟨b0,0,none⟩ = some (.pointer (some ⟨D,0,none⟩)) ∧ w'.cell? ⟨D,0,none⟩ = some (.map (some A)) ∧ mpI w' A = some kv ∧ rdI w' w.heap.size 0 = some x ∧ rdI w' (w.heap.size + 1) 0 = some y) (by kernel_rfl) (by kernel_rfl) ⟨b1,h1.c0,h1.all,r1,r2⟩ (fun hA hF=>?_)
 refine wpAnyN_take (i:=0) (v:=?_) hA rfl (by decide) (by kernel_rfl) (by kernel_rfl) (fun _ _ _ h=>h) (Or.inl ⟨by rfl,?_⟩) hF (fun hA=>?_)
 rotate_left
 ·intro wS hSw;(try dsimp only at hSw);obtain ⟨s1,s2,s3,s4,s5⟩:=hSw;first | (apply Eq.trans;apply ex_ld_id;exact rfl;exact rfl;assumption;with_reducible rfl) | (go_simp;try with_reducible rfl)
 try simp only [sA1,sA2,sA3,Act.put,sA4,sA5,sA6]
 refine wpAnyN_take (i:=1) (v:=?_) hA rfl (by decide) (by kernel_rfl) (by kernel_rfl) (fun _ _ _ h=>h) (Or.inl ⟨by rfl,?_⟩) hF (fun hA=>?_)
 rotate_left
 ·intro wS hSw;(try dsimp only at hSw);obtain ⟨s1,s2,s3,s4,s5⟩:=hSw;first | (apply Eq.trans;apply ex_ld_id;exact rfl;exact rfl;assumption;with_reducible rfl) | (go_simp;try with_reducible rfl)
 try simp only [sA1,sA2,sA3,Act.put,sA4,sA5,sA6]
 refine wpAnyN_take (i:=2) (v:=?_) hA rfl (by decide) (by kernel_rfl) (by kernel_rfl) (fun _ _ _ h=>h) (Or.inl ⟨by rfl,?_⟩) hF (fun hA=>?_)
 rotate_left
 ·intro wS hSw;(try dsimp only at hSw);obtain ⟨s1,s2,s3,s4,s5⟩:=hSw;first | (apply Eq.trans;apply ex_ld_id;exact rfl;exact rfl;assumption;with_reducible rfl) | (go_simp;try with_reducible rfl)
 try simp only [sA1,sA2,sA3,Act.put,sA4,sA5,sA6]
 refine wpAnyN_take (i:=3) (v:=?_) hA rfl (by decide) (by kernel_rfl) (by kernel_rfl) (fun _ _ _ h=>h) (Or.inl ⟨by rfl,?_⟩) hF (fun hA=>?_)
 rotate_left
 ·intro wS hSw;(try dsimp only at hSw);obtain ⟨s1,s2,s3,s4,s5⟩:=hSw;first | (apply Eq.trans;apply ex_ld_id;exact rfl;exact rfl;assumption;with_reducible rfl) | (go_simp;try with_reducible rfl)
 try simp only [sA1,sA2,sA3,Act.put,sA4,sA5,sA6]
 refine wpAnyN_take (i:=4) (v:=?_) hA rfl (by decide) (by kernel_rfl) (by kernel_rfl) (fun _ _ _ h=>h) (Or.inl ⟨by rfl,?_⟩) hF (fun hA=>?_)
 rotate_left
 ·intro wS hSw;(try dsimp only at hSw);obtain ⟨s1,s2,s3,s4,s5⟩:=hSw;first | (apply Eq.trans;apply ex_ld_id;exact rfl;exact rfl;assumption;with_reducible rfl) | (go_simp;try with_reducible rfl)
 try simp only [sA1,sA2,sA3,Act.put,sA4,sA5,sA6]
 refine wpAnyN_take (i:=5) (v:=?_) hA rfl (by decide) (by kernel_rfl) (by kernel_rfl) (fun _ _ _ h=>h) (Or.inl ⟨by rfl,?_⟩) hF (fun hA=>?_)
 rotate_left
 ·intro wS hSw;(try dsimp only at hSw);obtain ⟨s1,s2,s3,s4,s5⟩:=hSw;first | (apply Eq.trans;apply ex_ld_id;exact rfl;exact rfl;assumption;with_reducible rfl) | (go_simp;try with_reducible rfl)
 try simp only [sA1,sA2,sA3,Act.put,sA4,sA5,sA6]
 refine wpAnyN_take (i:=6) (v:=?_) hA rfl (by decide) (by kernel_rfl) (by kernel_rfl) (fun _ _ _ h=>h) (Or.inl ⟨by rfl,?_⟩) hF (fun hA=>?_)
 rotate_left
 ·intro wS hSw;(try dsimp only at hSw);obtain ⟨s1,s2,s3,s4,s5⟩:=hSw;first | (apply Eq.trans;apply ex_ld_id;exact rfl;exact rfl;assumption;with_reducible rfl) | (go_simp;try with_reducible rfl)
 try simp only [sA1,sA2,sA3,Act.put,sA4,sA5,sA6]
 refine wpAnyN_take (i:=7) (v:=?_) hA rfl (by decide) (by kernel_rfl) (by kernel_rfl) (fun _ _ _ h=>h) (Or.inl ⟨by rfl,?_⟩) hF (fun hA=>?_)
 rotate_left
 ·intro wS hSw;(try dsimp only at hSw);obtain ⟨s1,s2,s3,s4,s5⟩:=hSw;first | (apply Eq.trans;apply ex_ld_id;exact rfl;exact rfl;assumption;with_reducible rfl) | (go_simp;try with_reducible rfl)
 try simp only [sA1,sA2,sA3,Act.put,sA4,sA5,sA6]
 refine wpAnyN_take (i:=8) (v:=?_) hA rfl (by decide) (by kernel_rfl) (by kernel_rfl) (fun _ _ _ h=>h) (Or.inl ⟨by rfl,?_⟩) hF (fun hA=>?_)
 rotate_left
 ·intro wS hSw;(try dsimp only at hSw);obtain ⟨s1,s2,s3,s4,s5⟩:=hSw;first | (apply Eq.trans;apply ex_ld_id;exact rfl;exact rfl;assumption;with_reducible rfl) | (go_simp;try with_reducible rfl)
 try simp only [sA1,sA2,sA3,Act.put,sA4,sA5,sA6]
 refine wpAnyN_take (i:=9) (v:=?_) hA rfl (by decide) (by kernel_rfl) (by kernel_rfl) (fun _ _ _ h=>h) (Or.inl ⟨by rfl,?_⟩) hF (fun hA=>?_)
 rotate_left
 ·intro wS hSw;(try dsimp only at hSw);obtain ⟨s1,s2,s3,s4,s5⟩:=hSw;first | (apply Eq.trans;apply ex_ld_id;exact rfl;exact rfl;assumption;with_reducible rfl) | (go_simp;try with_reducible rfl)
 try simp only [sA1,sA2,sA3,Act.put,sA4,sA5,sA6]
 refine wpAnyN_take (i:=10) (v:=?_) hA rfl (by decide) (by kernel_rfl) (by kernel_rfl) (fun _ _ _ h=>h) (Or.inl ⟨by rfl,?_⟩) hF (fun hA=>?_)
 rotate_left
 ·intro wS hSw;(try dsimp only at hSw);obtain ⟨s1,s2,s3,s4,s5⟩:=hSw;first | (apply Eq.trans;apply ex_ld_id;exact rfl;exact rfl;assumption;with_reducible rfl) | (go_simp;try with_reducible rfl)
 try simp only [sA1,sA2,sA3,Act.put,sA4,sA5,sA6]
 refine wpAnyN_take (i:=11) (v:=?_) hA rfl (by decide) (by kernel_rfl) (by kernel_rfl) (fun _ _ _ h=>h) (Or.inl ⟨by rfl,?_⟩) hF (fun hA=>?_)
 rotate_left
 ·intro wS hSw;(try dsimp only at hSw);obtain ⟨s1,s2,s3,s4,s5⟩:=hSw;first | (apply Eq.trans;apply ex_ld_id;exact rfl;exact rfl;assumption;with_reducible rfl) | (go_simp;try with_reducible rfl)
 try simp only [sA1,sA2,sA3,Act.put,sA4,sA5,sA6]
 refine wpAnyN_take (i:=12) (v:=?_) hA rfl (by decide) (by kernel_rfl) (by kernel_rfl) (fun _ _ _ h=>h) (Or.inl ⟨by rfl,?_⟩) hF (fun hA=>?_)
 rotate_left
 ·intro wS hSw;(try dsimp only at hSw);obtain ⟨s1,s2,s3,s4,s5⟩:=hSw;first | (apply Eq.trans;apply ex_ld_id;exact rfl;exact rfl;assumption;with_reducible rfl) | (go_simp;try with_reducible rfl)
 try simp only [sA1,sA2,sA3,Act.put,sA4,sA5,sA6]
 refine wpAnyN_take (i:=13) (v:=?_) hA rfl (by decide) (by kernel_rfl) (by kernel_rfl) (fun _ _ _ h=>h) (Or.inl ⟨by rfl,?_⟩) hF (fun hA=>?_)
 rotate_left
 ·intro wS hSw;(try dsimp only at hSw);obtain ⟨s1,s2,s3,s4,s5⟩:=hSw;first | (apply Eq.trans;apply ex_ld_id;exact rfl;exact rfl;assumption;with_reducible rfl) | (go_simp;try with_reducible rfl)
 try simp only [sA1,sA2,sA3,Act.put,sA4,sA5,sA6]
 refine wpAnyN_take (i:=15) (v:=?_) hA rfl (by decide) (by kernel_rfl) (by kernel_rfl) (fun _ _ _ h=>h) (Or.inl ⟨by rfl,?_⟩) hF (fun hA=>?_)
 rotate_left
 ·intro wS hSw;(try dsimp only at hSw);obtain ⟨s1,s2,s3,s4,s5⟩:=hSw;first | (apply Eq.trans;apply ex_ld_id;exact rfl;exact rfl;assumption;with_reducible rfl) | (go_simp;try with_reducible rfl)
 try simp only [sA1,sA2,sA3,Act.put,sA4,sA5,sA6]
 refine wpAnyN_take (i:=16) (v:=?_) hA rfl (by decide) (by kernel_rfl) (by kernel_rfl) (fun _ _ _ h=>h) (Or.inl ⟨by rfl,?_⟩) hF (fun hA=>?_)
 rotate_left
 ·intro wS hSw;(try dsimp only at hSw);obtain ⟨s1,s2,s3,s4,s5⟩:=hSw;first | (apply Eq.trans;apply ex_ld_id;exact rfl;exact rfl;assumption;with_reducible rfl) | (go_simp;try with_reducible rfl)
 try simp only [sA1,sA2,sA3,Act.put,sA4,sA5,sA6]
 refine wpAnyN_one (i:=14) hA (by kernel_rfl) (by decide) rfl (fun K' hK=>?_)
 go_simp
 go_at_call 102
 refine (compare_any _ _ _).mono ?_
 rintro e w2 ⟨rfl,rfl⟩
 refine hK.out _ _ ⟨b1,h1.c0,h1.all,r1,r2⟩ (fun hA=>?_)
 clear hK K'
 refine wpAnyN_one (i:=17) hA (by kernel_rfl) (by decide) rfl (fun K' hK=>?_)
 go_simp
 go_at_call 88
 refine (cmp_any _ x y).mono ?_
 rintro e w3 ⟨rfl,hg3⟩
 have hg3:GrD _ _:=hg3
 have f3:=hg3.fr
 have G3:=G1.trans hg3
 have h3:=h.fr0 G3.fr
 have q1:=rdI_fr r1 (rdI_lt r1) f3 (by simp [noB])
 have q2:=rdI_fr r2 (rdI_lt r2) f3 (by simp [noB])
 refine hK.out _ _ ⟨fb _ G3,h3.c0,h3.all,q1,q2⟩ (fun hA=>?_)
 clear hK K'
 refine wpAnyN_one (i:=18) hA (by kernel_rfl) (by decide) rfl (fun K' hK=>?_)
 go_simp
 have G4:GrD w (w3.alloc (.cells #[.int .i64 (Lib.compareInt (depthG G x) (depthG G y)),.int .i64 (cmpI x y)] 3)):=G3.alloc _
 have h4:=h.fr0 G4.fr
 refine hK.out _ _ ⟨fb _ G4,h4.c0,h4.all,by rw [rdI_old _ _ _ _ (rdI_lt q1)];exact q1,by rw [rdI_old _ _ _ _ (rdI_lt q2)];exact q2⟩ (fun hA=>?_)
 clear hK K'
 refine wpAnyN_one (i:=19) hA (by kernel_rfl) (by decide) rfl (fun K' hK=>?_)
 go_simp
 go_at_call 101
 refine (orD_any _ _ _ (Lib.compareInt (depthG G x) (depthG G y)) (cmpI x y) (Sl.new _ _ _)).mono ?_
 rintro e w5 ⟨rfl,rfl⟩
 refine hK.out _ _ ⟨fb _ G4,h4.c0,h4.all,by rw [rdI_old _ _ _ _ (rdI_lt q1)];exact q1,by rw [rdI_old _ _ _ _ (rdI_lt q2)];exact q2⟩ (fun hA=>?_)
 clear hK K'
 refine wpAnyN_end rfl (by kernel_rfl) ?_
 simp only [List.drop_succ_cons,List.drop_zero]
 go_wp2
 go_ret
 exact ⟨rfl,G4⟩
def Rise (cf:ID → ID → Int) (l:List ID):Prop:=l.Pairwise fun x y=>cf x y < 0
theorem sortBy_rise {cf:ID → ID → Int} (hO:SWO (ltOf cf)) (hT:∀ x y,(ltOf cf) x y = false → (ltOf cf) y x = false → x = y) {l:List ID} (hn:l.Nodup):Rise cf (sortBy cf l):=by
 have h1:(sortBy cf l).Pairwise fun x y=>(!(ltOf cf) y x) = true:=by
  refine List.pairwise_mergeSort ?_ ?_ l
  ·intro a b c hab hbc
   simp only [Bool.not_eq_true'] at *
   exact hO.ntrans _ _ _ hbc hab
  ·intro a b
   cases h:ltOf cf b a with
   | false=>simp
   | true =>
    cases h2:ltOf cf a b with
    | false=>simp
    | true=>have:=hO.trans _ _ _ h h2;rw [hO.irrefl] at this;cases this
 have h2:(sortBy cf l).Nodup:=(sortBy_perm cf l).nodup_iff.2 hn
 have h3:=List.Pairwise.and h1 h2
 refine List.Pairwise.imp ?_ h3
 rintro a b ⟨ha,hne⟩
 cases h:ltOf cf a b with
 | true=>simpa [ltOf] using h
 | false=>exact absurd (hT a b h (by simpa using ha)) hne
theorem sortBy_mem (cf:ID → ID → Int) (l:List ID) (x:ID):x ∈ sortBy cf l ↔ x ∈ l:=(sortBy_perm cf l).mem_iff
def NewRise (w:World) (cf:ID → ID → Int) (S:ID → Prop) (e:Ending) (w':World):Prop:=∃ l,NewIDs w l e w' ∧ Rise cf l ∧ (∀ y,y ∈ l ↔ S y) ∧ l.length ≤ 1000000000
theorem RngL.ne_own {w:World} {it r:Nat} {kv left:List (ID × Value)} (h:RngL encI w it r kv left) {base n:Nat} {A:Option Addr} {c:Nat} {l:List ID} (ho:w.ownsRow base 24 32 (.slice A n c) n (idc l)) (g:Nat) (hg:A.map (·.block) = some g):g ≠ it ∧ g ≠ r:=by
 obtain ⟨es,clock,seen,hi,hb,_⟩:=h
 rcases ho.2 with ⟨hv,_⟩ | ⟨g',cap,cur,hv,_,hc,_⟩
 ·injection hv with h1 _ _
  subst h1;cases hg
 ·injection hv with h1 _ _
  subst h1
  simp only [Option.map_some,Option.some.injEq] at hg
  subst hg
  constructor
  ·rintro rfl;rw [hi] at hc;cases hc
  ·rintro rfl;rw [hb] at hc;cases hc
def SorR (w:World) (it R:Nat) (l:List ID) (X:World → Prop) (gk:Nat) (iv:Value) (wr:World):Prop :=
 ∃ left out A c,iv = .slice A out.length c ∧ gk = left.length ∧ RngL encI wr it R (setV l) (setV left) ∧ OwnD w wr A c out ∧ (out ++ left).Perm l ∧ Fr noB w wr ∧ X wr
theorem setV_split {left:List ID} {l1 l2:List (ID × Value)} {p:ID × Value} (h:setV left = l1 ++ p :: l2):∃ a b,left = a ++ p.1 :: b ∧ l1 = setV a ∧ l2 = setV b ∧ p.2 = .bool true:=by
 unfold setV at h
 obtain ⟨a,q,e1,e2,e3⟩:=List.map_eq_append_iff.1 h
 obtain ⟨y,b,e4,e5,e6⟩:=List.map_eq_cons_iff.1 e3
 subst e5
 exact ⟨a,b,by rw [e1,e4],e2.symm,e6.symm,rfl⟩
theorem sortWD_fr (w:World) (blk m:Nat) (dk:Array ID) (os:Array Obj):Fr (oneB blk) w (sortWorldK encSI 32 w blk 0 m dk os):=by
 refine ⟨rfl,rfl,rfl,by simp [sortWorldK,putRowK,Sort.ahead],fun k hk hne=>?_⟩
 unfold sortWorldK putRowK
 rw [heap_grow_old _ _ (by simpa using hk)]
 have:blk ≠ k:=fun e=>hne e.symm
 simp [putRow,mapBlock,Sort.ahead,Array.getElem?_modify,this]
end Go.Proofs.YtjpieiccpbcabaaGreat
namespace Go.Proofs.YtjpieiccpbcabaaGreat
open Go.RowKit Go.Maps Go.Sort Go.Shelf
set_option maxRecDepth 100000 in
set_option maxHeartbeats 2000000 in
theorem sorted_any (w:World) (D:Nat) (F:Nat → Prop) (G:Dg) (h:DagAt w D F G) (R:Nat) (l:List ID) (hR:mpI w R = some (setV l)) (hl:l.length ≤ 1000000000) :
  Calls Tryz.prog 71 #[.pointer (some ⟨D,0,none⟩),.map (some R)] w (NewRise w (cfD G) (· ∈ l)):=by
 have lR:=mpI_lt hR
 have nd:l.Nodup:=by have:=mpI_nd hR;rwa [keys_setV] at this
 have hm1:mpI (w.alloc (.cells #[.pointer (some ⟨D,0,none⟩)] 42)) R = some (setV l):=by rw [mpI_old _ _ _ lR];exact hR
 obtain ⟨_,hrg⟩:=rng_all Tryz.underlying102 hm1
 have F1:Fr noB w (w.alloc (.cells #[.pointer (some ⟨D,0,none⟩)] 42)):=(Fr.refl noB w).alloc _
 have b1:Blk (w.alloc (.cells #[.pointer (some ⟨D,0,none⟩)] 42)) w.heap.size 42 [.pointer (some ⟨D,0,none⟩)]:=Blk.new w _ _
 go_enter Tryz.func71,Tryz.ntmps71
 go_wp2_with fail
 have F2:Fr noB w ((w.alloc (.cells #[.pointer (some ⟨D,0,none⟩)] 42)).alloc (rngO (w.alloc (.cells #[.pointer (some ⟨D,0,none⟩)] 42)) R)):=F1.alloc _
 have b2:=b1.alloc (rngO (w.alloc (.cells #[.pointer (some ⟨D,0,none⟩)] 42)) R)
 simp only [World.size_alloc] at hrg
 generalize ew:(w.alloc (.cells #[.pointer (some ⟨D,0,none⟩)] 42)).alloc (rngO (w.alloc (.cells #[.pointer (some ⟨D,0,none⟩)] 42)) R) = w2 at hrg F2 b2 ⊢
 clear ew hm1 F1 b1
 go_loopg [5] l.length (fun gk iv wr=>SorR w (w.heap.size + 1) R l (fun wr=>Blk wr w.heap.size 42 [.pointer (some ⟨D,0,none⟩)]) gk iv wr)
 case atStart=>exact ⟨l,[],none,0,rfl,rfl,hrg,World.ownsRow_nil _ _ _ _,by simp,F2,b2⟩
 case round =>
  obtain ⟨left,out,Ao,co,rfl,rfl,hr,ho,hpm,hf,hx⟩:=hrel
  have hpl:=hpm.length_eq
  rw [List.length_append] at hpl
  rcases hr.next keyI (by omega) 0 with ⟨h0,hrun⟩ | ⟨l1,p,l2,w3,h0,hp,hrun,hr3,hf3,hent⟩
  ·have e0:left = []:=by simpa [setV] using h0
   subst e0
   rw [List.append_nil] at hpm
   have HP:=Lib.hid hpm
   clear hpm h0
   have hd:DagAt wr D F G:=h.fr0 hf
   go_wp2_with fail
   go_at_call 87
   refine (sort_any w wr Ao co _ out rfl ho (by omega) 100 #[.pointer (some ⟨w.heap.size,0,none⟩)] (cfD G) (swoD G) (totD G) (enters_of Tryz.func100 (by kernel_rfl) rfl) ?_).mono ?_
   ·intro blk hA hblk m os dk hdk x y
    subst hA
    have hle:w.heap.size ≤ blk:=((Off.own ho) _ rfl).1
    have hne:blk ≠ w.heap.size:=Blk.ne_own hx ho (by decide) blk rfl
    have d2:DagAt (sortWorldK encSI 32 wr blk 0 m dk os) D F G:=by
     refine hd.fr (sortWD_fr wr blk m dk os) (fun b hb e=>?_)
     obtain ⟨_,_,_,_,hh⟩:=h
     have:=hh.lt b hb
     have e':b = blk:=e
     omega
    have b2:=hx.fr (sortWD_fr wr blk m dk os) (fun e=>hne (Eq.symm e))
    have:=closure_any (sortWorldK encSI 32 wr blk 0 m dk os) D w.heap.size F G d2 (Blk.cell b2 0) x y
    simp only [encI,idA_eq] at this
    exact this.mono (fun e w' h=>h)
   rintro e w4 ⟨rfl,ho4,hf4⟩
   go_wp2
   go_ret
   have hpm:=HP.out
   have nd2:out.Nodup:=hpm.nodup_iff.2 nd
   refine ⟨sortBy (cfD G) out,⟨Ao,co,by rw [sortBy_length];rfl,ho4,hf.step hf4 (fun b hb=>.inl ?_)⟩,sortBy_rise (swoD G) (totD G) nd2,fun y=>by rw [sortBy_mem];exact hpm.mem_iff,by rw [sortBy_length];omega⟩
   cases Ao with
   | none=>cases hb
   | some a=>simp at hb;rw [← hb];exact ((Off.own ho) _ rfl).1
  ·obtain ⟨a,b,rfl,rfl,rfl,hp2⟩:=setV_split h0
   have hne1:=hr.ne_own ho
   have ho3:OwnD w w3 Ao co out:=own_fr ho hf3 (fun g hg e=>by rw [ownBlock_sl] at hg;exact (hne1 g hg).1 e)
   have hx3:=hx.fr hf3 (fun e=>by have e':w.heap.size = w.heap.size + 1:=e;omega)
   have he:=hent noB w3 (Fr.refl _ _) (by simp [noB]) (by simp [noB])
   have F3:Fr noB w w3:=hf.step1 hf3 (by omega)
   have F4:Fr noB w3 ((w3.alloc (ido p.1)).alloc (rowo [p.1])):=((Fr.refl noB w3).alloc _).alloc _
   have ho4:OwnD w ((w3.alloc (ido p.1)).alloc (rowo [p.1])) Ao co out:=own_fr ho3 F4 (fun _ _=>by simp [noB])
   have rp:rdI (w3.alloc (ido p.1)) w3.heap.size 0 = some p.1:=rdI_new _ _
   have HP:=Lib.hid hpm
   clear hpm h0 hent
   simp only [List.length_append,List.length_cons] at hpl
   have hsl:Sl ((w3.alloc (ido p.1)).alloc (rowo [p.1])) (some ⟨w3.heap.size + 1,0,none⟩) (idc [p.1]):=by
    have:=sl_new (w3.alloc (ido p.1)) [p.1]
    rwa [World.size_alloc] at this
   have hsz:=(F3.step0 F4).size
   go_wp2_with (at_builtin;refine wpList_appD w _ rfl _ _ rfl Ao _ co out rfl rfl ho4 (some ⟨w3.heap.size + 1,0,none⟩) 1 1 [p.1] rfl hsl rfl (by simp;omega) hsz ?_;intro A5 c5 w5 hc5 hm5 ho5 hg5 hA5)
   go_roundg (a ++ b).length
   case measure=>simp
   case rel =>
    have r4:=hr3.fr F4 (by simp [noB]) (by simp [noB])
    have fg:Fr (fun b=>Ao.map (·.block) = some b) ((w3.alloc (ido p.1)).alloc (rowo [p.1])) w5:=Fr.ofGrown hg5 (fun g hg=>hg)
    have hne4:=r4.ne_own ho4
    refine ⟨a ++ b,out ++ [p.1],A5,c5,by simp,rfl,?_,ho5,?_,(F3.step0 F4).step fg (fun g hg=>.inl ?_),?_⟩
    ·have:=r4.fr fg (fun e=>(hne4 _ e).1 rfl) (fun e=>(hne4 _ e).2 rfl)
     unfold setV at this ⊢
     rwa [List.map_append]
    ·refine List.Perm.trans ?_ HP.out
     simp only [List.append_assoc,List.cons_append,List.nil_append]
     exact List.Perm.append_left out List.perm_middle.symm
    ·cases Ao with
     | none=>cases hg
     | some ad=>simp at hg;rw [← hg];exact ((Off.own ho) _ rfl).1
    ·refine (hx3.fr F4 (by simp [noB])).fr fg (fun e=>?_)
     have:=Blk.ne_own (hx3.fr F4 (by simp [noB])) ho4 (by decide) w.heap.size (by rw [ownBlock_sl];exact e)
     exact this rfl
theorem reached_len {G:Dg} (hk:okG G) {ids l:List ID} (nd:l.Nodup) (h:∀ y,y ∈ l ↔ Reached G ids y):l.length ≤ G.length :=
 nd_len nd (fun y hy=>by obtain ⟨i,_,ha⟩:=(h y).1 hy;exact (anc_has hk ha).2)
theorem DagAt.ok {w:World} {D:Nat} {F:Nat → Prop} {G:Dg} (h:DagAt w D F G):okG G:=by obtain ⟨_,_,_,_,h⟩:=h;exact h.ok
theorem DagAt.le {w:World} {D:Nat} {F:Nat → Prop} {G:Dg} (h:DagAt w D F G):G.length ≤ 1000000:=by obtain ⟨_,_,_,_,h⟩:=h;exact h.le
theorem ancestors_any (w:World) (D:Nat) (F:Nat → Prop) (G:Dg) (h:DagAt w D F G) (P:Option Addr) (c n:Nat) (ids:List ID) (hn:ids.length = n) (hs:Sl w P (idc ids)) (hb:ids.length ≤ 1000000000) :
  Calls Tryz.prog 43 #[.pointer (some ⟨D,0,none⟩),.slice P n c] w (NewRise w (cfD G) (Reached G ids)):=by
 subst hn
 go_enter Tryz.func43,Tryz.ntmps43
 go_wp2_with fail
 go_at_call 57
 refine (reach_any w D F G h P c _ ids rfl hs hb).mono ?_
 rintro e w1 ⟨R,l,rfl,hm,hl,hR,hf⟩
 have nd:l.Nodup:=by have:=mpI_nd hm;rwa [keys_setV] at this
 have hll:=reached_len h.ok nd hl
 have hle:=h.le
 go_wp2_with fail
 go_at_call 71
 refine (sorted_any w1 D F G (h.fr0 hf) R l hm (by omega)).mono ?_
 rintro e w2 ⟨l2,⟨A2,c2,rfl,ho2,hf2⟩,hr2,hm2,hb2⟩
 go_wp2
 go_ret
 exact ⟨l2,⟨A2,c2,rfl,own_base ho2 hf.size,hf.step0 hf2⟩,hr2,fun y=>(hm2 y).trans (hl y),hb2⟩
set_option maxRecDepth 100000 in
theorem reaches_any (w:World) (D:Nat) (F:Nat → Prop) (G:Dg) (h:DagAt w D F G) (x y:ID) :
  Calls Tryz.prog 27 #[.pointer (some ⟨D,0,none⟩),encI x,encI y] w (GivesD w (.bool (ancG G x y))):=by
 have F1:Fr noB w ((w.alloc (ido x)).alloc (ido y)).drew:=(((Fr.refl noB w).alloc _).alloc _).drew
 have r1:rdI ((w.alloc (ido x)).alloc (ido y)).drew w.heap.size 0 = some x:=by rw [rdI_drew,rdI_old _ _ _ _ (by simp),rdI_new]
 have r2:rdI ((w.alloc (ido x)).alloc (ido y)).drew (w.heap.size + 1) 0 = some y:=by
  have:=rdI_new (w.alloc (ido x)) y
  rw [World.size_alloc] at this
  rw [rdI_drew];exact this
 go_enter Tryz.func27,Tryz.ntmps27
 go_wp2_with fail
 refine wp_region_N 6 (fun w'=>rdI w' w.heap.size 0 = some x ∧ rdI w' (w.heap.size + 1) 0 = some y) (by kernel_rfl) (by kernel_rfl) ⟨r1,r2⟩ (fun hA hF=>?_)
 refine wpAnyN_take (i:=0) (v:=?_) hA rfl (by decide) (by kernel_rfl) (by kernel_rfl) (fun _ _ _ h=>h) (Or.inl ⟨by rfl,?_⟩) hF (fun hA=>?_)
 rotate_left
 ·intro wS hSw;(try dsimp only at hSw);obtain ⟨s1,s2⟩:=hSw;first | (apply Eq.trans;apply ex_ld_id;exact rfl;exact rfl;assumption;with_reducible rfl) | (go_simp;try with_reducible rfl)
 try simp only [sA1,sA2,sA3,Act.put,sA4,sA5,sA6]
 refine wpAnyN_take (i:=1) (v:=?_) hA rfl (by decide) (by kernel_rfl) (by kernel_rfl) (fun _ _ _ h=>h) (Or.inl ⟨by rfl,?_⟩) hF (fun hA=>?_)
 rotate_left
 ·intro wS hSw;(try dsimp only at hSw);obtain ⟨s1,s2⟩:=hSw;first | (apply Eq.trans;apply ex_ld_id;exact rfl;exact rfl;assumption;with_reducible rfl) | (go_simp;try with_reducible rfl)
 try simp only [sA1,sA2,sA3,Act.put,sA4,sA5,sA6]
 refine wpAnyN_take (i:=4) (v:=?_) hA rfl (by decide) (by kernel_rfl) (by kernel_rfl) (fun _ _ _ h=>h) (Or.inl ⟨by rfl,?_⟩) hF (fun hA=>?_)
 rotate_left
 ·intro wS hSw;(try dsimp only at hSw);obtain ⟨s1,s2⟩:=hSw;first | (apply Eq.trans;apply ex_ld_id;exact rfl;exact rfl;assumption;with_reducible rfl) | (go_simp;try with_reducible rfl)
 try simp only [sA1,sA2,sA3,Act.put,sA4,sA5,sA6]
 generalize ew:((w.alloc (ido x)).alloc (ido y)).drew = w1 at F1 r1 r2 hF ⊢
 refine wpAnyN_one (i:=2) hA (by kernel_rfl) (by decide) rfl (fun K hK=>?_)
 refine step_run rfl _ _ (ex_bs1_at (x:=x) rfl rfl) ?_
 have F2:Fr noB w (w1.alloc (rowo [x])):=F1.alloc _
 have p1:rdI (w1.alloc (rowo [x])) w.heap.size 0 = some x:=by rw [rdI_old _ _ _ _ (rdI_lt r1)];exact r1
 have p2:rdI (w1.alloc (rowo [x])) (w.heap.size + 1) 0 = some y:=by rw [rdI_old _ _ _ _ (rdI_lt r2)];exact r2
 refine hK.out _ _ ⟨p1,p2⟩ (fun hA=>?_)
 clear hK K
 refine wpAnyN_one (i:=3) hA (by kernel_rfl) (by decide) rfl (fun K hK=>?_)
 go_simp
 go_at_call 57
 refine (reach_any _ D F G (h.fr0 F2) _ _ _ [x] rfl (sl_new w1 [x]) (by simp)).mono ?_
 rintro e w3 ⟨R,l,rfl,hm,hl,hR,hf⟩
 have p1:rdI (w1.alloc (rowo [x])) w.heap.size 0 = some x:=by rw [rdI_old _ _ _ _ (rdI_lt r1)];exact r1
 have p2:rdI (w1.alloc (rowo [x])) (w.heap.size + 1) 0 = some y:=by rw [rdI_old _ _ _ _ (rdI_lt r2)];exact r2
 have q1:rdI w3 w.heap.size 0 = some x:=rdI_fr p1 (rdI_lt p1) hf (by simp [noB])
 have q2:rdI w3 (w.heap.size + 1) 0 = some y:=rdI_fr p2 (rdI_lt p2) hf (by simp [noB])
 refine hK.out _ _ ⟨q1,q2⟩ (fun hA=>?_)
 clear hK K
 refine wpAnyN_one (i:=5) hA (by kernel_rfl) (by decide) rfl (fun K hK=>?_)
 have hlk:=look_set l y
 have hd:decide (y ∈ l) = ancG G x y:=by
  rw [Bool.eq_iff_iff,decide_eq_true_eq,hl]
  simp [Reached]
 rw [hd] at hlk
 go_simp
 refine hK.out _ _ ⟨q1,q2⟩ (fun hA=>?_)
 clear hK K
 refine wpAnyN_end rfl (by kernel_rfl) ?_
 simp only [List.drop_succ_cons,List.drop_zero]
 go_wp2
 go_ret
 exact ⟨rfl,F2.step0 hf⟩
def RanR (w0:World) (it R:Nat) (kv:List (ID × Value)) (X:List ID → World → Prop) (gk:Nat) (wr:World):Prop :=
 ∃ dn left,gk = left.length ∧ RngL encI wr it R kv left ∧ (dn ++ left.map (·.1)).Perm (kv.map (·.1)) ∧ Fr noB w0 wr ∧ X dn wr
theorem ran_perm {dn:List ID} {l1 l2:List (ID × Value)} {p:ID × Value} {k:List ID} (h:(dn ++ (l1 ++ p :: l2).map (·.1)).Perm k):((dn ++ [p.1]) ++ (l1 ++ l2).map (·.1)).Perm k:=by
 refine List.Perm.trans ?_ h
 simp only [List.map_append,List.map_cons,List.append_assoc,List.cons_append,List.nil_append]
 exact List.Perm.append_left dn List.perm_middle.symm
theorem RngL.ne {w:World} {it r:Nat} {kv left:List (ID × Value)} (h:RngL encI w it r kv left):it ≠ r:=by
 obtain ⟨es,clock,seen,hi,hb,_⟩:=h
 rintro rfl
 rw [hi] at hb;cases hb
theorem RngL.mp {w:World} {it r:Nat} {kv left:List (ID × Value)} (h:RngL encI w it r kv left):mpI w r = some kv:=h.map.mpI
def Gat (w:World) (P:ID → Bool) (iv:Value) (dn:List ID) (wr:World):Prop:=∃ A c,iv = .slice A (dn.filter P).length c ∧ OwnD w wr A c (dn.filter P)
end Go.Proofs.YtjpieiccpbcabaaGreat
