/- Contracts: Has, Len, Depth, New. Contracts: right, slices.Equal at IDs. Contract: Add. -/
import Derived.Test.YtjpieiccpbcabaaGreatBasePKu
import Derived.Test.YtjpieiccpbcabaaGreatMapIKu
import Derived.Test.YtjpieiccpbcabaaGreatIdRowKu
import Derived.Test.YtjpieiccpbcabaaGreatRegTKu
import Derived.Deep.LoopGhost
set_option linter.unusedVariables false
set_option linter.unusedSimpArgs false
namespace Go.Proofs.YtjpieiccpbcabaaGreat
open Go.RowKit Go.Maps Go.Sort
structure DagA (w:World) (D A K:Nat) (kv:List (ID × Value)) (ks:List ID) (F:Nat → Prop) (G:Dg):Prop where
 blk:Blk w D 104 [.map (some A),.map (some K)]
 all:mpI w A = some kv
 kids:mpI w K = some (setV ks)
 ne:A ≠ K
 fD:F D
 fA:F A
 fK:F K
 keys:kv.map (·.1) = (G.map (·.1)).reverse
 par:∀ x,x ∈ ks ↔ ∃ p ∈ G,x ∈ p.2
 vals:∀ x ps,parents G x = some ps → ∃ B c,look kv x = some (nodeV B ps.length c (depthG G x)) ∧ Sl w B (idc ps) ∧ Off B F
 lt:∀ b,F b → b < w.heap.size
 ok:okG G
 le:G.length ≤ 1000000
def DagAt (w:World) (D:Nat) (F:Nat → Prop) (G:Dg):Prop:=∃ A K kv ks,DagA w D A K kv ks F G
section
variable {w w':World} {D A K:Nat} {kv:List (ID × Value)} {ks:List ID} {F:Nat → Prop} {G:Dg}
theorem DagA.fr {M:Nat → Prop} (h:DagA w D A K kv ks F G) (f:Fr M w w') (hM:∀ b,F b → ¬ M b):DagA w' D A K kv ks F G :=
 ⟨h.blk.fr f (hM _ h.fD),mpI_fr h.all f (hM _ h.fA),mpI_fr h.kids f (hM _ h.fK),h.ne,h.fD,h.fA,h.fK,h.keys,h.par,
  fun x ps hp=>by obtain ⟨B,c,h1,h2,h3⟩:=h.vals x ps hp;exact ⟨B,c,h1,h2.fr f (h3.mono hM),h3⟩,fun b hb=>Nat.lt_of_lt_of_le (h.lt b hb) f.size,h.ok,h.le⟩
theorem DagA.fr0 (h:DagA w D A K kv ks F G) (f:Fr noB w w'):DagA w' D A K kv ks F G:=h.fr f (fun _ _=>by simp [noB])
theorem DagAt.fr {M:Nat → Prop} (h:DagAt w D F G) (f:Fr M w w') (hM:∀ b,F b → ¬ M b):DagAt w' D F G:=by
 obtain ⟨A,K,kv,ks,h⟩:=h;exact ⟨A,K,kv,ks,h.fr f hM⟩
theorem DagAt.fr0 (h:DagAt w D F G) (f:Fr noB w w'):DagAt w' D F G:=h.fr f (fun _ _=>by simp [noB])
theorem DagA.look0 (h:DagA w D A K kv ks F G) {x:ID} (hp:parents G x = none):look kv x = none:=by
 rw [look_none,h.keys,List.mem_reverse,← hasG_mem,hasG,hp];simp
theorem DagA.isSome (h:DagA w D A K kv ks F G) (x:ID):(look kv x).isSome = hasG G x:=by
 cases hp:parents G x with
 | none=>rw [h.look0 hp,hasG,hp];rfl
 | some ps=>obtain ⟨B,c,h1,_⟩:=h.vals x ps hp;rw [h1,hasG,hp];rfl
theorem DagA.node (h:DagA w D A K kv ks F G) (x:ID):∃ B c,(look kv x).getD (nodeV none 0 0 0) = nodeV B ((parents G x).getD []).length c (depthG G x) ∧ Sl w B (idc ((parents G x).getD [])) ∧ Off B F:=by
 cases hp:parents G x with
 | none=>rw [h.look0 hp,depth_none hp];exact ⟨none,0,rfl,Sl.nil _ _,Off.none⟩
 | some ps=>obtain ⟨B,c,h1,h2⟩:=h.vals x ps hp;rw [h1];exact ⟨B,c,rfl,h2⟩
theorem DagA.len (h:DagA w D A K kv ks F G):kv.length = G.length:=by
 have:=congrArg List.length h.keys;simpa using this
theorem DagA.c0 (h:DagA w D A K kv ks F G):w.cell? ⟨D,0,none⟩ = some (.map (some A)):=Blk.cell h.blk 0
end
@[simp] theorem fl_0 (w:World) (B:Option Addr) (n c d:Nat):(Instr.field 128 (nodeV B n c d) 0).run Tryz.prog w = .ok (.slice B n c) w:=by kernel_rfl
@[simp] theorem fl_1 (w:World) (B:Option Addr) (n c d:Nat):(Instr.field 128 (nodeV B n c d) 1).run Tryz.prog w = .ok (.int .i64 d) w:=by kernel_rfl
@[simp] theorem bld_node (w:World) (B:Option Addr) (n c:Nat) (d:Int):(Instr.build 128 #[(0,.slice B n c),(1,.int .i64 d)]).run Tryz.prog w = .ok (.agg #[.slice B n c,.int .i64 d]) w:=by kernel_rfl
@[simp] theorem bld_dag (w:World) (a b:Option Nat):(Instr.build 104 #[(0,.map a),(1,.map b)]).run Tryz.prog w = .ok (.agg #[.map a,.map b]) w:=by kernel_rfl
@[simp] theorem mk_map (t:TypeId) (w:World):(Instr.makeMap t none).run Tryz.prog w = .ok (.map (some w.heap.size)) (w.alloc (.map #[] 0)):=rfl
def GivesD (w:World) (v:Value) (e:Ending) (w':World):Prop:=e = .returned v ∧ Fr noB w w'
theorem len_any (w:World) (D:Nat) (F:Nat → Prop) (G:Dg) (h:DagAt w D F G):Calls Tryz.prog 13 #[.pointer (some ⟨D,0,none⟩)] w (GivesD w (.int .i64 G.length)):=by
 obtain ⟨A,K,kv,ks,h⟩:=h
 have c0:=h.c0
 have ha:=h.all
 have hl:=h.len
 go_enter Tryz.func13,Tryz.ntmps13
 go_wp2
 go_ret
 exact ⟨by simp [hl],Fr.refl _ _⟩
theorem has_any (w:World) (D:Nat) (F:Nat → Prop) (G:Dg) (h:DagAt w D F G) (x:ID):Calls Tryz.prog 32 #[.pointer (some ⟨D,0,none⟩),encI x] w (GivesD w (.bool (hasG G x))):=by
 obtain ⟨A,K,kv,ks,h⟩:=h
 have hl:=h.isSome x
 obtain ⟨B,c,hn,_⟩:=h.node x
 have F1:Fr noB w (w.alloc (ido x)).drew:=((Fr.refl noB w).alloc _).drew
 have hh:=h.fr0 F1
 have d0:=hh.c0
 have da:=hh.all
 have dr:rdI (w.alloc (ido x)).drew w.heap.size 0 = some x:=by simp
 clear hh
 go_enter Tryz.func32,Tryz.ntmps32
 go_wp2_with fail
 refine wp_region_N 11 (fun w'=>w'.cell? ⟨D,0,none⟩ = some (.map (some A)) ∧ mpI w' A = some kv ∧ rdI w' w.heap.size 0 = some x) (by kernel_rfl) (by kernel_rfl) ⟨d0,da,dr⟩ (fun hA hF=>?_)
 refine wpAnyN_take (i:=0) (v:=?_) hA rfl (by decide) (by kernel_rfl) (by kernel_rfl) (fun _ _ _ h=>h) (Or.inl ⟨by rfl,?_⟩) hF (fun hA=>?_)
 rotate_left
 ·intro wS hSw;(try dsimp only at hSw);obtain ⟨s1,s2,s3⟩:=hSw;first | (apply Eq.trans;apply ex_ld_id;exact rfl;exact rfl;assumption;with_reducible rfl) | (go_simp;try with_reducible rfl)
 try simp only [sA1,sA2,sA3,Act.put,sA4,sA5,sA6]
 refine wpAnyN_take (i:=1) (v:=?_) hA rfl (by decide) (by kernel_rfl) (by kernel_rfl) (fun _ _ _ h=>h) (Or.inl ⟨by rfl,?_⟩) hF (fun hA=>?_)
 rotate_left
 ·intro wS hSw;(try dsimp only at hSw);obtain ⟨s1,s2,s3⟩:=hSw;first | (apply Eq.trans;apply ex_ld_id;exact rfl;exact rfl;assumption;with_reducible rfl) | (go_simp;try with_reducible rfl)
 try simp only [sA1,sA2,sA3,Act.put,sA4,sA5,sA6]
 refine wpAnyN_take (i:=2) (v:=?_) hA rfl (by decide) (by kernel_rfl) (by kernel_rfl) (fun _ _ _ h=>h) (Or.inl ⟨by rfl,?_⟩) hF (fun hA=>?_)
 rotate_left
 ·intro wS hSw;(try dsimp only at hSw);obtain ⟨s1,s2,s3⟩:=hSw;first | (apply Eq.trans;apply ex_ld_id;exact rfl;exact rfl;assumption;with_reducible rfl) | (go_simp;try with_reducible rfl)
 try simp only [sA1,sA2,sA3,Act.put,sA4,sA5,sA6]
 refine wpAnyN_take (i:=3) (v:=?_) hA rfl (by decide) (by kernel_rfl) (by kernel_rfl) (fun _ _ _ h=>h) (Or.inl ⟨by rfl,?_⟩) hF (fun hA=>?_)
 rotate_left
 ·intro wS hSw;(try dsimp only at hSw);obtain ⟨s1,s2,s3⟩:=hSw;first | (apply Eq.trans;apply ex_ld_id;exact rfl;exact rfl;assumption;with_reducible rfl) | (go_simp;try with_reducible rfl)
 try simp only [sA1,sA2,sA3,Act.put,sA4,sA5,sA6]
 refine wpAnyN_take (i:=4) (v:=?_) hA rfl (by decide) (by kernel_rfl) (by kernel_rfl) (fun _ _ _ h=>h) (Or.inl ⟨by rfl,?_⟩) hF (fun hA=>?_)
 rotate_left
 ·intro wS hSw;(try dsimp only at hSw);obtain ⟨s1,s2,s3⟩:=hSw;first | (apply Eq.trans;apply ex_ld_id;exact rfl;exact rfl;assumption;with_reducible rfl) | (go_simp;try with_reducible rfl)
 try simp only [sA1,sA2,sA3,Act.put,sA4,sA5,sA6]
 refine wpAnyN_take (i:=5) (v:=?_) hA rfl (by decide) (by kernel_rfl) (by kernel_rfl) (fun _ _ _ h=>h) (Or.inl ⟨by rfl,?_⟩) hF (fun hA=>?_)
 rotate_left
 ·intro wS hSw;(try dsimp only at hSw);obtain ⟨s1,s2,s3⟩:=hSw;first | (apply Eq.trans;apply ex_ld_id;exact rfl;exact rfl;assumption;with_reducible rfl) | (go_simp;try with_reducible rfl)
 try simp only [sA1,sA2,sA3,Act.put,sA4,sA5,sA6]
 refine wpAnyN_take (i:=6) (v:=?_) hA rfl (by decide) (by kernel_rfl) (by kernel_rfl) (fun _ _ _ h=>h) (Or.inl ⟨by rfl,?_⟩) hF (fun hA=>?_)
 rotate_left
 ·intro wS hSw;(try dsimp only at hSw);obtain ⟨s1,s2,s3⟩:=hSw;first | (apply Eq.trans;apply ex_ld_id;exact rfl;exact rfl;assumption;with_reducible rfl) | (go_simp;try with_reducible rfl)
 try simp only [sA1,sA2,sA3,Act.put,sA4,sA5,sA6]
 refine wpAnyN_take (i:=7) (v:=?_) hA rfl (by decide) (by kernel_rfl) (by kernel_rfl) (fun _ _ _ h=>h) (Or.inl ⟨by rfl,?_⟩) hF (fun hA=>?_)
 rotate_left
 ·intro wS hSw;(try dsimp only at hSw);obtain ⟨s1,s2,s3⟩:=hSw;first | (apply Eq.trans;apply ex_ld_id;exact rfl;exact rfl;assumption;with_reducible rfl) | (go_simp;try with_reducible rfl)
 try simp only [sA1,sA2,sA3,Act.put,sA4,sA5,sA6]
 refine wpAnyN_take (i:=8) (v:=?_) hA rfl (by decide) (by kernel_rfl) (by kernel_rfl) (fun _ _ _ h=>h) (Or.inl ⟨by rfl,?_⟩) hF (fun hA=>?_)
 rotate_left
 ·intro wS hSw;(try dsimp only at hSw);obtain ⟨s1,s2,s3⟩:=hSw;first | (apply Eq.trans;apply ex_ld_id;exact rfl;exact rfl;assumption;with_reducible rfl) | (go_simp;try with_reducible rfl)
 try simp only [sA1,sA2,sA3,Act.put,sA4,sA5,sA6]
 refine wpAnyN_one (i:=9) hA (by kernel_rfl) (by decide) rfl (fun K hK=>?_)
 go_simp
 have F2:Fr noB w ((w.alloc (ido x)).alloc (.cells #[.slice none 0 0,.int .i64 0] 128)).drew:=(((Fr.refl noB w).alloc _).alloc _).drew
 have h2:=h.fr0 F2
 refine hK.out _ _ ⟨h2.c0,h2.all,by simp⟩ (fun hA=>?_)
 clear hK K
 refine wpAnyN_one (i:=10) hA (by kernel_rfl) (by decide) rfl (fun K hK=>?_)
 go_simp
 have F3:Fr noB w ((w.alloc (ido x)).alloc (.cells #[.slice B ((parents G x).getD []).length c,.int .i64 (depthG G x)] 128)).drew:=(((Fr.refl noB w).alloc _).alloc _).drew
 have h3:=h.fr0 F3
 refine hK.out _ _ ⟨h3.c0,h3.all,by simp⟩ (fun hA=>?_)
 clear hK K
 refine wpAnyN_end rfl (by kernel_rfl) ?_
 simp only [List.drop_succ_cons,List.drop_zero]
 go_wp2
 go_ret
 exact ⟨rfl,F3⟩
theorem new_any (w:World):Calls Tryz.prog 30 #[] w fun e w'=>∃ D,e = .returned (.pointer (some ⟨D,0,none⟩)) ∧ DagAt w' D (fun b=>w.heap.size ≤ b ∧ b < w'.heap.size) [] ∧ Fr noB w w':=by
 go_enter Tryz.func30,Tryz.ntmps30
 go_wp2
 go_ret
 refine ⟨_,rfl,⟨w.heap.size,w.heap.size + 1,[],[],?_⟩,(((Fr.refl _ _).alloc _).alloc _).alloc _⟩
 refine ⟨?_,?_,?_,by omega,by simp;omega,by simp;omega,by simp,rfl,by simp,(fun x ps h=>by cases h),(fun b hb=>hb.2),trivial,by simp⟩
 ·have:=Blk.new ((w.alloc (.map #[] 0)).alloc (.map #[] 0)) 104 [.map (some w.heap.size),.map (some (w.heap.size + 1))]
  simpa using this
 ·rw [mpI_old _ _ _ (by simp;omega),mpI_old _ _ _ (by simp),mpI_new]
 ·rw [mpI_old _ _ _ (by simp)]
  have:=mpI_new (w.alloc (.map #[] 0))
  rw [World.size_alloc] at this
  exact this
end Go.Proofs.YtjpieiccpbcabaaGreat
namespace Go.Proofs.YtjpieiccpbcabaaGreat
open Go.RowKit Go.Maps Go.Sort
theorem asc_iff (ps:List ID):asc ps = true ↔ ∀ k,k + 1 < ps.length → cmpI (ps.getD k zID) (ps.getD (k + 1) zID) < 0:=by
 induction ps with
 | nil=>simp [asc]
 | cons x l ih =>
  cases l with
  | nil=>simp [asc]
  | cons y l =>
   simp only [asc,Bool.and_eq_true,decide_eq_true_eq,ih]
   constructor
   ·rintro ⟨h1,h2⟩ k hk
    cases k with
    | zero=>simpa using h1
    | succ k=>have:=h2 k (by simpa using hk);simpa using this
   ·intro h
    exact ⟨by simpa using h 0 (by simp),fun k hk=>by simpa using h (k + 1) (by simpa using hk)⟩
theorem Sl.adG {w:World} {A:Option Addr} {l:List ID} (h:Sl w A (idc l)) (hl:0 < l.length):∃ g off,A = some ⟨g,off,none⟩:=by
 obtain ⟨g,off,e,_⟩:=h (by intro h0;have:=idc_length l;rw [h0] at this;simp at this;omega)
 exact ⟨g,off,e⟩
def RtR (w:World) (ps:List ID) (gk:Nat) (iv:Value) (wr:World):Prop :=
 ∃ k:Nat,iv = .int .i64 ((k:Int) + 1) ∧ gk = ps.length - k ∧ Fr noB w wr ∧ (∀ j,j < k → cmpI (ps.getD j zID) (ps.getD (j + 1) zID) < 0) ∧ (k = 0 ∨ k < ps.length)
set_option maxRecDepth 100000 in
set_option maxHeartbeats 1000000 in
theorem gright_any (w:World) (x:ID) (A:Option Addr) (c n:Nat) (ps:List ID) (hn:ps.length = n) (hs:Sl w A (idc ps)) (hb:ps.length ≤ 1000000000000) :
  Calls Tryz.prog 61 #[encI x,.slice A n c] w (GivesD w (.bool (rightL x ps))):=by
 subst hn
 go_enter Tryz.func61,Tryz.ntmps61
 go_wp2
 go_loopg [5] ps.length (fun gk iv wr=>RtR (w.alloc (ido x)) ps gk iv wr)
 case atStart=>exact ⟨0,rfl,by simp,Fr.refl _ _,fun j hj=>absurd hj (by omega),.inl rfl⟩
 case round =>
  obtain ⟨k,rfl,rfl,hf,hk,hkl⟩:=hrel
  have F1:Fr noB w wr:=((Fr.refl noB w).alloc _).step0 hf
  have rx:rdI wr w.heap.size 0 = some x:=rdI_fr (rdI_new w x) (by simp) hf (by simp [noB])
  by_cases hlt:k + 1 < ps.length
  ·obtain ⟨g,off,rfl⟩:=hs.adG (by omega)
   have r1:rdI wr.drew g (off + k * 32) = some (ps.getD k zID):=by
    rw [rdI_drew,(hs.fr0 F1).id k (by omega)];simp [show k < ps.length by omega]
   have r2:rdI wr.drew g (off + (k + 1) * 32) = some (ps.getD (k + 1) zID):=by
    rw [rdI_drew,(hs.fr0 F1).id (k + 1) hlt];simp [hlt]
   have HK:=Lib.hid hk
   clear hk
   have i1:(k:Int) + 1 < ps.length:=by omega
   have i0:(k:Int) < ps.length:=by omega
   have p0:(0:Int) ≤ (k:Int):=by omega
   have p1:(0:Int) ≤ (k:Int) + 1:=by omega
   have hw:IntKind.i64.wrap (k:Int) = k:=by rw [IntKind.wrap_i64];omega
   generalize ea:ps.getD k zID = pa at r1
   generalize eb:ps.getD (k + 1) zID = pb at r2
   have EA:=Lib.hid ea
   have EB:=Lib.hid eb
   clear ea eb
   go_wp2_with fail
   refine wp_region_N 10 (fun w'=>rdI w' g (off + k * 32) = some pa ∧ rdI w' g (off + (k + 1) * 32) = some pb) (by kernel_rfl) (by kernel_rfl) ⟨r1,r2⟩ (fun hA hF=>?_)
   refine wpAnyN_take (i:=0) (v:=?_) hA rfl (by decide) (by kernel_rfl) (by kernel_rfl) (fun _ _ _ h=>h) (Or.inl ⟨by rfl,?_⟩) hF (fun hA=>?_)
   rotate_left
   ·intro wS hSw;(try dsimp only at hSw);obtain ⟨s1,s2⟩:=hSw;first | (apply Eq.trans;apply ex_ld_id;exact rfl;exact rfl;assumption;with_reducible rfl) | (go_simp;try with_reducible rfl)
   try simp only [sA1,sA2,sA3,Act.put,sA4,sA5,sA6]
   refine wpAnyN_take (i:=1) (v:=?_) hA rfl (by decide) (by kernel_rfl) (by kernel_rfl) (fun _ _ _ h=>h) (Or.inl ⟨by rfl,?_⟩) hF (fun hA=>?_)
   rotate_left
   ·intro wS hSw;(try dsimp only at hSw);obtain ⟨s1,s2⟩:=hSw;first | (apply Eq.trans;apply ex_ld_id;exact rfl;exact rfl;assumption;with_reducible rfl) | (go_simp;try with_reducible rfl)
   try simp only [sA1,sA2,sA3,Act.put,sA4,sA5,sA6]
   refine wpAnyN_take (i:=2) (v:=?_) hA rfl (by decide) (by kernel_rfl) (by kernel_rfl) (fun _ _ _ h=>h) (Or.inl ⟨by rfl,?_⟩) hF (fun hA=>?_)
   rotate_left
   ·intro wS hSw;(try dsimp only at hSw);obtain ⟨s1,s2⟩:=hSw;first | (apply Eq.trans;apply ex_ld_id;exact rfl;exact rfl;assumption;with_reducible rfl) | (go_simp;try with_reducible rfl)
   try simp only [sA1,sA2,sA3,Act.put,sA4,sA5,sA6]
   refine wpAnyN_take (i:=3) (v:=?_) hA rfl (by decide) (by kernel_rfl) (by kernel_rfl) (fun _ _ _ h=>h) (Or.inl ⟨by rfl,?_⟩) hF (fun hA=>?_)
   rotate_left
   ·intro wS hSw;(try dsimp only at hSw);obtain ⟨s1,s2⟩:=hSw;first | (apply Eq.trans;apply ex_ld_id;exact rfl;exact rfl;assumption;with_reducible rfl) | (go_simp;try with_reducible rfl)
   try simp only [sA1,sA2,sA3,Act.put,sA4,sA5,sA6]
   refine wpAnyN_take (i:=4) (v:=?_) hA rfl (by decide) (by kernel_rfl) (by kernel_rfl) (fun _ _ _ h=>h) (Or.inl ⟨by rfl,?_⟩) hF (fun hA=>?_)
   rotate_left
   ·intro wS hSw;(try dsimp only at hSw);obtain ⟨s1,s2⟩:=hSw;first | (apply Eq.trans;apply ex_ld_id;exact rfl;exact rfl;assumption;with_reducible rfl) | (go_simp;try with_reducible rfl)
   try simp only [sA1,sA2,sA3,Act.put,sA4,sA5,sA6]
   refine wpAnyN_take (i:=5) (v:=?_) hA rfl (by decide) (by kernel_rfl) (by kernel_rfl) (fun _ _ _ h=>h) (Or.inl ⟨by rfl,?_⟩) hF (fun hA=>?_)
   rotate_left
   ·intro wS hSw;(try dsimp only at hSw);obtain ⟨s1,s2⟩:=hSw;first | (apply Eq.trans;apply ex_ld_id;exact rfl;exact rfl;assumption;with_reducible rfl) | (go_simp;try with_reducible rfl)
   try simp only [sA1,sA2,sA3,Act.put,sA4,sA5,sA6]
   refine wpAnyN_take (i:=6) (v:=?_) hA rfl (by decide) (by kernel_rfl) (by kernel_rfl) (fun _ _ _ h=>h) (Or.inl ⟨by rfl,?_⟩) hF (fun hA=>?_)
   rotate_left
   ·intro wS hSw;(try dsimp only at hSw);obtain ⟨s1,s2⟩:=hSw;first | (apply Eq.trans;apply ex_ld_id;exact rfl;exact rfl;assumption;with_reducible rfl) | (go_simp;try with_reducible rfl)
   try simp only [sA1,sA2,sA3,Act.put,sA4,sA5,sA6]
   refine wpAnyN_take (i:=7) (v:=?_) hA rfl (by decide) (by kernel_rfl) (by kernel_rfl) (fun _ _ _ h=>h) (Or.inl ⟨by rfl,?_⟩) hF (fun hA=>?_)
   rotate_left
   ·intro wS hSw;(try dsimp only at hSw);obtain ⟨s1,s2⟩:=hSw;first | (apply Eq.trans;apply ex_ld_id;exact rfl;exact rfl;assumption;with_reducible rfl) | (go_simp;try with_reducible rfl)
   try simp only [sA1,sA2,sA3,Act.put,sA4,sA5,sA6]
   refine wpAnyN_take (i:=8) (v:=?_) hA rfl (by decide) (by kernel_rfl) (by kernel_rfl) (fun _ _ _ h=>h) (Or.inl ⟨by rfl,?_⟩) hF (fun hA=>?_)
   rotate_left
   ·intro wS hSw;(try dsimp only at hSw);obtain ⟨s1,s2⟩:=hSw;first | (apply Eq.trans;apply ex_ld_id;exact rfl;exact rfl;assumption;with_reducible rfl) | (go_simp;try with_reducible rfl)
   try simp only [sA1,sA2,sA3,Act.put,sA4,sA5,sA6]
   refine wpAnyN_one (i:=9) hA (by kernel_rfl) (by decide) rfl (fun K hK=>?_)
   go_simp
   go_at_call 88
   refine (cmp_any _ pa pb).mono ?_
   rintro e w1 hcm
   have hf1:=hcm.fr
   obtain ⟨rfl,_⟩:=hcm
   have q1:=rdI_fr r1 (rdI_lt r1) hf1 (by simp [noB])
   have q2:=rdI_fr r2 (rdI_lt r2) hf1 (by simp [noB])
   refine hK.out _ _ ⟨q1,q2⟩ (fun hA=>?_)
   clear hK K
   refine wpAnyN_end rfl (by kernel_rfl) ?_
   simp only [List.drop_succ_cons,List.drop_zero]
   have F2:Fr noB (w.alloc (ido x)) w1:=hf.drew.step0 hf1
   by_cases hc:0 ≤ cmpI pa pb
   ·go_wp2
    go_ret
    refine ⟨?_,((Fr.refl noB w).alloc _).step0 F2⟩
    have:asc ps = false:=by
     cases ha:asc ps with
     | false=>rfl
     | true =>
      have:=(asc_iff ps).1 ha k hlt
      rw [EA.out,EB.out] at this
      omega
    simp [rightL,this]
   ·go_wp2
    go_roundg (ps.length - (k + 1))
    case measure=>omega
    case rel =>
     refine ⟨k + 1,by simp,rfl,F2,fun j hj=>?_,.inr hlt⟩
     rcases Nat.lt_or_ge j k with h | h
     ·exact HK.out j h
     ·have:j = k:=by omega
      subst this
      rw [EA.out,EB.out]
      omega
  ·have i1:¬ ((k:Int) + 1 < ps.length):=by omega
   have ha:asc ps = true:=(asc_iff ps).2 (fun j hj=>hk j (by omega))
   have HA:=Lib.hid ha
   clear ha hk
   by_cases hx:x = zID
   ·go_wp2
    go_ret
    exact ⟨by simp [rightL],F1⟩
   ·go_wp2
    go_ret
    refine ⟨?_,F1⟩
    have e:decide ((ps.length:Int) ≤ 2) = decide (ps.length ≤ 2):=by
     rw [decide_eq_decide];omega
    simp [rightL,HA.out,hx,e]
def EqR (w:World) (l m:List ID) (gk:Nat) (iv:Value) (wr:World):Prop :=
 ∃ k:Nat,iv = .int .i64 (k:Int) ∧ gk = l.length - k ∧ Fr noB w wr ∧ l.take k = m.take k ∧ k ≤ l.length
set_option maxRecDepth 100000 in
set_option maxHeartbeats 1000000 in
theorem equal_any (w:World) (A B:Option Addr) (c d n1 n2:Nat) (l m:List ID) (h1:l.length = n1) (h2:m.length = n2) (hA:Sl w A (idc l)) (hB:Sl w B (idc m)) (hb:l.length ≤ 1000000000000) (hb2:m.length ≤ 1000000000000) :
  Calls Tryz.prog 62 #[.slice A n1 c,.slice B n2 d] w (GivesD w (.bool (decide (l = m)))):=by
 subst h1 h2
 by_cases hl:l.length = m.length
 ·have hli:(l.length:Int) = m.length:=by omega
  go_enter Tryz.func62,Tryz.ntmps62
  go_wp2
  go_loopg [13] l.length (fun gk iv wr=>EqR w l m gk iv wr)
  case atStart=>exact ⟨0,rfl,by simp,Fr.refl _ _,rfl,by omega⟩
  case round =>
   obtain ⟨k,rfl,rfl,hf,hk,hkl⟩:=hrel
   by_cases hlt:k < l.length
   ·obtain ⟨g,off,rfl⟩:=hA.adG (by omega)
    obtain ⟨g2,off2,rfl⟩:=hB.adG (by omega)
    have r1:rdI wr.drew g (off + k * 32) = some l[k]:=by rw [rdI_drew,(hA.fr0 hf).id k hlt]
    have r2:rdI wr.drew g2 (off2 + k * 32) = some (m[k]'(by omega)):=by rw [rdI_drew,(hB.fr0 hf).id k (by omega)]
    have HK:=Lib.hid hk
    clear hk
    have i1:(k:Int) < l.length:=by omega
    have i2:(k:Int) < m.length:=by omega
    have p0:(0:Int) ≤ (k:Int):=by omega
    generalize ea:l[k] = pa at r1
    generalize eb:m[k]'(by omega) = pb at r2
    have EA:=Lib.hid ea
    have EB:=Lib.hid eb
    clear ea eb
    go_wp2_with fail
    refine wp_region_H (fun w'=>rdI w' g (off + k * 32) = some pa ∧ rdI w' g2 (off2 + k * 32) = some pb) (by kernel_rfl) ⟨r1,r2⟩ (fun hF=>?_)
    refine wpAnyH_take (i:=0) (v:=?_) rfl (by kernel_rfl) (by kernel_rfl) (by kernel_rfl) (fun _ _ _ h=>h) (Or.inl ⟨by rfl,?_⟩) hF ?_
    rotate_left
    ·intro wS hSw;(try dsimp only at hSw);obtain ⟨s1,s2⟩:=hSw;first | (apply Eq.trans;apply ex_ld_id;exact rfl;exact rfl;assumption;with_reducible rfl) | (go_simp;try with_reducible rfl)
    try simp only [sA1,sA2,sA3,Act.put,sA4,sA5,sA6]
    refine wpAnyH_take (i:=1) (v:=?_) rfl (by kernel_rfl) (by kernel_rfl) (by kernel_rfl) (fun _ _ _ h=>h) (Or.inl ⟨by rfl,?_⟩) hF ?_
    rotate_left
    ·intro wS hSw;(try dsimp only at hSw);obtain ⟨s1,s2⟩:=hSw;first | (apply Eq.trans;apply ex_ld_id;exact rfl;exact rfl;assumption;with_reducible rfl) | (go_simp;try with_reducible rfl)
    try simp only [sA1,sA2,sA3,Act.put,sA4,sA5,sA6]
    refine wpAnyH_take (i:=2) (v:=?_) rfl (by kernel_rfl) (by kernel_rfl) (by kernel_rfl) (fun _ _ _ h=>h) (Or.inl ⟨by rfl,?_⟩) hF ?_
    rotate_left
    ·intro wS hSw;(try dsimp only at hSw);obtain ⟨s1,s2⟩:=hSw;first | (apply Eq.trans;apply ex_ld_id;exact rfl;exact rfl;assumption;with_reducible rfl) | (go_simp;try with_reducible rfl)
    try simp only [sA1,sA2,sA3,Act.put,sA4,sA5,sA6]
    refine wpAnyH_take (i:=3) (v:=?_) rfl (by kernel_rfl) (by kernel_rfl) (by kernel_rfl) (fun _ _ _ h=>h) (Or.inl ⟨by rfl,?_⟩) hF ?_
    rotate_left
    ·intro wS hSw;(try dsimp only at hSw);obtain ⟨s1,s2⟩:=hSw;first | (apply Eq.trans;apply ex_ld_id;exact rfl;exact rfl;assumption;with_reducible rfl) | (go_simp;try with_reducible rfl)
    try simp only [sA1,sA2,sA3,Act.put,sA4,sA5,sA6]
    refine wpAnyH_take (i:=4) (v:=?_) rfl (by kernel_rfl) (by kernel_rfl) (by kernel_rfl) (fun _ _ _ h=>h) (Or.inl ⟨by rfl,?_⟩) hF ?_
    rotate_left
    ·intro wS hSw;(try dsimp only at hSw);obtain ⟨s1,s2⟩:=hSw;first | (apply Eq.trans;apply ex_ld_id;exact rfl;exact rfl;assumption;with_reducible rfl) | (go_simp;try with_reducible rfl)
    try simp only [sA1,sA2,sA3,Act.put,sA4,sA5,sA6]
    refine wpAnyH_take (i:=5) (v:=?_) rfl (by kernel_rfl) (by kernel_rfl) (by kernel_rfl) (fun _ _ _ h=>h) (Or.inl ⟨by rfl,?_⟩) hF ?_
    rotate_left
    ·intro wS hSw;(try dsimp only at hSw);obtain ⟨s1,s2⟩:=hSw;first | (apply Eq.trans;apply ex_ld_id;exact rfl;exact rfl;assumption;with_reducible rfl) | (go_simp;try with_reducible rfl)
    try simp only [sA1,sA2,sA3,Act.put,sA4,sA5,sA6]
    refine wpAnyH_take (i:=6) (v:=?_) rfl (by kernel_rfl) (by kernel_rfl) (by kernel_rfl) (fun _ _ _ h=>h) (Or.inl ⟨by rfl,?_⟩) hF ?_
    rotate_left
    ·intro wS hSw;(try dsimp only at hSw);obtain ⟨s1,s2⟩:=hSw;first | (apply Eq.trans;apply ex_ld_id;exact rfl;exact rfl;assumption;with_reducible rfl) | (go_simp;try with_reducible rfl)
    try simp only [sA1,sA2,sA3,Act.put,sA4,sA5,sA6]
    refine wpAnyH_take (i:=7) (v:=?_) rfl (by kernel_rfl) (by kernel_rfl) (by kernel_rfl) (fun _ _ _ h=>h) (Or.inl ⟨by rfl,?_⟩) hF ?_
    rotate_left
    ·intro wS hSw;(try dsimp only at hSw);obtain ⟨s1,s2⟩:=hSw;first | (apply Eq.trans;apply ex_ld_id;exact rfl;exact rfl;assumption;with_reducible rfl) | (go_simp;try with_reducible rfl)
    try simp only [sA1,sA2,sA3,Act.put,sA4,sA5,sA6]
    refine wpAnyH_take (i:=8) (v:=?_) rfl (by kernel_rfl) (by kernel_rfl) (by kernel_rfl) (fun _ _ _ h=>h) (Or.inl ⟨by rfl,?_⟩) hF ?_
    rotate_left
    ·intro wS hSw;(try dsimp only at hSw);obtain ⟨s1,s2⟩:=hSw;first | (apply Eq.trans;apply ex_ld_id;exact rfl;exact rfl;assumption;with_reducible rfl) | (go_simp;try with_reducible rfl)
    try simp only [sA1,sA2,sA3,Act.put,sA4,sA5,sA6]
    refine wpAnyH_done (by kernel_rfl) ?_ _
    clear hF
    by_cases hab:pa = pb
    ·subst hab
     go_wp2
     go_roundg (l.length - (k + 1))
     case measure=>omega
     case rel =>
      refine ⟨k + 1,by simp,rfl,hf.drew,?_,by omega⟩
      rw [List.take_add_one,List.take_add_one,HK.out,List.getElem?_eq_getElem hlt,List.getElem?_eq_getElem (by omega),EA.out,EB.out]
    ·have hd:decide (pa = pb) = false:=by simp [hab]
     have hab2:=Lib.hid hab
     clear hab
     go_wp2
     go_ret
     refine ⟨?_,hf.drew⟩
     have hab:=hab2.out
     have:l ≠ m:=by
      rintro rfl
      exact hab (EA.out.symm.trans EB.out)
     simp [this]
     exfalso
     simp_all
   ·have i1:¬ (k:Int) < l.length:=by omega
    have e:l = m:=by
     have e1:k = l.length:=by omega
     rw [e1,List.take_length,hl,List.take_length] at hk
     exact hk
    have E:=Lib.hid e
    clear e hk
    go_wp2
    go_ret
    exact ⟨by simp [E.out],hf⟩
 ·have hli:¬ (l.length:Int) = m.length:=by omega
  go_enter Tryz.func62,Tryz.ntmps62
  go_wp2
  go_ret
  exact ⟨by have:l ≠ m:=fun e=>hl (by rw [e])
            simp [this],Fr.refl _ _⟩
end Go.Proofs.YtjpieiccpbcabaaGreat
namespace Go.Proofs.YtjpieiccpbcabaaGreat
open Go.RowKit Go.Maps Go.Sort
def grF (F:Nat → Prop) (w w':World):Nat → Prop:=fun b=>F b ∨ (w.heap.size ≤ b ∧ b < w'.heap.size)
def AddTo (w:World) (D:Nat) (F:Nat → Prop) (G:Dg) (x:ID) (ps:List ID) (e:Ending) (w':World):Prop :=
 e = .returned (.int .i64 ((addG G x ps).1:Nat)) ∧ DagAt w' D (grF F w w') (addG G x ps).2 ∧ Fr F w w'
section
variable {w w':World} {D A K:Nat} {kv:List (ID × Value)} {ks:List ID} {F:Nat → Prop} {G:Dg}
theorem DagA.grow (h:DagA w D A K kv ks F G) {F':Nat → Prop} (hF:∀ b,F b → F' b) (hl:∀ b,F' b → b < w.heap.size):DagA w D A K kv ks F' G :=
 ⟨h.blk,h.all,h.kids,h.ne,hF _ h.fD,hF _ h.fA,hF _ h.fK,h.keys,h.par,fun x ps hp=>by obtain ⟨B,c,h1,h2,h3⟩:=h.vals x ps hp;exact ⟨B,c,h1,h2,h3.mono hF⟩,hl,h.ok,h.le⟩
theorem DagA.same (h:DagA w D A K kv ks F G) (f:Fr noB w w'):DagAt w' D (grF F w w') G :=
 ⟨A,K,kv,ks,(h.fr0 f).grow (fun b hb=>.inl hb) (fun b hb=>hb.elim (fun h'=>Nat.lt_of_lt_of_le (h.lt b h') f.size) (fun h'=>h'.2))⟩
end
theorem Sl.frM {M:Nat → Prop} {w w':World} {A:Option Addr} {xs:List Value} (hs:Sl w A xs) (f:Fr M w w') (hM:∀ b,b < w.heap.size → M b → ∃ kv,mpI w b = some kv):Sl w' A xs:=by
 intro hne
 obtain ⟨g,off,e,hg,hc⟩:=hs hne
 have hnm:¬ M g:=by
  intro hm
  obtain ⟨kv,hk⟩:=hM g hg hm
  cases xs with
  | nil=>exact hne rfl
  | cons u us =>
   have:=hc 0 u rfl
   rw [mp_cell hk] at this
   cases this
 exact ⟨g,off,e,Nat.lt_of_lt_of_le hg f.size,fun j u hu=>(World.cell?_of_block (w:=w) (a:=⟨g,off + j,none⟩) (f.block g hg hnm)).trans (hc j u hu)⟩
theorem rdI_ne {w:World} {g o r:Nat} {x:ID} {kv:List (ID × Value)} (h:rdI w g o = some x) (hm:mpI w r = some kv):g ≠ r:=by
 rintro rfl
 have hl:0 < (bv x.1).length:=by simp [x.2]
 have:=rdI_rd h 0 _ (List.getElem?_eq_getElem hl)
 rw [mp_cell hm] at this
 cases this
theorem putL_new {kv:List (ID × Value)} {x:ID} (h:look kv x = none) (v:Value):putL kv x v = kv ++ [(x,v)]:=by
 unfold putL;rw [h];simp
theorem look_snoc (kv:List (ID × Value)) (x:ID) (v:Value) (y:ID):look (kv ++ [(x,v)]) y = (look kv y).or (if x = y then some v else none):=by
 unfold look
 rw [List.find?_append]
 cases List.find? (fun p=>decide (p.1 = y)) kv with
 | some p=>simp
 | none=>by_cases h:x = y <;> simp [h]
def twoB (A K:Nat):Nat → Prop:=fun b=>b = A ∨ b = K
theorem DagA.more {w w':World} {D A K:Nat} {kv:List (ID × Value)} {ks ks':List ID} {F:Nat → Prop} {G:Dg} (h:DagA w D A K kv ks F G) (hle:G.length < 1000000) {x:ID} {ps:List ID}
  (hr:rightL x ps = true) (hp:parents G x = none) (ha:∀ p ∈ ps,hasG G p = true) (f:Fr (twoB A K) w w') {B:Option Addr} {c:Nat}
  (hA:mpI w' A = some (putL kv x (nodeV B ps.length c (upD (depthG G) ps)))) (hK:mpI w' K = some (setV ks')) (hks:∀ y,y ∈ ks' ↔ y ∈ ks ∨ y ∈ ps)
  (hS:Sl w' B (idc ps)) (hO:Off B (fun b=>w.heap.size ≤ b ∧ b < w'.heap.size)):DagAt w' D (grF F w w') ((x,ps) :: G):=by
 have hM:∀ b,b < w.heap.size → twoB A K b → ∃ kv,mpI w b = some kv:=by
  rintro b _ (rfl | rfl)
  ·exact ⟨_,h.all⟩
  ·exact ⟨_,h.kids⟩
 have nDA:D ≠ A:=mp_ne h.all h.blk
 have nDK:D ≠ K:=mp_ne h.kids h.blk
 have hlk:=h.look0 hp
 rw [putL_new hlk] at hA
 refine ⟨A,K,_,ks',h.blk.fr f (by rintro (e | e);exact nDA e;exact nDK e),hA,hK,h.ne,.inl h.fD,.inl h.fA,.inl h.fK,?_,?_,?_,?_,?_,?_⟩
 ·simp [h.keys]
 ·intro y
  rw [hks,h.par]
  constructor
  ·rintro (⟨p,hp1,hp2⟩ | h1)
   ·exact ⟨p,List.mem_cons_of_mem _ hp1,hp2⟩
   ·exact ⟨(x,ps),List.mem_cons_self ..,h1⟩
  ·rintro ⟨p,hp1,hp2⟩
   rcases List.mem_cons.1 hp1 with rfl | hp1
   ·exact .inr hp2
   ·exact .inl ⟨p,hp1,hp2⟩
 ·intro y q hq
  rw [look_snoc]
  unfold parents at hq
  split at hq
  ·rename_i e
   subst e
   injection hq with hq
   subst hq
   refine ⟨B,c,?_,hS,hO.mono (fun b hb=>.inr hb)⟩
   rw [hlk]
   simp [depthG]
  ·rename_i e
   obtain ⟨B',c',h1,h2,h3⟩:=h.vals y q hq
   refine ⟨B',c',?_,h2.frM f hM,h3.mono (fun b hb=>.inl hb)⟩
   rw [h1]
   simp [depthG,e]
 ·intro b hb
  exact hb.elim (fun h'=>Nat.lt_of_lt_of_le (h.lt b h') f.size) (fun h'=>h'.2)
 ·exact ⟨hr,by simp [hasG,hp],ha,h.ok⟩
 ·simp only [List.length_cons];omega
def AddR (G:Dg) (ps:List ID) (wA:World) (N:Nat) (sv:Value) (gk:Nat) (iv:Value) (wr:World):Prop :=
 ∃ k:Nat,iv = .int .i64 (k:Int) ∧ gk = ps.length - k ∧ Fr (oneB N) wA wr ∧ Blk wr N 128 [sv,.int .i64 (upD (depthG G) (ps.take k):Nat)] ∧ (∀ p ∈ ps.take k,hasG G p = true) ∧ k ≤ ps.length
theorem upD_take (f:ID → Nat) (ps:List ID) (k:Nat) (p:ID) (h:ps[k]? = some p):upD f (ps.take (k + 1)) = max (upD f (ps.take k)) (f p + 1):=by
 rw [List.take_add_one,h]
 simp [upD,List.foldl_append]
theorem AddR.next {G:Dg} {ps:List ID} {wA wa:World} {N k:Nat} {sv dv:Value} {p:ID} {d:Int} (f:Fr (oneB N) wA wa) (hb:Blk wa N 128 [sv,dv]) (hk:∀ p ∈ ps.take k,hasG G p = true) (hp:ps[k]? = some p) (hG:hasG G p = true)
  (hd:d = ((upD (depthG G) (ps.take (k + 1)):Nat):Int)):AddR G ps wA N sv (ps.length - (k + 1)) (.int .i64 ((k:Int) + 1)) (wa.setCell ⟨N,1,none⟩ (.int .i64 d)):=by
 subst hd
 refine ⟨k + 1,by simp,rfl,f.setCell (fun _=>by simp [oneB]) _,hb.set 1 _,?_,?_⟩
 ·intro q hq
  rw [List.take_add_one,hp] at hq
  rcases List.mem_append.1 hq with h | h
  ·exact hk q h
  ·simp at h;rw [h];exact hG
 ·exact (List.getElem?_eq_some_iff.1 hp).1
def KidR (ks ps:List ID) (wA:World) (K:Nat) (gk:Nat) (iv:Value) (wr:World):Prop :=
 ∃ (k:Nat) (ks':List ID),iv = .int .i64 (k:Int) ∧ gk = ps.length - k ∧ Fr (oneB K) wA wr ∧ mpI wr K = some (setV ks') ∧ (∀ y,y ∈ ks' ↔ y ∈ ks ∨ y ∈ ps.take k) ∧ k ≤ ps.length
set_option maxRecDepth 100000 in
set_option maxHeartbeats 2000000 in
theorem add_any (w:World) (D:Nat) (F:Nat → Prop) (G:Dg) (h:DagAt w D F G) (hle:G.length < 1000000) (x:ID) (P:Option Addr) (c n:Nat) (ps:List ID) (hn:ps.length = n) (hs:Sl w P (idc ps)) (hb:ps.length ≤ 1000000000000) :
  Calls Tryz.prog 35 #[.pointer (some ⟨D,0,none⟩),encI x,.slice P n c] w (AddTo w D F G x ps):=by
 subst hn
 obtain ⟨A,K,kv,ks,h⟩:=h
 have F1:Fr noB w (w.alloc (ido x)):=(Fr.refl noB w).alloc _
 go_enter Tryz.func35,Tryz.ntmps35
 go_wp2_with fail
 go_at_call 61
 refine (gright_any _ x P c _ ps rfl (hs.fr0 F1) hb).mono ?_
 rintro e w2 ⟨rfl,hf2⟩
 have F2:=F1.step0 hf2
 cases hr:rightL x ps with
 | false =>
  go_wp2
  go_ret
  have ea:addG G x ps = (1,G):=by simp [addG,hr]
  rw [AddTo,ea]
  exact ⟨rfl,h.same F2,F2.any⟩
 | true =>
  obtain ⟨B,cB,hn,hB,hBF⟩:=h.node x
  have hsm:=h.isSome x
  have rx:rdI w2.drew w.heap.size 0 = some x:=by rw [rdI_drew];exact rdI_fr (rdI_new w x) (by simp) hf2 (by simp [noB])
  have h2:=h.fr0 F2.drew
  have d0:=h2.c0
  have da:=h2.all
  go_wp2_with fail
  refine wp_region_N 11 (fun w'=>w'.cell? ⟨D,0,none⟩ = some (.map (some A)) ∧ mpI w' A = some kv ∧ rdI w' w.heap.size 0 = some x) (by kernel_rfl) (by kernel_rfl) ⟨d0,da,rx⟩ (fun hA hF=>?_)
  refine wpAnyN_take (i:=0) (v:=?_) hA rfl (by decide) (by kernel_rfl) (by kernel_rfl) (fun _ _ _ h=>h) (Or.inl ⟨by rfl,?_⟩) hF (fun hA=>?_)
  rotate_left
  ·intro wS hSw;(try dsimp only at hSw);obtain ⟨s1,s2,s3⟩:=hSw;first | (apply Eq.trans;apply ex_ld_id;exact rfl;exact rfl;assumption;with_reducible rfl) | (go_simp;try with_reducible rfl)
  try simp only [sA1,sA2,sA3,Act.put,sA4,sA5,sA6]
  refine wpAnyN_take (i:=1) (v:=?_) hA rfl (by decide) (by kernel_rfl) (by kernel_rfl) (fun _ _ _ h=>h) (Or.inl ⟨by rfl,?_⟩) hF (fun hA=>?_)
  rotate_left
  ·intro wS hSw;(try dsimp only at hSw);obtain ⟨s1,s2,s3⟩:=hSw;first | (apply Eq.trans;apply ex_ld_id;exact rfl;exact rfl;assumption;with_reducible rfl) | (go_simp;try with_reducible rfl)
  try simp only [sA1,sA2,sA3,Act.put,sA4,sA5,sA6]
  refine wpAnyN_take (i:=2) (v:=?_) hA rfl (by decide) (by kernel_rfl) (by kernel_rfl) (fun _ _ _ h=>h) (Or.inl ⟨by rfl,?_⟩) hF (fun hA=>?_)
  rotate_left
  ·intro wS hSw;(try dsimp only at hSw);obtain ⟨s1,s2,s3⟩:=hSw;first | (apply Eq.trans;apply ex_ld_id;exact rfl;exact rfl;assumption;with_reducible rfl) | (go_simp;try with_reducible rfl)
  try simp only [sA1,sA2,sA3,Act.put,sA4,sA5,sA6]
  refine wpAnyN_take (i:=3) (v:=?_) hA rfl (by decide) (by kernel_rfl) (by kernel_rfl) (fun _ _ _ h=>h) (Or.inl ⟨by rfl,?_⟩) hF (fun hA=>?_)
  rotate_left
  ·intro wS hSw;(try dsimp only at hSw);obtain ⟨s1,s2,s3⟩:=hSw;first | (apply Eq.trans;apply ex_ld_id;exact rfl;exact rfl;assumption;with_reducible rfl) | (go_simp;try with_reducible rfl)
  try simp only [sA1,sA2,sA3,Act.put,sA4,sA5,sA6]
  refine wpAnyN_take (i:=4) (v:=?_) hA rfl (by decide) (by kernel_rfl) (by kernel_rfl) (fun _ _ _ h=>h) (Or.inl ⟨by rfl,?_⟩) hF (fun hA=>?_)
  rotate_left
  ·intro wS hSw;(try dsimp only at hSw);obtain ⟨s1,s2,s3⟩:=hSw;first | (apply Eq.trans;apply ex_ld_id;exact rfl;exact rfl;assumption;with_reducible rfl) | (go_simp;try with_reducible rfl)
  try simp only [sA1,sA2,sA3,Act.put,sA4,sA5,sA6]
  refine wpAnyN_take (i:=5) (v:=?_) hA rfl (by decide) (by kernel_rfl) (by kernel_rfl) (fun _ _ _ h=>h) (Or.inl ⟨by rfl,?_⟩) hF (fun hA=>?_)
  rotate_left
  ·intro wS hSw;(try dsimp only at hSw);obtain ⟨s1,s2,s3⟩:=hSw;first | (apply Eq.trans;apply ex_ld_id;exact rfl;exact rfl;assumption;with_reducible rfl) | (go_simp;try with_reducible rfl)
  try simp only [sA1,sA2,sA3,Act.put,sA4,sA5,sA6]
  refine wpAnyN_take (i:=6) (v:=?_) hA rfl (by decide) (by kernel_rfl) (by kernel_rfl) (fun _ _ _ h=>h) (Or.inl ⟨by rfl,?_⟩) hF (fun hA=>?_)
  rotate_left
  ·intro wS hSw;(try dsimp only at hSw);obtain ⟨s1,s2,s3⟩:=hSw;first | (apply Eq.trans;apply ex_ld_id;exact rfl;exact rfl;assumption;with_reducible rfl) | (go_simp;try with_reducible rfl)
  try simp only [sA1,sA2,sA3,Act.put,sA4,sA5,sA6]
  refine wpAnyN_take (i:=7) (v:=?_) hA rfl (by decide) (by kernel_rfl) (by kernel_rfl) (fun _ _ _ h=>h) (Or.inl ⟨by rfl,?_⟩) hF (fun hA=>?_)
  rotate_left
  ·intro wS hSw;(try dsimp only at hSw);obtain ⟨s1,s2,s3⟩:=hSw;first | (apply Eq.trans;apply ex_ld_id;exact rfl;exact rfl;assumption;with_reducible rfl) | (go_simp;try with_reducible rfl)
  try simp only [sA1,sA2,sA3,Act.put,sA4,sA5,sA6]
  refine wpAnyN_take (i:=8) (v:=?_) hA rfl (by decide) (by kernel_rfl) (by kernel_rfl) (fun _ _ _ h=>h) (Or.inl ⟨by rfl,?_⟩) hF (fun hA=>?_)
  rotate_left
  ·intro wS hSw;(try dsimp only at hSw);obtain ⟨s1,s2,s3⟩:=hSw;first | (apply Eq.trans;apply ex_ld_id;exact rfl;exact rfl;assumption;with_reducible rfl) | (go_simp;try with_reducible rfl)
  try simp only [sA1,sA2,sA3,Act.put,sA4,sA5,sA6]
  refine wpAnyN_one (i:=9) hA (by kernel_rfl) (by decide) rfl (fun K hK=>?_)
  go_simp
  have F3:Fr noB w (w2.alloc (.cells #[.slice none 0 0,.int .i64 0] 128)).drew:=(F2.alloc _).drew
  have lx:w.heap.size < w2.heap.size:=rdI_lt rx
  have h3:=h.fr0 F3
  refine hK.out _ _ ⟨h3.c0,h3.all,by rw [rdI_drew,rdI_old _ _ _ _ lx,← rdI_drew];exact rx⟩ (fun hA=>?_)
  clear hK K
  refine wpAnyN_one (i:=10) hA (by kernel_rfl) (by decide) rfl (fun K hK=>?_)
  go_simp
  have F4:Fr noB w (w2.alloc (.cells #[.slice B ((parents G x).getD []).length cB,.int .i64 (depthG G x)] 128)).drew:=(F2.alloc _).drew
  have h4:=h.fr0 F4
  have rx4:rdI (w2.alloc (.cells #[.slice B ((parents G x).getD []).length cB,.int .i64 (depthG G x)] 128)).drew w.heap.size 0 = some x:=by rw [rdI_drew,rdI_old _ _ _ _ lx,← rdI_drew];exact rx
  have b4:Blk (w2.alloc (.cells #[.slice B ((parents G x).getD []).length cB,.int .i64 (depthG G x)] 128)).drew w2.heap.size 128 [.slice B ((parents G x).getD []).length cB,.int .i64 (depthG G x)]:=Blk.new w2 128 _
  refine hK.out _ _ ⟨h4.c0,h4.all,rx4⟩ (fun hA=>?_)
  clear hK K
  refine wpAnyN_end rfl (by kernel_rfl) ?_
  simp only [List.drop_succ_cons,List.drop_zero]
  generalize ew:(w2.alloc (.cells #[.slice B ((parents G x).getD []).length cB,.int .i64 (depthG G x)] 128)).drew = w4 at F4 h4 rx4 b4 ⊢
  have lN:w2.heap.size < w4.heap.size:=b4.lt
  clear ew h3 F3 d0 da rx h2 hF
  cases hp:parents G x with
  | some q =>
   have hG:hasG G x = true:=by simp [hasG,hp]
   rw [hp] at b4 hB
   simp only [Option.getD_some] at b4 hB
   have k0:=Blk.cell b4 0
   simp only [List.getElem?_cons_zero] at k0
   have hq:=okG_par h.ok hp
   rw [hG]
   go_wp2_with fail
   go_at_call 62
   refine (equal_any _ B P cB c _ _ q ps rfl rfl (hB.fr0 F4) (hs.fr0 F4) (by omega) hb).mono ?_
   rintro e w5 ⟨rfl,hf5⟩
   have F5:=F4.step0 hf5
   by_cases hqp:q = ps
   ·have ea:addG G x ps = (0,G):=by simp [addG,hr,hp,hqp]
    have hd:decide (q = ps) = true:=by simp [hqp]
    have HQ:=Lib.hid hqp
    clear hqp
    go_wp2
    go_ret
    rw [AddTo,ea]
    exact ⟨rfl,h.same F5,F5.any⟩
   ·have ea:addG G x ps = (5,G):=by simp [addG,hr,hp,hqp]
    have hd:decide (q = ps) = false:=by simp [hqp]
    have HQ:=Lib.hid hqp
    clear hqp
    go_wp2
    go_ret
    rw [AddTo,ea]
    exact ⟨rfl,h.same F5,F5.any⟩
  | none =>
   have hG:hasG G x = false:=by simp [hasG,hp]
   rw [hG]
   go_wp2_with fail
   go_at_call 63
   refine (idclone_any _ P c ps _ rfl (hs.fr0 F4) hb).mono ?_
   rintro e w5 ⟨A5,c5,rfl,ho5,hf5⟩
   have F5:=F4.step0 hf5
   have F6:Fr noB w (w5.alloc (.cells #[.slice A5 ps.length c5,.int .i64 1] 128)):=F5.alloc _
   have b6:Blk (w5.alloc (.cells #[.slice A5 ps.length c5,.int .i64 1] 128)) w5.heap.size 128 [.slice A5 ps.length c5,.int .i64 1]:=Blk.new w5 128 _
   have lw5:w.heap.size ≤ w5.heap.size:=F5.size
   go_wp2_with fail
   go_loopg [40] ps.length (fun gk iv wr=>AddR G ps (w5.alloc (.cells #[.slice A5 ps.length c5,.int .i64 1] 128)) w5.heap.size (.slice A5 ps.length c5) gk iv wr)
   case atStart=>exact ⟨0,rfl,by simp,Fr.refl _ _,b6,by simp,by omega⟩
   case round =>
    obtain ⟨k,rfl,rfl,hf,hbk,hk,hkl⟩:=hrel
    have F7:Fr noB w wr:=F6.step1 hf lw5
    by_cases hlt:k < ps.length
    ·obtain ⟨g,off,rfl⟩:=hs.adG (by omega)
     have r0:=hs.id k hlt
     have r1:rdI wr g (off + k * 32) = some ps[k]:=rdI_fr r0 (rdI_lt r0) F7 (by simp [noB])
     have i1:(k:Int) < ps.length:=by omega
     have p0:(0:Int) ≤ (k:Int):=by omega
     generalize ea:ps[k] = pa at r1
     have EA:=Lib.hid ea
     have HK:=Lib.hid hk
     clear ea hk r0
     obtain ⟨B',cB',hn',_,_⟩:=h.node pa
     have hsm':=h.isSome pa
     have F8:Fr noB w (wr.alloc (ido pa)).drew:=(F7.alloc _).drew
     have h8:=h.fr0 F8
     have rp:rdI (wr.alloc (ido pa)).drew wr.heap.size 0 = some pa:=by rw [rdI_drew,rdI_new]
     clear hn hsm
     go_wp2_with fail
     refine wp_region_N 11 (fun w'=>w'.cell? ⟨D,0,none⟩ = some (.map (some A)) ∧ mpI w' A = some kv ∧ rdI w' wr.heap.size 0 = some pa) (by kernel_rfl) (by kernel_rfl) ⟨h8.c0,h8.all,rp⟩ (fun hA hF=>?_)
     refine wpAnyN_take (i:=0) (v:=?_) hA rfl (by decide) (by kernel_rfl) (by kernel_rfl) (fun _ _ _ h=>h) (Or.inl ⟨by rfl,?_⟩) hF (fun hA=>?_)
     rotate_left
     ·intro wS hSw;(try dsimp only at hSw);obtain ⟨s1,s2,s3⟩:=hSw;first | (apply Eq.trans;apply ex_ld_id;exact rfl;exact rfl;assumption;with_reducible rfl) | (go_simp;try with_reducible rfl)
     try simp only [sA1,sA2,sA3,Act.put,sA4,sA5,sA6]
     refine wpAnyN_take (i:=1) (v:=?_) hA rfl (by decide) (by kernel_rfl) (by kernel_rfl) (fun _ _ _ h=>h) (Or.inl ⟨by rfl,?_⟩) hF (fun hA=>?_)
     rotate_left
     ·intro wS hSw;(try dsimp only at hSw);obtain ⟨s1,s2,s3⟩:=hSw;first | (apply Eq.trans;apply ex_ld_id;exact rfl;exact rfl;assumption;with_reducible rfl) | (go_simp;try with_reducible rfl)
     try simp only [sA1,sA2,sA3,Act.put,sA4,sA5,sA6]
     refine wpAnyN_take (i:=2) (v:=?_) hA rfl (by decide) (by kernel_rfl) (by kernel_rfl) (fun _ _ _ h=>h) (Or.inl ⟨by rfl,?_⟩) hF (fun hA=>?_)
     rotate_left
     ·intro wS hSw;(try dsimp only at hSw);obtain ⟨s1,s2,s3⟩:=hSw;first | (apply Eq.trans;apply ex_ld_id;exact rfl;exact rfl;assumption;with_reducible rfl) | (go_simp;try with_reducible rfl)
     try simp only [sA1,sA2,sA3,Act.put,sA4,sA5,sA6]
     refine wpAnyN_take (i:=3) (v:=?_) hA rfl (by decide) (by kernel_rfl) (by kernel_rfl) (fun _ _ _ h=>h) (Or.inl ⟨by rfl,?_⟩) hF (fun hA=>?_)
     rotate_left
     ·intro wS hSw;(try dsimp only at hSw);obtain ⟨s1,s2,s3⟩:=hSw;first | (apply Eq.trans;apply ex_ld_id;exact rfl;exact rfl;assumption;with_reducible rfl) | (go_simp;try with_reducible rfl)
     try simp only [sA1,sA2,sA3,Act.put,sA4,sA5,sA6]
     refine wpAnyN_take (i:=4) (v:=?_) hA rfl (by decide) (by kernel_rfl) (by kernel_rfl) (fun _ _ _ h=>h) (Or.inl ⟨by rfl,?_⟩) hF (fun hA=>?_)
     rotate_left
     ·intro wS hSw;(try dsimp only at hSw);obtain ⟨s1,s2,s3⟩:=hSw;first | (apply Eq.trans;apply ex_ld_id;exact rfl;exact rfl;assumption;with_reducible rfl) | (go_simp;try with_reducible rfl)
     try simp only [sA1,sA2,sA3,Act.put,sA4,sA5,sA6]
     refine wpAnyN_take (i:=5) (v:=?_) hA rfl (by decide) (by kernel_rfl) (by kernel_rfl) (fun _ _ _ h=>h) (Or.inl ⟨by rfl,?_⟩) hF (fun hA=>?_)
     rotate_left
     ·intro wS hSw;(try dsimp only at hSw);obtain ⟨s1,s2,s3⟩:=hSw;first | (apply Eq.trans;apply ex_ld_id;exact rfl;exact rfl;assumption;with_reducible rfl) | (go_simp;try with_reducible rfl)
     try simp only [sA1,sA2,sA3,Act.put,sA4,sA5,sA6]
     refine wpAnyN_take (i:=6) (v:=?_) hA rfl (by decide) (by kernel_rfl) (by kernel_rfl) (fun _ _ _ h=>h) (Or.inl ⟨by rfl,?_⟩) hF (fun hA=>?_)
     rotate_left
     ·intro wS hSw;(try dsimp only at hSw);obtain ⟨s1,s2,s3⟩:=hSw;first | (apply Eq.trans;apply ex_ld_id;exact rfl;exact rfl;assumption;with_reducible rfl) | (go_simp;try with_reducible rfl)
     try simp only [sA1,sA2,sA3,Act.put,sA4,sA5,sA6]
     refine wpAnyN_take (i:=7) (v:=?_) hA rfl (by decide) (by kernel_rfl) (by kernel_rfl) (fun _ _ _ h=>h) (Or.inl ⟨by rfl,?_⟩) hF (fun hA=>?_)
     rotate_left
     ·intro wS hSw;(try dsimp only at hSw);obtain ⟨s1,s2,s3⟩:=hSw;first | (apply Eq.trans;apply ex_ld_id;exact rfl;exact rfl;assumption;with_reducible rfl) | (go_simp;try with_reducible rfl)
     try simp only [sA1,sA2,sA3,Act.put,sA4,sA5,sA6]
     refine wpAnyN_take (i:=8) (v:=?_) hA rfl (by decide) (by kernel_rfl) (by kernel_rfl) (fun _ _ _ h=>h) (Or.inl ⟨by rfl,?_⟩) hF (fun hA=>?_)
     rotate_left
     ·intro wS hSw;(try dsimp only at hSw);obtain ⟨s1,s2,s3⟩:=hSw;first | (apply Eq.trans;apply ex_ld_id;exact rfl;exact rfl;assumption;with_reducible rfl) | (go_simp;try with_reducible rfl)
     try simp only [sA1,sA2,sA3,Act.put,sA4,sA5,sA6]
     refine wpAnyN_one (i:=9) hA (by kernel_rfl) (by decide) rfl (fun K hK=>?_)
     go_simp
     have F9:Fr noB w ((wr.alloc (ido pa)).alloc (.cells #[.slice none 0 0,.int .i64 0] 128)).drew:=((F7.alloc _).alloc _).drew
     have h9:=h.fr0 F9
     refine hK.out _ _ ⟨h9.c0,h9.all,by simp⟩ (fun hA=>?_)
     clear hK K
     refine wpAnyN_one (i:=10) hA (by kernel_rfl) (by decide) rfl (fun K hK=>?_)
     go_simp
     have fa:Fr (oneB w5.heap.size) (w5.alloc (.cells #[.slice A5 ps.length c5,.int .i64 1] 128)) ((wr.alloc (ido pa)).alloc (.cells #[.slice B' ((parents G pa).getD []).length cB',.int .i64 (depthG G pa)] 128)).drew:=((hf.alloc _).alloc _).drew
     have Fa:Fr noB w ((wr.alloc (ido pa)).alloc (.cells #[.slice B' ((parents G pa).getD []).length cB',.int .i64 (depthG G pa)] 128)).drew:=((F7.alloc _).alloc _).drew
     have ha:=h.fr0 Fa
     have bN:Blk ((wr.alloc (ido pa)).alloc (.cells #[.slice B' ((parents G pa).getD []).length cB',.int .i64 (depthG G pa)] 128)).drew w5.heap.size 128 [.slice A5 ps.length c5,.int .i64 (upD (depthG G) (ps.take k):Nat)]:=(hbk.alloc _).alloc _
     have bX:Blk ((wr.alloc (ido pa)).alloc (.cells #[.slice B' ((parents G pa).getD []).length cB',.int .i64 (depthG G pa)] 128)).drew (wr.heap.size + 1) 128 [.slice B' ((parents G pa).getD []).length cB',.int .i64 (depthG G pa)]:=by
      have:=Blk.new (wr.alloc (ido pa)) 128 [.slice B' ((parents G pa).getD []).length cB',.int .i64 (depthG G pa)]
      rw [World.size_alloc] at this
      exact this
     refine hK.out _ _ ⟨ha.c0,ha.all,by simp⟩ (fun hA=>?_)
     clear hK K
     refine wpAnyN_end rfl (by kernel_rfl) ?_
     simp only [List.drop_succ_cons,List.drop_zero]
     generalize ew:((wr.alloc (ido pa)).alloc (.cells #[.slice B' ((parents G pa).getD []).length cB',.int .i64 (depthG G pa)] 128)).drew = wa at fa Fa ha bN bX ⊢
     clear ew h9 F9 hF h8 F8 rp r1
     cases hpa:hasG G pa with
     | false =>
      have ea:addG G x ps = (110,G):=by
       have:ps.all (hasG G) = false:=by
        rw [List.all_eq_false]
        exact ⟨pa,by rw [← EA.out];exact List.getElem_mem hlt,by simp [hpa]⟩
       simp [addG,hr,hp,this]
      go_wp2
      go_ret
      rw [AddTo,ea]
      exact ⟨rfl,h.same Fa,Fa.any⟩
     | true =>
      have k1:=Blk.cell bN 1
      have k2:=Blk.cell bX 1
      have k3:=Blk.frozen bN 1
      simp only [List.getElem?_cons_succ,List.getElem?_cons_zero] at k1 k2
      have hd1:upD (depthG G) (ps.take k) ≤ G.length + 1:=upD_le _ _ (depthG_le G) _
      have hd2:=depthG_le G pa
      have hpk:ps[k]? = some pa:=by rw [List.getElem?_eq_getElem hlt,EA.out]
      have hup:=Lib.hid (upD_take (depthG G) ps k pa hpk)
      go_wp2
      case inl hmx =>
       go_roundg (ps.length - (k + 1))
       case measure=>omega
       case rel=>exact AddR.next fa bN HK.out hpk hpa (by have:=hup.out;omega)
      case inr hmx =>
       go_roundg (ps.length - (k + 1))
       case measure=>omega
       case rel=>exact AddR.next fa bN HK.out hpk hpa (by have:=hup.out;omega)
    ·have i1:¬ (k:Int) < ps.length:=by omega
     have ek:k = ps.length:=by omega
     subst ek
     rw [List.take_length] at hk hbk
     have h7:=h.fr0 F7
     have hlk:=h.look0 hp
     have HK:=Lib.hid hk
     clear hk hn hsm
     have rx7:rdI wr w.heap.size 0 = some x:=rdI_fr rx4 (by omega) ((hf5.alloc _).step1 hf (by have:=hf5.size;omega)) (by simp [noB])
     clear rx4
     obtain ⟨wl,ewl⟩:∃ wl,wl = wr:=⟨_,rfl⟩
     subst ewl
     go_wp2_with fail
     go_loopg [65] ps.length (fun gk iv w'=>KidR ks ps wl K gk iv w')
     case atStart=>exact ⟨0,ks,rfl,by simp,Fr.refl _ _,h7.kids,by simp,by omega⟩
     case round =>
      obtain ⟨k,ks',rfl,rfl,hg,hgm,hgk,hkl⟩:=hrel
      have nDK:D ≠ K:=mp_ne h7.kids h7.blk
      have nDA:D ≠ A:=mp_ne h7.all h7.blk
      have c1:wr.cell? ⟨D,1,none⟩ = some (.map (some K)):=by
       have:=Blk.cell (h7.blk.fr hg (fun e=>nDK e)) 1
       simpa using this
      have c0:wr.cell? ⟨D,0,none⟩ = some (.map (some A)):=by
       have:=Blk.cell (h7.blk.fr hg (fun e=>nDK e)) 0
       simpa using this
      have ma:mpI wr A = some kv:=mpI_fr h7.all hg (fun e=>h7.ne e)
      have rx8:rdI wr w.heap.size 0 = some x:=rdI_fr rx7 (rdI_lt rx7) hg (fun e=>rdI_ne rx7 h7.kids e)
      have bN:Blk wr w5.heap.size 128 [.slice A5 ps.length c5,.int .i64 (upD (depthG G) ps:Nat)]:=hbk.fr hg (fun e=>mp_ne h7.kids hbk e)
      by_cases hlt:k < ps.length
      ·obtain ⟨g,off,rfl⟩:=hs.adG (by omega)
       have r0:=hs.id k hlt
       have r1:rdI wl g (off + k * 32) = some ps[k]:=rdI_fr r0 (rdI_lt r0) F7 (by simp [noB])
       have r2:rdI wr g (off + k * 32) = some ps[k]:=rdI_fr r1 (rdI_lt r1) hg (fun e=>rdI_ne r1 h7.kids e)
       have i2:(k:Int) < ps.length:=by omega
       have p0:(0:Int) ≤ (k:Int):=by omega
       generalize ea:ps[k] = pa at r2
       have EA:=Lib.hid ea
       have HG:=Lib.hid hgk
       have HS:=Lib.hid hs
       clear ea hgk r1 r0 c0 ma hs
       have rp:rdI (wr.alloc (ido pa)).drew wr.heap.size 0 = some pa:=by rw [rdI_drew,rdI_new]
       have cp:(wr.alloc (ido pa)).drew.cell? ⟨D,1,none⟩ = some (.map (some K)):=by
        have:=Blk.cell ((h7.blk.fr hg (fun e=>nDK e)).fr (((Fr.refl noB wr).alloc (ido pa)).drew) (by simp [noB])) 1
        simpa using this
       have fp:Fr (oneB K) wl (wr.alloc (ido pa)).drew:=(hg.alloc _).drew
       have mp:mpI (wr.alloc (ido pa)).drew K = some (setV ks'):=by rw [mpI_drew,mpI_old _ _ _ (mpI_lt hgm)];exact hgm
       go_wp2_with fail
       refine wp_region_N 5 (fun w'=>w'.cell? ⟨D,1,none⟩ = some (.map (some K)) ∧ rdI w' wr.heap.size 0 = some pa) (by kernel_rfl) (by kernel_rfl) ⟨cp,rp⟩ (fun hA hF=>?_)
       refine wpAnyN_take (i:=0) (v:=?_) hA rfl (by decide) (by kernel_rfl) (by kernel_rfl) (fun _ _ _ h=>h) (Or.inl ⟨by rfl,?_⟩) hF (fun hA=>?_)
       rotate_left
       ·intro wS hSw;(try dsimp only at hSw);obtain ⟨s1,s2⟩:=hSw;first | (apply Eq.trans;apply ex_ld_id;exact rfl;exact rfl;assumption;with_reducible rfl) | (go_simp;try with_reducible rfl)
       try simp only [sA1,sA2,sA3,Act.put,sA4,sA5,sA6]
       refine wpAnyN_take (i:=1) (v:=?_) hA rfl (by decide) (by kernel_rfl) (by kernel_rfl) (fun _ _ _ h=>h) (Or.inl ⟨by rfl,?_⟩) hF (fun hA=>?_)
       rotate_left
       ·intro wS hSw;(try dsimp only at hSw);obtain ⟨s1,s2⟩:=hSw;first | (apply Eq.trans;apply ex_ld_id;exact rfl;exact rfl;assumption;with_reducible rfl) | (go_simp;try with_reducible rfl)
       try simp only [sA1,sA2,sA3,Act.put,sA4,sA5,sA6]
       refine wpAnyN_take (i:=2) (v:=?_) hA rfl (by decide) (by kernel_rfl) (by kernel_rfl) (fun _ _ _ h=>h) (Or.inl ⟨by rfl,?_⟩) hF (fun hA=>?_)
       rotate_left
       ·intro wS hSw;(try dsimp only at hSw);obtain ⟨s1,s2⟩:=hSw;first | (apply Eq.trans;apply ex_ld_id;exact rfl;exact rfl;assumption;with_reducible rfl) | (go_simp;try with_reducible rfl)
       try simp only [sA1,sA2,sA3,Act.put,sA4,sA5,sA6]
       refine wpAnyN_take (i:=3) (v:=?_) hA rfl (by decide) (by kernel_rfl) (by kernel_rfl) (fun _ _ _ h=>h) (Or.inl ⟨by rfl,?_⟩) hF (fun hA=>?_)
       rotate_left
       ·intro wS hSw;(try dsimp only at hSw);obtain ⟨s1,s2⟩:=hSw;first | (apply Eq.trans;apply ex_ld_id;exact rfl;exact rfl;assumption;with_reducible rfl) | (go_simp;try with_reducible rfl)
       try simp only [sA1,sA2,sA3,Act.put,sA4,sA5,sA6]
       refine wpAnyN_take (i:=4) (v:=?_) hA rfl (by decide) (by kernel_rfl) (by kernel_rfl) (fun _ _ _ h=>h) (Or.inl ⟨by rfl,?_⟩) hF (fun hA=>?_)
       rotate_left
       ·intro wS hSw;(try dsimp only at hSw);obtain ⟨s1,s2⟩:=hSw;first | (apply Eq.trans;apply ex_ld_id;exact rfl;exact rfl;assumption;with_reducible rfl) | (go_simp;try with_reducible rfl)
       try simp only [sA1,sA2,sA3,Act.put,sA4,sA5,sA6]
       refine wpAnyN_end rfl (by kernel_rfl) ?_
       simp only [List.drop_succ_cons,List.drop_zero]
       generalize ew:(wr.alloc (ido pa)).drew = wp at cp fp mp ⊢
       clear ew hF rp
       obtain ⟨u1,u2,u3,u4⟩:=mput_all Tryz.underlying102 mp pa (.bool true)
       go_wp2
       go_roundg (ps.length - (k + 1))
       case measure=>omega
       case rel =>
        refine ⟨k + 1,if pa ∈ ks' then ks' else ks' ++ [pa],by simp,rfl,fp.trans u3 (fun _ _ h=>h),by rw [u2,put_setV],fun y=>?_,by omega⟩
        have hpk:ps[k]? = some pa:=by rw [List.getElem?_eq_getElem hlt,EA.out]
        rw [List.take_add_one,hpk]
        have:=HG.out y
        have e2:y ∈ (if pa ∈ ks' then ks' else ks' ++ [pa]) ↔ y ∈ ks' ∨ y = pa:=by
         split
         ·rename_i hm
          exact ⟨.inl,fun h=>h.elim id (fun e=>by rw [e];exact hm)⟩
         ·simp
        rw [e2,this]
        simp only [Option.toList_some,List.mem_append,List.mem_singleton,or_assoc]
      ·have i2:¬ (k:Int) < ps.length:=by omega
       have ek:k = ps.length:=by omega
       subst ek
       rw [List.take_length] at hgk
       have HG:=Lib.hid hgk
       clear hgk
       have k0:=Blk.cell bN 0
       have k1:=Blk.cell bN 1
       simp only [List.getElem?_cons_succ,List.getElem?_cons_zero] at k0 k1
       go_wp2_with fail
       refine wp_region_N 6 (fun w'=>w'.cell? ⟨D,0,none⟩ = some (.map (some A)) ∧ rdI w' w.heap.size 0 = some x ∧ w'.cell? ⟨w5.heap.size,0,none⟩ = some (.slice A5 ps.length c5) ∧ w'.cell? ⟨w5.heap.size,1,none⟩ = some (.int .i64 (upD (depthG G) ps:Nat))) (by kernel_rfl) (by kernel_rfl) ⟨c0,by rw [rdI_drew];exact rx8,k0,k1⟩ (fun hA hF=>?_)
       refine wpAnyN_take (i:=0) (v:=?_) hA rfl (by decide) (by kernel_rfl) (by kernel_rfl) (fun _ _ _ h=>h) (Or.inl ⟨by rfl,?_⟩) hF (fun hA=>?_)
       rotate_left
       ·intro wS hSw;(try dsimp only at hSw);obtain ⟨s1,s2,s3,s4⟩:=hSw;first | (apply Eq.trans;apply ex_ld_id;exact rfl;exact rfl;assumption;with_reducible rfl) | (go_simp;try with_reducible rfl)
       try simp only [sA1,sA2,sA3,Act.put,sA4,sA5,sA6]
       refine wpAnyN_take (i:=1) (v:=?_) hA rfl (by decide) (by kernel_rfl) (by kernel_rfl) (fun _ _ _ h=>h) (Or.inl ⟨by rfl,?_⟩) hF (fun hA=>?_)
       rotate_left
       ·intro wS hSw;(try dsimp only at hSw);obtain ⟨s1,s2,s3,s4⟩:=hSw;first | (apply Eq.trans;apply ex_ld_id;exact rfl;exact rfl;assumption;with_reducible rfl) | (go_simp;try with_reducible rfl)
       try simp only [sA1,sA2,sA3,Act.put,sA4,sA5,sA6]
       refine wpAnyN_take (i:=2) (v:=?_) hA rfl (by decide) (by kernel_rfl) (by kernel_rfl) (fun _ _ _ h=>h) (Or.inl ⟨by rfl,?_⟩) hF (fun hA=>?_)
       rotate_left
       ·intro wS hSw;(try dsimp only at hSw);obtain ⟨s1,s2,s3,s4⟩:=hSw;first | (apply Eq.trans;apply ex_ld_id;exact rfl;exact rfl;assumption;with_reducible rfl) | (go_simp;try with_reducible rfl)
       try simp only [sA1,sA2,sA3,Act.put,sA4,sA5,sA6]
       refine wpAnyN_take (i:=3) (v:=?_) hA rfl (by decide) (by kernel_rfl) (by kernel_rfl) (fun _ _ _ h=>h) (Or.inl ⟨by rfl,?_⟩) hF (fun hA=>?_)
       rotate_left
       ·intro wS hSw;(try dsimp only at hSw);obtain ⟨s1,s2,s3,s4⟩:=hSw;first | (apply Eq.trans;apply ex_ld_id;exact rfl;exact rfl;assumption;with_reducible rfl) | (go_simp;try with_reducible rfl)
       try simp only [sA1,sA2,sA3,Act.put,sA4,sA5,sA6]
       refine wpAnyN_take (i:=4) (v:=?_) hA rfl (by decide) (by kernel_rfl) (by kernel_rfl) (fun _ _ _ h=>h) (Or.inl ⟨by rfl,?_⟩) hF (fun hA=>?_)
       rotate_left
       ·intro wS hSw;(try dsimp only at hSw);obtain ⟨s1,s2,s3,s4⟩:=hSw;first | (apply Eq.trans;apply ex_ld_id;exact rfl;exact rfl;assumption;with_reducible rfl) | (go_simp;try with_reducible rfl)
       try simp only [sA1,sA2,sA3,Act.put,sA4,sA5,sA6]
       refine wpAnyN_take (i:=5) (v:=?_) hA rfl (by decide) (by kernel_rfl) (by kernel_rfl) (fun _ _ _ h=>h) (Or.inl ⟨by rfl,?_⟩) hF (fun hA=>?_)
       rotate_left
       ·intro wS hSw;(try dsimp only at hSw);obtain ⟨s1,s2,s3,s4⟩:=hSw;first | (apply Eq.trans;apply ex_ld_id;exact rfl;exact rfl;assumption;with_reducible rfl) | (go_simp;try with_reducible rfl)
       try simp only [sA1,sA2,sA3,Act.put,sA4,sA5,sA6]
       refine wpAnyN_end rfl (by kernel_rfl) ?_
       simp only [List.drop_succ_cons,List.drop_zero]
       have ma2:mpI wr.drew A = some kv:=by rw [mpI_drew];exact ma
       have hgm2:mpI wr.drew K = some (setV ks'):=by rw [mpI_drew];exact hgm
       obtain ⟨u1,u2,u3,u4⟩:=mput_all Tryz.underlying101 ma2 x (nodeV A5 ps.length c5 (upD (depthG G) ps))
       go_wp2
       go_ret
       have hall:∀ p ∈ ps,hasG G p = true:=HK.out
       have ea:addG G x ps = (0,(x,ps) :: G):=by
        have:ps.all (hasG G) = true:=List.all_eq_true.2 hall
        simp [addG,hr,hp,this]
       rw [AddTo,ea]
       have f2:Fr (twoB A K) w (mput 101 wr.drew A x (nodeV A5 ps.length c5 (upD (depthG G) ps))) :=
        ((F7.any (M:=twoB A K)).trans (hg.drew) (fun b _ hb=>.inr hb)).trans u3 (fun b _ hb=>.inl hb)
       have oS:Off A5 (fun b=>w4.heap.size ≤ b ∧ b < w5.heap.size):=Off.own ho5
       have ltA:A < w.heap.size:=h.lt _ h.fA
       have ltK:K < w.heap.size:=h.lt _ h.fK
       have lw4:w.heap.size ≤ w4.heap.size:=F4.size
       have f3:Fr (fun b=>b = w5.heap.size ∨ twoB A K b) w5 (mput 101 wr.drew A x (nodeV A5 ps.length c5 (upD (depthG G) ps))) :=
        ((((Fr.refl (fun b=>b = w5.heap.size ∨ twoB A K b) w5).alloc _).trans hf (fun b _ hb=>.inl hb)).trans hg.drew (fun b _ hb=>.inr (.inr hb))).trans u3 (fun b _ hb=>.inr (.inl hb))
       refine ⟨rfl,h.more hle hr hp hall f2 u2 (mpI_fr hgm2 u3 (fun e=>h.ne e.symm)) HG.out ((Sl.own ho5).fr f3 (oS.mono ?_)) (oS.mono ?_),f2.mono ?_⟩
       ·rintro b ⟨hb1,hb2⟩ (e | e | e) <;> omega
       ·rintro b ⟨hb1,hb2⟩
        exact ⟨by omega,Nat.lt_of_lt_of_le hb2 f3.size⟩
       ·rintro b (rfl | rfl)
        ·exact h.fA
        ·exact h.fK
end Go.Proofs.YtjpieiccpbcabaaGreat
