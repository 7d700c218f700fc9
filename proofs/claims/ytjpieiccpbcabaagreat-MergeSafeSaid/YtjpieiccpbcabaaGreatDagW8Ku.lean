/- Contracts: Has, Len, Depth, New. Contracts: right, slices.Equal at IDs. Contract: Add. Appends to rows of IDs, and rows made shorter. Contract: reach. Rows of IDs sorted by slices.SortFunc; the order of IDs. Contracts: cmp.Or, the order by depth and ID, sorted, Ancestors, Reaches. Contracts: sorted, Ancestors, Reaches. Contract: Heads. Contract: Bases. -/
import Derived.Test.YtjpieiccpbcabaaGreatBasePKu
import Derived.Test.YtjpieiccpbcabaaGreatMapIKu
import Derived.Test.YtjpieiccpbcabaaGreatBoxOKu
import Derived.Test.YtjpieiccpbcabaaGreatRegMKu
import Derived.Deep.LoopGhost
import Derived.Test.YtjpieiccpbcabaaGreatSortLKu
set_option linter.unusedVariables false
set_option linter.unusedSimpArgs false
namespace Go.Proofs.YtjpieiccpbcabaaGreat
open Go.RowKit Go.Maps Go.Sort
structure DagA (w:World) (D A K:Nat) (kv:List (ID × Value)) (ks:List ID) (F:Nat → Prop) (G:Dg):Prop where
 blk:Blk w D 104 [.map (some A),.map (some K)]
 all:mpI w A = some kv
 kids:mpI w K = some (setV ks)
 ne:A ≠ K
 fD:F D
 fA:F A
 fK:F K
 keys:kv.map (·.1) = (G.map (·.1)).reverse
 par:∀ x,x ∈ ks ↔ ∃ p ∈ G,x ∈ p.2
 vals:∀ x ps,parents G x = some ps → ∃ B c,look kv x = some (nodeV B ps.length c (depthG G x)) ∧ Sl w B (idc ps) ∧ Off B F
 lt:∀ b,F b → b < w.heap.size
 ok:okG G
 le:G.length ≤ 1000000
def DagAt (w:World) (D:Nat) (F:Nat → Prop) (G:Dg):Prop:=∃ A K kv ks,DagA w D A K kv ks F G
section
variable {w w':World} {D A K:Nat} {kv:List (ID × Value)} {ks:List ID} {F:Nat → Prop} {G:Dg}
theorem DagA.fr {M:Nat → Prop} (h:DagA w D A K kv ks F G) (f:Fr M w w') (hM:∀ b,F b → ¬ M b):DagA w' D A K kv ks F G :=
 ⟨h.blk.fr f (hM _ h.fD),mpI_fr h.all f (hM _ h.fA),mpI_fr h.kids f (hM _ h.fK),h.ne,h.fD,h.fA,h.fK,h.keys,h.par,
  fun x ps hp=>by obtain ⟨B,c,h1,h2,h3⟩:=h.vals x ps hp;exact ⟨B,c,h1,h2.fr f (h3.mono hM),h3⟩,fun b hb=>Nat.lt_of_lt_of_le (h.lt b hb) f.size,h.ok,h.le⟩
theorem DagA.fr0 (h:DagA w D A K kv ks F G) (f:Fr noB w w'):DagA w' D A K kv ks F G:=h.fr f (fun _ _=>by simp [noB])
theorem DagAt.fr {M:Nat → Prop} (h:DagAt w D F G) (f:Fr M w w') (hM:∀ b,F b → ¬ M b):DagAt w' D F G:=by
 obtain ⟨A,K,kv,ks,h⟩:=h;exact ⟨A,K,kv,ks,h.fr f hM⟩
theorem DagAt.fr0 (h:DagAt w D F G) (f:Fr noB w w'):DagAt w' D F G:=h.fr f (fun _ _=>by simp [noB])
theorem DagA.look0 (h:DagA w D A K kv ks F G) {x:ID} (hp:parents G x = none):look kv x = none:=by
 rw [look_none,h.keys,List.mem_reverse,← hasG_mem,hasG,hp];simp
theorem DagA.isSome (h:DagA w D A K kv ks F G) (x:ID):(look kv x).isSome = hasG G x:=by
 cases hp:parents G x with
 | none=>rw [h.look0 hp,hasG,hp];rfl
 | some ps=>obtain ⟨B,c,h1,_⟩:=h.vals x ps hp;rw [h1,hasG,hp];rfl
theorem DagA.node (h:DagA w D A K kv ks F G) (x:ID):∃ B c,(look kv x).getD (nodeV none 0 0 0) = nodeV B ((parents G x).getD []).length c (depthG G x) ∧ Sl w B (idc ((parents G x).getD [])) ∧ Off B F:=by
 cases hp:parents G x with
 | none=>rw [h.look0 hp,depth_none hp];exact ⟨none,0,rfl,Sl.nil _ _,Off.none⟩
 | some ps=>obtain ⟨B,c,h1,h2⟩:=h.vals x ps hp;rw [h1];exact ⟨B,c,rfl,h2⟩
theorem DagA.len (h:DagA w D A K kv ks F G):kv.length = G.length:=by
 have:=congrArg List.length h.keys;simpa using this
theorem DagA.c0 (h:DagA w D A K kv ks F G):w.cell? ⟨D,0,none⟩ = some (.map (some A)):=Blk.cell h.blk 0
end
@[simp] theorem fl_0 (w:World) (B:Option Addr) (n c d:Nat):(Instr.field 128 (nodeV B n c d) 0).run Tryz.prog w = .ok (.slice B n c) w:=by kernel_rfl
@[simp] theorem fl_1 (w:World) (B:Option Addr) (n c d:Nat):(Instr.field 128 (nodeV B n c d) 1).run Tryz.prog w = .ok (.int .i64 d) w:=by kernel_rfl
@[simp] theorem bld_node (w:World) (B:Option Addr) (n c:Nat) (d:Int):(Instr.build 128 #[(0,.slice B n c),(1,.int .i64 d)]).run Tryz.prog w = .ok (.agg #[.slice B n c,.int .i64 d]) w:=by kernel_rfl
@[simp] theorem bld_dag (w:World) (a b:Option Nat):(Instr.build 104 #[(0,.map a),(1,.map b)]).run Tryz.prog w = .ok (.agg #[.map a,.map b]) w:=by kernel_rfl
@[simp] theorem mk_map (t:TypeId) (w:World):(Instr.makeMap t none).run Tryz.prog w = .ok (.map (some w.heap.size)) (w.alloc (.map #[] 0)):=rfl
def GivesD (w:World) (v:Value) (e:Ending) (w':World):Prop:=e = .returned v ∧ Fr noB w w'
theorem len_any (w:World) (D:Nat) (F:Nat → Prop) (G:Dg) (h:DagAt w D F G):Calls Tryz.prog 13 #[.pointer (some ⟨D,0,none⟩)] w (GivesD w (.int .i64 G.length)):=by
 obtain ⟨A,K,kv,ks,h⟩:=h
 have c0:=h.c0
 have ha:=h.all
 have hl:=h.len
 go_enter Tryz.func13,Tryz.ntmps13
 go_wp2
 go_ret
 exact ⟨by simp [hl],Fr.refl _ _⟩
theorem has_any (w:World) (D:Nat) (F:Nat → Prop) (G:Dg) (h:DagAt w D F G) (x:ID):Calls Tryz.prog 32 #[.pointer (some ⟨D,0,none⟩),encI x] w (GivesD w (.bool (hasG G x))):=by
 obtain ⟨A,K,kv,ks,h⟩:=h
 have hl:=h.isSome x
 obtain ⟨B,c,hn,_⟩:=h.node x
 have F1:Fr noB w (w.alloc (ido x)).drew:=((Fr.refl noB w).alloc _).drew
 have hh:=h.fr0 F1
 have d0:=hh.c0
 have da:=hh.all
 have dr:rdI (w.alloc (ido x)).drew w.heap.size 0 = some x:=by simp
 clear hh
 go_enter Tryz.func32,Tryz.ntmps32
 go_wp2_with fail
 refine wp_region_N 11 (fun w'=>w'.cell? ⟨D,0,none⟩ = some (.map (some A)) ∧ mpI w' A = some kv ∧ rdI w' w.heap.size 0 = some x) (by kernel_rfl) (by kernel_rfl) ⟨d0,da,dr⟩ (fun hA hF=>?_)
 refine wpAnyN_take (i:=0) (v:=?_) hA rfl (by decide) (by kernel_rfl) (by kernel_rfl) (fun _ _ _ h=>h) (Or.inl ⟨by rfl,?_⟩) hF (fun hA=>?_)
 rotate_left
 ·intro wS hSw;(try dsimp only at hSw);obtain ⟨s1,s2,s3⟩:=hSw;first | (apply Eq.trans;apply ex_ld_id;exact rfl;exact rfl;assumption;with_reducible rfl) | (go_simp;try with_reducible rfl)
 try simp only [sA1,sA2,sA3,Act.put,sA4,sA5,sA6]
 refine wpAnyN_take (i:=1) (v:=?_) hA rfl (by decide) (by kernel_rfl) (by kernel_rfl) (fun _ _ _ h=>h) (Or.inl ⟨by rfl,?_⟩) hF (fun hA=>?_)
 rotate_left
 ·intro wS hSw;(try dsimp only at hSw);obtain ⟨s1,s2,s3⟩:=hSw;first | (apply Eq.trans;apply ex_ld_id;exact rfl;exact rfl;assumption;with_reducible rfl) | (go_simp;try with_reducible rfl)
 try simp only [sA1,sA2,sA3,Act.put,sA4,sA5,sA6]
 refine wpAnyN_take (i:=2) (v:=?_) hA rfl (by decide) (by kernel_rfl) (by kernel_rfl) (fun _ _ _ h=>h) (Or.inl ⟨by rfl,?_⟩) hF (fun hA=>?_)
 rotate_left
 ·intro wS hSw;(try dsimp only at hSw);obtain ⟨s1,s2,s3⟩:=hSw;first | (apply Eq.trans;apply ex_ld_id;exact rfl;exact rfl;assumption;with_reducible rfl) | (go_simp;try with_reducible rfl)
 try simp only [sA1,sA2,sA3,Act.put,sA4,sA5,sA6]
 refine wpAnyN_take (i:=3) (v:=?_) hA rfl (by decide) (by kernel_rfl) (by kernel_rfl) (fun _ _ _ h=>h) (Or.inl ⟨by rfl,?_⟩) hF (fun hA=>?_)
 rotate_left
 ·intro wS hSw;(try dsimp only at hSw);obtain ⟨s1,s2,s3⟩:=hSw;first | (apply Eq.trans;apply ex_ld_id;exact rfl;exact rfl;assumption;with_reducible rfl) | (go_simp;try with_reducible rfl)
 try simp only [sA1,sA2,sA3,Act.put,sA4,sA5,sA6]
 refine wpAnyN_take (i:=4) (v:=?_) hA rfl (by decide) (by kernel_rfl) (by kernel_rfl) (fun _ _ _ h=>h) (Or.inl ⟨by rfl,?_⟩) hF (fun hA=>?_)
 rotate_left
 ·intro wS hSw;(try dsimp only at hSw);obtain ⟨s1,s2,s3⟩:=hSw;first | (apply Eq.trans;apply ex_ld_id;exact rfl;exact rfl;assumption;with_reducible rfl) | (go_simp;try with_reducible rfl)
 try simp only [sA1,sA2,sA3,Act.put,sA4,sA5,sA6]
 refine wpAnyN_take (i:=5) (v:=?_) hA rfl (by decide) (by kernel_rfl) (by kernel_rfl) (fun _ _ _ h=>h) (Or.inl ⟨by rfl,?_⟩) hF (fun hA=>?_)
 rotate_left
 ·intro wS hSw;(try dsimp only at hSw);obtain ⟨s1,s2,s3⟩:=hSw;first | (apply Eq.trans;apply ex_ld_id;exact rfl;exact rfl;assumption;with_reducible rfl) | (go_simp;try with_reducible rfl)
 try simp only [sA1,sA2,sA3,Act.put,sA4,sA5,sA6]
 refine wpAnyN_take (i:=6) (v:=?_) hA rfl (by decide) (by kernel_rfl) (by kernel_rfl) (fun _ _ _ h=>h) (Or.inl ⟨by rfl,?_⟩) hF (fun hA=>?_)
 rotate_left
 ·intro wS hSw;(try dsimp only at hSw);obtain ⟨s1,s2,s3⟩:=hSw;first | (apply Eq.trans;apply ex_ld_id;exact rfl;exact rfl;assumption;with_reducible rfl) | (go_simp;try with_reducible rfl)
 try simp only [sA1,sA2,sA3,Act.put,sA4,sA5,sA6]
 refine wpAnyN_take (i:=7) (v:=?_) hA rfl (by decide) (by kernel_rfl) (by kernel_rfl) (fun _ _ _ h=>h) (Or.inl ⟨by rfl,?_⟩) hF (fun hA=>?_)
 rotate_left
 ·intro wS hSw;(try dsimp only at hSw);obtain ⟨s1,s2,s3⟩:=hSw;first | (apply Eq.trans;apply ex_ld_id;exact rfl;exact rfl;assumption;with_reducible rfl) | (go_simp;try with_reducible rfl)
 try simp only [sA1,sA2,sA3,Act.put,sA4,sA5,sA6]
 refine wpAnyN_take (i:=8) (v:=?_) hA rfl (by decide) (by kernel_rfl) (by kernel_rfl) (fun _ _ _ h=>h) (Or.inl ⟨by rfl,?_⟩) hF (fun hA=>?_)
 rotate_left
 ·intro wS hSw;(try dsimp only at hSw);obtain ⟨s1,s2,s3⟩:=hSw;first | (apply Eq.trans;apply ex_ld_id;exact rfl;exact rfl;assumption;with_reducible rfl) | (go_simp;try with_reducible rfl)
 try simp only [sA1,sA2,sA3,Act.put,sA4,sA5,sA6]
 refine wpAnyN_one (i:=9) hA (by kernel_rfl) (by decide) rfl (fun K hK=>?_)
 go_simp
 have F2:Fr noB w ((w.alloc (ido x)).alloc (.cells #[.slice none 0 0,.int .i64 0] 128)).drew:=(((Fr.refl noB w).alloc _).alloc _).drew
 have h2:=h.fr0 F2
 refine hK.out _ _ ⟨h2.c0,h2.all,by simp⟩ (fun hA=>?_)
 clear hK K
 refine wpAnyN_one (i:=10) hA (by kernel_rfl) (by decide) rfl (fun K hK=>?_)
 go_simp
 have F3:Fr noB w ((w.alloc (ido x)).alloc (.cells #[.slice B ((parents G x).getD []).length c,.int .i64 (depthG G x)] 128)).drew:=(((Fr.refl noB w).alloc _).alloc _).drew
 have h3:=h.fr0 F3
 refine hK.out _ _ ⟨h3.c0,h3.all,by simp⟩ (fun hA=>?_)
 clear hK K
 refine wpAnyN_end rfl (by kernel_rfl) ?_
 simp only [List.drop_succ_cons,List.drop_zero]
 go_wp2
 go_ret
 exact ⟨rfl,F3⟩
theorem new_any (w:World):Calls Tryz.prog 30 #[] w fun e w'=>∃ D,e = .returned (.pointer (some ⟨D,0,none⟩)) ∧ DagAt w' D (fun b=>w.heap.size ≤ b ∧ b < w'.heap.size) [] ∧ Fr noB w w':=by
 go_enter Tryz.func30,Tryz.ntmps30
 go_wp2
 go_ret
 refine ⟨_,rfl,⟨w.heap.size,w.heap.size + 1,[],[],?_⟩,(((Fr.refl _ _).alloc _).alloc _).alloc _⟩
 refine ⟨?_,?_,?_,by omega,by simp;omega,by simp;omega,by simp,rfl,by simp,(fun x ps h=>by cases h),(fun b hb=>hb.2),trivial,by simp⟩
 ·have:=Blk.new ((w.alloc (.map #[] 0)).alloc (.map #[] 0)) 104 [.map (some w.heap.size),.map (some (w.heap.size + 1))]
  simpa using this
 ·rw [mpI_old _ _ _ (by simp;omega),mpI_old _ _ _ (by simp),mpI_new]
 ·rw [mpI_old _ _ _ (by simp)]
  have:=mpI_new (w.alloc (.map #[] 0))
  rw [World.size_alloc] at this
  exact this
end Go.Proofs.YtjpieiccpbcabaaGreat
namespace Go.Proofs.YtjpieiccpbcabaaGreat
open Go.RowKit Go.Maps Go.Sort
theorem asc_iff (ps:List ID):asc ps = true ↔ ∀ k,k + 1 < ps.length → cmpI (ps.getD k zID) (ps.getD (k + 1) zID) < 0:=by
 induction ps with
 | nil=>simp [asc]
 | cons x l ih =>
  cases l with
  | nil=>simp [asc]
  | cons y l =>
   simp only [asc,Bool.and_eq_true,decide_eq_true_eq,ih]
   constructor
   ·rintro ⟨h1,h2⟩ k hk
    cases k with
    | zero=>simpa using h1
    | succ k=>have:=h2 k (by simpa using hk);simpa using this
   ·intro h
    exact ⟨by simpa using h 0 (by simp),fun k hk=>by simpa using h (k + 1) (by simpa using hk)⟩
theorem Sl.adG {w:World} {A:Option Addr} {l:List ID} (h:Sl w A (idc l)) (hl:0 < l.length):∃ g off,A = some ⟨g,off,none⟩:=by
 obtain ⟨g,off,e,_⟩:=h (by intro h0;have:=idc_length l;rw [h0] at this;simp at this;omega)
 exact ⟨g,off,e⟩
def RtR (w:World) (ps:List ID) (gk:Nat) (iv:Value) (wr:World):Prop :=
 ∃ k:Nat,iv = .int .i64 ((k:Int) + 1) ∧ gk = ps.length - k ∧ Fr noB w wr ∧ (∀ j,j < k → cmpI (ps.getD j zID) (ps.getD (j + 1) zID) < 0) ∧ (k = 0 ∨ k < ps.length)
set_option maxRecDepth 100000 in
set_option maxHeartbeats 1000000 in
theorem gright_any (w:World) (x:ID) (A:Option Addr) (c n:Nat) (ps:List ID) (hn:ps.length = n) (hs:Sl w A (idc ps)) (hb:ps.length ≤ 1000000000000) :
  Calls Tryz.prog 61 #[encI x,.slice A n c] w (GivesD w (.bool (rightL x ps))):=by
 subst hn
 go_enter Tryz.func61,Tryz.ntmps61
 go_wp2
 go_loopg [5] ps.length (fun gk iv wr=>RtR (w.alloc (ido x)) ps gk iv wr)
 case atStart=>exact ⟨0,rfl,by simp,Fr.refl _ _,fun j hj=>absurd hj (by omega),.inl rfl⟩
 case round =>
  obtain ⟨k,rfl,rfl,hf,hk,hkl⟩:=hrel
  have F1:Fr noB w wr:=((Fr.refl noB w).alloc _).step0 hf
  have rx:rdI wr w.heap.size 0 = some x:=rdI_fr (rdI_new w x) (by simp) hf (by simp [noB])
  by_cases hlt:k + 1 < ps.length
  ·obtain ⟨g,off,rfl⟩:=hs.adG (by omega)
   have r1:rdI wr.drew g (off + k * 32) = some (ps.getD k zID):=by
    rw [rdI_drew,(hs.fr0 F1).id k (by omega)];simp [show k < ps.length by omega]
   have r2:rdI wr.drew g (off + (k + 1) * 32) = some (ps.getD (k + 1) zID):=by
    rw [rdI_drew,(hs.fr0 F1).id (k + 1) hlt];simp [hlt]
   have HK:=Lib.hid hk
   clear hk
   have i1:(k:Int) + 1 < ps.length:=by omega
   have i0:(k:Int) < ps.length:=by omega
   have p0:(0:Int) ≤ (k:Int):=by omega
   have p1:(0:Int) ≤ (k:Int) + 1:=by omega
   have hw:IntKind.i64.wrap (k:Int) = k:=by rw [IntKind.wrap_i64];omega
   generalize ea:ps.getD k zID = pa at r1
   generalize eb:ps.getD (k + 1) zID = pb at r2
   have EA:=Lib.hid ea
   have EB:=Lib.hid eb
   clear ea eb
   go_wp2_with fail
   refine wp_region_N 10 (fun w'=>rdI w' g (off + k * 32) = some pa ∧ rdI w' g (off + (k + 1) * 32) = some pb) (by kernel_rfl) (by kernel_rfl) ⟨r1,r2⟩ (fun hA hF=>?_)
   refine wpAnyN_take (i:=0) (v:=?_) hA rfl (by decide) (by kernel_rfl) (by kernel_rfl) (fun _ _ _ h=>h) (Or.inl ⟨by rfl,?_⟩) hF (fun hA=>?_)
   rotate_left
   ·intro wS hSw;(try dsimp only at hSw);obtain ⟨s1,s2⟩:=hSw;first | (apply Eq.trans;apply ex_ld_id;exact rfl;exact rfl;assumption;with_reducible rfl) | (go_simp;try with_reducible rfl)
   try simp only [sA1,sA2,sA3,Act.put,sA4,sA5,sA6]
   refine wpAnyN_take (i:=1) (v:=?_) hA rfl (by decide) (by kernel_rfl) (by kernel_rfl) (fun _ _ _ h=>h) (Or.inl ⟨by rfl,?_⟩) hF (fun hA=>?_)
   rotate_left
   ·intro wS hSw;(try dsimp only at hSw);obtain ⟨s1,s2⟩:=hSw;first | (apply Eq.trans;apply ex_ld_id;exact rfl;exact rfl;assumption;with_reducible rfl) | (go_simp;try with_reducible rfl)
   try simp only [sA1,sA2,sA3,Act.put,sA4,sA5,sA6]
   refine wpAnyN_take (i:=2) (v:=?_) hA rfl (by decide) (by kernel_rfl) (by kernel_rfl) (fun _ _ _ h=>h) (Or.inl ⟨by rfl,?_⟩) hF (fun hA=>?_)
   rotate_left
   ·intro wS hSw;(try dsimp only at hSw);obtain ⟨s1,s2⟩:=hSw;first | (apply Eq.trans;apply ex_ld_id;exact rfl;exact rfl;assumption;with_reducible rfl) | (go_simp;try with_reducible rfl)
   try simp only [sA1,sA2,sA3,Act.put,sA4,sA5,sA6]
   refine wpAnyN_take (i:=3) (v:=?_) hA rfl (by decide) (by kernel_rfl) (by kernel_rfl) (fun _ _ _ h=>h) (Or.inl ⟨by rfl,?_⟩) hF (fun hA=>?_)
   rotate_left
   ·intro wS hSw;(try dsimp only at hSw);obtain ⟨s1,s2⟩:=hSw;first | (apply Eq.trans;apply ex_ld_id;exact rfl;exact rfl;assumption;with_reducible rfl) | (go_simp;try with_reducible rfl)
   try simp only [sA1,sA2,sA3,Act.put,sA4,sA5,sA6]
   refine wpAnyN_take (i:=4) (v:=?_) hA rfl (by decide) (by kernel_rfl) (by kernel_rfl) (fun _ _ _ h=>h) (Or.inl ⟨by rfl,?_⟩) hF (fun hA=>?_)
   rotate_left
   ·intro wS hSw;(try dsimp only at hSw);obtain ⟨s1,s2⟩:=hSw;first | (apply Eq.trans;apply ex_ld_id;exact rfl;exact rfl;assumption;with_reducible rfl) | (go_simp;try with_reducible rfl)
   try simp only [sA1,sA2,sA3,Act.put,sA4,sA5,sA6]
   refine wpAnyN_take (i:=5) (v:=?_) hA rfl (by decide) (by kernel_rfl) (by kernel_rfl) (fun _ _ _ h=>h) (Or.inl ⟨by rfl,?_⟩) hF (fun hA=>?_)
   rotate_left
   ·intro wS hSw;(try dsimp only at hSw);obtain ⟨s1,s2⟩:=hSw;first | (apply Eq.trans;apply ex_ld_id;exact rfl;exact rfl;assumption;with_reducible rfl) | (go_simp;try with_reducible rfl)
   try simp only [sA1,sA2,sA3,Act.put,sA4,sA5,sA6]
   refine wpAnyN_take (i:=6) (v:=?_) hA rfl (by decide) (by kernel_rfl) (by kernel_rfl) (fun _ _ _ h=>h) (Or.inl ⟨by rfl,?_⟩) hF (fun hA=>?_)
   rotate_left
   ·intro wS hSw;(try dsimp only at hSw);obtain ⟨s1,s2⟩:=hSw;first | (apply Eq.trans;apply ex_ld_id;exact rfl;exact rfl;assumption;with_reducible rfl) | (go_simp;try with_reducible rfl)
   try simp only [sA1,sA2,sA3,Act.put,sA4,sA5,sA6]
   refine wpAnyN_take (i:=7) (v:=?_) hA rfl (by decide) (by kernel_rfl) (by kernel_rfl) (fun _ _ _ h=>h) (Or.inl ⟨by rfl,?_⟩) hF (fun hA=>?_)
   rotate_left
   ·intro wS hSw;(try dsimp only at hSw);obtain ⟨s1,s2⟩:=hSw;first | (apply Eq.trans;apply ex_ld_id;exact rfl;exact rfl;assumption;with_reducible rfl) | (go_simp;try with_reducible rfl)
   try simp only [sA1,sA2,sA3,Act.put,sA4,sA5,sA6]
   refine wpAnyN_take (i:=8) (v:=?_) hA rfl (by decide) (by kernel_rfl) (by kernel_rfl) (fun _ _ _ h=>h) (Or.inl ⟨by rfl,?_⟩) hF (fun hA=>?_)
   rotate_left
   ·intro wS hSw;(try dsimp only at hSw);obtain ⟨s1,s2⟩:=hSw;first | (apply Eq.trans;apply ex_ld_id;exact rfl;exact rfl;assumption;with_reducible rfl) | (go_simp;try with_reducible rfl)
   try simp only [sA1,sA2,sA3,Act.put,sA4,sA5,sA6]
   refine wpAnyN_one (i:=9) hA (by kernel_rfl) (by decide) rfl (fun K hK=>?_)
   go_simp
   go_at_call 88
   refine (cmp_any _ pa pb).mono ?_
   rintro e w1 hcm
   have hf1:=hcm.fr
   obtain ⟨rfl,_⟩:=hcm
   have q1:=rdI_fr r1 (rdI_lt r1) hf1 (by simp [noB])
   have q2:=rdI_fr r2 (rdI_lt r2) hf1 (by simp [noB])
   refine hK.out _ _ ⟨q1,q2⟩ (fun hA=>?_)
   clear hK K
   refine wpAnyN_end rfl (by kernel_rfl) ?_
   simp only [List.drop_succ_cons,List.drop_zero]
   have F2:Fr noB (w.alloc (ido x)) w1:=hf.drew.step0 hf1
   by_cases hc:0 ≤ cmpI pa pb
   ·go_wp2
    go_ret
    refine ⟨?_,((Fr.refl noB w).alloc _).step0 F2⟩
    have:asc ps = false:=by
     cases ha:asc ps with
     | false=>rfl
     | true =>
      have:=(asc_iff ps).1 ha k hlt
      rw [EA.out,EB.out] at this
      omega
    simp [rightL,this]
   ·go_wp2
    go_roundg (ps.length - (k + 1))
    case measure=>omega
    case rel =>
     refine ⟨k + 1,by simp,rfl,F2,fun j hj=>?_,.inr hlt⟩
     rcases Nat.lt_or_ge j k with h | h
     ·exact HK.out j h
     ·have:j = k:=by omega
      subst this
      rw [EA.out,EB.out]
      omega
  ·have i1:¬ ((k:Int) + 1 < ps.length):=by omega
   have ha:asc ps = true:=(asc_iff ps).2 (fun j hj=>hk j (by omega))
   have HA:=Lib.hid ha
   clear ha hk
   by_cases hx:x = zID
   ·go_wp2
    go_ret
    exact ⟨by simp [rightL],F1⟩
   ·go_wp2
    go_ret
    refine ⟨?_,F1⟩
    have e:decide ((ps.length:Int) ≤ 2) = decide (ps.length ≤ 2):=by
     rw [decide_eq_decide];omega
    simp [rightL,HA.out,hx,e]
def EqR (w:World) (l m:List ID) (gk:Nat) (iv:Value) (wr:World):Prop :=
 ∃ k:Nat,iv = .int .i64 (k:Int) ∧ gk = l.length - k ∧ Fr noB w wr ∧ l.take k = m.take k ∧ k ≤ l.length
set_option maxRecDepth 100000 in
set_option maxHeartbeats 1000000 in
theorem equal_any (w:World) (A B:Option Addr) (c d n1 n2:Nat) (l m:List ID) (h1:l.length = n1) (h2:m.length = n2) (hA:Sl w A (idc l)) (hB:Sl w B (idc m)) (hb:l.length ≤ 1000000000000) (hb2:m.length ≤ 1000000000000) :
  Calls Tryz.prog 62 #[.slice A n1 c,.slice B n2 d] w (GivesD w (.bool (decide (l = m)))):=by
 subst h1 h2
 by_cases hl:l.length = m.length
 ·have hli:(l.length:Int) = m.length:=by omega
  go_enter Tryz.func62,Tryz.ntmps62
  go_wp2
  go_loopg [13] l.length (fun gk iv wr=>EqR w l m gk iv wr)
  case atStart=>exact ⟨0,rfl,by simp,Fr.refl _ _,rfl,by omega⟩
  case round =>
   obtain ⟨k,rfl,rfl,hf,hk,hkl⟩:=hrel
   by_cases hlt:k < l.length
   ·obtain ⟨g,off,rfl⟩:=hA.adG (by omega)
    obtain ⟨g2,off2,rfl⟩:=hB.adG (by omega)
    have r1:rdI wr.drew g (off + k * 32) = some l[k]:=by rw [rdI_drew,(hA.fr0 hf).id k hlt]
    have r2:rdI wr.drew g2 (off2 + k * 32) = some (m[k]'(by omega)):=by rw [rdI_drew,(hB.fr0 hf).id k (by omega)]
    have HK:=Lib.hid hk
    clear hk
    have i1:(k:Int) < l.length:=by omega
    have i2:(k:Int) < m.length:=by omega
    have p0:(0:Int) ≤ (k:Int):=by omega
    generalize ea:l[k] = pa at r1
    generalize eb:m[k]'(by omega) = pb at r2
    have EA:=Lib.hid ea
    have EB:=Lib.hid eb
    clear ea eb
    go_wp2_with fail
    refine wp_region_H (fun w'=>rdI w' g (off + k * 32) = some pa ∧ rdI w' g2 (off2 + k * 32) = some pb) (by kernel_rfl) ⟨r1,r2⟩ (fun hF=>?_)
    refine wpAnyH_take (i:=0) (v:=?_) rfl (by kernel_rfl) (by kernel_rfl) (by kernel_rfl) (fun _ _ _ h=>h) (Or.inl ⟨by rfl,?_⟩) hF ?_
    rotate_left
    ·intro wS hSw;(try dsimp only at hSw);obtain ⟨s1,s2⟩:=hSw;first | (apply Eq.trans;apply ex_ld_id;exact rfl;exact rfl;assumption;with_reducible rfl) | (go_simp;try with_reducible rfl)
    try simp only [sA1,sA2,sA3,Act.put,sA4,sA5,sA6]
    refine wpAnyH_take (i:=1) (v:=?_) rfl (by kernel_rfl) (by kernel_rfl) (by kernel_rfl) (fun _ _ _ h=>h) (Or.inl ⟨by rfl,?_⟩) hF ?_
    rotate_left
    ·intro wS hSw;(try dsimp only at hSw);obtain ⟨s1,s2⟩:=hSw;first | (apply Eq.trans;apply ex_ld_id;exact rfl;exact rfl;assumption;with_reducible rfl) | (go_simp;try with_reducible rfl)
    try simp only [sA1,sA2,sA3,Act.put,sA4,sA5,sA6]
    refine wpAnyH_take (i:=2) (v:=?_) rfl (by kernel_rfl) (by kernel_rfl) (by kernel_rfl) (fun _ _ _ h=>h) (Or.inl ⟨by rfl,?_⟩) hF ?_
    rotate_left
    ·intro wS hSw;(try dsimp only at hSw);obtain ⟨s1,s2⟩:=hSw;first | (apply Eq.trans;apply ex_ld_id;exact rfl;exact rfl;assumption;with_reducible rfl) | (go_simp;try with_reducible rfl)
    try simp only [sA1,sA2,sA3,Act.put,sA4,sA5,sA6]
    refine wpAnyH_take (i:=3) (v:=?_) rfl (by kernel_rfl) (by kernel_rfl) (by kernel_rfl) (fun _ _ _ h=>h) (Or.inl ⟨by rfl,?_⟩) hF ?_
    rotate_left
    ·intro wS hSw;(try dsimp only at hSw);obtain ⟨s1,s2⟩:=hSw;first | (apply Eq.trans;apply ex_ld_id;exact rfl;exact rfl;assumption;with_reducible rfl) | (go_simp;try with_reducible rfl)
    try simp only [sA1,sA2,sA3,Act.put,sA4,sA5,sA6]
    refine wpAnyH_take (i:=4) (v:=?_) rfl (by kernel_rfl) (by kernel_rfl) (by kernel_rfl) (fun _ _ _ h=>h) (Or.inl ⟨by rfl,?_⟩) hF ?_
    rotate_left
    ·intro wS hSw;(try dsimp only at hSw);obtain ⟨s1,s2⟩:=hSw;first | (apply Eq.trans;apply ex_ld_id;exact rfl;exact rfl;assumption;with_reducible rfl) | (go_simp;try with_reducible rfl)
    try simp only [sA1,sA2,sA3,Act.put,sA4,sA5,sA6]
    refine wpAnyH_take (i:=5) (v:=?_) rfl (by kernel_rfl) (by kernel_rfl) (by kernel_rfl) (fun _ _ _ h=>h) (Or.inl ⟨by rfl,?_⟩) hF ?_
    rotate_left
    ·intro wS hSw;(try dsimp only at hSw);obtain ⟨s1,s2⟩:=hSw;first | (apply Eq.trans;apply ex_ld_id;exact rfl;exact rfl;assumption;with_reducible rfl) | (go_simp;try with_reducible rfl)
    try simp only [sA1,sA2,sA3,Act.put,sA4,sA5,sA6]
    refine wpAnyH_take (i:=6) (v:=?_) rfl (by kernel_rfl) (by kernel_rfl) (by kernel_rfl) (fun _ _ _ h=>h) (Or.inl ⟨by rfl,?_⟩) hF ?_
    rotate_left
    ·intro wS hSw;(try dsimp only at hSw);obtain ⟨s1,s2⟩:=hSw;first | (apply Eq.trans;apply ex_ld_id;exact rfl;exact rfl;assumption;with_reducible rfl) | (go_simp;try with_reducible rfl)
    try simp only [sA1,sA2,sA3,Act.put,sA4,sA5,sA6]
    refine wpAnyH_take (i:=7) (v:=?_) rfl (by kernel_rfl) (by kernel_rfl) (by kernel_rfl) (fun _ _ _ h=>h) (Or.inl ⟨by rfl,?_⟩) hF ?_
    rotate_left
    ·intro wS hSw;(try dsimp only at hSw);obtain ⟨s1,s2⟩:=hSw;first | (apply Eq.trans;apply ex_ld_id;exact rfl;exact rfl;assumption;with_reducible rfl) | (go_simp;try with_reducible rfl)
    try simp only [sA1,sA2,sA3,Act.put,sA4,sA5,sA6]
    refine wpAnyH_take (i:=8) (v:=?_) rfl (by kernel_rfl) (by kernel_rfl) (by kernel_rfl) (fun _ _ _ h=>h) (Or.inl ⟨by rfl,?_⟩) hF ?_
    rotate_left
    ·intro wS hSw;(try dsimp only at hSw);obtain ⟨s1,s2⟩:=hSw;first | (apply Eq.trans;apply ex_ld_id;exact rfl;exact rfl;assumption;with_reducible rfl) | (go_simp;try with_reducible rfl)
    try simp only [sA1,sA2,sA3,Act.put,sA4,sA5,sA6]
    refine wpAnyH_done (by kernel_rfl) ?_ _
    clear hF
    by_cases hab:pa = pb
    ·subst hab
     go_wp2
     go_roundg (l.length - (k + 1))
     case measure=>omega
     case rel =>
      refine ⟨k + 1,by simp,rfl,hf.drew,?_,by omega⟩
      rw [List.take_add_one,List.take_add_one,HK.out,List.getElem?_eq_getElem hlt,List.getElem?_eq_getElem (by omega),EA.out,EB.out]
    ·have hd:decide (pa = pb) = false:=by simp [hab]
     have hab2:=Lib.hid hab
     clear hab
     go_wp2
     go_ret
     refine ⟨?_,hf.drew⟩
     have hab:=hab2.out
     have:l ≠ m:=by
      rintro rfl
      exact hab (EA.out.symm.trans EB.out)
     simp [this]
     exfalso
     simp_all
   ·have i1:¬ (k:Int) < l.length:=by omega
    have e:l = m:=by
     have e1:k = l.length:=by omega
     rw [e1,List.take_length,hl,List.take_length] at hk
     exact hk
    have E:=Lib.hid e
    clear e hk
    go_wp2
    go_ret
    exact ⟨by simp [E.out],hf⟩
 ·have hli:¬ (l.length:Int) = m.length:=by omega
  go_enter Tryz.func62,Tryz.ntmps62
  go_wp2
  go_ret
  exact ⟨by have:l ≠ m:=fun e=>hl (by rw [e])
            simp [this],Fr.refl _ _⟩
end Go.Proofs.YtjpieiccpbcabaaGreat
namespace Go.Proofs.YtjpieiccpbcabaaGreat
open Go.RowKit Go.Maps Go.Sort
def grF (F:Nat → Prop) (w w':World):Nat → Prop:=fun b=>F b ∨ (w.heap.size ≤ b ∧ b < w'.heap.size)
def AddTo (w:World) (D:Nat) (F:Nat → Prop) (G:Dg) (x:ID) (ps:List ID) (e:Ending) (w':World):Prop :=
 e = .returned (.int .i64 ((addG G x ps).1:Nat)) ∧ DagAt w' D (grF F w w') (addG G x ps).2 ∧ Fr F w w'
section
variable {w w':World} {D A K:Nat} {kv:List (ID × Value)} {ks:List ID} {F:Nat → Prop} {G:Dg}
theorem DagA.grow (h:DagA w D A K kv ks F G) {F':Nat → Prop} (hF:∀ b,F b → F' b) (hl:∀ b,F' b → b < w.heap.size):DagA w D A K kv ks F' G :=
 ⟨h.blk,h.all,h.kids,h.ne,hF _ h.fD,hF _ h.fA,hF _ h.fK,h.keys,h.par,fun x ps hp=>by obtain ⟨B,c,h1,h2,h3⟩:=h.vals x ps hp;exact ⟨B,c,h1,h2,h3.mono hF⟩,hl,h.ok,h.le⟩
theorem DagA.same (h:DagA w D A K kv ks F G) (f:Fr noB w w'):DagAt w' D (grF F w w') G :=
 ⟨A,K,kv,ks,(h.fr0 f).grow (fun b hb=>.inl hb) (fun b hb=>hb.elim (fun h'=>Nat.lt_of_lt_of_le (h.lt b h') f.size) (fun h'=>h'.2))⟩
end
theorem Sl.frM {M:Nat → Prop} {w w':World} {A:Option Addr} {xs:List Value} (hs:Sl w A xs) (f:Fr M w w') (hM:∀ b,b < w.heap.size → M b → ∃ kv,mpI w b = some kv):Sl w' A xs:=by
 intro hne
 obtain ⟨g,off,e,hg,hc⟩:=hs hne
 have hnm:¬ M g:=by
  intro hm
  obtain ⟨kv,hk⟩:=hM g hg hm
  cases xs with
  | nil=>exact hne rfl
  | cons u us =>
   have:=hc 0 u rfl
   rw [mp_cell hk] at this
   cases this
 exact ⟨g,off,e,Nat.lt_of_lt_of_le hg f.size,fun j u hu=>(World.cell?_of_block (w:=w) (a:=⟨g,off + j,none⟩) (f.block g hg hnm)).trans (hc j u hu)⟩
theorem rdI_ne {w:World} {g o r:Nat} {x:ID} {kv:List (ID × Value)} (h:rdI w g o = some x) (hm:mpI w r = some kv):g ≠ r:=by
 rintro rfl
 have hl:0 < (bv x.1).length:=by simp [x.2]
 have:=rdI_rd h 0 _ (List.getElem?_eq_getElem hl)
 rw [mp_cell hm] at this
 cases this
theorem putL_new {kv:List (ID × Value)} {x:ID} (h:look kv x = none) (v:Value):putL kv x v = kv ++ [(x,v)]:=by
 unfold putL;rw [h];simp
theorem look_snoc (kv:List (ID × Value)) (x:ID) (v:Value) (y:ID):look (kv ++ [(x,v)]) y = (look kv y).or (if x = y then some v else none):=by
 unfold look
 rw [List.find?_append]
 cases List.find? (fun p=>decide (p.1 = y)) kv with
 | some p=>simp
 | none=>by_cases h:x = y <;> simp [h]
def twoB (A K:Nat):Nat → Prop:=fun b=>b = A ∨ b = K
theorem DagA.more {w w':World} {D A K:Nat} {kv:List (ID × Value)} {ks ks':List ID} {F:Nat → Prop} {G:Dg} (h:DagA w D A K kv ks F G) (hle:G.length < 1000000) {x:ID} {ps:List ID}
  (hr:rightL x ps = true) (hp:parents G x = none) (ha:∀ p ∈ ps,hasG G p = true) (f:Fr (twoB A K) w w') {B:Option Addr} {c:Nat}
  (hA:mpI w' A = some (putL kv x (nodeV B ps.length c (upD (depthG G) ps)))) (hK:mpI w' K = some (setV ks')) (hks:∀ y,y ∈ ks' ↔ y ∈ ks ∨ y ∈ ps)
  (hS:Sl w' B (idc ps)) (hO:Off B (fun b=>w.heap.size ≤ b ∧ b < w'.heap.size)):DagAt w' D (grF F w w') ((x,ps) :: G):=by
 have hM:∀ b,b < w.heap.size → twoB A K b → ∃ kv,mpI w b = some kv:=by
  rintro b _ (rfl | rfl)
  ·exact ⟨_,h.all⟩
  ·exact ⟨_,h.kids⟩
 have nDA:D ≠ A:=mp_ne h.all h.blk
 have nDK:D ≠ K:=mp_ne h.kids h.blk
 have hlk:=h.look0 hp
 rw [putL_new hlk] at hA
 refine ⟨A,K,_,ks',h.blk.fr f (by rintro (e | e);exact nDA e;exact nDK e),hA,hK,h.ne,.inl h.fD,.inl h.fA,.inl h.fK,?_,?_,?_,?_,?_,?_⟩
 ·simp [h.keys]
 ·intro y
  rw [hks,h.par]
  constructor
  ·rintro (⟨p,hp1,hp2⟩ | h1)
   ·exact ⟨p,List.mem_cons_of_mem _ hp1,hp2⟩
   ·exact ⟨(x,ps),List.mem_cons_self ..,h1⟩
  ·rintro ⟨p,hp1,hp2⟩
   rcases List.mem_cons.1 hp1 with rfl | hp1
   ·exact .inr hp2
   ·exact .inl ⟨p,hp1,hp2⟩
 ·intro y q hq
  rw [look_snoc]
  unfold parents at hq
  split at hq
  ·rename_i e
   subst e
   injection hq with hq
   subst hq
   refine ⟨B,c,?_,hS,hO.mono (fun b hb=>.inr hb)⟩
   rw [hlk]
   simp [depthG]
  ·rename_i e
   obtain ⟨B',c',h1,h2,h3⟩:=h.vals y q hq
   refine ⟨B',c',?_,h2.frM f hM,h3.mono (fun b hb=>.inl hb)⟩
   rw [h1]
   simp [depthG,e]
 ·intro b hb
  exact hb.elim (fun h'=>Nat.lt_of_lt_of_le (h.lt b h') f.size) (fun h'=>h'.2)
 ·exact ⟨hr,by simp [hasG,hp],ha,h.ok⟩
 ·simp only [List.length_cons];omega
def AddR (G:Dg) (ps:List ID) (wA:World) (N:Nat) (sv:Value) (gk:Nat) (iv:Value) (wr:World):Prop :=
 ∃ k:Nat,iv = .int .i64 (k:Int) ∧ gk = ps.length - k ∧ Fr (oneB N) wA wr ∧ Blk wr N 128 [sv,.int .i64 (upD (depthG G) (ps.take k):Nat)] ∧ (∀ p ∈ ps.take k,hasG G p = true) ∧ k ≤ ps.length
theorem upD_take (f:ID → Nat) (ps:List ID) (k:Nat) (p:ID) (h:ps[k]? = some p):upD f (ps.take (k + 1)) = max (upD f (ps.take k)) (f p + 1):=by
 rw [List.take_add_one,h]
 simp [upD,List.foldl_append]
theorem AddR.next {G:Dg} {ps:List ID} {wA wa:World} {N k:Nat} {sv dv:Value} {p:ID} {d:Int} (f:Fr (oneB N) wA wa) (hb:Blk wa N 128 [sv,dv]) (hk:∀ p ∈ ps.take k,hasG G p = true) (hp:ps[k]? = some p) (hG:hasG G p = true)
  (hd:d = ((upD (depthG G) (ps.take (k + 1)):Nat):Int)):AddR G ps wA N sv (ps.length - (k + 1)) (.int .i64 ((k:Int) + 1)) (wa.setCell ⟨N,1,none⟩ (.int .i64 d)):=by
 subst hd
 refine ⟨k + 1,by simp,rfl,f.setCell (fun _=>by simp [oneB]) _,hb.set 1 _,?_,?_⟩
 ·intro q hq
  rw [List.take_add_one,hp] at hq
  rcases List.mem_append.1 hq with h | h
  ·exact hk q h
  ·simp at h;rw [h];exact hG
 ·exact (List.getElem?_eq_some_iff.1 hp).1
def KidR (ks ps:List ID) (wA:World) (K:Nat) (gk:Nat) (iv:Value) (wr:World):Prop :=
 ∃ (k:Nat) (ks':List ID),iv = .int .i64 (k:Int) ∧ gk = ps.length - k ∧ Fr (oneB K) wA wr ∧ mpI wr K = some (setV ks') ∧ (∀ y,y ∈ ks' ↔ y ∈ ks ∨ y ∈ ps.take k) ∧ k ≤ ps.length
set_option maxRecDepth 100000 in
set_option maxHeartbeats 2000000 in
theorem add_any (w:World) (D:Nat) (F:Nat → Prop) (G:Dg) (h:DagAt w D F G) (hle:G.length < 1000000) (x:ID) (P:Option Addr) (c n:Nat) (ps:List ID) (hn:ps.length = n) (hs:Sl w P (idc ps)) (hb:ps.length ≤ 1000000000000) :
  Calls Tryz.prog 35 #[.pointer (some ⟨D,0,none⟩),encI x,.slice P n c] w (AddTo w D F G x ps):=by
 subst hn
 obtain ⟨A,K,kv,ks,h⟩:=h
 have F1:Fr noB w (w.alloc (ido x)):=(Fr.refl noB w).alloc _
 go_enter Tryz.func35,Tryz.ntmps35
 go_wp2_with fail
 go_at_call 61
 refine (gright_any _ x P c _ ps rfl (hs.fr0 F1) hb).mono ?_
 rintro e w2 ⟨rfl,hf2⟩
 have F2:=F1.step0 hf2
 cases hr:rightL x ps with
 | false =>
  go_wp2
  go_ret
  have ea:addG G x ps = (1,G):=by simp [addG,hr]
  rw [AddTo,ea]
  exact ⟨rfl,h.same F2,F2.any⟩
 | true =>
  obtain ⟨B,cB,hn,hB,hBF⟩:=h.node x
  have hsm:=h.isSome x
  have rx:rdI w2.drew w.heap.size 0 = some x:=by rw [rdI_drew];exact rdI_fr (rdI_new w x) (by simp) hf2 (by simp [noB])
  have h2:=h.fr0 F2.drew
  have d0:=h2.c0
  have da:=h2.all
  go_wp2_with fail
  refine wp_region_N 11 (fun w'=>w'.cell? ⟨D,0,none⟩ = some (.map (some A)) ∧ mpI w' A = some kv ∧ rdI w' w.heap.size 0 = some x) (by kernel_rfl) (by kernel_rfl) ⟨d0,da,rx⟩ (fun hA hF=>?_)
  refine wpAnyN_take (i:=0) (v:=?_) hA rfl (by decide) (by kernel_rfl) (by kernel_rfl) (fun _ _ _ h=>h) (Or.inl ⟨by rfl,?_⟩) hF (fun hA=>?_)
  rotate_left
  ·intro wS hSw;(try dsimp only at hSw);obtain ⟨s1,s2,s3⟩:=hSw;first | (apply Eq.trans;apply ex_ld_id;exact rfl;exact rfl;assumption;with_reducible rfl) | (go_simp;try with_reducible rfl)
  try simp only [sA1,sA2,sA3,Act.put,sA4,sA5,sA6]
  refine wpAnyN_take (i:=1) (v:=?_) hA rfl (by decide) (by kernel_rfl) (by kernel_rfl) (fun _ _ _ h=>h) (Or.inl ⟨by rfl,?_⟩) hF (fun hA=>?_)
  rotate_left
  ·intro wS hSw;(try dsimp only at hSw);obtain ⟨s1,s2,s3⟩:=hSw;first | (apply Eq.trans;apply ex_ld_id;exact rfl;exact rfl;assumption;with_reducible rfl) | (go_simp;try with_reducible rfl)
  try simp only [sA1,sA2,sA3,Act.put,sA4,sA5,sA6]
  refine wpAnyN_take (i:=2) (v:=?_) hA rfl (by decide) (by kernel_rfl) (by kernel_rfl) (fun _ _ _ h=>h) (Or.inl ⟨by rfl,?_⟩) hF (fun hA=>?_)
  rotate_left
  ·intro wS hSw;(try dsimp only at hSw);obtain ⟨s1,s2,s3⟩:=hSw;first | (apply Eq.trans;apply ex_ld_id;exact rfl;exact rfl;assumption;with_reducible rfl) | (go_simp;try with_reducible rfl)
  try simp only [sA1,sA2,sA3,Act.put,sA4,sA5,sA6]
  refine wpAnyN_take (i:=3) (v:=?_) hA rfl (by decide) (by kernel_rfl) (by kernel_rfl) (fun _ _ _ h=>h) (Or.inl ⟨by rfl,?_⟩) hF (fun hA=>?_)
  rotate_left
  ·intro wS hSw;(try dsimp only at hSw);obtain ⟨s1,s2,s3⟩:=hSw;first | (apply Eq.trans;apply ex_ld_id;exact rfl;exact rfl;assumption;with_reducible rfl) | (go_simp;try with_reducible rfl)
  try simp only [sA1,sA2,sA3,Act.put,sA4,sA5,sA6]
  refine wpAnyN_take (i:=4) (v:=?_) hA rfl (by decide) (by kernel_rfl) (by kernel_rfl) (fun _ _ _ h=>h) (Or.inl ⟨by rfl,?_⟩) hF (fun hA=>?_)
  rotate_left
  ·intro wS hSw;(try dsimp only at hSw);obtain ⟨s1,s2,s3⟩:=hSw;first | (apply Eq.trans;apply ex_ld_id;exact rfl;exact rfl;assumption;with_reducible rfl) | (go_simp;try with_reducible rfl)
  try simp only [sA1,sA2,sA3,Act.put,sA4,sA5,sA6]
  refine wpAnyN_take (i:=5) (v:=?_) hA rfl (by decide) (by kernel_rfl) (by kernel_rfl) (fun _ _ _ h=>h) (Or.inl ⟨by rfl,?_⟩) hF (fun hA=>?_)
  rotate_left
  ·intro wS hSw;(try dsimp only at hSw);obtain ⟨s1,s2,s3⟩:=hSw;first | (apply Eq.trans;apply ex_ld_id;exact rfl;exact rfl;assumption;with_reducible rfl) | (go_simp;try with_reducible rfl)
  try simp only [sA1,sA2,sA3,Act.put,sA4,sA5,sA6]
  refine wpAnyN_take (i:=6) (v:=?_) hA rfl (by decide) (by kernel_rfl) (by kernel_rfl) (fun _ _ _ h=>h) (Or.inl ⟨by rfl,?_⟩) hF (fun hA=>?_)
  rotate_left
  ·intro wS hSw;(try dsimp only at hSw);obtain ⟨s1,s2,s3⟩:=hSw;first | (apply Eq.trans;apply ex_ld_id;exact rfl;exact rfl;assumption;with_reducible rfl) | (go_simp;try with_reducible rfl)
  try simp only [sA1,sA2,sA3,Act.put,sA4,sA5,sA6]
  refine wpAnyN_take (i:=7) (v:=?_) hA rfl (by decide) (by kernel_rfl) (by kernel_rfl) (fun _ _ _ h=>h) (Or.inl ⟨by rfl,?_⟩) hF (fun hA=>?_)
  rotate_left
  ·intro wS hSw;(try dsimp only at hSw);obtain ⟨s1,s2,s3⟩:=hSw;first | (apply Eq.trans;apply ex_ld_id;exact rfl;exact rfl;assumption;with_reducible rfl) | (go_simp;try with_reducible rfl)
  try simp only [sA1,sA2,sA3,Act.put,sA4,sA5,sA6]
  refine wpAnyN_take (i:=8) (v:=?_) hA rfl (by decide) (by kernel_rfl) (by kernel_rfl) (fun _ _ _ h=>h) (Or.inl ⟨by rfl,?_⟩) hF (fun hA=>?_)
  rotate_left
  ·intro wS hSw;(try dsimp only at hSw);obtain ⟨s1,s2,s3⟩:=hSw;first | (apply Eq.trans;apply ex_ld_id;exact rfl;exact rfl;assumption;with_reducible rfl) | (go_simp;try with_reducible rfl)
  try simp only [sA1,sA2,sA3,Act.put,sA4,sA5,sA6]
  refine wpAnyN_one (i:=9) hA (by kernel_rfl) (by decide) rfl (fun K hK=>?_)
  go_simp
  have F3:Fr noB w (w2.alloc (.cells #[.slice none 0 0,.int .i64 0] 128)).drew:=(F2.alloc _).drew
  have lx:w.heap.size < w2.heap.size:=rdI_lt rx
  have h3:=h.fr0 F3
  refine hK.out _ _ ⟨h3.c0,h3.all,by rw [rdI_drew,rdI_old _ _ _ _ lx,← rdI_drew];exact rx⟩ (fun hA=>?_)
  clear hK K
  refine wpAnyN_one (i:=10) hA (by kernel_rfl) (by decide) rfl (fun K hK=>?_)
  go_simp
  have F4:Fr noB w (w2.alloc (.cells #[.slice B ((parents G x).getD []).length cB,.int .i64 (depthG G x)] 128)).drew:=(F2.alloc _).drew
  have h4:=h.fr0 F4
  have rx4:rdI (w2.alloc (.cells #[.slice B ((parents G x).getD []).length cB,.int .i64 (depthG G x)] 128)).drew w.heap.size 0 = some x:=by rw [rdI_drew,rdI_old _ _ _ _ lx,← rdI_drew];exact rx
  have b4:Blk (w2.alloc (.cells #[.slice B ((parents G x).getD []).length cB,.int .i64 (depthG G x)] 128)).drew w2.heap.size 128 [.slice B ((parents G x).getD []).length cB,.int .i64 (depthG G x)]:=Blk.new w2 128 _
  refine hK.out _ _ ⟨h4.c0,h4.all,rx4⟩ (fun hA=>?_)
  clear hK K
  refine wpAnyN_end rfl (by kernel_rfl) ?_
  simp only [List.drop_succ_cons,List.drop_zero]
  generalize ew:(w2.alloc (.cells #[.slice B ((parents G x).getD []).length cB,.int .i64 (depthG G x)] 128)).drew = w4 at F4 h4 rx4 b4 ⊢
  have lN:w2.heap.size < w4.heap.size:=b4.lt
  clear ew h3 F3 d0 da rx h2 hF
  cases hp:parents G x with
  | some q =>
   have hG:hasG G x = true:=by simp [hasG,hp]
   rw [hp] at b4 hB
   simp only [Option.getD_some] at b4 hB
   have k0:=Blk.cell b4 0
   simp only [List.getElem?_cons_zero] at k0
   have hq:=okG_par h.ok hp
   rw [hG]
   go_wp2_with fail
   go_at_call 62
   refine (equal_any _ B P cB c _ _ q ps rfl rfl (hB.fr0 F4) (hs.fr0 F4) (by omega) hb).mono ?_
   rintro e w5 ⟨rfl,hf5⟩
   have F5:=F4.step0 hf5
   by_cases hqp:q = ps
   ·have ea:addG G x ps = (0,G):=by simp [addG,hr,hp,hqp]
    have hd:decide (q = ps) = true:=by simp [hqp]
    have HQ:=Lib.hid hqp
    clear hqp
    go_wp2
    go_ret
    rw [AddTo,ea]
    exact ⟨rfl,h.same F5,F5.any⟩
   ·have ea:addG G x ps = (5,G):=by simp [addG,hr,hp,hqp]
    have hd:decide (q = ps) = false:=by simp [hqp]
    have HQ:=Lib.hid hqp
    clear hqp
    go_wp2
    go_ret
    rw [AddTo,ea]
    exact ⟨rfl,h.same F5,F5.any⟩
  | none =>
   have hG:hasG G x = false:=by simp [hasG,hp]
   rw [hG]
   go_wp2_with fail
   go_at_call 63
   refine (idclone_any _ P c ps _ rfl (hs.fr0 F4) hb).mono ?_
   rintro e w5 ⟨A5,c5,rfl,ho5,hf5⟩
   have F5:=F4.step0 hf5
   have F6:Fr noB w (w5.alloc (.cells #[.slice A5 ps.length c5,.int .i64 1] 128)):=F5.alloc _
   have b6:Blk (w5.alloc (.cells #[.slice A5 ps.length c5,.int .i64 1] 128)) w5.heap.size 128 [.slice A5 ps.length c5,.int .i64 1]:=Blk.new w5 128 _
   have lw5:w.heap.size ≤ w5.heap.size:=F5.size
   go_wp2_with fail
   go_loopg [40] ps.length (fun gk iv wr=>AddR G ps (w5.alloc (.cells #[.slice A5 ps.length c5,.int .i64 1] 128)) w5.heap.size (.slice A5 ps.length c5) gk iv wr)
   case atStart=>exact ⟨0,rfl,by simp,Fr.refl _ _,b6,by simp,by omega⟩
   case round =>
    obtain ⟨k,rfl,rfl,hf,hbk,hk,hkl⟩:=hrel
    have F7:Fr noB w wr:=F6.step1 hf lw5
    by_cases hlt:k < ps.length
    ·obtain ⟨g,off,rfl⟩:=hs.adG (by omega)
     have r0:=hs.id k hlt
     have r1:rdI wr g (off + k * 32) = some ps[k]:=rdI_fr r0 (rdI_lt r0) F7 (by simp [noB])
     have i1:(k:Int) < ps.length:=by omega
     have p0:(0:Int) ≤ (k:Int):=by omega
     generalize ea:ps[k] = pa at r1
     have EA:=Lib.hid ea
     have HK:=Lib.hid hk
     clear ea hk r0
     obtain ⟨B',cB',hn',_,_⟩:=h.node pa
     have hsm':=h.isSome pa
     have F8:Fr noB w (wr.alloc (ido pa)).drew:=(F7.alloc _).drew
     have h8:=h.fr0 F8
     have rp:rdI (wr.alloc (ido pa)).drew wr.heap.size 0 = some pa:=by rw [rdI_drew,rdI_new]
     clear hn hsm
     go_wp2_with fail
     refine wp_region_N 11 (fun w'=>w'.cell? ⟨D,0,none⟩ = some (.map (some A)) ∧ mpI w' A = some kv ∧ rdI w' wr.heap.size 0 = some pa) (by kernel_rfl) (by kernel_rfl) ⟨h8.c0,h8.all,rp⟩ (fun hA hF=>?_)
     refine wpAnyN_take (i:=0) (v:=?_) hA rfl (by decide) (by kernel_rfl) (by kernel_rfl) (fun _ _ _ h=>h) (Or.inl ⟨by rfl,?_⟩) hF (fun hA=>?_)
     rotate_left
     ·intro wS hSw;(try dsimp only at hSw);obtain ⟨s1,s2,s3⟩:=hSw;first | (apply Eq.trans;apply ex_ld_id;exact rfl;exact rfl;assumption;with_reducible rfl) | (go_simp;try with_reducible rfl)
     try simp only [sA1,sA2,sA3,Act.put,sA4,sA5,sA6]
     refine wpAnyN_take (i:=1) (v:=?_) hA rfl (by decide) (by kernel_rfl) (by kernel_rfl) (fun _ _ _ h=>h) (Or.inl ⟨by rfl,?_⟩) hF (fun hA=>?_)
     rotate_left
     ·intro wS hSw;(try dsimp only at hSw);obtain ⟨s1,s2,s3⟩:=hSw;first | (apply Eq.trans;apply ex_ld_id;exact rfl;exact rfl;assumption;with_reducible rfl) | (go_simp;try with_reducible rfl)
     try simp only [sA1,sA2,sA3,Act.put,sA4,sA5,sA6]
     refine wpAnyN_take (i:=2) (v:=?_) hA rfl (by decide) (by kernel_rfl) (by kernel_rfl) (fun _ _ _ h=>h) (Or.inl ⟨by rfl,?_⟩) hF (fun hA=>?_)
     rotate_left
     ·intro wS hSw;(try dsimp only at hSw);obtain ⟨s1,s2,s3⟩:=hSw;first | (apply Eq.trans;apply ex_ld_id;exact rfl;exact rfl;assumption;with_reducible rfl) | (go_simp;try with_reducible rfl)
     try simp only [sA1,sA2,sA3,Act.put,sA4,sA5,sA6]
     refine wpAnyN_take (i:=3) (v:=?_) hA rfl (by decide) (by kernel_rfl) (by kernel_rfl) (fun _ _ _ h=>h) (Or.inl ⟨by rfl,?_⟩) hF (fun hA=>?_)
     rotate_left
     ·intro wS hSw;(try dsimp only at hSw);obtain ⟨s1,s2,s3⟩:=hSw;first | (apply Eq.trans;apply ex_ld_id;exact rfl;exact rfl;assumption;with_reducible rfl) | (go_simp;try with_reducible rfl)
     try simp only [sA1,sA2,sA3,Act.put,sA4,sA5,sA6]
     refine wpAnyN_take (i:=4) (v:=?_) hA rfl (by decide) (by kernel_rfl) (by kernel_rfl) (fun _ _ _ h=>h) (Or.inl ⟨by rfl,?_⟩) hF (fun hA=>?_)
     rotate_left
     ·intro wS hSw;(try dsimp only at hSw);obtain ⟨s1,s2,s3⟩:=hSw;first | (apply Eq.trans;apply ex_ld_id;exact rfl;exact rfl;assumption;with_reducible rfl) | (go_simp;try with_reducible rfl)
     try simp only [sA1,sA2,sA3,Act.put,sA4,sA5,sA6]
     refine wpAnyN_take (i:=5) (v:=?_) hA rfl (by decide) (by kernel_rfl) (by kernel_rfl) (fun _ _ _ h=>h) (Or.inl ⟨by rfl,?_⟩) hF (fun hA=>?_)
     rotate_left
     ·intro wS hSw;(try dsimp only at hSw);obtain ⟨s1,s2,s3⟩:=hSw;first | (apply Eq.trans;apply ex_ld_id;exact rfl;exact rfl;assumption;with_reducible rfl) | (go_simp;try with_reducible rfl)
     try simp only [sA1,sA2,sA3,Act.put,sA4,sA5,sA6]
     refine wpAnyN_take (i:=6) (v:=?_) hA rfl (by decide) (by kernel_rfl) (by kernel_rfl) (fun _ _ _ h=>h) (Or.inl ⟨by rfl,?_⟩) hF (fun hA=>?_)
     rotate_left
     ·intro wS hSw;(try dsimp only at hSw);obtain ⟨s1,s2,s3⟩:=hSw;first | (apply Eq.trans;apply ex_ld_id;exact rfl;exact rfl;assumption;with_reducible rfl) | (go_simp;try with_reducible rfl)
     try simp only [sA1,sA2,sA3,Act.put,sA4,sA5,sA6]
     refine wpAnyN_take (i:=7) (v:=?_) hA rfl (by decide) (by kernel_rfl) (by kernel_rfl) (fun _ _ _ h=>h) (Or.inl ⟨by rfl,?_⟩) hF (fun hA=>?_)
     rotate_left
     ·intro wS hSw;(try dsimp only at hSw);obtain ⟨s1,s2,s3⟩:=hSw;first | (apply Eq.trans;apply ex_ld_id;exact rfl;exact rfl;assumption;with_reducible rfl) | (go_simp;try with_reducible rfl)
     try simp only [sA1,sA2,sA3,Act.put,sA4,sA5,sA6]
     refine wpAnyN_take (i:=8) (v:=?_) hA rfl (by decide) (by kernel_rfl) (by kernel_rfl) (fun _ _ _ h=>h) (Or.inl ⟨by rfl,?_⟩) hF (fun hA=>?_)
     rotate_left
     ·intro wS hSw;(try dsimp only at hSw);obtain ⟨s1,s2,s3⟩:=hSw;first | (apply Eq.trans;apply ex_ld_id;exact rfl;exact rfl;assumption;with_reducible rfl) | (go_simp;try with_reducible rfl)
     try simp only [sA1,sA2,sA3,Act.put,sA4,sA5,sA6]
     refine wpAnyN_one (i:=9) hA (by kernel_rfl) (by decide) rfl (fun K hK=>?_)
     go_simp
     have F9:Fr noB w ((wr.alloc (ido pa)).alloc (.cells #[.slice none 0 0,.int .i64 0] 128)).drew:=((F7.alloc _).alloc _).drew
     have h9:=h.fr0 F9
     refine hK.out _ _ ⟨h9.c0,h9.all,by simp⟩ (fun hA=>?_)
     clear hK K
     refine wpAnyN_one (i:=10) hA (by kernel_rfl) (by decide) rfl (fun K hK=>?_)
     go_simp
     have fa:Fr (oneB w5.heap.size) (w5.alloc (.cells #[.slice A5 ps.length c5,.int .i64 1] 128)) ((wr.alloc (ido pa)).alloc (.cells #[.slice B' ((parents G pa).getD []).length cB',.int .i64 (depthG G pa)] 128)).drew:=((hf.alloc _).alloc _).drew
     have Fa:Fr noB w ((wr.alloc (ido pa)).alloc (.cells #[.slice B' ((parents G pa).getD []).length cB',.int .i64 (depthG G pa)] 128)).drew:=((F7.alloc _).alloc _).drew
     have ha:=h.fr0 Fa
     have bN:Blk ((wr.alloc (ido pa)).alloc (.cells #[.slice B' ((parents G pa).getD []).length cB',.int .i64 (depthG G pa)] 128)).drew w5.heap.size 128 [.slice A5 ps.length c5,.int .i64 (upD (depthG G) (ps.take k):Nat)]:=(hbk.alloc _).alloc _
     have bX:Blk ((wr.alloc (ido pa)).alloc (.cells #[.slice B' ((parents G pa).getD []).length cB',.int .i64 (depthG G pa)] 128)).drew (wr.heap.size + 1) 128 [.slice B' ((parents G pa).getD []).length cB',.int .i64 (depthG G pa)]:=by
      have:=Blk.new (wr.alloc (ido pa)) 128 [.slice B' ((parents G pa).getD []).length cB',.int .i64 (depthG G pa)]
      rw [World.size_alloc] at this
      exact this
     refine hK.out _ _ ⟨ha.c0,ha.all,by simp⟩ (fun hA=>?_)
     clear hK K
     refine wpAnyN_end rfl (by kernel_rfl) ?_
     simp only [List.drop_succ_cons,List.drop_zero]
     generalize ew:((wr.alloc (ido pa)).alloc (.cells #[.slice B' ((parents G pa).getD []).length cB',.int .i64 (depthG G pa)] 128)).drew = wa at fa Fa ha bN bX ⊢
     clear ew h9 F9 hF h8 F8 rp r1
     cases hpa:hasG G pa with
     | false =>
      have ea:addG G x ps = (110,G):=by
       have:ps.all (hasG G) = false:=by
        rw [List.all_eq_false]
        exact ⟨pa,by rw [← EA.out];exact List.getElem_mem hlt,by simp [hpa]⟩
       simp [addG,hr,hp,this]
      go_wp2
      go_ret
      rw [AddTo,ea]
      exact ⟨rfl,h.same Fa,Fa.any⟩
     | true =>
      have k1:=Blk.cell bN 1
      have k2:=Blk.cell bX 1
      have k3:=Blk.frozen bN 1
      simp only [List.getElem?_cons_succ,List.getElem?_cons_zero] at k1 k2
      have hd1:upD (depthG G) (ps.take k) ≤ G.length + 1:=upD_le _ _ (depthG_le G) _
      have hd2:=depthG_le G pa
      have hpk:ps[k]? = some pa:=by rw [List.getElem?_eq_getElem hlt,EA.out]
      have hup:=Lib.hid (upD_take (depthG G) ps k pa hpk)
      go_wp2
      case inl hmx =>
       go_roundg (ps.length - (k + 1))
       case measure=>omega
       case rel=>exact AddR.next fa bN HK.out hpk hpa (by have:=hup.out;omega)
      case inr hmx =>
       go_roundg (ps.length - (k + 1))
       case measure=>omega
       case rel=>exact AddR.next fa bN HK.out hpk hpa (by have:=hup.out;omega)
    ·have i1:¬ (k:Int) < ps.length:=by omega
     have ek:k = ps.length:=by omega
     subst ek
     rw [List.take_length] at hk hbk
     have h7:=h.fr0 F7
     have hlk:=h.look0 hp
     have HK:=Lib.hid hk
     clear hk hn hsm
     have rx7:rdI wr w.heap.size 0 = some x:=rdI_fr rx4 (by omega) ((hf5.alloc _).step1 hf (by have:=hf5.size;omega)) (by simp [noB])
     clear rx4
     obtain ⟨wl,ewl⟩:∃ wl,wl = wr:=⟨_,rfl⟩
     subst ewl
     go_wp2_with fail
     go_loopg [65] ps.length (fun gk iv w'=>KidR ks ps wl K gk iv w')
     case atStart=>exact ⟨0,ks,rfl,by simp,Fr.refl _ _,h7.kids,by simp,by omega⟩
     case round =>
      obtain ⟨k,ks',rfl,rfl,hg,hgm,hgk,hkl⟩:=hrel
      have nDK:D ≠ K:=mp_ne h7.kids h7.blk
      have nDA:D ≠ A:=mp_ne h7.all h7.blk
      have c1:wr.cell? ⟨D,1,none⟩ = some (.map (some K)):=by
       have:=Blk.cell (h7.blk.fr hg (fun e=>nDK e)) 1
       simpa using this
      have c0:wr.cell? ⟨D,0,none⟩ = some (.map (some A)):=by
       have:=Blk.cell (h7.blk.fr hg (fun e=>nDK e)) 0
       simpa using this
      have ma:mpI wr A = some kv:=mpI_fr h7.all hg (fun e=>h7.ne e)
      have rx8:rdI wr w.heap.size 0 = some x:=rdI_fr rx7 (rdI_lt rx7) hg (fun e=>rdI_ne rx7 h7.kids e)
      have bN:Blk wr w5.heap.size 128 [.slice A5 ps.length c5,.int .i64 (upD (depthG G) ps:Nat)]:=hbk.fr hg (fun e=>mp_ne h7.kids hbk e)
      by_cases hlt:k < ps.length
      ·obtain ⟨g,off,rfl⟩:=hs.adG (by omega)
       have r0:=hs.id k hlt
       have r1:rdI wl g (off + k * 32) = some ps[k]:=rdI_fr r0 (rdI_lt r0) F7 (by simp [noB])
       have r2:rdI wr g (off + k * 32) = some ps[k]:=rdI_fr r1 (rdI_lt r1) hg (fun e=>rdI_ne r1 h7.kids e)
       have i2:(k:Int) < ps.length:=by omega
       have p0:(0:Int) ≤ (k:Int):=by omega
       generalize ea:ps[k] = pa at r2
       have EA:=Lib.hid ea
       have HG:=Lib.hid hgk
       have HS:=Lib.hid hs
       clear ea hgk r1 r0 c0 ma hs
       have rp:rdI (wr.alloc (ido pa)).drew wr.heap.size 0 = some pa:=by rw [rdI_drew,rdI_new]
       have cp:(wr.alloc (ido pa)).drew.cell? ⟨D,1,none⟩ = some (.map (some K)):=by
        have:=Blk.cell ((h7.blk.fr hg (fun e=>nDK e)).fr (((Fr.refl noB wr).alloc (ido pa)).drew) (by simp [noB])) 1
        simpa using this
       have fp:Fr (oneB K) wl (wr.alloc (ido pa)).drew:=(hg.alloc _).drew
       have mp:mpI (wr.alloc (ido pa)).drew K = some (setV ks'):=by rw [mpI_drew,mpI_old _ _ _ (mpI_lt hgm)];exact hgm
       go_wp2_with fail
       refine wp_region_N 5 (fun w'=>w'.cell? ⟨D,1,none⟩ = some (.map (some K)) ∧ rdI w' wr.heap.size 0 = some pa) (by kernel_rfl) (by kernel_rfl) ⟨cp,rp⟩ (fun hA hF=>?_)
       refine wpAnyN_take (i:=0) (v:=?_) hA rfl (by decide) (by kernel_rfl) (by kernel_rfl) (fun _ _ _ h=>h) (Or.inl ⟨by rfl,?_⟩) hF (fun hA=>?_)
       rotate_left
       ·intro wS hSw;(try dsimp only at hSw);obtain ⟨s1,s2⟩:=hSw;first | (apply Eq.trans;apply ex_ld_id;exact rfl;exact rfl;assumption;with_reducible rfl) | (go_simp;try with_reducible rfl)
       try simp only [sA1,sA2,sA3,Act.put,sA4,sA5,sA6]
       refine wpAnyN_take (i:=1) (v:=?_) hA rfl (by decide) (by kernel_rfl) (by kernel_rfl) (fun _ _ _ h=>h) (Or.inl ⟨by rfl,?_⟩) hF (fun hA=>?_)
       rotate_left
       ·intro wS hSw;(try dsimp only at hSw);obtain ⟨s1,s2⟩:=hSw;first | (apply Eq.trans;apply ex_ld_id;exact rfl;exact rfl;assumption;with_reducible rfl) | (go_simp;try with_reducible rfl)
       try simp only [sA1,sA2,sA3,Act.put,sA4,sA5,sA6]
       refine wpAnyN_take (i:=2) (v:=?_) hA rfl (by decide) (by kernel_rfl) (by kernel_rfl) (fun _ _ _ h=>h) (Or.inl ⟨by rfl,?_⟩) hF (fun hA=>?_)
       rotate_left
       ·intro wS hSw;(try dsimp only at hSw);obtain ⟨s1,s2⟩:=hSw;first | (apply Eq.trans;apply ex_ld_id;exact rfl;exact rfl;assumption;with_reducible rfl) | (go_simp;try with_reducible rfl)
       try simp only [sA1,sA2,sA3,Act.put,sA4,sA5,sA6]
       refine wpAnyN_take (i:=3) (v:=?_) hA rfl (by decide) (by kernel_rfl) (by kernel_rfl) (fun _ _ _ h=>h) (Or.inl ⟨by rfl,?_⟩) hF (fun hA=>?_)
       rotate_left
       ·intro wS hSw;(try dsimp only at hSw);obtain ⟨s1,s2⟩:=hSw;first | (apply Eq.trans;apply ex_ld_id;exact rfl;exact rfl;assumption;with_reducible rfl) | (go_simp;try with_reducible rfl)
       try simp only [sA1,sA2,sA3,Act.put,sA4,sA5,sA6]
       refine wpAnyN_take (i:=4) (v:=?_) hA rfl (by decide) (by kernel_rfl) (by kernel_rfl) (fun _ _ _ h=>h) (Or.inl ⟨by rfl,?_⟩) hF (fun hA=>?_)
       rotate_left
       ·intro wS hSw;(try dsimp only at hSw);obtain ⟨s1,s2⟩:=hSw;first | (apply Eq.trans;apply ex_ld_id;exact rfl;exact rfl;assumption;with_reducible rfl) | (go_simp;try with_reducible rfl)
       try simp only [sA1,sA2,sA3,Act.put,sA4,sA5,sA6]
       refine wpAnyN_end rfl (by kernel_rfl) ?_
       simp only [List.drop_succ_cons,List.drop_zero]
       generalize ew:(wr.alloc (ido pa)).drew = wp at cp fp mp ⊢
       clear ew hF rp
       obtain ⟨u1,u2,u3,u4⟩:=mput_all Tryz.underlying102 mp pa (.bool true)
       go_wp2
       go_roundg (ps.length - (k + 1))
       case measure=>omega
       case rel =>
        refine ⟨k + 1,if pa ∈ ks' then ks' else ks' ++ [pa],by simp,rfl,fp.trans u3 (fun _ _ h=>h),by rw [u2,put_setV],fun y=>?_,by omega⟩
        have hpk:ps[k]? = some pa:=by rw [List.getElem?_eq_getElem hlt,EA.out]
        rw [List.take_add_one,hpk]
        have:=HG.out y
        have e2:y ∈ (if pa ∈ ks' then ks' else ks' ++ [pa]) ↔ y ∈ ks' ∨ y = pa:=by
         split
         ·rename_i hm
          exact ⟨.inl,fun h=>h.elim id (fun e=>by rw [e];exact hm)⟩
         ·simp
        rw [e2,this]
        simp only [Option.toList_some,List.mem_append,List.mem_singleton,or_assoc]
      ·have i2:¬ (k:Int) < ps.length:=by omega
       have ek:k = ps.length:=by omega
       subst ek
       rw [List.take_length] at hgk
       have HG:=Lib.hid hgk
       clear hgk
       have k0:=Blk.cell bN 0
       have k1:=Blk.cell bN 1
       simp only [List.getElem?_cons_succ,List.getElem?_cons_zero] at k0 k1
       go_wp2_with fail
       refine wp_region_N 6 (fun w'=>w'.cell? ⟨D,0,none⟩ = some (.map (some A)) ∧ rdI w' w.heap.size 0 = some x ∧ w'.cell? ⟨w5.heap.size,0,none⟩ = some (.slice A5 ps.length c5) ∧ w'.cell? ⟨w5.heap.size,1,none⟩ = some (.int .i64 (upD (depthG G) ps:Nat))) (by kernel_rfl) (by kernel_rfl) ⟨c0,by rw [rdI_drew];exact rx8,k0,k1⟩ (fun hA hF=>?_)
       refine wpAnyN_take (i:=0) (v:=?_) hA rfl (by decide) (by kernel_rfl) (by kernel_rfl) (fun _ _ _ h=>h) (Or.inl ⟨by rfl,?_⟩) hF (fun hA=>?_)
       rotate_left
       ·intro wS hSw;(try dsimp only at hSw);obtain ⟨s1,s2,s3,s4⟩:=hSw;first | (apply Eq.trans;apply ex_ld_id;exact rfl;exact rfl;assumption;with_reducible rfl) | (go_simp;try with_reducible rfl)
       try simp only [sA1,sA2,sA3,Act.put,sA4,sA5,sA6]
       refine wpAnyN_take (i:=1) (v:=?_) hA rfl (by decide) (by kernel_rfl) (by kernel_rfl) (fun _ _ _ h=>h) (Or.inl ⟨by rfl,?_⟩) hF (fun hA=>?_)
       rotate_left
       ·intro wS hSw;(try dsimp only at hSw);obtain ⟨s1,s2,s3,s4⟩:=hSw;first | (apply Eq.trans;apply ex_ld_id;exact rfl;exact rfl;assumption;with_reducible rfl) | (go_simp;try with_reducible rfl)
       try simp only [sA1,sA2,sA3,Act.put,sA4,sA5,sA6]
       refine wpAnyN_take (i:=2) (v:=?_) hA rfl (by decide) (by kernel_rfl) (by kernel_rfl) (fun _ _ _ h=>h) (Or.inl ⟨by rfl,?_⟩) hF (fun hA=>?_)
       rotate_left
       ·intro wS hSw;(try dsimp only at hSw);obtain ⟨s1,s2,s3,s4⟩:=hSw;first | (apply Eq.trans;apply ex_ld_id;exact rfl;exact rfl;assumption;with_reducible rfl) | (go_simp;try with_reducible rfl)
       try simp only [sA1,sA2,sA3,Act.put,sA4,sA5,sA6]
       refine wpAnyN_take (i:=3) (v:=?_) hA rfl (by decide) (by kernel_rfl) (by kernel_rfl) (fun _ _ _ h=>h) (Or.inl ⟨by rfl,?_⟩) hF (fun hA=>?_)
       rotate_left
       ·intro wS hSw;(try dsimp only at hSw);obtain ⟨s1,s2,s3,s4⟩:=hSw;first | (apply Eq.trans;apply ex_ld_id;exact rfl;exact rfl;assumption;with_reducible rfl) | (go_simp;try with_reducible rfl)
       try simp only [sA1,sA2,sA3,Act.put,sA4,sA5,sA6]
       refine wpAnyN_take (i:=4) (v:=?_) hA rfl (by decide) (by kernel_rfl) (by kernel_rfl) (fun _ _ _ h=>h) (Or.inl ⟨by rfl,?_⟩) hF (fun hA=>?_)
       rotate_left
       ·intro wS hSw;(try dsimp only at hSw);obtain ⟨s1,s2,s3,s4⟩:=hSw;first | (apply Eq.trans;apply ex_ld_id;exact rfl;exact rfl;assumption;with_reducible rfl) | (go_simp;try with_reducible rfl)
       try simp only [sA1,sA2,sA3,Act.put,sA4,sA5,sA6]
       refine wpAnyN_take (i:=5) (v:=?_) hA rfl (by decide) (by kernel_rfl) (by kernel_rfl) (fun _ _ _ h=>h) (Or.inl ⟨by rfl,?_⟩) hF (fun hA=>?_)
       rotate_left
       ·intro wS hSw;(try dsimp only at hSw);obtain ⟨s1,s2,s3,s4⟩:=hSw;first | (apply Eq.trans;apply ex_ld_id;exact rfl;exact rfl;assumption;with_reducible rfl) | (go_simp;try with_reducible rfl)
       try simp only [sA1,sA2,sA3,Act.put,sA4,sA5,sA6]
       refine wpAnyN_end rfl (by kernel_rfl) ?_
       simp only [List.drop_succ_cons,List.drop_zero]
       have ma2:mpI wr.drew A = some kv:=by rw [mpI_drew];exact ma
       have hgm2:mpI wr.drew K = some (setV ks'):=by rw [mpI_drew];exact hgm
       obtain ⟨u1,u2,u3,u4⟩:=mput_all Tryz.underlying101 ma2 x (nodeV A5 ps.length c5 (upD (depthG G) ps))
       go_wp2
       go_ret
       have hall:∀ p ∈ ps,hasG G p = true:=HK.out
       have ea:addG G x ps = (0,(x,ps) :: G):=by
        have:ps.all (hasG G) = true:=List.all_eq_true.2 hall
        simp [addG,hr,hp,this]
       rw [AddTo,ea]
       have f2:Fr (twoB A K) w (mput 101 wr.drew A x (nodeV A5 ps.length c5 (upD (depthG G) ps))) :=
        ((F7.any (M:=twoB A K)).trans (hg.drew) (fun b _ hb=>.inr hb)).trans u3 (fun b _ hb=>.inl hb)
       have oS:Off A5 (fun b=>w4.heap.size ≤ b ∧ b < w5.heap.size):=Off.own ho5
       have ltA:A < w.heap.size:=h.lt _ h.fA
       have ltK:K < w.heap.size:=h.lt _ h.fK
       have lw4:w.heap.size ≤ w4.heap.size:=F4.size
       have f3:Fr (fun b=>b = w5.heap.size ∨ twoB A K b) w5 (mput 101 wr.drew A x (nodeV A5 ps.length c5 (upD (depthG G) ps))) :=
        ((((Fr.refl (fun b=>b = w5.heap.size ∨ twoB A K b) w5).alloc _).trans hf (fun b _ hb=>.inl hb)).trans hg.drew (fun b _ hb=>.inr (.inr hb))).trans u3 (fun b _ hb=>.inr (.inl hb))
       refine ⟨rfl,h.more hle hr hp hall f2 u2 (mpI_fr hgm2 u3 (fun e=>h.ne e.symm)) HG.out ((Sl.own ho5).fr f3 (oS.mono ?_)) (oS.mono ?_),f2.mono ?_⟩
       ·rintro b ⟨hb1,hb2⟩ (e | e | e) <;> omega
       ·rintro b ⟨hb1,hb2⟩
        exact ⟨by omega,Nat.lt_of_lt_of_le hb2 f3.size⟩
       ·rintro b (rfl | rfl)
        ·exact h.fA
        ·exact h.fK
end Go.Proofs.YtjpieiccpbcabaaGreat
namespace Go.Proofs.YtjpieiccpbcabaaGreat
open Go.RowKit
theorem own_idc {w:World} {base:Nat} {n:Nat} {v:Value} {l:List ID} (h:w.ownsRow base 24 32 v n (idc l)):w.ownsRow base 24 32 v l.length (idc l):=by
 have hn:n = l.length:=by have:=h.1;rw [idc_length] at this;omega
 subst hn;exact h
theorem ownBlock_sl (A:Option Addr) (n c:Nat):(Value.slice A n c).ownBlock = A.map (·.block):=by cases A <;> rfl
theorem own_init {w:World} {base:Nat} {A:Option Addr} {c:Nat} {l:List ID} {x:ID} (h:w.ownsRow base 24 32 (.slice A (l ++ [x]).length c) (l ++ [x]).length (idc (l ++ [x]))) :
  w.ownsRow base 24 32 (.slice A l.length c) l.length (idc l):=by
 refine ⟨idc_length l,?_⟩
 rcases h.2 with ⟨_,h0⟩ | ⟨g,cap,cur,hv,hb,hg,hnc,hm,hs,ht⟩
 ·simp at h0
 ·injection hv with h1 h2 h3
  subst h1;subst h3
  refine .inr ⟨g,c,cur,rfl,hb,hg,by simp at hnc;omega,hm,hs,?_⟩
  rw [idc_append] at ht
  have e:=congrArg (List.take (l.length * 32)) ht
  rw [List.take_take,List.take_left' (idc_length l)] at e
  rw [← e]
  congr 1
  simp
theorem step_run {P:Program} {w:World} {ops:Array Oper} {o:Oper} {a:Act} {K:Act → World → Prop} {Q:Exit → Act → World → Prop} {E:Prop} (hgd:o.guard = none) (v:Value) (w':World)
  (hr:(execOp a.eval o).run P w = .ok (.value v) w') (h:K (a.put o.dst v) w'):if Region.wanted o (yielded ops a.tmps) = true then Oper.wp P o a w K Q else E:=by
 have hw:Region.wanted o (yielded ops a.tmps) = true:=by simp [Region.wanted,hgd]
 rw [if_pos hw]
 unfold Oper.wp
 rw [hr]
 exact h
theorem ex_bs1_at {ρ:Operand → Value} {o:Oper} {a:Operand} {w:World} {x:ID} (ho:o.op = .buildSlice 32 1 #[(0,a)]) (ha:ρ a = encI x):(execOp ρ o).run Tryz.prog w = .ok (.value (.slice (some ⟨w.heap.size,0,none⟩) 1 1)) (w.alloc (rowo [x])):=by
 obtain ⟨d,op,t,p,f,g⟩:=o
 simp only at ho
 subst ho
 rw [ex_bs1,ha,bsI1_at]
section
variable (w0 w:World)
theorem wpList_appD {ops:Array Oper} {rest:List Oper} {o:Oper} {a:Act} {Q:Exit → Act → World → Prop} (hgd:o.guard = none) (s x:Operand)
  (ho:o.op = .call { callee:=.builtin .append,args:=#[s,x],argTypes:=#[32,32] })
  (As:Option Addr) (ns cs:Nat) (lo:List ID) (hs:a.eval s = .slice As ns cs) (hns:lo.length = ns) (hown:OwnD w0 w As cs lo)
  (A:Option Addr) (m c:Nat) (news:List ID) (hx:a.eval x = .slice A m c) (hr:Sl w A (idc news)) (hl:news.length = m)
  (hbytes:lo.length + news.length ≤ 1000000000000) (hbase:w0.heap.size ≤ w.heap.size)
  (h:∀ A' c' w',(lo ++ news).length ≤ c' → c' ≤ maxLen → OwnD w0 w' A' c' (lo ++ news) → w.grownBy w' (As.map (·.block)) →
   (A'.map (·.block) = As.map (·.block) ∨ A'.map (·.block) = some w.heap.size) → wpList Tryz.prog ops Q rest (a.put o.dst (.slice A' (lo ++ news).length c')) w') :
  wpList Tryz.prog ops Q (o :: rest) a w:=by
 subst hns
 refine wpList_app w etIDs hgd s x ho w0.heap.size _ lo.length (idc lo) hs hown A m c (idc news) hx hr (by rw [idc_length,hl]) (idc_one _) (by rw [← hl];omega) hbase ?_
 intro v' w' h1 h2 h3
 rw [← idc_append] at h1
 have h1':=own_idc h1
 obtain ⟨A',c',rfl,hc1,hc2⟩:=own_form h1'
 rw [ownBlock_sl,ownBlock_sl] at h3
 rw [ownBlock_sl] at h2
 exact h A' c' w' hc1 hc2 h1' h2 h3
theorem step_appD {ops:Array Oper} {o:Oper} {a:Act} {K:Act → World → Prop} {Q:Exit → Act → World → Prop} {E:Prop} (hgd:o.guard = none) (s x:Operand)
  (ho:o.op = .call { callee:=.builtin .append,args:=#[s,x],argTypes:=#[32,32] })
  (As:Option Addr) (ns cs:Nat) (lo:List ID) (hs:a.eval s = .slice As ns cs) (hns:lo.length = ns) (hown:OwnD w0 w As cs lo)
  (A:Option Addr) (m c:Nat) (news:List ID) (hx:a.eval x = .slice A m c) (hr:Sl w A (idc news)) (hl:news.length = m)
  (hbytes:lo.length + news.length ≤ 1000000000000) (hbase:w0.heap.size ≤ w.heap.size)
  (h:∀ A' c' w',(lo ++ news).length ≤ c' → c' ≤ maxLen → OwnD w0 w' A' c' (lo ++ news) → w.grownBy w' (As.map (·.block)) →
   (A'.map (·.block) = As.map (·.block) ∨ A'.map (·.block) = some w.heap.size) → K (a.put o.dst (.slice A' (lo ++ news).length c')) w') :
  if Region.wanted o (yielded ops a.tmps) = true then Oper.wp Tryz.prog o a w K Q else E:=by
 have hw:Region.wanted o (yielded ops a.tmps) = true:=by simp [Region.wanted,hgd]
 rw [if_pos hw]
 subst hns
 refine wp_app w etIDs s x ho w0.heap.size _ lo.length (idc lo) hs hown A m c (idc news) hx hr (by rw [idc_length,hl]) (idc_one _) (by rw [← hl];omega) hbase ?_
 intro v' w' h1 h2 h3
 rw [← idc_append] at h1
 have h1':=own_idc h1
 obtain ⟨A',c',rfl,hc1,hc2⟩:=own_form h1'
 rw [ownBlock_sl,ownBlock_sl] at h3
 rw [ownBlock_sl] at h2
 exact h A' c' w' hc1 hc2 h1' h2 h3
end
end Go.Proofs.YtjpieiccpbcabaaGreat
namespace Go.Proofs.YtjpieiccpbcabaaGreat
open Go.RowKit Go.Maps Go.Sort
def NewSet (w:World) (S:ID → Prop) (e:Ending) (w':World):Prop:=∃ R l,e = .returned (.map (some R)) ∧ mpI w' R = some (setV l) ∧ (∀ y,y ∈ l ↔ S y) ∧ w.heap.size ≤ R ∧ Fr noB w w'
def ReaR (G:Dg) (ids:List ID) (w:World) (gk:Nat) (iv:Value) (wr:World):Prop :=
 ∃ met todo A c,iv = .slice A todo.length c ∧ gk = 3 * (G.length - met.length) + todo.length ∧ Found G ids met todo ∧ OwnD w wr A c todo ∧ mpI wr w.heap.size = some (setV met) ∧ Fr noB w wr ∧ w.heap.size < wr.heap.size
theorem look_set (l:List ID) (x:ID):(look (setV l) x).getD (.bool false) = .bool (decide (x ∈ l)):=by
 rw [look_setV]
 split <;> simp_all
set_option maxRecDepth 100000 in
set_option maxHeartbeats 2000000 in
theorem reach_any (w:World) (D:Nat) (F:Nat → Prop) (G:Dg) (h:DagAt w D F G) (P:Option Addr) (c n:Nat) (ids:List ID) (hn:ids.length = n) (hs:Sl w P (idc ids)) (hb:ids.length ≤ 1000000000) :
  Calls Tryz.prog 57 #[.pointer (some ⟨D,0,none⟩),.slice P n c] w (NewSet w (Reached G ids)):=by
 subst hn
 have F1:Fr noB w (w.alloc (.map #[] 0)):=(Fr.refl noB w).alloc _
 have hG:=h
 obtain ⟨A,K,kv,ks,h⟩:=h
 go_enter Tryz.func57,Tryz.ntmps57
 go_wp2_with fail
 go_at_call 63
 refine (idclone_any _ P c ids _ rfl (hs.fr0 F1) (by omega)).mono ?_
 rintro e w2 ⟨A2,c2,rfl,ho2,hf2⟩
 have F2:=F1.step0 hf2
 have m2:mpI w2 w.heap.size = some []:=mpI_fr (mpI_new w) hf2 (by simp [noB])
 go_wp2_with fail
 go_loopg [6] (3 * G.length + ids.length) (fun gk iv wr=>ReaR G ids w gk iv wr)
 case atStart=>exact ⟨[],ids,A2,c2,rfl,by simp,Found.start G ids,own_base ho2 (by simp),m2,F2,mpI_lt m2⟩
 case round =>
  obtain ⟨met,todo,Ar,cr,rfl,rfl,hfd,hor,hmr,hfr,hwr⟩:=hrel
  rcases List.eq_nil_or_concat todo with rfl | ⟨l,x,rfl⟩
  ·have HD:=Lib.hid (hfd.done h.ok)
   have HM:=Lib.hid hmr
   clear hfd hmr
   go_wp2
   go_ret
   exact ⟨w.heap.size,met,rfl,HM.out,HD.out,Nat.le_refl _,hfr⟩
  ·rw [List.concat_eq_append] at *
   obtain ⟨g,off,rfl⟩:=(Sl.own hor).adG (by simp)
   have r1:rdI wr g (off + l.length * 32) = some x:=by
    have:=(Sl.own hor).id l.length (by simp)
    simpa using this
   have hoi:=own_init hor
   have hln:(l ++ [x]).length = l.length + 1:=by simp
   have hml:=nd_len hfd.nd hfd.has
   have hlen:=hfd.len
   have HFD:=Lib.hid hfd
   clear hfd hor
   rw [hln]
   rw [hln] at hlen
   have i1:(l.length:Int) < ((l.length + 1:Nat):Int):=by omega
   have i2:((l.length + 1:Nat):Int) - 1 = l.length:=by omega
   have p0:(0:Int) ≤ (l.length:Int):=by omega
   have hle:=h.le
   have hwz:wrap64 (l.length:Int) = l.length:=by unfold wrap64;omega
   have mx:mpI (wr.alloc (ido x)) w.heap.size = some (setV met):=by rw [mpI_old _ _ _ hwr];exact hmr
   have lks:=look_set met x
   have rx:rdI (wr.alloc (ido x)) wr.heap.size 0 = some x:=rdI_new wr x
   have F3:Fr noB w (wr.alloc (ido x)):=hfr.alloc _
   have ho3:OwnD w (wr.alloc (ido x)) (some ⟨g,off,none⟩) cr l:=own_fr hoi ((Fr.refl noB wr).alloc _) (fun _ _=>by simp [noB])
   have lc:l.length ≤ cr:=by
    rcases hoi.2 with ⟨hv,_⟩ | ⟨g',cap,cur,hv,_,_,hnc,_⟩
    ·cases hv
    ·injection hv with _ _ h3;omega
   by_cases hm:x ∈ met
   ·have hd:decide (x ∈ met) = true:=by simp [hm]
    have HM:=Lib.hid hm
    clear hm
    rw [hd] at lks
    go_wp2
    go_roundg (3 * (G.length - met.length) + l.length)
    case measure=>omega
    case rel=>exact ⟨met,l,_,cr,rfl,rfl,HFD.out.skip (.inl HM.out) h.ok,ho3,mx,F3,by simp;omega⟩
   ·have hd:decide (x ∈ met) = false:=by simp [hm]
    have HM:=Lib.hid hm
    clear hm
    rw [hd] at lks
    go_wp2_with fail
    go_at_call 32
    refine (has_any _ D F G (hG.fr0 F3) x).mono ?_
    rintro e w4 ⟨rfl,hf4⟩
    have F4:=F3.step0 hf4
    have ho4:OwnD w w4 (some ⟨g,off,none⟩) cr l:=own_fr ho3 hf4 (fun _ _=>by simp [noB])
    have mx4:=mpI_fr mx hf4 (by simp [noB])
    have rx4:=rdI_fr rx (by simp) hf4 (by simp [noB])
    cases hx:hasG G x with
    | false =>
     go_wp2
     go_roundg (3 * (G.length - met.length) + l.length)
     case measure=>omega
     case rel=>exact ⟨met,l,_,cr,rfl,rfl,HFD.out.skip (.inr hx) h.ok,ho4,mx4,F4,by have:=hf4.size;simp at this;omega⟩
    | true =>
     cases hp:parents G x with
     | none=>simp [hasG,hp] at hx
     | some ps =>
     obtain ⟨u1,u2,u3,u4⟩:=mput_all Tryz.underlying102 mx4 x (.bool true)
     have fu:Fr noB w (mput 102 w4 w.heap.size x (.bool true)):=F4.step1 u3 (Nat.le_refl _)
     have h5:=h.fr0 fu.drew
     have rx5:rdI (mput 102 w4 w.heap.size x (.bool true)).drew wr.heap.size 0 = some x:=by rw [rdI_drew];exact rdI_fr rx4 (rdI_lt rx4) u3 (fun e=>rdI_ne rx4 mx4 e)
     obtain ⟨B,cB,hn,hB,hBF⟩:=h.node x
     rw [hp] at hn hB
     simp only [Option.getD_some] at hn hB
     have hq:=okG_par h.ok hp
     go_wp2_with fail
     refine wp_region_N 9 (fun w'=>w'.cell? ⟨D,0,none⟩ = some (.map (some A)) ∧ mpI w' A = some kv ∧ rdI w' wr.heap.size 0 = some x) (by kernel_rfl) (by kernel_rfl) ⟨h5.c0,h5.all,rx5⟩ (fun hA hF=>?_)
     refine wpAnyN_take (i:=0) (v:=?_) hA rfl (by decide) (by kernel_rfl) (by kernel_rfl) (fun _ _ _ h=>h) (Or.inl ⟨by rfl,?_⟩) hF (fun hA=>?_)
     rotate_left
     ·intro wS hSw;(try dsimp only at hSw);obtain ⟨s1,s2,s3⟩:=hSw;first | (apply Eq.trans;apply ex_ld_id;exact rfl;exact rfl;assumption;with_reducible rfl) | (go_simp;try with_reducible rfl)
     try simp only [sA1,sA2,sA3,Act.put,sA4,sA5,sA6]
     refine wpAnyN_take (i:=1) (v:=?_) hA rfl (by decide) (by kernel_rfl) (by kernel_rfl) (fun _ _ _ h=>h) (Or.inl ⟨by rfl,?_⟩) hF (fun hA=>?_)
     rotate_left
     ·intro wS hSw;(try dsimp only at hSw);obtain ⟨s1,s2,s3⟩:=hSw;first | (apply Eq.trans;apply ex_ld_id;exact rfl;exact rfl;assumption;with_reducible rfl) | (go_simp;try with_reducible rfl)
     try simp only [sA1,sA2,sA3,Act.put,sA4,sA5,sA6]
     refine wpAnyN_take (i:=2) (v:=?_) hA rfl (by decide) (by kernel_rfl) (by kernel_rfl) (fun _ _ _ h=>h) (Or.inl ⟨by rfl,?_⟩) hF (fun hA=>?_)
     rotate_left
     ·intro wS hSw;(try dsimp only at hSw);obtain ⟨s1,s2,s3⟩:=hSw;first | (apply Eq.trans;apply ex_ld_id;exact rfl;exact rfl;assumption;with_reducible rfl) | (go_simp;try with_reducible rfl)
     try simp only [sA1,sA2,sA3,Act.put,sA4,sA5,sA6]
     refine wpAnyN_take (i:=3) (v:=?_) hA rfl (by decide) (by kernel_rfl) (by kernel_rfl) (fun _ _ _ h=>h) (Or.inl ⟨by rfl,?_⟩) hF (fun hA=>?_)
     rotate_left
     ·intro wS hSw;(try dsimp only at hSw);obtain ⟨s1,s2,s3⟩:=hSw;first | (apply Eq.trans;apply ex_ld_id;exact rfl;exact rfl;assumption;with_reducible rfl) | (go_simp;try with_reducible rfl)
     try simp only [sA1,sA2,sA3,Act.put,sA4,sA5,sA6]
     refine wpAnyN_take (i:=4) (v:=?_) hA rfl (by decide) (by kernel_rfl) (by kernel_rfl) (fun _ _ _ h=>h) (Or.inl ⟨by rfl,?_⟩) hF (fun hA=>?_)
     rotate_left
     ·intro wS hSw;(try dsimp only at hSw);obtain ⟨s1,s2,s3⟩:=hSw;first | (apply Eq.trans;apply ex_ld_id;exact rfl;exact rfl;assumption;with_reducible rfl) | (go_simp;try with_reducible rfl)
     try simp only [sA1,sA2,sA3,Act.put,sA4,sA5,sA6]
     refine wpAnyN_take (i:=5) (v:=?_) hA rfl (by decide) (by kernel_rfl) (by kernel_rfl) (fun _ _ _ h=>h) (Or.inl ⟨by rfl,?_⟩) hF (fun hA=>?_)
     rotate_left
     ·intro wS hSw;(try dsimp only at hSw);obtain ⟨s1,s2,s3⟩:=hSw;first | (apply Eq.trans;apply ex_ld_id;exact rfl;exact rfl;assumption;with_reducible rfl) | (go_simp;try with_reducible rfl)
     try simp only [sA1,sA2,sA3,Act.put,sA4,sA5,sA6]
     refine wpAnyN_take (i:=6) (v:=?_) hA rfl (by decide) (by kernel_rfl) (by kernel_rfl) (fun _ _ _ h=>h) (Or.inl ⟨by rfl,?_⟩) hF (fun hA=>?_)
     rotate_left
     ·intro wS hSw;(try dsimp only at hSw);obtain ⟨s1,s2,s3⟩:=hSw;first | (apply Eq.trans;apply ex_ld_id;exact rfl;exact rfl;assumption;with_reducible rfl) | (go_simp;try with_reducible rfl)
     try simp only [sA1,sA2,sA3,Act.put,sA4,sA5,sA6]
     refine wpAnyN_take (i:=7) (v:=?_) hA rfl (by decide) (by kernel_rfl) (by kernel_rfl) (fun _ _ _ h=>h) (Or.inl ⟨by rfl,?_⟩) hF (fun hA=>?_)
     rotate_left
     ·intro wS hSw;(try dsimp only at hSw);obtain ⟨s1,s2,s3⟩:=hSw;first | (apply Eq.trans;apply ex_ld_id;exact rfl;exact rfl;assumption;with_reducible rfl) | (go_simp;try with_reducible rfl)
     try simp only [sA1,sA2,sA3,Act.put,sA4,sA5,sA6]
     refine wpAnyN_one (i:=8) hA (by kernel_rfl) (by decide) rfl (fun K' hK=>?_)
     have ho5:OwnD w (mput 102 w4 w.heap.size x (.bool true)).drew (some ⟨g,off,none⟩) cr l:=own_fr ho4 u3.drew (by
      intro b hb e
      rcases ho4.2 with ⟨hv,_⟩ | ⟨g',cap,cur,hv,_,hcell,_⟩
      ·cases hv
      ·injection hv with h1 _ _
       injection h1 with h1
       injection h1 with h1 h2
       have hb':b = g:=by simpa [Value.ownBlock] using hb.symm
       have e':b = w.heap.size:=e
       exact mp_ne mx4 hcell (by omega))
     refine step_appD w _ rfl _ _ rfl (some ⟨g,off,none⟩) l.length cr l rfl rfl ho5 B ps.length cB ps rfl (hB.fr0 fu.drew) rfl (by omega) fu.size ?_
     intro A6 c6 w6 hc6 hm6 ho6 hg6 hA6
     have gB:w.heap.size ≤ g ∧ g ≠ w.heap.size:=by
      rcases ho5.2 with ⟨hv,_⟩ | ⟨g',cap,cur,hv,hb1,hcell,_⟩
      ·cases hv
      ·injection hv with h1 _ _
       injection h1 with h1
       injection h1 with h1 h2
       subst h1
       exact ⟨hb1,mp_ne (w:=(mput 102 w4 w.heap.size x (.bool true)).drew) (by rw [mpI_drew];exact u2) hcell⟩
     have fg:Fr (oneB g) (mput 102 w4 w.heap.size x (.bool true)).drew w6:=Fr.ofGrown hg6 (fun b hb=>by simp at hb;exact hb.symm)
     have F6:Fr noB w w6:=fu.drew.step1 fg gB.1
     have h6:=h.fr0 F6
     refine hK.out _ _ ⟨h6.c0,h6.all,rdI_fr rx5 (rdI_lt rx5) fg (fun e=>?_)⟩ (fun hA=>?_)
     ·have:=((Off.own hoi) _ rfl).2
      have e':wr.heap.size = g:=e
      simp only at this
      omega
     clear hK K'
     refine wpAnyN_end rfl (by kernel_rfl) ?_
     simp only [List.drop_succ_cons,List.drop_zero]
     have m6:mpI w6 w.heap.size = some (setV (met ++ [x])):=by
      refine mpI_fr ?_ fg (fun e=>gB.2 e.symm)
      rw [mpI_drew,u2,put_setV,if_neg HM.out]
     have hf6:=HFD.out.take HM.out hp h.ok
     have l6:=nd_len hf6.nd hf6.has
     have hln6:(met ++ [x]).length = met.length + 1:=by simp
     have hlp:(l ++ ps).length = l.length + ps.length:=by simp
     have HF6:=Lib.hid hf6
     clear hf6
     rw [hln6] at l6
     go_wp2
     go_roundg (3 * (G.length - (met ++ [x]).length) + (l ++ ps).length)
     case measure=>rw [hln6,hlp];omega
     case rel=>exact ⟨met ++ [x],l ++ ps,A6,c6,by rw [hlp],rfl,HF6.out,ho6,m6,F6,mpI_lt m6⟩
end Go.Proofs.YtjpieiccpbcabaaGreat
namespace Go.Proofs.YtjpieiccpbcabaaGreat
open Go.RowKit Go.Maps Go.Sort Go.Shelf
theorem cbD_anti (a b:List UInt8):Lib.compareBytes a b = - Lib.compareBytes b a:=by
 induction a generalizing b with
 | nil=>cases b <;> simp [Lib.compareBytes]
 | cons x a ih=>cases b with
  | nil=>simp [Lib.compareBytes]
  | cons y b =>
   simp only [Lib.compareBytes]
   rcases Nat.lt_trichotomy x.toNat y.toNat with h | h | h
   ·have h1:x < y:=UInt8.lt_iff_toNat_lt.2 h
    have h2:¬ y < x:=fun h'=>by have:=UInt8.lt_iff_toNat_lt.1 h';omega
    simp [h1,h2]
   ·have h1:¬ x < y:=fun h'=>by have:=UInt8.lt_iff_toNat_lt.1 h';omega
    have h2:¬ y < x:=fun h'=>by have:=UInt8.lt_iff_toNat_lt.1 h';omega
    simp [h1,h2,ih b]
   ·have h1:¬ x < y:=fun h'=>by have:=UInt8.lt_iff_toNat_lt.1 h';omega
    have h2:y < x:=UInt8.lt_iff_toNat_lt.2 h
    simp [h1,h2]
theorem cbD_eq (a b:List UInt8):Lib.compareBytes a b = 0 ↔ a = b:=by
 induction a generalizing b with
 | nil=>cases b <;> simp [Lib.compareBytes]
 | cons x a ih=>cases b with
  | nil=>simp [Lib.compareBytes]
  | cons y b =>
   simp only [Lib.compareBytes]
   rcases Nat.lt_trichotomy x.toNat y.toNat with h | h | h
   ·have h1:x < y:=UInt8.lt_iff_toNat_lt.2 h
    have h2:x ≠ y:=by rintro rfl;omega
    simp [h1,h2]
   ·have h1:¬ x < y:=fun h'=>by have:=UInt8.lt_iff_toNat_lt.1 h';omega
    have h2:¬ y < x:=fun h'=>by have:=UInt8.lt_iff_toNat_lt.1 h';omega
    have h3:x = y:=UInt8.toNat_inj.1 h
    simp [h1,h2,h3,ih b]
   ·have h1:¬ x < y:=fun h'=>by have:=UInt8.lt_iff_toNat_lt.1 h';omega
    have h2:y < x:=UInt8.lt_iff_toNat_lt.2 h
    have h3:x ≠ y:=by rintro rfl;omega
    simp [h1,h2,h3]
theorem cbD_trans (a b c:List UInt8) (h:Lib.compareBytes a b < 0) (h':Lib.compareBytes b c < 0):Lib.compareBytes a c < 0:=by
 induction a generalizing b c with
 | nil=>cases c with
  | nil=>cases b <;> simp [Lib.compareBytes] at h'
  | cons z c=>simp [Lib.compareBytes]
 | cons x a ih=>cases b with
  | nil=>simp [Lib.compareBytes] at h
  | cons y b=>cases c with
   | nil=>simp [Lib.compareBytes] at h'
   | cons z c =>
    simp only [Lib.compareBytes] at h h' ⊢
    have lt_n:∀ u v:UInt8,u < v ↔ u.toNat < v.toNat:=fun u v=>UInt8.lt_iff_toNat_lt
    simp only [lt_n] at h h' ⊢
    by_cases h1:x.toNat < y.toNat
    ·by_cases h2:y.toNat < z.toNat
     ·rw [if_pos (by omega)];decide
     ·rw [if_neg h2] at h'
      by_cases h3:z.toNat < y.toNat
      ·rw [if_pos h3] at h';exact absurd h' (by decide)
      ·rw [if_pos (by omega)];decide
    ·rw [if_neg h1] at h
     by_cases h2:y.toNat < x.toNat
     ·rw [if_pos h2] at h;exact absurd h (by decide)
     ·rw [if_neg h2] at h
      by_cases h3:y.toNat < z.toNat
      ·rw [if_pos (by omega)];decide
      ·rw [if_neg h3] at h'
       by_cases h4:z.toNat < y.toNat
       ·rw [if_pos h4] at h';exact absurd h' (by decide)
       ·rw [if_neg h4] at h'
        rw [if_neg (by omega),if_neg (by omega)]
        exact ih b c h h'
theorem cmpD_eq (x y:ID):cmpI x y = 0 ↔ x = y:=by
 unfold cmpI
 rw [cbD_eq]
 exact ⟨fun h=>Subtype.ext h,fun h=>congrArg Subtype.val h⟩
theorem cmpD_anti (x y:ID):cmpI x y = - cmpI y x:=cbD_anti _ _
theorem cmpD_trans {x y z:ID} (h:cmpI x y < 0) (h':cmpI y z < 0):cmpI x z < 0:=cbD_trans _ _ _ h h'
theorem cmpD_self (x:ID):cmpI x x = 0:=(cmpD_eq x x).2 rfl
theorem lt_cmpI (x y:ID):ltOf cmpI x y = decide (cmpI x y < 0):=rfl
theorem swoI:SWO (ltOf cmpI) where
 irrefl x:=by simp [lt_cmpI,cmpD_self]
 trans x y z h1 h2:=by
  simp only [lt_cmpI,decide_eq_true_eq] at *
  exact cmpD_trans h1 h2
 ntrans x y z h1 h2:=by
  simp only [lt_cmpI,decide_eq_false_iff_not] at *
  intro h
  have e1:=cmpD_anti x y
  have e2:=cmpD_anti y z
  rcases Int.lt_trichotomy (cmpI y x) 0 with h3 | h3 | h3
  ·exact h2 (cmpD_trans h3 h)
  ·have:=(cmpD_eq y x).1 h3;subst this;exact h2 h
  ·omega
theorem totI:∀ x y,(ltOf cmpI) x y = false → (ltOf cmpI) y x = false → x = y:=by
 intro x y h1 h2
 simp only [lt_cmpI,decide_eq_false_iff_not] at *
 have:=cmpD_anti x y
 exact (cmpD_eq x y).1 (by omega)
def encSI (x:ID):List Value:=bv x.1
theorem flat_idc (l:List ID):flatK encSI 32 l.toArray = (idc l).toArray:=by
 apply Array.ext_getElem?
 intro t
 by_cases ht:t < l.length * 32
 ·have hi:t / 32 < l.length:=by omega
  have hj:t % 32 < 32:=Nat.mod_lt _ (by decide)
  have e1:(bv (l[t / 32]).1)[t % 32]? = some ((bv (l[t / 32]).1)[t % 32]'(by simp [(l[t / 32]).2];exact hj)):=List.getElem?_eq_getElem _
  have e2:=idc_get l (t / 32) (t % 32) hi _ e1
  rw [show t / 32 * 32 + t % 32 = t by omega] at e2
  have e3:(idc l).toArray[t]? = _:=(List.getElem?_toArray ..).trans e2
  rw [e3]
  have h3:t < (flatK encSI 32 l.toArray).size:=by simpa using ht
  rw [Array.getElem?_eq_getElem h3]
  congr 1
  have:=get_flatK encSI 32 l.toArray t (by simpa using ht)
  rw [getElem!_pos _ t h3] at this
  rw [this]
  simp [encSI,hi,(l[t / 32]).2,hj]
 ·rw [Array.getElem?_eq_none (by simpa using ht),Array.getElem?_eq_none (by simp [idc_length];omega)]
def sortBy (cf:ID → ID → Int) (l:List ID):List ID:=l.mergeSort fun x y=>!(ltOf cf) y x
theorem sortBy_length (cf:ID → ID → Int) (l:List ID):(sortBy cf l).length = l.length:=List.length_mergeSort l
theorem sortBy_perm (cf:ID → ID → Int) (l:List ID):(sortBy cf l).Perm l:=List.mergeSort_perm l _
theorem putCells_idc (cur:Array Value) (l:List ID) (n:Nat) (hn:n = l.length * 32) (h:l.length * 32 ≤ cur.size):(putCells id 0 (idc l).toArray cur).toList.take n = idc l:=by
 subst hn
 have hl:=idc_length l
 apply List.ext_getElem?
 intro j
 by_cases hj:j < l.length * 32
 ·rw [List.getElem?_take_of_lt hj,Array.getElem?_toList]
  simp [putCells,hl,hj,show j < cur.size by omega]
 ·rw [List.getElem?_take_eq_none (by omega),List.getElem?_eq_none (by omega)]
theorem sort_any (w0 w:World) (A:Option Addr) (c n:Nat) (l:List ID) (hn:l.length = n) (ho:OwnD w0 w A c l) (hl:l.length ≤ 1000000000000) (g:Nat) (cb:Array Value) (cf:ID → ID → Int) (hO:SWO (ltOf cf)) (hT:∀ x y,(ltOf cf) x y = false → (ltOf cf) y x = false → x = y)
  (eg:∀ args w,(callFunc g args).run Tryz.prog w = .ok (.enter g args) w) (hcmp:∀ blk,A = some ⟨blk,0,none⟩ → blk < w.heap.size → CmpLays Tryz.prog g cb encSI 32 cf blk 0 l.length w) :
  Calls Tryz.prog 87 #[.slice A n c,.func (.func g) #[] cb] w fun e w'=>e = .returned (.tuple #[]) ∧ OwnD w0 w' A c (sortBy cf l) ∧ Fr (fun b=>A.map (·.block) = some b) w w':=by
 subst hn
 by_cases h0:l = []
 ·subst h0
  refine (AnyF.slices_SortFunc_none Tryz.sortI A c _ w).mono ?_
  rintro e w' ⟨rfl,rfl⟩
  exact ⟨rfl,by simpa [sortBy] using ho,Fr.refl _ _⟩
 ·have hlen:0 < l.length:=List.length_pos_iff.2 h0
  have ho':=ho
  rcases ho'.2 with ⟨hv,h00⟩ | ⟨blk,cap,cur,hv,hb,hg,hnc,hm,hs,ht⟩
  ·omega
  ·injection hv with h1 _ h3
   subst h1;subst h3
   have hblk:blk < w.heap.size:=(Array.getElem?_eq_some_iff.1 hg).1
   have hH:HoldsK encSI 32 w blk 0 l.toArray:=by
    unfold HoldsK
    rw [flat_idc]
    intro j hj
    have hj':j < (idc l).length:=by simpa using hj
    refine ⟨?_,by simp [World.frozen?,hg]⟩
    have:=(Sl.own ho) (by intro h;rw [h] at hj';simp at hj')
    obtain ⟨g',off',e,_,hc⟩:=this
    injection e with e
    injection e with e1 e2
    subst e1;subst e2
    rw [hc j _ (List.getElem?_eq_getElem hj')]
    simp [hj']
   have hS:=AnyQ.slices_SortFunc_total Tryz.sortI 32 Tryz.isAgg24 sizeID encSI (fun x=>by simp [encSI,x.2]) (fun x v hv=>bv_one _ v hv) cf hO g cb blk 0 c l.toArray w eg (by simpa using hcmp blk rfl hblk) hH hblk (by simp;omega) hT
   change Calls Tryz.prog 87 _ _ _ at hS
   rw [List.size_toArray] at hS
   refine hS.mono ?_
   rintro e w' ⟨rfl,n,os,rfl⟩
   have hsl:(l.mergeSort fun x y=>!(ltOf cf) y x) = sortBy cf l:=rfl
   simp only [List.toList_toArray] at *
   rw [hsl]
   have hlen2:=sortBy_length cf l
   refine ⟨trivial,⟨idc_length _,.inr ⟨blk,c,putCells id 0 (idc (sortBy cf l)).toArray cur,rfl,hb,?_,by rw [hlen2];exact hnc,hm,by simp [putCells,hs],putCells_idc _ _ _ rfl (by rw [hlen2,hs];exact Nat.mul_le_mul_right 32 hnc)⟩⟩,?_⟩
   ·unfold sortWorldK putRowK
    rw [heap_grow_old _ _ (by simpa using hblk),flat_idc]
    simp [putRow,mapBlock,Sort.ahead,Array.getElem?_modify,hg,onCells]
   ·refine ⟨rfl,rfl,rfl,by simp [sortWorldK,putRowK,Sort.ahead],fun k hk hne=>?_⟩
    unfold sortWorldK putRowK
    rw [heap_grow_old _ _ (by simpa using hk)]
    have:blk ≠ k:=fun e=>hne (by simp [e])
    simp [putRow,mapBlock,Sort.ahead,Array.getElem?_modify,this]
theorem sortC_any (w0 w:World) (A:Option Addr) (c n:Nat) (l:List ID) (hn:l.length = n) (ho:OwnD w0 w A c l) (hl:l.length ≤ 1000000000000) :
  Calls Tryz.prog 87 #[.slice A n c,.func (.func 88) #[] #[]] w fun e w'=>e = .returned (.tuple #[]) ∧ OwnD w0 w' A c (sortBy cmpI l) ∧ Fr (fun b=>A.map (·.block) = some b) w w':=by
 refine sort_any w0 w A c n l hn ho hl 88 #[] cmpI swoI totI (enters_of Tryz.func88 (by kernel_rfl) rfl) (fun blk _ _ m os dk hdk x y=>?_)
 have:=cmp_any (sortWorldK encSI 32 w blk 0 m dk os) x y
 simp only [encI,idA_eq] at this
 exact this.mono (fun e w' h=>h)
end Go.Proofs.YtjpieiccpbcabaaGreat
namespace Go.Proofs.YtjpieiccpbcabaaGreat
open Go.RowKit Go.Maps Go.Sort Go.Shelf
def GrD (w w':World):Prop:=∃ q os,w' = grow (w.drewN q) os
section
variable {w w1:World}
theorem GrD.refl (w:World):GrD w w:=⟨0,#[],by simp [grow,World.drewN]⟩
theorem GrD.alloc (h:GrD w w1) (o:Obj):GrD w (w1.alloc o):=by
 obtain ⟨q,os,rfl⟩:=h
 exact ⟨q,os ++ #[o],by rw [alloc_eq_grow,grow_grow]⟩
theorem GrD.drew (h:GrD w w1):GrD w w1.drew:=by
 obtain ⟨q,os,rfl⟩:=h
 exact ⟨q + 1,os,rfl⟩
theorem GrD.trans {w2:World} (h:GrD w w1) (k:GrD w1 w2):GrD w w2:=by
 obtain ⟨q,os,rfl⟩:=h
 obtain ⟨q',os',rfl⟩:=k
 exact ⟨q + q',os ++ os',by simp [grow,World.drewN,Nat.add_assoc]⟩
theorem GrD.fr (h:GrD w w1):Fr noB w w1:=by
 obtain ⟨q,os,rfl⟩:=h
 refine ⟨rfl,rfl,rfl,by simp [grow,World.drewN],fun k hk _=>?_⟩
 simp [grow,World.drewN,Array.getElem?_append_left hk]
end
@[irreducible] def orID (a b:Int):Int:=if a = 0 then b else a
theorem orID_eq (a b:Int):orID a b = if a = 0 then b else a:=by unfold orID;rfl
theorem orD_any (w:World) (A:Option Addr) (c:Nat) (a b:Int) (h:Sl w A [.int .i64 a,.int .i64 b]) :
  Calls Tryz.prog 101 #[.slice A 2 c] w fun e w'=>e = .returned (.int .i64 (orID a b)) ∧ w' = w:=by
 obtain ⟨g,off,rfl,_,hc⟩:=h (by simp)
 have c0:=hc 0 _ rfl
 have c1:=hc 1 _ rfl
 rw [Nat.add_zero] at c0
 go_enter Tryz.func101,Tryz.ntmps101
 go_wp2
 refine wp_loop_rounds 3 ?_
 by_cases ha:a = 0
 ·by_cases hb:b = 0
  ·subst ha hb
   rw [rounds_succ]
   go_wp2
   rw [rounds_succ]
   go_wp2
   rw [rounds_succ]
   go_wp2
   go_ret
   exact ⟨by simp [orID_eq],rfl⟩
  ·subst ha
   rw [rounds_succ]
   go_wp2
   rw [rounds_succ]
   go_wp2
   go_ret
   exact ⟨by simp [orID_eq],rfl⟩
 ·rw [rounds_succ]
  go_wp2
  go_ret
  exact ⟨by simp [orID_eq,ha],rfl⟩
def cfD (G:Dg) (x y:ID):Int:=orID (Lib.compareInt (depthG G x) (depthG G y)) (cmpI x y)
theorem cfD_lt (G:Dg) (x y:ID):cfD G x y < 0 ↔ depthG G x < depthG G y ∨ (depthG G x = depthG G y ∧ cmpI x y < 0):=by
 unfold cfD
 rw [orID_eq]
 unfold Lib.compareInt
 rcases Nat.lt_trichotomy (depthG G x) (depthG G y) with h | h | h
 ·have h1:((depthG G x:Nat):Int) < depthG G y:=by omega
  simp [h1,h]
 ·have h1:¬ ((depthG G x:Nat):Int) < depthG G y:=by omega
  have h2:¬ ((depthG G y:Nat):Int) < depthG G x:=by omega
  simp [h1,h2,h]
 ·have h1:¬ ((depthG G x:Nat):Int) < depthG G y:=by omega
  have h2:((depthG G y:Nat):Int) < depthG G x:=by omega
  have h3:¬ depthG G x < depthG G y:=by omega
  have h4:depthG G x ≠ depthG G y:=by omega
  simp [h1,h2,h3,h4]
theorem swoD (G:Dg):SWO (ltOf (cfD G)) where
 irrefl x:=by simp [ltOf,cfD_lt,cmpD_self]
 trans x y z h1 h2:=by
  simp only [ltOf,decide_eq_true_eq,cfD_lt] at *
  rcases h1 with h1 | ⟨h1,h1'⟩ <;> rcases h2 with h2 | ⟨h2,h2'⟩
  ·exact .inl (by omega)
  ·exact .inl (by omega)
  ·exact .inl (by omega)
  ·exact .inr ⟨by omega,cmpD_trans h1' h2'⟩
 ntrans x y z h1 h2:=by
  simp only [ltOf,decide_eq_false_iff_not,cfD_lt,not_or,not_and] at *
  refine ⟨by omega,fun e=>?_⟩
  have e1:depthG G x = depthG G y:=by omega
  have e2:depthG G y = depthG G z:=by omega
  have:=swoI.ntrans x y z (by simpa [ltOf] using h1.2 e1) (by simpa [ltOf] using h2.2 e2)
  simpa [ltOf] using this
theorem totD (G:Dg):∀ x y,(ltOf (cfD G)) x y = false → (ltOf (cfD G)) y x = false → x = y:=by
 intro x y h1 h2
 simp only [ltOf,decide_eq_false_iff_not,cfD_lt,not_or,not_and] at *
 have e:depthG G x = depthG G y:=by omega
 exact totI x y (by simpa [ltOf] using h1.2 e) (by simpa [ltOf] using h2.2 e.symm)
theorem compare_any (w:World) (a b:Int):Calls Tryz.prog 102 #[.int .i64 a,.int .i64 b] w fun e w'=>e = .returned (.int .i64 (Lib.compareInt a b)) ∧ w' = w:=AnyG.cmp_Compare_int Tryz.cmpInt a b w
set_option maxRecDepth 100000 in
set_option maxHeartbeats 2000000 in
theorem closure_any (w:World) (D b0:Nat) (F:Nat → Prop) (G:Dg) (h:DagAt w D F G) (hb:w.cell? ⟨b0,0,none⟩ = some (.pointer (some ⟨D,0,none⟩))) (x y:ID) :
  Calls Tryz.prog 100 #[encI x,encI y,.pointer (some ⟨b0,0,none⟩)] w fun e w'=>e = .returned (.int .i64 (cfD G x y)) ∧ GrD w w':=by
 obtain ⟨A,K,kv,ks,h⟩:=h
 obtain ⟨B1,k1,hn1,_⟩:=h.node x
 obtain ⟨B2,k2,hn2,_⟩:=h.node y
 have G1:GrD w ((w.alloc (ido x)).alloc (ido y)).drew:=(((GrD.refl w).alloc _).alloc _).drew
 have lb:b0 < w.heap.size:=World.block_lt_of_cell? _ _ hb
 have fb:∀ w',GrD w w' → w'.cell? ⟨b0,0,none⟩ = some (.pointer (some ⟨D,0,none⟩)):=fun w' g=>(World.cell?_of_block (w:=w) (a:=⟨b0,0,none⟩) (g.fr.block b0 lb (by simp [noB]))).trans hb
 have r1:rdI ((w.alloc (ido x)).alloc (ido y)).drew w.heap.size 0 = some x:=by rw [rdI_drew,rdI_old _ _ _ _ (by simp),rdI_new]
 have r2:rdI ((w.alloc (ido x)).alloc (ido y)).drew (w.heap.size + 1) 0 = some y:=by
  have:=rdI_new (w.alloc (ido x)) y
  rw [World.size_alloc] at this
  rw [rdI_drew];exact this
 have h1:=h.fr0 G1.fr
 have b1:=fb _ G1
 clear hb
 go_enter Tryz.func100,Tryz.ntmps100
 go_wp2_with fail
 refine wp_region_N 20 (fun w'=>w'.cell? ⟨b0,0,none⟩ = some (.pointer (some ⟨D,0,none⟩)) ∧ w'.cell? ⟨D,0,none⟩ = some (.map (some A)) ∧ mpI w' A = some kv ∧ rdI w' w.heap.size 0 = some x ∧ rdI w' (w.heap.size + 1) 0 = some y) (by kernel_rfl) (by kernel_rfl) ⟨b1,h1.c0,h1.all,r1,r2⟩ (fun hA hF=>?_)
 refine wpAnyN_take (i:=0) (v:=?_) hA rfl (by decide) (by kernel_rfl) (by kernel_rfl) (fun _ _ _ h=>h) (Or.inl ⟨by rfl,?_⟩) hF (fun hA=>?_)
 rotate_left
 ·intro wS hSw;(try dsimp only at hSw);obtain ⟨s1,s2,s3,s4,s5⟩:=hSw;first | (apply Eq.trans;apply ex_ld_id;exact rfl;exact rfl;assumption;with_reducible rfl) | (go_simp;try with_reducible rfl)
 try simp only [sA1,sA2,sA3,Act.put,sA4,sA5,sA6]
 refine wpAnyN_take (i:=1) (v:=?_) hA rfl (by decide) (by kernel_rfl) (by kernel_rfl) (fun _ _ _ h=>h) (Or.inl ⟨by rfl,?_⟩) hF (fun hA=>?_)
 rotate_left
 ·intro wS hSw;(try dsimp only at hSw);obtain ⟨s1,s2,s3,s4,s5⟩:=hSw;first | (apply Eq.trans;apply ex_ld_id;exact rfl;exact rfl;assumption;with_reducible rfl) | (go_simp;try with_reducible rfl)
 try simp only [sA1,sA2,sA3,Act.put,sA4,sA5,sA6]
 refine wpAnyN_take (i:=2) (v:=?_) hA rfl (by decide) (by kernel_rfl) (by kernel_rfl) (fun _ _ _ h=>h) (Or.inl ⟨by rfl,?_⟩) hF (fun hA=>?_)
 rotate_left
 ·intro wS hSw;(try dsimp only at hSw);obtain ⟨s1,s2,s3,s4,s5⟩:=hSw;first | (apply Eq.trans;apply ex_ld_id;exact rfl;exact rfl;assumption;with_reducible rfl) | (go_simp;try with_reducible rfl)
 try simp only [sA1,sA2,sA3,Act.put,sA4,sA5,sA6]
 refine wpAnyN_take (i:=3) (v:=?_) hA rfl (by decide) (by kernel_rfl) (by kernel_rfl) (fun _ _ _ h=>h) (Or.inl ⟨by rfl,?_⟩) hF (fun hA=>?_)
 rotate_left
 ·intro wS hSw;(try dsimp only at hSw);obtain ⟨s1,s2,s3,s4,s5⟩:=hSw;first | (apply Eq.trans;apply ex_ld_id;exact rfl;exact rfl;assumption;with_reducible rfl) | (go_simp;try with_reducible rfl)
 try simp only [sA1,sA2,sA3,Act.put,sA4,sA5,sA6]
 refine wpAnyN_take (i:=4) (v:=?_) hA rfl (by decide) (by kernel_rfl) (by kernel_rfl) (fun _ _ _ h=>h) (Or.inl ⟨by rfl,?_⟩) hF (fun hA=>?_)
 rotate_left
 ·intro wS hSw;(try dsimp only at hSw);obtain ⟨s1,s2,s3,s4,s5⟩:=hSw;first | (apply Eq.trans;apply ex_ld_id;exact rfl;exact rfl;assumption;with_reducible rfl) | (go_simp;try with_reducible rfl)
 try simp only [sA1,sA2,sA3,Act.put,sA4,sA5,sA6]
 refine wpAnyN_take (i:=5) (v:=?_) hA rfl (by decide) (by kernel_rfl) (by kernel_rfl) (fun _ _ _ h=>h) (Or.inl ⟨by rfl,?_⟩) hF (fun hA=>?_)
 rotate_left
 ·intro wS hSw;(try dsimp only at hSw);obtain ⟨s1,s2,s3,s4,s5⟩:=hSw;first | (apply Eq.trans;apply ex_ld_id;exact rfl;exact rfl;assumption;with_reducible rfl) | (go_simp;try with_reducible rfl)
 try simp only [sA1,sA2,sA3,Act.put,sA4,sA5,sA6]
 refine wpAnyN_take (i:=6) (v:=?_) hA rfl (by decide) (by kernel_rfl) (by kernel_rfl) (fun _ _ _ h=>h) (Or.inl ⟨by rfl,?_⟩) hF (fun hA=>?_)
 rotate_left
 ·intro wS hSw;(try dsimp only at hSw);obtain ⟨s1,s2,s3,s4,s5⟩:=hSw;first | (apply Eq.trans;apply ex_ld_id;exact rfl;exact rfl;assumption;with_reducible rfl) | (go_simp;try with_reducible rfl)
 try simp only [sA1,sA2,sA3,Act.put,sA4,sA5,sA6]
 refine wpAnyN_take (i:=7) (v:=?_) hA rfl (by decide) (by kernel_rfl) (by kernel_rfl) (fun _ _ _ h=>h) (Or.inl ⟨by rfl,?_⟩) hF (fun hA=>?_)
 rotate_left
 ·intro wS hSw;(try dsimp only at hSw);obtain ⟨s1,s2,s3,s4,s5⟩:=hSw;first | (apply Eq.trans;apply ex_ld_id;exact rfl;exact rfl;assumption;with_reducible rfl) | (go_simp;try with_reducible rfl)
 try simp only [sA1,sA2,sA3,Act.put,sA4,sA5,sA6]
 refine wpAnyN_take (i:=8) (v:=?_) hA rfl (by decide) (by kernel_rfl) (by kernel_rfl) (fun _ _ _ h=>h) (Or.inl ⟨by rfl,?_⟩) hF (fun hA=>?_)
 rotate_left
 ·intro wS hSw;(try dsimp only at hSw);obtain ⟨s1,s2,s3,s4,s5⟩:=hSw;first | (apply Eq.trans;apply ex_ld_id;exact rfl;exact rfl;assumption;with_reducible rfl) | (go_simp;try with_reducible rfl)
 try simp only [sA1,sA2,sA3,Act.put,sA4,sA5,sA6]
 refine wpAnyN_take (i:=9) (v:=?_) hA rfl (by decide) (by kernel_rfl) (by kernel_rfl) (fun _ _ _ h=>h) (Or.inl ⟨by rfl,?_⟩) hF (fun hA=>?_)
 rotate_left
 ·intro wS hSw;(try dsimp only at hSw);obtain ⟨s1,s2,s3,s4,s5⟩:=hSw;first | (apply Eq.trans;apply ex_ld_id;exact rfl;exact rfl;assumption;with_reducible rfl) | (go_simp;try with_reducible rfl)
 try simp only [sA1,sA2,sA3,Act.put,sA4,sA5,sA6]
 refine wpAnyN_take (i:=10) (v:=?_) hA rfl (by decide) (by kernel_rfl) (by kernel_rfl) (fun _ _ _ h=>h) (Or.inl ⟨by rfl,?_⟩) hF (fun hA=>?_)
 rotate_left
 ·intro wS hSw;(try dsimp only at hSw);obtain ⟨s1,s2,s3,s4,s5⟩:=hSw;first | (apply Eq.trans;apply ex_ld_id;exact rfl;exact rfl;assumption;with_reducible rfl) | (go_simp;try with_reducible rfl)
 try simp only [sA1,sA2,sA3,Act.put,sA4,sA5,sA6]
 refine wpAnyN_take (i:=11) (v:=?_) hA rfl (by decide) (by kernel_rfl) (by kernel_rfl) (fun _ _ _ h=>h) (Or.inl ⟨by rfl,?_⟩) hF (fun hA=>?_)
 rotate_left
 ·intro wS hSw;(try dsimp only at hSw);obtain ⟨s1,s2,s3,s4,s5⟩:=hSw;first | (apply Eq.trans;apply ex_ld_id;exact rfl;exact rfl;assumption;with_reducible rfl) | (go_simp;try with_reducible rfl)
 try simp only [sA1,sA2,sA3,Act.put,sA4,sA5,sA6]
 refine wpAnyN_take (i:=12) (v:=?_) hA rfl (by decide) (by kernel_rfl) (by kernel_rfl) (fun _ _ _ h=>h) (Or.inl ⟨by rfl,?_⟩) hF (fun hA=>?_)
 rotate_left
 ·intro wS hSw;(try dsimp only at hSw);obtain ⟨s1,s2,s3,s4,s5⟩:=hSw;first | (apply Eq.trans;apply ex_ld_id;exact rfl;exact rfl;assumption;with_reducible rfl) | (go_simp;try with_reducible rfl)
 try simp only [sA1,sA2,sA3,Act.put,sA4,sA5,sA6]
 refine wpAnyN_take (i:=13) (v:=?_) hA rfl (by decide) (by kernel_rfl) (by kernel_rfl) (fun _ _ _ h=>h) (Or.inl ⟨by rfl,?_⟩) hF (fun hA=>?_)
 rotate_left
 ·intro wS hSw;(try dsimp only at hSw);obtain ⟨s1,s2,s3,s4,s5⟩:=hSw;first | (apply Eq.trans;apply ex_ld_id;exact rfl;exact rfl;assumption;with_reducible rfl) | (go_simp;try with_reducible rfl)
 try simp only [sA1,sA2,sA3,Act.put,sA4,sA5,sA6]
 refine wpAnyN_take (i:=15) (v:=?_) hA rfl (by decide) (by kernel_rfl) (by kernel_rfl) (fun _ _ _ h=>h) (Or.inl ⟨by rfl,?_⟩) hF (fun hA=>?_)
 rotate_left
 ·intro wS hSw;(try dsimp only at hSw);obtain ⟨s1,s2,s3,s4,s5⟩:=hSw;first | (apply Eq.trans;apply ex_ld_id;exact rfl;exact rfl;assumption;with_reducible rfl) | (go_simp;try with_reducible rfl)
 try simp only [sA1,sA2,sA3,Act.put,sA4,sA5,sA6]
 refine wpAnyN_take (i:=16) (v:=?_) hA rfl (by decide) (by kernel_rfl) (by kernel_rfl) (fun _ _ _ h=>h) (Or.inl ⟨by rfl,?_⟩) hF (fun hA=>?_)
 rotate_left
 ·intro wS hSw;(try dsimp only at hSw);obtain ⟨s1,s2,s3,s4,s5⟩:=hSw;first | (apply Eq.trans;apply ex_ld_id;exact rfl;exact rfl;assumption;with_reducible rfl) | (go_simp;try with_reducible rfl)
 try simp only [sA1,sA2,sA3,Act.put,sA4,sA5,sA6]
 refine wpAnyN_one (i:=14) hA (by kernel_rfl) (by decide) rfl (fun K' hK=>?_)
 go_simp
 go_at_call 102
 refine (compare_any _ _ _).mono ?_
 rintro e w2 ⟨rfl,rfl⟩
 refine hK.out _ _ ⟨b1,h1.c0,h1.all,r1,r2⟩ (fun hA=>?_)
 clear hK K'
 refine wpAnyN_one (i:=17) hA (by kernel_rfl) (by decide) rfl (fun K' hK=>?_)
 go_simp
 go_at_call 88
 refine (cmp_any _ x y).mono ?_
 rintro e w3 ⟨rfl,hg3⟩
 have hg3:GrD _ _:=hg3
 have f3:=hg3.fr
 have G3:=G1.trans hg3
 have h3:=h.fr0 G3.fr
 have q1:=rdI_fr r1 (rdI_lt r1) f3 (by simp [noB])
 have q2:=rdI_fr r2 (rdI_lt r2) f3 (by simp [noB])
 refine hK.out _ _ ⟨fb _ G3,h3.c0,h3.all,q1,q2⟩ (fun hA=>?_)
 clear hK K'
 refine wpAnyN_one (i:=18) hA (by kernel_rfl) (by decide) rfl (fun K' hK=>?_)
 go_simp
 have G4:GrD w (w3.alloc (.cells #[.int .i64 (Lib.compareInt (depthG G x) (depthG G y)),.int .i64 (cmpI x y)] 3)):=G3.alloc _
 have h4:=h.fr0 G4.fr
 refine hK.out _ _ ⟨fb _ G4,h4.c0,h4.all,by rw [rdI_old _ _ _ _ (rdI_lt q1)];exact q1,by rw [rdI_old _ _ _ _ (rdI_lt q2)];exact q2⟩ (fun hA=>?_)
 clear hK K'
 refine wpAnyN_one (i:=19) hA (by kernel_rfl) (by decide) rfl (fun K' hK=>?_)
 go_simp
 go_at_call 101
 refine (orD_any _ _ _ (Lib.compareInt (depthG G x) (depthG G y)) (cmpI x y) (Sl.new _ _ _)).mono ?_
 rintro e w5 ⟨rfl,rfl⟩
 refine hK.out _ _ ⟨fb _ G4,h4.c0,h4.all,by rw [rdI_old _ _ _ _ (rdI_lt q1)];exact q1,by rw [rdI_old _ _ _ _ (rdI_lt q2)];exact q2⟩ (fun hA=>?_)
 clear hK K'
 refine wpAnyN_end rfl (by kernel_rfl) ?_
 simp only [List.drop_succ_cons,List.drop_zero]
 go_wp2
 go_ret
 exact ⟨rfl,G4⟩
def Rise (cf:ID → ID → Int) (l:List ID):Prop:=l.Pairwise fun x y=>cf x y < 0
theorem sortBy_rise {cf:ID → ID → Int} (hO:SWO (ltOf cf)) (hT:∀ x y,(ltOf cf) x y = false → (ltOf cf) y x = false → x = y) {l:List ID} (hn:l.Nodup):Rise cf (sortBy cf l):=by
 have h1:(sortBy cf l).Pairwise fun x y=>(!(ltOf cf) y x) = true:=by
  refine List.pairwise_mergeSort ?_ ?_ l
  ·intro a b c hab hbc
   simp only [Bool.not_eq_true'] at *
   exact hO.ntrans _ _ _ hbc hab
  ·intro a b
   cases h:ltOf cf b a with
   | false=>simp
   | true =>
    cases h2:ltOf cf a b with
    | false=>simp
    | true=>have:=hO.trans _ _ _ h h2;rw [hO.irrefl] at this;cases this
 have h2:(sortBy cf l).Nodup:=(sortBy_perm cf l).nodup_iff.2 hn
 have h3:=List.Pairwise.and h1 h2
 refine List.Pairwise.imp ?_ h3
 rintro a b ⟨ha,hne⟩
 cases h:ltOf cf a b with
 | true=>simpa [ltOf] using h
 | false=>exact absurd (hT a b h (by simpa using ha)) hne
theorem sortBy_mem (cf:ID → ID → Int) (l:List ID) (x:ID):x ∈ sortBy cf l ↔ x ∈ l:=(sortBy_perm cf l).mem_iff
def NewRise (w:World) (cf:ID → ID → Int) (S:ID → Prop) (e:Ending) (w':World):Prop:=∃ l,NewIDs w l e w' ∧ Rise cf l ∧ (∀ y,y ∈ l ↔ S y) ∧ l.length ≤ 1000000000
theorem RngL.ne_own {w:World} {it r:Nat} {kv left:List (ID × Value)} (h:RngL encI w it r kv left) {base n:Nat} {A:Option Addr} {c:Nat} {l:List ID} (ho:w.ownsRow base 24 32 (.slice A n c) n (idc l)) (g:Nat) (hg:A.map (·.block) = some g):g ≠ it ∧ g ≠ r:=by
 obtain ⟨es,clock,seen,hi,hb,_⟩:=h
 rcases ho.2 with ⟨hv,_⟩ | ⟨g',cap,cur,hv,_,hc,_⟩
 ·injection hv with h1 _ _
  subst h1;cases hg
 ·injection hv with h1 _ _
  subst h1
  simp only [Option.map_some,Option.some.injEq] at hg
  subst hg
  constructor
  ·rintro rfl;rw [hi] at hc;cases hc
  ·rintro rfl;rw [hb] at hc;cases hc
def SorR (w:World) (it R:Nat) (l:List ID) (X:World → Prop) (gk:Nat) (iv:Value) (wr:World):Prop :=
 ∃ left out A c,iv = .slice A out.length c ∧ gk = left.length ∧ RngL encI wr it R (setV l) (setV left) ∧ OwnD w wr A c out ∧ (out ++ left).Perm l ∧ Fr noB w wr ∧ X wr
theorem setV_split {left:List ID} {l1 l2:List (ID × Value)} {p:ID × Value} (h:setV left = l1 ++ p :: l2):∃ a b,left = a ++ p.1 :: b ∧ l1 = setV a ∧ l2 = setV b ∧ p.2 = .bool true:=by
 unfold setV at h
 obtain ⟨a,q,e1,e2,e3⟩:=List.map_eq_append_iff.1 h
 obtain ⟨y,b,e4,e5,e6⟩:=List.map_eq_cons_iff.1 e3
 subst e5
 exact ⟨a,b,by rw [e1,e4],e2.symm,e6.symm,rfl⟩
theorem sortWD_fr (w:World) (blk m:Nat) (dk:Array ID) (os:Array Obj):Fr (oneB blk) w (sortWorldK encSI 32 w blk 0 m dk os):=by
 refine ⟨rfl,rfl,rfl,by simp [sortWorldK,putRowK,Sort.ahead],fun k hk hne=>?_⟩
 unfold sortWorldK putRowK
 rw [heap_grow_old _ _ (by simpa using hk)]
 have:blk ≠ k:=fun e=>hne e.symm
 simp [putRow,mapBlock,Sort.ahead,Array.getElem?_modify,this]
end Go.Proofs.YtjpieiccpbcabaaGreat
namespace Go.Proofs.YtjpieiccpbcabaaGreat
open Go.RowKit Go.Maps Go.Sort Go.Shelf
set_option maxRecDepth 100000 in
set_option maxHeartbeats 2000000 in
theorem sorted_any (w:World) (D:Nat) (F:Nat → Prop) (G:Dg) (h:DagAt w D F G) (R:Nat) (l:List ID) (hR:mpI w R = some (setV l)) (hl:l.length ≤ 1000000000) :
  Calls Tryz.prog 71 #[.pointer (some ⟨D,0,none⟩),.map (some R)] w (NewRise w (cfD G) (· ∈ l)):=by
 have lR:=mpI_lt hR
 have nd:l.Nodup:=by have:=mpI_nd hR;rwa [keys_setV] at this
 have hm1:mpI (w.alloc (.cells #[.pointer (some ⟨D,0,none⟩)] 42)) R = some (setV l):=by rw [mpI_old _ _ _ lR];exact hR
 obtain ⟨_,hrg⟩:=rng_all Tryz.underlying102 hm1
 have F1:Fr noB w (w.alloc (.cells #[.pointer (some ⟨D,0,none⟩)] 42)):=(Fr.refl noB w).alloc _
 have b1:Blk (w.alloc (.cells #[.pointer (some ⟨D,0,none⟩)] 42)) w.heap.size 42 [.pointer (some ⟨D,0,none⟩)]:=Blk.new w _ _
 go_enter Tryz.func71,Tryz.ntmps71
 go_wp2_with fail
 have F2:Fr noB w ((w.alloc (.cells #[.pointer (some ⟨D,0,none⟩)] 42)).alloc (rngO (w.alloc (.cells #[.pointer (some ⟨D,0,none⟩)] 42)) R)):=F1.alloc _
 have b2:=b1.alloc (rngO (w.alloc (.cells #[.pointer (some ⟨D,0,none⟩)] 42)) R)
 simp only [World.size_alloc] at hrg
 generalize ew:(w.alloc (.cells #[.pointer (some ⟨D,0,none⟩)] 42)).alloc (rngO (w.alloc (.cells #[.pointer (some ⟨D,0,none⟩)] 42)) R) = w2 at hrg F2 b2 ⊢
 clear ew hm1 F1 b1
 go_loopg [5] l.length (fun gk iv wr=>SorR w (w.heap.size + 1) R l (fun wr=>Blk wr w.heap.size 42 [.pointer (some ⟨D,0,none⟩)]) gk iv wr)
 case atStart=>exact ⟨l,[],none,0,rfl,rfl,hrg,World.ownsRow_nil _ _ _ _,by simp,F2,b2⟩
 case round =>
  obtain ⟨left,out,Ao,co,rfl,rfl,hr,ho,hpm,hf,hx⟩:=hrel
  have hpl:=hpm.length_eq
  rw [List.length_append] at hpl
  rcases hr.next keyI (by omega) 0 with ⟨h0,hrun⟩ | ⟨l1,p,l2,w3,h0,hp,hrun,hr3,hf3,hent⟩
  ·have e0:left = []:=by simpa [setV] using h0
   subst e0
   rw [List.append_nil] at hpm
   have HP:=Lib.hid hpm
   clear hpm h0
   have hd:DagAt wr D F G:=h.fr0 hf
   go_wp2_with fail
   go_at_call 87
   refine (sort_any w wr Ao co _ out rfl ho (by omega) 100 #[.pointer (some ⟨w.heap.size,0,none⟩)] (cfD G) (swoD G) (totD G) (enters_of Tryz.func100 (by kernel_rfl) rfl) ?_).mono ?_
   ·intro blk hA hblk m os dk hdk x y
    subst hA
    have hle:w.heap.size ≤ blk:=((Off.own ho) _ rfl).1
    have hne:blk ≠ w.heap.size:=Blk.ne_own hx ho (by decide) blk rfl
    have d2:DagAt (sortWorldK encSI 32 wr blk 0 m dk os) D F G:=by
     refine hd.fr (sortWD_fr wr blk m dk os) (fun b hb e=>?_)
     obtain ⟨_,_,_,_,hh⟩:=h
     have:=hh.lt b hb
     have e':b = blk:=e
     omega
    have b2:=hx.fr (sortWD_fr wr blk m dk os) (fun e=>hne (Eq.symm e))
    have:=closure_any (sortWorldK encSI 32 wr blk 0 m dk os) D w.heap.size F G d2 (Blk.cell b2 0) x y
    simp only [encI,idA_eq] at this
    exact this.mono (fun e w' h=>h)
   rintro e w4 ⟨rfl,ho4,hf4⟩
   go_wp2
   go_ret
   have hpm:=HP.out
   have nd2:out.Nodup:=hpm.nodup_iff.2 nd
   refine ⟨sortBy (cfD G) out,⟨Ao,co,by rw [sortBy_length];rfl,ho4,hf.step hf4 (fun b hb=>.inl ?_)⟩,sortBy_rise (swoD G) (totD G) nd2,fun y=>by rw [sortBy_mem];exact hpm.mem_iff,by rw [sortBy_length];omega⟩
   cases Ao with
   | none=>cases hb
   | some a=>simp at hb;rw [← hb];exact ((Off.own ho) _ rfl).1
  ·obtain ⟨a,b,rfl,rfl,rfl,hp2⟩:=setV_split h0
   have hne1:=hr.ne_own ho
   have ho3:OwnD w w3 Ao co out:=own_fr ho hf3 (fun g hg e=>by rw [ownBlock_sl] at hg;exact (hne1 g hg).1 e)
   have hx3:=hx.fr hf3 (fun e=>by have e':w.heap.size = w.heap.size + 1:=e;omega)
   have he:=hent noB w3 (Fr.refl _ _) (by simp [noB]) (by simp [noB])
   have F3:Fr noB w w3:=hf.step1 hf3 (by omega)
   have F4:Fr noB w3 ((w3.alloc (ido p.1)).alloc (rowo [p.1])):=((Fr.refl noB w3).alloc _).alloc _
   have ho4:OwnD w ((w3.alloc (ido p.1)).alloc (rowo [p.1])) Ao co out:=own_fr ho3 F4 (fun _ _=>by simp [noB])
   have rp:rdI (w3.alloc (ido p.1)) w3.heap.size 0 = some p.1:=rdI_new _ _
   have HP:=Lib.hid hpm
   clear hpm h0 hent
   simp only [List.length_append,List.length_cons] at hpl
   have hsl:Sl ((w3.alloc (ido p.1)).alloc (rowo [p.1])) (some ⟨w3.heap.size + 1,0,none⟩) (idc [p.1]):=by
    have:=sl_new (w3.alloc (ido p.1)) [p.1]
    rwa [World.size_alloc] at this
   have hsz:=(F3.step0 F4).size
   go_wp2_with (at_builtin;refine wpList_appD w _ rfl _ _ rfl Ao _ co out rfl rfl ho4 (some ⟨w3.heap.size + 1,0,none⟩) 1 1 [p.1] rfl hsl rfl (by simp;omega) hsz ?_;intro A5 c5 w5 hc5 hm5 ho5 hg5 hA5)
   go_roundg (a ++ b).length
   case measure=>simp
   case rel =>
    have r4:=hr3.fr F4 (by simp [noB]) (by simp [noB])
    have fg:Fr (fun b=>Ao.map (·.block) = some b) ((w3.alloc (ido p.1)).alloc (rowo [p.1])) w5:=Fr.ofGrown hg5 (fun g hg=>hg)
    have hne4:=r4.ne_own ho4
    refine ⟨a ++ b,out ++ [p.1],A5,c5,by simp,rfl,?_,ho5,?_,(F3.step0 F4).step fg (fun g hg=>.inl ?_),?_⟩
    ·have:=r4.fr fg (fun e=>(hne4 _ e).1 rfl) (fun e=>(hne4 _ e).2 rfl)
     unfold setV at this ⊢
     rwa [List.map_append]
    ·refine List.Perm.trans ?_ HP.out
     simp only [List.append_assoc,List.cons_append,List.nil_append]
     exact List.Perm.append_left out List.perm_middle.symm
    ·cases Ao with
     | none=>cases hg
     | some ad=>simp at hg;rw [← hg];exact ((Off.own ho) _ rfl).1
    ·refine (hx3.fr F4 (by simp [noB])).fr fg (fun e=>?_)
     have:=Blk.ne_own (hx3.fr F4 (by simp [noB])) ho4 (by decide) w.heap.size (by rw [ownBlock_sl];exact e)
     exact this rfl
theorem reached_len {G:Dg} (hk:okG G) {ids l:List ID} (nd:l.Nodup) (h:∀ y,y ∈ l ↔ Reached G ids y):l.length ≤ G.length :=
 nd_len nd (fun y hy=>by obtain ⟨i,_,ha⟩:=(h y).1 hy;exact (anc_has hk ha).2)
theorem DagAt.ok {w:World} {D:Nat} {F:Nat → Prop} {G:Dg} (h:DagAt w D F G):okG G:=by obtain ⟨_,_,_,_,h⟩:=h;exact h.ok
theorem DagAt.le {w:World} {D:Nat} {F:Nat → Prop} {G:Dg} (h:DagAt w D F G):G.length ≤ 1000000:=by obtain ⟨_,_,_,_,h⟩:=h;exact h.le
theorem ancestors_any (w:World) (D:Nat) (F:Nat → Prop) (G:Dg) (h:DagAt w D F G) (P:Option Addr) (c n:Nat) (ids:List ID) (hn:ids.length = n) (hs:Sl w P (idc ids)) (hb:ids.length ≤ 1000000000) :
  Calls Tryz.prog 43 #[.pointer (some ⟨D,0,none⟩),.slice P n c] w (NewRise w (cfD G) (Reached G ids)):=by
 subst hn
 go_enter Tryz.func43,Tryz.ntmps43
 go_wp2_with fail
 go_at_call 57
 refine (reach_any w D F G h P c _ ids rfl hs hb).mono ?_
 rintro e w1 ⟨R,l,rfl,hm,hl,hR,hf⟩
 have nd:l.Nodup:=by have:=mpI_nd hm;rwa [keys_setV] at this
 have hll:=reached_len h.ok nd hl
 have hle:=h.le
 go_wp2_with fail
 go_at_call 71
 refine (sorted_any w1 D F G (h.fr0 hf) R l hm (by omega)).mono ?_
 rintro e w2 ⟨l2,⟨A2,c2,rfl,ho2,hf2⟩,hr2,hm2,hb2⟩
 go_wp2
 go_ret
 exact ⟨l2,⟨A2,c2,rfl,own_base ho2 hf.size,hf.step0 hf2⟩,hr2,fun y=>(hm2 y).trans (hl y),hb2⟩
set_option maxRecDepth 100000 in
theorem reaches_any (w:World) (D:Nat) (F:Nat → Prop) (G:Dg) (h:DagAt w D F G) (x y:ID) :
  Calls Tryz.prog 27 #[.pointer (some ⟨D,0,none⟩),encI x,encI y] w (GivesD w (.bool (ancG G x y))):=by
 have F1:Fr noB w ((w.alloc (ido x)).alloc (ido y)).drew:=(((Fr.refl noB w).alloc _).alloc _).drew
 have r1:rdI ((w.alloc (ido x)).alloc (ido y)).drew w.heap.size 0 = some x:=by rw [rdI_drew,rdI_old _ _ _ _ (by simp),rdI_new]
 have r2:rdI ((w.alloc (ido x)).alloc (ido y)).drew (w.heap.size + 1) 0 = some y:=by
  have:=rdI_new (w.alloc (ido x)) y
  rw [World.size_alloc] at this
  rw [rdI_drew];exact this
 go_enter Tryz.func27,Tryz.ntmps27
 go_wp2_with fail
 refine wp_region_N 6 (fun w'=>rdI w' w.heap.size 0 = some x ∧ rdI w' (w.heap.size + 1) 0 = some y) (by kernel_rfl) (by kernel_rfl) ⟨r1,r2⟩ (fun hA hF=>?_)
 refine wpAnyN_take (i:=0) (v:=?_) hA rfl (by decide) (by kernel_rfl) (by kernel_rfl) (fun _ _ _ h=>h) (Or.inl ⟨by rfl,?_⟩) hF (fun hA=>?_)
 rotate_left
 ·intro wS hSw;(try dsimp only at hSw);obtain ⟨s1,s2⟩:=hSw;first | (apply Eq.trans;apply ex_ld_id;exact rfl;exact rfl;assumption;with_reducible rfl) | (go_simp;try with_reducible rfl)
 try simp only [sA1,sA2,sA3,Act.put,sA4,sA5,sA6]
 refine wpAnyN_take (i:=1) (v:=?_) hA rfl (by decide) (by kernel_rfl) (by kernel_rfl) (fun _ _ _ h=>h) (Or.inl ⟨by rfl,?_⟩) hF (fun hA=>?_)
 rotate_left
 ·intro wS hSw;(try dsimp only at hSw);obtain ⟨s1,s2⟩:=hSw;first | (apply Eq.trans;apply ex_ld_id;exact rfl;exact rfl;assumption;with_reducible rfl) | (go_simp;try with_reducible rfl)
 try simp only [sA1,sA2,sA3,Act.put,sA4,sA5,sA6]
 refine wpAnyN_take (i:=4) (v:=?_) hA rfl (by decide) (by kernel_rfl) (by kernel_rfl) (fun _ _ _ h=>h) (Or.inl ⟨by rfl,?_⟩) hF (fun hA=>?_)
 rotate_left
 ·intro wS hSw;(try dsimp only at hSw);obtain ⟨s1,s2⟩:=hSw;first | (apply Eq.trans;apply ex_ld_id;exact rfl;exact rfl;assumption;with_reducible rfl) | (go_simp;try with_reducible rfl)
 try simp only [sA1,sA2,sA3,Act.put,sA4,sA5,sA6]
 generalize ew:((w.alloc (ido x)).alloc (ido y)).drew = w1 at F1 r1 r2 hF ⊢
 refine wpAnyN_one (i:=2) hA (by kernel_rfl) (by decide) rfl (fun K hK=>?_)
 refine step_run rfl _ _ (ex_bs1_at (x:=x) rfl rfl) ?_
 have F2:Fr noB w (w1.alloc (rowo [x])):=F1.alloc _
 have p1:rdI (w1.alloc (rowo [x])) w.heap.size 0 = some x:=by rw [rdI_old _ _ _ _ (rdI_lt r1)];exact r1
 have p2:rdI (w1.alloc (rowo [x])) (w.heap.size + 1) 0 = some y:=by rw [rdI_old _ _ _ _ (rdI_lt r2)];exact r2
 refine hK.out _ _ ⟨p1,p2⟩ (fun hA=>?_)
 clear hK K
 refine wpAnyN_one (i:=3) hA (by kernel_rfl) (by decide) rfl (fun K hK=>?_)
 go_simp
 go_at_call 57
 refine (reach_any _ D F G (h.fr0 F2) _ _ _ [x] rfl (sl_new w1 [x]) (by simp)).mono ?_
 rintro e w3 ⟨R,l,rfl,hm,hl,hR,hf⟩
 have p1:rdI (w1.alloc (rowo [x])) w.heap.size 0 = some x:=by rw [rdI_old _ _ _ _ (rdI_lt r1)];exact r1
 have p2:rdI (w1.alloc (rowo [x])) (w.heap.size + 1) 0 = some y:=by rw [rdI_old _ _ _ _ (rdI_lt r2)];exact r2
 have q1:rdI w3 w.heap.size 0 = some x:=rdI_fr p1 (rdI_lt p1) hf (by simp [noB])
 have q2:rdI w3 (w.heap.size + 1) 0 = some y:=rdI_fr p2 (rdI_lt p2) hf (by simp [noB])
 refine hK.out _ _ ⟨q1,q2⟩ (fun hA=>?_)
 clear hK K
 refine wpAnyN_one (i:=5) hA (by kernel_rfl) (by decide) rfl (fun K hK=>?_)
 have hlk:=look_set l y
 have hd:decide (y ∈ l) = ancG G x y:=by
  rw [Bool.eq_iff_iff,decide_eq_true_eq,hl]
  simp [Reached]
 rw [hd] at hlk
 go_simp
 refine hK.out _ _ ⟨q1,q2⟩ (fun hA=>?_)
 clear hK K
 refine wpAnyN_end rfl (by kernel_rfl) ?_
 simp only [List.drop_succ_cons,List.drop_zero]
 go_wp2
 go_ret
 exact ⟨rfl,F2.step0 hf⟩
def RanR (w0:World) (it R:Nat) (kv:List (ID × Value)) (X:List ID → World → Prop) (gk:Nat) (wr:World):Prop :=
 ∃ dn left,gk = left.length ∧ RngL encI wr it R kv left ∧ (dn ++ left.map (·.1)).Perm (kv.map (·.1)) ∧ Fr noB w0 wr ∧ X dn wr
theorem ran_perm {dn:List ID} {l1 l2:List (ID × Value)} {p:ID × Value} {k:List ID} (h:(dn ++ (l1 ++ p :: l2).map (·.1)).Perm k):((dn ++ [p.1]) ++ (l1 ++ l2).map (·.1)).Perm k:=by
 refine List.Perm.trans ?_ h
 simp only [List.map_append,List.map_cons,List.append_assoc,List.cons_append,List.nil_append]
 exact List.Perm.append_left dn List.perm_middle.symm
theorem RngL.ne {w:World} {it r:Nat} {kv left:List (ID × Value)} (h:RngL encI w it r kv left):it ≠ r:=by
 obtain ⟨es,clock,seen,hi,hb,_⟩:=h
 rintro rfl
 rw [hi] at hb;cases hb
theorem RngL.mp {w:World} {it r:Nat} {kv left:List (ID × Value)} (h:RngL encI w it r kv left):mpI w r = some kv:=h.map.mpI
def Gat (w:World) (P:ID → Bool) (iv:Value) (dn:List ID) (wr:World):Prop:=∃ A c,iv = .slice A (dn.filter P).length c ∧ OwnD w wr A c (dn.filter P)
end Go.Proofs.YtjpieiccpbcabaaGreat
namespace Go.Proofs.YtjpieiccpbcabaaGreat
open Go.RowKit Go.Maps Go.Sort Go.Shelf
section
variable {P:Program} {ops:Array Oper} {Q:Exit → Act → World → Prop} {md:Region.Mode} {F:World → Prop} {n:Nat}
theorem wpAnyN_two {i j:Nat} {o o':Oper} {fuel:Nat} {listed:Array Bool} {a:Act} {w:World} (hA:RegAt md ops n listed) (hr:Region.ready md ops listed = [i,j]) (hin:i < n) (hjn:j < n) (hi:ops[i]? = some o) (hj:ops[j]? = some o')
  (h:∀ K:Act → World → Prop,Hid (∀ a' w',F w' → (RegAt md ops n (listed.setIfInBounds i true) → wpAnyN P md ops Q F n fuel (listed.setIfInBounds i true) a' w') → K a' w') →
   if Region.wanted o (yielded ops a.tmps) = true then Oper.wp P o a w K Q else K (a.put o.dst undef) w)
  (h':∀ K:Act → World → Prop,Hid (∀ a' w',F w' → (RegAt md ops n (listed.setIfInBounds j true) → wpAnyN P md ops Q F n fuel (listed.setIfInBounds j true) a' w') → K a' w') →
   if Region.wanted o' (yielded ops a.tmps) = true then Oper.wp P o' a w K Q else K (a.put o'.dst undef) w):wpAnyN P md ops Q F n (fuel + 1) listed a w:=by
 refine ⟨fun h0=>(by rw [hr] at h0;cases h0),fun k hk=>?_⟩
 have step:∀ (k:Nat) (o:Oper),k < n → ops[k]? = some o → k ∈ Region.ready md ops listed →
   (∀ K:Act → World → Prop,Hid (∀ a' w',F w' → (RegAt md ops n (listed.setIfInBounds k true) → wpAnyN P md ops Q F n fuel (listed.setIfInBounds k true) a' w') → K a' w') →
   if Region.wanted o (yielded ops a.tmps) = true then Oper.wp P o a w K Q else K (a.put o.dst undef) w) →
   wpOp P ops Q k (fun a' w'=>(k < n → F w') ∧ wpAnyN P md ops Q F n fuel (listed.setIfInBounds k true) a' w') a w:=by
  intro k o hkn ho hk hh
  have hA':RegAt md ops n (listed.setIfInBounds k true):=⟨hA.inv.set hk hkn,hA.b⟩
  have:=hh (fun a' w'=>(k < n → F w') ∧ wpAnyN P md ops Q F n fuel (listed.setIfInBounds k true) a' w') (fun a' w' hF hW=>⟨fun _=>hF,hW hA'⟩)
  unfold wpOp
  simp only [ho]
  split
  ·rename_i hw;rw [if_pos hw] at this;exact .inl this
  ·rename_i hw;rw [if_neg hw] at this;exact this
 have hk':=hk
 rw [hr] at hk'
 simp only [List.mem_cons,List.not_mem_nil,or_false] at hk'
 rcases hk' with rfl | rfl
 ·exact step k o hin hi hk h
 ·exact step k o' hjn hj hk h'
end
def BelX (G:Dg) (B:Nat) (dn:List ID) (wr:World):Prop:=∃ bl,mpI wr B = some (setV bl) ∧ ∀ z,z ∈ bl ↔ ∃ d ∈ dn,z ∈ (parents G d).getD []
theorem KidR.next {ks ks' ps:List ID} {wA wp w':World} {K k:Nat} {pa:ID} (fp:Fr (oneB K) wA wp) (u3:Fr (oneB K) wp w') (u2:mpI w' K = some (putL (setV ks') pa (.bool true))) (HG:∀ y,y ∈ ks' ↔ y ∈ ks ∨ y ∈ ps.take k) (hpk:ps[k]? = some pa) :
  KidR ks ps wA K (ps.length - (k + 1)) (.int .i64 ((k:Int) + 1)) w':=by
 refine ⟨k + 1,if pa ∈ ks' then ks' else ks' ++ [pa],by simp,rfl,fp.trans u3 (fun _ _ h=>h),by rw [u2,put_setV],fun y=>?_,(List.getElem?_eq_some_iff.1 hpk).1⟩
 rw [List.take_add_one,hpk]
 have e2:y ∈ (if pa ∈ ks' then ks' else ks' ++ [pa]) ↔ y ∈ ks' ∨ y = pa:=by
  split
  ·rename_i hm
   exact ⟨.inl,fun h=>h.elim id (fun e=>by rw [e];exact hm)⟩
  ·simp
 rw [e2,HG y]
 simp only [Option.toList_some,List.mem_append,List.mem_singleton,or_assoc]
set_option maxRecDepth 100000 in
set_option maxHeartbeats 2000000 in
theorem bases_any (w:World) (D:Nat) (F:Nat → Prop) (G:Dg) (h:DagAt w D F G) (x y:ID) :
  Calls Tryz.prog 51 #[.pointer (some ⟨D,0,none⟩),encI x,encI y] w (NewRise w cmpI (fun z=>(ancG G x z = true ∧ ancG G y z = true) ∧ ¬ ∃ d ps,(ancG G x d = true ∧ ancG G y d = true) ∧ parents G d = some ps ∧ z ∈ ps)):=by
 have hd:=h
 obtain ⟨A,K,kv,ks,h⟩:=h
 go_enter Tryz.func51,Tryz.ntmps51
 go_wp2_with fail
 rename_i Q1 K1 hK1
 have cont:∀ (v19 v23:Value) (w1:World) (R1 R2:Nat) (l1 l2:List ID),Fr noB w w1 → mpI w1 R1 = some (setV l1) → (∀ z,z ∈ l1 ↔ ancG G x z = true) → mpI w1 R2 = some (setV l2) → (∀ z,z ∈ l2 ↔ ancG G y z = true) →
   K1 { tmps:=#[.pointer (some ⟨D,0,none⟩),encI x,encI y,undef,.pointer (some ⟨w.heap.size,0,none⟩),.pointer (some ⟨w.heap.size + 1,0,none⟩),.slice none 0 0,.map (some R1),.map (some R2),undef,undef,undef,undef,undef,undef,undef,undef,.pointer (some ⟨D,0,none⟩),encI x,v19,.map (some R1),.pointer (some ⟨D,0,none⟩),encI y,v23,.map (some R2),undef,undef,undef,undef,undef,undef,undef,undef,undef,undef,undef,undef,undef,undef,undef,undef,undef,undef,undef,undef,undef,undef,undef,undef,undef,undef,undef,undef,undef,undef,undef,undef,undef,undef,undef,undef,undef,undef,undef,undef,undef,undef,undef,undef,undef,undef,undef,undef,undef,undef,undef],defers:=[] } w1:=by
  intro v19 v23 w1 R1 R2 l1 l2 F1 m1 hl1 m2 hl2
  refine hK1 _ _ ?_
  clear hK1
  have nd1:l1.Nodup:=by have:=mpI_nd m1;rwa [keys_setV] at this
  have ma:mpI (w1.alloc (.map #[] 0)) R1 = some (setV l1):=by rw [mpI_old _ _ _ (mpI_lt m1)];exact m1
  have mc:mpI (w1.alloc (.map #[] 0)) w1.heap.size = some []:=mpI_new w1
  have fa:Fr noB w1 (w1.alloc (.map #[] 0)):=(Fr.refl noB w1).alloc _
  obtain ⟨_,hrg⟩:=rng_all Tryz.underlying102 ma
  have fb:Fr noB (w1.alloc (.map #[] 0)) ((w1.alloc (.map #[] 0)).alloc (rngO (w1.alloc (.map #[] 0)) R1)):=(Fr.refl noB _).alloc _
  have mc2:=mpI_fr mc fb (by simp [noB])
  rw [World.size_alloc] at hrg
  have fab:=fa.step0 fb
  clear mc fb fa
  go_wp2_with fail
  generalize ew:(w1.alloc (.map #[] 0)).alloc (rngO (w1.alloc (.map #[] 0)) R1) = w2 at hrg mc2 fab ⊢
  clear ew ma
  go_loopg [] l1.length (fun gk wr=>RanR w1 (w1.heap.size + 1) R1 (setV l1) (fun dn wr=>mpI wr w1.heap.size = some (setV (dn.filter (fun z=>decide (z ∈ l2))))) gk wr)
  case atStart=>exact ⟨[],setV l1,by simp [setV],hrg,by simp,fab,mc2⟩
  case round =>
   obtain ⟨dn,left,rfl,hr,hpm,hf,hx⟩:=hrel
   rcases hr.next keyI hr.ne 0 with ⟨h0,hrun⟩ | ⟨q1,p,q2,w3,h0,hp,hrun,hr3,hf3,hent⟩
   ·subst h0
    rw [List.map_nil,List.append_nil,keys_setV] at hpm
    have hcm:∀ z,z ∈ dn.filter (fun z=>decide (z ∈ l2)) ↔ ancG G x z = true ∧ ancG G y z = true:=by
     intro z
     rw [List.mem_filter,hpm.mem_iff,hl1,decide_eq_true_eq,hl2]
    have ndc:(dn.filter (fun z=>decide (z ∈ l2))).Nodup:=(hpm.nodup_iff.2 nd1).filter _
    have hlc:(dn.filter (fun z=>decide (z ∈ l2))).length ≤ G.length:=nd_len ndc (fun z hz=>(anc_has h.ok ((hcm z).1 hz).1).2)
    have hle:=h.le
    generalize dn.filter (fun z=>decide (z ∈ l2)) = cm at hx hcm ndc hlc
    have HC:=Lib.hid hcm
    have Fl:Fr noB w wr:=F1.step0 hf
    clear hcm hpm hl1 hl2 m1 m2 hr mc2 hrg fab
    obtain ⟨wl,ewl⟩:∃ wl,wl = wr:=⟨_,rfl⟩
    subst ewl
    have lC:=mpI_lt hx
    have ma:mpI (wl.alloc (.map #[] 0)) w1.heap.size = some (setV cm):=by rw [mpI_old _ _ _ lC];exact hx
    have mc:mpI (wl.alloc (.map #[] 0)) wl.heap.size = some []:=mpI_new wl
    have fa:Fr noB wl (wl.alloc (.map #[] 0)):=(Fr.refl noB wl).alloc _
    obtain ⟨_,hrg⟩:=rng_all Tryz.underlying102 ma
    have fb:Fr noB (wl.alloc (.map #[] 0)) ((wl.alloc (.map #[] 0)).alloc (rngO (wl.alloc (.map #[] 0)) w1.heap.size)):=(Fr.refl noB _).alloc _
    have mc2:=mpI_fr mc fb (by simp [noB])
    rw [World.size_alloc] at hrg
    have fab:=fa.step0 fb
    clear mc fb fa
    go_wp2_with fail
    generalize ew:(wl.alloc (.map #[] 0)).alloc (rngO (wl.alloc (.map #[] 0)) w1.heap.size) = w2 at hrg mc2 fab ⊢
    clear ew ma
    go_loopg [] cm.length (fun gk wr=>RanR wl (wl.heap.size + 1) w1.heap.size (setV cm) (BelX G wl.heap.size) gk wr)
    case atStart=>exact ⟨[],setV cm,by simp [setV],hrg,by simp,fab,[],mc2,by simp⟩
    case round =>
     obtain ⟨dn,left,rfl,hr,hpm,hf2,bl,hbl,hbm⟩:=hrel
     rcases hr.next keyI hr.ne 0 with ⟨h0,hrun⟩ | ⟨q1,p,q2,w3,h0,hp,hrun,hr3,hf3,hent⟩
     ·subst h0
      rw [List.map_nil,List.append_nil,keys_setV] at hpm
      have hbm2:∀ z,z ∈ bl ↔ ∃ d ∈ cm,z ∈ (parents G d).getD []:=fun z=>by
       rw [hbm z]
       exact ⟨fun ⟨d,h1,h2⟩=>⟨d,hpm.mem_iff.1 h1,h2⟩,fun ⟨d,h1,h2⟩=>⟨d,hpm.mem_iff.2 h1,h2⟩⟩
      have HB:=Lib.hid hbm2
      have hxc:=hr.mp
      clear hbm2 hbm hpm hrg mc2 fab hr
      obtain ⟨wm,ewm⟩:∃ wm,wm = wr:=⟨_,rfl⟩
      subst ewm
      have Fm:Fr noB w wm:=Fl.step0 hf2
      obtain ⟨_,hrg⟩:=rng_all Tryz.underlying102 hxc
      have fab:Fr noB wm (wm.alloc (rngO wm w1.heap.size)):=(Fr.refl noB wm).alloc _
      go_wp2_with fail
      generalize ew:wm.alloc (rngO wm w1.heap.size) = w2 at hrg fab ⊢
      clear ew
      go_loopg [15] cm.length (fun gk iv wr=>RanR wm wm.heap.size w1.heap.size (setV cm) (Gat wm (fun z=>!decide (z ∈ bl)) iv) gk wr)
      case atStart=>exact ⟨[],setV cm,by simp [setV],hrg,by simp,fab,none,0,rfl,World.ownsRow_nil _ _ _ _⟩
      case round =>
       obtain ⟨dn,left,rfl,hr,hpm,hf,Ao,co,rfl,ho⟩:=hrel
       have hpl:=hpm.length_eq
       rw [List.length_append,List.length_map,List.length_map] at hpl
       have hcl:(setV cm).length = cm.length:=by simp [setV]
       rw [hcl] at hpl
       have hfl:=List.length_filter_le (fun z=>!decide (z ∈ bl)) dn
       generalize eout:dn.filter (fun z=>!decide (z ∈ bl)) = out at ho hfl ⊢
       have EO:=Lib.hid eout
       clear eout
       have Fr1:Fr noB w wr:=Fm.step0 hf
       rcases hr.next keyI hr.ne 0 with ⟨h0,hrun⟩ | ⟨q1,p,q2,w3,h0,hp,hrun,hr3,hf3,hent⟩
       ·subst h0
        rw [List.map_nil,List.append_nil,keys_setV] at hpm
        have HP:=Lib.hid hpm
        clear hpm
        go_wp2_with fail
        go_at_call 87
        refine (sortC_any wm wr Ao co _ out rfl ho (by simp at hpl;omega)).mono ?_
        rintro e w4 ⟨rfl,ho4,hf4⟩
        go_wp2
        go_ret
        have hpm:=HP.out
        have nd:dn.Nodup:=hpm.nodup_iff.2 ndc
        have nd2:out.Nodup:=by rw [← EO.out];exact nd.filter _
        refine ⟨sortBy cmpI out,⟨Ao,co,by rw [sortBy_length];rfl,own_base ho4 Fm.size,Fr1.step hf4 (fun b hb=>.inl ?_)⟩,sortBy_rise swoI totI nd2,fun z=>?_,by rw [sortBy_length];simp at hpl;omega⟩
        ·cases Ao with
         | none=>cases hb
         | some a=>simp at hb;rw [← hb];exact Nat.le_trans Fm.size ((Off.own ho) _ rfl).1
        ·rw [sortBy_mem,← EO.out,List.mem_filter,hpm.mem_iff,HC.out]
         refine and_congr_right (fun _=>?_)
         rw [Bool.not_eq_true',decide_eq_false_iff_not,HB.out]
         refine not_congr ?_
         constructor
         ·rintro ⟨d,h1,h2⟩
          cases hpd:parents G d with
          | none=>rw [hpd] at h2;simp at h2
          | some ps=>rw [hpd] at h2;exact ⟨d,ps,(HC.out d).1 h1,hpd,h2⟩
         ·rintro ⟨d,ps,h1,h2,h3⟩
          exact ⟨d,(HC.out d).2 h1,by rw [h2];exact h3⟩
       ·subst h0
        have hne1:=hr.ne_own ho
        have ho3:OwnD wm w3 Ao co out:=own_fr ho hf3 (fun g hg e=>by rw [ownBlock_sl] at hg;exact (hne1 g hg).1 e)
        have he:=hent noB w3 (Fr.refl _ _) (by simp [noB]) (by simp [noB])
        have F3:Fr noB wm w3:=hf.step1 hf3 (Nat.le_refl _)
        have fa:Fr noB w3 (w3.alloc (ido p.1)):=(Fr.refl noB w3).alloc _
        have rp:rdI (w3.alloc (ido p.1)) w3.heap.size 0 = some p.1:=rdI_new _ _
        have mxb:mpI (w3.alloc (ido p.1)) wl.heap.size = some (setV bl):=mpI_fr hbl (F3.step0 fa) (by simp [noB])
        have lks:=look_set bl p.1
        have HP:=Lib.hid hpm
        clear hpm hent
        simp only [List.length_append,List.length_cons] at hpl
        have rx:=hr3.fr fa (by simp [noB]) (by simp [noB])
        have hox:OwnD wm (w3.alloc (ido p.1)) Ao co out:=own_fr ho3 fa (fun _ _=>by simp [noB])
        have Fx:=F3.step0 fa
        by_cases hk:p.1 ∈ bl
        ·have hd:decide (p.1 ∈ bl) = true:=by simp [hk]
         have HK:=Lib.hid hk
         clear hk
         rw [hd] at lks
         go_wp2
         go_roundg (q1 ++ q2).length
         case measure=>simp
         case rel =>
          have ef:(dn ++ [p.1]).filter (fun z=>!decide (z ∈ bl)) = out:=by rw [List.filter_append,EO.out];simp [HK.out]
          refine ⟨dn ++ [p.1],q1 ++ q2,rfl,rx,ran_perm HP.out,Fx,Ao,co,?_,?_⟩
          ·rw [ef]
          ·rw [ef];exact hox
        ·have hd:decide (p.1 ∈ bl) = false:=by simp [hk]
         have HK:=Lib.hid hk
         clear hk
         rw [hd] at lks
         have F4:Fr noB (w3.alloc (ido p.1)) ((w3.alloc (ido p.1)).alloc (rowo [p.1])):=(Fr.refl noB _).alloc _
         have ho4:OwnD wm ((w3.alloc (ido p.1)).alloc (rowo [p.1])) Ao co out:=own_fr hox F4 (fun _ _=>by simp [noB])
         have hsl:Sl ((w3.alloc (ido p.1)).alloc (rowo [p.1])) (some ⟨w3.heap.size + 1,0,none⟩) (idc [p.1]):=by
          have:=sl_new (w3.alloc (ido p.1)) [p.1]
          rwa [World.size_alloc] at this
         have hsz:=(Fx.step0 F4).size
         go_wp2_with (at_builtin;refine wpList_appD wm _ rfl _ _ rfl Ao _ co out rfl rfl ho4 (some ⟨w3.heap.size + 1,0,none⟩) 1 1 [p.1] rfl hsl rfl (by simp;omega) hsz ?_;intro A5 c5 w5 hc5 hm5 ho5 hg5 hA5)
         go_roundg (q1 ++ q2).length
         case measure=>simp
         case rel =>
          have r4:=rx.fr F4 (by simp [noB]) (by simp [noB])
          have fg:Fr (fun b=>Ao.map (·.block) = some b) ((w3.alloc (ido p.1)).alloc (rowo [p.1])) w5:=Fr.ofGrown hg5 (fun g hg=>hg)
          have hne4:=r4.ne_own ho4
          have ef:(dn ++ [p.1]).filter (fun z=>!decide (z ∈ bl)) = out ++ [p.1]:=by rw [List.filter_append,EO.out];simp [HK.out]
          refine ⟨dn ++ [p.1],q1 ++ q2,rfl,r4.fr fg (fun e=>(hne4 _ e).1 rfl) (fun e=>(hne4 _ e).2 rfl),ran_perm HP.out,(Fx.step0 F4).step fg (fun g hg=>?_),A5,c5,?_,?_⟩
          ·cases Ao with
           | none=>cases hg
           | some ad=>simp at hg;rw [← hg];exact .inl ((Off.own ho) _ rfl).1
          ·rw [ef];simp
          ·rw [ef];exact ho5
     ·subst h0
      have he:=hent noB w3 (Fr.refl _ _) (by simp [noB]) (by simp [noB])
      have F3:Fr noB wl w3:=hf2.step1 hf3 (by omega)
      have rp:rdI (w3.alloc (ido p.1)).drew w3.heap.size 0 = some p.1:=by rw [rdI_drew,rdI_new]
      have fa:Fr noB w3 (w3.alloc (ido p.1)).drew:=((Fr.refl noB w3).alloc _).drew
      have F4:Fr noB w (w3.alloc (ido p.1)).drew:=Fl.step0 (F3.step0 fa)
      have h4:=h.fr0 F4
      obtain ⟨B,cB,hn,hB,hBF⟩:=h.node p.1
      have hps:((parents G p.1).getD []).length ≤ 2:=by
       cases hpp:parents G p.1 with
       | none=>simp
       | some ps=>exact (okG_par h.ok hpp).2.1
      have mxb:mpI (w3.alloc (ido p.1)).drew wl.heap.size = some (setV bl):=mpI_fr (mpI_fr hbl hf3 (fun e=>by have e':wl.heap.size = wl.heap.size + 1:=e;omega)) fa (by simp [noB])
      have rx:=hr3.fr fa (by simp [noB]) (by simp [noB])
      have HP:=Lib.hid hpm
      have HB:=Lib.hid hbm
      clear hpm hent hbm hbl
      generalize eps:(parents G p.1).getD [] = ps at hn hB hps
      have EP:=Lib.hid eps
      clear eps
      go_wp2_with fail
      refine wp_region_H (fun w'=>w'.cell? ⟨D,0,none⟩ = some (.map (some A)) ∧ mpI w' A = some kv ∧ rdI w' w3.heap.size 0 = some p.1) (by kernel_rfl) ⟨h4.c0,h4.all,rp⟩ (fun hF=>?_)
      refine wpAnyH_take (i:=0) (v:=?_) rfl (by kernel_rfl) (by kernel_rfl) (by kernel_rfl) (fun _ _ _ h=>h) (Or.inl ⟨by rfl,?_⟩) hF ?_
      rotate_left
      ·intro wS hSw;(try dsimp only at hSw);obtain ⟨s1,s2,s3⟩:=hSw;first | (apply Eq.trans;apply ex_ld_id;exact rfl;exact rfl;assumption;with_reducible rfl) | (go_simp;try with_reducible rfl)
      try simp only [sA1,sA2,sA3,Act.put,sA4,sA5,sA6]
      refine wpAnyH_take (i:=1) (v:=?_) rfl (by kernel_rfl) (by kernel_rfl) (by kernel_rfl) (fun _ _ _ h=>h) (Or.inl ⟨by rfl,?_⟩) hF ?_
      rotate_left
      ·intro wS hSw;(try dsimp only at hSw);obtain ⟨s1,s2,s3⟩:=hSw;first | (apply Eq.trans;apply ex_ld_id;exact rfl;exact rfl;assumption;with_reducible rfl) | (go_simp;try with_reducible rfl)
      try simp only [sA1,sA2,sA3,Act.put,sA4,sA5,sA6]
      refine wpAnyH_take (i:=2) (v:=?_) rfl (by kernel_rfl) (by kernel_rfl) (by kernel_rfl) (fun _ _ _ h=>h) (Or.inl ⟨by rfl,?_⟩) hF ?_
      rotate_left
      ·intro wS hSw;(try dsimp only at hSw);obtain ⟨s1,s2,s3⟩:=hSw;first | (apply Eq.trans;apply ex_ld_id;exact rfl;exact rfl;assumption;with_reducible rfl) | (go_simp;try with_reducible rfl)
      try simp only [sA1,sA2,sA3,Act.put,sA4,sA5,sA6]
      refine wpAnyH_take (i:=3) (v:=?_) rfl (by kernel_rfl) (by kernel_rfl) (by kernel_rfl) (fun _ _ _ h=>h) (Or.inl ⟨by rfl,?_⟩) hF ?_
      rotate_left
      ·intro wS hSw;(try dsimp only at hSw);obtain ⟨s1,s2,s3⟩:=hSw;first | (apply Eq.trans;apply ex_ld_id;exact rfl;exact rfl;assumption;with_reducible rfl) | (go_simp;try with_reducible rfl)
      try simp only [sA1,sA2,sA3,Act.put,sA4,sA5,sA6]
      refine wpAnyH_take (i:=4) (v:=?_) rfl (by kernel_rfl) (by kernel_rfl) (by kernel_rfl) (fun _ _ _ h=>h) (Or.inl ⟨by rfl,?_⟩) hF ?_
      rotate_left
      ·intro wS hSw;(try dsimp only at hSw);obtain ⟨s1,s2,s3⟩:=hSw;first | (apply Eq.trans;apply ex_ld_id;exact rfl;exact rfl;assumption;with_reducible rfl) | (go_simp;try with_reducible rfl)
      try simp only [sA1,sA2,sA3,Act.put,sA4,sA5,sA6]
      refine wpAnyH_take (i:=5) (v:=?_) rfl (by kernel_rfl) (by kernel_rfl) (by kernel_rfl) (fun _ _ _ h=>h) (Or.inl ⟨by rfl,?_⟩) hF ?_
      rotate_left
      ·intro wS hSw;(try dsimp only at hSw);obtain ⟨s1,s2,s3⟩:=hSw;first | (apply Eq.trans;apply ex_ld_id;exact rfl;exact rfl;assumption;with_reducible rfl) | (go_simp;try with_reducible rfl)
      try simp only [sA1,sA2,sA3,Act.put,sA4,sA5,sA6]
      refine wpAnyH_take (i:=6) (v:=?_) rfl (by kernel_rfl) (by kernel_rfl) (by kernel_rfl) (fun _ _ _ h=>h) (Or.inl ⟨by rfl,?_⟩) hF ?_
      rotate_left
      ·intro wS hSw;(try dsimp only at hSw);obtain ⟨s1,s2,s3⟩:=hSw;first | (apply Eq.trans;apply ex_ld_id;exact rfl;exact rfl;assumption;with_reducible rfl) | (go_simp;try with_reducible rfl)
      try simp only [sA1,sA2,sA3,Act.put,sA4,sA5,sA6]
      refine wpAnyH_take (i:=7) (v:=?_) rfl (by kernel_rfl) (by kernel_rfl) (by kernel_rfl) (fun _ _ _ h=>h) (Or.inl ⟨by rfl,?_⟩) hF ?_
      rotate_left
      ·intro wS hSw;(try dsimp only at hSw);obtain ⟨s1,s2,s3⟩:=hSw;first | (apply Eq.trans;apply ex_ld_id;exact rfl;exact rfl;assumption;with_reducible rfl) | (go_simp;try with_reducible rfl)
      try simp only [sA1,sA2,sA3,Act.put,sA4,sA5,sA6]
      refine wpAnyH_take (i:=8) (v:=?_) rfl (by kernel_rfl) (by kernel_rfl) (by kernel_rfl) (fun _ _ _ h=>h) (Or.inl ⟨by rfl,?_⟩) hF ?_
      rotate_left
      ·intro wS hSw;(try dsimp only at hSw);obtain ⟨s1,s2,s3⟩:=hSw;first | (apply Eq.trans;apply ex_ld_id;exact rfl;exact rfl;assumption;with_reducible rfl) | (go_simp;try with_reducible rfl)
      try simp only [sA1,sA2,sA3,Act.put,sA4,sA5,sA6]
      refine wpAnyH_done (by kernel_rfl) ?_ _
      clear hF
      generalize ew:(w3.alloc (ido p.1)).drew = wx at rp fa F4 h4 mxb rx ⊢
      clear ew
      have F5:=F3.step0 fa
      go_wp2_with fail
      go_loopg [52] ps.length (fun gk iv w'=>KidR bl ps wx wl.heap.size gk iv w')
      case atStart=>exact ⟨0,bl,rfl,by simp,Fr.refl _ _,mxb,by simp,by omega⟩
      case round =>
       obtain ⟨k,bl',rfl,rfl,hg,hgm,hgk,hkl⟩:=hrel
       by_cases hlt:k < ps.length
       ·obtain ⟨g,off,rfl⟩:=hB.adG (by omega)
        have r0:=hB.id k hlt
        have r1:rdI wx g (off + k * 32) = some ps[k]:=rdI_fr r0 (rdI_lt r0) F4 (by simp [noB])
        have r2:rdI wr g (off + k * 32) = some ps[k]:=rdI_fr r1 (rdI_lt r1) hg (fun e=>rdI_ne r1 mxb e)
        have i2:(k:Int) < ps.length:=by omega
        have p0:(0:Int) ≤ (k:Int):=by omega
        generalize ea:ps[k] = pa at r2
        have EA:=Lib.hid ea
        have HG:=Lib.hid hgk
        have HB2:=Lib.hid hB
        clear ea hgk r1 r0 hB
        have rq:rdI (wr.alloc (ido pa)) wr.heap.size 0 = some pa:=rdI_new _ _
        have fp:Fr (oneB wl.heap.size) wx (wr.alloc (ido pa)):=hg.alloc _
        have mp:mpI (wr.alloc (ido pa)) wl.heap.size = some (setV bl'):=by rw [mpI_old _ _ _ (mpI_lt hgm)];exact hgm
        obtain ⟨u1,u2,u3,u4⟩:=mput_all Tryz.underlying102 mp pa (.bool true)
        go_wp2
        go_roundg (ps.length - (k + 1))
        case measure=>omega
        case rel =>
         have hpk:ps[k]? = some pa:=by rw [List.getElem?_eq_getElem hlt,EA.out]
         exact KidR.next fp u3 u2 HG.out hpk
       ·have i2:¬ (k:Int) < ps.length:=by omega
        have ek:k = ps.length:=by omega
        subst ek
        rw [List.take_length] at hgk
        have HG:=Lib.hid hgk
        clear hgk
        go_wp2
        go_roundg (q1 ++ q2).length
        case measure=>simp
        case rel =>
         refine ⟨dn ++ [p.1],q1 ++ q2,rfl,rx.fr hg (fun e=>by have e':wl.heap.size + 1 = wl.heap.size:=e;omega) (fun e=>by have e':w1.heap.size = wl.heap.size:=e;omega),ran_perm HP.out,F5.step1 hg (Nat.le_refl _),bl',hgm,fun z=>?_⟩
         rw [HG.out z,HB.out z,← EP.out]
         simp only [List.mem_append,List.mem_singleton]
         constructor
         ·rintro (⟨d,h1,h2⟩ | h1)
          ·exact ⟨d,.inl h1,h2⟩
          ·exact ⟨p.1,.inr rfl,h1⟩
         ·rintro ⟨d,h1 | h1,h2⟩
          ·exact .inl ⟨d,h1,h2⟩
          ·subst h1;exact .inr h2
   ·subst h0
    have he:=hent noB w3 (Fr.refl _ _) (by simp [noB]) (by simp [noB])
    have F3:Fr noB w1 w3:=hf.step1 hf3 (by omega)
    have rp:rdI (w3.alloc (ido p.1)) w3.heap.size 0 = some p.1:=rdI_new _ _
    have fa:Fr noB w3 (w3.alloc (ido p.1)):=(Fr.refl noB w3).alloc _
    have mx2:mpI (w3.alloc (ido p.1)) R2 = some (setV l2):=mpI_fr m2 (F3.step0 fa) (by simp [noB])
    have mxc:mpI (w3.alloc (ido p.1)) w1.heap.size = some (setV (dn.filter (fun z=>decide (z ∈ l2)))):=mpI_fr (mpI_fr hx hf3 (fun e=>by have e':w1.heap.size = w1.heap.size + 1:=e;omega)) fa (by simp [noB])
    have lks:=look_set l2 p.1
    have HP:=Lib.hid hpm
    have rx:=hr3.fr fa (by simp [noB]) (by simp [noB])
    have Fx:=F3.step0 fa
    have lR1:R1 ≠ w1.heap.size:=by have:=mpI_lt m1;omega
    clear hpm hent hx
    by_cases hk:p.1 ∈ l2
    ·have hd:decide (p.1 ∈ l2) = true:=by simp [hk]
     have HK:=Lib.hid hk
     clear hk
     rw [hd] at lks
     obtain ⟨u1,u2,u3,u4⟩:=mput_all Tryz.underlying102 mxc p.1 (.bool true)
     go_wp2
     go_roundg (q1 ++ q2).length
     case measure=>simp
     case rel =>
      refine ⟨dn ++ [p.1],q1 ++ q2,rfl,rx.fr u3 (fun e=>by have e':w1.heap.size + 1 = w1.heap.size:=e;omega) (fun e=>lR1 e),ran_perm HP.out,Fx.step1 u3 (Nat.le_refl _),?_⟩
      show mpI _ w1.heap.size = some (setV (List.filter _ (dn ++ [p.1])))
      rw [u2,put_setV,List.filter_append]
      have hnm:p.1 ∉ dn.filter (fun z=>decide (z ∈ l2)):=by
       intro hm
       have hm':=(List.mem_filter.1 hm).1
       have nd:=HP.out.nodup_iff.2 (mpI_nd m1)
       rw [List.nodup_append] at nd
       exact nd.2.2 _ hm' p.1 (by simp) rfl
      rw [if_neg hnm]
      simp [HK.out]
    ·have hd:decide (p.1 ∈ l2) = false:=by simp [hk]
     have HK:=Lib.hid hk
     clear hk
     rw [hd] at lks
     go_wp2
     go_roundg (q1 ++ q2).length
     case measure=>simp
     case rel =>
      refine ⟨dn ++ [p.1],q1 ++ q2,rfl,rx,ran_perm HP.out,Fx,?_⟩
      show mpI _ w1.heap.size = some (setV (List.filter _ (dn ++ [p.1])))
      rw [mxc,List.filter_append]
      simp [HK.out]
 clear hK1
 have F1:Fr noB w ((w.alloc (ido x)).alloc (ido y)).drew:=(((Fr.refl noB w).alloc _).alloc _).drew
 have r1:rdI ((w.alloc (ido x)).alloc (ido y)).drew w.heap.size 0 = some x:=by rw [rdI_drew,rdI_old _ _ _ _ (by simp),rdI_new]
 have r2:rdI ((w.alloc (ido x)).alloc (ido y)).drew (w.heap.size + 1) 0 = some y:=by
  have:=rdI_new (w.alloc (ido x)) y
  rw [World.size_alloc] at this
  rw [rdI_drew];exact this
 refine wp_region_N 8 (fun w'=>rdI w' w.heap.size 0 = some x ∧ rdI w' (w.heap.size + 1) 0 = some y) (by kernel_rfl) (by kernel_rfl) ⟨r1,r2⟩ (fun hA hF=>?_)
 refine wpAnyN_take (i:=0) (v:=?_) hA rfl (by decide) (by kernel_rfl) (by kernel_rfl) (fun _ _ _ h=>h) (Or.inl ⟨by rfl,?_⟩) hF (fun hA=>?_)
 rotate_left
 ·intro wS hSw;(try dsimp only at hSw);obtain ⟨s1,s2⟩:=hSw;first | (apply Eq.trans;apply ex_ld_id;exact rfl;exact rfl;assumption;with_reducible rfl) | (go_simp;try with_reducible rfl)
 try simp only [sA1,sA2,sA3,Act.put,sA4,sA5,sA6]
 refine wpAnyN_take (i:=1) (v:=?_) hA rfl (by decide) (by kernel_rfl) (by kernel_rfl) (fun _ _ _ h=>h) (Or.inl ⟨by rfl,?_⟩) hF (fun hA=>?_)
 rotate_left
 ·intro wS hSw;(try dsimp only at hSw);obtain ⟨s1,s2⟩:=hSw;first | (apply Eq.trans;apply ex_ld_id;exact rfl;exact rfl;assumption;with_reducible rfl) | (go_simp;try with_reducible rfl)
 try simp only [sA1,sA2,sA3,Act.put,sA4,sA5,sA6]
 refine wpAnyN_take (i:=4) (v:=?_) hA rfl (by decide) (by kernel_rfl) (by kernel_rfl) (fun _ _ _ h=>h) (Or.inl ⟨by rfl,?_⟩) hF (fun hA=>?_)
 rotate_left
 ·intro wS hSw;(try dsimp only at hSw);obtain ⟨s1,s2⟩:=hSw;first | (apply Eq.trans;apply ex_ld_id;exact rfl;exact rfl;assumption;with_reducible rfl) | (go_simp;try with_reducible rfl)
 try simp only [sA1,sA2,sA3,Act.put,sA4,sA5,sA6]
 refine wpAnyN_take (i:=5) (v:=?_) hA rfl (by decide) (by kernel_rfl) (by kernel_rfl) (fun _ _ _ h=>h) (Or.inl ⟨by rfl,?_⟩) hF (fun hA=>?_)
 rotate_left
 ·intro wS hSw;(try dsimp only at hSw);obtain ⟨s1,s2⟩:=hSw;first | (apply Eq.trans;apply ex_ld_id;exact rfl;exact rfl;assumption;with_reducible rfl) | (go_simp;try with_reducible rfl)
 try simp only [sA1,sA2,sA3,Act.put,sA4,sA5,sA6]
 generalize ew:((w.alloc (ido x)).alloc (ido y)).drew = w1 at F1 r1 r2 hF ⊢
 have keep:∀ w',Fr noB w1 w' → rdI w' w.heap.size 0 = some x ∧ rdI w' (w.heap.size + 1) 0 = some y:=fun w' f=>⟨rdI_fr r1 (rdI_lt r1) f (by simp [noB]),rdI_fr r2 (rdI_lt r2) f (by simp [noB])⟩
 have mem1:∀ (u:ID) (l:List ID),(∀ z,z ∈ l ↔ Reached G [u] z) → ∀ z,z ∈ l ↔ ancG G u z = true:=fun u l hl z=>(hl z).trans (by simp [Reached])
 refine wpAnyN_two (i:=2) (j:=6) hA (by kernel_rfl) (by decide) (by decide) rfl rfl (fun K' hK=>?_) (fun K' hK=>?_)
 ·refine step_run rfl _ _ (ex_bs1_at (x:=x) rfl rfl) ?_
  have fa:Fr noB w1 (w1.alloc (rowo [x])):=(Fr.refl noB w1).alloc _
  refine hK.out _ _ (keep _ fa) (fun hA=>?_)
  clear hK K'
  refine wpAnyN_two (i:=3) (j:=6) hA (by kernel_rfl) (by decide) (by decide) rfl rfl (fun K' hK=>?_) (fun K' hK=>?_)
  ·go_simp
   go_at_call 57
   refine (reach_any _ D F G (hd.fr0 (F1.step0 fa)) _ _ _ [x] rfl (sl_new w1 [x]) (by simp)).mono ?_
   rintro e w3 ⟨R1,l1,rfl,hm1,hl1,hR1,hf3⟩
   have f3:=fa.step0 hf3
   refine hK.out _ _ (keep _ f3) (fun hA=>?_)
   clear hK K'
   refine wpAnyN_one (i:=6) hA (by kernel_rfl) (by decide) rfl (fun K' hK=>?_)
   refine step_run rfl _ _ (ex_bs1_at (x:=y) rfl rfl) ?_
   have fb:Fr noB w3 (w3.alloc (rowo [y])):=(Fr.refl noB w3).alloc _
   have f4:=f3.step0 fb
   refine hK.out _ _ (keep _ f4) (fun hA=>?_)
   clear hK K'
   refine wpAnyN_one (i:=7) hA (by kernel_rfl) (by decide) rfl (fun K' hK=>?_)
   go_simp
   go_at_call 57
   refine (reach_any _ D F G (hd.fr0 (F1.step0 f4)) _ _ _ [y] rfl (sl_new w3 [y]) (by simp)).mono ?_
   rintro e w5 ⟨R2,l2,rfl,hm2,hl2,hR2,hf5⟩
   have f5:=f4.step0 hf5
   refine hK.out _ _ (keep _ f5) (fun hA=>?_)
   clear hK K'
   refine wpAnyN_end rfl (by kernel_rfl) ?_
   simp only [List.drop_succ_cons,List.drop_zero]
   have:=cont (.slice (some ⟨w1.heap.size,0,none⟩) 1 1) (.slice (some ⟨w3.heap.size,0,none⟩) 1 1) w5 R1 R2 l1 l2 (F1.step0 f5) (mpI_fr hm1 (fb.step0 hf5) (by simp [noB])) (mem1 x l1 hl1) hm2 (mem1 y l2 hl2)
   clear cont
   go_wp2
   exact this
  · -- 6, 3, 7
   refine step_run rfl _ _ (ex_bs1_at (x:=y) rfl rfl) ?_
   have fb:Fr noB (w1.alloc (rowo [x])) ((w1.alloc (rowo [x])).alloc (rowo [y])):=(Fr.refl noB _).alloc _
   have f4:=fa.step0 fb
   have s1:Sl ((w1.alloc (rowo [x])).alloc (rowo [y])) (some ⟨w1.heap.size,0,none⟩) (idc [x]):=(sl_new w1 [x]).fr0 fb
   have s2:Sl ((w1.alloc (rowo [x])).alloc (rowo [y])) (some ⟨(w1.alloc (rowo [x])).heap.size,0,none⟩) (idc [y]):=sl_new _ [y]
   refine hK.out _ _ (keep _ f4) (fun hA=>?_)
   clear hK K'
   refine wpAnyN_one (i:=3) hA (by kernel_rfl) (by decide) rfl (fun K' hK=>?_)
   go_simp
   go_at_call 57
   refine (reach_any _ D F G (hd.fr0 (F1.step0 f4)) _ _ _ [x] rfl s1 (by simp)).mono ?_
   rintro e w3 ⟨R1,l1,rfl,hm1,hl1,hR1,hf3⟩
   have f3:=f4.step0 hf3
   refine hK.out _ _ (keep _ f3) (fun hA=>?_)
   clear hK K'
   refine wpAnyN_one (i:=7) hA (by kernel_rfl) (by decide) rfl (fun K' hK=>?_)
   rw [World.size_alloc] at s2
   go_simp
   go_at_call 57
   refine (reach_any _ D F G (hd.fr0 (F1.step0 f3)) _ _ _ [y] rfl (s2.fr0 hf3) (by simp)).mono ?_
   rintro e w5 ⟨R2,l2,rfl,hm2,hl2,hR2,hf5⟩
   have f5:=f3.step0 hf5
   refine hK.out _ _ (keep _ f5) (fun hA=>?_)
   clear hK K'
   refine wpAnyN_end rfl (by kernel_rfl) ?_
   simp only [List.drop_succ_cons,List.drop_zero]
   have:=cont (.slice (some ⟨w1.heap.size,0,none⟩) 1 1) (.slice (some ⟨w1.heap.size + 1,0,none⟩) 1 1) w5 R1 R2 l1 l2 (F1.step0 f5) (mpI_fr hm1 hf5 (by simp [noB])) (mem1 x l1 hl1) hm2 (mem1 y l2 hl2)
   clear cont
   go_wp2
   exact this
 · -- 6, 2, 3, 7
  refine step_run rfl _ _ (ex_bs1_at (x:=y) rfl rfl) ?_
  have fa:Fr noB w1 (w1.alloc (rowo [y])):=(Fr.refl noB w1).alloc _
  refine hK.out _ _ (keep _ fa) (fun hA=>?_)
  clear hK K'
  refine wpAnyN_one (i:=2) hA (by kernel_rfl) (by decide) rfl (fun K' hK=>?_)
  refine step_run rfl _ _ (ex_bs1_at (x:=x) rfl rfl) ?_
  have fb:Fr noB (w1.alloc (rowo [y])) ((w1.alloc (rowo [y])).alloc (rowo [x])):=(Fr.refl noB _).alloc _
  have f4:=fa.step0 fb
  have s1:Sl ((w1.alloc (rowo [y])).alloc (rowo [x])) (some ⟨(w1.alloc (rowo [y])).heap.size,0,none⟩) (idc [x]):=sl_new _ [x]
  have s2:Sl ((w1.alloc (rowo [y])).alloc (rowo [x])) (some ⟨w1.heap.size,0,none⟩) (idc [y]):=(sl_new w1 [y]).fr0 fb
  refine hK.out _ _ (keep _ f4) (fun hA=>?_)
  clear hK K'
  refine wpAnyN_one (i:=3) hA (by kernel_rfl) (by decide) rfl (fun K' hK=>?_)
  rw [World.size_alloc] at s1
  go_simp
  go_at_call 57
  refine (reach_any _ D F G (hd.fr0 (F1.step0 f4)) _ _ _ [x] rfl s1 (by simp)).mono ?_
  rintro e w3 ⟨R1,l1,rfl,hm1,hl1,hR1,hf3⟩
  have f3:=f4.step0 hf3
  refine hK.out _ _ (keep _ f3) (fun hA=>?_)
  clear hK K'
  refine wpAnyN_one (i:=7) hA (by kernel_rfl) (by decide) rfl (fun K' hK=>?_)
  go_simp
  go_at_call 57
  refine (reach_any _ D F G (hd.fr0 (F1.step0 f3)) _ _ _ [y] rfl (s2.fr0 hf3) (by simp)).mono ?_
  rintro e w5 ⟨R2,l2,rfl,hm2,hl2,hR2,hf5⟩
  have f5:=f3.step0 hf5
  refine hK.out _ _ (keep _ f5) (fun hA=>?_)
  clear hK K'
  refine wpAnyN_end rfl (by kernel_rfl) ?_
  simp only [List.drop_succ_cons,List.drop_zero]
  have:=cont (.slice (some ⟨w1.heap.size + 1,0,none⟩) 1 1) (.slice (some ⟨w1.heap.size,0,none⟩) 1 1) w5 R1 R2 l1 l2 (F1.step0 f5) (mpI_fr hm1 hf5 (by simp [noB])) (mem1 x l1 hl1) hm2 (mem1 y l2 hl2)
  clear cont
  go_wp2
  exact this
end Go.Proofs.YtjpieiccpbcabaaGreat
