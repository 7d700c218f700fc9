/- Contracts: slices.Clone of operations, the closures of stamp.Sort, slices.CompactFunc where nothing goes. (ex_ldS_at, ex_ldO_at) Contract: slices.CompactFunc of operations where nothing goes. (ex_ldO_at) -/
import Derived.Test.YtjpieiccpbcabaaGreatGvQKu
import Derived.Test.YtjpieiccpbcabaaGreatStabZoKu
set_option linter.unusedVariables false
set_option linter.unusedSimpArgs false
namespace Go.Proofs.YtjpieiccpbcabaaGreat
open Go.RowKit Go.Sort
attribute [local go_sem] Oper.semAt_some
@[go_sem] theorem Ops_eq_nil (w:World) (a:Option Addr) (n c:Nat):(binOp .eql 33 (.slice a n c) (.slice none 0 0)).run Tryz.prog w = .ok (.bool a.isNone) w :=
 Lib.run_eql_slice_nil w _ _ a n c 0 0 Tryz.underlying33
def NewOps (w:World) (l:List OpW) (e:Ending) (w':World):Prop:=∃ A c,e = .returned (.slice A l.length c) ∧ OwnC codO w w' A c l ∧ Fr noB w w' ∧ l.length ≤ c
set_option maxRecDepth 100000 in
theorem clOps_any (w:World) (A:Option Addr) (c:Nat) (l:List OpW) (n:Nat) (hn:l.length = n) (hs:Sl w A (codO.row l)) (hb:l.length * 128 ≤ 140737488355328) :
  Calls Tryz.prog 72 #[.slice A n c] w (NewOps w l):=by
 subst hn
 rcases A with _ | ad
 ·have hl:l = []:=by
   cases l with
   | nil=>rfl
   | cons b t=>obtain ⟨g,off,h,_⟩:=hs (Cod.row_ne (by simp));cases h
  subst hl
  go_enter Tryz.func72,Tryz.ntmps72
  go_wp2
  go_ret
  exact ⟨none,0,rfl,World.ownsRow_nil _ _ _ _,Fr.refl _ _,Nat.le_refl _⟩
 ·have hown:=World.ownsRow_lit (base:=w.heap.size) (e:=83) (size:=41) w #[] 0 (Nat.le_refl _) (by simp [maxLen]) rfl
  have hs1:Sl (w.alloc (.cells #[] 83)) (some ad) (codO.row l):=hs.fr0 ((Fr.refl noB w).alloc _)
  go_enter Tryz.func72,Tryz.ntmps72
  go_wp2_with (at_builtin;refine wpList_app _ etO rfl _ _ rfl w.heap.size _ _ _ rfl hown (some ad) l.length c (codO.row l) rfl hs1 (Cod.row_len l) (Cod.row_one l) (by simpa using hb) (by simp) ?_;intro v' w1 h1 h2 h3)
  go_ret
  obtain ⟨A',c',rfl,hcc,_⟩:=own_form h1
  simp only [Nat.zero_add,List.nil_append] at h1
  exact ⟨A',c',by simp,h1,((Fr.refl noB w).alloc _).stepG (r:=some w.heap.size) h2 (by intro g hg;injection hg with hg;omega),by simpa using hcc⟩
set_option maxRecDepth 100000 in
theorem sSort1_any (w:World) (x y:OpW):Calls Tryz.prog 75 #[.agg (codO.A x),.agg (codO.A y)] w (Gives w (.int .i64 (cmpS x.At y.At))):=by
 have b0:codO.bxd (w.alloc (.cells (codO.A x) 83)) w.heap.size = some x:=Cod.bxd_box (C:=codO) w x
 have b1:=Cod.bxd_fr0 b0 ((Fr.refl noB _).alloc (.cells (codO.A y) 83))
 have b2:codO.bxd ((w.alloc (.cells (codO.A x) 83)).alloc (.cells (codO.A y) 83)) (w.alloc (.cells (codO.A x) 83)).heap.size = some y:=Cod.bxd_box (C:=codO) _ y
 have hz:(w.alloc (.cells (codO.A x) 83)).heap.size = w.heap.size + 1:=by simp
 rw [hz] at b2
 have q1:=(opAt (Cod.bxd_rd b1)).At
 have q2:=(opAt (Cod.bxd_rd b2)).At
 have f0:Fr noB w ((w.alloc (.cells (codO.A x) 83)).alloc (.cells (codO.A y) 83)):=((Fr.refl noB w).alloc _).alloc _
 generalize x.At = s at q1 ⊢
 generalize y.At = u at q2 ⊢
 clear b0 b1 b2 hz
 go_enter Tryz.func75,Tryz.ntmps75
 go_wp2_with (go_at_call 76;refine (scmp_v _ s u).mono ?_;rintro e w2 ⟨rfl,f2⟩)
 go_ret
 exact ⟨rfl,f0.step0 f2⟩
set_option maxRecDepth 100000 in
theorem sSort2_any (w:World) (x y:OpW):Calls Tryz.prog 78 #[.agg (codO.A x),.agg (codO.A y)] w (Gives w (.bool (decide (x.At = y.At)))):=by
 have b0:codO.bxd (w.alloc (.cells (codO.A x) 83)) w.heap.size = some x:=Cod.bxd_box (C:=codO) w x
 have b1:=Cod.bxd_fr0 b0 ((Fr.refl noB _).alloc (.cells (codO.A y) 83))
 have b2:codO.bxd ((w.alloc (.cells (codO.A x) 83)).alloc (.cells (codO.A y) 83)) (w.alloc (.cells (codO.A x) 83)).heap.size = some y:=Cod.bxd_box (C:=codO) _ y
 have hz:(w.alloc (.cells (codO.A x) 83)).heap.size = w.heap.size + 1:=by simp
 rw [hz] at b2
 have q1:=(opAt (Cod.bxd_rd b1)).At
 have q2:=(opAt (Cod.bxd_rd b2)).At
 have f0:Fr noB w ((w.alloc (.cells (codO.A x) 83)).alloc (.cells (codO.A y) 83)):=((Fr.refl noB w).alloc _).alloc _
 generalize x.At = s at q1 ⊢
 generalize y.At = u at q2 ⊢
 clear b0 b1 b2 hz
 go_enter Tryz.func78,Tryz.ntmps78
 go_wp2_with fail
 go_ret
 exact ⟨rfl,f0⟩
theorem swoS:SWO (ltC (fun x y:OpW=>cmpS x.At y.At)) where
 irrefl x:=by simp [ltC,cmpS_self]
 trans x y z h1 h2:=by
  simp only [ltC,decide_eq_true_eq] at *
  exact cmpS_trans h1 h2
 ntrans x y z h1 h2:=by
  simp only [ltC,decide_eq_false_iff_not] at *
  intro h
  have e1:=cmpS_flip x.At y.At
  have e2:=cmpS_flip y.At z.At
  rcases Int.lt_trichotomy (cmpS y.At x.At) 0 with h3 | h3 | h3
  ·exact h2 (cmpS_trans h3 h)
  ·have:=cmpS_zero.1 h3
   rw [this] at h2
   exact h2 h
  ·omega
end Go.Proofs.YtjpieiccpbcabaaGreat
namespace Go.Proofs.YtjpieiccpbcabaaGreat
open Go.RowKit Go.Sort
attribute [local go_sem] Oper.semAt_some
def CpN (W:World) (L:Nat) (gk:Nat) (iv:Value) (wr:World):Prop:=∃ k:Nat,iv = .int .i64 (k:Int) ∧ gk = L + 1 - k ∧ 1 ≤ k ∧ k ≤ L ∧ Fr noB W wr
set_option maxRecDepth 100000 in
set_option maxHeartbeats 2000000 in
theorem cptOps_none (w:World) (A:Option Addr) (c n:Nat) (l:List OpW) (hn:l.length = n) (hs:Sl w A (codO.row l)) (hd:∀ i (h:i + 1 < l.length),l[i + 1].At ≠ l[i].At) (hb:l.length ≤ 140737488355328) :
  Calls Tryz.prog 77 #[.slice A n c,.func (.func 78) #[] #[]] w (Gives w (.slice A n c)):=by
 subst hn
 by_cases hl2:l.length < 2
 ·have i1:(l.length:Int) < 2:=by omega
  clear hs hd
  go_enter Tryz.func77,Tryz.ntmps77
  go_wp2_with fail
  go_ret
  exact ⟨rfl,Fr.refl _ _⟩
 ·obtain ⟨g,off,rfl,hg⟩:=hs.adC (by omega)
  have i1:¬ (l.length:Int) < 2:=by omega
  go_enter Tryz.func77,Tryz.ntmps77
  go_wp2_with fail
  go_loopg [5] l.length (fun gk iv wr=>CpN w l.length gk iv wr)
  case atStart=>exact ⟨1,rfl,by omega,by omega,by omega,Fr.refl _ _⟩
  case round =>
   obtain ⟨k,rfl,rfl,hk1,hk,hf⟩:=hrel
   by_cases hlt:k < l.length
   ·have i2:(k:Int) < (l.length:Int):=by omega
    have i0:(0:Int) ≤ (k:Int):=by omega
    obtain ⟨q,rfl⟩:∃ q,k = q + 1:=⟨k - 1,by omega⟩
    have r1:codO.rd wr.drew g (off + q * 41) = some (l[q]'(by omega)):=(hs.fr0 hf.drew).rd q (by omega)
    have r2:codO.rd wr.drew g (off + (q + 1) * 41) = some l[q + 1]:=(hs.fr0 hf.drew).rd (q + 1) hlt
    have hne:=hd q hlt
    generalize (l[q]'(by omega)) = y at r1 hne
    generalize l[q + 1] = x at r2 hne
    have hne2:decide (x.At = y.At) = false:=by simp [hne]
    have mw:IntKind.i64.wrap (((q + 1:Nat):Int) - 1) = (q:Int):=by rw [IntKind.wrap_i64];omega
    have j0:(0:Int) ≤ (q:Int):=by omega
    have j1:(q:Int) < (l.length:Int):=by omega
    have keep:∀ w' w'':World,Fr noB w' w'' → (codO.rd w' g (off + (q + 1) * 41) = some x ∧ codO.rd w' g (off + q * 41) = some y) → (codO.rd w'' g (off + (q + 1) * 41) = some x ∧ codO.rd w'' g (off + q * 41) = some y):=fun w' w'' f h=>⟨Cod.rd_fr0 h.1 f,Cod.rd_fr0 h.2 f⟩
    go_upto_region 6 with fail
    obtain ⟨kk,hkk⟩:∃ kk:Nat,kk = q + 1:=⟨_,rfl⟩
    rw [← hkk] at r2 i0 i2 mw keep ⊢
    have HK:=Lib.hid (And.intro hkk (And.intro hlt hne))
    clear hkk hne hk1 hk hlt
    refine wp_region_M 10 11 [⟨262144,2,0⟩,⟨524288,1,0⟩,⟨1048576,32,0⟩,⟨2097152,1572864,6⟩,⟨4194304,2097152,8⟩,⟨8388608,1,0⟩,⟨16777216,32,0⟩,⟨33554432,16777216,64⟩,⟨67108864,41943040,160⟩,⟨134217728,67108864,256⟩,⟨268435456,138674176,529⟩] [(true,0),(true,1),(true,2),(true,3),(true,4),(true,5),(true,6),(true,7),(true,8),(true,9)] (fun w'=>codO.rd w' g (off + kk * 41) = some x ∧ codO.rd w' g (off + q * 41) = some y) (by kernel_rfl) rfl (by kernel_rfl) (by kernel_rfl) (by kernel_rfl) ⟨r2,r1⟩ (fun hA hF=>?_)
    iterate 10
     refine wpAnyS_take (v:=?_) hA rfl (fun _ _ _ h=>h) (Or.inl ⟨by rfl,?_⟩) hF (fun hA=>?_)
     rotate_left
     ·intro wS hSw;(try dsimp only at hSw);obtain ⟨s1,s2⟩:=hSw;first | (apply Eq.trans;apply ex_ldO_at;exact rfl;exact rfl;assumption;with_reducible rfl) | (go_simp;try with_reducible rfl)
     try simp only [sA1,sA2,sA3,Act.put,sA4,sA5,sA6]
    refine wpAnyS_end hA rfl ?_
    simp only [List.drop_succ_cons,List.drop_zero]
    clear hF keep r1 r2
    go_wp2_with (go_at_call 78;refine (sSort2_any _ x y).mono ?_;rintro e w2 ⟨rfl,f2⟩;rw [hne2])
    go_roundg (l.length - kk)
    case measure=>have:=HK.out.1;have:=HK.out.2.1;omega
    case rel=>exact ⟨kk + 1,by simp,by omega,by omega,by have:=HK.out;omega,hf.drew.step0 f2⟩
   ·have i2:¬ (k:Int) < (l.length:Int):=by omega
    go_wp2_with fail
    go_ret
    exact ⟨rfl,hf⟩
end Go.Proofs.YtjpieiccpbcabaaGreat
