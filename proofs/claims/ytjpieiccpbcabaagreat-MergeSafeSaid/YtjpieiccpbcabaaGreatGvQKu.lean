/- Contracts: grove's New, Undone, the clone of a row, Row. (ex_ldS_at, ex_ldR_at) Contract: grove's Row. (ex_ldS_at, ex_ldR_at) Contract: grove's Clone. (ex_ldS_at, ex_ldD_at, ex_ldO_at) Contract: grove's Lies. (ex_ldS_at) -/
import Derived.Test.YtjpieiccpbcabaaGreatGvJKu
set_option linter.unusedVariables false
set_option linter.unusedSimpArgs false
namespace Go.Proofs.YtjpieiccpbcabaaGreat
open Go.RowKit Go.Shelf
attribute [local go_sem] Oper.semAt_some
def NewGv (w:World) (e:Ending) (w':World):Prop:=∃ (b:Nat) (t:TrW),e = .returned (.pointer (some ⟨b,0,none⟩)) ∧ GvS w.heap.size w' b t [] ∧ t.u = 0 ∧ Fr noB w w'
set_option maxRecDepth 100000 in
theorem gvNew_any (w:World):Calls Tryz.prog 81 #[] w (NewGv w):=by
 go_enter Tryz.func81,Tryz.ntmps81
 go_wp2_with fail
 go_ret
 have f1:Fr noB w (w.alloc (.map #[] 0)):=(Fr.refl noB w).alloc _
 have hz:(w.alloc (.map #[] 0)).heap.size = w.heap.size + 1:=by simp
 have h:=TrB.new (w.alloc (.map #[] 0)) ⟨w.heap.size,none,0,0,0⟩
 rw [hz] at h
 refine ⟨w.heap.size + 1,⟨w.heap.size,none,0,0,0⟩,rfl,⟨h,Nat.le_succ _,Nat.le_refl _,⟨[],mpT_fr0 (mpT_new w) ((Fr.refl noB _).alloc _),AllO.nil⟩,⟨[],rfl,World.ownsRow_nil _ _ _ _,AllO.nil⟩,by simp⟩,rfl,f1.alloc _⟩
def CRow (w:World) (x:RwP) (e:Ending) (w':World):Prop:=∃ r':RwW,e = .returned (.agg (codR.A r')) ∧ RwO w' r' x ∧ w'.ownsRow w.heap.size 149 34 (.slice r'.A r'.n r'.c) r'.n (codH.row x.Heads) ∧ Fr noB w w'
set_option maxRecDepth 100000 in
set_option maxHeartbeats 2000000 in
theorem gvClone1_any (w:World) (r:RwW) (x:RwP) (hx:RwO w r x) (hb:x.Heads.length ≤ 1000000):Calls Tryz.prog 83 #[.agg (codR.A r)] w (CRow w x):=by
 have f0:Fr noB w ((w.alloc (.cells (codR.A r) 110)).alloc (codR.o zRwW)):=((Fr.refl noB w).alloc _).alloc _
 have bA0:codR.bxd (w.alloc (.cells (codR.A r) 110)) w.heap.size = some r:=Cod.bxd_box (C:=codR) w r
 have bA:=Cod.bxd_fr0 bA0 ((Fr.refl noB _).alloc (codR.o zRwW))
 have bB:=Cod.bxd_new (C:=codR) (w.alloc (.cells (codR.A r) 110)) zRwW
 have hz:(w.alloc (.cells (codR.A r) 110)).heap.size = w.heap.size + 1:=by simp
 rw [hz] at bB
 have u2:=(rwAt (Cod.bxd_rd bA)).heads
 have HX:=Lib.hid hx
 have hx0:=hx.fr f0 (NoHS.nob _)
 have CH:=Lib.hid (clHeads_any ((w.alloc (.cells (codR.A r) 110)).alloc (codR.o zRwW)) r.A r.c x.Heads r.n hx0.inn.len hx0.inn.sl (by omega))
 clear hx hx0 bA0
 go_enter Tryz.func83,Tryz.ntmps83
 go_upto_region 1 with fail
 generalize (w.alloc (.cells (codR.A r) 110)).alloc (codR.o zRwW) = W0 at f0 bA bB u2 CH ⊢
 obtain ⟨A,hA⟩:∃ k,k = w.heap.size:=⟨_,rfl⟩
 obtain ⟨B,hB⟩:∃ k,k = w.heap.size + 1:=⟨_,rfl⟩
 rw [← hB] at bB
 rw [← hA] at bA u2 ⊢
 have eAB:A + 1 = B:=by omega
 rw [eAB]
 have HAB:=Lib.hid (show w.heap.size ≤ A ∧ A < B from by omega)
 clear hz hA hB eAB
 go_upto_region 2 with (go_at_call 112;refine CH.out.mono ?_;rintro e w4 ⟨A4,c4,rfl,o4,f4⟩;have u4:=cell_fr0 u2 f4;have z4:=(Cod.bxd_blk (Cod.bxd_fr0 bA f4)).frozen 7)
 have bA4:=Cod.bxd_fr0 bA f4
 have g5:=Cod.set_fr w4 A 7 (.slice A4 x.Heads.length c4)
 have bA5:=Cod.bxd_set bA4 7 (.slice A4 x.Heads.length c4) _ (sew_Heads _ _ _ _)
 have o5:=own_box (Cod.bxd_blk bA4) o4 (by decide) g5
 have hab:=HAB.out
 have bB5:=Cod.bxd_fr (Cod.bxd_fr0 bB f4) g5 (by show ¬ B = A;omega)
 have F5:=(f0.step0 f4).step1 g5 hab.1
 obtain ⟨r',hr'⟩:∃ q:RwW,q = { r with A:=A4,n:=x.Heads.length,c:=c4 }:=⟨_,rfl⟩
 rw [← hr'] at bA5
 have HR:=Lib.hid hr'
 have hsz:=f0.size
 clear u2 u4 z4 bA4 g5 o4 f4 CH bA bB f0 hr'
 have o5':=own_base o5 hsz
 generalize w4.setCell ⟨A,7,none⟩ (.slice A4 x.Heads.length c4) = W5 at bA5 bB5 o5' F5 ⊢
 have rA5:=Cod.bxd_rd bA5
 have hst:=okR.stR_box bB5 r'
 obtain ⟨p1,p2,p3⟩:=Cod.put_fr bB5 r'
 have HP:=Lib.hid (And.intro p1 (And.intro p2 p3))
 clear p1 p2 p3 o5 hsz
 go_wp2_with fail
 obtain ⟨p1,p2,p3⟩:=HP.out
 refine bodyPost_ret (ret_row okR rfl _ _ B _ (by rfl) p3) rfl ?_
 have o6:=own_box (Cod.bxd_blk bB5) o5' (by decide) p1
 have h0:=HX.out
 have hr:=HR.out
 subst hr
 refine ⟨_,rfl,⟨⟨h0.inn.eq,rfl,Sl.own o6,h0.inn.bd,h0.inn.nm,h0.inn.wn,h0.inn.wp⟩,own_base o6 (Nat.zero_le _)⟩,o6,F5.step1 p1 (by omega)⟩
end Go.Proofs.YtjpieiccpbcabaaGreat
namespace Go.Proofs.YtjpieiccpbcabaaGreat
open Go.RowKit Go.Shelf
attribute [local go_sem] Oper.semAt_some
end Go.Proofs.YtjpieiccpbcabaaGreat
namespace Go.Proofs.YtjpieiccpbcabaaGreat
open Go.RowKit Go.Shelf
attribute [local go_sem] Oper.semAt_some
end Go.Proofs.YtjpieiccpbcabaaGreat
namespace Go.Proofs.YtjpieiccpbcabaaGreat
open Go.RowKit Go.Shelf
attribute [local go_sem] Oper.semAt_some
end Go.Proofs.YtjpieiccpbcabaaGreat
