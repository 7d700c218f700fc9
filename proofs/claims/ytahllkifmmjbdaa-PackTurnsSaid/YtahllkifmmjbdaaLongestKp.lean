/- Contracts: the maker's longest. -/
import Derived.Test.YtahllkifmmjbdaaFlushKp
import Derived.Test.YtahllkifmmjbdaaPlcKp
import Derived.Test.YtahllkifmmjbdaaNumWKp
import Derived.Deep.LoopGhost
set_option linter.unusedVariables false
set_option linter.unusedSimpArgs false
namespace Go.Proofs.Ytahllkifmmjbdaa
open Go.RowKit Go.Maps
def cpl:List UInt8 → List UInt8 → Nat
 | a :: l,b :: m=>if a = b then cpl l m + 1 else 0
 | _,_=>0
def lgF (base target:List UInt8) (at_:Nat) (s:Nat × Nat) (p:Nat):Nat × Nat :=
 if s.2 < 8 + cpl (base.drop (p + 8)) (target.drop (at_ + 8)) then (p,8 + cpl (base.drop (p + 8)) (target.drop (at_ + 8))) else s
def lgL (base target:List UInt8) (at_:Nat) (ps:List Nat):Nat × Nat:=ps.foldl (lgF base target at_) (0,0)
theorem cpl_le (l m:List UInt8):cpl l m ≤ l.length ∧ cpl l m ≤ m.length:=by
 induction l generalizing m with
 | nil=>simp [cpl]
 | cons a l ih =>
  cases m with
  | nil=>simp [cpl]
  | cons b m =>
   unfold cpl
   split
   ·have:=ih m;simp;omega
   ·simp
theorem cpl_step (l m:List UInt8) (i j:Nat) (hi:i < l.length) (hj:j < m.length) (h:l[i] = m[j]):cpl (l.drop i) (m.drop j) = cpl (l.drop (i + 1)) (m.drop (j + 1)) + 1:=by
 rw [List.drop_eq_getElem_cons hi,List.drop_eq_getElem_cons hj]
 simp [cpl,h]
theorem cpl_stop (l m:List UInt8) (i j:Nat) (h:l.length ≤ i ∨ m.length ≤ j ∨ ∃ hi:i < l.length,∃ hj:j < m.length,l[i] ≠ m[j]):cpl (l.drop i) (m.drop j) = 0:=by
 rcases h with h | h | ⟨hi,hj,h⟩
 ·rw [List.drop_eq_nil_of_le h];simp [cpl]
 ·rw [List.drop_eq_nil_of_le h];cases l.drop i <;> simp [cpl]
 ·rw [List.drop_eq_getElem_cons hi,List.drop_eq_getElem_cons hj]
  simp [cpl,h]
def LgTo (w:World) (r:Nat × Nat) (e:Ending) (w':World):Prop:=e = .returned (.tuple #[.int .i64 r.1,.int .i64 r.2]) ∧ Fr noB w w'
def keyAt (target:List UInt8) (at_:Nat):SKey:=⟨(target.drop at_).take 8,by simp [maxLen];omega⟩
def LgR (w:World) (base target:List UInt8) (at_:Nat) (ps:List Nat) (gk:Nat) (fv nv iv_:Value) (wr:World):Prop :=
 ∃ i:Nat,i ≤ ps.length ∧ ps.length - i = gk ∧ iv_ = .int .i64 i ∧ fv = .int .i64 (lgL base target at_ (ps.take i)).1 ∧ nv = .int .i64 (lgL base target at_ (ps.take i)).2 ∧ Fr noB w wr
def LgK (w:World) (base target:List UInt8) (at_ q:Nat) (gk:Nat) (kv:Value) (wr:World):Prop :=
 ∃ k:Nat,8 ≤ k ∧ k ≤ 8 + cpl (base.drop (q + 8)) (target.drop (at_ + 8)) ∧ kv = .int .i64 k ∧ Fr noB w wr ∧ 8 + cpl (base.drop (q + 8)) (target.drop (at_ + 8)) = k + cpl (base.drop (q + k)) (target.drop (at_ + k)) ∧ cpl (base.drop (q + k)) (target.drop (at_ + k)) = gk
set_option maxRecDepth 100000 in
set_option maxHeartbeats 1000000 in
theorem longest_any (w0 w:World) (p:Nat) (A:Option Addr) (cb:Nat) (base:List UInt8) (T:Option Addr) (ct:Nat) (target:List UInt8) (r:Nat) (O:Option Addr) (no co own at_:Nat) (g:SKey → List Nat)
  (h:MkB w p A base.length cb T target.length ct (.map (some r)) O no co own) (hA:Sl w A (bv base)) (hT:Sl w T (bv target)) (hP:Plc w0 w r g) (hb:base.length ≤ 140737488351232) (ht:target.length ≤ 1048576) (hct:target.length ≤ ct)
  (hg:∀ k,(g k).length ≤ 4 ∧ ∀ x ∈ g k,x ≤ 140737488351232) (hat:at_ ≤ target.length) :
  Calls Try.prog 68 #[.pointer (some ⟨p,0,none⟩),.int .i64 at_] w (LgTo w (if target.length < at_ + 8 then (0,0) else lgL base target at_ (g (keyAt target at_)))):=by
 have c0:w.cell? ⟨p,0,none⟩ = some (.slice A base.length cb):=Blk.cell h 0
 have c1:w.cell? ⟨p,1,none⟩ = some (.slice T target.length ct):=Blk.cell h 1
 have c2:w.cell? ⟨p,2,none⟩ = some (.map (some r)):=Blk.cell h 2
 by_cases hshort:target.length < at_ + 8
 ·rw [if_pos hshort]
  go_enter Try.func68,Try.ntmps68
  go_wp2
  go_ret2
  exact ⟨rfl,Fr.refl _ _⟩
 ·rw [if_neg hshort]
  obtain ⟨G,cG,hlook,hoG,_,_⟩:=hP.look (keyAt target at_)
  have hgl:=(hg (keyAt target at_)).1
  have hgx:=(hg (keyAt target at_)).2
  have hkey:(keyAt target at_).1 = (target.drop at_).take 8:=rfl
  have hcv:(convert 25 9 (.slice (cutA T ct at_ 1) 8 (ct - at_))).run Try.prog w.drew = .ok (encSt (keyAt target at_)) w.drew:=by
   have hs:=((hT.cutB (k:=at_) hct).takeB (k:=8)).fr0 (drewF w)
   rw [conv_str _ _ _ _ ((target.drop at_).take 8) (by simp;omega) hs]
   rfl
  have hlk:(Instr.lookup 112 (.map (some r)) (encSt (keyAt target at_)) false).run Try.prog w.drew = .ok (.slice G (g (keyAt target at_)).length cG) w.drew:=by
   obtain ⟨G',cG',hl',hoG',hfr,_⟩:=hP.look (keyAt target at_)
   rw [hlook] at hl'
   injection hl' with hl' _
   injection hl' with e1 e2 e3
   subst e1;subst e3
   exact hfr _ ((Fr.refl _ w).drew)
  have hwr:IntKind.i64.wrap ((at_:Int) + 8) = (at_:Int) + 8:=by rw [IntKind.wrap_i64];omega
  have hb1:(0:Int) ≤ at_:=by omega
  have hb2:(at_:Int) ≤ (at_:Int) + 8:=by omega
  have hb3:(at_:Int) + 8 ≤ (ct:Int):=by omega
  have hb4:((at_:Int) + 8).toNat = at_ + 8:=by omega
  generalize g (keyAt target at_) = ps at hgl hgx hoG hlk ⊢
  generalize encSt (keyAt target at_) = kv at hcv hlk
  clear hlook hkey
  go_enter Try.func68,Try.ntmps68
  go_wp2
  refine wp_region_H (fun w'=>w'.cell? ⟨p,1,none⟩ = some (.slice T target.length ct) ∧ w'.cell? ⟨p,2,none⟩ = some (.map (some r)) ∧
    (convert 25 9 (.slice (cutA T ct at_ 1) 8 (ct - at_))).run Try.prog w' = .ok kv w' ∧ (Instr.lookup 112 (.map (some r)) kv false).run Try.prog w' = .ok (.slice G ps.length cG) w')
   (by kernel_rfl) ⟨c1,c2,hcv,hlk⟩ (fun hF=>?_)
  refine wpAnyH_take (i:=0) (v:=?_) rfl (by kernel_rfl) (by kernel_rfl) (by kernel_rfl) (fun _ _ _ h=>h) (Or.inl ⟨by rfl,?_⟩) hF ?_
  rotate_left
  ·intro wS hSw;(try dsimp only at hSw);obtain ⟨s1,s2,s3,s4⟩:=hSw;(go_simp;try with_reducible rfl)
  try simp only [sA1,sA2,sA3,Act.put,sA4,sA5,sA6]
  refine wpAnyH_take (i:=1) (v:=?_) rfl (by kernel_rfl) (by kernel_rfl) (by kernel_rfl) (fun _ _ _ h=>h) (Or.inl ⟨by rfl,?_⟩) hF ?_
  rotate_left
  ·intro wS hSw;(try dsimp only at hSw);obtain ⟨s1,s2,s3,s4⟩:=hSw;(go_simp;try with_reducible rfl)
  try simp only [sA1,sA2,sA3,Act.put,sA4,sA5,sA6]
  refine wpAnyH_take (i:=2) (v:=?_) rfl (by kernel_rfl) (by kernel_rfl) (by kernel_rfl) (fun _ _ _ h=>h) (Or.inl ⟨by rfl,?_⟩) hF ?_
  rotate_left
  ·intro wS hSw;(try dsimp only at hSw);obtain ⟨s1,s2,s3,s4⟩:=hSw;(go_simp;try with_reducible rfl)
  try simp only [sA1,sA2,sA3,Act.put,sA4,sA5,sA6]
  refine wpAnyH_take (i:=3) (v:=?_) rfl (by kernel_rfl) (by kernel_rfl) (by kernel_rfl) (fun _ _ _ h=>h) (Or.inl ⟨by rfl,?_⟩) hF ?_
  rotate_left
  ·intro wS hSw;(try dsimp only at hSw);obtain ⟨s1,s2,s3,s4⟩:=hSw;(go_simp;try with_reducible rfl)
  try simp only [sA1,sA2,sA3,Act.put,sA4,sA5,sA6]
  refine wpAnyH_take (i:=4) (v:=?_) rfl (by kernel_rfl) (by kernel_rfl) (by kernel_rfl) (fun _ _ _ h=>h) (Or.inl ⟨by rfl,?_⟩) hF ?_
  rotate_left
  ·intro wS hSw;(try dsimp only at hSw);obtain ⟨s1,s2,s3,s4⟩:=hSw;(go_simp;try with_reducible rfl)
  try simp only [sA1,sA2,sA3,Act.put,sA4,sA5,sA6]
  refine wpAnyH_take (i:=5) (v:=?_) rfl (by kernel_rfl) (by kernel_rfl) (by kernel_rfl) (fun _ _ _ h=>h) (Or.inl ⟨by rfl,?_⟩) hF ?_
  rotate_left
  ·intro wS hSw;(try dsimp only at hSw);obtain ⟨s1,s2,s3,s4⟩:=hSw;(go_simp;try with_reducible rfl)
  try simp only [sA1,sA2,sA3,Act.put,sA4,sA5,sA6]
  refine wpAnyH_take (i:=6) (v:=?_) rfl (by kernel_rfl) (by kernel_rfl) (by kernel_rfl) (fun _ _ _ h=>h) (Or.inl ⟨by rfl,?_⟩) hF ?_
  rotate_left
  ·intro wS hSw;(try dsimp only at hSw);obtain ⟨s1,s2,s3,s4⟩:=hSw;(go_simp;try with_reducible rfl)
  try simp only [sA1,sA2,sA3,Act.put,sA4,sA5,sA6]
  refine wpAnyH_take (i:=7) (v:=?_) rfl (by kernel_rfl) (by kernel_rfl) (by kernel_rfl) (fun _ _ _ h=>h) (Or.inl ⟨by rfl,?_⟩) hF ?_
  rotate_left
  ·intro wS hSw;(try dsimp only at hSw);obtain ⟨s1,s2,s3,s4⟩:=hSw;(go_simp;try with_reducible rfl)
  try simp only [sA1,sA2,sA3,Act.put,sA4,sA5,sA6]
  refine wpAnyH_take (i:=8) (v:=?_) rfl (by kernel_rfl) (by kernel_rfl) (by kernel_rfl) (fun _ _ _ h=>h) (Or.inl ⟨by rfl,?_⟩) hF ?_
  rotate_left
  ·intro wS hSw;(try dsimp only at hSw);obtain ⟨s1,s2,s3,s4⟩:=hSw;(go_simp;try with_reducible rfl)
  try simp only [sA1,sA2,sA3,Act.put,sA4,sA5,sA6]
  refine wpAnyH_take (i:=9) (v:=?_) rfl (by kernel_rfl) (by kernel_rfl) (by kernel_rfl) (fun _ _ _ h=>h) (Or.inl ⟨by rfl,?_⟩) hF ?_
  rotate_left
  ·intro wS hSw;(try dsimp only at hSw);obtain ⟨s1,s2,s3,s4⟩:=hSw;(go_simp;try with_reducible rfl)
  try simp only [sA1,sA2,sA3,Act.put,sA4,sA5,sA6]
  refine wpAnyH_take (i:=10) (v:=?_) rfl (by kernel_rfl) (by kernel_rfl) (by kernel_rfl) (fun _ _ _ h=>h) (Or.inl ⟨by rfl,?_⟩) hF ?_
  rotate_left
  ·intro wS hSw;(try dsimp only at hSw);obtain ⟨s1,s2,s3,s4⟩:=hSw;(go_simp;try with_reducible rfl)
  try simp only [sA1,sA2,sA3,Act.put,sA4,sA5,sA6]
  refine wpAnyH_take (i:=11) (v:=?_) rfl (by kernel_rfl) (by kernel_rfl) (by kernel_rfl) (fun _ _ _ h=>h) (Or.inl ⟨by rfl,?_⟩) hF ?_
  rotate_left
  ·intro wS hSw;(try dsimp only at hSw);obtain ⟨s1,s2,s3,s4⟩:=hSw;(go_simp;try with_reducible rfl)
  try simp only [sA1,sA2,sA3,Act.put,sA4,sA5,sA6]
  refine wpAnyH_take (i:=12) (v:=?_) rfl (by kernel_rfl) (by kernel_rfl) (by kernel_rfl) (fun _ _ _ h=>h) (Or.inl ⟨by rfl,?_⟩) hF ?_
  rotate_left
  ·intro wS hSw;(try dsimp only at hSw);obtain ⟨s1,s2,s3,s4⟩:=hSw;(go_simp;try with_reducible rfl)
  try simp only [sA1,sA2,sA3,Act.put,sA4,sA5,sA6]
  refine wpAnyH_take (i:=13) (v:=?_) rfl (by kernel_rfl) (by kernel_rfl) (by kernel_rfl) (fun _ _ _ h=>h) (Or.inl ⟨by rfl,?_⟩) hF ?_
  rotate_left
  ·intro wS hSw;(try dsimp only at hSw);obtain ⟨s1,s2,s3,s4⟩:=hSw;(go_simp;try with_reducible rfl)
  try simp only [sA1,sA2,sA3,Act.put,sA4,sA5,sA6]
  refine wpAnyH_take (i:=14) (v:=?_) rfl (by kernel_rfl) (by kernel_rfl) (by kernel_rfl) (fun _ _ _ h=>h) (Or.inl ⟨by rfl,?_⟩) hF ?_
  rotate_left
  ·intro wS hSw;(try dsimp only at hSw);obtain ⟨s1,s2,s3,s4⟩:=hSw;(go_simp;try with_reducible rfl)
  try simp only [sA1,sA2,sA3,Act.put,sA4,sA5,sA6]
  refine wpAnyH_take (i:=15) (v:=?_) rfl (by kernel_rfl) (by kernel_rfl) (by kernel_rfl) (fun _ _ _ h=>h) (Or.inl ⟨by rfl,?_⟩) hF ?_
  rotate_left
  ·intro wS hSw;(try dsimp only at hSw);obtain ⟨s1,s2,s3,s4⟩:=hSw;(go_simp;try with_reducible rfl)
  try simp only [sA1,sA2,sA3,Act.put,sA4,sA5,sA6]
  refine wpAnyH_done (by kernel_rfl) ?_ _
  clear hF
  go_wp2
  go_loopg [4,5,32] ps.length (fun gk fv nv iv_ wr=>LgR w base target at_ ps gk fv nv iv_ wr)
  case atStart=>exact ⟨0,by omega,by omega,rfl,rfl,rfl,drewF w⟩
  case round =>
   obtain ⟨i,hi,rfl,rfl,rfl,rfl,hW⟩:=hrel
   have cc0:=(World.cell?_of_block (a:=⟨p,0,none⟩) (hW.block p (Blk.lt h) (by simp [noB]))).trans c0
   have cc1:=(World.cell?_of_block (a:=⟨p,1,none⟩) (hW.block p (Blk.lt h) (by simp [noB]))).trans c1
   by_cases hlt:i < ps.length
   ·obtain ⟨gG,oG,rfl,_,hcG⟩:=((Sl.own hoG).fr0 hW) (by intro h0;have:=iv_length ps;rw [h0] at this;simp at this;omega)
    have cG1:=hcG i _ (iv_get ps i hlt)
    have hq:=hgx ps[i] (List.getElem_mem hlt)
    have hfold:lgL base target at_ (ps.take (i + 1)) = lgF base target at_ (lgL base target at_ (ps.take i)) ps[i]:=by
     unfold lgL
     rw [List.take_succ_eq_append_getElem hlt,List.foldl_append];rfl
    have HF:=Lib.hid hfold
    clear hfold hcG
    generalize ps[i] = q at cG1 hq HF
    generalize lgL base target at_ (ps.take i) = st at HF ⊢
    go_wp2
    go_loopg [8] (cpl (base.drop (q + 8)) (target.drop (at_ + 8))) (fun gk kv wr=>LgK w base target at_ q gk kv wr)
    case atStart=>exact ⟨8,by omega,by omega,rfl,hW,rfl,rfl⟩
    case round =>
     clear cc0 cc1 cG1 hW
     obtain ⟨k,hk8,hkc,rfl,hW,hce,rfl⟩:=hrel
     have cc0:=(World.cell?_of_block (a:=⟨p,0,none⟩) (hW.block p (Blk.lt h) (by simp [noB]))).trans c0
     have cc1:=(World.cell?_of_block (a:=⟨p,1,none⟩) (hW.block p (Blk.lt h) (by simp [noB]))).trans c1
     have hcl:=cpl_le (base.drop (q + 8)) (target.drop (at_ + 8))
     simp only [List.length_drop] at hcl
     have hw1:IntKind.i64.wrap ((q:Int) + k) = (q:Int) + k:=by rw [IntKind.wrap_i64];omega
     have hw2:IntKind.i64.wrap ((at_:Int) + k) = (at_:Int) + k:=by rw [IntKind.wrap_i64];omega
     have HCE:=Lib.hid hce
     have HCL:=Lib.hid hcl
     clear hce hcl
     by_cases g1:q + k < base.length
     ·have d1:decide ((q:Int) + (k:Int) < (base.length:Int)) = true:=by simp;omega
      by_cases g2:at_ + k < target.length
      ·have d2:decide ((at_:Int) + (k:Int) < (target.length:Int)) = true:=by simp;omega
       obtain ⟨gA,oA,rfl,_,hcA⟩:=(hA.fr0 hW).bytes (by omega)
       obtain ⟨gT,oT,rfl,_,hcT⟩:=(hT.fr0 hW).bytes (by omega)
       have cA:=hcA (q + k) g1
       have cT:=hcT (at_ + k) g2
       clear hcA hcT
       have n1:(0:Int) ≤ (q:Int) + k:=by omega
       have n2:(q:Int) + k < (base.length:Int):=by omega
       have n3:((q:Int) + k).toNat = q + k:=by omega
       have n4:(0:Int) ≤ (at_:Int) + k:=by omega
       have n5:(at_:Int) + k < (target.length:Int):=by omega
       have n6:((at_:Int) + k).toNat = at_ + k:=by omega
       by_cases g3:base[q + k] = target[at_ + k]
       ·have e3:(((base[q + k]).toNat:Int) == ((target[at_ + k]).toNat:Int)) = true:=by rw [g3];simp
        have HC:=Lib.hid (cpl_step base target (q + k) (at_ + k) g1 g2 g3)
        clear g3
        generalize base[q + k] = bA at cA e3
        generalize target[at_ + k] = bT at cT e3
        go_wp2
        refine wp_region_H (fun w'=>w'.cell? ⟨p,0,none⟩ = some (.slice (some ⟨gA,oA,none⟩) base.length cb) ∧ w'.cell? ⟨p,1,none⟩ = some (.slice (some ⟨gT,oT,none⟩) target.length ct) ∧ w'.cell? ⟨gA,oA + (q + k),none⟩ = some (.int .u8 (bA.toNat:Int)) ∧ w'.cell? ⟨gT,oT + (at_ + k),none⟩ = some (.int .u8 (bT.toNat:Int))) (by kernel_rfl) ⟨cc0,cc1,cA,cT⟩ (fun hF=>?_)
        refine wpAnyH_take (i:=0) (v:=?_) rfl (by kernel_rfl) (by kernel_rfl) (by kernel_rfl) (fun _ _ _ h=>h) (Or.inl ⟨by rfl,?_⟩) hF ?_
        rotate_left
        ·intro wS hSw;(try dsimp only at hSw);obtain ⟨s1,s2,s3,s4⟩:=hSw;(go_simp;try with_reducible rfl)
        try simp only [sA1,sA2,sA3,Act.put,sA4,sA5,sA6]
        refine wpAnyH_take (i:=1) (v:=?_) rfl (by kernel_rfl) (by kernel_rfl) (by kernel_rfl) (fun _ _ _ h=>h) (Or.inl ⟨by rfl,?_⟩) hF ?_
        rotate_left
        ·intro wS hSw;(try dsimp only at hSw);obtain ⟨s1,s2,s3,s4⟩:=hSw;(go_simp;try with_reducible rfl)
        try simp only [sA1,sA2,sA3,Act.put,sA4,sA5,sA6]
        refine wpAnyH_take (i:=2) (v:=?_) rfl (by kernel_rfl) (by kernel_rfl) (by kernel_rfl) (fun _ _ _ h=>h) (Or.inl ⟨by rfl,?_⟩) hF ?_
        rotate_left
        ·intro wS hSw;(try dsimp only at hSw);obtain ⟨s1,s2,s3,s4⟩:=hSw;(go_simp;try with_reducible rfl)
        try simp only [sA1,sA2,sA3,Act.put,sA4,sA5,sA6]
        refine wpAnyH_take (i:=3) (v:=?_) rfl (by kernel_rfl) (by kernel_rfl) (by kernel_rfl) (fun _ _ _ h=>h) (Or.inl ⟨by rfl,?_⟩) hF ?_
        rotate_left
        ·intro wS hSw;(try dsimp only at hSw);obtain ⟨s1,s2,s3,s4⟩:=hSw;(go_simp;try with_reducible rfl)
        try simp only [sA1,sA2,sA3,Act.put,sA4,sA5,sA6]
        refine wpAnyH_take (i:=4) (v:=?_) rfl (by kernel_rfl) (by kernel_rfl) (by kernel_rfl) (fun _ _ _ h=>h) (Or.inl ⟨by rfl,?_⟩) hF ?_
        rotate_left
        ·intro wS hSw;(try dsimp only at hSw);obtain ⟨s1,s2,s3,s4⟩:=hSw;(go_simp;try with_reducible rfl)
        try simp only [sA1,sA2,sA3,Act.put,sA4,sA5,sA6]
        refine wpAnyH_take (i:=5) (v:=?_) rfl (by kernel_rfl) (by kernel_rfl) (by kernel_rfl) (fun _ _ _ h=>h) (Or.inl ⟨by rfl,?_⟩) hF ?_
        rotate_left
        ·intro wS hSw;(try dsimp only at hSw);obtain ⟨s1,s2,s3,s4⟩:=hSw;(go_simp;try with_reducible rfl)
        try simp only [sA1,sA2,sA3,Act.put,sA4,sA5,sA6]
        refine wpAnyH_take (i:=6) (v:=?_) rfl (by kernel_rfl) (by kernel_rfl) (by kernel_rfl) (fun _ _ _ h=>h) (Or.inl ⟨by rfl,?_⟩) hF ?_
        rotate_left
        ·intro wS hSw;(try dsimp only at hSw);obtain ⟨s1,s2,s3,s4⟩:=hSw;(go_simp;try with_reducible rfl)
        try simp only [sA1,sA2,sA3,Act.put,sA4,sA5,sA6]
        refine wpAnyH_take (i:=7) (v:=?_) rfl (by kernel_rfl) (by kernel_rfl) (by kernel_rfl) (fun _ _ _ h=>h) (Or.inl ⟨by rfl,?_⟩) hF ?_
        rotate_left
        ·intro wS hSw;(try dsimp only at hSw);obtain ⟨s1,s2,s3,s4⟩:=hSw;(go_simp;try with_reducible rfl)
        try simp only [sA1,sA2,sA3,Act.put,sA4,sA5,sA6]
        refine wpAnyH_take (i:=8) (v:=?_) rfl (by kernel_rfl) (by kernel_rfl) (by kernel_rfl) (fun _ _ _ h=>h) (Or.inl ⟨by rfl,?_⟩) hF ?_
        rotate_left
        ·intro wS hSw;(try dsimp only at hSw);obtain ⟨s1,s2,s3,s4⟩:=hSw;(go_simp;try with_reducible rfl)
        try simp only [sA1,sA2,sA3,Act.put,sA4,sA5,sA6]
        refine wpAnyH_take (i:=9) (v:=?_) rfl (by kernel_rfl) (by kernel_rfl) (by kernel_rfl) (fun _ _ _ h=>h) (Or.inl ⟨by rfl,?_⟩) hF ?_
        rotate_left
        ·intro wS hSw;(try dsimp only at hSw);obtain ⟨s1,s2,s3,s4⟩:=hSw;(go_simp;try with_reducible rfl)
        try simp only [sA1,sA2,sA3,Act.put,sA4,sA5,sA6]
        refine wpAnyH_take (i:=10) (v:=?_) rfl (by kernel_rfl) (by kernel_rfl) (by kernel_rfl) (fun _ _ _ h=>h) (Or.inl ⟨by rfl,?_⟩) hF ?_
        rotate_left
        ·intro wS hSw;(try dsimp only at hSw);obtain ⟨s1,s2,s3,s4⟩:=hSw;(go_simp;try with_reducible rfl)
        try simp only [sA1,sA2,sA3,Act.put,sA4,sA5,sA6]
        refine wpAnyH_take (i:=11) (v:=?_) rfl (by kernel_rfl) (by kernel_rfl) (by kernel_rfl) (fun _ _ _ h=>h) (Or.inl ⟨by rfl,?_⟩) hF ?_
        rotate_left
        ·intro wS hSw;(try dsimp only at hSw);obtain ⟨s1,s2,s3,s4⟩:=hSw;(go_simp;try with_reducible rfl)
        try simp only [sA1,sA2,sA3,Act.put,sA4,sA5,sA6]
        refine wpAnyH_take (i:=12) (v:=?_) rfl (by kernel_rfl) (by kernel_rfl) (by kernel_rfl) (fun _ _ _ h=>h) (Or.inl ⟨by rfl,?_⟩) hF ?_
        rotate_left
        ·intro wS hSw;(try dsimp only at hSw);obtain ⟨s1,s2,s3,s4⟩:=hSw;(go_simp;try with_reducible rfl)
        try simp only [sA1,sA2,sA3,Act.put,sA4,sA5,sA6]
        refine wpAnyH_take (i:=13) (v:=?_) rfl (by kernel_rfl) (by kernel_rfl) (by kernel_rfl) (fun _ _ _ h=>h) (Or.inl ⟨by rfl,?_⟩) hF ?_
        rotate_left
        ·intro wS hSw;(try dsimp only at hSw);obtain ⟨s1,s2,s3,s4⟩:=hSw;(go_simp;try with_reducible rfl)
        try simp only [sA1,sA2,sA3,Act.put,sA4,sA5,sA6]
        refine wpAnyH_take (i:=14) (v:=?_) rfl (by kernel_rfl) (by kernel_rfl) (by kernel_rfl) (fun _ _ _ h=>h) (Or.inl ⟨by rfl,?_⟩) hF ?_
        rotate_left
        ·intro wS hSw;(try dsimp only at hSw);obtain ⟨s1,s2,s3,s4⟩:=hSw;(go_simp;try with_reducible rfl)
        try simp only [sA1,sA2,sA3,Act.put,sA4,sA5,sA6]
        refine wpAnyH_take (i:=15) (v:=?_) rfl (by kernel_rfl) (by kernel_rfl) (by kernel_rfl) (fun _ _ _ h=>h) (Or.inl ⟨by rfl,?_⟩) hF ?_
        rotate_left
        ·intro wS hSw;(try dsimp only at hSw);obtain ⟨s1,s2,s3,s4⟩:=hSw;(go_simp;try with_reducible rfl)
        try simp only [sA1,sA2,sA3,Act.put,sA4,sA5,sA6]
        refine wpAnyH_take (i:=16) (v:=?_) rfl (by kernel_rfl) (by kernel_rfl) (by kernel_rfl) (fun _ _ _ h=>h) (Or.inl ⟨by rfl,?_⟩) hF ?_
        rotate_left
        ·intro wS hSw;(try dsimp only at hSw);obtain ⟨s1,s2,s3,s4⟩:=hSw;(go_simp;try with_reducible rfl)
        try simp only [sA1,sA2,sA3,Act.put,sA4,sA5,sA6]
        refine wpAnyH_take (i:=17) (v:=?_) rfl (by kernel_rfl) (by kernel_rfl) (by kernel_rfl) (fun _ _ _ h=>h) (Or.inl ⟨by rfl,?_⟩) hF ?_
        rotate_left
        ·intro wS hSw;(try dsimp only at hSw);obtain ⟨s1,s2,s3,s4⟩:=hSw;(go_simp;try with_reducible rfl)
        try simp only [sA1,sA2,sA3,Act.put,sA4,sA5,sA6]
        refine wpAnyH_take (i:=18) (v:=?_) rfl (by kernel_rfl) (by kernel_rfl) (by kernel_rfl) (fun _ _ _ h=>h) (Or.inl ⟨by rfl,?_⟩) hF ?_
        rotate_left
        ·intro wS hSw;(try dsimp only at hSw);obtain ⟨s1,s2,s3,s4⟩:=hSw;(go_simp;try with_reducible rfl)
        try simp only [sA1,sA2,sA3,Act.put,sA4,sA5,sA6]
        refine wpAnyH_take (i:=19) (v:=?_) rfl (by kernel_rfl) (by kernel_rfl) (by kernel_rfl) (fun _ _ _ h=>h) (Or.inl ⟨by rfl,?_⟩) hF ?_
        rotate_left
        ·intro wS hSw;(try dsimp only at hSw);obtain ⟨s1,s2,s3,s4⟩:=hSw;(go_simp;try with_reducible rfl)
        try simp only [sA1,sA2,sA3,Act.put,sA4,sA5,sA6]
        refine wpAnyH_take (i:=20) (v:=?_) rfl (by kernel_rfl) (by kernel_rfl) (by kernel_rfl) (fun _ _ _ h=>h) (Or.inl ⟨by rfl,?_⟩) hF ?_
        rotate_left
        ·intro wS hSw;(try dsimp only at hSw);obtain ⟨s1,s2,s3,s4⟩:=hSw;(go_simp;try with_reducible rfl)
        try simp only [sA1,sA2,sA3,Act.put,sA4,sA5,sA6]
        refine wpAnyH_take (i:=21) (v:=?_) rfl (by kernel_rfl) (by kernel_rfl) (by kernel_rfl) (fun _ _ _ h=>h) (Or.inl ⟨by rfl,?_⟩) hF ?_
        rotate_left
        ·intro wS hSw;(try dsimp only at hSw);obtain ⟨s1,s2,s3,s4⟩:=hSw;(go_simp;try with_reducible rfl)
        try simp only [sA1,sA2,sA3,Act.put,sA4,sA5,sA6]
        refine wpAnyH_take (i:=22) (v:=?_) rfl (by kernel_rfl) (by kernel_rfl) (by kernel_rfl) (fun _ _ _ h=>h) (Or.inl ⟨by rfl,?_⟩) hF ?_
        rotate_left
        ·intro wS hSw;(try dsimp only at hSw);obtain ⟨s1,s2,s3,s4⟩:=hSw;(go_simp;try with_reducible rfl)
        try simp only [sA1,sA2,sA3,Act.put,sA4,sA5,sA6]
        refine wpAnyH_take (i:=23) (v:=?_) rfl (by kernel_rfl) (by kernel_rfl) (by kernel_rfl) (fun _ _ _ h=>h) (Or.inl ⟨by rfl,?_⟩) hF ?_
        rotate_left
        ·intro wS hSw;(try dsimp only at hSw);obtain ⟨s1,s2,s3,s4⟩:=hSw;(go_simp;try with_reducible rfl)
        try simp only [sA1,sA2,sA3,Act.put,sA4,sA5,sA6]
        refine wpAnyH_take (i:=24) (v:=?_) rfl (by kernel_rfl) (by kernel_rfl) (by kernel_rfl) (fun _ _ _ h=>h) (Or.inl ⟨by rfl,?_⟩) hF ?_
        rotate_left
        ·intro wS hSw;(try dsimp only at hSw);obtain ⟨s1,s2,s3,s4⟩:=hSw;(go_simp;try with_reducible rfl)
        try simp only [sA1,sA2,sA3,Act.put,sA4,sA5,sA6]
        refine wpAnyH_take (i:=25) (v:=?_) rfl (by kernel_rfl) (by kernel_rfl) (by kernel_rfl) (fun _ _ _ h=>h) (Or.inl ⟨by rfl,?_⟩) hF ?_
        rotate_left
        ·intro wS hSw;(try dsimp only at hSw);obtain ⟨s1,s2,s3,s4⟩:=hSw;(go_simp;try with_reducible rfl)
        try simp only [sA1,sA2,sA3,Act.put,sA4,sA5,sA6]
        refine wpAnyH_take (i:=26) (v:=?_) rfl (by kernel_rfl) (by kernel_rfl) (by kernel_rfl) (fun _ _ _ h=>h) (Or.inl ⟨by rfl,?_⟩) hF ?_
        rotate_left
        ·intro wS hSw;(try dsimp only at hSw);obtain ⟨s1,s2,s3,s4⟩:=hSw;(go_simp;try with_reducible rfl)
        try simp only [sA1,sA2,sA3,Act.put,sA4,sA5,sA6]
        refine wpAnyH_take (i:=27) (v:=?_) rfl (by kernel_rfl) (by kernel_rfl) (by kernel_rfl) (fun _ _ _ h=>h) (Or.inl ⟨by rfl,?_⟩) hF ?_
        rotate_left
        ·intro wS hSw;(try dsimp only at hSw);obtain ⟨s1,s2,s3,s4⟩:=hSw;(go_simp;try with_reducible rfl)
        try simp only [sA1,sA2,sA3,Act.put,sA4,sA5,sA6]
        refine wpAnyH_take (i:=28) (v:=?_) rfl (by kernel_rfl) (by kernel_rfl) (by kernel_rfl) (fun _ _ _ h=>h) (Or.inl ⟨by rfl,?_⟩) hF ?_
        rotate_left
        ·intro wS hSw;(try dsimp only at hSw);obtain ⟨s1,s2,s3,s4⟩:=hSw;(go_simp;try with_reducible rfl)
        try simp only [sA1,sA2,sA3,Act.put,sA4,sA5,sA6]
        refine wpAnyH_take (i:=29) (v:=?_) rfl (by kernel_rfl) (by kernel_rfl) (by kernel_rfl) (fun _ _ _ h=>h) (Or.inl ⟨by rfl,?_⟩) hF ?_
        rotate_left
        ·intro wS hSw;(try dsimp only at hSw);obtain ⟨s1,s2,s3,s4⟩:=hSw;(go_simp;try with_reducible rfl)
        try simp only [sA1,sA2,sA3,Act.put,sA4,sA5,sA6]
        refine wpAnyH_take (i:=30) (v:=?_) rfl (by kernel_rfl) (by kernel_rfl) (by kernel_rfl) (fun _ _ _ h=>h) (Or.inl ⟨by rfl,?_⟩) hF ?_
        rotate_left
        ·intro wS hSw;(try dsimp only at hSw);obtain ⟨s1,s2,s3,s4⟩:=hSw;(go_simp;try with_reducible rfl)
        try simp only [sA1,sA2,sA3,Act.put,sA4,sA5,sA6]
        refine wpAnyH_take (i:=31) (v:=?_) rfl (by kernel_rfl) (by kernel_rfl) (by kernel_rfl) (fun _ _ _ h=>h) (Or.inl ⟨by rfl,?_⟩) hF ?_
        rotate_left
        ·intro wS hSw;(try dsimp only at hSw);obtain ⟨s1,s2,s3,s4⟩:=hSw;(go_simp;try with_reducible rfl)
        try simp only [sA1,sA2,sA3,Act.put,sA4,sA5,sA6]
        refine wpAnyH_take (i:=32) (v:=?_) rfl (by kernel_rfl) (by kernel_rfl) (by kernel_rfl) (fun _ _ _ h=>h) (Or.inl ⟨by rfl,?_⟩) hF ?_
        rotate_left
        ·intro wS hSw;(try dsimp only at hSw);obtain ⟨s1,s2,s3,s4⟩:=hSw;(go_simp;try with_reducible rfl)
        try simp only [sA1,sA2,sA3,Act.put,sA4,sA5,sA6]
        refine wpAnyH_take (i:=33) (v:=?_) rfl (by kernel_rfl) (by kernel_rfl) (by kernel_rfl) (fun _ _ _ h=>h) (Or.inl ⟨by rfl,?_⟩) hF ?_
        rotate_left
        ·intro wS hSw;(try dsimp only at hSw);obtain ⟨s1,s2,s3,s4⟩:=hSw;(go_simp;try with_reducible rfl)
        try simp only [sA1,sA2,sA3,Act.put,sA4,sA5,sA6]
        refine wpAnyH_take (i:=34) (v:=?_) rfl (by kernel_rfl) (by kernel_rfl) (by kernel_rfl) (fun _ _ _ h=>h) (Or.inl ⟨by rfl,?_⟩) hF ?_
        rotate_left
        ·intro wS hSw;(try dsimp only at hSw);obtain ⟨s1,s2,s3,s4⟩:=hSw;(go_simp;try with_reducible rfl)
        try simp only [sA1,sA2,sA3,Act.put,sA4,sA5,sA6]
        refine wpAnyH_take (i:=35) (v:=?_) rfl (by kernel_rfl) (by kernel_rfl) (by kernel_rfl) (fun _ _ _ h=>h) (Or.inl ⟨by rfl,?_⟩) hF ?_
        rotate_left
        ·intro wS hSw;(try dsimp only at hSw);obtain ⟨s1,s2,s3,s4⟩:=hSw;(go_simp;try with_reducible rfl)
        try simp only [sA1,sA2,sA3,Act.put,sA4,sA5,sA6]
        refine wpAnyH_take (i:=36) (v:=?_) rfl (by kernel_rfl) (by kernel_rfl) (by kernel_rfl) (fun _ _ _ h=>h) (Or.inl ⟨by rfl,?_⟩) hF ?_
        rotate_left
        ·intro wS hSw;(try dsimp only at hSw);obtain ⟨s1,s2,s3,s4⟩:=hSw;(go_simp;try with_reducible rfl)
        try simp only [sA1,sA2,sA3,Act.put,sA4,sA5,sA6]
        refine wpAnyH_take (i:=37) (v:=?_) rfl (by kernel_rfl) (by kernel_rfl) (by kernel_rfl) (fun _ _ _ h=>h) (Or.inl ⟨by rfl,?_⟩) hF ?_
        rotate_left
        ·intro wS hSw;(try dsimp only at hSw);obtain ⟨s1,s2,s3,s4⟩:=hSw;(go_simp;try with_reducible rfl)
        try simp only [sA1,sA2,sA3,Act.put,sA4,sA5,sA6]
        refine wpAnyH_take (i:=38) (v:=?_) rfl (by kernel_rfl) (by kernel_rfl) (by kernel_rfl) (fun _ _ _ h=>h) (Or.inl ⟨by rfl,?_⟩) hF ?_
        rotate_left
        ·intro wS hSw;(try dsimp only at hSw);obtain ⟨s1,s2,s3,s4⟩:=hSw;(go_simp;try with_reducible rfl)
        try simp only [sA1,sA2,sA3,Act.put,sA4,sA5,sA6]
        refine wpAnyH_take (i:=39) (v:=?_) rfl (by kernel_rfl) (by kernel_rfl) (by kernel_rfl) (fun _ _ _ h=>h) (Or.inl ⟨by rfl,?_⟩) hF ?_
        rotate_left
        ·intro wS hSw;(try dsimp only at hSw);obtain ⟨s1,s2,s3,s4⟩:=hSw;(go_simp;try with_reducible rfl)
        try simp only [sA1,sA2,sA3,Act.put,sA4,sA5,sA6]
        refine wpAnyH_take (i:=40) (v:=?_) rfl (by kernel_rfl) (by kernel_rfl) (by kernel_rfl) (fun _ _ _ h=>h) (Or.inl ⟨by rfl,?_⟩) hF ?_
        rotate_left
        ·intro wS hSw;(try dsimp only at hSw);obtain ⟨s1,s2,s3,s4⟩:=hSw;(go_simp;try with_reducible rfl)
        try simp only [sA1,sA2,sA3,Act.put,sA4,sA5,sA6]
        refine wpAnyH_done (by kernel_rfl) ?_ _
        clear hF
        go_wp2
        go_roundg (cpl (base.drop (q + (k + 1))) (target.drop (at_ + (k + 1))))
        case measure=>rw [HC.out];simp only [Nat.add_assoc];omega
        case rel =>
         have h1:=HC.out
         have h2:=HCE.out
         simp only [Nat.add_assoc] at h1 h2
         exact ⟨k + 1,by omega,by omega,by go_num,hW.drew,by omega,rfl⟩
       ·have e3:(((base[q + k]).toNat:Int) == ((target[at_ + k]).toNat:Int)) = false:=by
         rw [beq_eq_false_iff_ne];intro he;exact g3 (byte_ne he)
        have HZ:=Lib.hid (cpl_stop base target (q + k) (at_ + k) (.inr (.inr ⟨g1,g2,g3⟩)))
        clear g3
        generalize base[q + k] = bA at cA e3
        generalize target[at_ + k] = bT at cT e3
        go_wp2
        refine wp_region_H (fun w'=>w'.cell? ⟨p,0,none⟩ = some (.slice (some ⟨gA,oA,none⟩) base.length cb) ∧ w'.cell? ⟨p,1,none⟩ = some (.slice (some ⟨gT,oT,none⟩) target.length ct) ∧ w'.cell? ⟨gA,oA + (q + k),none⟩ = some (.int .u8 (bA.toNat:Int)) ∧ w'.cell? ⟨gT,oT + (at_ + k),none⟩ = some (.int .u8 (bT.toNat:Int))) (by kernel_rfl) ⟨cc0,cc1,cA,cT⟩ (fun hF=>?_)
        refine wpAnyH_take (i:=0) (v:=?_) rfl (by kernel_rfl) (by kernel_rfl) (by kernel_rfl) (fun _ _ _ h=>h) (Or.inl ⟨by rfl,?_⟩) hF ?_
        rotate_left
        ·intro wS hSw;(try dsimp only at hSw);obtain ⟨s1,s2,s3,s4⟩:=hSw;(go_simp;try with_reducible rfl)
        try simp only [sA1,sA2,sA3,Act.put,sA4,sA5,sA6]
        refine wpAnyH_take (i:=1) (v:=?_) rfl (by kernel_rfl) (by kernel_rfl) (by kernel_rfl) (fun _ _ _ h=>h) (Or.inl ⟨by rfl,?_⟩) hF ?_
        rotate_left
        ·intro wS hSw;(try dsimp only at hSw);obtain ⟨s1,s2,s3,s4⟩:=hSw;(go_simp;try with_reducible rfl)
        try simp only [sA1,sA2,sA3,Act.put,sA4,sA5,sA6]
        refine wpAnyH_take (i:=2) (v:=?_) rfl (by kernel_rfl) (by kernel_rfl) (by kernel_rfl) (fun _ _ _ h=>h) (Or.inl ⟨by rfl,?_⟩) hF ?_
        rotate_left
        ·intro wS hSw;(try dsimp only at hSw);obtain ⟨s1,s2,s3,s4⟩:=hSw;(go_simp;try with_reducible rfl)
        try simp only [sA1,sA2,sA3,Act.put,sA4,sA5,sA6]
        refine wpAnyH_take (i:=3) (v:=?_) rfl (by kernel_rfl) (by kernel_rfl) (by kernel_rfl) (fun _ _ _ h=>h) (Or.inl ⟨by rfl,?_⟩) hF ?_
        rotate_left
        ·intro wS hSw;(try dsimp only at hSw);obtain ⟨s1,s2,s3,s4⟩:=hSw;(go_simp;try with_reducible rfl)
        try simp only [sA1,sA2,sA3,Act.put,sA4,sA5,sA6]
        refine wpAnyH_take (i:=4) (v:=?_) rfl (by kernel_rfl) (by kernel_rfl) (by kernel_rfl) (fun _ _ _ h=>h) (Or.inl ⟨by rfl,?_⟩) hF ?_
        rotate_left
        ·intro wS hSw;(try dsimp only at hSw);obtain ⟨s1,s2,s3,s4⟩:=hSw;(go_simp;try with_reducible rfl)
        try simp only [sA1,sA2,sA3,Act.put,sA4,sA5,sA6]
        refine wpAnyH_take (i:=5) (v:=?_) rfl (by kernel_rfl) (by kernel_rfl) (by kernel_rfl) (fun _ _ _ h=>h) (Or.inl ⟨by rfl,?_⟩) hF ?_
        rotate_left
        ·intro wS hSw;(try dsimp only at hSw);obtain ⟨s1,s2,s3,s4⟩:=hSw;(go_simp;try with_reducible rfl)
        try simp only [sA1,sA2,sA3,Act.put,sA4,sA5,sA6]
        refine wpAnyH_take (i:=6) (v:=?_) rfl (by kernel_rfl) (by kernel_rfl) (by kernel_rfl) (fun _ _ _ h=>h) (Or.inl ⟨by rfl,?_⟩) hF ?_
        rotate_left
        ·intro wS hSw;(try dsimp only at hSw);obtain ⟨s1,s2,s3,s4⟩:=hSw;(go_simp;try with_reducible rfl)
        try simp only [sA1,sA2,sA3,Act.put,sA4,sA5,sA6]
        refine wpAnyH_take (i:=7) (v:=?_) rfl (by kernel_rfl) (by kernel_rfl) (by kernel_rfl) (fun _ _ _ h=>h) (Or.inl ⟨by rfl,?_⟩) hF ?_
        rotate_left
        ·intro wS hSw;(try dsimp only at hSw);obtain ⟨s1,s2,s3,s4⟩:=hSw;(go_simp;try with_reducible rfl)
        try simp only [sA1,sA2,sA3,Act.put,sA4,sA5,sA6]
        refine wpAnyH_take (i:=8) (v:=?_) rfl (by kernel_rfl) (by kernel_rfl) (by kernel_rfl) (fun _ _ _ h=>h) (Or.inl ⟨by rfl,?_⟩) hF ?_
        rotate_left
        ·intro wS hSw;(try dsimp only at hSw);obtain ⟨s1,s2,s3,s4⟩:=hSw;(go_simp;try with_reducible rfl)
        try simp only [sA1,sA2,sA3,Act.put,sA4,sA5,sA6]
        refine wpAnyH_take (i:=9) (v:=?_) rfl (by kernel_rfl) (by kernel_rfl) (by kernel_rfl) (fun _ _ _ h=>h) (Or.inl ⟨by rfl,?_⟩) hF ?_
        rotate_left
        ·intro wS hSw;(try dsimp only at hSw);obtain ⟨s1,s2,s3,s4⟩:=hSw;(go_simp;try with_reducible rfl)
        try simp only [sA1,sA2,sA3,Act.put,sA4,sA5,sA6]
        refine wpAnyH_take (i:=10) (v:=?_) rfl (by kernel_rfl) (by kernel_rfl) (by kernel_rfl) (fun _ _ _ h=>h) (Or.inl ⟨by rfl,?_⟩) hF ?_
        rotate_left
        ·intro wS hSw;(try dsimp only at hSw);obtain ⟨s1,s2,s3,s4⟩:=hSw;(go_simp;try with_reducible rfl)
        try simp only [sA1,sA2,sA3,Act.put,sA4,sA5,sA6]
        refine wpAnyH_take (i:=11) (v:=?_) rfl (by kernel_rfl) (by kernel_rfl) (by kernel_rfl) (fun _ _ _ h=>h) (Or.inl ⟨by rfl,?_⟩) hF ?_
        rotate_left
        ·intro wS hSw;(try dsimp only at hSw);obtain ⟨s1,s2,s3,s4⟩:=hSw;(go_simp;try with_reducible rfl)
        try simp only [sA1,sA2,sA3,Act.put,sA4,sA5,sA6]
        refine wpAnyH_take (i:=12) (v:=?_) rfl (by kernel_rfl) (by kernel_rfl) (by kernel_rfl) (fun _ _ _ h=>h) (Or.inl ⟨by rfl,?_⟩) hF ?_
        rotate_left
        ·intro wS hSw;(try dsimp only at hSw);obtain ⟨s1,s2,s3,s4⟩:=hSw;(go_simp;try with_reducible rfl)
        try simp only [sA1,sA2,sA3,Act.put,sA4,sA5,sA6]
        refine wpAnyH_take (i:=13) (v:=?_) rfl (by kernel_rfl) (by kernel_rfl) (by kernel_rfl) (fun _ _ _ h=>h) (Or.inl ⟨by rfl,?_⟩) hF ?_
        rotate_left
        ·intro wS hSw;(try dsimp only at hSw);obtain ⟨s1,s2,s3,s4⟩:=hSw;(go_simp;try with_reducible rfl)
        try simp only [sA1,sA2,sA3,Act.put,sA4,sA5,sA6]
        refine wpAnyH_take (i:=14) (v:=?_) rfl (by kernel_rfl) (by kernel_rfl) (by kernel_rfl) (fun _ _ _ h=>h) (Or.inl ⟨by rfl,?_⟩) hF ?_
        rotate_left
        ·intro wS hSw;(try dsimp only at hSw);obtain ⟨s1,s2,s3,s4⟩:=hSw;(go_simp;try with_reducible rfl)
        try simp only [sA1,sA2,sA3,Act.put,sA4,sA5,sA6]
        refine wpAnyH_take (i:=15) (v:=?_) rfl (by kernel_rfl) (by kernel_rfl) (by kernel_rfl) (fun _ _ _ h=>h) (Or.inl ⟨by rfl,?_⟩) hF ?_
        rotate_left
        ·intro wS hSw;(try dsimp only at hSw);obtain ⟨s1,s2,s3,s4⟩:=hSw;(go_simp;try with_reducible rfl)
        try simp only [sA1,sA2,sA3,Act.put,sA4,sA5,sA6]
        refine wpAnyH_take (i:=16) (v:=?_) rfl (by kernel_rfl) (by kernel_rfl) (by kernel_rfl) (fun _ _ _ h=>h) (Or.inl ⟨by rfl,?_⟩) hF ?_
        rotate_left
        ·intro wS hSw;(try dsimp only at hSw);obtain ⟨s1,s2,s3,s4⟩:=hSw;(go_simp;try with_reducible rfl)
        try simp only [sA1,sA2,sA3,Act.put,sA4,sA5,sA6]
        refine wpAnyH_take (i:=17) (v:=?_) rfl (by kernel_rfl) (by kernel_rfl) (by kernel_rfl) (fun _ _ _ h=>h) (Or.inl ⟨by rfl,?_⟩) hF ?_
        rotate_left
        ·intro wS hSw;(try dsimp only at hSw);obtain ⟨s1,s2,s3,s4⟩:=hSw;(go_simp;try with_reducible rfl)
        try simp only [sA1,sA2,sA3,Act.put,sA4,sA5,sA6]
        refine wpAnyH_take (i:=18) (v:=?_) rfl (by kernel_rfl) (by kernel_rfl) (by kernel_rfl) (fun _ _ _ h=>h) (Or.inl ⟨by rfl,?_⟩) hF ?_
        rotate_left
        ·intro wS hSw;(try dsimp only at hSw);obtain ⟨s1,s2,s3,s4⟩:=hSw;(go_simp;try with_reducible rfl)
        try simp only [sA1,sA2,sA3,Act.put,sA4,sA5,sA6]
        refine wpAnyH_take (i:=19) (v:=?_) rfl (by kernel_rfl) (by kernel_rfl) (by kernel_rfl) (fun _ _ _ h=>h) (Or.inl ⟨by rfl,?_⟩) hF ?_
        rotate_left
        ·intro wS hSw;(try dsimp only at hSw);obtain ⟨s1,s2,s3,s4⟩:=hSw;(go_simp;try with_reducible rfl)
        try simp only [sA1,sA2,sA3,Act.put,sA4,sA5,sA6]
        refine wpAnyH_take (i:=20) (v:=?_) rfl (by kernel_rfl) (by kernel_rfl) (by kernel_rfl) (fun _ _ _ h=>h) (Or.inl ⟨by rfl,?_⟩) hF ?_
        rotate_left
        ·intro wS hSw;(try dsimp only at hSw);obtain ⟨s1,s2,s3,s4⟩:=hSw;(go_simp;try with_reducible rfl)
        try simp only [sA1,sA2,sA3,Act.put,sA4,sA5,sA6]
        refine wpAnyH_take (i:=21) (v:=?_) rfl (by kernel_rfl) (by kernel_rfl) (by kernel_rfl) (fun _ _ _ h=>h) (Or.inl ⟨by rfl,?_⟩) hF ?_
        rotate_left
        ·intro wS hSw;(try dsimp only at hSw);obtain ⟨s1,s2,s3,s4⟩:=hSw;(go_simp;try with_reducible rfl)
        try simp only [sA1,sA2,sA3,Act.put,sA4,sA5,sA6]
        refine wpAnyH_take (i:=22) (v:=?_) rfl (by kernel_rfl) (by kernel_rfl) (by kernel_rfl) (fun _ _ _ h=>h) (Or.inl ⟨by rfl,?_⟩) hF ?_
        rotate_left
        ·intro wS hSw;(try dsimp only at hSw);obtain ⟨s1,s2,s3,s4⟩:=hSw;(go_simp;try with_reducible rfl)
        try simp only [sA1,sA2,sA3,Act.put,sA4,sA5,sA6]
        refine wpAnyH_take (i:=23) (v:=?_) rfl (by kernel_rfl) (by kernel_rfl) (by kernel_rfl) (fun _ _ _ h=>h) (Or.inl ⟨by rfl,?_⟩) hF ?_
        rotate_left
        ·intro wS hSw;(try dsimp only at hSw);obtain ⟨s1,s2,s3,s4⟩:=hSw;(go_simp;try with_reducible rfl)
        try simp only [sA1,sA2,sA3,Act.put,sA4,sA5,sA6]
        refine wpAnyH_take (i:=24) (v:=?_) rfl (by kernel_rfl) (by kernel_rfl) (by kernel_rfl) (fun _ _ _ h=>h) (Or.inl ⟨by rfl,?_⟩) hF ?_
        rotate_left
        ·intro wS hSw;(try dsimp only at hSw);obtain ⟨s1,s2,s3,s4⟩:=hSw;(go_simp;try with_reducible rfl)
        try simp only [sA1,sA2,sA3,Act.put,sA4,sA5,sA6]
        refine wpAnyH_take (i:=25) (v:=?_) rfl (by kernel_rfl) (by kernel_rfl) (by kernel_rfl) (fun _ _ _ h=>h) (Or.inl ⟨by rfl,?_⟩) hF ?_
        rotate_left
        ·intro wS hSw;(try dsimp only at hSw);obtain ⟨s1,s2,s3,s4⟩:=hSw;(go_simp;try with_reducible rfl)
        try simp only [sA1,sA2,sA3,Act.put,sA4,sA5,sA6]
        refine wpAnyH_take (i:=26) (v:=?_) rfl (by kernel_rfl) (by kernel_rfl) (by kernel_rfl) (fun _ _ _ h=>h) (Or.inl ⟨by rfl,?_⟩) hF ?_
        rotate_left
        ·intro wS hSw;(try dsimp only at hSw);obtain ⟨s1,s2,s3,s4⟩:=hSw;(go_simp;try with_reducible rfl)
        try simp only [sA1,sA2,sA3,Act.put,sA4,sA5,sA6]
        refine wpAnyH_take (i:=27) (v:=?_) rfl (by kernel_rfl) (by kernel_rfl) (by kernel_rfl) (fun _ _ _ h=>h) (Or.inl ⟨by rfl,?_⟩) hF ?_
        rotate_left
        ·intro wS hSw;(try dsimp only at hSw);obtain ⟨s1,s2,s3,s4⟩:=hSw;(go_simp;try with_reducible rfl)
        try simp only [sA1,sA2,sA3,Act.put,sA4,sA5,sA6]
        refine wpAnyH_take (i:=28) (v:=?_) rfl (by kernel_rfl) (by kernel_rfl) (by kernel_rfl) (fun _ _ _ h=>h) (Or.inl ⟨by rfl,?_⟩) hF ?_
        rotate_left
        ·intro wS hSw;(try dsimp only at hSw);obtain ⟨s1,s2,s3,s4⟩:=hSw;(go_simp;try with_reducible rfl)
        try simp only [sA1,sA2,sA3,Act.put,sA4,sA5,sA6]
        refine wpAnyH_take (i:=29) (v:=?_) rfl (by kernel_rfl) (by kernel_rfl) (by kernel_rfl) (fun _ _ _ h=>h) (Or.inl ⟨by rfl,?_⟩) hF ?_
        rotate_left
        ·intro wS hSw;(try dsimp only at hSw);obtain ⟨s1,s2,s3,s4⟩:=hSw;(go_simp;try with_reducible rfl)
        try simp only [sA1,sA2,sA3,Act.put,sA4,sA5,sA6]
        refine wpAnyH_take (i:=30) (v:=?_) rfl (by kernel_rfl) (by kernel_rfl) (by kernel_rfl) (fun _ _ _ h=>h) (Or.inl ⟨by rfl,?_⟩) hF ?_
        rotate_left
        ·intro wS hSw;(try dsimp only at hSw);obtain ⟨s1,s2,s3,s4⟩:=hSw;(go_simp;try with_reducible rfl)
        try simp only [sA1,sA2,sA3,Act.put,sA4,sA5,sA6]
        refine wpAnyH_take (i:=31) (v:=?_) rfl (by kernel_rfl) (by kernel_rfl) (by kernel_rfl) (fun _ _ _ h=>h) (Or.inl ⟨by rfl,?_⟩) hF ?_
        rotate_left
        ·intro wS hSw;(try dsimp only at hSw);obtain ⟨s1,s2,s3,s4⟩:=hSw;(go_simp;try with_reducible rfl)
        try simp only [sA1,sA2,sA3,Act.put,sA4,sA5,sA6]
        refine wpAnyH_take (i:=32) (v:=?_) rfl (by kernel_rfl) (by kernel_rfl) (by kernel_rfl) (fun _ _ _ h=>h) (Or.inl ⟨by rfl,?_⟩) hF ?_
        rotate_left
        ·intro wS hSw;(try dsimp only at hSw);obtain ⟨s1,s2,s3,s4⟩:=hSw;(go_simp;try with_reducible rfl)
        try simp only [sA1,sA2,sA3,Act.put,sA4,sA5,sA6]
        refine wpAnyH_take (i:=33) (v:=?_) rfl (by kernel_rfl) (by kernel_rfl) (by kernel_rfl) (fun _ _ _ h=>h) (Or.inl ⟨by rfl,?_⟩) hF ?_
        rotate_left
        ·intro wS hSw;(try dsimp only at hSw);obtain ⟨s1,s2,s3,s4⟩:=hSw;(go_simp;try with_reducible rfl)
        try simp only [sA1,sA2,sA3,Act.put,sA4,sA5,sA6]
        refine wpAnyH_take (i:=34) (v:=?_) rfl (by kernel_rfl) (by kernel_rfl) (by kernel_rfl) (fun _ _ _ h=>h) (Or.inl ⟨by rfl,?_⟩) hF ?_
        rotate_left
        ·intro wS hSw;(try dsimp only at hSw);obtain ⟨s1,s2,s3,s4⟩:=hSw;(go_simp;try with_reducible rfl)
        try simp only [sA1,sA2,sA3,Act.put,sA4,sA5,sA6]
        refine wpAnyH_take (i:=35) (v:=?_) rfl (by kernel_rfl) (by kernel_rfl) (by kernel_rfl) (fun _ _ _ h=>h) (Or.inl ⟨by rfl,?_⟩) hF ?_
        rotate_left
        ·intro wS hSw;(try dsimp only at hSw);obtain ⟨s1,s2,s3,s4⟩:=hSw;(go_simp;try with_reducible rfl)
        try simp only [sA1,sA2,sA3,Act.put,sA4,sA5,sA6]
        refine wpAnyH_take (i:=36) (v:=?_) rfl (by kernel_rfl) (by kernel_rfl) (by kernel_rfl) (fun _ _ _ h=>h) (Or.inl ⟨by rfl,?_⟩) hF ?_
        rotate_left
        ·intro wS hSw;(try dsimp only at hSw);obtain ⟨s1,s2,s3,s4⟩:=hSw;(go_simp;try with_reducible rfl)
        try simp only [sA1,sA2,sA3,Act.put,sA4,sA5,sA6]
        refine wpAnyH_take (i:=37) (v:=?_) rfl (by kernel_rfl) (by kernel_rfl) (by kernel_rfl) (fun _ _ _ h=>h) (Or.inl ⟨by rfl,?_⟩) hF ?_
        rotate_left
        ·intro wS hSw;(try dsimp only at hSw);obtain ⟨s1,s2,s3,s4⟩:=hSw;(go_simp;try with_reducible rfl)
        try simp only [sA1,sA2,sA3,Act.put,sA4,sA5,sA6]
        refine wpAnyH_take (i:=38) (v:=?_) rfl (by kernel_rfl) (by kernel_rfl) (by kernel_rfl) (fun _ _ _ h=>h) (Or.inl ⟨by rfl,?_⟩) hF ?_
        rotate_left
        ·intro wS hSw;(try dsimp only at hSw);obtain ⟨s1,s2,s3,s4⟩:=hSw;(go_simp;try with_reducible rfl)
        try simp only [sA1,sA2,sA3,Act.put,sA4,sA5,sA6]
        refine wpAnyH_take (i:=39) (v:=?_) rfl (by kernel_rfl) (by kernel_rfl) (by kernel_rfl) (fun _ _ _ h=>h) (Or.inl ⟨by rfl,?_⟩) hF ?_
        rotate_left
        ·intro wS hSw;(try dsimp only at hSw);obtain ⟨s1,s2,s3,s4⟩:=hSw;(go_simp;try with_reducible rfl)
        try simp only [sA1,sA2,sA3,Act.put,sA4,sA5,sA6]
        refine wpAnyH_take (i:=40) (v:=?_) rfl (by kernel_rfl) (by kernel_rfl) (by kernel_rfl) (fun _ _ _ h=>h) (Or.inl ⟨by rfl,?_⟩) hF ?_
        rotate_left
        ·intro wS hSw;(try dsimp only at hSw);obtain ⟨s1,s2,s3,s4⟩:=hSw;(go_simp;try with_reducible rfl)
        try simp only [sA1,sA2,sA3,Act.put,sA4,sA5,sA6]
        refine wpAnyH_done (by kernel_rfl) ?_ _
        clear hF
        go_wp2
        all_goals
         have hk':8 + cpl (base.drop (q + 8)) (target.drop (at_ + 8)) = k:=by rw [HCE.out,HZ.out];omega
         go_roundg (ps.length - (i + 1))
         case measure=>omega
         case rel =>
          refine ⟨i + 1,by omega,rfl,by go_num,?_,?_,hW.drew⟩
          all_goals
           rw [HF.out]
           unfold lgF
           rw [hk']
           first | rw [if_pos (by omega)] | rw [if_neg (by omega)]
      ·have d2:decide ((at_:Int) + (k:Int) < (target.length:Int)) = false:=by simp;omega
       have HZ:=Lib.hid (cpl_stop base target (q + k) (at_ + k) (.inr (.inl (by omega))))
       go_wp2
       refine wp_region_H (fun w'=>w'.cell? ⟨p,0,none⟩ = some (.slice A base.length cb) ∧ w'.cell? ⟨p,1,none⟩ = some (.slice T target.length ct)) (by kernel_rfl) ⟨cc0,cc1⟩ (fun hF=>?_)
       refine wpAnyH_take (i:=0) (v:=?_) rfl (by kernel_rfl) (by kernel_rfl) (by kernel_rfl) (fun _ _ _ h=>h) (Or.inl ⟨by rfl,?_⟩) hF ?_
       rotate_left
       ·intro wS hSw;(try dsimp only at hSw);obtain ⟨s1,s2⟩:=hSw;(go_simp;try with_reducible rfl)
       try simp only [sA1,sA2,sA3,Act.put,sA4,sA5,sA6]
       refine wpAnyH_take (i:=1) (v:=?_) rfl (by kernel_rfl) (by kernel_rfl) (by kernel_rfl) (fun _ _ _ h=>h) (Or.inl ⟨by rfl,?_⟩) hF ?_
       rotate_left
       ·intro wS hSw;(try dsimp only at hSw);obtain ⟨s1,s2⟩:=hSw;(go_simp;try with_reducible rfl)
       try simp only [sA1,sA2,sA3,Act.put,sA4,sA5,sA6]
       refine wpAnyH_take (i:=2) (v:=?_) rfl (by kernel_rfl) (by kernel_rfl) (by kernel_rfl) (fun _ _ _ h=>h) (Or.inl ⟨by rfl,?_⟩) hF ?_
       rotate_left
       ·intro wS hSw;(try dsimp only at hSw);obtain ⟨s1,s2⟩:=hSw;(go_simp;try with_reducible rfl)
       try simp only [sA1,sA2,sA3,Act.put,sA4,sA5,sA6]
       refine wpAnyH_take (i:=3) (v:=?_) rfl (by kernel_rfl) (by kernel_rfl) (by kernel_rfl) (fun _ _ _ h=>h) (Or.inl ⟨by rfl,?_⟩) hF ?_
       rotate_left
       ·intro wS hSw;(try dsimp only at hSw);obtain ⟨s1,s2⟩:=hSw;(go_simp;try with_reducible rfl)
       try simp only [sA1,sA2,sA3,Act.put,sA4,sA5,sA6]
       refine wpAnyH_take (i:=4) (v:=?_) rfl (by kernel_rfl) (by kernel_rfl) (by kernel_rfl) (fun _ _ _ h=>h) (Or.inl ⟨by rfl,?_⟩) hF ?_
       rotate_left
       ·intro wS hSw;(try dsimp only at hSw);obtain ⟨s1,s2⟩:=hSw;(go_simp;try with_reducible rfl)
       try simp only [sA1,sA2,sA3,Act.put,sA4,sA5,sA6]
       refine wpAnyH_take (i:=5) (v:=?_) rfl (by kernel_rfl) (by kernel_rfl) (by kernel_rfl) (fun _ _ _ h=>h) (Or.inl ⟨by rfl,?_⟩) hF ?_
       rotate_left
       ·intro wS hSw;(try dsimp only at hSw);obtain ⟨s1,s2⟩:=hSw;(go_simp;try with_reducible rfl)
       try simp only [sA1,sA2,sA3,Act.put,sA4,sA5,sA6]
       refine wpAnyH_take (i:=6) (v:=?_) rfl (by kernel_rfl) (by kernel_rfl) (by kernel_rfl) (fun _ _ _ h=>h) (Or.inl ⟨by rfl,?_⟩) hF ?_
       rotate_left
       ·intro wS hSw;(try dsimp only at hSw);obtain ⟨s1,s2⟩:=hSw;(go_simp;try with_reducible rfl)
       try simp only [sA1,sA2,sA3,Act.put,sA4,sA5,sA6]
       refine wpAnyH_take (i:=7) (v:=?_) rfl (by kernel_rfl) (by kernel_rfl) (by kernel_rfl) (fun _ _ _ h=>h) (Or.inl ⟨by rfl,?_⟩) hF ?_
       rotate_left
       ·intro wS hSw;(try dsimp only at hSw);obtain ⟨s1,s2⟩:=hSw;(go_simp;try with_reducible rfl)
       try simp only [sA1,sA2,sA3,Act.put,sA4,sA5,sA6]
       refine wpAnyH_take (i:=8) (v:=?_) rfl (by kernel_rfl) (by kernel_rfl) (by kernel_rfl) (fun _ _ _ h=>h) (Or.inl ⟨by rfl,?_⟩) hF ?_
       rotate_left
       ·intro wS hSw;(try dsimp only at hSw);obtain ⟨s1,s2⟩:=hSw;(go_simp;try with_reducible rfl)
       try simp only [sA1,sA2,sA3,Act.put,sA4,sA5,sA6]
       refine wpAnyH_take (i:=9) (v:=?_) rfl (by kernel_rfl) (by kernel_rfl) (by kernel_rfl) (fun _ _ _ h=>h) (Or.inl ⟨by rfl,?_⟩) hF ?_
       rotate_left
       ·intro wS hSw;(try dsimp only at hSw);obtain ⟨s1,s2⟩:=hSw;(go_simp;try with_reducible rfl)
       try simp only [sA1,sA2,sA3,Act.put,sA4,sA5,sA6]
       refine wpAnyH_take (i:=10) (v:=?_) rfl (by kernel_rfl) (by kernel_rfl) (by kernel_rfl) (fun _ _ _ h=>h) (Or.inl ⟨by rfl,?_⟩) hF ?_
       rotate_left
       ·intro wS hSw;(try dsimp only at hSw);obtain ⟨s1,s2⟩:=hSw;(go_simp;try with_reducible rfl)
       try simp only [sA1,sA2,sA3,Act.put,sA4,sA5,sA6]
       refine wpAnyH_take (i:=11) (v:=?_) rfl (by kernel_rfl) (by kernel_rfl) (by kernel_rfl) (fun _ _ _ h=>h) (Or.inl ⟨by rfl,?_⟩) hF ?_
       rotate_left
       ·intro wS hSw;(try dsimp only at hSw);obtain ⟨s1,s2⟩:=hSw;(go_simp;try with_reducible rfl)
       try simp only [sA1,sA2,sA3,Act.put,sA4,sA5,sA6]
       refine wpAnyH_take (i:=12) (v:=?_) rfl (by kernel_rfl) (by kernel_rfl) (by kernel_rfl) (fun _ _ _ h=>h) (Or.inl ⟨by rfl,?_⟩) hF ?_
       rotate_left
       ·intro wS hSw;(try dsimp only at hSw);obtain ⟨s1,s2⟩:=hSw;(go_simp;try with_reducible rfl)
       try simp only [sA1,sA2,sA3,Act.put,sA4,sA5,sA6]
       refine wpAnyH_take (i:=13) (v:=?_) rfl (by kernel_rfl) (by kernel_rfl) (by kernel_rfl) (fun _ _ _ h=>h) (Or.inl ⟨by rfl,?_⟩) hF ?_
       rotate_left
       ·intro wS hSw;(try dsimp only at hSw);obtain ⟨s1,s2⟩:=hSw;(go_simp;try with_reducible rfl)
       try simp only [sA1,sA2,sA3,Act.put,sA4,sA5,sA6]
       refine wpAnyH_take (i:=14) (v:=?_) rfl (by kernel_rfl) (by kernel_rfl) (by kernel_rfl) (fun _ _ _ h=>h) (Or.inl ⟨by rfl,?_⟩) hF ?_
       rotate_left
       ·intro wS hSw;(try dsimp only at hSw);obtain ⟨s1,s2⟩:=hSw;(go_simp;try with_reducible rfl)
       try simp only [sA1,sA2,sA3,Act.put,sA4,sA5,sA6]
       refine wpAnyH_take (i:=15) (v:=?_) rfl (by kernel_rfl) (by kernel_rfl) (by kernel_rfl) (fun _ _ _ h=>h) (Or.inl ⟨by rfl,?_⟩) hF ?_
       rotate_left
       ·intro wS hSw;(try dsimp only at hSw);obtain ⟨s1,s2⟩:=hSw;(go_simp;try with_reducible rfl)
       try simp only [sA1,sA2,sA3,Act.put,sA4,sA5,sA6]
       refine wpAnyH_take (i:=16) (v:=?_) rfl (by kernel_rfl) (by kernel_rfl) (by kernel_rfl) (fun _ _ _ h=>h) (Or.inl ⟨by rfl,?_⟩) hF ?_
       rotate_left
       ·intro wS hSw;(try dsimp only at hSw);obtain ⟨s1,s2⟩:=hSw;(go_simp;try with_reducible rfl)
       try simp only [sA1,sA2,sA3,Act.put,sA4,sA5,sA6]
       refine wpAnyH_take (i:=17) (v:=?_) rfl (by kernel_rfl) (by kernel_rfl) (by kernel_rfl) (fun _ _ _ h=>h) (Or.inl ⟨by rfl,?_⟩) hF ?_
       rotate_left
       ·intro wS hSw;(try dsimp only at hSw);obtain ⟨s1,s2⟩:=hSw;(go_simp;try with_reducible rfl)
       try simp only [sA1,sA2,sA3,Act.put,sA4,sA5,sA6]
       refine wpAnyH_take (i:=18) (v:=?_) rfl (by kernel_rfl) (by kernel_rfl) (by kernel_rfl) (fun _ _ _ h=>h) (Or.inl ⟨by rfl,?_⟩) hF ?_
       rotate_left
       ·intro wS hSw;(try dsimp only at hSw);obtain ⟨s1,s2⟩:=hSw;(go_simp;try with_reducible rfl)
       try simp only [sA1,sA2,sA3,Act.put,sA4,sA5,sA6]
       refine wpAnyH_take (i:=19) (v:=?_) rfl (by kernel_rfl) (by kernel_rfl) (by kernel_rfl) (fun _ _ _ h=>h) (Or.inl ⟨by rfl,?_⟩) hF ?_
       rotate_left
       ·intro wS hSw;(try dsimp only at hSw);obtain ⟨s1,s2⟩:=hSw;(go_simp;try with_reducible rfl)
       try simp only [sA1,sA2,sA3,Act.put,sA4,sA5,sA6]
       refine wpAnyH_take (i:=20) (v:=?_) rfl (by kernel_rfl) (by kernel_rfl) (by kernel_rfl) (fun _ _ _ h=>h) (Or.inl ⟨by rfl,?_⟩) hF ?_
       rotate_left
       ·intro wS hSw;(try dsimp only at hSw);obtain ⟨s1,s2⟩:=hSw;(go_simp;try with_reducible rfl)
       try simp only [sA1,sA2,sA3,Act.put,sA4,sA5,sA6]
       refine wpAnyH_take (i:=21) (v:=undef) rfl (by kernel_rfl) (by kernel_rfl) (by kernel_rfl) (fun _ _ _ h=>h) (Or.inr ⟨by rfl,rfl⟩) hF ?_
       try simp only [sA1,sA2,sA3,Act.put,sA4,sA5,sA6]
       refine wpAnyH_take (i:=22) (v:=undef) rfl (by kernel_rfl) (by kernel_rfl) (by kernel_rfl) (fun _ _ _ h=>h) (Or.inr ⟨by rfl,rfl⟩) hF ?_
       try simp only [sA1,sA2,sA3,Act.put,sA4,sA5,sA6]
       refine wpAnyH_take (i:=23) (v:=undef) rfl (by kernel_rfl) (by kernel_rfl) (by kernel_rfl) (fun _ _ _ h=>h) (Or.inr ⟨by rfl,rfl⟩) hF ?_
       try simp only [sA1,sA2,sA3,Act.put,sA4,sA5,sA6]
       refine wpAnyH_take (i:=24) (v:=undef) rfl (by kernel_rfl) (by kernel_rfl) (by kernel_rfl) (fun _ _ _ h=>h) (Or.inr ⟨by rfl,rfl⟩) hF ?_
       try simp only [sA1,sA2,sA3,Act.put,sA4,sA5,sA6]
       refine wpAnyH_take (i:=25) (v:=undef) rfl (by kernel_rfl) (by kernel_rfl) (by kernel_rfl) (fun _ _ _ h=>h) (Or.inr ⟨by rfl,rfl⟩) hF ?_
       try simp only [sA1,sA2,sA3,Act.put,sA4,sA5,sA6]
       refine wpAnyH_take (i:=26) (v:=undef) rfl (by kernel_rfl) (by kernel_rfl) (by kernel_rfl) (fun _ _ _ h=>h) (Or.inr ⟨by rfl,rfl⟩) hF ?_
       try simp only [sA1,sA2,sA3,Act.put,sA4,sA5,sA6]
       refine wpAnyH_take (i:=27) (v:=undef) rfl (by kernel_rfl) (by kernel_rfl) (by kernel_rfl) (fun _ _ _ h=>h) (Or.inr ⟨by rfl,rfl⟩) hF ?_
       try simp only [sA1,sA2,sA3,Act.put,sA4,sA5,sA6]
       refine wpAnyH_take (i:=28) (v:=undef) rfl (by kernel_rfl) (by kernel_rfl) (by kernel_rfl) (fun _ _ _ h=>h) (Or.inr ⟨by rfl,rfl⟩) hF ?_
       try simp only [sA1,sA2,sA3,Act.put,sA4,sA5,sA6]
       refine wpAnyH_take (i:=29) (v:=undef) rfl (by kernel_rfl) (by kernel_rfl) (by kernel_rfl) (fun _ _ _ h=>h) (Or.inr ⟨by rfl,rfl⟩) hF ?_
       try simp only [sA1,sA2,sA3,Act.put,sA4,sA5,sA6]
       refine wpAnyH_take (i:=30) (v:=undef) rfl (by kernel_rfl) (by kernel_rfl) (by kernel_rfl) (fun _ _ _ h=>h) (Or.inr ⟨by rfl,rfl⟩) hF ?_
       try simp only [sA1,sA2,sA3,Act.put,sA4,sA5,sA6]
       refine wpAnyH_take (i:=31) (v:=undef) rfl (by kernel_rfl) (by kernel_rfl) (by kernel_rfl) (fun _ _ _ h=>h) (Or.inr ⟨by rfl,rfl⟩) hF ?_
       try simp only [sA1,sA2,sA3,Act.put,sA4,sA5,sA6]
       refine wpAnyH_take (i:=32) (v:=undef) rfl (by kernel_rfl) (by kernel_rfl) (by kernel_rfl) (fun _ _ _ h=>h) (Or.inr ⟨by rfl,rfl⟩) hF ?_
       try simp only [sA1,sA2,sA3,Act.put,sA4,sA5,sA6]
       refine wpAnyH_take (i:=33) (v:=undef) rfl (by kernel_rfl) (by kernel_rfl) (by kernel_rfl) (fun _ _ _ h=>h) (Or.inr ⟨by rfl,rfl⟩) hF ?_
       try simp only [sA1,sA2,sA3,Act.put,sA4,sA5,sA6]
       refine wpAnyH_take (i:=34) (v:=undef) rfl (by kernel_rfl) (by kernel_rfl) (by kernel_rfl) (fun _ _ _ h=>h) (Or.inr ⟨by rfl,rfl⟩) hF ?_
       try simp only [sA1,sA2,sA3,Act.put,sA4,sA5,sA6]
       refine wpAnyH_take (i:=35) (v:=undef) rfl (by kernel_rfl) (by kernel_rfl) (by kernel_rfl) (fun _ _ _ h=>h) (Or.inr ⟨by rfl,rfl⟩) hF ?_
       try simp only [sA1,sA2,sA3,Act.put,sA4,sA5,sA6]
       refine wpAnyH_take (i:=36) (v:=undef) rfl (by kernel_rfl) (by kernel_rfl) (by kernel_rfl) (fun _ _ _ h=>h) (Or.inr ⟨by rfl,rfl⟩) hF ?_
       try simp only [sA1,sA2,sA3,Act.put,sA4,sA5,sA6]
       refine wpAnyH_take (i:=37) (v:=undef) rfl (by kernel_rfl) (by kernel_rfl) (by kernel_rfl) (fun _ _ _ h=>h) (Or.inr ⟨by rfl,rfl⟩) hF ?_
       try simp only [sA1,sA2,sA3,Act.put,sA4,sA5,sA6]
       refine wpAnyH_take (i:=38) (v:=undef) rfl (by kernel_rfl) (by kernel_rfl) (by kernel_rfl) (fun _ _ _ h=>h) (Or.inr ⟨by rfl,rfl⟩) hF ?_
       try simp only [sA1,sA2,sA3,Act.put,sA4,sA5,sA6]
       refine wpAnyH_take (i:=39) (v:=undef) rfl (by kernel_rfl) (by kernel_rfl) (by kernel_rfl) (fun _ _ _ h=>h) (Or.inr ⟨by rfl,rfl⟩) hF ?_
       try simp only [sA1,sA2,sA3,Act.put,sA4,sA5,sA6]
       refine wpAnyH_take (i:=40) (v:=?_) rfl (by kernel_rfl) (by kernel_rfl) (by kernel_rfl) (fun _ _ _ h=>h) (Or.inl ⟨by rfl,?_⟩) hF ?_
       rotate_left
       ·intro wS hSw;(try dsimp only at hSw);obtain ⟨s1,s2⟩:=hSw;(go_simp;try with_reducible rfl)
       try simp only [sA1,sA2,sA3,Act.put,sA4,sA5,sA6]
       refine wpAnyH_done (by kernel_rfl) ?_ _
       clear hF
       go_wp2
       all_goals
        have hk':8 + cpl (base.drop (q + 8)) (target.drop (at_ + 8)) = k:=by rw [HCE.out,HZ.out];omega
        go_roundg (ps.length - (i + 1))
        case measure=>omega
        case rel =>
         refine ⟨i + 1,by omega,rfl,by go_num,?_,?_,hW.drew⟩
         all_goals
          rw [HF.out]
          unfold lgF
          rw [hk']
          first | rw [if_pos (by omega)] | rw [if_neg (by omega)]
     ·have d1:decide ((q:Int) + (k:Int) < (base.length:Int)) = false:=by simp;omega
      have HZ:=Lib.hid (cpl_stop base target (q + k) (at_ + k) (.inl (by omega)))
      go_wp2
      refine wp_region_H (fun w'=>w'.cell? ⟨p,0,none⟩ = some (.slice A base.length cb) ∧ w'.cell? ⟨p,1,none⟩ = some (.slice T target.length ct)) (by kernel_rfl) ⟨cc0,cc1⟩ (fun hF=>?_)
      refine wpAnyH_take (i:=0) (v:=?_) rfl (by kernel_rfl) (by kernel_rfl) (by kernel_rfl) (fun _ _ _ h=>h) (Or.inl ⟨by rfl,?_⟩) hF ?_
      rotate_left
      ·intro wS hSw;(try dsimp only at hSw);obtain ⟨s1,s2⟩:=hSw;(go_simp;try with_reducible rfl)
      try simp only [sA1,sA2,sA3,Act.put,sA4,sA5,sA6]
      refine wpAnyH_take (i:=1) (v:=?_) rfl (by kernel_rfl) (by kernel_rfl) (by kernel_rfl) (fun _ _ _ h=>h) (Or.inl ⟨by rfl,?_⟩) hF ?_
      rotate_left
      ·intro wS hSw;(try dsimp only at hSw);obtain ⟨s1,s2⟩:=hSw;(go_simp;try with_reducible rfl)
      try simp only [sA1,sA2,sA3,Act.put,sA4,sA5,sA6]
      refine wpAnyH_take (i:=2) (v:=?_) rfl (by kernel_rfl) (by kernel_rfl) (by kernel_rfl) (fun _ _ _ h=>h) (Or.inl ⟨by rfl,?_⟩) hF ?_
      rotate_left
      ·intro wS hSw;(try dsimp only at hSw);obtain ⟨s1,s2⟩:=hSw;(go_simp;try with_reducible rfl)
      try simp only [sA1,sA2,sA3,Act.put,sA4,sA5,sA6]
      refine wpAnyH_take (i:=3) (v:=?_) rfl (by kernel_rfl) (by kernel_rfl) (by kernel_rfl) (fun _ _ _ h=>h) (Or.inl ⟨by rfl,?_⟩) hF ?_
      rotate_left
      ·intro wS hSw;(try dsimp only at hSw);obtain ⟨s1,s2⟩:=hSw;(go_simp;try with_reducible rfl)
      try simp only [sA1,sA2,sA3,Act.put,sA4,sA5,sA6]
      refine wpAnyH_take (i:=4) (v:=?_) rfl (by kernel_rfl) (by kernel_rfl) (by kernel_rfl) (fun _ _ _ h=>h) (Or.inl ⟨by rfl,?_⟩) hF ?_
      rotate_left
      ·intro wS hSw;(try dsimp only at hSw);obtain ⟨s1,s2⟩:=hSw;(go_simp;try with_reducible rfl)
      try simp only [sA1,sA2,sA3,Act.put,sA4,sA5,sA6]
      refine wpAnyH_take (i:=5) (v:=?_) rfl (by kernel_rfl) (by kernel_rfl) (by kernel_rfl) (fun _ _ _ h=>h) (Or.inl ⟨by rfl,?_⟩) hF ?_
      rotate_left
      ·intro wS hSw;(try dsimp only at hSw);obtain ⟨s1,s2⟩:=hSw;(go_simp;try with_reducible rfl)
      try simp only [sA1,sA2,sA3,Act.put,sA4,sA5,sA6]
      refine wpAnyH_take (i:=6) (v:=?_) rfl (by kernel_rfl) (by kernel_rfl) (by kernel_rfl) (fun _ _ _ h=>h) (Or.inl ⟨by rfl,?_⟩) hF ?_
      rotate_left
      ·intro wS hSw;(try dsimp only at hSw);obtain ⟨s1,s2⟩:=hSw;(go_simp;try with_reducible rfl)
      try simp only [sA1,sA2,sA3,Act.put,sA4,sA5,sA6]
      refine wpAnyH_take (i:=7) (v:=?_) rfl (by kernel_rfl) (by kernel_rfl) (by kernel_rfl) (fun _ _ _ h=>h) (Or.inl ⟨by rfl,?_⟩) hF ?_
      rotate_left
      ·intro wS hSw;(try dsimp only at hSw);obtain ⟨s1,s2⟩:=hSw;(go_simp;try with_reducible rfl)
      try simp only [sA1,sA2,sA3,Act.put,sA4,sA5,sA6]
      refine wpAnyH_take (i:=8) (v:=?_) rfl (by kernel_rfl) (by kernel_rfl) (by kernel_rfl) (fun _ _ _ h=>h) (Or.inl ⟨by rfl,?_⟩) hF ?_
      rotate_left
      ·intro wS hSw;(try dsimp only at hSw);obtain ⟨s1,s2⟩:=hSw;(go_simp;try with_reducible rfl)
      try simp only [sA1,sA2,sA3,Act.put,sA4,sA5,sA6]
      refine wpAnyH_take (i:=9) (v:=?_) rfl (by kernel_rfl) (by kernel_rfl) (by kernel_rfl) (fun _ _ _ h=>h) (Or.inl ⟨by rfl,?_⟩) hF ?_
      rotate_left
      ·intro wS hSw;(try dsimp only at hSw);obtain ⟨s1,s2⟩:=hSw;(go_simp;try with_reducible rfl)
      try simp only [sA1,sA2,sA3,Act.put,sA4,sA5,sA6]
      refine wpAnyH_take (i:=10) (v:=undef) rfl (by kernel_rfl) (by kernel_rfl) (by kernel_rfl) (fun _ _ _ h=>h) (Or.inr ⟨by rfl,rfl⟩) hF ?_
      try simp only [sA1,sA2,sA3,Act.put,sA4,sA5,sA6]
      refine wpAnyH_take (i:=11) (v:=undef) rfl (by kernel_rfl) (by kernel_rfl) (by kernel_rfl) (fun _ _ _ h=>h) (Or.inr ⟨by rfl,rfl⟩) hF ?_
      try simp only [sA1,sA2,sA3,Act.put,sA4,sA5,sA6]
      refine wpAnyH_take (i:=12) (v:=undef) rfl (by kernel_rfl) (by kernel_rfl) (by kernel_rfl) (fun _ _ _ h=>h) (Or.inr ⟨by rfl,rfl⟩) hF ?_
      try simp only [sA1,sA2,sA3,Act.put,sA4,sA5,sA6]
      refine wpAnyH_take (i:=13) (v:=undef) rfl (by kernel_rfl) (by kernel_rfl) (by kernel_rfl) (fun _ _ _ h=>h) (Or.inr ⟨by rfl,rfl⟩) hF ?_
      try simp only [sA1,sA2,sA3,Act.put,sA4,sA5,sA6]
      refine wpAnyH_take (i:=14) (v:=undef) rfl (by kernel_rfl) (by kernel_rfl) (by kernel_rfl) (fun _ _ _ h=>h) (Or.inr ⟨by rfl,rfl⟩) hF ?_
      try simp only [sA1,sA2,sA3,Act.put,sA4,sA5,sA6]
      refine wpAnyH_take (i:=15) (v:=undef) rfl (by kernel_rfl) (by kernel_rfl) (by kernel_rfl) (fun _ _ _ h=>h) (Or.inr ⟨by rfl,rfl⟩) hF ?_
      try simp only [sA1,sA2,sA3,Act.put,sA4,sA5,sA6]
      refine wpAnyH_take (i:=16) (v:=undef) rfl (by kernel_rfl) (by kernel_rfl) (by kernel_rfl) (fun _ _ _ h=>h) (Or.inr ⟨by rfl,rfl⟩) hF ?_
      try simp only [sA1,sA2,sA3,Act.put,sA4,sA5,sA6]
      refine wpAnyH_take (i:=17) (v:=undef) rfl (by kernel_rfl) (by kernel_rfl) (by kernel_rfl) (fun _ _ _ h=>h) (Or.inr ⟨by rfl,rfl⟩) hF ?_
      try simp only [sA1,sA2,sA3,Act.put,sA4,sA5,sA6]
      refine wpAnyH_take (i:=18) (v:=undef) rfl (by kernel_rfl) (by kernel_rfl) (by kernel_rfl) (fun _ _ _ h=>h) (Or.inr ⟨by rfl,rfl⟩) hF ?_
      try simp only [sA1,sA2,sA3,Act.put,sA4,sA5,sA6]
      refine wpAnyH_take (i:=19) (v:=?_) rfl (by kernel_rfl) (by kernel_rfl) (by kernel_rfl) (fun _ _ _ h=>h) (Or.inl ⟨by rfl,?_⟩) hF ?_
      rotate_left
      ·intro wS hSw;(try dsimp only at hSw);obtain ⟨s1,s2⟩:=hSw;(go_simp;try with_reducible rfl)
      try simp only [sA1,sA2,sA3,Act.put,sA4,sA5,sA6]
      refine wpAnyH_take (i:=20) (v:=?_) rfl (by kernel_rfl) (by kernel_rfl) (by kernel_rfl) (fun _ _ _ h=>h) (Or.inl ⟨by rfl,?_⟩) hF ?_
      rotate_left
      ·intro wS hSw;(try dsimp only at hSw);obtain ⟨s1,s2⟩:=hSw;(go_simp;try with_reducible rfl)
      try simp only [sA1,sA2,sA3,Act.put,sA4,sA5,sA6]
      refine wpAnyH_take (i:=21) (v:=undef) rfl (by kernel_rfl) (by kernel_rfl) (by kernel_rfl) (fun _ _ _ h=>h) (Or.inr ⟨by rfl,rfl⟩) hF ?_
      try simp only [sA1,sA2,sA3,Act.put,sA4,sA5,sA6]
      refine wpAnyH_take (i:=22) (v:=undef) rfl (by kernel_rfl) (by kernel_rfl) (by kernel_rfl) (fun _ _ _ h=>h) (Or.inr ⟨by rfl,rfl⟩) hF ?_
      try simp only [sA1,sA2,sA3,Act.put,sA4,sA5,sA6]
      refine wpAnyH_take (i:=23) (v:=undef) rfl (by kernel_rfl) (by kernel_rfl) (by kernel_rfl) (fun _ _ _ h=>h) (Or.inr ⟨by rfl,rfl⟩) hF ?_
      try simp only [sA1,sA2,sA3,Act.put,sA4,sA5,sA6]
      refine wpAnyH_take (i:=24) (v:=undef) rfl (by kernel_rfl) (by kernel_rfl) (by kernel_rfl) (fun _ _ _ h=>h) (Or.inr ⟨by rfl,rfl⟩) hF ?_
      try simp only [sA1,sA2,sA3,Act.put,sA4,sA5,sA6]
      refine wpAnyH_take (i:=25) (v:=undef) rfl (by kernel_rfl) (by kernel_rfl) (by kernel_rfl) (fun _ _ _ h=>h) (Or.inr ⟨by rfl,rfl⟩) hF ?_
      try simp only [sA1,sA2,sA3,Act.put,sA4,sA5,sA6]
      refine wpAnyH_take (i:=26) (v:=undef) rfl (by kernel_rfl) (by kernel_rfl) (by kernel_rfl) (fun _ _ _ h=>h) (Or.inr ⟨by rfl,rfl⟩) hF ?_
      try simp only [sA1,sA2,sA3,Act.put,sA4,sA5,sA6]
      refine wpAnyH_take (i:=27) (v:=undef) rfl (by kernel_rfl) (by kernel_rfl) (by kernel_rfl) (fun _ _ _ h=>h) (Or.inr ⟨by rfl,rfl⟩) hF ?_
      try simp only [sA1,sA2,sA3,Act.put,sA4,sA5,sA6]
      refine wpAnyH_take (i:=28) (v:=undef) rfl (by kernel_rfl) (by kernel_rfl) (by kernel_rfl) (fun _ _ _ h=>h) (Or.inr ⟨by rfl,rfl⟩) hF ?_
      try simp only [sA1,sA2,sA3,Act.put,sA4,sA5,sA6]
      refine wpAnyH_take (i:=29) (v:=undef) rfl (by kernel_rfl) (by kernel_rfl) (by kernel_rfl) (fun _ _ _ h=>h) (Or.inr ⟨by rfl,rfl⟩) hF ?_
      try simp only [sA1,sA2,sA3,Act.put,sA4,sA5,sA6]
      refine wpAnyH_take (i:=30) (v:=undef) rfl (by kernel_rfl) (by kernel_rfl) (by kernel_rfl) (fun _ _ _ h=>h) (Or.inr ⟨by rfl,rfl⟩) hF ?_
      try simp only [sA1,sA2,sA3,Act.put,sA4,sA5,sA6]
      refine wpAnyH_take (i:=31) (v:=undef) rfl (by kernel_rfl) (by kernel_rfl) (by kernel_rfl) (fun _ _ _ h=>h) (Or.inr ⟨by rfl,rfl⟩) hF ?_
      try simp only [sA1,sA2,sA3,Act.put,sA4,sA5,sA6]
      refine wpAnyH_take (i:=32) (v:=undef) rfl (by kernel_rfl) (by kernel_rfl) (by kernel_rfl) (fun _ _ _ h=>h) (Or.inr ⟨by rfl,rfl⟩) hF ?_
      try simp only [sA1,sA2,sA3,Act.put,sA4,sA5,sA6]
      refine wpAnyH_take (i:=33) (v:=undef) rfl (by kernel_rfl) (by kernel_rfl) (by kernel_rfl) (fun _ _ _ h=>h) (Or.inr ⟨by rfl,rfl⟩) hF ?_
      try simp only [sA1,sA2,sA3,Act.put,sA4,sA5,sA6]
      refine wpAnyH_take (i:=34) (v:=undef) rfl (by kernel_rfl) (by kernel_rfl) (by kernel_rfl) (fun _ _ _ h=>h) (Or.inr ⟨by rfl,rfl⟩) hF ?_
      try simp only [sA1,sA2,sA3,Act.put,sA4,sA5,sA6]
      refine wpAnyH_take (i:=35) (v:=undef) rfl (by kernel_rfl) (by kernel_rfl) (by kernel_rfl) (fun _ _ _ h=>h) (Or.inr ⟨by rfl,rfl⟩) hF ?_
      try simp only [sA1,sA2,sA3,Act.put,sA4,sA5,sA6]
      refine wpAnyH_take (i:=36) (v:=undef) rfl (by kernel_rfl) (by kernel_rfl) (by kernel_rfl) (fun _ _ _ h=>h) (Or.inr ⟨by rfl,rfl⟩) hF ?_
      try simp only [sA1,sA2,sA3,Act.put,sA4,sA5,sA6]
      refine wpAnyH_take (i:=37) (v:=undef) rfl (by kernel_rfl) (by kernel_rfl) (by kernel_rfl) (fun _ _ _ h=>h) (Or.inr ⟨by rfl,rfl⟩) hF ?_
      try simp only [sA1,sA2,sA3,Act.put,sA4,sA5,sA6]
      refine wpAnyH_take (i:=38) (v:=undef) rfl (by kernel_rfl) (by kernel_rfl) (by kernel_rfl) (fun _ _ _ h=>h) (Or.inr ⟨by rfl,rfl⟩) hF ?_
      try simp only [sA1,sA2,sA3,Act.put,sA4,sA5,sA6]
      refine wpAnyH_take (i:=39) (v:=undef) rfl (by kernel_rfl) (by kernel_rfl) (by kernel_rfl) (fun _ _ _ h=>h) (Or.inr ⟨by rfl,rfl⟩) hF ?_
      try simp only [sA1,sA2,sA3,Act.put,sA4,sA5,sA6]
      refine wpAnyH_take (i:=40) (v:=?_) rfl (by kernel_rfl) (by kernel_rfl) (by kernel_rfl) (fun _ _ _ h=>h) (Or.inl ⟨by rfl,?_⟩) hF ?_
      rotate_left
      ·intro wS hSw;(try dsimp only at hSw);obtain ⟨s1,s2⟩:=hSw;(go_simp;try with_reducible rfl)
      try simp only [sA1,sA2,sA3,Act.put,sA4,sA5,sA6]
      refine wpAnyH_done (by kernel_rfl) ?_ _
      clear hF
      go_wp2
      all_goals
       have hk':8 + cpl (base.drop (q + 8)) (target.drop (at_ + 8)) = k:=by rw [HCE.out,HZ.out];omega
       go_roundg (ps.length - (i + 1))
       case measure=>omega
       case rel =>
        refine ⟨i + 1,by omega,rfl,by go_num,?_,?_,hW.drew⟩
        all_goals
         rw [HF.out]
         unfold lgF
         rw [hk']
         first | rw [if_pos (by omega)] | rw [if_neg (by omega)]
   ·obtain rfl:i = ps.length:=by omega
    rw [List.take_length]
    go_wp2
    go_ret2
    exact ⟨rfl,hW⟩
end Go.Proofs.Ytahllkifmmjbdaa
