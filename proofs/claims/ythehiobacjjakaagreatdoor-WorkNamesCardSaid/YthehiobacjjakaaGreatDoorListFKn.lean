/- Contracts: stamp.Name, stamp.move, stamp.edit, stamp.Good. Contract: stamp.edit. Contract: stamp.Good. Contracts: slices.IndexFunc, slices.ContainsFunc, obj.rise with closures. -/
import Derived.Test.YthehiobacjjakaaGreatDoorNameXKn
import Derived.Test.YthehiobacjjakaaGreatDoorQFrKn
import Derived.Test.YthehiobacjjakaaGreatDoorEqsKn
import Derived.Deep.LoopGhost
import Derived.Test.YthehiobacjjakaaGreatDoorRiseWKn
set_option linter.unusedVariables false
set_option linter.unusedSimpArgs false
namespace Go.Proofs.YthehiobacjjakaaGreatDoor
open Go.RowKit
theorem hasB_not (l:List UInt8):(l.all fun b=>decide (b ≠ 0) && decide (b ≠ 47) && decide (b ≠ 10)) = !hasB l:=by
 unfold hasB
 induction l with
 | nil=>rfl
 | cons b l ih=>rw [List.all_cons,List.any_cons,ih];simp [Bool.not_or]
set_option maxRecDepth 100000 in
theorem name_any (w:World) (l:List UInt8) (hl:l.length ≤ 140737488355328):Calls Tryz.prog 70 #[.string (str l)] w (Gives w (.bool (nameOk l))):=by
 have hz:=str_size l
 have hT:(str l).toList = l:=str_toList l
 have hB:nameOk l = (decide (1 ≤ l.length) && decide (l.length ≤ 60) && decide (l ≠ [46]) && decide (l ≠ [46,46]) && !hasB l):=by
  unfold nameOk;rw [hasB_not]
 have hC:=Lib.hid (fun (h60:l.length ≤ 60)=>containsAny_chs w (str l) (by rw [hz];omega))
 have HB:=Lib.hid hB
 have HT:=Lib.hid hT
 have e0:(str l).data.toList = l:=by simp [str]
 rw [e0] at hC
 clear hB hT e0
 by_cases h1:1 ≤ l.length
 ·have i1:(1:Int) ≤ (l.length:Int):=by omega
  by_cases h2:l.length ≤ 60
  ·have i2:(l.length:Int) ≤ 60:=by omega
   by_cases h3:l = [46]
   ·have a1:(str l).toList = [46]:=by rw [HT.out,h3]
    have a2:((str l).toList == [46]) = true:=by rw [a1];rfl
    have H:=Lib.hid (HB.out.trans (by simp [h3]):nameOk l = false)
    clear HB h3
    go_enter Tryz.func70,Tryz.ntmps70
    go_wp2_with fail
    go_ret
    exact ⟨by rw [H.out];rfl,Fr.refl _ _⟩
   ·have a1:¬ (str l).toList = [46]:=by rw [HT.out];exact h3
    have a2:((str l).toList == [46]) = false:=by simpa using a1
    by_cases h4:l = [46,46]
    ·have a3:(str l).toList = [46,46]:=by rw [HT.out,h4]
     have a4:((str l).toList == [46,46]) = true:=by rw [a3];rfl
     have H:=Lib.hid (HB.out.trans (by simp [h4]):nameOk l = false)
     clear HB h4 h3 a1
     go_enter Tryz.func70,Tryz.ntmps70
     go_wp2_with fail
     go_ret
     exact ⟨by rw [H.out];rfl,Fr.refl _ _⟩
    ·have a3:¬ (str l).toList = [46,46]:=by rw [HT.out];exact h4
     have a4:((str l).toList == [46,46]) = false:=by simpa using a3
     have H:=Lib.hid (HB.out.trans (by simp [h1,h2,h3,h4]):nameOk l = !hasB l)
     clear HB h3 h4
     go_enter Tryz.func70,Tryz.ntmps70
     go_wp2_with fail
     go_at_call 94
     refine (hC.out (by omega)).mono ?_
     rintro e w1 ⟨rfl,hf⟩
     go_wp2_with fail
     go_ret
     exact ⟨by rw [H.out];rfl,hf⟩
  ·have i2:¬ (l.length:Int) ≤ 60:=by omega
   have H:=Lib.hid (HB.out.trans (by simp [h2]):nameOk l = false)
   clear HB
   go_enter Tryz.func70,Tryz.ntmps70
   go_wp2_with fail
   go_ret
   exact ⟨by rw [H.out];rfl,Fr.refl _ _⟩
 ·have i1:¬ (1:Int) ≤ (l.length:Int):=by omega
  have H:=Lib.hid (HB.out.trans (by simp [h1]):nameOk l = false)
  clear HB
  go_enter Tryz.func70,Tryz.ntmps70
  go_wp2_with fail
  go_ret
  exact ⟨by rw [H.out];rfl,Fr.refl _ _⟩
def opOf (r:OpW) (ov:List St):Opn:=⟨r.Kind,r.At,r.Node,r.Parent,r.Name,r.Data,ov⟩
end Go.Proofs.YthehiobacjjakaaGreatDoor
namespace Go.Proofs.YthehiobacjjakaaGreatDoor
open Go.RowKit
theorem all_take_succ {α:Type} (p:α → Bool) (l:List α) (k:Nat) (h:k < l.length):(l.take (k + 1)).all p = ((l.take k).all p && p l[k]):=by
 rw [List.take_succ_eq_append_getElem h,List.all_append];simp
theorem all_take_false {α:Type} {p:α → Bool} {l:List α} {k:Nat} (h:(l.take k).all p = false):l.all p = false:=by
 rw [← Bool.not_eq_true] at h ⊢
 intro ha
 apply h
 rw [List.all_eq_true] at ha ⊢
 exact fun x hx=>ha x (List.mem_of_mem_take hx)
theorem rise_take_succ {α:Type} (cf:α → α → Int) (l:List α) (k:Nat) (h:k < l.length) (h0:riseB cf (l.take k) = true) (h1:∀ (h:0 < k),cf (l[k - 1]'(by omega)) l[k] < 0):riseB cf (l.take (k + 1)) = true:=by
 rw [riseB_iff] at h0 ⊢
 intro j hj
 rw [List.length_take] at hj
 simp only [List.getElem_take]
 rcases Nat.lt_or_ge (j + 1) k with hk | hk
 ·have:=h0 j (by rw [List.length_take];omega)
  simpa only [List.getElem_take] using this
 ·have e:j = k - 1:=by omega
  subst e
  have:=h1 (by omega)
  simp only [show k - 1 + 1 = k by omega]
  exact this
theorem rise_false {α:Type} (cf:α → α → Int) (l:List α) (k:Nat) (h:k < l.length) (hk:0 < k) (h1:¬ cf (l[k - 1]'(by omega)) l[k] < 0):riseB cf l = false:=by
 rw [← Bool.not_eq_true]
 intro h0
 rw [riseB_iff] at h0
 have:=h0 (k - 1) (by omega)
 simp only [show k - 1 + 1 = k by omega] at this
 exact h1 this
theorem rise_zero {α:Type} (cf:α → α → Int) (l:List α):riseB cf (l.take 0) = true:=by simp [riseB]
theorem Sl.adC {α:Type} {C:Cod α} {w:World} {A:Option Addr} {l:List α} (h:Sl w A (C.row l)) (hl:0 < l.length):∃ g off,A = some ⟨g,off,none⟩ ∧ g < w.heap.size:=by
 obtain ⟨g,off,e,hg,_⟩:=h (Cod.row_ne (by intro h0;subst h0;simp at hl))
 exact ⟨g,off,e,hg⟩
end Go.Proofs.YthehiobacjjakaaGreatDoor
namespace Go.Proofs.YthehiobacjjakaaGreatDoor
open Go.RowKit
structure OpIn (w:World) (r:OpW) (o:Opn):Prop where
 eq:o = opOf r o.Over
 len:o.Over.length = r.n
 sl:Sl w r.A (codS.row o.Over)
 bd:o.Over.length ≤ 140737488355328
 nm:r.Name.length ≤ 140737488355328
end Go.Proofs.YthehiobacjjakaaGreatDoor
namespace Go.Proofs.YthehiobacjjakaaGreatDoor
open Go.RowKit
def IxR (W:World) (n:Nat) (p:Nat → Bool) (gk:Nat) (iv:Value) (wr:World):Prop:=∃ k:Nat,iv = .int .i64 (k:Int) ∧ gk = n - k ∧ k ≤ n ∧ (∀ j,j < k → p j = false) ∧ Fr noB W wr
theorem any_hit {n:Nat} {p:Nat → Bool} {k:Nat} (hk:k < n) (h:p k = true):(List.range n).any p = true:=List.any_eq_true.2 ⟨k,List.mem_range.2 hk,h⟩
theorem any_none {n:Nat} {p:Nat → Bool} (h:∀ j,j < n → p j = false):(List.range n).any p = false:=by
 rw [← Bool.not_eq_true]
 intro ha
 obtain ⟨k,hk,hp⟩:=List.any_eq_true.1 ha
 rw [h k (List.mem_range.1 hk)] at hp;cases hp
def IxTo (w:World) (b:Bool) (e:Ending) (w':World):Prop:=∃ z:Int,e = .returned (.int .i64 z) ∧ decide (0 ≤ z) = b ∧ Fr noB w w'
set_option maxRecDepth 100000 in
set_option maxHeartbeats 1000000 in
theorem itIndexF_any (w:World) (A:Option Addr) (c n:Nat) (l:List ItW) (hn:l.length = n) (hs:Sl w A (codT.row l)) (hb:l.length ≤ 140737488355328) (cp:Value) (p:Nat → Bool)
  (hf:∀ w',Fr noB w w' → ∀ i (hi:i < l.length),Calls Tryz.prog 135 #[.agg (codT.A l[i])] w' (Gives w' (.bool (p i)))) :
  Calls Tryz.prog 155 #[.slice A n c,.func (.func 135) #[] #[]] w (IxTo w ((List.range l.length).any p)):=by
 subst hn
 go_enter Tryz.func155,Tryz.ntmps155
 go_wp2_with fail
 go_loopg [8] l.length (fun gk iv wr=>IxR w l.length p gk iv wr)
 case atStart=>exact ⟨0,rfl,by omega,by omega,fun j hj=>absurd hj (by omega),Fr.refl _ _⟩
 case round =>
  obtain ⟨k,rfl,rfl,hk,hj,hf0⟩:=hrel
  have HJ:=Lib.hid hj
  clear hj
  by_cases hlt:k < l.length
  ·have i1:(k:Int) < (l.length:Int):=by omega
   have i0:(0:Int) ≤ (k:Int):=by omega
   obtain ⟨g,off,rfl,hg⟩:=hs.adC (by omega)
   have e1:codT.rd wr g (off + k * 38) = some l[k]:=(hs.fr0 hf0).rd k hlt
   have hc:=hf wr hf0 k hlt
   generalize l[k] = x at e1 hc
   by_cases hp:p k = true
   ·rw [hp] at hc
    have HP:=Lib.hid (any_hit hlt hp)
    clear hp
    go_wp2_with (go_at_call 135;refine hc.mono ?_;rintro e w1 ⟨rfl,f1⟩)
    go_ret
    exact ⟨k,rfl,by rw [HP.out];simp,hf0.step0 f1⟩
   ·have hp':p k = false:=by simpa using hp
    rw [hp'] at hc
    have HP:=Lib.hid hp'
    clear hp hp'
    go_wp2_with (go_at_call 135;refine hc.mono ?_;rintro e w1 ⟨rfl,f1⟩)
    go_roundg (l.length - (k + 1))
    case measure=>omega
    case rel=>exact ⟨k + 1,by simp,rfl,by omega,fun j hj=>by
     rcases Nat.lt_or_ge j k with h | h
     ·exact HJ.out j h
     ·have:j = k:=by omega
      rw [this];exact HP.out,hf0.step0 f1⟩
  ·have hkl:k = l.length:=by omega
   subst hkl
   have i1:¬ (l.length:Int) < (l.length:Int):=by omega
   have HP:=Lib.hid (any_none HJ.out)
   go_wp2_with fail
   go_ret
   exact ⟨-1,rfl,by rw [HP.out];rfl,hf0⟩
set_option maxRecDepth 100000 in
theorem itContainsF_any (w:World) (A:Option Addr) (c n:Nat) (l:List ItW) (hn:l.length = n) (hs:Sl w A (codT.row l)) (hb:l.length ≤ 140737488355328) (cp:Value) (p:Nat → Bool)
  (hf:∀ w',Fr noB w w' → ∀ i (hi:i < l.length),Calls Tryz.prog 135 #[.agg (codT.A l[i])] w' (Gives w' (.bool (p i)))) :
  Calls Tryz.prog 134 #[.slice A n c,.func (.func 135) #[] #[]] w (Gives w (.bool ((List.range l.length).any p))):=by
 have h:=Lib.hid (itIndexF_any w A c n l hn hs hb cp p hf)
 clear hf hs
 subst hn
 generalize (List.range l.length).any p = b at h
 go_enter Tryz.func134,Tryz.ntmps134
 go_wp2_with (go_at_call 155;refine h.out.mono ?_;rintro e w1 ⟨z,rfl,hz,f1⟩)
 go_ret
 exact ⟨by rw [← hz];rfl,f1⟩
set_option maxRecDepth 100000 in
set_option maxHeartbeats 1000000 in
theorem oRiseItem_any (w:World) (A:Option Addr) (c n:Nat) (l:List ItW) (hn:l.length = n) (hs:Sl w A (codT.row l)) (hb:l.length ≤ 140737488355328) (cf:ItW → ItW → Int)
  (hf:∀ w x y,Calls Tryz.prog 138 #[.agg (codT.A x),.agg (codT.A y)] w (Gives w (.int .i64 (cf x y)))) :
  Calls Tryz.prog 137 #[.slice A n c,.func (.func 138) #[] #[]] w (Gives w (.bool (riseB cf l))):=by
 subst hn
 have HRI:=Lib.hid (riseB_iff cf l)
 go_enter Tryz.func137,Tryz.ntmps137
 go_wp2_with fail
 go_loopg [5] l.length (fun gk iv wr=>RisR w l.length (fun i j=>if h:i < l.length ∧ j < l.length then cf (l[i]'h.1) (l[j]'h.2) else 0) gk iv wr)
 case atStart=>exact ⟨1,rfl,by omega,by omega,.inr rfl,fun j hj=>by omega,Fr.refl _ _⟩
 case round =>
  obtain ⟨k,rfl,rfl,hk1,hk2,hj,hf0⟩:=hrel
  by_cases hlt:k < l.length
  ·have i0:(0:Int) ≤ (k:Int):=by omega
   have i1:(k:Int) < (l.length:Int):=by omega
   obtain ⟨g,off,rfl,hg⟩:=hs.adC (by omega)
   have q2:k - 1 < l.length:=by omega
   have r1:codT.rd wr g (off + (k - 1) * 38) = some (l[k - 1]'q2):=(hs.fr0 hf0).rd (k - 1) q2
   have r2:codT.rd wr g (off + k * 38) = some l[k]:=(hs.fr0 hf0).rd k hlt
   have hgw:g < wr.heap.size:=Nat.lt_of_lt_of_le hg hf0.size
   have hbad:¬ cf (l[k - 1]'q2) l[k] < 0 → riseB cf l = false:=fun h=>by
    rw [← Bool.not_eq_true]
    intro ht
    have:=HRI.out.1 ht (k - 1) (by omega)
    simp only [show k - 1 + 1 = k by omega] at this
    exact h this
   have hok:cf (l[k - 1]'q2) l[k] < 0 → ∀ j,j + 1 < k + 1 → (fun i j=>if h:i < l.length ∧ j < l.length then cf (l[i]'h.1) (l[j]'h.2) else 0) j (j + 1) < 0:=fun h j hjk=>by
    rcases Nat.lt_or_ge (j + 1) k with h1 | h1
    ·exact hj j h1
    ·have e:j = k - 1:=by omega
     subst e
     simp only
     rw [dif_pos ⟨by omega,by omega⟩]
     simp only [show k - 1 + 1 = k by omega]
     exact h
   generalize l[k - 1]'q2 = p at r1 hbad hok
   generalize l[k] = p2 at r2 hbad hok
   have HBAD:=Lib.hid hbad
   have HOK:=Lib.hid hok
   clear hbad hok hj
   generalize hqe:k - 1 = q at r1 q2
   have m1:IntKind.i64.wrap ((k:Int) - 1) = (q:Int):=by rw [IntKind.wrap_i64];omega
   have j0:(0:Int) ≤ (q:Int):=by omega
   have j1:(q:Int) < (l.length:Int):=by omega
   clear hqe
   have C1:=fun w=>hf w p p2
   generalize cf p p2 = z at C1 HBAD HOK
   by_cases hz:z < 0
   ·have hz2:¬ (0:Int) ≤ z:=by omega
    have H:=Lib.hid (HOK.out hz)
    go_wp2_with fail
    refine wp_region_fr (by kernel_rfl) (by kernel_rfl) ?_
    iterate 10
     refine wpQ_take (v:=?_) (by rfl) (fun wS hS=>?_) ?_
     rotate_left
     ·obtain ⟨L1,L2,L3,L4,L5,L6⟩:=Fr.same hS;go_simp;try with_reducible rfl
     try simp only [sA1,sA2,sA3,Act.put,sA4,sA5,sA6]
    refine wpQ_call (by rfl) (fun wS hS=>⟨_,_,?qh341,Calls.fr hS (C1 _)⟩) ?qk341
    case qh341=>obtain ⟨L1,L2,L3,L4,L5,L6⟩:=Fr.same hS;go_simp;try with_reducible rfl
    try simp only [sA1,sA2,sA3,Act.put,sA4,sA5,sA6]
    refine wpQ_take (v:=?_) (by rfl) (fun wS hS=>?_) ?_
    rotate_left
    ·obtain ⟨L1,L2,L3,L4,L5,L6⟩:=Fr.same hS;go_simp;try with_reducible rfl
    try simp only [sA1,sA2,sA3,Act.put,sA4,sA5,sA6]
    refine wpQ_nil ?_
    intro w1 f1
    go_wp2_with fail
    go_roundg (l.length + 1 - (k + 1))
    case measure=>omega
    case rel=>exact ⟨k + 1,by simp,rfl,by omega,by omega,H.out,hf0.step0 f1⟩
   ·have hz2:(0:Int) ≤ z:=by omega
    have H:=Lib.hid (HBAD.out hz)
    clear hz
    go_wp2_with fail
    refine wp_region_fr (by kernel_rfl) (by kernel_rfl) ?_
    iterate 10
     refine wpQ_take (v:=?_) (by rfl) (fun wS hS=>?_) ?_
     rotate_left
     ·obtain ⟨L1,L2,L3,L4,L5,L6⟩:=Fr.same hS;go_simp;try with_reducible rfl
     try simp only [sA1,sA2,sA3,Act.put,sA4,sA5,sA6]
    refine wpQ_call (by rfl) (fun wS hS=>⟨_,_,?qh364,Calls.fr hS (C1 _)⟩) ?qk364
    case qh364=>obtain ⟨L1,L2,L3,L4,L5,L6⟩:=Fr.same hS;go_simp;try with_reducible rfl
    try simp only [sA1,sA2,sA3,Act.put,sA4,sA5,sA6]
    refine wpQ_take (v:=?_) (by rfl) (fun wS hS=>?_) ?_
    rotate_left
    ·obtain ⟨L1,L2,L3,L4,L5,L6⟩:=Fr.same hS;go_simp;try with_reducible rfl
    try simp only [sA1,sA2,sA3,Act.put,sA4,sA5,sA6]
    refine wpQ_nil ?_
    intro w1 f1
    go_wp2_with fail
    go_ret
    exact ⟨by rw [H.out];rfl,hf0.step0 f1⟩
  ·have e:riseB cf l = true:=HRI.out.2 (fun j h=>by
    have h1:=hj j (by omega)
    simp only at h1
    rw [dif_pos ⟨by omega,h⟩] at h1
    exact h1)
   have E:=Lib.hid e
   clear e hj
   go_wp2_with fail
   go_ret
   exact ⟨by rw [E.out];rfl,hf0⟩
set_option maxRecDepth 100000 in
set_option maxHeartbeats 1000000 in
theorem oRiseHead_any (w:World) (A:Option Addr) (c n:Nat) (l:List Hd) (hn:l.length = n) (hs:Sl w A (codH.row l)) (hb:l.length ≤ 140737488355328) (cf:Hd → Hd → Int)
  (hf:∀ w x y,Calls Tryz.prog 157 #[.agg (codH.A x),.agg (codH.A y)] w (Gives w (.int .i64 (cf x y)))) :
  Calls Tryz.prog 156 #[.slice A n c,.func (.func 157) #[] #[]] w (Gives w (.bool (riseB cf l))):=by
 subst hn
 have HRI:=Lib.hid (riseB_iff cf l)
 go_enter Tryz.func156,Tryz.ntmps156
 go_wp2_with fail
 go_loopg [5] l.length (fun gk iv wr=>RisR w l.length (fun i j=>if h:i < l.length ∧ j < l.length then cf (l[i]'h.1) (l[j]'h.2) else 0) gk iv wr)
 case atStart=>exact ⟨1,rfl,by omega,by omega,.inr rfl,fun j hj=>by omega,Fr.refl _ _⟩
 case round =>
  obtain ⟨k,rfl,rfl,hk1,hk2,hj,hf0⟩:=hrel
  by_cases hlt:k < l.length
  ·have i0:(0:Int) ≤ (k:Int):=by omega
   have i1:(k:Int) < (l.length:Int):=by omega
   obtain ⟨g,off,rfl,hg⟩:=hs.adC (by omega)
   have q2:k - 1 < l.length:=by omega
   have r1:codH.rd wr g (off + (k - 1) * 34) = some (l[k - 1]'q2):=(hs.fr0 hf0).rd (k - 1) q2
   have r2:codH.rd wr g (off + k * 34) = some l[k]:=(hs.fr0 hf0).rd k hlt
   have hgw:g < wr.heap.size:=Nat.lt_of_lt_of_le hg hf0.size
   have hbad:¬ cf (l[k - 1]'q2) l[k] < 0 → riseB cf l = false:=fun h=>by
    rw [← Bool.not_eq_true]
    intro ht
    have:=HRI.out.1 ht (k - 1) (by omega)
    simp only [show k - 1 + 1 = k by omega] at this
    exact h this
   have hok:cf (l[k - 1]'q2) l[k] < 0 → ∀ j,j + 1 < k + 1 → (fun i j=>if h:i < l.length ∧ j < l.length then cf (l[i]'h.1) (l[j]'h.2) else 0) j (j + 1) < 0:=fun h j hjk=>by
    rcases Nat.lt_or_ge (j + 1) k with h1 | h1
    ·exact hj j h1
    ·have e:j = k - 1:=by omega
     subst e
     simp only
     rw [dif_pos ⟨by omega,by omega⟩]
     simp only [show k - 1 + 1 = k by omega]
     exact h
   generalize l[k - 1]'q2 = p at r1 hbad hok
   generalize l[k] = p2 at r2 hbad hok
   have HBAD:=Lib.hid hbad
   have HOK:=Lib.hid hok
   clear hbad hok hj
   generalize hqe:k - 1 = q at r1 q2
   have m1:IntKind.i64.wrap ((k:Int) - 1) = (q:Int):=by rw [IntKind.wrap_i64];omega
   have j0:(0:Int) ≤ (q:Int):=by omega
   have j1:(q:Int) < (l.length:Int):=by omega
   clear hqe
   have C1:=fun w=>hf w p p2
   generalize cf p p2 = z at C1 HBAD HOK
   by_cases hz:z < 0
   ·have hz2:¬ (0:Int) ≤ z:=by omega
    have H:=Lib.hid (HOK.out hz)
    go_wp2_with fail
    refine wp_region_fr (by kernel_rfl) (by kernel_rfl) ?_
    iterate 10
     refine wpQ_take (v:=?_) (by rfl) (fun wS hS=>?_) ?_
     rotate_left
     ·obtain ⟨L1,L2,L3,L4,L5,L6⟩:=Fr.same hS;go_simp;try with_reducible rfl
     try simp only [sA1,sA2,sA3,Act.put,sA4,sA5,sA6]
    refine wpQ_call (by rfl) (fun wS hS=>⟨_,_,?qh444,Calls.fr hS (C1 _)⟩) ?qk444
    case qh444=>obtain ⟨L1,L2,L3,L4,L5,L6⟩:=Fr.same hS;go_simp;try with_reducible rfl
    try simp only [sA1,sA2,sA3,Act.put,sA4,sA5,sA6]
    refine wpQ_take (v:=?_) (by rfl) (fun wS hS=>?_) ?_
    rotate_left
    ·obtain ⟨L1,L2,L3,L4,L5,L6⟩:=Fr.same hS;go_simp;try with_reducible rfl
    try simp only [sA1,sA2,sA3,Act.put,sA4,sA5,sA6]
    refine wpQ_nil ?_
    intro w1 f1
    go_wp2_with fail
    go_roundg (l.length + 1 - (k + 1))
    case measure=>omega
    case rel=>exact ⟨k + 1,by simp,rfl,by omega,by omega,H.out,hf0.step0 f1⟩
   ·have hz2:(0:Int) ≤ z:=by omega
    have H:=Lib.hid (HBAD.out hz)
    clear hz
    go_wp2_with fail
    refine wp_region_fr (by kernel_rfl) (by kernel_rfl) ?_
    iterate 10
     refine wpQ_take (v:=?_) (by rfl) (fun wS hS=>?_) ?_
     rotate_left
     ·obtain ⟨L1,L2,L3,L4,L5,L6⟩:=Fr.same hS;go_simp;try with_reducible rfl
     try simp only [sA1,sA2,sA3,Act.put,sA4,sA5,sA6]
    refine wpQ_call (by rfl) (fun wS hS=>⟨_,_,?qh467,Calls.fr hS (C1 _)⟩) ?qk467
    case qh467=>obtain ⟨L1,L2,L3,L4,L5,L6⟩:=Fr.same hS;go_simp;try with_reducible rfl
    try simp only [sA1,sA2,sA3,Act.put,sA4,sA5,sA6]
    refine wpQ_take (v:=?_) (by rfl) (fun wS hS=>?_) ?_
    rotate_left
    ·obtain ⟨L1,L2,L3,L4,L5,L6⟩:=Fr.same hS;go_simp;try with_reducible rfl
    try simp only [sA1,sA2,sA3,Act.put,sA4,sA5,sA6]
    refine wpQ_nil ?_
    intro w1 f1
    go_wp2_with fail
    go_ret
    exact ⟨by rw [H.out];rfl,hf0.step0 f1⟩
  ·have e:riseB cf l = true:=HRI.out.2 (fun j h=>by
    have h1:=hj j (by omega)
    simp only at h1
    rw [dif_pos ⟨by omega,h⟩] at h1
    exact h1)
   have E:=Lib.hid e
   clear e hj
   go_wp2_with fail
   go_ret
   exact ⟨by rw [E.out];rfl,hf0⟩
end Go.Proofs.YthehiobacjjakaaGreatDoor
