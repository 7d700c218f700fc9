/- Contracts: stamp.Name, stamp.move, stamp.edit, stamp.Good. Contract: stamp.edit. Contract: stamp.Good. Contracts: slices.IndexFunc, slices.ContainsFunc, obj.rise with closures. Contracts: the closures of obj.rightItem, rightDir, rightChange; rightItem, rightDir, rightLabel. Contracts: slices.Index and Contains of IDs, the closures of obj.rightChange, obj.rightChange. -/
import Derived.Test.YtnkdnbjmhoegkaaGreatNameXKq
import Derived.Test.YtnkdnbjmhoegkaaGreatQFrKq
import Derived.Test.YtnkdnbjmhoegkaaGreatEqsKq
import Derived.Deep.LoopGhost
import Derived.Test.YtnkdnbjmhoegkaaGreatRiseWKq
import Derived.Test.YtnkdnbjmhoegkaaGreatRegQKq
set_option linter.unusedVariables false
set_option linter.unusedSimpArgs false
namespace Go.Proofs.YtnkdnbjmhoegkaaGreat
open Go.RowKit
theorem hasB_not (l:List UInt8):(l.all fun b=>decide (b ≠ 0) && decide (b ≠ 47) && decide (b ≠ 10)) = !hasB l:=by
 unfold hasB
 induction l with
 | nil=>rfl
 | cons b l ih=>rw [List.all_cons,List.any_cons,ih];simp [Bool.not_or]
set_option maxRecDepth 100000 in
theorem name_any (w:World) (l:List UInt8) (hl:l.length ≤ 140737488355328):Calls Tryz.prog 104 #[.string (str l)] w (Gives w (.bool (nameOk l))):=by
 have hz:=str_size l
 have hT:(str l).toList = l:=str_toList l
 have hB:nameOk l = (decide (1 ≤ l.length) && decide (l.length ≤ 60) && decide (l ≠ [46]) && decide (l ≠ [46,46]) && !hasB l):=by
  unfold nameOk;rw [hasB_not]
 have hC:=Lib.hid (fun (h60:l.length ≤ 60)=>containsAny_chs w (str l) (by rw [hz];omega))
 have HB:=Lib.hid hB
 have HT:=Lib.hid hT
 have e0:(str l).data.toList = l:=by simp [str]
 rw [e0] at hC
 clear hB hT e0
 by_cases h1:1 ≤ l.length
 ·have i1:(1:Int) ≤ (l.length:Int):=by omega
  by_cases h2:l.length ≤ 60
  ·have i2:(l.length:Int) ≤ 60:=by omega
   by_cases h3:l = [46]
   ·have a1:(str l).toList = [46]:=by rw [HT.out,h3]
    have a2:((str l).toList == [46]) = true:=by rw [a1];rfl
    have H:=Lib.hid (HB.out.trans (by simp [h3]):nameOk l = false)
    clear HB h3
    go_enter Tryz.func104,Tryz.ntmps104
    go_wp2_with fail
    go_ret
    exact ⟨by rw [H.out];rfl,Fr.refl _ _⟩
   ·have a1:¬ (str l).toList = [46]:=by rw [HT.out];exact h3
    have a2:((str l).toList == [46]) = false:=by simpa using a1
    by_cases h4:l = [46,46]
    ·have a3:(str l).toList = [46,46]:=by rw [HT.out,h4]
     have a4:((str l).toList == [46,46]) = true:=by rw [a3];rfl
     have H:=Lib.hid (HB.out.trans (by simp [h4]):nameOk l = false)
     clear HB h4 h3 a1
     go_enter Tryz.func104,Tryz.ntmps104
     go_wp2_with fail
     go_ret
     exact ⟨by rw [H.out];rfl,Fr.refl _ _⟩
    ·have a3:¬ (str l).toList = [46,46]:=by rw [HT.out];exact h4
     have a4:((str l).toList == [46,46]) = false:=by simpa using a3
     have H:=Lib.hid (HB.out.trans (by simp [h1,h2,h3,h4]):nameOk l = !hasB l)
     clear HB h3 h4
     go_enter Tryz.func104,Tryz.ntmps104
     go_wp2_with fail
     go_at_call 109
     refine (hC.out (by omega)).mono ?_
     rintro e w1 ⟨rfl,hf⟩
     go_wp2_with fail
     go_ret
     exact ⟨by rw [H.out];rfl,hf⟩
  ·have i2:¬ (l.length:Int) ≤ 60:=by omega
   have H:=Lib.hid (HB.out.trans (by simp [h2]):nameOk l = false)
   clear HB
   go_enter Tryz.func104,Tryz.ntmps104
   go_wp2_with fail
   go_ret
   exact ⟨by rw [H.out];rfl,Fr.refl _ _⟩
 ·have i1:¬ (1:Int) ≤ (l.length:Int):=by omega
  have H:=Lib.hid (HB.out.trans (by simp [h1]):nameOk l = false)
  clear HB
  go_enter Tryz.func104,Tryz.ntmps104
  go_wp2_with fail
  go_ret
  exact ⟨by rw [H.out];rfl,Fr.refl _ _⟩
def opOf (r:OpW) (ov:List St):Opn:=⟨r.Kind,r.At,r.Node,r.Parent,r.Name,r.Data,ov⟩
end Go.Proofs.YtnkdnbjmhoegkaaGreat
namespace Go.Proofs.YtnkdnbjmhoegkaaGreat
open Go.RowKit
theorem all_take_succ {α:Type} (p:α → Bool) (l:List α) (k:Nat) (h:k < l.length):(l.take (k + 1)).all p = ((l.take k).all p && p l[k]):=by
 rw [List.take_succ_eq_append_getElem h,List.all_append];simp
theorem all_take_false {α:Type} {p:α → Bool} {l:List α} {k:Nat} (h:(l.take k).all p = false):l.all p = false:=by
 rw [← Bool.not_eq_true] at h ⊢
 intro ha
 apply h
 rw [List.all_eq_true] at ha ⊢
 exact fun x hx=>ha x (List.mem_of_mem_take hx)
theorem Sl.adC {α:Type} {C:Cod α} {w:World} {A:Option Addr} {l:List α} (h:Sl w A (C.row l)) (hl:0 < l.length):∃ g off,A = some ⟨g,off,none⟩ ∧ g < w.heap.size:=by
 obtain ⟨g,off,e,hg,_⟩:=h (Cod.row_ne (by intro h0;subst h0;simp at hl))
 exact ⟨g,off,e,hg⟩
end Go.Proofs.YtnkdnbjmhoegkaaGreat
namespace Go.Proofs.YtnkdnbjmhoegkaaGreat
open Go.RowKit
structure OpIn (w:World) (r:OpW) (o:Opn):Prop where
 eq:o = opOf r o.Over
 len:o.Over.length = r.n
 sl:Sl w r.A (codS.row o.Over)
 bd:o.Over.length ≤ 140737488355328
 nm:r.Name.length ≤ 140737488355328
end Go.Proofs.YtnkdnbjmhoegkaaGreat
namespace Go.Proofs.YtnkdnbjmhoegkaaGreat
open Go.RowKit
def IxR (W:World) (n:Nat) (p:Nat → Bool) (gk:Nat) (iv:Value) (wr:World):Prop:=∃ k:Nat,iv = .int .i64 (k:Int) ∧ gk = n - k ∧ k ≤ n ∧ (∀ j,j < k → p j = false) ∧ Fr noB W wr
theorem any_hit {n:Nat} {p:Nat → Bool} {k:Nat} (hk:k < n) (h:p k = true):(List.range n).any p = true:=List.any_eq_true.2 ⟨k,List.mem_range.2 hk,h⟩
theorem any_none {n:Nat} {p:Nat → Bool} (h:∀ j,j < n → p j = false):(List.range n).any p = false:=by
 rw [← Bool.not_eq_true]
 intro ha
 obtain ⟨k,hk,hp⟩:=List.any_eq_true.1 ha
 rw [h k (List.mem_range.1 hk)] at hp;cases hp
def IxTo (w:World) (b:Bool) (e:Ending) (w':World):Prop:=∃ z:Int,e = .returned (.int .i64 z) ∧ decide (0 ≤ z) = b ∧ Fr noB w w'
set_option maxRecDepth 100000 in
set_option maxHeartbeats 1000000 in
theorem itIndexF_any (w:World) (A:Option Addr) (c n:Nat) (l:List ItW) (hn:l.length = n) (hs:Sl w A (codT.row l)) (hb:l.length ≤ 140737488355328) (cp:Value) (p:Nat → Bool)
  (hf:∀ w',Fr noB w w' → ∀ i (hi:i < l.length),Calls Tryz.prog 83 #[.agg (codT.A l[i])] w' (Gives w' (.bool (p i)))) :
  Calls Tryz.prog 102 #[.slice A n c,.func (.func 83) #[] #[]] w (IxTo w ((List.range l.length).any p)):=by
 subst hn
 go_enter Tryz.func102,Tryz.ntmps102
 go_wp2_with fail
 go_loopg [8] l.length (fun gk iv wr=>IxR w l.length p gk iv wr)
 case atStart=>exact ⟨0,rfl,by omega,by omega,fun j hj=>absurd hj (by omega),Fr.refl _ _⟩
 case round =>
  obtain ⟨k,rfl,rfl,hk,hj,hf0⟩:=hrel
  have HJ:=Lib.hid hj
  clear hj
  by_cases hlt:k < l.length
  ·have i1:(k:Int) < (l.length:Int):=by omega
   have i0:(0:Int) ≤ (k:Int):=by omega
   obtain ⟨g,off,rfl,hg⟩:=hs.adC (by omega)
   have e1:codT.rd wr g (off + k * 38) = some l[k]:=(hs.fr0 hf0).rd k hlt
   have hc:=hf wr hf0 k hlt
   generalize l[k] = x at e1 hc
   by_cases hp:p k = true
   ·rw [hp] at hc
    have HP:=Lib.hid (any_hit hlt hp)
    clear hp
    go_wp2_with (go_at_call 83;refine hc.mono ?_;rintro e w1 ⟨rfl,f1⟩)
    go_ret
    exact ⟨k,rfl,by rw [HP.out];simp,hf0.step0 f1⟩
   ·have hp':p k = false:=by simpa using hp
    rw [hp'] at hc
    have HP:=Lib.hid hp'
    clear hp hp'
    go_wp2_with (go_at_call 83;refine hc.mono ?_;rintro e w1 ⟨rfl,f1⟩)
    go_roundg (l.length - (k + 1))
    case measure=>omega
    case rel=>exact ⟨k + 1,by simp,rfl,by omega,fun j hj=>by
     rcases Nat.lt_or_ge j k with h | h
     ·exact HJ.out j h
     ·have:j = k:=by omega
      rw [this];exact HP.out,hf0.step0 f1⟩
  ·have hkl:k = l.length:=by omega
   subst hkl
   have i1:¬ (l.length:Int) < (l.length:Int):=by omega
   have HP:=Lib.hid (any_none HJ.out)
   go_wp2_with fail
   go_ret
   exact ⟨-1,rfl,by rw [HP.out];rfl,hf0⟩
set_option maxRecDepth 100000 in
theorem itContainsF_any (w:World) (A:Option Addr) (c n:Nat) (l:List ItW) (hn:l.length = n) (hs:Sl w A (codT.row l)) (hb:l.length ≤ 140737488355328) (cp:Value) (p:Nat → Bool)
  (hf:∀ w',Fr noB w w' → ∀ i (hi:i < l.length),Calls Tryz.prog 83 #[.agg (codT.A l[i])] w' (Gives w' (.bool (p i)))) :
  Calls Tryz.prog 82 #[.slice A n c,.func (.func 83) #[] #[]] w (Gives w (.bool ((List.range l.length).any p))):=by
 have h:=Lib.hid (itIndexF_any w A c n l hn hs hb cp p hf)
 clear hf hs
 subst hn
 generalize (List.range l.length).any p = b at h
 go_enter Tryz.func82,Tryz.ntmps82
 go_wp2_with (go_at_call 102;refine h.out.mono ?_;rintro e w1 ⟨z,rfl,hz,f1⟩)
 go_ret
 exact ⟨by rw [← hz];rfl,f1⟩
set_option maxRecDepth 100000 in
set_option maxHeartbeats 1000000 in
theorem oRiseItem_any (w:World) (A:Option Addr) (c n:Nat) (l:List ItW) (hn:l.length = n) (hs:Sl w A (codT.row l)) (hb:l.length ≤ 140737488355328) (cf:ItW → ItW → Int)
  (hf:∀ w x y,Calls Tryz.prog 86 #[.agg (codT.A x),.agg (codT.A y)] w (Gives w (.int .i64 (cf x y)))) :
  Calls Tryz.prog 85 #[.slice A n c,.func (.func 86) #[] #[]] w (Gives w (.bool (riseB cf l))):=by
 subst hn
 have HRI:=Lib.hid (riseB_iff cf l)
 go_enter Tryz.func85,Tryz.ntmps85
 go_wp2_with fail
 go_loopg [5] l.length (fun gk iv wr=>RisR w l.length (fun i j=>if h:i < l.length ∧ j < l.length then cf (l[i]'h.1) (l[j]'h.2) else 0) gk iv wr)
 case atStart=>exact ⟨1,rfl,by omega,by omega,.inr rfl,fun j hj=>by omega,Fr.refl _ _⟩
 case round =>
  obtain ⟨k,rfl,rfl,hk1,hk2,hj,hf0⟩:=hrel
  by_cases hlt:k < l.length
  ·have i0:(0:Int) ≤ (k:Int):=by omega
   have i1:(k:Int) < (l.length:Int):=by omega
   obtain ⟨g,off,rfl,hg⟩:=hs.adC (by omega)
   have q2:k - 1 < l.length:=by omega
   have r1:codT.rd wr g (off + (k - 1) * 38) = some (l[k - 1]'q2):=(hs.fr0 hf0).rd (k - 1) q2
   have r2:codT.rd wr g (off + k * 38) = some l[k]:=(hs.fr0 hf0).rd k hlt
   have hgw:g < wr.heap.size:=Nat.lt_of_lt_of_le hg hf0.size
   have hbad:¬ cf (l[k - 1]'q2) l[k] < 0 → riseB cf l = false:=fun h=>by
    rw [← Bool.not_eq_true]
    intro ht
    have:=HRI.out.1 ht (k - 1) (by omega)
    simp only [show k - 1 + 1 = k by omega] at this
    exact h this
   have hok:cf (l[k - 1]'q2) l[k] < 0 → ∀ j,j + 1 < k + 1 → (fun i j=>if h:i < l.length ∧ j < l.length then cf (l[i]'h.1) (l[j]'h.2) else 0) j (j + 1) < 0:=fun h j hjk=>by
    rcases Nat.lt_or_ge (j + 1) k with h1 | h1
    ·exact hj j h1
    ·have e:j = k - 1:=by omega
     subst e
     simp only
     rw [dif_pos ⟨by omega,by omega⟩]
     simp only [show k - 1 + 1 = k by omega]
     exact h
   generalize l[k - 1]'q2 = p at r1 hbad hok
   generalize l[k] = p2 at r2 hbad hok
   have HBAD:=Lib.hid hbad
   have HOK:=Lib.hid hok
   clear hbad hok hj
   generalize hqe:k - 1 = q at r1 q2
   have m1:IntKind.i64.wrap ((k:Int) - 1) = (q:Int):=by rw [IntKind.wrap_i64];omega
   have j0:(0:Int) ≤ (q:Int):=by omega
   have j1:(q:Int) < (l.length:Int):=by omega
   clear hqe
   have C1:=fun w=>hf w p p2
   generalize cf p p2 = z at C1 HBAD HOK
   by_cases hz:z < 0
   ·have hz2:¬ (0:Int) ≤ z:=by omega
    have H:=Lib.hid (HOK.out hz)
    go_wp2_with fail
    refine wp_region_fr (by kernel_rfl) (by kernel_rfl) ?_
    iterate 10
     refine wpQ_take (v:=?_) (by rfl) (fun wS hS=>?_) ?_
     rotate_left
     ·obtain ⟨L1,L2,L3,L4,L5,L6⟩:=Fr.same hS;go_simp;try with_reducible rfl
     try simp only [sA1,sA2,sA3,Act.put,sA4,sA5,sA6]
    refine wpQ_call (by rfl) (fun wS hS=>⟨_,_,?qh341,Calls.fr hS (C1 _)⟩) ?qk341
    case qh341=>obtain ⟨L1,L2,L3,L4,L5,L6⟩:=Fr.same hS;go_simp;try with_reducible rfl
    try simp only [sA1,sA2,sA3,Act.put,sA4,sA5,sA6]
    refine wpQ_take (v:=?_) (by rfl) (fun wS hS=>?_) ?_
    rotate_left
    ·obtain ⟨L1,L2,L3,L4,L5,L6⟩:=Fr.same hS;go_simp;try with_reducible rfl
    try simp only [sA1,sA2,sA3,Act.put,sA4,sA5,sA6]
    refine wpQ_nil ?_
    intro w1 f1
    go_wp2_with fail
    go_roundg (l.length + 1 - (k + 1))
    case measure=>omega
    case rel=>exact ⟨k + 1,by simp,rfl,by omega,by omega,H.out,hf0.step0 f1⟩
   ·have hz2:(0:Int) ≤ z:=by omega
    have H:=Lib.hid (HBAD.out hz)
    clear hz
    go_wp2_with fail
    refine wp_region_fr (by kernel_rfl) (by kernel_rfl) ?_
    iterate 10
     refine wpQ_take (v:=?_) (by rfl) (fun wS hS=>?_) ?_
     rotate_left
     ·obtain ⟨L1,L2,L3,L4,L5,L6⟩:=Fr.same hS;go_simp;try with_reducible rfl
     try simp only [sA1,sA2,sA3,Act.put,sA4,sA5,sA6]
    refine wpQ_call (by rfl) (fun wS hS=>⟨_,_,?qh364,Calls.fr hS (C1 _)⟩) ?qk364
    case qh364=>obtain ⟨L1,L2,L3,L4,L5,L6⟩:=Fr.same hS;go_simp;try with_reducible rfl
    try simp only [sA1,sA2,sA3,Act.put,sA4,sA5,sA6]
    refine wpQ_take (v:=?_) (by rfl) (fun wS hS=>?_) ?_
    rotate_left
    ·obtain ⟨L1,L2,L3,L4,L5,L6⟩:=Fr.same hS;go_simp;try with_reducible rfl
    try simp only [sA1,sA2,sA3,Act.put,sA4,sA5,sA6]
    refine wpQ_nil ?_
    intro w1 f1
    go_wp2_with fail
    go_ret
    exact ⟨by rw [H.out];rfl,hf0.step0 f1⟩
  ·have e:riseB cf l = true:=HRI.out.2 (fun j h=>by
    have h1:=hj j (by omega)
    simp only at h1
    rw [dif_pos ⟨by omega,h⟩] at h1
    exact h1)
   have E:=Lib.hid e
   clear e hj
   go_wp2_with fail
   go_ret
   exact ⟨by rw [E.out];rfl,hf0⟩
set_option maxRecDepth 100000 in
set_option maxHeartbeats 1000000 in
theorem oRiseHead_any (w:World) (A:Option Addr) (c n:Nat) (l:List Hd) (hn:l.length = n) (hs:Sl w A (codH.row l)) (hb:l.length ≤ 140737488355328) (cf:Hd → Hd → Int)
  (hf:∀ w x y,Calls Tryz.prog 106 #[.agg (codH.A x),.agg (codH.A y)] w (Gives w (.int .i64 (cf x y)))) :
  Calls Tryz.prog 105 #[.slice A n c,.func (.func 106) #[] #[]] w (Gives w (.bool (riseB cf l))):=by
 subst hn
 have HRI:=Lib.hid (riseB_iff cf l)
 go_enter Tryz.func105,Tryz.ntmps105
 go_wp2_with fail
 go_loopg [5] l.length (fun gk iv wr=>RisR w l.length (fun i j=>if h:i < l.length ∧ j < l.length then cf (l[i]'h.1) (l[j]'h.2) else 0) gk iv wr)
 case atStart=>exact ⟨1,rfl,by omega,by omega,.inr rfl,fun j hj=>by omega,Fr.refl _ _⟩
 case round =>
  obtain ⟨k,rfl,rfl,hk1,hk2,hj,hf0⟩:=hrel
  by_cases hlt:k < l.length
  ·have i0:(0:Int) ≤ (k:Int):=by omega
   have i1:(k:Int) < (l.length:Int):=by omega
   obtain ⟨g,off,rfl,hg⟩:=hs.adC (by omega)
   have q2:k - 1 < l.length:=by omega
   have r1:codH.rd wr g (off + (k - 1) * 34) = some (l[k - 1]'q2):=(hs.fr0 hf0).rd (k - 1) q2
   have r2:codH.rd wr g (off + k * 34) = some l[k]:=(hs.fr0 hf0).rd k hlt
   have hgw:g < wr.heap.size:=Nat.lt_of_lt_of_le hg hf0.size
   have hbad:¬ cf (l[k - 1]'q2) l[k] < 0 → riseB cf l = false:=fun h=>by
    rw [← Bool.not_eq_true]
    intro ht
    have:=HRI.out.1 ht (k - 1) (by omega)
    simp only [show k - 1 + 1 = k by omega] at this
    exact h this
   have hok:cf (l[k - 1]'q2) l[k] < 0 → ∀ j,j + 1 < k + 1 → (fun i j=>if h:i < l.length ∧ j < l.length then cf (l[i]'h.1) (l[j]'h.2) else 0) j (j + 1) < 0:=fun h j hjk=>by
    rcases Nat.lt_or_ge (j + 1) k with h1 | h1
    ·exact hj j h1
    ·have e:j = k - 1:=by omega
     subst e
     simp only
     rw [dif_pos ⟨by omega,by omega⟩]
     simp only [show k - 1 + 1 = k by omega]
     exact h
   generalize l[k - 1]'q2 = p at r1 hbad hok
   generalize l[k] = p2 at r2 hbad hok
   have HBAD:=Lib.hid hbad
   have HOK:=Lib.hid hok
   clear hbad hok hj
   generalize hqe:k - 1 = q at r1 q2
   have m1:IntKind.i64.wrap ((k:Int) - 1) = (q:Int):=by rw [IntKind.wrap_i64];omega
   have j0:(0:Int) ≤ (q:Int):=by omega
   have j1:(q:Int) < (l.length:Int):=by omega
   clear hqe
   have C1:=fun w=>hf w p p2
   generalize cf p p2 = z at C1 HBAD HOK
   by_cases hz:z < 0
   ·have hz2:¬ (0:Int) ≤ z:=by omega
    have H:=Lib.hid (HOK.out hz)
    go_wp2_with fail
    refine wp_region_fr (by kernel_rfl) (by kernel_rfl) ?_
    iterate 10
     refine wpQ_take (v:=?_) (by rfl) (fun wS hS=>?_) ?_
     rotate_left
     ·obtain ⟨L1,L2,L3,L4,L5,L6⟩:=Fr.same hS;go_simp;try with_reducible rfl
     try simp only [sA1,sA2,sA3,Act.put,sA4,sA5,sA6]
    refine wpQ_call (by rfl) (fun wS hS=>⟨_,_,?qh444,Calls.fr hS (C1 _)⟩) ?qk444
    case qh444=>obtain ⟨L1,L2,L3,L4,L5,L6⟩:=Fr.same hS;go_simp;try with_reducible rfl
    try simp only [sA1,sA2,sA3,Act.put,sA4,sA5,sA6]
    refine wpQ_take (v:=?_) (by rfl) (fun wS hS=>?_) ?_
    rotate_left
    ·obtain ⟨L1,L2,L3,L4,L5,L6⟩:=Fr.same hS;go_simp;try with_reducible rfl
    try simp only [sA1,sA2,sA3,Act.put,sA4,sA5,sA6]
    refine wpQ_nil ?_
    intro w1 f1
    go_wp2_with fail
    go_roundg (l.length + 1 - (k + 1))
    case measure=>omega
    case rel=>exact ⟨k + 1,by simp,rfl,by omega,by omega,H.out,hf0.step0 f1⟩
   ·have hz2:(0:Int) ≤ z:=by omega
    have H:=Lib.hid (HBAD.out hz)
    clear hz
    go_wp2_with fail
    refine wp_region_fr (by kernel_rfl) (by kernel_rfl) ?_
    iterate 10
     refine wpQ_take (v:=?_) (by rfl) (fun wS hS=>?_) ?_
     rotate_left
     ·obtain ⟨L1,L2,L3,L4,L5,L6⟩:=Fr.same hS;go_simp;try with_reducible rfl
     try simp only [sA1,sA2,sA3,Act.put,sA4,sA5,sA6]
    refine wpQ_call (by rfl) (fun wS hS=>⟨_,_,?qh467,Calls.fr hS (C1 _)⟩) ?qk467
    case qh467=>obtain ⟨L1,L2,L3,L4,L5,L6⟩:=Fr.same hS;go_simp;try with_reducible rfl
    try simp only [sA1,sA2,sA3,Act.put,sA4,sA5,sA6]
    refine wpQ_take (v:=?_) (by rfl) (fun wS hS=>?_) ?_
    rotate_left
    ·obtain ⟨L1,L2,L3,L4,L5,L6⟩:=Fr.same hS;go_simp;try with_reducible rfl
    try simp only [sA1,sA2,sA3,Act.put,sA4,sA5,sA6]
    refine wpQ_nil ?_
    intro w1 f1
    go_wp2_with fail
    go_ret
    exact ⟨by rw [H.out];rfl,hf0.step0 f1⟩
  ·have e:riseB cf l = true:=HRI.out.2 (fun j h=>by
    have h1:=hj j (by omega)
    simp only at h1
    rw [dif_pos ⟨by omega,h⟩] at h1
    exact h1)
   have E:=Lib.hid e
   clear e hj
   go_wp2_with fail
   go_ret
   exact ⟨by rw [E.out];rfl,hf0⟩
end Go.Proofs.YtnkdnbjmhoegkaaGreat
namespace Go.Proofs.YtnkdnbjmhoegkaaGreat
open Go.RowKit
set_option maxRecDepth 100000 in
theorem oRD2_any (w:World) (x y:ItW):Calls Tryz.prog 86 #[.agg (codT.A x),.agg (codT.A y)] w (Gives w (.int .i64 (cmpS x.Node y.Node))):=by
 have f0:Fr noB w ((w.alloc (.cells (codT.A x) 63)).alloc (.cells (codT.A y) 63)):=((Fr.refl noB w).alloc _).alloc _
 have hz:(w.alloc (.cells (codT.A x) 63)).heap.size = w.heap.size + 1:=by simp
 have q1:=(itAt (Cod.rd_fr0 (Cod.rd_new w 63 x) ((Fr.refl noB _).alloc (.cells (codT.A y) 63)))).node
 have q2:=(itAt (Cod.rd_new (w.alloc (.cells (codT.A x) 63)) 63 y)).node
 rw [hz] at q2
 clear hz
 go_enter Tryz.func86,Tryz.ntmps86
 go_upto_region 1 with fail
 generalize (w.alloc (.cells (codT.A x) 63)).alloc (.cells (codT.A y) 63) = W0 at f0 q1 q2 ⊢
 generalize w.heap.size = P at q1 q2 ⊢
 go_wp2_with (go_at_call 27;refine (scmp_v _ x.Node y.Node).mono ?_;rintro e w1 ⟨rfl,f1⟩)
 go_ret
 exact ⟨rfl,f0.step0 f1⟩
set_option maxRecDepth 100000 in
theorem oRI1_any (w:World) (x y:Hd):Calls Tryz.prog 106 #[.agg (codH.A x),.agg (codH.A y)] w (Gives w (.int .i64 (cmpS x.At y.At))):=by
 have f0:Fr noB w ((w.alloc (.cells (codH.A x) 49)).alloc (.cells (codH.A y) 49)):=((Fr.refl noB w).alloc _).alloc _
 have hz:(w.alloc (.cells (codH.A x) 49)).heap.size = w.heap.size + 1:=by simp
 have q1:=(hdAt (Cod.rd_fr0 (Cod.rd_new w 49 x) ((Fr.refl noB _).alloc (.cells (codH.A y) 49)))).At
 have q2:=(hdAt (Cod.rd_new (w.alloc (.cells (codH.A x) 49)) 49 y)).At
 rw [hz] at q2
 clear hz
 go_enter Tryz.func106,Tryz.ntmps106
 go_upto_region 1 with fail
 generalize (w.alloc (.cells (codH.A x) 49)).alloc (.cells (codH.A y) 49) = W0 at f0 q1 q2 ⊢
 generalize w.heap.size = P at q1 q2 ⊢
 go_wp2_with (go_at_call 27;refine (scmp_v _ x.At y.At).mono ?_;rintro e w1 ⟨rfl,f1⟩)
 go_ret
 exact ⟨rfl,f0.step0 f1⟩
def itOf (r:ItW) (hs:List Hd):It:=⟨r.Node,r.At,r.Name,r.Sub,hs⟩
structure ItIn (w:World) (r:ItW) (x:It):Prop where
 eq:x = itOf r x.Heads
 len:x.Heads.length = r.n
 sl:Sl w r.A (codH.row x.Heads)
 bd:x.Heads.length ≤ 140737488355328
 nm:r.Name.length ≤ 140737488355328
theorem ItIn.fr {w w':World} {r:ItW} {o:It} (h:ItIn w r o) (f:Fr noB w w'):ItIn w' r o:=⟨h.eq,h.len,h.sl.fr0 f,h.bd,h.nm⟩
def HdR (W:World) (p:Hd → Bool) (hs:List Hd) (gk:Nat) (iv:Value) (wr:World):Prop:=∃ k:Nat,iv = .int .i64 (k:Int) ∧ gk = hs.length - k ∧ k ≤ hs.length ∧ Fr noB W wr ∧ (hs.take k).all p = true
set_option maxRecDepth 100000 in
set_option maxHeartbeats 2000000 in
theorem rightItem_any (w:World) (r:ItW) (x:It) (h:ItIn w r x):Calls Tryz.prog 84 #[.agg (codT.A r)] w (Gives w (.bool (rightIt x))):=by
 obtain ⟨he,hlen,hs,hbd,hnm⟩:=h
 generalize x.Heads = hd at he hlen hs hbd
 subst he
 have f0:Fr noB w (w.alloc (.cells (codT.A r) 63)):=(Fr.refl noB w).alloc _
 obtain ⟨q1,q2,q3,q4,q5,q6⟩:=itAt (Cod.rd_new w 63 r)
 have hP:w.heap.size < (w.alloc (.cells (codT.A r) 63)).heap.size:=by simp
 have hM:rightIt (itOf r hd) = (rightS r.Node && rightS r.At && decide (0 ≤ cmpS r.At r.Node) && nameOk r.Name && decide (r.n ≤ 1000) && (hd.all fun h=>rightS h.At && decide (0 < cmpS h.At r.Node) && decide (h.Data ≠ zID)) && riseB (fun a b:Hd=>cmpS a.At b.At) hd):=by unfold rightIt itOf;rw [hlen]
 have HM:=Lib.hid hM
 have HL:=Lib.hid hlen
 replace hs:=hs.fr0 f0
 clear hM hlen q4 q6
 go_enter Tryz.func84,Tryz.ntmps84
 go_upto_region 1 with fail
 generalize w.alloc (.cells (codT.A r) 63) = W0 at f0 hs q1 q2 q3 q5 hP ⊢
 generalize w.heap.size = P at q1 q2 q3 q5 hP ⊢
 have f1:Fr noB W0 W0:=Fr.refl _ _
 obtain ⟨L1,L2,L3,L4,L5,L6⟩:=f1.same
 go_wp2_with (first
  | (go_at_call 103;refine (right_v _ _).mono ?_;rintro e w2 ⟨rfl,f2⟩;replace f1:=f1.step0 f2;clear L1 L2 L3 L4 L5 L6;obtain ⟨L1,L2,L3,L4,L5,L6⟩:=f1.same)
  | (go_at_call 27;refine (scmp_v _ r.At r.Node).mono ?_;rintro e w2 ⟨rfl,f2⟩;replace f1:=f1.step0 f2;clear L1 L2 L3 L4 L5 L6;obtain ⟨L1,L2,L3,L4,L5,L6⟩:=f1.same)
  | (go_at_call 104;refine (name_any _ _ hnm).mono ?_;rintro e w2 ⟨rfl,f2⟩;replace f1:=f1.step0 f2;clear L1 L2 L3 L4 L5 L6;obtain ⟨L1,L2,L3,L4,L5,L6⟩:=f1.same))
 all_goals first
  | (go_ret
     refine ⟨?_,f0.step0 f1⟩
     rw [HM.out]
     first
     | (simp [*];done)
     | (have hle:¬ 0 ≤ cmpS r.At r.Node:=by omega
        simp [hle];done)
     | (have hle:¬ r.n ≤ 1000:=by omega
        simp [hle];done))
  | skip
 have HM2:Hid (rightIt (itOf r hd) = ((hd.all fun h=>rightS h.At && decide (0 < cmpS h.At r.Node) && decide (h.Data ≠ zID)) && riseB (fun a b:Hd=>cmpS a.At b.At) hd)):=Lib.hid (by
  rw [HM.out]
  have h6:r.n ≤ 1000:=by omega
  simp [*])
 clear HM L1 L2 L3 L4 L5 L6
 replace hs:=hs.fr0 f1
 have r4:=(f1.same.st _ 0 hP).trans q1
 have r9:=(f1.same.cell _ 37 hP).trans q5
 have hP1:P < w2.heap.size:=Nat.lt_of_lt_of_le hP f1.size
 replace f0:=f0.step0 f1
 clear q1 q2 q3 q5 hP f1
 rw [← HL.out] at r9 ⊢
 clear HL
 generalize r.A = A at hs r9 ⊢
 generalize hpp:(fun h:Hd=>rightS h.At && decide (0 < cmpS h.At r.Node) && decide (h.Data ≠ zID)) = pp at HM2
 have HPP:=Lib.hid hpp
 clear hpp
 go_loopg [38] hd.length (fun gk iv wr=>HdR w2 pp hd gk iv wr)
 case atStart=>exact ⟨0,rfl,by omega,by omega,Fr.refl _ _,by simp⟩
 case round =>
  obtain ⟨k,rfl,rfl,hk,hf,ha⟩:=hrel
  have HA:=Lib.hid ha
  clear ha
  by_cases hlt:k < hd.length
  ·have i1:(k:Int) < (hd.length:Int):=by omega
   obtain ⟨g,off,rfl,hg⟩:=hs.adC (by omega)
   have e1:codH.rd wr g (off + k * 34) = some hd[k]:=(hs.fr0 hf).rd k hlt
   have e4:=(hf.same.st _ 0 hP1).trans r4
   have hP2:P < wr.heap.size:=Nat.lt_of_lt_of_le hP1 hf.size
   have i0:(0:Int) ≤ (k:Int):=by omega
   have hpx:pp hd[k] = (rightS hd[k].At && decide (0 < cmpS hd[k].At r.Node) && decide (hd[k].Data ≠ zID)):=by rw [← HPP.out]
   have bad1:pp hd[k] = false → rightIt (itOf r hd) = false:=fun h=>by
    have h1:=all_take_succ pp hd k hlt
    rw [h,Bool.and_false] at h1
    rw [HM2.out,all_take_false h1];rfl
   have good1:pp hd[k] = true → (hd.take (k + 1)).all pp = true:=fun h=>by rw [all_take_succ pp hd k hlt,HA.out,h];rfl
   generalize hd[k] = x at e1 hpx bad1 good1
   have fA:Fr noB wr (wr.alloc (codH.o x)):=(Fr.refl noB wr).alloc _
   obtain ⟨n1,n2,n3⟩:=hdAt (Cod.rd_new' wr x)
   have n4:wr.heap.size < (wr.alloc (codH.o x)).heap.size:=by simp
   have BAD1:=Lib.hid bad1
   have GOOD1:=Lib.hid good1
   have HPX:=Lib.hid hpx
   clear bad1 good1 hpx n3
   go_wp2_with fail
   have s4:=(fA.same.st _ 0 hP2).trans e4
   have hP3:=Nat.lt_of_lt_of_le hP2 fA.size
   replace fA:=hf.step0 fA
   clear e1 e4 hP2
   generalize wr.alloc (codH.o x) = W at fA n1 n2 s4 hP3 n4 ⊢
   generalize wr.heap.size = N at n1 n2 n4 ⊢
   have f1:Fr noB W W:=Fr.refl _ _
   obtain ⟨L1,L2,L3,L4,L5,L6⟩:=f1.same
   go_wp2_with (first
    | (go_at_call 103;refine (right_v _ x.At).mono ?_;rintro e w3 ⟨rfl,f2⟩;replace f1:=f1.step0 f2;clear L1 L2 L3 L4 L5 L6;obtain ⟨L1,L2,L3,L4,L5,L6⟩:=f1.same)
    | (go_at_call 27;refine (scmp_v _ x.At r.Node).mono ?_;rintro e w3 ⟨rfl,f2⟩;replace f1:=f1.step0 f2;clear L1 L2 L3 L4 L5 L6;obtain ⟨L1,L2,L3,L4,L5,L6⟩:=f1.same))
   all_goals clear L1 L2 L3 L4 L5 L6 n1 n2 n4 s4
   all_goals first
    | (go_ret
       refine ⟨?_,(f0.step0 fA).step0 f1⟩
       rw [BAD1.out (by
        rw [HPX.out]
        first
        | (simp [*];done)
        | (have hle:¬ 0 < cmpS x.At r.Node:=by omega
           simp [hle];done)
        | (rename_i hor
           rcases hor with b | b
           ·exfalso;omega
           ·simp [b]))]
       rfl)
    | (have G1:=GOOD1.out (by
        rw [HPX.out]
        have hle:0 < cmpS x.At r.Node:=by omega
        simp [*])
       go_roundg (hd.length - (k + 1))
       case measure=>omega
       case rel=>exact ⟨k + 1,by simp,rfl,by omega,fA.step0 f1,G1⟩)
  ·have hkl:k = hd.length:=by omega
   subst hkl
   have i1:¬ (hd.length:Int) < (hd.length:Int):=by omega
   have e9:=(hf.same.cell _ 37 hP1).trans r9
   have h1:=HA.out
   rw [List.take_length] at h1
   have E:Hid (rightIt (itOf r hd) = riseB (fun a b:Hd=>cmpS a.At b.At) hd):=Lib.hid (by rw [HM2.out,h1,Bool.true_and])
   clear h1 hlt
   have hr:=oRiseHead_any wr A r.c hd.length hd rfl (hs.fr0 hf) hbd (fun a b=>cmpS a.At b.At) oRI1_any
   generalize riseB (fun a b:Hd=>cmpS a.At b.At) hd = b at E hr
   go_wp2_with (go_at_call 105;refine hr.mono ?_;rintro e w3 ⟨rfl,f2⟩)
   go_ret
   exact ⟨by rw [E.out];rfl,(f0.step0 hf).step0 f2⟩
structure ItsIn (w:World) (rs:List ItW) (xs:List It):Prop where
 len:rs.length = xs.length
 at_:∀ i (h:i < rs.length) (h':i < xs.length),ItIn w rs[i] xs[i]
theorem ItsIn.fr {w w':World} {rs:List ItW} {xs:List It} (h:ItsIn w rs xs) (f:Fr noB w w'):ItsIn w' rs xs:=⟨h.len,fun i h1 h2=>(h.at_ i h1 h2).fr f⟩
set_option maxRecDepth 100000 in
theorem rd1_any (w:World) (r:ItW) (x:It) (h:ItIn w r x):Calls Tryz.prog 83 #[.agg (codT.A r)] w (Gives w (.bool (!rightIt x))):=by
 have f0:Fr noB w (w.alloc (.cells (codT.A r) 63)):=(Fr.refl noB w).alloc _
 have q:=Cod.rd_new (C:=codT) w 63 r
 have hc:=Lib.hid (rightItem_any _ r x (h.fr f0))
 go_enter Tryz.func83,Tryz.ntmps83
 go_upto_region 1 with fail
 generalize w.alloc (.cells (codT.A r) 63) = W0 at f0 q hc ⊢
 go_wp2_with (go_at_call 84;refine hc.out.mono ?_;rintro e w1 ⟨rfl,f1⟩)
 go_ret
 exact ⟨by cases rightIt x <;> rfl,f0.step0 f1⟩
theorem riseB_map {α β:Type} (f:α → β) (cf:β → β → Int):∀ l:List α,riseB cf (l.map f) = riseB (fun a b=>cf (f a) (f b)) l
 | []=>rfl
 | [x]=>rfl
 | x :: y :: l=>by
  have:=riseB_map f cf (y :: l)
  simp only [List.map_cons] at this ⊢
  unfold riseB
  rw [this]
theorem any_not {α:Type} (p:α → Bool) (l:List α):l.any (fun x=>!p x) = !l.all p:=by
 induction l with
 | nil=>rfl
 | cons x l ih=>rw [List.any_cons,List.all_cons,ih,Bool.not_and]
theorem any_range {α:Type} (l:List α) (p:α → Bool) (q:Nat → Bool) (h:∀ i (hi:i < l.length),q i = p l[i]):(List.range l.length).any q = l.any p:=by
 rw [Bool.eq_iff_iff,List.any_eq_true,List.any_eq_true]
 constructor
 ·rintro ⟨i,hi,hq⟩
  have hi:=List.mem_range.1 hi
  exact ⟨l[i],List.getElem_mem hi,by rw [← h i hi];exact hq⟩
 ·rintro ⟨x,hx,hp⟩
  obtain ⟨i,hi,rfl⟩:=List.mem_iff_getElem.1 hx
  exact ⟨i,List.mem_range.2 hi,by rw [h i hi];exact hp⟩
set_option maxRecDepth 100000 in
set_option maxHeartbeats 1000000 in
theorem rightDir_any (w:World) (A:Option Addr) (c n:Nat) (rs:List ItW) (xs:List It) (hn:rs.length = n) (hs:Sl w A (codT.row rs)) (hb:rs.length ≤ 140737488355328) (h:ItsIn w rs xs) :
  Calls Tryz.prog 49 #[.slice A n c] w (Gives w (.bool (rightDr xs))):=by
 subst hn
 have hl:=h.len
 have hM:rightDr xs = (decide (rs.length ≤ 1000) && (!(List.range rs.length).any fun i=>if hi:i < xs.length then !rightIt xs[i] else true) && riseB (fun a b:ItW=>cmpS a.Node b.Node) rs):=by
  unfold rightDr
  rw [hl]
  congr 1
  ·congr 1
   rw [any_range xs (fun x=>!rightIt x) _ (fun i hi=>by rw [dif_pos hi]),any_not,Bool.not_not]
  ·have e:xs.map (·.Node) = rs.map (·.Node):=by
    refine List.ext_getElem (by simp [hl]) fun i h1 h2=>?_
    simp only [List.getElem_map]
    have:=(h.at_ i (by simpa using h2) (by simpa using h1)).eq
    rw [this];rfl
   have e1:=riseB_map (fun x:It=>x.Node) cmpS xs
   have e2:=riseB_map (fun x:ItW=>x.Node) cmpS rs
   rw [← e1,← e2,e]
 have HM:=Lib.hid hM
 clear hM
 have hC:=fun w1 (hf:Fr noB w w1)=>itContainsF_any w1 A c rs.length rs rfl (hs.fr0 hf) hb (.bool false) (fun i=>if hi:i < xs.length then !rightIt xs[i] else true) (fun w' hf' i hi=>by
  rw [dif_pos (by omega)]
  exact rd1_any w' rs[i] (xs[i]'(by omega)) ((h.fr (hf.step0 hf')).at_ i hi (by omega)))
 have hR:=fun w1 (hf:Fr noB w w1)=>oRiseItem_any w1 A c rs.length rs rfl (hs.fr0 hf) hb (fun a b=>cmpS a.Node b.Node) oRD2_any
 have HC:=Lib.hid hC
 have HR:=Lib.hid hR
 clear hC hR hl
 generalize (List.range rs.length).any (fun i=>if hi:i < xs.length then !rightIt xs[i] else true) = b1 at HC HM
 generalize riseB (fun a b:ItW=>cmpS a.Node b.Node) rs = b2 at HR HM
 have f1:Fr noB w w:=Fr.refl _ _
 go_enter Tryz.func49,Tryz.ntmps49
 go_wp2_with (first
  | (go_at_call 82;refine (HC.out _ f1).mono ?_;rintro e w3 ⟨rfl,f2⟩;replace f1:=f1.step0 f2)
  | (go_at_call 85;refine (HR.out _ f1).mono ?_;rintro e w3 ⟨rfl,f2⟩;replace f1:=f1.step0 f2))
 all_goals
  go_ret
  refine ⟨?_,f1⟩
  rw [HM.out]
  first
  | (simp [*];done)
  | (have hle:¬ rs.length ≤ 1000:=by omega
     simp [hle];done)
  | (have hle:rs.length ≤ 1000:=by omega
     simp [*];done)
end Go.Proofs.YtnkdnbjmhoegkaaGreat
namespace Go.Proofs.YtnkdnbjmhoegkaaGreat
open Go.RowKit
end Go.Proofs.YtnkdnbjmhoegkaaGreat
