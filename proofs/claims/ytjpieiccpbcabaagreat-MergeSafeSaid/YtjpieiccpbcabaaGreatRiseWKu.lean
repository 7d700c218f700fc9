/- Contract: obj.rise of IDs. -/
import Derived.Test.YtjpieiccpbcabaaGreatStWKu
import Derived.Test.YtjpieiccpbcabaaGreatIdRowKu
set_option linter.unusedVariables false
set_option linter.unusedSimpArgs false
namespace Go.Proofs.YtjpieiccpbcabaaGreat
open Go.RowKit
theorem Sl.ad {w:World} {A:Option Addr} {l:List ID} (h:Sl w A (idc l)) (hl:0 < l.length):∃ g off,A = some ⟨g,off,none⟩:=by
 obtain ⟨g,off,e,_⟩:=h (by intro h0;have:=idc_length l;rw [h0] at this;simp at this;omega)
 exact ⟨g,off,e⟩
theorem grow_fr {w w':World} (h:∃ q os,w' = Go.Sort.grow (w.drewN q) os):Fr noB w w':=by
 obtain ⟨q,os,rfl⟩:=h
 refine ⟨rfl,rfl,rfl,by simp [Go.Sort.grow,World.drewN],fun k hk _=>?_⟩
 simp [Go.Sort.grow,World.drewN,Array.getElem?_append_left hk]
theorem riseB_iff {α:Type} (cf:α → α → Int):∀ l:List α,riseB cf l = true ↔ ∀ j (h:j + 1 < l.length),cf (l[j]'(by omega)) l[j + 1] < 0
 | []=>by simp [riseB]
 | [x]=>by simp [riseB]
 | x :: y :: l=>by
  unfold riseB
  rw [Bool.and_eq_true,decide_eq_true_eq,riseB_iff cf (y :: l)]
  constructor
  ·rintro ⟨h1,h2⟩ j hj
   cases j with
   | zero=>exact h1
   | succ j=>exact h2 j (by simpa using hj)
  ·intro h
   exact ⟨h 0 (by simp),fun j hj=>h (j + 1) (by simpa using hj)⟩
def RisR (W:World) (n:Nat) (cf:Nat → Nat → Int) (gk:Nat) (iv:Value) (wr:World):Prop:=∃ k:Nat,iv = .int .i64 (k:Int) ∧ gk = n + 1 - k ∧ 1 ≤ k ∧ (k ≤ n ∨ k = 1) ∧ (∀ j,j + 1 < k → cf j (j + 1) < 0) ∧ Fr noB W wr
set_option maxRecDepth 100000 in
set_option maxHeartbeats 1000000 in
theorem riseID_any (w:World) (A:Option Addr) (c n:Nat) (l:List ID) (hn:l.length = n) (hs:Sl w A (idc l)) (hb:l.length ≤ 140737488355328) :
  Calls Tryz.prog 123 #[.slice A n c,.func (.func 88) #[] #[]] w (Gives w (.bool (riseB cmpI l))):=by
 subst hn
 have hri:=riseB_iff cmpI l
 have HRI:=Lib.hid hri
 clear hri
 go_enter Tryz.func123,Tryz.ntmps123
 go_wp2_with fail
 go_loopg [5] l.length (fun gk iv wr=>RisR w l.length (fun i j=>if h:i < l.length ∧ j < l.length then cmpI (l[i]'h.1) (l[j]'h.2) else 0) gk iv wr)
 case atStart=>exact ⟨1,rfl,by omega,by omega,.inr rfl,fun j hj=>by omega,Fr.refl _ _⟩
 case round =>
  obtain ⟨k,rfl,rfl,hk1,hk2,hj,hf⟩:=hrel
  by_cases hlt:k < l.length
  ·have i0:(0:Int) ≤ (k:Int):=by omega
   have i1:(k:Int) < (l.length:Int):=by omega
   obtain ⟨g,off,rfl⟩:=hs.ad (by omega)
   have q2:k - 1 < l.length:=by omega
   have r1:=(hs.fr0 hf.drew).id (k - 1) q2
   have r2:=(hs.fr0 hf.drew).id k hlt
   have hbad:¬ cmpI (l[k - 1]'q2) l[k] < 0 → riseB cmpI l = false:=fun h=>by
    rw [← Bool.not_eq_true]
    intro ht
    have:=HRI.out.1 ht (k - 1) (by omega)
    simp only [show k - 1 + 1 = k by omega] at this
    exact h this
   have hok:cmpI (l[k - 1]'q2) l[k] < 0 → ∀ j,j + 1 < k + 1 → (fun i j=>if h:i < l.length ∧ j < l.length then cmpI (l[i]'h.1) (l[j]'h.2) else 0) j (j + 1) < 0:=fun h j hjk=>by
    rcases Nat.lt_or_ge (j + 1) k with h1 | h1
    ·exact hj j h1
    ·have e:j = k - 1:=by omega
     subst e
     simp only
     rw [dif_pos ⟨by omega,by omega⟩]
     simp only [show k - 1 + 1 = k by omega]
     exact h
   generalize l[k - 1]'q2 = p at r1 hbad hok
   generalize l[k] = p2 at r2 hbad hok
   have HBAD:=Lib.hid hbad
   have HOK:=Lib.hid hok
   clear hbad hok hj
   generalize hqe:k - 1 = q at r1 q2
   have m1:IntKind.i64.wrap ((k:Int) - 1) = (q:Int):=by rw [IntKind.wrap_i64];omega
   have j0:(0:Int) ≤ (q:Int):=by omega
   have j1:(q:Int) < (l.length:Int):=by omega
   clear hqe
   have keep:∀ w' w'':World,Fr noB w' w'' → (rdI w' g (off + q * 32) = some p ∧ rdI w' g (off + k * 32) = some p2) → (rdI w'' g (off + q * 32) = some p ∧ rdI w'' g (off + k * 32) = some p2):=fun w' w'' f h =>
    ⟨rdI_fr h.1 (rdI_lt h.1) f (by simp [noB]),rdI_fr h.2 (rdI_lt h.2) f (by simp [noB])⟩
   go_wp2_with fail
   refine wp_region_M 11 12 [⟨4096,2,0⟩,⟨8192,1,0⟩,⟨16384,32,0⟩,⟨32768,16384,4⟩,⟨65536,40960,10⟩,⟨131072,65536,16⟩,⟨262144,1,0⟩,⟨524288,32,0⟩,⟨1048576,786432,192⟩,⟨2097152,1048576,256⟩,⟨4194304,2232320,545⟩,⟨8388608,4194304,1024⟩] [(true,0),(true,1),(true,2),(true,3),(true,4),(true,5),(true,6),(true,7),(true,8),(true,9),(false,10)] (fun w'=>rdI w' g (off + q * 32) = some p ∧ rdI w' g (off + k * 32) = some p2) (by kernel_rfl) rfl (by kernel_rfl) (by kernel_rfl) (by kernel_rfl) ⟨r1,r2⟩ (fun hA hF=>?_)
   iterate 10
    refine wpAnyS_take (v:=?_) hA rfl (fun _ _ _ h=>h) (Or.inl ⟨by rfl,?_⟩) hF (fun hA=>?_)
    rotate_left
    ·intro wS hSw;(try dsimp only at hSw);obtain ⟨s1,s2⟩:=hSw;first | (apply Eq.trans;apply ex_ld_id;exact rfl;exact rfl;assumption;with_reducible rfl) | (go_simp;try with_reducible rfl)
    try simp only [sA1,sA2,sA3,Act.put,sA4,sA5,sA6]
   refine wpAnyS_one hA rfl (fun K' hK=>?_)
   go_simp
   go_at_call 88
   refine (cmp_any _ p p2).mono ?_
   rintro e u1 ⟨rfl,hg⟩
   have hu1:Fr noB wr.drew u1:=grow_fr hg
   replace hF:=keep _ _ hu1 hF
   refine hK.out _ _ hF (fun hA=>?_)
   clear hK K'
   as_aux_lemma =>
   obtain ⟨z,hzz⟩:∃ z,cmpI p p2 = z:=⟨_,rfl⟩
   rw [hzz]
   have HZZ:=Lib.hid hzz
   clear hzz
   by_cases hz:z < 0
   ·have e1:decide ((0:Int) ≤ z) = false:=by simp;omega
    have hz2:¬ (0:Int) ≤ z:=by omega
    have H:=Lib.hid (HOK.out (by rw [HZZ.out];exact hz))
    clear hz
    refine wpAnyS_end hA rfl ?_
    simp only [List.drop_succ_cons,List.drop_zero]
    clear hF
    go_wp2_with fail
    go_roundg (l.length + 1 - (k + 1))
    case measure=>omega
    case rel=>exact ⟨k + 1,by simp,rfl,by omega,by omega,H.out,hf.drew.step0 hu1⟩
   ·have e1:decide ((0:Int) ≤ z) = true:=by simp;omega
    have hz2:(0:Int) ≤ z:=by omega
    have H:=Lib.hid (HBAD.out (by rw [HZZ.out];first | exact hz | exact hz2))
    clear hz
    refine wpAnyS_end hA rfl ?_
    simp only [List.drop_succ_cons,List.drop_zero]
    clear hF
    go_wp2_with fail
    go_ret
    exact ⟨by rw [H.out];rfl,hf.drew.step0 hu1⟩
  ·have e:riseB cmpI l = true:=HRI.out.2 (fun j h=>by
    have h1:=hj j (by omega)
    simp only at h1
    rw [dif_pos ⟨by omega,h⟩] at h1
    exact h1)
   have E:=Lib.hid e
   clear e hj
   go_wp2_with fail
   go_ret
   exact ⟨by rw [E.out];rfl,hf⟩
end Go.Proofs.YtjpieiccpbcabaaGreat
