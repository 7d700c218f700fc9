/- Contract: Bases. -/
import Derived.Test.YtjpieiccpbcabaaGreatDagW7Ku
set_option linter.unusedVariables false
set_option linter.unusedSimpArgs false
namespace Go.Proofs.YtjpieiccpbcabaaGreat
open Go.RowKit Go.Maps Go.Sort Go.Shelf
section
variable {P:Program} {ops:Array Oper} {Q:Exit → Act → World → Prop} {md:Region.Mode} {F:World → Prop} {n:Nat}
theorem wpAnyN_two {i j:Nat} {o o':Oper} {fuel:Nat} {listed:Array Bool} {a:Act} {w:World} (hA:RegAt md ops n listed) (hr:Region.ready md ops listed = [i,j]) (hin:i < n) (hjn:j < n) (hi:ops[i]? = some o) (hj:ops[j]? = some o')
  (h:∀ K:Act → World → Prop,Hid (∀ a' w',F w' → (RegAt md ops n (listed.setIfInBounds i true) → wpAnyN P md ops Q F n fuel (listed.setIfInBounds i true) a' w') → K a' w') →
   if Region.wanted o (yielded ops a.tmps) = true then Oper.wp P o a w K Q else K (a.put o.dst undef) w)
  (h':∀ K:Act → World → Prop,Hid (∀ a' w',F w' → (RegAt md ops n (listed.setIfInBounds j true) → wpAnyN P md ops Q F n fuel (listed.setIfInBounds j true) a' w') → K a' w') →
   if Region.wanted o' (yielded ops a.tmps) = true then Oper.wp P o' a w K Q else K (a.put o'.dst undef) w):wpAnyN P md ops Q F n (fuel + 1) listed a w:=by
 refine ⟨fun h0=>(by rw [hr] at h0;cases h0),fun k hk=>?_⟩
 have step:∀ (k:Nat) (o:Oper),k < n → ops[k]? = some o → k ∈ Region.ready md ops listed →
   (∀ K:Act → World → Prop,Hid (∀ a' w',F w' → (RegAt md ops n (listed.setIfInBounds k true) → wpAnyN P md ops Q F n fuel (listed.setIfInBounds k true) a' w') → K a' w') →
   if Region.wanted o (yielded ops a.tmps) = true then Oper.wp P o a w K Q else K (a.put o.dst undef) w) →
   wpOp P ops Q k (fun a' w'=>(k < n → F w') ∧ wpAnyN P md ops Q F n fuel (listed.setIfInBounds k true) a' w') a w:=by
  intro k o hkn ho hk hh
  have hA':RegAt md ops n (listed.setIfInBounds k true):=⟨hA.inv.set hk hkn,hA.b⟩
  have:=hh (fun a' w'=>(k < n → F w') ∧ wpAnyN P md ops Q F n fuel (listed.setIfInBounds k true) a' w') (fun a' w' hF hW=>⟨fun _=>hF,hW hA'⟩)
  unfold wpOp
  simp only [ho]
  split
  ·rename_i hw;rw [if_pos hw] at this;exact .inl this
  ·rename_i hw;rw [if_neg hw] at this;exact this
 have hk':=hk
 rw [hr] at hk'
 simp only [List.mem_cons,List.not_mem_nil,or_false] at hk'
 rcases hk' with rfl | rfl
 ·exact step k o hin hi hk h
 ·exact step k o' hjn hj hk h'
end
def BelX (G:Dg) (B:Nat) (dn:List ID) (wr:World):Prop:=∃ bl,mpI wr B = some (setV bl) ∧ ∀ z,z ∈ bl ↔ ∃ d ∈ dn,z ∈ (parents G d).getD []
theorem KidR.next {ks ks' ps:List ID} {wA wp w':World} {K k:Nat} {pa:ID} (fp:Fr (oneB K) wA wp) (u3:Fr (oneB K) wp w') (u2:mpI w' K = some (putL (setV ks') pa (.bool true))) (HG:∀ y,y ∈ ks' ↔ y ∈ ks ∨ y ∈ ps.take k) (hpk:ps[k]? = some pa) :
  KidR ks ps wA K (ps.length - (k + 1)) (.int .i64 ((k:Int) + 1)) w':=by
 refine ⟨k + 1,if pa ∈ ks' then ks' else ks' ++ [pa],by simp,rfl,fp.trans u3 (fun _ _ h=>h),by rw [u2,put_setV],fun y=>?_,(List.getElem?_eq_some_iff.1 hpk).1⟩
 rw [List.take_add_one,hpk]
 have e2:y ∈ (if pa ∈ ks' then ks' else ks' ++ [pa]) ↔ y ∈ ks' ∨ y = pa:=by
  split
  ·rename_i hm
   exact ⟨.inl,fun h=>h.elim id (fun e=>by rw [e];exact hm)⟩
  ·simp
 rw [e2,HG y]
 simp only [Option.toList_some,List.mem_append,List.mem_singleton,or_assoc]
set_option maxRecDepth 100000 in
set_option maxHeartbeats 2000000 in
theorem bases_any (w:World) (D:Nat) (F:Nat → Prop) (G:Dg) (h:DagAt w D F G) (x y:ID) :
  Calls Tryz.prog 51 #[.pointer (some ⟨D,0,none⟩),encI x,encI y] w (NewRise w cmpI (fun z=>(ancG G x z = true ∧ ancG G y z = true) ∧ ¬ ∃ d ps,(ancG G x d = true ∧ ancG G y d = true) ∧ parents G d = some ps ∧ z ∈ ps)):=by
 have hd:=h
 obtain ⟨A,K,kv,ks,h⟩:=h
 go_enter Tryz.func51,Tryz.ntmps51
 go_wp2_with fail
 rename_i Q1 K1 hK1
 have cont:∀ (v19 v23:Value) (w1:World) (R1 R2:Nat) (l1 l2:List ID),Fr noB w w1 → mpI w1 R1 = some (setV l1) → (∀ z,z ∈ l1 ↔ ancG G x z = true) → mpI w1 R2 = some (setV l2) → (∀ z,z ∈ l2 ↔ ancG G y z = true) →
   K1 { tmps:=#[.pointer (some ⟨D,0,none⟩),encI x,encI y,undef,.pointer (some ⟨w.heap.size,0,none⟩),.pointer (some ⟨w.heap.size + 1,0,none⟩),.slice none 0 0,.map (some R1),.map (some R2),undef,undef,undef,undef,undef,undef,undef,undef,.pointer (some ⟨D,0,none⟩),encI x,v19,.map (some R1),.pointer (some ⟨D,0,none⟩),encI y,v23,.map (some R2),undef,undef,undef,undef,undef,undef,undef,undef,undef,undef,undef,undef,undef,undef,undef,undef,undef,undef,undef,undef,undef,undef,undef,undef,undef,undef,undef,undef,undef,undef,undef,undef,undef,undef,undef,undef,undef,undef,undef,undef,undef,undef,undef,undef,undef,undef,undef,undef,undef,undef,undef],defers:=[] } w1:=by
  intro v19 v23 w1 R1 R2 l1 l2 F1 m1 hl1 m2 hl2
  refine hK1 _ _ ?_
  clear hK1
  have nd1:l1.Nodup:=by have:=mpI_nd m1;rwa [keys_setV] at this
  have ma:mpI (w1.alloc (.map #[] 0)) R1 = some (setV l1):=by rw [mpI_old _ _ _ (mpI_lt m1)];exact m1
  have mc:mpI (w1.alloc (.map #[] 0)) w1.heap.size = some []:=mpI_new w1
  have fa:Fr noB w1 (w1.alloc (.map #[] 0)):=(Fr.refl noB w1).alloc _
  obtain ⟨_,hrg⟩:=rng_all Tryz.underlying102 ma
  have fb:Fr noB (w1.alloc (.map #[] 0)) ((w1.alloc (.map #[] 0)).alloc (rngO (w1.alloc (.map #[] 0)) R1)):=(Fr.refl noB _).alloc _
  have mc2:=mpI_fr mc fb (by simp [noB])
  rw [World.size_alloc] at hrg
  have fab:=fa.step0 fb
  clear mc fb fa
  go_wp2_with fail
  generalize ew:(w1.alloc (.map #[] 0)).alloc (rngO (w1.alloc (.map #[] 0)) R1) = w2 at hrg mc2 fab ⊢
  clear ew ma
  go_loopg [] l1.length (fun gk wr=>RanR w1 (w1.heap.size + 1) R1 (setV l1) (fun dn wr=>mpI wr w1.heap.size = some (setV (dn.filter (fun z=>decide (z ∈ l2))))) gk wr)
  case atStart=>exact ⟨[],setV l1,by simp [setV],hrg,by simp,fab,mc2⟩
  case round =>
   obtain ⟨dn,left,rfl,hr,hpm,hf,hx⟩:=hrel
   rcases hr.next keyI hr.ne 0 with ⟨h0,hrun⟩ | ⟨q1,p,q2,w3,h0,hp,hrun,hr3,hf3,hent⟩
   ·subst h0
    rw [List.map_nil,List.append_nil,keys_setV] at hpm
    have hcm:∀ z,z ∈ dn.filter (fun z=>decide (z ∈ l2)) ↔ ancG G x z = true ∧ ancG G y z = true:=by
     intro z
     rw [List.mem_filter,hpm.mem_iff,hl1,decide_eq_true_eq,hl2]
    have ndc:(dn.filter (fun z=>decide (z ∈ l2))).Nodup:=(hpm.nodup_iff.2 nd1).filter _
    have hlc:(dn.filter (fun z=>decide (z ∈ l2))).length ≤ G.length:=nd_len ndc (fun z hz=>(anc_has h.ok ((hcm z).1 hz).1).2)
    have hle:=h.le
    generalize dn.filter (fun z=>decide (z ∈ l2)) = cm at hx hcm ndc hlc
    have HC:=Lib.hid hcm
    have Fl:Fr noB w wr:=F1.step0 hf
    clear hcm hpm hl1 hl2 m1 m2 hr mc2 hrg fab
    obtain ⟨wl,ewl⟩:∃ wl,wl = wr:=⟨_,rfl⟩
    subst ewl
    have lC:=mpI_lt hx
    have ma:mpI (wl.alloc (.map #[] 0)) w1.heap.size = some (setV cm):=by rw [mpI_old _ _ _ lC];exact hx
    have mc:mpI (wl.alloc (.map #[] 0)) wl.heap.size = some []:=mpI_new wl
    have fa:Fr noB wl (wl.alloc (.map #[] 0)):=(Fr.refl noB wl).alloc _
    obtain ⟨_,hrg⟩:=rng_all Tryz.underlying102 ma
    have fb:Fr noB (wl.alloc (.map #[] 0)) ((wl.alloc (.map #[] 0)).alloc (rngO (wl.alloc (.map #[] 0)) w1.heap.size)):=(Fr.refl noB _).alloc _
    have mc2:=mpI_fr mc fb (by simp [noB])
    rw [World.size_alloc] at hrg
    have fab:=fa.step0 fb
    clear mc fb fa
    go_wp2_with fail
    generalize ew:(wl.alloc (.map #[] 0)).alloc (rngO (wl.alloc (.map #[] 0)) w1.heap.size) = w2 at hrg mc2 fab ⊢
    clear ew ma
    go_loopg [] cm.length (fun gk wr=>RanR wl (wl.heap.size + 1) w1.heap.size (setV cm) (BelX G wl.heap.size) gk wr)
    case atStart=>exact ⟨[],setV cm,by simp [setV],hrg,by simp,fab,[],mc2,by simp⟩
    case round =>
     obtain ⟨dn,left,rfl,hr,hpm,hf2,bl,hbl,hbm⟩:=hrel
     rcases hr.next keyI hr.ne 0 with ⟨h0,hrun⟩ | ⟨q1,p,q2,w3,h0,hp,hrun,hr3,hf3,hent⟩
     ·subst h0
      rw [List.map_nil,List.append_nil,keys_setV] at hpm
      have hbm2:∀ z,z ∈ bl ↔ ∃ d ∈ cm,z ∈ (parents G d).getD []:=fun z=>by
       rw [hbm z]
       exact ⟨fun ⟨d,h1,h2⟩=>⟨d,hpm.mem_iff.1 h1,h2⟩,fun ⟨d,h1,h2⟩=>⟨d,hpm.mem_iff.2 h1,h2⟩⟩
      have HB:=Lib.hid hbm2
      have hxc:=hr.mp
      clear hbm2 hbm hpm hrg mc2 fab hr
      obtain ⟨wm,ewm⟩:∃ wm,wm = wr:=⟨_,rfl⟩
      subst ewm
      have Fm:Fr noB w wm:=Fl.step0 hf2
      obtain ⟨_,hrg⟩:=rng_all Tryz.underlying102 hxc
      have fab:Fr noB wm (wm.alloc (rngO wm w1.heap.size)):=(Fr.refl noB wm).alloc _
      go_wp2_with fail
      generalize ew:wm.alloc (rngO wm w1.heap.size) = w2 at hrg fab ⊢
      clear ew
      go_loopg [15] cm.length (fun gk iv wr=>RanR wm wm.heap.size w1.heap.size (setV cm) (Gat wm (fun z=>!decide (z ∈ bl)) iv) gk wr)
      case atStart=>exact ⟨[],setV cm,by simp [setV],hrg,by simp,fab,none,0,rfl,World.ownsRow_nil _ _ _ _⟩
      case round =>
       obtain ⟨dn,left,rfl,hr,hpm,hf,Ao,co,rfl,ho⟩:=hrel
       have hpl:=hpm.length_eq
       rw [List.length_append,List.length_map,List.length_map] at hpl
       have hcl:(setV cm).length = cm.length:=by simp [setV]
       rw [hcl] at hpl
       have hfl:=List.length_filter_le (fun z=>!decide (z ∈ bl)) dn
       generalize eout:dn.filter (fun z=>!decide (z ∈ bl)) = out at ho hfl ⊢
       have EO:=Lib.hid eout
       clear eout
       have Fr1:Fr noB w wr:=Fm.step0 hf
       rcases hr.next keyI hr.ne 0 with ⟨h0,hrun⟩ | ⟨q1,p,q2,w3,h0,hp,hrun,hr3,hf3,hent⟩
       ·subst h0
        rw [List.map_nil,List.append_nil,keys_setV] at hpm
        have HP:=Lib.hid hpm
        clear hpm
        go_wp2_with fail
        go_at_call 87
        refine (sortC_any wm wr Ao co _ out rfl ho (by simp at hpl;omega)).mono ?_
        rintro e w4 ⟨rfl,ho4,hf4⟩
        go_wp2
        go_ret
        have hpm:=HP.out
        have nd:dn.Nodup:=hpm.nodup_iff.2 ndc
        have nd2:out.Nodup:=by rw [← EO.out];exact nd.filter _
        refine ⟨sortBy cmpI out,⟨Ao,co,by rw [sortBy_length];rfl,own_base ho4 Fm.size,Fr1.step hf4 (fun b hb=>.inl ?_)⟩,sortBy_rise swoI totI nd2,fun z=>?_,by rw [sortBy_length];simp at hpl;omega⟩
        ·cases Ao with
         | none=>cases hb
         | some a=>simp at hb;rw [← hb];exact Nat.le_trans Fm.size ((Off.own ho) _ rfl).1
        ·rw [sortBy_mem,← EO.out,List.mem_filter,hpm.mem_iff,HC.out]
         refine and_congr_right (fun _=>?_)
         rw [Bool.not_eq_true',decide_eq_false_iff_not,HB.out]
         refine not_congr ?_
         constructor
         ·rintro ⟨d,h1,h2⟩
          cases hpd:parents G d with
          | none=>rw [hpd] at h2;simp at h2
          | some ps=>rw [hpd] at h2;exact ⟨d,ps,(HC.out d).1 h1,hpd,h2⟩
         ·rintro ⟨d,ps,h1,h2,h3⟩
          exact ⟨d,(HC.out d).2 h1,by rw [h2];exact h3⟩
       ·subst h0
        have hne1:=hr.ne_own ho
        have ho3:OwnD wm w3 Ao co out:=own_fr ho hf3 (fun g hg e=>by rw [ownBlock_sl] at hg;exact (hne1 g hg).1 e)
        have he:=hent noB w3 (Fr.refl _ _) (by simp [noB]) (by simp [noB])
        have F3:Fr noB wm w3:=hf.step1 hf3 (Nat.le_refl _)
        have fa:Fr noB w3 (w3.alloc (ido p.1)):=(Fr.refl noB w3).alloc _
        have rp:rdI (w3.alloc (ido p.1)) w3.heap.size 0 = some p.1:=rdI_new _ _
        have mxb:mpI (w3.alloc (ido p.1)) wl.heap.size = some (setV bl):=mpI_fr hbl (F3.step0 fa) (by simp [noB])
        have lks:=look_set bl p.1
        have HP:=Lib.hid hpm
        clear hpm hent
        simp only [List.length_append,List.length_cons] at hpl
        have rx:=hr3.fr fa (by simp [noB]) (by simp [noB])
        have hox:OwnD wm (w3.alloc (ido p.1)) Ao co out:=own_fr ho3 fa (fun _ _=>by simp [noB])
        have Fx:=F3.step0 fa
        by_cases hk:p.1 ∈ bl
        ·have hd:decide (p.1 ∈ bl) = true:=by simp [hk]
         have HK:=Lib.hid hk
         clear hk
         rw [hd] at lks
         go_wp2
         go_roundg (q1 ++ q2).length
         case measure=>simp
         case rel =>
          have ef:(dn ++ [p.1]).filter (fun z=>!decide (z ∈ bl)) = out:=by rw [List.filter_append,EO.out];simp [HK.out]
          refine ⟨dn ++ [p.1],q1 ++ q2,rfl,rx,ran_perm HP.out,Fx,Ao,co,?_,?_⟩
          ·rw [ef]
          ·rw [ef];exact hox
        ·have hd:decide (p.1 ∈ bl) = false:=by simp [hk]
         have HK:=Lib.hid hk
         clear hk
         rw [hd] at lks
         have F4:Fr noB (w3.alloc (ido p.1)) ((w3.alloc (ido p.1)).alloc (rowo [p.1])):=(Fr.refl noB _).alloc _
         have ho4:OwnD wm ((w3.alloc (ido p.1)).alloc (rowo [p.1])) Ao co out:=own_fr hox F4 (fun _ _=>by simp [noB])
         have hsl:Sl ((w3.alloc (ido p.1)).alloc (rowo [p.1])) (some ⟨w3.heap.size + 1,0,none⟩) (idc [p.1]):=by
          have:=sl_new (w3.alloc (ido p.1)) [p.1]
          rwa [World.size_alloc] at this
         have hsz:=(Fx.step0 F4).size
         go_wp2_with (at_builtin;refine wpList_appD wm _ rfl _ _ rfl Ao _ co out rfl rfl ho4 (some ⟨w3.heap.size + 1,0,none⟩) 1 1 [p.1] rfl hsl rfl (by simp;omega) hsz ?_;intro A5 c5 w5 hc5 hm5 ho5 hg5 hA5)
         go_roundg (q1 ++ q2).length
         case measure=>simp
         case rel =>
          have r4:=rx.fr F4 (by simp [noB]) (by simp [noB])
          have fg:Fr (fun b=>Ao.map (·.block) = some b) ((w3.alloc (ido p.1)).alloc (rowo [p.1])) w5:=Fr.ofGrown hg5 (fun g hg=>hg)
          have hne4:=r4.ne_own ho4
          have ef:(dn ++ [p.1]).filter (fun z=>!decide (z ∈ bl)) = out ++ [p.1]:=by rw [List.filter_append,EO.out];simp [HK.out]
          refine ⟨dn ++ [p.1],q1 ++ q2,rfl,r4.fr fg (fun e=>(hne4 _ e).1 rfl) (fun e=>(hne4 _ e).2 rfl),ran_perm HP.out,(Fx.step0 F4).step fg (fun g hg=>?_),A5,c5,?_,?_⟩
          ·cases Ao with
           | none=>cases hg
           | some ad=>simp at hg;rw [← hg];exact .inl ((Off.own ho) _ rfl).1
          ·rw [ef];simp
          ·rw [ef];exact ho5
     ·subst h0
      have he:=hent noB w3 (Fr.refl _ _) (by simp [noB]) (by simp [noB])
      have F3:Fr noB wl w3:=hf2.step1 hf3 (by omega)
      have rp:rdI (w3.alloc (ido p.1)).drew w3.heap.size 0 = some p.1:=by rw [rdI_drew,rdI_new]
      have fa:Fr noB w3 (w3.alloc (ido p.1)).drew:=((Fr.refl noB w3).alloc _).drew
      have F4:Fr noB w (w3.alloc (ido p.1)).drew:=Fl.step0 (F3.step0 fa)
      have h4:=h.fr0 F4
      obtain ⟨B,cB,hn,hB,hBF⟩:=h.node p.1
      have hps:((parents G p.1).getD []).length ≤ 2:=by
       cases hpp:parents G p.1 with
       | none=>simp
       | some ps=>exact (okG_par h.ok hpp).2.1
      have mxb:mpI (w3.alloc (ido p.1)).drew wl.heap.size = some (setV bl):=mpI_fr (mpI_fr hbl hf3 (fun e=>by have e':wl.heap.size = wl.heap.size + 1:=e;omega)) fa (by simp [noB])
      have rx:=hr3.fr fa (by simp [noB]) (by simp [noB])
      have HP:=Lib.hid hpm
      have HB:=Lib.hid hbm
      clear hpm hent hbm hbl
      generalize eps:(parents G p.1).getD [] = ps at hn hB hps
      have EP:=Lib.hid eps
      clear eps
      go_wp2_with fail
      refine wp_region_H (fun w'=>w'.cell? ⟨D,0,none⟩ = some (.map (some A)) ∧ mpI w' A = some kv ∧ rdI w' w3.heap.size 0 = some p.1) (by kernel_rfl) ⟨h4.c0,h4.all,rp⟩ (fun hF=>?_)
      refine wpAnyH_take (i:=0) (v:=?_) rfl (by kernel_rfl) (by kernel_rfl) (by kernel_rfl) (fun _ _ _ h=>h) (Or.inl ⟨by rfl,?_⟩) hF ?_
      rotate_left
      ·intro wS hSw;(try dsimp only at hSw);obtain ⟨s1,s2,s3⟩:=hSw;first | (apply Eq.trans;apply ex_ld_id;exact rfl;exact rfl;assumption;with_reducible rfl) | (go_simp;try with_reducible rfl)
      try simp only [sA1,sA2,sA3,Act.put,sA4,sA5,sA6]
      refine wpAnyH_take (i:=1) (v:=?_) rfl (by kernel_rfl) (by kernel_rfl) (by kernel_rfl) (fun _ _ _ h=>h) (Or.inl ⟨by rfl,?_⟩) hF ?_
      rotate_left
      ·intro wS hSw;(try dsimp only at hSw);obtain ⟨s1,s2,s3⟩:=hSw;first | (apply Eq.trans;apply ex_ld_id;exact rfl;exact rfl;assumption;with_reducible rfl) | (go_simp;try with_reducible rfl)
      try simp only [sA1,sA2,sA3,Act.put,sA4,sA5,sA6]
      refine wpAnyH_take (i:=2) (v:=?_) rfl (by kernel_rfl) (by kernel_rfl) (by kernel_rfl) (fun _ _ _ h=>h) (Or.inl ⟨by rfl,?_⟩) hF ?_
      rotate_left
      ·intro wS hSw;(try dsimp only at hSw);obtain ⟨s1,s2,s3⟩:=hSw;first | (apply Eq.trans;apply ex_ld_id;exact rfl;exact rfl;assumption;with_reducible rfl) | (go_simp;try with_reducible rfl)
      try simp only [sA1,sA2,sA3,Act.put,sA4,sA5,sA6]
      refine wpAnyH_take (i:=3) (v:=?_) rfl (by kernel_rfl) (by kernel_rfl) (by kernel_rfl) (fun _ _ _ h=>h) (Or.inl ⟨by rfl,?_⟩) hF ?_
      rotate_left
      ·intro wS hSw;(try dsimp only at hSw);obtain ⟨s1,s2,s3⟩:=hSw;first | (apply Eq.trans;apply ex_ld_id;exact rfl;exact rfl;assumption;with_reducible rfl) | (go_simp;try with_reducible rfl)
      try simp only [sA1,sA2,sA3,Act.put,sA4,sA5,sA6]
      refine wpAnyH_take (i:=4) (v:=?_) rfl (by kernel_rfl) (by kernel_rfl) (by kernel_rfl) (fun _ _ _ h=>h) (Or.inl ⟨by rfl,?_⟩) hF ?_
      rotate_left
      ·intro wS hSw;(try dsimp only at hSw);obtain ⟨s1,s2,s3⟩:=hSw;first | (apply Eq.trans;apply ex_ld_id;exact rfl;exact rfl;assumption;with_reducible rfl) | (go_simp;try with_reducible rfl)
      try simp only [sA1,sA2,sA3,Act.put,sA4,sA5,sA6]
      refine wpAnyH_take (i:=5) (v:=?_) rfl (by kernel_rfl) (by kernel_rfl) (by kernel_rfl) (fun _ _ _ h=>h) (Or.inl ⟨by rfl,?_⟩) hF ?_
      rotate_left
      ·intro wS hSw;(try dsimp only at hSw);obtain ⟨s1,s2,s3⟩:=hSw;first | (apply Eq.trans;apply ex_ld_id;exact rfl;exact rfl;assumption;with_reducible rfl) | (go_simp;try with_reducible rfl)
      try simp only [sA1,sA2,sA3,Act.put,sA4,sA5,sA6]
      refine wpAnyH_take (i:=6) (v:=?_) rfl (by kernel_rfl) (by kernel_rfl) (by kernel_rfl) (fun _ _ _ h=>h) (Or.inl ⟨by rfl,?_⟩) hF ?_
      rotate_left
      ·intro wS hSw;(try dsimp only at hSw);obtain ⟨s1,s2,s3⟩:=hSw;first | (apply Eq.trans;apply ex_ld_id;exact rfl;exact rfl;assumption;with_reducible rfl) | (go_simp;try with_reducible rfl)
      try simp only [sA1,sA2,sA3,Act.put,sA4,sA5,sA6]
      refine wpAnyH_take (i:=7) (v:=?_) rfl (by kernel_rfl) (by kernel_rfl) (by kernel_rfl) (fun _ _ _ h=>h) (Or.inl ⟨by rfl,?_⟩) hF ?_
      rotate_left
      ·intro wS hSw;(try dsimp only at hSw);obtain ⟨s1,s2,s3⟩:=hSw;first | (apply Eq.trans;apply ex_ld_id;exact rfl;exact rfl;assumption;with_reducible rfl) | (go_simp;try with_reducible rfl)
      try simp only [sA1,sA2,sA3,Act.put,sA4,sA5,sA6]
      refine wpAnyH_take (i:=8) (v:=?_) rfl (by kernel_rfl) (by kernel_rfl) (by kernel_rfl) (fun _ _ _ h=>h) (Or.inl ⟨by rfl,?_⟩) hF ?_
      rotate_left
      ·intro wS hSw;(try dsimp only at hSw);obtain ⟨s1,s2,s3⟩:=hSw;first | (apply Eq.trans;apply ex_ld_id;exact rfl;exact rfl;assumption;with_reducible rfl) | (go_simp;try with_reducible rfl)
      try simp only [sA1,sA2,sA3,Act.put,sA4,sA5,sA6]
      refine wpAnyH_done (by kernel_rfl) ?_ _
      clear hF
      generalize ew:(w3.alloc (ido p.1)).drew = wx at rp fa F4 h4 mxb rx ⊢
      clear ew
      have F5:=F3.step0 fa
      go_wp2_with fail
      go_loopg [52] ps.length (fun gk iv w'=>KidR bl ps wx wl.heap.size gk iv w')
      case atStart=>exact ⟨0,bl,rfl,by simp,Fr.refl _ _,mxb,by simp,by omega⟩
      case round =>
       obtain ⟨k,bl',rfl,rfl,hg,hgm,hgk,hkl⟩:=hrel
       by_cases hlt:k < ps.length
       ·obtain ⟨g,off,rfl⟩:=hB.adG (by omega)
        have r0:=hB.id k hlt
        have r1:rdI wx g (off + k * 32) = some ps[k]:=rdI_fr r0 (rdI_lt r0) F4 (by simp [noB])
        have r2:rdI wr g (off + k * 32) = some ps[k]:=rdI_fr r1 (rdI_lt r1) hg (fun e=>rdI_ne r1 mxb e)
        have i2:(k:Int) < ps.length:=by omega
        have p0:(0:Int) ≤ (k:Int):=by omega
        generalize ea:ps[k] = pa at r2
        have EA:=Lib.hid ea
        have HG:=Lib.hid hgk
        have HB2:=Lib.hid hB
        clear ea hgk r1 r0 hB
        have rq:rdI (wr.alloc (ido pa)) wr.heap.size 0 = some pa:=rdI_new _ _
        have fp:Fr (oneB wl.heap.size) wx (wr.alloc (ido pa)):=hg.alloc _
        have mp:mpI (wr.alloc (ido pa)) wl.heap.size = some (setV bl'):=by rw [mpI_old _ _ _ (mpI_lt hgm)];exact hgm
        obtain ⟨u1,u2,u3,u4⟩:=mput_all Tryz.underlying102 mp pa (.bool true)
        go_wp2
        go_roundg (ps.length - (k + 1))
        case measure=>omega
        case rel =>
         have hpk:ps[k]? = some pa:=by rw [List.getElem?_eq_getElem hlt,EA.out]
         exact KidR.next fp u3 u2 HG.out hpk
       ·have i2:¬ (k:Int) < ps.length:=by omega
        have ek:k = ps.length:=by omega
        subst ek
        rw [List.take_length] at hgk
        have HG:=Lib.hid hgk
        clear hgk
        go_wp2
        go_roundg (q1 ++ q2).length
        case measure=>simp
        case rel =>
         refine ⟨dn ++ [p.1],q1 ++ q2,rfl,rx.fr hg (fun e=>by have e':wl.heap.size + 1 = wl.heap.size:=e;omega) (fun e=>by have e':w1.heap.size = wl.heap.size:=e;omega),ran_perm HP.out,F5.step1 hg (Nat.le_refl _),bl',hgm,fun z=>?_⟩
         rw [HG.out z,HB.out z,← EP.out]
         simp only [List.mem_append,List.mem_singleton]
         constructor
         ·rintro (⟨d,h1,h2⟩ | h1)
          ·exact ⟨d,.inl h1,h2⟩
          ·exact ⟨p.1,.inr rfl,h1⟩
         ·rintro ⟨d,h1 | h1,h2⟩
          ·exact .inl ⟨d,h1,h2⟩
          ·subst h1;exact .inr h2
   ·subst h0
    have he:=hent noB w3 (Fr.refl _ _) (by simp [noB]) (by simp [noB])
    have F3:Fr noB w1 w3:=hf.step1 hf3 (by omega)
    have rp:rdI (w3.alloc (ido p.1)) w3.heap.size 0 = some p.1:=rdI_new _ _
    have fa:Fr noB w3 (w3.alloc (ido p.1)):=(Fr.refl noB w3).alloc _
    have mx2:mpI (w3.alloc (ido p.1)) R2 = some (setV l2):=mpI_fr m2 (F3.step0 fa) (by simp [noB])
    have mxc:mpI (w3.alloc (ido p.1)) w1.heap.size = some (setV (dn.filter (fun z=>decide (z ∈ l2)))):=mpI_fr (mpI_fr hx hf3 (fun e=>by have e':w1.heap.size = w1.heap.size + 1:=e;omega)) fa (by simp [noB])
    have lks:=look_set l2 p.1
    have HP:=Lib.hid hpm
    have rx:=hr3.fr fa (by simp [noB]) (by simp [noB])
    have Fx:=F3.step0 fa
    have lR1:R1 ≠ w1.heap.size:=by have:=mpI_lt m1;omega
    clear hpm hent hx
    by_cases hk:p.1 ∈ l2
    ·have hd:decide (p.1 ∈ l2) = true:=by simp [hk]
     have HK:=Lib.hid hk
     clear hk
     rw [hd] at lks
     obtain ⟨u1,u2,u3,u4⟩:=mput_all Tryz.underlying102 mxc p.1 (.bool true)
     go_wp2
     go_roundg (q1 ++ q2).length
     case measure=>simp
     case rel =>
      refine ⟨dn ++ [p.1],q1 ++ q2,rfl,rx.fr u3 (fun e=>by have e':w1.heap.size + 1 = w1.heap.size:=e;omega) (fun e=>lR1 e),ran_perm HP.out,Fx.step1 u3 (Nat.le_refl _),?_⟩
      show mpI _ w1.heap.size = some (setV (List.filter _ (dn ++ [p.1])))
      rw [u2,put_setV,List.filter_append]
      have hnm:p.1 ∉ dn.filter (fun z=>decide (z ∈ l2)):=by
       intro hm
       have hm':=(List.mem_filter.1 hm).1
       have nd:=HP.out.nodup_iff.2 (mpI_nd m1)
       rw [List.nodup_append] at nd
       exact nd.2.2 _ hm' p.1 (by simp) rfl
      rw [if_neg hnm]
      simp [HK.out]
    ·have hd:decide (p.1 ∈ l2) = false:=by simp [hk]
     have HK:=Lib.hid hk
     clear hk
     rw [hd] at lks
     go_wp2
     go_roundg (q1 ++ q2).length
     case measure=>simp
     case rel =>
      refine ⟨dn ++ [p.1],q1 ++ q2,rfl,rx,ran_perm HP.out,Fx,?_⟩
      show mpI _ w1.heap.size = some (setV (List.filter _ (dn ++ [p.1])))
      rw [mxc,List.filter_append]
      simp [HK.out]
 clear hK1
 have F1:Fr noB w ((w.alloc (ido x)).alloc (ido y)).drew:=(((Fr.refl noB w).alloc _).alloc _).drew
 have r1:rdI ((w.alloc (ido x)).alloc (ido y)).drew w.heap.size 0 = some x:=by rw [rdI_drew,rdI_old _ _ _ _ (by simp),rdI_new]
 have r2:rdI ((w.alloc (ido x)).alloc (ido y)).drew (w.heap.size + 1) 0 = some y:=by
  have:=rdI_new (w.alloc (ido x)) y
  rw [World.size_alloc] at this
  rw [rdI_drew];exact this
 refine wp_region_N 8 (fun w'=>rdI w' w.heap.size 0 = some x ∧ rdI w' (w.heap.size + 1) 0 = some y) (by kernel_rfl) (by kernel_rfl) ⟨r1,r2⟩ (fun hA hF=>?_)
 refine wpAnyN_take (i:=0) (v:=?_) hA rfl (by decide) (by kernel_rfl) (by kernel_rfl) (fun _ _ _ h=>h) (Or.inl ⟨by rfl,?_⟩) hF (fun hA=>?_)
 rotate_left
 ·intro wS hSw;(try dsimp only at hSw);obtain ⟨s1,s2⟩:=hSw;first | (apply Eq.trans;apply ex_ld_id;exact rfl;exact rfl;assumption;with_reducible rfl) | (go_simp;try with_reducible rfl)
 try simp only [sA1,sA2,sA3,Act.put,sA4,sA5,sA6]
 refine wpAnyN_take (i:=1) (v:=?_) hA rfl (by decide) (by kernel_rfl) (by kernel_rfl) (fun _ _ _ h=>h) (Or.inl ⟨by rfl,?_⟩) hF (fun hA=>?_)
 rotate_left
 ·intro wS hSw;(try dsimp only at hSw);obtain ⟨s1,s2⟩:=hSw;first | (apply Eq.trans;apply ex_ld_id;exact rfl;exact rfl;assumption;with_reducible rfl) | (go_simp;try with_reducible rfl)
 try simp only [sA1,sA2,sA3,Act.put,sA4,sA5,sA6]
 refine wpAnyN_take (i:=4) (v:=?_) hA rfl (by decide) (by kernel_rfl) (by kernel_rfl) (fun _ _ _ h=>h) (Or.inl ⟨by rfl,?_⟩) hF (fun hA=>?_)
 rotate_left
 ·intro wS hSw;(try dsimp only at hSw);obtain ⟨s1,s2⟩:=hSw;first | (apply Eq.trans;apply ex_ld_id;exact rfl;exact rfl;assumption;with_reducible rfl) | (go_simp;try with_reducible rfl)
 try simp only [sA1,sA2,sA3,Act.put,sA4,sA5,sA6]
 refine wpAnyN_take (i:=5) (v:=?_) hA rfl (by decide) (by kernel_rfl) (by kernel_rfl) (fun _ _ _ h=>h) (Or.inl ⟨by rfl,?_⟩) hF (fun hA=>?_)
 rotate_left
 ·intro wS hSw;(try dsimp only at hSw);obtain ⟨s1,s2⟩:=hSw;first | (apply Eq.trans;apply ex_ld_id;exact rfl;exact rfl;assumption;with_reducible rfl) | (go_simp;try with_reducible rfl)
 try simp only [sA1,sA2,sA3,Act.put,sA4,sA5,sA6]
 generalize ew:((w.alloc (ido x)).alloc (ido y)).drew = w1 at F1 r1 r2 hF ⊢
 have keep:∀ w',Fr noB w1 w' → rdI w' w.heap.size 0 = some x ∧ rdI w' (w.heap.size + 1) 0 = some y:=fun w' f=>⟨rdI_fr r1 (rdI_lt r1) f (by simp [noB]),rdI_fr r2 (rdI_lt r2) f (by simp [noB])⟩
 have mem1:∀ (u:ID) (l:List ID),(∀ z,z ∈ l ↔ Reached G [u] z) → ∀ z,z ∈ l ↔ ancG G u z = true:=fun u l hl z=>(hl z).trans (by simp [Reached])
 refine wpAnyN_two (i:=2) (j:=6) hA (by kernel_rfl) (by decide) (by decide) rfl rfl (fun K' hK=>?_) (fun K' hK=>?_)
 ·refine step_run rfl _ _ (ex_bs1_at (x:=x) rfl rfl) ?_
  have fa:Fr noB w1 (w1.alloc (rowo [x])):=(Fr.refl noB w1).alloc _
  refine hK.out _ _ (keep _ fa) (fun hA=>?_)
  clear hK K'
  refine wpAnyN_two (i:=3) (j:=6) hA (by kernel_rfl) (by decide) (by decide) rfl rfl (fun K' hK=>?_) (fun K' hK=>?_)
  ·go_simp
   go_at_call 57
   refine (reach_any _ D F G (hd.fr0 (F1.step0 fa)) _ _ _ [x] rfl (sl_new w1 [x]) (by simp)).mono ?_
   rintro e w3 ⟨R1,l1,rfl,hm1,hl1,hR1,hf3⟩
   have f3:=fa.step0 hf3
   refine hK.out _ _ (keep _ f3) (fun hA=>?_)
   clear hK K'
   refine wpAnyN_one (i:=6) hA (by kernel_rfl) (by decide) rfl (fun K' hK=>?_)
   refine step_run rfl _ _ (ex_bs1_at (x:=y) rfl rfl) ?_
   have fb:Fr noB w3 (w3.alloc (rowo [y])):=(Fr.refl noB w3).alloc _
   have f4:=f3.step0 fb
   refine hK.out _ _ (keep _ f4) (fun hA=>?_)
   clear hK K'
   refine wpAnyN_one (i:=7) hA (by kernel_rfl) (by decide) rfl (fun K' hK=>?_)
   go_simp
   go_at_call 57
   refine (reach_any _ D F G (hd.fr0 (F1.step0 f4)) _ _ _ [y] rfl (sl_new w3 [y]) (by simp)).mono ?_
   rintro e w5 ⟨R2,l2,rfl,hm2,hl2,hR2,hf5⟩
   have f5:=f4.step0 hf5
   refine hK.out _ _ (keep _ f5) (fun hA=>?_)
   clear hK K'
   refine wpAnyN_end rfl (by kernel_rfl) ?_
   simp only [List.drop_succ_cons,List.drop_zero]
   have:=cont (.slice (some ⟨w1.heap.size,0,none⟩) 1 1) (.slice (some ⟨w3.heap.size,0,none⟩) 1 1) w5 R1 R2 l1 l2 (F1.step0 f5) (mpI_fr hm1 (fb.step0 hf5) (by simp [noB])) (mem1 x l1 hl1) hm2 (mem1 y l2 hl2)
   clear cont
   go_wp2
   exact this
  · -- 6, 3, 7
   refine step_run rfl _ _ (ex_bs1_at (x:=y) rfl rfl) ?_
   have fb:Fr noB (w1.alloc (rowo [x])) ((w1.alloc (rowo [x])).alloc (rowo [y])):=(Fr.refl noB _).alloc _
   have f4:=fa.step0 fb
   have s1:Sl ((w1.alloc (rowo [x])).alloc (rowo [y])) (some ⟨w1.heap.size,0,none⟩) (idc [x]):=(sl_new w1 [x]).fr0 fb
   have s2:Sl ((w1.alloc (rowo [x])).alloc (rowo [y])) (some ⟨(w1.alloc (rowo [x])).heap.size,0,none⟩) (idc [y]):=sl_new _ [y]
   refine hK.out _ _ (keep _ f4) (fun hA=>?_)
   clear hK K'
   refine wpAnyN_one (i:=3) hA (by kernel_rfl) (by decide) rfl (fun K' hK=>?_)
   go_simp
   go_at_call 57
   refine (reach_any _ D F G (hd.fr0 (F1.step0 f4)) _ _ _ [x] rfl s1 (by simp)).mono ?_
   rintro e w3 ⟨R1,l1,rfl,hm1,hl1,hR1,hf3⟩
   have f3:=f4.step0 hf3
   refine hK.out _ _ (keep _ f3) (fun hA=>?_)
   clear hK K'
   refine wpAnyN_one (i:=7) hA (by kernel_rfl) (by decide) rfl (fun K' hK=>?_)
   rw [World.size_alloc] at s2
   go_simp
   go_at_call 57
   refine (reach_any _ D F G (hd.fr0 (F1.step0 f3)) _ _ _ [y] rfl (s2.fr0 hf3) (by simp)).mono ?_
   rintro e w5 ⟨R2,l2,rfl,hm2,hl2,hR2,hf5⟩
   have f5:=f3.step0 hf5
   refine hK.out _ _ (keep _ f5) (fun hA=>?_)
   clear hK K'
   refine wpAnyN_end rfl (by kernel_rfl) ?_
   simp only [List.drop_succ_cons,List.drop_zero]
   have:=cont (.slice (some ⟨w1.heap.size,0,none⟩) 1 1) (.slice (some ⟨w1.heap.size + 1,0,none⟩) 1 1) w5 R1 R2 l1 l2 (F1.step0 f5) (mpI_fr hm1 hf5 (by simp [noB])) (mem1 x l1 hl1) hm2 (mem1 y l2 hl2)
   clear cont
   go_wp2
   exact this
 · -- 6, 2, 3, 7
  refine step_run rfl _ _ (ex_bs1_at (x:=y) rfl rfl) ?_
  have fa:Fr noB w1 (w1.alloc (rowo [y])):=(Fr.refl noB w1).alloc _
  refine hK.out _ _ (keep _ fa) (fun hA=>?_)
  clear hK K'
  refine wpAnyN_one (i:=2) hA (by kernel_rfl) (by decide) rfl (fun K' hK=>?_)
  refine step_run rfl _ _ (ex_bs1_at (x:=x) rfl rfl) ?_
  have fb:Fr noB (w1.alloc (rowo [y])) ((w1.alloc (rowo [y])).alloc (rowo [x])):=(Fr.refl noB _).alloc _
  have f4:=fa.step0 fb
  have s1:Sl ((w1.alloc (rowo [y])).alloc (rowo [x])) (some ⟨(w1.alloc (rowo [y])).heap.size,0,none⟩) (idc [x]):=sl_new _ [x]
  have s2:Sl ((w1.alloc (rowo [y])).alloc (rowo [x])) (some ⟨w1.heap.size,0,none⟩) (idc [y]):=(sl_new w1 [y]).fr0 fb
  refine hK.out _ _ (keep _ f4) (fun hA=>?_)
  clear hK K'
  refine wpAnyN_one (i:=3) hA (by kernel_rfl) (by decide) rfl (fun K' hK=>?_)
  rw [World.size_alloc] at s1
  go_simp
  go_at_call 57
  refine (reach_any _ D F G (hd.fr0 (F1.step0 f4)) _ _ _ [x] rfl s1 (by simp)).mono ?_
  rintro e w3 ⟨R1,l1,rfl,hm1,hl1,hR1,hf3⟩
  have f3:=f4.step0 hf3
  refine hK.out _ _ (keep _ f3) (fun hA=>?_)
  clear hK K'
  refine wpAnyN_one (i:=7) hA (by kernel_rfl) (by decide) rfl (fun K' hK=>?_)
  go_simp
  go_at_call 57
  refine (reach_any _ D F G (hd.fr0 (F1.step0 f3)) _ _ _ [y] rfl (s2.fr0 hf3) (by simp)).mono ?_
  rintro e w5 ⟨R2,l2,rfl,hm2,hl2,hR2,hf5⟩
  have f5:=f3.step0 hf5
  refine hK.out _ _ (keep _ f5) (fun hA=>?_)
  clear hK K'
  refine wpAnyN_end rfl (by kernel_rfl) ?_
  simp only [List.drop_succ_cons,List.drop_zero]
  have:=cont (.slice (some ⟨w1.heap.size + 1,0,none⟩) 1 1) (.slice (some ⟨w1.heap.size,0,none⟩) 1 1) w5 R1 R2 l1 l2 (F1.step0 f5) (mpI_fr hm1 hf5 (by simp [noB])) (mem1 x l1 hl1) hm2 (mem1 y l2 hl2)
  clear cont
  go_wp2
  exact this
end Go.Proofs.YtjpieiccpbcabaaGreat
