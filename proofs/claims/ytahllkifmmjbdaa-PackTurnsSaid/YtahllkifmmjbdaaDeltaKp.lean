/- Contracts: delta.Apply. -/
import Derived.Test.YtahllkifmmjbdaaEncKp
import Derived.Test.YtahllkifmmjbdaaDeltaPKp
import Derived.Deep.LoopGhost
set_option linter.unusedVariables false
set_option linter.unusedSimpArgs false
namespace Go.Proofs.Ytahllkifmmjbdaa
open Go.RowKit
def ApplyTo (w:World) (r:Except Nat (List UInt8)) (e:Ending) (w':World):Prop :=
 ∃ A c,e = .returned (.tuple #[.slice A (resB r).length c,.int .i64 (resE r)]) ∧ w'.ownsRow w.heap.size 5 1 (.slice A (resB r).length c) (resB r).length (bv (resB r)) ∧ Fr noB w w'
theorem ApplyTo.err {w w':World} {r:Except Nat (List UInt8)} {n:Nat} (h:r = .error n) (hf:Fr noB w w'):ApplyTo w r (.returned (.tuple #[.slice none 0 0,.int .i64 n])) w':=by
 subst h
 exact ⟨none,0,rfl,World.ownsRow_nil _ _ _ _,hf⟩
theorem Rdr.own_ne {w:World} {p:Nat} {s:RS} {Q:Nat → Prop} {base n:Nat} {v:Value} {xs:List Value} (h:Rdr w p s Q) (ho:w.ownsRow base 5 1 v n xs):∀ g,v.ownBlock = some g → ¬ oneB p g:=by
 obtain ⟨A,c,h1,_⟩:=h
 exact h1.ne_own ho (by decide)
def ApR (w:World) (base:List UInt8) (R:Except Nat (List UInt8)) (gk:Nat) (dv rv ov:Value) (wr:World):Prop :=
 ∃ (D:Option Addr) (cd:Nat) (ld:List UInt8) (p:Nat) (s:RS) (out:List UInt8),
  dv = .slice D ld.length cd ∧ ld.length ≤ cd ∧ ld.length ≤ 140737488351232 ∧ Sl w D (bv ld) ∧
  rv = .pointer (some ⟨p,0,none⟩) ∧ w.heap.size ≤ p ∧ Rdr wr p s (fun b=>w.heap.size ≤ b ∧ b < wr.heap.size ∧ some b ≠ ov.ownBlock) ∧
  wr.ownsRow w.heap.size 5 1 ov out.length (bv out) ∧ out.length ≤ 1048576 ∧ Fr noB w wr ∧
  (∃ pre,ld = pre ++ s.1 ∨ s.2 = true) ∧ gk = s.1.length ∧ R = apS base s out
set_option maxRecDepth 100000 in
set_option maxHeartbeats 4000000 in
theorem apply_any (w:World) (A D:Option Addr) (c cd:Nat) (base d:List UInt8) (hA:Sl w A (bv base)) (hD:Sl w D (bv d)) (hc:base.length ≤ c) (hcd:d.length ≤ cd)
  (hb:base.length ≤ 140737488351232) (hd:d.length ≤ 140737488351232) :
  Calls Try.prog 56 #[.slice A base.length c,.slice D d.length cd] w (ApplyTo w (applyD base d)):=by
 rw [applyD_eq]
 generalize hr0:rdNum 1048576 (d,false) = r0
 obtain ⟨told,s0⟩:=r0
 have HR0:=Lib.hid hr0
 clear hr0
 simp only
 go_enter Try.func56,Try.ntmps56
 go_wp2_with (go_at_call 29;refine (read_any w D cd d hD (by omega)).mono ?_;rintro e w1 ⟨p,rfl,hp,hr,hf⟩)
 refine (num_eq _ _ _ _ 1048576 (by decide) hr (by simp only;omega) told s0 HR0.out).mono ?_
 rintro e w2 ⟨rfl,hr2,hf2⟩
 have hF2:Fr noB w w2:=hf.step1 hf2 hp
 go_wp2_with fail
 go_loopg [1,6,8] s0.1.length (fun gk dv rv ov wr=>ApR w base (apS base s0 []) gk dv rv ov wr)
 case atStart =>
  have hlt:=hr2.lt
  refine ⟨D,cd,d,p,s0,[],rfl,hcd,hd,hD,rfl,hp,hr2.mono (fun b hb=>⟨hb.1,by omega,by simp [Value.ownBlock]⟩),World.ownsRow_nil _ _ _ _,by simp,hF2,?_,rfl,rfl⟩
  rcases rdNum_or HR0.out with ⟨_,h,_⟩ | ⟨_,_,_,_,_,q,hq⟩
  ·exact ⟨[],.inr (by rw [h])⟩
  ·exact ⟨q,.inl hq⟩
 case round =>
  obtain ⟨D,cd,ld,p,s,out,rfl,hlc,hlm,hD,rfl,hp,hr,ho,hol,hF,hpre,rfl,hR⟩:=hrel
  clear hcd hd
  obtain ⟨l,bad⟩:=s
  cases bad with
  | true =>
   have HR:=Lib.hid hR
   clear hR hpre
   go_wp2_with (first | (go_at_call 31;refine (good_any _ _ _ _ hr).mono ?_;rintro e w' ⟨rfl,rfl⟩) | (go_at_call 73;refine (left_any _ _ _ _ hr).mono ?_;rintro e w' ⟨rfl,rfl⟩))
   go_ret2
   exact ApplyTo.err (by rw [HR.out];rfl) hF
  | false =>
   cases l with
   | nil =>
    rw [apS_nil] at hR
    have HR:=Lib.hid hR
    clear hR hpre
    by_cases htold:out.length = told
    ·have e1:((out.length:Int) != (told:Int)) = false:=by simp [htold]
     have HT:=Lib.hid htold
     clear htold
     obtain ⟨A',c',rfl,_,_⟩:=own_form ho
     go_wp2_with (first | (go_at_call 31;refine (good_any _ _ _ _ hr).mono ?_;rintro e w' ⟨rfl,rfl⟩) | (go_at_call 73;refine (left_any _ _ _ _ hr).mono ?_;rintro e w' ⟨rfl,rfl⟩))
     go_ret2
     rw [HR.out,apT,if_pos HT.out]
     exact ⟨A',c',rfl,ho,hF⟩
    ·have e1:((out.length:Int) != (told:Int)) = true:=by rw [bne_iff_ne];omega
     have HT:=Lib.hid htold
     clear htold
     obtain ⟨A',c',rfl,_,_⟩:=own_form ho
     go_wp2_with (first | (go_at_call 31;refine (good_any _ _ _ _ hr).mono ?_;rintro e w' ⟨rfl,rfl⟩) | (go_at_call 73;refine (left_any _ _ _ _ hr).mono ?_;rintro e w' ⟨rfl,rfl⟩))
     go_ret2
     exact ApplyTo.err (by rw [HR.out,apT,if_neg HT.out]) hF
   | cons b t =>
    have hlen:(b :: t).length ≤ 140737488355328:=by
     obtain ⟨pre,h | h⟩:=hpre
     ·have:ld.length = pre.length + (b :: t).length:=by rw [h];simp
      omega
     ·cases h
    generalize hn:rdNum 4611686018427387904 (b :: t,false) = r1
    obtain ⟨n,s1⟩:=r1
    have HN:=Lib.hid hn
    have hpos:0 < (b :: t).length:=by simp
    rw [apS_step _ _ _ (by simp)] at hR
    rcases rdNum_or hn with ⟨rfl,rfl,h | h⟩ | ⟨_,hs1,hg,hnm,hlt,q,hq⟩
    ·cases h
    ·simp only at h
     rw [h] at hR
     have HR:=Lib.hid hR
     clear hR hpre hn h
     generalize b :: t = l at hr hlen hpos HN
     go_wp2_with (first | (go_at_call 31;refine (good_any _ _ _ _ (by assumption)).mono ?_;rintro e w' ⟨rfl,rfl⟩) | (go_at_call 73;refine (left_any _ _ _ _ (by assumption)).mono ?_;rintro e w' ⟨rfl,rfl⟩) | (go_at_call 30;refine (num_eq _ _ _ _ 4611686018427387904 (by decide) hr hlen _ _ HN.out).mono ?_;rintro e w1 ⟨rfl,hr1,hf1⟩))
     go_ret2
     exact ApplyTo.err (by rw [HR.out];rfl) (hF.step1 (by assumption) hp)
    ·obtain ⟨t1,bad⟩:=s1
     simp only at hs1 hlt hq hg
     subst hs1
     rw [hg] at hR
     simp only at hR
     clear hn
     have hlt0:t1.length < t.length + 1:=by simpa using hlt
     generalize b :: t = l at hr hlen hpos HN hlt hq hg hpre
     have hpre':∃ pre,ld = pre ++ t1:=by
      obtain ⟨pre,h | h⟩:=hpre
      ·exact ⟨pre ++ q,by rw [h,hq,List.append_assoc]⟩
      ·cases h
     clear hpre hq
     by_cases hbad:n / 2 < 1 ∨ 1048576 < n / 2 + out.length
     ·rw [if_pos hbad] at hR
      have HR:=Lib.hid hR
      clear hR hpre'
      obtain ⟨A',c',rfl,_,_⟩:=own_form ho
      rcases (show n / 2 < 1 ∨ (1 ≤ n / 2 ∧ 1048576 < n / 2 + out.length) by omega) with h1 | ⟨h1,h2⟩
      all_goals
       clear hbad
       go_wp2_with (first | (go_at_call 31;refine (good_any _ _ _ _ (by assumption)).mono ?_;rintro e w' ⟨rfl,rfl⟩) | (go_at_call 73;refine (left_any _ _ _ _ (by assumption)).mono ?_;rintro e w' ⟨rfl,rfl⟩) | (go_at_call 30;refine (num_eq _ _ _ _ 4611686018427387904 (by decide) hr hlen _ _ HN.out).mono ?_;rintro e w1 ⟨rfl,hr1,hf1⟩))
       go_ret2
       exact ApplyTo.err (by rw [HR.out];rfl) (hF.step1 (by assumption) hp)
     ·rw [if_neg hbad] at hR
      have hk1:1 ≤ n / 2:=by omega
      have hk2:n / 2 + out.length ≤ 1048576:=by omega
      clear hbad
      by_cases hpar:n % 2 = 0
      ·rw [if_pos hpar] at hR
       have hpar':n % 2 ≤ 0:=by omega
       clear hpar
       by_cases hlt1:t1.length < n / 2
       ·rw [if_pos hlt1] at hR
        have HR:=Lib.hid hR
        clear hR hpre'
        obtain ⟨A',c',rfl,_,_⟩:=own_form ho
        go_wp2_with (first | (go_at_call 31;refine (good_any _ _ _ _ (by assumption)).mono ?_;rintro e w' ⟨rfl,rfl⟩) | (go_at_call 73;refine (left_any _ _ _ _ (by assumption)).mono ?_;rintro e w' ⟨rfl,rfl⟩) | (go_at_call 30;refine (num_eq _ _ _ _ 4611686018427387904 (by decide) hr hlen _ _ HN.out).mono ?_;rintro e w1 ⟨rfl,hr1,hf1⟩))
        go_ret2
        exact ApplyTo.err (by rw [HR.out];rfl) (hF.step1 (by assumption) hp)
       ·rw [if_neg hlt1] at hR
        have HR:=Lib.hid hR
        obtain ⟨pre,rfl⟩:=hpre'
        clear hR
        have hpl:pre.length + t1.length ≤ 140737488351232:=by simpa using hlm
        have hlc':pre.length + t1.length ≤ cd:=by simpa using hlc
        have HS:Sl w (cutA D cd pre.length 1) (bv (t1.take (n / 2))):=by
         have:=(hD.cutB (k:=pre.length) hlc).takeB (k:=n / 2)
         rwa [List.drop_left] at this
        have HS2:Sl w (cutA D cd (pre.length + n / 2) 1) (bv (t1.drop (n / 2))):=by
         have:=hD.cutB (k:=pre.length + n / 2) hlc
         rwa [← List.drop_drop,List.drop_left] at this
        clear hlm hlc hD
        obtain ⟨A',c',rfl,_,_⟩:=own_form ho
        go_wp2_with (first | (go_at_call 31;refine (good_any _ _ _ _ (by assumption)).mono ?_;rintro e w' ⟨rfl,rfl⟩) | (go_at_call 73;refine (left_any _ _ _ _ (by assumption)).mono ?_;rintro e w' ⟨rfl,rfl⟩) | (go_at_call 30;refine (num_eq _ _ _ _ 4611686018427387904 (by decide) hr hlen _ _ HN.out).mono ?_;rintro e w1 ⟨rfl,hr1,hf1⟩) | (at_builtin;refine wpList_appB _ etBytes rfl (.tmp 54) (.tmp 60) rfl w.heap.size _ _ out rfl (own_fr ho hf1 (hr.own_ne ho)) _ _ _ (t1.take (n / 2)) rfl (HS.fr0 (hF.step1 hf1 hp)) (by simp;omega) (by simp;omega) (by have:=hF.size;have:=hf1.size;omega) ?_;intro A2 c2 w2 hc1 hc2 h1 h2 h3) | (go_at_call 29;refine (read_n w2 _ _ (t1.drop (n / 2)) _ (by simp;omega) (HS2.fr0 ((hF.step1 hf1 hp).stepG h2 (fun g hg=>((own_fr ho hf1 (hr.own_ne ho)).lt g hg).1))) (by simp;omega)).mono ?_;rintro e w3 ⟨p3,rfl,hp3,hr3,hf3⟩))
        go_roundg (t1.drop (n / 2)).length
        case measure=>simp;omega
        case rel =>
         have hF2:Fr noB w w2:=(hF.step1 hf1 hp).stepG h2 (fun g hg=>((own_fr ho hf1 (hr.own_ne ho)).lt g hg).1)
         have hs2:=hF2.size
         have hl3:=hr3.lt
         refine ⟨cutA D cd (pre.length + n / 2) 1,cd - (pre.length + n / 2),t1.drop (n / 2),p3,(t1.drop (n / 2),false),out ++ t1.take (n / 2),?_,?_,?_,HS2,rfl,by omega,hr3.mono (fun b hb=>⟨by omega,by omega,fun hx=>?_⟩),by simpa using own_fr h1 hf3 (fun _ _=>by simp [noB]),by simp;omega,hF2.step0 hf3,⟨[],.inl rfl⟩,rfl,HR.out⟩
         ·rw [show (t1.drop (n / 2)).length = pre.length + t1.length - (pre.length + n / 2) from by simp;omega]
         ·simp;omega
         ·simp;omega
         ·have:=h1.lt b (by rw [hx];cases A2 <;> rfl);omega
      ·rw [if_neg hpar] at hR
       have hpar':1 ≤ n % 2:=by omega
       clear hpar
       generalize ho2:rdNum 4611686018427387904 (t1,false) = r2
       obtain ⟨o,s2⟩:=r2
       have HO:=Lib.hid ho2
       have hlen1:t1.length ≤ 140737488355328:=by omega
       have tok:True:=trivial
       obtain ⟨A',c',rfl,_,_⟩:=own_form ho
       rcases rdNum_or ho2 with ⟨rfl,rfl,h | h⟩ | ⟨_,hs1,hg2,hom,hlt2,q,hq⟩
       ·cases h
       ·simp only at h
        rw [h] at hR
        have HR:=Lib.hid hR
        clear hR ho2 h
        go_wp2_with (first | (go_at_call 31;refine (good_any _ _ _ _ (by assumption)).mono ?_;rintro e w' ⟨rfl,rfl⟩) | (go_at_call 73;refine (left_any _ _ _ _ (by assumption)).mono ?_;rintro e w' ⟨rfl,rfl⟩) | (go_at_call 30;have _t:=tok;refine (num_eq _ _ _ _ 4611686018427387904 (by decide) hr hlen _ _ HN.out).mono ?_;rintro e w1 ⟨rfl,hr1,hf1⟩;clear tok) | (go_at_call 30;refine (num_eq _ _ _ _ 4611686018427387904 (by decide) hr1 hlen1 _ _ HO.out).mono ?_;rintro e w2 ⟨rfl,hr2,hf2⟩))
        go_ret2
        exact ApplyTo.err (by rw [HR.out];rfl) ((hF.step1 (by assumption) hp).step1 (by assumption) hp)
       ·obtain ⟨t2,bad⟩:=s2
        simp only at hs1 hlt2 hq hg2
        subst hs1
        rw [hg2] at hR
        simp only at hR
        clear ho2
        by_cases hbig:base.length < o + n / 2
        ·rw [if_pos hbig] at hR
         have HR:=Lib.hid hR
         clear hR
         rcases (show base.length < o ∨ (o ≤ base.length ∧ base.length < o + n / 2) by omega) with h1 | ⟨h1,h2⟩
         all_goals
          go_wp2_with (first | (go_at_call 31;refine (good_any _ _ _ _ (by assumption)).mono ?_;rintro e w' ⟨rfl,rfl⟩) | (go_at_call 73;refine (left_any _ _ _ _ (by assumption)).mono ?_;rintro e w' ⟨rfl,rfl⟩) | (go_at_call 30;have _t:=tok;refine (num_eq _ _ _ _ 4611686018427387904 (by decide) hr hlen _ _ HN.out).mono ?_;rintro e w1 ⟨rfl,hr1,hf1⟩;clear tok) | (go_at_call 30;refine (num_eq _ _ _ _ 4611686018427387904 (by decide) hr1 hlen1 _ _ HO.out).mono ?_;rintro e w2 ⟨rfl,hr2,hf2⟩))
          go_ret2
          exact ApplyTo.err (by rw [HR.out];rfl) ((hF.step1 (by assumption) hp).step1 (by assumption) hp)
        ·rw [if_neg hbig] at hR
         have HR:=Lib.hid hR
         have HS:Sl w (cutA A c o 1) (bv ((base.drop o).take (n / 2))):=(hA.cutB (k:=o) hc).takeB
         clear hR
         go_wp2_with (first | (go_at_call 31;refine (good_any _ _ _ _ (by assumption)).mono ?_;rintro e w' ⟨rfl,rfl⟩) | (go_at_call 73;refine (left_any _ _ _ _ (by assumption)).mono ?_;rintro e w' ⟨rfl,rfl⟩) | (go_at_call 30;have _t:=tok;refine (num_eq _ _ _ _ 4611686018427387904 (by decide) hr hlen _ _ HN.out).mono ?_;rintro e w1 ⟨rfl,hr1,hf1⟩;clear tok) | (go_at_call 30;refine (num_eq _ _ _ _ 4611686018427387904 (by decide) hr1 hlen1 _ _ HO.out).mono ?_;rintro e w2 ⟨rfl,hr2,hf2⟩) | (at_builtin;refine wpList_appB _ etBytes rfl (.tmp 90) (.tmp 96) rfl w.heap.size _ _ out rfl (own_fr (own_fr ho hf1 (hr.own_ne ho)) hf2 (hr1.own_ne (own_fr ho hf1 (hr.own_ne ho)))) _ _ _ ((base.drop o).take (n / 2)) rfl (HS.fr0 ((hF.step1 hf1 hp).step1 hf2 hp)) (by simp;omega) (by simp;omega) (by have:=hF.size;have:=hf1.size;have:=hf2.size;omega) ?_;intro A2 c2 w3 hc1 hc2 h1 h2 h3))
         go_roundg t2.length
         case measure=>first | omega | (simp;omega)
         case rel =>
          have hF2:Fr noB w w3:=((hF.step1 hf1 hp).step1 hf2 hp).stepG h2 (fun g hg=>((own_fr (own_fr ho hf1 (hr.own_ne ho)) hf2 (hr1.own_ne (own_fr ho hf1 (hr.own_ne ho)))).lt g hg).1)
          have ho2:=own_fr (own_fr ho hf1 (hr.own_ne ho)) hf2 (hr1.own_ne (own_fr ho hf1 (hr.own_ne ho)))
          have hne:=hr2.own_ne ho2
          have hs1:=hf1.size
          have hs2:=hf2.size
          have hs3:=h2.size
          have hr3:=(hr2.fr (Fr.ofGrown (M:=fun b=>some b = (Value.slice A' out.length c').ownBlock) h2 (fun g hg=>hg.symm)) (fun hx=>hne _ hx.symm rfl) (fun b hb hx=>hb.2.2 hx))
          refine ⟨D,cd,ld,p,(t2,false),out ++ (base.drop o).take (n / 2),rfl,hlc,hlm,hD,rfl,hp,hr3.mono (fun b hb=>⟨hb.1,by omega,fun hx=>?_⟩),by simpa using h1,by simp;omega,hF2,?_,rfl,HR.out⟩
          ·have hx':A2.map (·.block) = some b:=by
            cases A2 with
            | none=>simp [Value.ownBlock] at hx
            | some a=>simp [Value.ownBlock] at hx;simp [hx]
           rcases h3 with h3 | h3
           ·exact hb.2.2 (hx'.symm.trans h3)
           ·rw [hx'] at h3;injection h3 with h3;omega
          ·obtain ⟨pre,hpre⟩:=hpre'
           exact ⟨pre ++ q,.inl (by rw [hpre,hq,List.append_assoc])⟩
end Go.Proofs.Ytahllkifmmjbdaa
