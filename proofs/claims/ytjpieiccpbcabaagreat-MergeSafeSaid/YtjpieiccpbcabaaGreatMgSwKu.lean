/- The law MergeSafe: it returns true. (rdI, ex_bld0_at) -/
import Derived.Test.YtjpieiccpbcabaaGreatMgTvKu
import Derived.Test.YtjpieiccpbcabaaGreatMgGwKu
import Derived.Test.YtjpieiccpbcabaaGreatMapSKu
set_option linter.unusedVariables false
set_option linter.unusedSimpArgs false
namespace Go.Proofs.YtjpieiccpbcabaaGreat
open Go.RowKit Go.Maps Go.Sort
set_option maxRecDepth 100000 in
set_option maxHeartbeats 8000000 in
theorem safe15_any (w:World) (A0:Option Addr) (c0 n:Nat) (nums:List Tri) (a1 a2:Int) (hn:nums.length = n) (hs:Sl w A0 (codTr.row nums)) (hb:nums.length ≤ 200000000000000) :
  Calls Tryz.prog 6 #[.slice A0 n c0,.int .i64 a1,.int .i64 a2] w (Gives w (.bool true)):=by
 have HS:=Lib.hid (fun w' (f:Fr noB w w')=>l15grown_any w' A0 c0 n nums hn (hs.fr0 f) hb)
 clear hn hs hb
 go_enter Tryz.func6,Tryz.ntmps6
 go_upto_region 4 with (first
  | (go_at_call 9;refine (l15alive_any w).mono ?_;rintro e w1 ⟨rfl,f1⟩)
  | (go_at_call 26;refine (HS.out w1 f1).mono ?_;rintro e w2 ⟨H,S,L,ts,A,cA,rfl,hs2,hg,hA,hnA,hlo,f2⟩))
 have HG:=Lib.hid hg
 have HH:=Lib.hid hs2
 have HA:=Lib.hid hA
 have HF:=Lib.hid (f1.step0 f2)
 obtain ⟨m,hm⟩:∃ m,m = ts.length:=⟨_,rfl⟩
 have hm16:m ≤ 16:=by rw [hm];exact hg.le
 rw [← hm]
 have HM:=Lib.hid hm
 clear hm hg hs2 hA hnA hlo f1 f2 HS
 by_cases m0:m = 0
 ·subst m0
  go_wp2_with fail
  go_ret
  exact ⟨rfl,HF.out⟩
 ·have hmp:0 < m:=by omega
  obtain ⟨r1,er1,hr1⟩:=and_maskM a1 1023 (by omega)
  obtain ⟨r2,er2,hr2⟩:=and_maskM a2 1023 (by omega)
  have i2:r1 % m < m:=Nat.mod_lt _ hmp
  have j2:r2 % m < m:=Nat.mod_lt _ hmp
  have ht1:(bits BinOp.and IntKind.i64 a1 1023).tmod (m:Int) = ((r1 % m:Nat):Int):=by rw [show bits BinOp.and IntKind.i64 a1 1023 = (r1:Int) from er1];rfl
  have ht2:(bits BinOp.and IntKind.i64 a2 1023).tmod (m:Int) = ((r2 % m:Nat):Int):=by rw [show bits BinOp.and IntKind.i64 a2 1023 = (r2:Int) from er2];rfl
  generalize r1 % m = i at i2 ht1
  generalize r2 % m = j at j2 ht2
  clear er1 er2 hr1 hr2
  have hA:=HA.out
  rw [← HM.out] at hA
  obtain ⟨g,off,rfl⟩:=(Sl.own hA).adG (by rw [rowG_len];omega)
  have gi:=(Sl.own hA).id i (by rw [rowG_len];omega)
  have gj:=(Sl.own hA).id j (by rw [rowG_len];omega)
  rw [rowG_get] at gi gj
  have x1:(0:Int) ≤ (i:Int):=by omega
  have x2:(i:Int) < (m:Int):=by omega
  have y1:(0:Int) ≤ (j:Int):=by omega
  have y2:(j:Int) < (m:Int):=by omega
  have hm0:((m:Int) == 0) = false:=by rw [beq_eq_false_iff_ne];omega
  clear hA
  go_upto_region 8 with fail
  go_cut [9,10] from 43 to 58 (fun va vb wx=>∃ pa pb,va = .pointer (some ⟨pa,0,none⟩) ∧ vb = .pointer (some ⟨pb,0,none⟩) ∧ bxI wx pa = some (idG i) ∧ bxI wx pb = some (idG j) ∧ Fr noB w2 wx)
  case first =>
   go_wp2_with fail
   refine wp_region_N 19 (fun w'=>rdI w' g (off + i * 32) = some (idG i) ∧ rdI w' g (off + j * 32) = some (idG j)) (by kernel_rfl) (by kernel_rfl) ⟨(rdI_drew _ _ _).trans gi,(rdI_drew _ _ _).trans gj⟩ (fun hA hF=>?_)
   refine wpAnyN_take (i:=0) (v:=?_) hA rfl (by decide) (by kernel_rfl) (by kernel_rfl) (fun _ _ _ h=>h) (Or.inl ⟨by rfl,?_⟩) hF (fun hA=>?_)
   rotate_left
   ·intro wS hSw;(try dsimp only at hSw);obtain ⟨s1,s2⟩:=hSw;first | (apply Eq.trans;apply ex_ld_id;exact rfl;exact rfl;assumption;with_reducible rfl) | (apply Eq.trans;apply ex_bld0_at;exact rfl;with_reducible rfl) | (go_simp;try with_reducible rfl)
   try simp only [sA1,sA2,sA3,Act.put,sA4,sA5,sA6]
   refine wpAnyN_take (i:=1) (v:=?_) hA rfl (by decide) (by kernel_rfl) (by kernel_rfl) (fun _ _ _ h=>h) (Or.inl ⟨by rfl,?_⟩) hF (fun hA=>?_)
   rotate_left
   ·intro wS hSw;(try dsimp only at hSw);obtain ⟨s1,s2⟩:=hSw;first | (apply Eq.trans;apply ex_ld_id;exact rfl;exact rfl;assumption;with_reducible rfl) | (apply Eq.trans;apply ex_bld0_at;exact rfl;with_reducible rfl) | (go_simp;try with_reducible rfl)
   try simp only [sA1,sA2,sA3,Act.put,sA4,sA5,sA6]
   refine wpAnyN_take (i:=2) (v:=?_) hA rfl (by decide) (by kernel_rfl) (by kernel_rfl) (fun _ _ _ h=>h) (Or.inl ⟨by rfl,?_⟩) hF (fun hA=>?_)
   rotate_left
   ·intro wS hSw;(try dsimp only at hSw);obtain ⟨s1,s2⟩:=hSw;first | (apply Eq.trans;apply ex_ld_id;exact rfl;exact rfl;assumption;with_reducible rfl) | (apply Eq.trans;apply ex_bld0_at;exact rfl;with_reducible rfl) | (go_simp;try with_reducible rfl)
   try simp only [sA1,sA2,sA3,Act.put,sA4,sA5,sA6]
   refine wpAnyN_take (i:=3) (v:=?_) hA rfl (by decide) (by kernel_rfl) (by kernel_rfl) (fun _ _ _ h=>h) (Or.inl ⟨by rfl,?_⟩) hF (fun hA=>?_)
   rotate_left
   ·intro wS hSw;(try dsimp only at hSw);obtain ⟨s1,s2⟩:=hSw;first | (apply Eq.trans;apply ex_ld_id;exact rfl;exact rfl;assumption;with_reducible rfl) | (apply Eq.trans;apply ex_bld0_at;exact rfl;with_reducible rfl) | (go_simp;try with_reducible rfl)
   try simp only [sA1,sA2,sA3,Act.put,sA4,sA5,sA6]
   refine wpAnyN_take (i:=4) (v:=?_) hA rfl (by decide) (by kernel_rfl) (by kernel_rfl) (fun _ _ _ h=>h) (Or.inl ⟨by rfl,?_⟩) hF (fun hA=>?_)
   rotate_left
   ·intro wS hSw;(try dsimp only at hSw);obtain ⟨s1,s2⟩:=hSw;first | (apply Eq.trans;apply ex_ld_id;exact rfl;exact rfl;assumption;with_reducible rfl) | (apply Eq.trans;apply ex_bld0_at;exact rfl;with_reducible rfl) | (go_simp;try with_reducible rfl)
   try simp only [sA1,sA2,sA3,Act.put,sA4,sA5,sA6]
   refine wpAnyN_take (i:=5) (v:=?_) hA rfl (by decide) (by kernel_rfl) (by kernel_rfl) (fun _ _ _ h=>h) (Or.inl ⟨by rfl,?_⟩) hF (fun hA=>?_)
   rotate_left
   ·intro wS hSw;(try dsimp only at hSw);obtain ⟨s1,s2⟩:=hSw;first | (apply Eq.trans;apply ex_ld_id;exact rfl;exact rfl;assumption;with_reducible rfl) | (apply Eq.trans;apply ex_bld0_at;exact rfl;with_reducible rfl) | (go_simp;try with_reducible rfl)
   try simp only [sA1,sA2,sA3,Act.put,sA4,sA5,sA6]
   refine wpAnyN_take (i:=6) (v:=?_) hA rfl (by decide) (by kernel_rfl) (by kernel_rfl) (fun _ _ _ h=>h) (Or.inl ⟨by rfl,?_⟩) hF (fun hA=>?_)
   rotate_left
   ·intro wS hSw;(try dsimp only at hSw);obtain ⟨s1,s2⟩:=hSw;first | (apply Eq.trans;apply ex_ld_id;exact rfl;exact rfl;assumption;with_reducible rfl) | (apply Eq.trans;apply ex_bld0_at;exact rfl;with_reducible rfl) | (go_simp;try with_reducible rfl)
   try simp only [sA1,sA2,sA3,Act.put,sA4,sA5,sA6]
   refine wpAnyN_take (i:=7) (v:=?_) hA rfl (by decide) (by kernel_rfl) (by kernel_rfl) (fun _ _ _ h=>h) (Or.inl ⟨by rfl,?_⟩) hF (fun hA=>?_)
   rotate_left
   ·intro wS hSw;(try dsimp only at hSw);obtain ⟨s1,s2⟩:=hSw;first | (apply Eq.trans;apply ex_ld_id;exact rfl;exact rfl;assumption;with_reducible rfl) | (apply Eq.trans;apply ex_bld0_at;exact rfl;with_reducible rfl) | (go_simp;try with_reducible rfl)
   try simp only [sA1,sA2,sA3,Act.put,sA4,sA5,sA6]
   refine wpAnyN_take (i:=8) (v:=?_) hA rfl (by decide) (by kernel_rfl) (by kernel_rfl) (fun _ _ _ h=>h) (Or.inl ⟨by rfl,?_⟩) hF (fun hA=>?_)
   rotate_left
   ·intro wS hSw;(try dsimp only at hSw);obtain ⟨s1,s2⟩:=hSw;first | (apply Eq.trans;apply ex_ld_id;exact rfl;exact rfl;assumption;with_reducible rfl) | (apply Eq.trans;apply ex_bld0_at;exact rfl;with_reducible rfl) | (go_simp;try with_reducible rfl)
   try simp only [sA1,sA2,sA3,Act.put,sA4,sA5,sA6]
   refine wpAnyN_take (i:=9) (v:=?_) hA rfl (by decide) (by kernel_rfl) (by kernel_rfl) (fun _ _ _ h=>h) (Or.inl ⟨by rfl,?_⟩) hF (fun hA=>?_)
   rotate_left
   ·intro wS hSw;(try dsimp only at hSw);obtain ⟨s1,s2⟩:=hSw;first | (apply Eq.trans;apply ex_ld_id;exact rfl;exact rfl;assumption;with_reducible rfl) | (apply Eq.trans;apply ex_bld0_at;exact rfl;with_reducible rfl) | (go_simp;try with_reducible rfl)
   try simp only [sA1,sA2,sA3,Act.put,sA4,sA5,sA6]
   refine wpAnyN_take (i:=10) (v:=?_) hA rfl (by decide) (by kernel_rfl) (by kernel_rfl) (fun _ _ _ h=>h) (Or.inl ⟨by rfl,?_⟩) hF (fun hA=>?_)
   rotate_left
   ·intro wS hSw;(try dsimp only at hSw);obtain ⟨s1,s2⟩:=hSw;first | (apply Eq.trans;apply ex_ld_id;exact rfl;exact rfl;assumption;with_reducible rfl) | (apply Eq.trans;apply ex_bld0_at;exact rfl;with_reducible rfl) | (go_simp;try with_reducible rfl)
   try simp only [sA1,sA2,sA3,Act.put,sA4,sA5,sA6]
   refine wpAnyN_take (i:=11) (v:=?_) hA rfl (by decide) (by kernel_rfl) (by kernel_rfl) (fun _ _ _ h=>h) (Or.inl ⟨by rfl,?_⟩) hF (fun hA=>?_)
   rotate_left
   ·intro wS hSw;(try dsimp only at hSw);obtain ⟨s1,s2⟩:=hSw;first | (apply Eq.trans;apply ex_ld_id;exact rfl;exact rfl;assumption;with_reducible rfl) | (apply Eq.trans;apply ex_bld0_at;exact rfl;with_reducible rfl) | (go_simp;try with_reducible rfl)
   try simp only [sA1,sA2,sA3,Act.put,sA4,sA5,sA6]
   refine wpAnyN_take (i:=12) (v:=?_) hA rfl (by decide) (by kernel_rfl) (by kernel_rfl) (fun _ _ _ h=>h) (Or.inl ⟨by rfl,?_⟩) hF (fun hA=>?_)
   rotate_left
   ·intro wS hSw;(try dsimp only at hSw);obtain ⟨s1,s2⟩:=hSw;first | (apply Eq.trans;apply ex_ld_id;exact rfl;exact rfl;assumption;with_reducible rfl) | (apply Eq.trans;apply ex_bld0_at;exact rfl;with_reducible rfl) | (go_simp;try with_reducible rfl)
   try simp only [sA1,sA2,sA3,Act.put,sA4,sA5,sA6]
   refine wpAnyN_take (i:=13) (v:=?_) hA rfl (by decide) (by kernel_rfl) (by kernel_rfl) (fun _ _ _ h=>h) (Or.inl ⟨by rfl,?_⟩) hF (fun hA=>?_)
   rotate_left
   ·intro wS hSw;(try dsimp only at hSw);obtain ⟨s1,s2⟩:=hSw;first | (apply Eq.trans;apply ex_ld_id;exact rfl;exact rfl;assumption;with_reducible rfl) | (apply Eq.trans;apply ex_bld0_at;exact rfl;with_reducible rfl) | (go_simp;try with_reducible rfl)
   try simp only [sA1,sA2,sA3,Act.put,sA4,sA5,sA6]
   refine wpAnyN_take (i:=14) (v:=?_) hA rfl (by decide) (by kernel_rfl) (by kernel_rfl) (fun _ _ _ h=>h) (Or.inl ⟨by rfl,?_⟩) hF (fun hA=>?_)
   rotate_left
   ·intro wS hSw;(try dsimp only at hSw);obtain ⟨s1,s2⟩:=hSw;first | (apply Eq.trans;apply ex_ld_id;exact rfl;exact rfl;assumption;with_reducible rfl) | (apply Eq.trans;apply ex_bld0_at;exact rfl;with_reducible rfl) | (go_simp;try with_reducible rfl)
   try simp only [sA1,sA2,sA3,Act.put,sA4,sA5,sA6]
   refine wpAnyN_take (i:=15) (v:=?_) hA rfl (by decide) (by kernel_rfl) (by kernel_rfl) (fun _ _ _ h=>h) (Or.inl ⟨by rfl,?_⟩) hF (fun hA=>?_)
   rotate_left
   ·intro wS hSw;(try dsimp only at hSw);obtain ⟨s1,s2⟩:=hSw;first | (apply Eq.trans;apply ex_ld_id;exact rfl;exact rfl;assumption;with_reducible rfl) | (apply Eq.trans;apply ex_bld0_at;exact rfl;with_reducible rfl) | (go_simp;try with_reducible rfl)
   try simp only [sA1,sA2,sA3,Act.put,sA4,sA5,sA6]
   have fV:Fr noB w2 w2.drew:=(Fr.refl noB w2).drew
   generalize w2.drew = V at hF fV ⊢
   clear gi gj ht1 ht2 x1 x2 y1 y2 hm0
   have fa:Fr noB V (V.alloc (ido zID)):=(Fr.refl noB V).alloc _
   have fb:Fr noB V ((V.alloc (ido zID)).alloc (ido zID)):=fa.alloc _
   have keep:∀ w',Fr noB V w' → rdI w' g (off + i * 32) = some (idG i) ∧ rdI w' g (off + j * 32) = some (idG j):=fun w' f=>⟨rdI_fr hF.1 (rdI_lt hF.1) f (by simp [noB]),rdI_fr hF.2 (rdI_lt hF.2) f (by simp [noB])⟩
   have k1:bxI ((V.alloc (ido zID)).alloc (ido zID)) V.heap.size = some zID:=by rw [bxI_old _ _ _ (by simp),bxI_new]
   have k2:bxI ((V.alloc (ido zID)).alloc (ido zID)) (V.heap.size + 1) = some zID:=by rw [bxI_new' _ _ _ (by simp)]
   refine wpAnyN_two (i:=16) (j:=17) hA (by kernel_rfl) (by decide) (by decide) rfl rfl (fun K' hK=>?_) (fun K' hK=>?_)
   ·skip
    rw [if_pos (by rfl)]
    refine step_runP _ _ (ex_alM_at rfl V) ?_
    refine hK.out _ _ (keep _ fa) (fun hA=>?_)
    clear hK K'
    try simp only [sA1,sA2,sA3,Act.put,sA4,sA5,sA6]
    refine wpAnyN_one (i:=17) hA (by kernel_rfl) (by decide) rfl (fun K' hK=>?_)
    rw [if_pos (by rfl)]
    refine step_runP _ _ (ex_alM_at rfl _) ?_
    refine hK.out _ _ (keep _ fb) (fun hA=>?_)
    clear hK K'
    try simp only [sA1,sA2,sA3,Act.put,sA4,sA5,sA6,World.size_alloc]
    obtain ⟨e1,e2,e3⟩:=putB_fr k1 (idG i)
    have e4:=bxI_fr k2 e1 (fun e=>by simp only [oneB] at e;omega)
    refine wpAnyN_one (i:=18) hA (by kernel_rfl) (by decide) rfl (fun K' hK=>?_)
    rw [if_pos (by rfl)]
    refine step_skipM _ (ex_stM_at rfl rfl rfl k1) ?_
    refine hK.out _ _ (keep _ (fb.step1 e1 (by omega))) (fun hA=>?_)
    clear hK K'
    try simp only [sA1,sA2,sA3,Act.put,sA4,sA5,sA6,World.size_alloc]
    refine wpAnyN_end rfl (by kernel_rfl) ?_
    simp only [List.drop_succ_cons,List.drop_zero]
    go_wp2_with fail
    go_meet
    case rel =>
     obtain ⟨g1,g2,g3⟩:=putB_fr e4 (idG j)
     have qa:=bxI_fr e3 g1 (fun e=>by simp only [oneB] at e;omega)
     exact ⟨_,_,rfl,rfl,qa,g3,fV.step0 ((fb.step1 e1 (by omega)).step1 g1 (by omega))⟩
   ·skip
    rw [if_pos (by rfl)]
    refine step_runP _ _ (ex_alM_at rfl V) ?_
    refine hK.out _ _ (keep _ fa) (fun hA=>?_)
    clear hK K'
    try simp only [sA1,sA2,sA3,Act.put,sA4,sA5,sA6]
    refine wpAnyN_one (i:=16) hA (by kernel_rfl) (by decide) rfl (fun K' hK=>?_)
    rw [if_pos (by rfl)]
    refine step_runP _ _ (ex_alM_at rfl _) ?_
    refine hK.out _ _ (keep _ fb) (fun hA=>?_)
    clear hK K'
    try simp only [sA1,sA2,sA3,Act.put,sA4,sA5,sA6,World.size_alloc]
    obtain ⟨e1,e2,e3⟩:=putB_fr k2 (idG i)
    have e4:=bxI_fr k1 e1 (fun e=>by simp only [oneB] at e;omega)
    refine wpAnyN_one (i:=18) hA (by kernel_rfl) (by decide) rfl (fun K' hK=>?_)
    rw [if_pos (by rfl)]
    refine step_skipM _ (ex_stM_at rfl rfl rfl k2) ?_
    refine hK.out _ _ (keep _ (fb.step1 e1 (by omega))) (fun hA=>?_)
    clear hK K'
    try simp only [sA1,sA2,sA3,Act.put,sA4,sA5,sA6,World.size_alloc]
    refine wpAnyN_end rfl (by kernel_rfl) ?_
    simp only [List.drop_succ_cons,List.drop_zero]
    go_wp2_with fail
    go_meet
    case rel =>
     obtain ⟨g1,g2,g3⟩:=putB_fr e4 (idG j)
     have qa:=bxI_fr e3 g1 (fun e=>by simp only [oneB] at e;omega)
     exact ⟨_,_,rfl,rfl,qa,g3,fV.step0 ((fb.step1 e1 (by omega)).step1 g1 (by omega))⟩
  case rest =>
   obtain ⟨pa,pb,rfl,rfl,qa,qb,fw⟩:=hcut
   clear gi gj ht1 ht2 x1 x2 y1 y2 hm0
   have hLl:L.length ≤ 1000:=by rw [HG.out.len,← HM.out];omega
   have MG:=Lib.hid (fun w' (f:Fr noB w2 w') x y=>mgMerge_any (HH.out.fr0 f) HG.out.nd hLl x y)
   have MO:=Lib.hid (fun w' (f:Fr noB w2 w') P c n ids hi hs hb=>mgOps_any (HH.out.fr0 f) HG.out.nd hLl P c n ids hi hs hb)
   have MC:=Lib.hid (fun w' (f:Fr noB w2 w') x=>mgCommit_any (HH.out.fr0 f) x)
   have im:i < ts.length:=by rw [← HM.out];exact i2
   have jm:j < ts.length:=by rw [← HM.out];exact j2
   have E1:=Lib.hid (HG.out.ok0 im jm)
   have E2:=Lib.hid (HG.out.ok0 jm im)
   have E3:=Lib.hid (HG.out.ok0 im im)
   have CT:∀ k (h:k < ts.length),∃ c,findC L (idG k) = some c ∧ 1 ≤ c.Time ∧ c.Time ≤ 64:=fun k h=>by
    obtain ⟨c,h1,h2⟩:=HG.out.has k h
    have h3:=HG.out.tm _ (List.getElem_mem h)
    have h4:=HG.out.le
    exact ⟨c,h1,by rw [h2];omega,by rw [h2];omega⟩
   have CA:=Lib.hid (CT i im)
   have CB:=Lib.hid (CT j jm)
   clear CT
   have HOKL:=Lib.hid HH.out.ok.ok
   clear hLl im jm
   have ra:=bxI_rd qa
   have rb:=bxI_rd qb
   have FW:=Lib.hid fw
   clear qa qb fw
   have XZ:=Lib.hid (idG_ne i (by omega))
   have YZ:=Lib.hid (idG_ne j (by omega))
   generalize idG i = x at ra rb E1 E2 E3 CA XZ ⊢
   generalize idG j = y at rb E1 E2 CB YZ ⊢
   go_upto_region 10 with (go_at_call 22;refine (MG.out _ FW.out x y).mono ?_;rintro e u3 ⟨p1,rfl,v3,_,hp⟩;have hp1:=Lib.hid (hp E1.out);rw [E1.out];clear hp)
   have fn:Fr noB u3 (u3.alloc (codPl.o p1)):=(Fr.refl noB u3).alloc _
   have bN1:=Cod.bxd_new (C:=codPl) u3 p1
   have g3:=v3.step0 fn
   have ra4:=rdI_fr ra (rdI_lt ra) g3 (by simp [noB])
   have rb4:=rdI_fr rb (rdI_lt rb) g3 (by simp [noB])
   have FW4:=Lib.hid (FW.out.step0 g3)
   obtain ⟨base1,ops1,pl1,bl1,bs1,bb1,ol1,_⟩:=hp1.out.plan
   have PL1:=Lib.hid pl1
   have OL1:=Lib.hid ol1
   have BS1:=Lib.hid (bs1.fr0 fn)
   have BL1:=Lib.hid (And.intro bl1 bb1)
   have HB1:=Lib.hid bN1
   have d1:=plAt (Cod.bxd_rd bN1)
   have c32:=d1.base
   have c34:=d1.safe
   have c35:=d1.time
   have f1:=d1.fw
   clear bN1 fn g3 ra rb FW v3 hp1 pl1 ol1 bs1 bl1 bb1 d1
   generalize u3.alloc (codPl.o p1) = u4 at ra4 rb4 FW4 BS1 HB1 c32 c34 c35 f1 ⊢
   generalize u3.heap.size = N1 at HB1 c32 c34 c35 f1 ⊢
   by_cases hab:ancG (dgH L) x y = true
   ·obtain ⟨eF,eb,_,es,et⟩:=PL1.out.fa hab
    have hz:=XZ.out
    have eb0:p1.bn = 0:=by rw [← BL1.out.1,eb];rfl
    rw [eF] at f1
    rw [es] at c34
    rw [et] at c35
    rw [eb0] at c32
    have HEF:=Lib.hid (And.intro eF (And.intro es (And.intro et eb0)))
    clear eF eb es et eb0
    go_wp2_with fail
    go_ret
    exact ⟨rfl,HF.out.step0 FW4.out⟩
   ·replace hab:ancG (dgH L) x y = false:=by simpa using hab
    by_cases hba:ancG (dgH L) y x = true
    ·obtain ⟨eF,eb,_,es,et⟩:=PL1.out.fb hab hba
     have hz:=YZ.out
     have eb0:p1.bn = 0:=by rw [← BL1.out.1,eb];rfl
     rw [eF] at f1
     rw [es] at c34
     rw [et] at c35
     rw [eb0] at c32
     have HEF:=Lib.hid (And.intro eF (And.intro es (And.intro et eb0)))
     clear eF eb es et eb0
     go_wp2_with fail
     go_ret
     exact ⟨rfl,HF.out.step0 FW4.out⟩
    ·replace hba:ancG (dgH L) y x = false:=by simpa using hba
     obtain ⟨eF,hbase,_,hops,⟨bo,hbo,hsafe⟩,htime⟩:=PL1.out.mg hab hba
     rw [eF] at f1
     have HPL:=Lib.hid (And.intro hbase (And.intro hops (And.intro hbo (And.intro hsafe htime))))
     have HAB:=Lib.hid (And.intro hab hba)
     clear eF hbase hops hbo hsafe htime hab hba c34 c35
     go_upto_region 15 with (go_at_call 17;refine (MO.out _ FW4.out p1.BA p1.bc p1.bn base1 BL1.out.1 BS1.out BL1.out.2).mono ?_;rintro e u5 ⟨A5,c5,rs5,l5,rfl,p5,b5,s5,a5,f5⟩)
     obtain rfl:l5 = bo:=p5.eq HPL.out.2.2.1 fun x=>Iff.rfl
     have FW5:=Lib.hid (FW4.out.step0 f5)
     have RA5:=Lib.hid (rdI_fr ra4 (rdI_lt ra4) f5 (by simp [noB]))
     have RB5:=Lib.hid (rdI_fr rb4 (rdI_lt rb4) f5 (by simp [noB]))
     have HB5:=Lib.hid (Cod.bxd_fr0 HB1.out f5)
     have HL5:=Lib.hid b5
     have HS5:=Lib.hid s5
     have HA5:=Lib.hid a5
     have HP5:=Lib.hid p5
     clear f5 ra4 rb4 b5 s5 a5 c32 f1 p5
     go_upto_region 16 with fail
     have fm:Fr noB u5 (u5.alloc (.map #[] 0)):=(Fr.refl noB u5).alloc _
     have im:InS (u5.alloc (.map #[] 0)) u5.heap.size []:=InS.nil (mpT_new u5)
     have lm:u5.heap.size < (u5.alloc (.map #[] 0)).heap.size:=by simp
     generalize u5.alloc (.map #[] 0) = u6 at fm im lm ⊢
     obtain ⟨rm,hrm⟩:∃ rm,rm = u5.heap.size:=⟨_,rfl⟩
     rw [← hrm] at im lm ⊢
     have HRM:=Lib.hid (show u5.heap.size ≤ rm by omega)
     clear hrm
     go_upto_region 17 with fail
     have fs:Fr noB u6 (u6.alloc (codS.o zSt)):=(Fr.refl noB u6).alloc _
     have bS:=Cod.bxd_new (C:=codS) u6 zSt
     have F57:=Lib.hid (fm.step0 fs)
     have IM:=Lib.hid (im.fr0 fs)
     clear im fs
     generalize u6.alloc (codS.o zSt) = u7 at bS F57 IM ⊢
     generalize u6.heap.size = ps at bS lm ⊢
     have HBS:=Lib.hid bS
     have LM:=Lib.hid lm
     clear bS fm lm
     have hl5:rs5.length = l5.length:=HA5.out.1
     have HL:=Lib.hid hl5
     have HG5:=Lib.hid (HPL.out.2.2.1.good HH.out.ok)
     have HNB:=Lib.hid (show rs5.length ≤ 64000 by have:=HL5.out;omega)
     clear hl5
     go_wp2_with fail
     go_loopg [94] rs5.length (fun gk kv wr=>∃ k:Nat,kv = .int .i64 (k:Int) ∧ gk = rs5.length - k ∧ k ≤ rs5.length ∧ InS wr rm (l5.take k) ∧ codS.bxd wr ps = some (lastO (l5.take k)) ∧ Fr noB u5 wr)
     case atStart=>exact ⟨0,rfl,by omega,by omega,by rw [List.take_zero];exact IM.out,by rw [List.take_zero];exact HBS.out,F57.out⟩
     case round =>
      obtain ⟨k,rfl,rfl,hk,hin,hps,hfr⟩:=hrel
      by_cases hlt:k < rs5.length
      ·have i1:(k:Int) < (rs5.length:Int):=by omega
       have i0:(0:Int) ≤ (k:Int):=by omega
       obtain ⟨g5,o5,rfl,hg5⟩:=Sl.addr HS5.out (by omega)
       have ro:codO.rd wr g5 (o5 + k * 41) = some rs5[k]:=Cod.rd_fr0 (Sl.rd HS5.out k hlt) hfr
       have hk5:k < l5.length:=by rw [← HL.out];exact hlt
       have eAt:l5[k].At = rs5[k].At:=by rw [(HA5.out.2 k hlt hk5).op.inn.eq];rfl
       have hwf:wfS l5[k].At = true:=rightS_wf (goodOp_at (HG5.out _ (List.getElem_mem hk5))).1
       have HLS:=Lib.hid (And.intro (lastO_take l5 k hk5) (List.take_succ_eq_append_getElem hk5))
       generalize l5[k] = lo at eAt hwf HLS
       generalize rs5[k] = q at ro eAt
       have HK:=Lib.hid (And.intro hlt hk5)
       clear hlt hk hk5 hg5
       go_upto_region 20 with fail
       have f1:Fr noB wr (wr.alloc (codO.o q)):=(Fr.refl noB wr).alloc _
       have q12:=(opAt (Cod.rd_new' (C:=codO) wr q)).At
       have in1:=hin.fr0 f1
       have ps1:=Cod.bxd_fr0 hps f1
       have F1:=Lib.hid (hfr.step0 f1)
       have hD:rm < wr.heap.size:=by
        obtain ⟨lq,hq,_⟩:=hin
        exact mpT_lt hq
       clear ro hin hps hfr f1
       generalize wr.alloc (codO.o q) = W1 at q12 in1 ps1 F1 ⊢
       generalize wr.heap.size = D2 at q12 hD ⊢
       obtain ⟨p1,p2,kv,p3⟩:=in1.put (o:=lo) hwf
       rw [eAt] at p1 p2 hwf
       go_upto_region 21 with fail
       have q13:=Cod.rd_fr q12 p2 (show ¬ D2 = rm by omega)
       have ps2:=Cod.bxd_fr ps1 p2 (show ¬ ps = rm by have:=LM.out;omega)
       have F2:=Lib.hid (F1.out.step1 p2 HRM.out)
       have P1:=Lib.hid p1
       clear p1 p2 p3 q12 in1 ps1 F1 hwf hD
       generalize mputT 78 W1 rm q.At (.bool true) = W2 at q13 ps2 F2 P1 ⊢
       have hst:=okS.stR_box ps2 q.At
       obtain ⟨t1,t2,t3⟩:=Cod.put_fr ps2 q.At
       have T:=Lib.hid (And.intro t1 t3)
       clear t1 t2 t3 ps2
       go_wp2_with fail
       go_roundg (rs5.length - (k + 1))
       case measure=>have:=HK.out.1;omega
       case rel =>
        have hps2:u5.heap.size ≤ ps:=by have:=LM.out;have:=HRM.out;omega
        exact ⟨k + 1,by first | (simp;done) | exact congrArg (Value.int .i64) (IntWalk.wrap64_in _ (by have:=HK.out.1;have:=HNB.out;omega)),rfl,HK.out.1,by
         rw [HLS.out.2];exact P1.out.fr T.out.1 (show ¬ rm = ps by have:=LM.out;omega),by
         rw [HLS.out.1,eAt];exact T.out.2,F2.out.step1 T.out.1 hps2⟩
      ·have i1:¬ (k:Int) < (rs5.length:Int):=by omega
       have hke:k = l5.length:=by rw [← HL.out];omega
       rw [hke,List.take_length] at hin hps
       have FA:=Lib.hid (FW5.out.step0 hfr)
       have RAW:=Lib.hid (rdI_fr RA5.out (rdI_lt RA5.out) hfr (by simp [noB]))
       have RBW:=Lib.hid (rdI_fr RB5.out (rdI_lt RB5.out) hfr (by simp [noB]))
       have HBW:=Lib.hid (Cod.bxd_fr0 HB5.out hfr)
       have INW:=Lib.hid hin
       have PSW:=Lib.hid hps
       clear hke hk hin hps hfr
       obtain ⟨wl,ewl⟩:∃ wl,wl = wr:=⟨_,rfl⟩
       subst ewl
       have raw:=RAW.out
       have rbw:=RBW.out
       have fn:Fr noB wl (wl.alloc (rowo [x,y])):=(Fr.refl noB wl).alloc _
       have sn:=sl_new wl [x,y]
       have F24:=FA.out.step0 fn
       go_wp2_with (go_at_call 17;refine (MO.out _ F24 _ _ 2 [x,y] rfl sn (by simp)).mono ?_;rintro e u8 ⟨A6,c6,rs6,l6,rfl,p6,b6,s6,a6,f6⟩;clear raw rbw sn)
       have HS6:=Lib.hid s6
       have HA6:=Lib.hid a6
       have HP6:=Lib.hid p6
       have HG6:=Lib.hid (p6.good HH.out.ok)
       have FL8:=Lib.hid (fn.step0 f6)
       have HL6:=Lib.hid a6.1
       have HNB6:=Lib.hid (show rs6.length ≤ 64000 by have:=a6.1;omega)
       clear s6 a6 p6 b6 fn F24 f6
       go_loopg [18,110] rs6.length (fun gk sv kv wr=>∃ (k:Nat) (b:Bool),sv = .bool b ∧ kv = .int .i64 (k:Int) ∧ gk = rs6.length - k ∧ k ≤ rs6.length ∧ b = (l6.take k).all (sfO l5) ∧ Fr noB u8 wr)
       case atStart=>exact ⟨0,true,rfl,rfl,by omega,by omega,by rw [List.take_zero];rfl,Fr.refl _ _⟩
       case round =>
        obtain ⟨k,b,rfl,rfl,rfl,hk,hbv,hfr⟩:=hrel
        by_cases hlt:k < rs6.length
        ·have i1:(k:Int) < (rs6.length:Int):=by omega
         have i0:(0:Int) ≤ (k:Int):=by omega
         obtain ⟨g6,o6,rfl,hg6⟩:=Sl.addr HS6.out (by omega)
         have ro:codO.rd wr g6 (o6 + k * 41) = some rs6[k]:=Cod.rd_fr0 (Sl.rd HS6.out k hlt) hfr
         have hk6:k < l6.length:=by rw [← HL6.out];exact hlt
         have eAt:l6[k].At = rs6[k].At:=by rw [(HA6.out.2 k hlt hk6).op.inn.eq];rfl
         have hwf:wfS rs6[k].At = true:=by rw [← eAt];exact rightS_wf (goodOp_at (HG6.out _ (List.getElem_mem hk6))).1
         have HAT:=Lib.hid (all_take (sfO l5) l6 k hk6)
         generalize l6[k] = lo at eAt HAT
         generalize rs6[k] = q at ro eAt hwf
         have HK:=Lib.hid (And.intro hlt hbv)
         clear hlt hk hk6 hbv hg6
         go_upto_region 27 with fail
         have f1:Fr noB wr (wr.alloc (codO.o q)):=(Fr.refl noB wr).alloc _
         have q12:=(opAt (Cod.rd_new' (C:=codO) wr q)).At
         have fw:=(FL8.out.step0 hfr).step0 f1
         have ps2:=Cod.bxd_rd (Cod.bxd_fr0 PSW.out fw)
         have in1:=INW.out.fr0 fw
         obtain ⟨kv,m1,m2⟩:=in1.look q.At
         have F1:=Lib.hid (hfr.step0 f1)
         have hsf:sfO l5 lo = ((l5.any fun o=>decide (o.At = q.At)) || decide (0 < cmpS q.At (lastO l5))):=by unfold sfO;rw [eAt]
         clear ro hfr f1 fw in1 eAt
         generalize wr.alloc (codO.o q) = W1 at q12 ps2 m1 F1 ⊢
         generalize wr.heap.size = D2 at q12 ⊢
         generalize (l5.any fun o=>decide (o.At = q.At)) = bb at m2 hsf
         generalize lastO l5 = las at ps2 hsf
         generalize hcv:cmpS q.At las = cv at hsf
         have HCV:=Lib.hid hcv
         have HSF:=Lib.hid hsf
         clear hcv hsf
         cases bb with
         | true =>
          go_wp2_with fail
          go_roundg (rs6.length - (k + 1))
          case measure=>have:=HK.out.1;omega
          case rel=>exact ⟨k + 1,b,rfl,by first | (simp;done) | exact congrArg (Value.int .i64) (IntWalk.wrap64_in _ (by have:=HK.out.1;have:=HNB6.out;omega)),rfl,HK.out.1,by rw [HAT.out,← HK.out.2,HSF.out];simp,F1.out⟩
         | false =>
          by_cases hc:cv ≤ 0
          ·go_wp2_with (go_at_call 29;refine (r3cmp_any _ _ _).mono ?_;rintro e w9 ⟨rfl,f9⟩;rw [HCV.out])
           go_roundg (rs6.length - (k + 1))
           case measure=>have:=HK.out.1;omega
           case rel=>exact ⟨k + 1,false,rfl,by first | (simp;done) | exact congrArg (Value.int .i64) (IntWalk.wrap64_in _ (by have:=HK.out.1;have:=HNB6.out;omega)),rfl,HK.out.1,by rw [HAT.out,HSF.out,decide_eq_false (by omega)];simp,F1.out.step0 f9⟩
          ·go_wp2_with (go_at_call 29;refine (r3cmp_any _ _ _).mono ?_;rintro e w9 ⟨rfl,f9⟩;rw [HCV.out])
           go_roundg (rs6.length - (k + 1))
           case measure=>have:=HK.out.1;omega
           case rel=>exact ⟨k + 1,b,rfl,by first | (simp;done) | exact congrArg (Value.int .i64) (IntWalk.wrap64_in _ (by have:=HK.out.1;have:=HNB6.out;omega)),rfl,HK.out.1,by rw [HAT.out,← HK.out.2,HSF.out,decide_eq_true (by omega)];simp,F1.out.step0 f9⟩
        ·have i1:¬ (k:Int) < (rs6.length:Int):=by omega
         have hke:k = l6.length:=by rw [← HL6.out];omega
         rw [hke,List.take_length] at hbv
         have HBV:=Lib.hid hbv
         have F6:=Lib.hid (FL8.out.step0 hfr)
         clear hke hk hbv hfr
         obtain ⟨wm,ewm⟩:∃ wm,wm = wr:=⟨_,rfl⟩
         subst ewm
         have raw:=rdI_fr RAW.out (rdI_lt RAW.out) F6.out (by simp [noB])
         have rbw:=rdI_fr RBW.out (rdI_lt RBW.out) F6.out (by simp [noB])
         have fn:Fr noB wm (wm.alloc (rowo [x,y])):=(Fr.refl noB wm).alloc _
         have sn:=sl_new wm [x,y]
         have FWN:=Lib.hid (F6.out.step0 fn)
         have SN:=Lib.hid sn
         clear sn fn
         go_wp2_with fail
         generalize wm.alloc (rowo [x,y]) = wn at FWN SN ⊢
         generalize wm.heap.size = D at SN ⊢
         clear raw rbw
         go_loopg [131] 2 (fun gk kv wr=>∃ k:Nat,kv = .int .i64 (k:Int) ∧ gk = 2 - k ∧ k ≤ 2 ∧ Fr noB wn wr)
         case atStart=>exact ⟨0,rfl,rfl,by omega,Fr.refl _ _⟩
         case round =>
          obtain ⟨k,rfl,rfl,hk,hfr⟩:=hrel
          by_cases hlt:k < 2
          ·have i1:(k:Int) < 2:=by omega
           have i0:(0:Int) ≤ (k:Int):=by omega
           have rz:=(SN.out.fr0 hfr).id k (by simpa using hlt)
           have hz:[x,y][k] = x ∨ [x,y][k] = y:=by
            rcases k with _ | _ | k
            ·exact .inl rfl
            ·exact .inr rfl
            ·omega
           rw [Nat.zero_add] at rz
           generalize [x,y][k] = z at rz hz
           have HZ:=Lib.hid hz
           have HLT:=Lib.hid hlt
           have FW1:=Lib.hid (FWN.out.step0 hfr)
           have HFR:=Lib.hid hfr
           clear hz hlt hk hfr
           obtain ⟨wo,ewo⟩:∃ wo,wo = wr:=⟨_,rfl⟩
           subst ewo
           go_upto_region 33 with fail
           obtain ⟨p1,p2,p3⟩:=putB_fr (bxI_new wo zID) z
           have f1:Fr noB wo (putB (wo.alloc (ido zID)) wo.heap.size z):=((Fr.refl noB wo).alloc _).step1 p1 (Nat.le_refl _)
           have rb:=bxI_rd p3
           have FZ:=Lib.hid f1
           clear p1 p2 p3 rz f1
           generalize putB (wo.alloc (ido zID)) wo.heap.size z = W1 at rb FZ ⊢
           generalize wo.heap.size = pz at rb ⊢
           go_upto_region 34 with fail
           have f2:Fr noB W1 (W1.alloc (.map #[] 0)):=(Fr.refl noB W1).alloc _
           have im:=InS.nil (mpT_new W1)
           have rb2:=rdI_fr rb (rdI_lt rb) f2 (by simp [noB])
           have FY:=Lib.hid f2
           clear rb f2
           generalize W1.alloc (.map #[] 0) = W2 at im rb2 FY ⊢
           obtain ⟨mt,hmt⟩:∃ mt,mt = W1.heap.size:=⟨_,rfl⟩
           rw [← hmt] at im ⊢
           have HMT:=Lib.hid (show wo.heap.size ≤ mt by have:=FZ.out.size;omega)
           have IM2:=Lib.hid im
           clear hmt im
           have fn3:Fr noB W2 (W2.alloc (rowo [z])):=(Fr.refl noB W2).alloc _
           have sn3:=sl_new W2 [z]
           have F34:=FA.out.step0 ((FW1.out.step0 FZ.out).step0 (FY.out.step0 fn3))
           go_wp2_with (go_at_call 17;refine (MO.out _ F34 _ _ 1 [z] rfl sn3 (by simp)).mono ?_;rintro e u9 ⟨A7,c7,rs7,l7,rfl,p7,b7,s7,a7,f7⟩;clear rb2 sn3)
           have HS7:=Lib.hid s7
           have HA7:=Lib.hid a7
           have HP7:=Lib.hid p7
           have HG7:=Lib.hid (p7.good HH.out.ok)
           have HL7:=Lib.hid a7.1
           have HNB7:=Lib.hid (show rs7.length ≤ 64000 by have:=a7.1;omega)
           have IM9:=Lib.hid (IM2.out.fr0 (fn3.step0 f7))
           have FU:=Lib.hid (FZ.out.step0 (FY.out.step0 (fn3.step0 f7)))
           clear s7 a7 p7 b7 fn3 F34 f7
           go_loopg [141] rs7.length (fun gk kv wr=>∃ k:Nat,kv = .int .i64 (k:Int) ∧ gk = rs7.length - k ∧ k ≤ rs7.length ∧ InS wr mt (l7.take k) ∧ Fr (oneB mt) u9 wr)
           case atStart=>exact ⟨0,rfl,by omega,by omega,by rw [List.take_zero];exact IM9.out,Fr.refl _ _⟩
           case round =>
            obtain ⟨k7,rfl,rfl,hk7,hin,hfr⟩:=hrel
            by_cases hlt:k7 < rs7.length
            ·have j1:(k7:Int) < (rs7.length:Int):=by omega
             have j0:(0:Int) ≤ (k7:Int):=by omega
             obtain ⟨g7,o7,rfl,hg7⟩:=Sl.addr HS7.out (by omega)
             have rq:codO.rd u9 g7 (o7 + k7 * 41) = some rs7[k7]:=Sl.rd HS7.out k7 hlt
             have hne:¬ g7 = mt:=by
              rintro rfl
              obtain ⟨lq,hq,_⟩:=IM9.out
              have h1:=Cod.rd_cell rq 0 (v:=.int .i64 rs7[k7].Kind) rfl
              rw [mpT_cell hq] at h1
              cases h1
             have ro:=Cod.rd_fr rq hfr hne
             have hk6:k7 < l7.length:=by rw [← HL7.out];exact hlt
             have eAt:l7[k7].At = rs7[k7].At:=by rw [(HA7.out.2 k7 hlt hk6).op.inn.eq];rfl
             have hwf:wfS l7[k7].At = true:=rightS_wf (goodOp_at (HG7.out _ (List.getElem_mem hk6))).1
             have HLS:=Lib.hid (List.take_succ_eq_append_getElem hk6)
             clear rq hne
             generalize l7[k7] = lo at eAt hwf HLS
             generalize rs7[k7] = q at ro eAt
             have HK:=Lib.hid hlt
             clear hlt hk7 hk6 hg7
             go_upto_region 37 with fail
             have f1:Fr noB wr (wr.alloc (codO.o q)):=(Fr.refl noB wr).alloc _
             have q12:=(opAt (Cod.rd_new' (C:=codO) wr q)).At
             have in1:=hin.fr0 f1
             have F1:=Lib.hid (hfr.trans (f1.any (M:=oneB mt)) (fun _ _ h=>h))
             clear ro hin hfr f1
             generalize wr.alloc (codO.o q) = W3 at q12 in1 F1 ⊢
             generalize wr.heap.size = D2 at q12 ⊢
             obtain ⟨p1,p2,kv,p3⟩:=in1.put (o:=lo) hwf
             rw [eAt] at p1 p2 hwf
             have PP:=Lib.hid (And.intro p1 p2)
             clear p1 p2 in1
             go_wp2_with fail
             go_roundg (rs7.length - (k7 + 1))
             case measure=>have:=HK.out;omega
             case rel=>exact ⟨k7 + 1,by first | (simp;done) | exact congrArg (Value.int .i64) (IntWalk.wrap64_in _ (by have:=HK.out;have:=HNB7.out;omega)),rfl,HK.out,by rw [HLS.out];exact PP.out.1,F1.out.trans PP.out.2 (fun _ _ h=>h)⟩
            ·have j1:¬ (k7:Int) < (rs7.length:Int):=by omega
             have hke:k7 = l7.length:=by rw [← HL7.out];omega
             rw [hke,List.take_length] at hin
             have FV:=Lib.hid (FU.out.step1 hfr HMT.out)
             have INM:=Lib.hid hin
             clear hke hk7 hin hfr
             obtain ⟨wv,ewv⟩:∃ wv,wv = wr:=⟨_,rfl⟩
             subst ewv
             obtain ⟨ls,hm,hls⟩:=INW.out.fr0 (FW1.out.step0 FV.out)
             obtain ⟨_,hrg⟩:=rngT_all Tryz.underlying78 hm
             have F8:Fr noB wv (wv.alloc (rngOT wv rm)):=(Fr.refl noB wv).alloc _
             have HSUB:=Lib.hid (HP5.out.sub HP7.out fun v hv=>by
              have h1:=(base_reached HOKL.out HPL.out.1 v).1 hv
              rcases HZ.out with e | e
              ·rw [e];exact reached_one.2 h1.1
              ·rw [e];exact reached_one.2 h1.2)
             have HSS:=Lib.hid hls
             have HRG:=Lib.hid (And.intro hrg F8)
             clear hls hrg F8
             go_wp2_with fail
             generalize wv.alloc (rngOT wv rm) = w9 at HRG ⊢
             obtain ⟨it,hit⟩:∃ it,it = wv.heap.size:=⟨_,rfl⟩
             rw [← hit] at HRG ⊢
             have HIT:=Lib.hid (show wv.heap.size ≤ it by omega)
             clear hm hit
             go_loopg [] (setS ls).length (fun gk wr=>∃ left,gk = left.length ∧ RngT wr it rm (setS ls) left ∧ Fr noB wv wr)
             case atStart=>exact ⟨_,rfl,HRG.out.1,HRG.out.2⟩
             case round =>
              obtain ⟨left,rfl,hr,hf⟩:=hrel
              rcases hr.next hr.ne 0 with ⟨h0,hrun⟩ | ⟨l1,sq,l2,w3,h0,hp,hwp,hrun,hr3,hf3,hent⟩
              ·have F9:=Lib.hid (FV.out.step0 hf)
               clear hr hf h0
               go_wp2_with fail
               go_roundg (2 - (k + 1))
               case measure=>have:=HLT.out;omega
               case rel=>exact ⟨k + 1,by first | (simp;done) | exact congrArg (Value.int .i64) (IntWalk.wrap64_in _ (by have:=HLT.out;omega)),rfl,HLT.out,HFR.out.step0 F9.out⟩
              ·have hent':=hent noB w3 (Fr.refl _ _) (by simp [noB]) (by simp [noB])
               have F3:Fr noB wv w3:=hf.step1 hf3 HIT.out
               have R3:=Lib.hid hr3
               have H0:=Lib.hid h0
               have HP:=Lib.hid hp
               clear hr hf hent hf3 hr3 h0 hp
               go_upto_region 42 with fail
               have f1:Fr noB w3 (w3.alloc (codS.o sq.1)):=(Fr.refl noB w3).alloc _
               have q12:=Cod.rd_new' (C:=codS) w3 sq.1
               have F12:=F3.step0 f1
               obtain ⟨kv,m1,m2⟩:=(INM.out.fr0 F12).look sq.1
               have hany:(l7.any fun o=>decide (o.At = sq.1)) = true:=by
                obtain ⟨s,hs,e⟩:=List.mem_map.1 HP.out
                obtain ⟨o,ho,e2⟩:=(HSS.out s).1 hs
                exact List.any_eq_true.2 ⟨o,HSUB.out o ho,by rw [e2,← e];simp⟩
               rw [hany] at m2
               have RR:=Lib.hid (And.intro (R3.out.fr f1 (by simp [noB]) (by simp [noB])) F12)
               clear hany F3 f1 F12 hrun hent'
               generalize w3.alloc (codS.o sq.1) = w4 at q12 m1 RR ⊢
               generalize w3.heap.size = D2 at q12 ⊢
               go_wp2_with fail
               go_roundg ((l1 ++ l2).length)
               case measure=>rw [H0.out];simp
               case rel=>exact ⟨_,rfl,RR.out.1,RR.out.2⟩
          ·have i1:¬ (k:Int) < 2:=by omega
           have FE:=Lib.hid (FWN.out.step0 hfr)
           clear hk hfr
           have rax:=rdI_fr RAW.out (rdI_lt RAW.out) FE.out (by simp [noB])
           have FE2:=FA.out.step0 FE.out
           go_upto_region 46 with (go_at_call 14;refine (MC.out _ FE2 x).mono ?_;rintro e u10 ⟨r1,q1,rfl,hc1,v10⟩)
           obtain ⟨cx,hcx,tx⟩:=CA.out
           obtain ⟨cy,hcy,ty⟩:=CB.out
           have ex:r1.Time = cx.Time:=by
            have h:=hc1.inn.time
            rw [hcx] at h
            exact h.symm
           have fx:Fr noB u10 (u10.alloc (codC.o r1)):=(Fr.refl noB u10).alloc _
           have k27:=(cgAt (Cod.bxd_rd (Cod.bxd_new (C:=codC) u10 r1))).time
           rw [ex] at k27
           have G11:=Lib.hid (v10.step0 fx)
           clear rax FE2 hc1 ex fx v10
           generalize u10.alloc (codC.o r1) = u11 at k27 G11 ⊢
           generalize u10.heap.size = X1 at k27 ⊢
           have rby:=rdI_fr RBW.out (rdI_lt RBW.out) (FE.out.step0 G11.out) (by simp [noB])
           have FE3:=FA.out.step0 (FE.out.step0 G11.out)
           have HX:=Lib.hid hcx
           have HY:=Lib.hid hcy
           clear hcx hcy
           go_upto_region 47 with (go_at_call 14;refine (MC.out _ FE3 y).mono ?_;rintro e u12 ⟨r2,q2,rfl,hc2,v12⟩)
           have ey:r2.Time = cy.Time:=by
            have h:=hc2.inn.time
            rw [HY.out] at h
            exact h.symm
           have fy:Fr noB u12 (u12.alloc (codC.o r2)):=(Fr.refl noB u12).alloc _
           have k29:=(cgAt (Cod.bxd_rd (Cod.bxd_new (C:=codC) u12 r2))).time
           rw [ey] at k29
           have k27':=cell_fr0 k27 (v12.step0 fy)
           have d1:=plAt (Cod.bxd_rd (Cod.bxd_fr0 HBW.out ((FE.out.step0 G11.out).step0 (v12.step0 fy))))
           have c34:=d1.safe
           have c35:=d1.time
           have FF:=Lib.hid (HF.out.step0 (FE3.step0 (v12.step0 fy)))
           clear rby FE3 hc2 ey fy v12 d1 k27
           generalize u12.alloc (codC.o r2) = u13 at k27' k29 c34 c35 FF ⊢
           generalize u12.heap.size = X2 at k29 ⊢
           have es:p1.Safe = b:=by
            have h1:l6 = _:=HP6.out.eq HPL.out.2.1 fun _=>Iff.rfl
            rw [HPL.out.2.2.2.1,← h1,HBV.out]
            exact safe_loop HP6.out.srt HG6.out
           have et:=HPL.out.2.2.2.2 _ _ HX.out HY.out
           rw [es] at c34
           rw [et] at c35
           have hw1:wrap64 (max cx.Time cy.Time + 1) = max cx.Time cy.Time + 1:=by
            unfold wrap64
            omega
           have HE:=Lib.hid (And.intro es et)
           clear es et
           generalize cx.Time = t1 at k27' c35 hw1 tx
           generalize cy.Time = t2 at k29 c35 hw1 ty
           go_wp2_with fail
           go_ret
           exact ⟨by first | rfl | simp,FF.out⟩
end Go.Proofs.YtjpieiccpbcabaaGreat
