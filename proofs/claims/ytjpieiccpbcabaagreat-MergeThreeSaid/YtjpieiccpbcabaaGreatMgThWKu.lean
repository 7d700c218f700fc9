/- The law MergeThree: it returns true. (rdI, ex_bld0_at, ex_ld_arr) -/
import Derived.Test.YtjpieiccpbcabaaGreatMgThVKu
import Derived.Test.YtjpieiccpbcabaaGreatMgGwKu
set_option linter.unusedVariables false
set_option linter.unusedSimpArgs false
namespace Go.Proofs.YtjpieiccpbcabaaGreat
open Go.RowKit Go.Maps Go.Sort
set_option maxRecDepth 100000 in
set_option maxHeartbeats 8000000 in
theorem three15_any (w:World) (A0:Option Addr) (c0 n:Nat) (nums:List Tri) (a1 a2 a3:Int) (hn:nums.length = n) (hs:Sl w A0 (codTr.row nums)) (hb:nums.length ≤ 200000000000000) :
  Calls Tryz.prog 5 #[.slice A0 n c0,.int .i64 a1,.int .i64 a2,.int .i64 a3] w (Gives w (.bool true)):=by
 have HS:=Lib.hid (fun w' (f:Fr noB w w')=>l15grown_any w' A0 c0 n nums hn (hs.fr0 f) hb)
 clear hn hs hb
 go_enter Tryz.func5,Tryz.ntmps5
 go_upto_region 4 with (first
  | (go_at_call 9;refine (l15alive_any w).mono ?_;rintro e w1 ⟨rfl,f1⟩)
  | (go_at_call 26;refine (HS.out w1 f1).mono ?_;rintro e w2 ⟨H,S,L,ts,A,cA,rfl,hs2,hg,hA,hnA,hlo,f2⟩))
 have HG:=Lib.hid hg
 have HH:=Lib.hid hs2
 have HA:=Lib.hid hA
 have HF:=Lib.hid (f1.step0 f2)
 obtain ⟨m,hm⟩:∃ m,m = ts.length:=⟨_,rfl⟩
 have hm16:m ≤ 16:=by rw [hm];exact hg.le
 rw [← hm]
 have HM:=Lib.hid hm
 have HLO:=Lib.hid (show ∀ b,S b → w.heap.size ≤ b from fun b hb=>Nat.le_trans f1.size (hlo b hb))
 clear hm hg hs2 hA hnA hlo f1 f2 HS
 by_cases m0:m = 0
 ·subst m0
  go_wp2_with fail
  go_ret
  exact ⟨rfl,HF.out⟩
 ·have hmp:0 < m:=by omega
  obtain ⟨r1,er1,hr1⟩:=and_maskM a1 1023 (by omega)
  obtain ⟨r2,er2,hr2⟩:=and_maskM a2 1023 (by omega)
  obtain ⟨r3,er3,hr3⟩:=and_maskM a3 1023 (by omega)
  have i2:r1 % m < m:=Nat.mod_lt _ hmp
  have j2:r2 % m < m:=Nat.mod_lt _ hmp
  have l2:r3 % m < m:=Nat.mod_lt _ hmp
  have ht1:(bits BinOp.and IntKind.i64 a1 1023).tmod (m:Int) = ((r1 % m:Nat):Int):=by rw [show bits BinOp.and IntKind.i64 a1 1023 = (r1:Int) from er1];rfl
  have ht2:(bits BinOp.and IntKind.i64 a2 1023).tmod (m:Int) = ((r2 % m:Nat):Int):=by rw [show bits BinOp.and IntKind.i64 a2 1023 = (r2:Int) from er2];rfl
  have ht3:(bits BinOp.and IntKind.i64 a3 1023).tmod (m:Int) = ((r3 % m:Nat):Int):=by rw [show bits BinOp.and IntKind.i64 a3 1023 = (r3:Int) from er3];rfl
  generalize r1 % m = i at i2 ht1
  generalize r2 % m = j at j2 ht2
  generalize r3 % m = l at l2 ht3
  clear er1 er2 er3 hr1 hr2 hr3
  have hA:=HA.out
  rw [← HM.out] at hA
  obtain ⟨g,off,rfl⟩:=(Sl.own hA).adG (by rw [rowG_len];omega)
  have gi:=(Sl.own hA).id i (by rw [rowG_len];omega)
  have gj:=(Sl.own hA).id j (by rw [rowG_len];omega)
  have gl:=(Sl.own hA).id l (by rw [rowG_len];omega)
  rw [rowG_get] at gi gj gl
  have x1:(0:Int) ≤ (i:Int):=by omega
  have x2:(i:Int) < (m:Int):=by omega
  have y1:(0:Int) ≤ (j:Int):=by omega
  have y2:(j:Int) < (m:Int):=by omega
  have z1:(0:Int) ≤ (l:Int):=by omega
  have z2:(l:Int) < (m:Int):=by omega
  have hm0:((m:Int) == 0) = false:=by rw [beq_eq_false_iff_ne];omega
  clear hA
  go_upto_region 8 with fail
  go_cut [11,12,13] from 36 to 60 (fun va vb vc wx=>∃ pa pb pc,va = .pointer (some ⟨pa,0,none⟩) ∧ vb = .pointer (some ⟨pb,0,none⟩) ∧ vc = .pointer (some ⟨pc,0,none⟩) ∧ bxI wx pa = some (idG i) ∧ bxI wx pb = some (idG j) ∧ bxI wx pc = some (idG l) ∧ Fr noB w2 wx)
  case first =>
   go_wp2_with fail
   refine wp_region_N 29 (fun w'=>rdI w' g (off + i * 32) = some (idG i) ∧ rdI w' g (off + j * 32) = some (idG j) ∧ rdI w' g (off + l * 32) = some (idG l)) (by kernel_rfl) (by kernel_rfl) ⟨(rdI_drew _ _ _).trans gi,(rdI_drew _ _ _).trans gj,(rdI_drew _ _ _).trans gl⟩ (fun hA hF=>?_)
   refine wpAnyN_take (i:=0) (v:=?_) hA rfl (by decide) (by kernel_rfl) (by kernel_rfl) (fun _ _ _ h=>h) (Or.inl ⟨by rfl,?_⟩) hF (fun hA=>?_)
   rotate_left
   ·intro wS hSw;(try dsimp only at hSw);obtain ⟨s1,s2,s3⟩:=hSw;first | (apply Eq.trans;apply ex_ld_id;exact rfl;exact rfl;assumption;with_reducible rfl) | (apply Eq.trans;apply ex_ld_arr;exact rfl;exact rfl;assumption;with_reducible rfl) | (apply Eq.trans;apply ex_bld0_at;exact rfl;with_reducible rfl) | (go_simp;try with_reducible rfl)
   try simp only [sA1,sA2,sA3,Act.put,sA4,sA5,sA6]
   refine wpAnyN_take (i:=1) (v:=?_) hA rfl (by decide) (by kernel_rfl) (by kernel_rfl) (fun _ _ _ h=>h) (Or.inl ⟨by rfl,?_⟩) hF (fun hA=>?_)
   rotate_left
   ·intro wS hSw;(try dsimp only at hSw);obtain ⟨s1,s2,s3⟩:=hSw;first | (apply Eq.trans;apply ex_ld_id;exact rfl;exact rfl;assumption;with_reducible rfl) | (apply Eq.trans;apply ex_ld_arr;exact rfl;exact rfl;assumption;with_reducible rfl) | (apply Eq.trans;apply ex_bld0_at;exact rfl;with_reducible rfl) | (go_simp;try with_reducible rfl)
   try simp only [sA1,sA2,sA3,Act.put,sA4,sA5,sA6]
   refine wpAnyN_take (i:=2) (v:=?_) hA rfl (by decide) (by kernel_rfl) (by kernel_rfl) (fun _ _ _ h=>h) (Or.inl ⟨by rfl,?_⟩) hF (fun hA=>?_)
   rotate_left
   ·intro wS hSw;(try dsimp only at hSw);obtain ⟨s1,s2,s3⟩:=hSw;first | (apply Eq.trans;apply ex_ld_id;exact rfl;exact rfl;assumption;with_reducible rfl) | (apply Eq.trans;apply ex_ld_arr;exact rfl;exact rfl;assumption;with_reducible rfl) | (apply Eq.trans;apply ex_bld0_at;exact rfl;with_reducible rfl) | (go_simp;try with_reducible rfl)
   try simp only [sA1,sA2,sA3,Act.put,sA4,sA5,sA6]
   refine wpAnyN_take (i:=3) (v:=?_) hA rfl (by decide) (by kernel_rfl) (by kernel_rfl) (fun _ _ _ h=>h) (Or.inl ⟨by rfl,?_⟩) hF (fun hA=>?_)
   rotate_left
   ·intro wS hSw;(try dsimp only at hSw);obtain ⟨s1,s2,s3⟩:=hSw;first | (apply Eq.trans;apply ex_ld_id;exact rfl;exact rfl;assumption;with_reducible rfl) | (apply Eq.trans;apply ex_ld_arr;exact rfl;exact rfl;assumption;with_reducible rfl) | (apply Eq.trans;apply ex_bld0_at;exact rfl;with_reducible rfl) | (go_simp;try with_reducible rfl)
   try simp only [sA1,sA2,sA3,Act.put,sA4,sA5,sA6]
   refine wpAnyN_take (i:=4) (v:=?_) hA rfl (by decide) (by kernel_rfl) (by kernel_rfl) (fun _ _ _ h=>h) (Or.inl ⟨by rfl,?_⟩) hF (fun hA=>?_)
   rotate_left
   ·intro wS hSw;(try dsimp only at hSw);obtain ⟨s1,s2,s3⟩:=hSw;first | (apply Eq.trans;apply ex_ld_id;exact rfl;exact rfl;assumption;with_reducible rfl) | (apply Eq.trans;apply ex_ld_arr;exact rfl;exact rfl;assumption;with_reducible rfl) | (apply Eq.trans;apply ex_bld0_at;exact rfl;with_reducible rfl) | (go_simp;try with_reducible rfl)
   try simp only [sA1,sA2,sA3,Act.put,sA4,sA5,sA6]
   refine wpAnyN_take (i:=5) (v:=?_) hA rfl (by decide) (by kernel_rfl) (by kernel_rfl) (fun _ _ _ h=>h) (Or.inl ⟨by rfl,?_⟩) hF (fun hA=>?_)
   rotate_left
   ·intro wS hSw;(try dsimp only at hSw);obtain ⟨s1,s2,s3⟩:=hSw;first | (apply Eq.trans;apply ex_ld_id;exact rfl;exact rfl;assumption;with_reducible rfl) | (apply Eq.trans;apply ex_ld_arr;exact rfl;exact rfl;assumption;with_reducible rfl) | (apply Eq.trans;apply ex_bld0_at;exact rfl;with_reducible rfl) | (go_simp;try with_reducible rfl)
   try simp only [sA1,sA2,sA3,Act.put,sA4,sA5,sA6]
   refine wpAnyN_take (i:=6) (v:=?_) hA rfl (by decide) (by kernel_rfl) (by kernel_rfl) (fun _ _ _ h=>h) (Or.inl ⟨by rfl,?_⟩) hF (fun hA=>?_)
   rotate_left
   ·intro wS hSw;(try dsimp only at hSw);obtain ⟨s1,s2,s3⟩:=hSw;first | (apply Eq.trans;apply ex_ld_id;exact rfl;exact rfl;assumption;with_reducible rfl) | (apply Eq.trans;apply ex_ld_arr;exact rfl;exact rfl;assumption;with_reducible rfl) | (apply Eq.trans;apply ex_bld0_at;exact rfl;with_reducible rfl) | (go_simp;try with_reducible rfl)
   try simp only [sA1,sA2,sA3,Act.put,sA4,sA5,sA6]
   refine wpAnyN_take (i:=7) (v:=?_) hA rfl (by decide) (by kernel_rfl) (by kernel_rfl) (fun _ _ _ h=>h) (Or.inl ⟨by rfl,?_⟩) hF (fun hA=>?_)
   rotate_left
   ·intro wS hSw;(try dsimp only at hSw);obtain ⟨s1,s2,s3⟩:=hSw;first | (apply Eq.trans;apply ex_ld_id;exact rfl;exact rfl;assumption;with_reducible rfl) | (apply Eq.trans;apply ex_ld_arr;exact rfl;exact rfl;assumption;with_reducible rfl) | (apply Eq.trans;apply ex_bld0_at;exact rfl;with_reducible rfl) | (go_simp;try with_reducible rfl)
   try simp only [sA1,sA2,sA3,Act.put,sA4,sA5,sA6]
   refine wpAnyN_take (i:=8) (v:=?_) hA rfl (by decide) (by kernel_rfl) (by kernel_rfl) (fun _ _ _ h=>h) (Or.inl ⟨by rfl,?_⟩) hF (fun hA=>?_)
   rotate_left
   ·intro wS hSw;(try dsimp only at hSw);obtain ⟨s1,s2,s3⟩:=hSw;first | (apply Eq.trans;apply ex_ld_id;exact rfl;exact rfl;assumption;with_reducible rfl) | (apply Eq.trans;apply ex_ld_arr;exact rfl;exact rfl;assumption;with_reducible rfl) | (apply Eq.trans;apply ex_bld0_at;exact rfl;with_reducible rfl) | (go_simp;try with_reducible rfl)
   try simp only [sA1,sA2,sA3,Act.put,sA4,sA5,sA6]
   refine wpAnyN_take (i:=9) (v:=?_) hA rfl (by decide) (by kernel_rfl) (by kernel_rfl) (fun _ _ _ h=>h) (Or.inl ⟨by rfl,?_⟩) hF (fun hA=>?_)
   rotate_left
   ·intro wS hSw;(try dsimp only at hSw);obtain ⟨s1,s2,s3⟩:=hSw;first | (apply Eq.trans;apply ex_ld_id;exact rfl;exact rfl;assumption;with_reducible rfl) | (apply Eq.trans;apply ex_ld_arr;exact rfl;exact rfl;assumption;with_reducible rfl) | (apply Eq.trans;apply ex_bld0_at;exact rfl;with_reducible rfl) | (go_simp;try with_reducible rfl)
   try simp only [sA1,sA2,sA3,Act.put,sA4,sA5,sA6]
   refine wpAnyN_take (i:=10) (v:=?_) hA rfl (by decide) (by kernel_rfl) (by kernel_rfl) (fun _ _ _ h=>h) (Or.inl ⟨by rfl,?_⟩) hF (fun hA=>?_)
   rotate_left
   ·intro wS hSw;(try dsimp only at hSw);obtain ⟨s1,s2,s3⟩:=hSw;first | (apply Eq.trans;apply ex_ld_id;exact rfl;exact rfl;assumption;with_reducible rfl) | (apply Eq.trans;apply ex_ld_arr;exact rfl;exact rfl;assumption;with_reducible rfl) | (apply Eq.trans;apply ex_bld0_at;exact rfl;with_reducible rfl) | (go_simp;try with_reducible rfl)
   try simp only [sA1,sA2,sA3,Act.put,sA4,sA5,sA6]
   refine wpAnyN_take (i:=11) (v:=?_) hA rfl (by decide) (by kernel_rfl) (by kernel_rfl) (fun _ _ _ h=>h) (Or.inl ⟨by rfl,?_⟩) hF (fun hA=>?_)
   rotate_left
   ·intro wS hSw;(try dsimp only at hSw);obtain ⟨s1,s2,s3⟩:=hSw;first | (apply Eq.trans;apply ex_ld_id;exact rfl;exact rfl;assumption;with_reducible rfl) | (apply Eq.trans;apply ex_ld_arr;exact rfl;exact rfl;assumption;with_reducible rfl) | (apply Eq.trans;apply ex_bld0_at;exact rfl;with_reducible rfl) | (go_simp;try with_reducible rfl)
   try simp only [sA1,sA2,sA3,Act.put,sA4,sA5,sA6]
   refine wpAnyN_take (i:=12) (v:=?_) hA rfl (by decide) (by kernel_rfl) (by kernel_rfl) (fun _ _ _ h=>h) (Or.inl ⟨by rfl,?_⟩) hF (fun hA=>?_)
   rotate_left
   ·intro wS hSw;(try dsimp only at hSw);obtain ⟨s1,s2,s3⟩:=hSw;first | (apply Eq.trans;apply ex_ld_id;exact rfl;exact rfl;assumption;with_reducible rfl) | (apply Eq.trans;apply ex_ld_arr;exact rfl;exact rfl;assumption;with_reducible rfl) | (apply Eq.trans;apply ex_bld0_at;exact rfl;with_reducible rfl) | (go_simp;try with_reducible rfl)
   try simp only [sA1,sA2,sA3,Act.put,sA4,sA5,sA6]
   refine wpAnyN_take (i:=13) (v:=?_) hA rfl (by decide) (by kernel_rfl) (by kernel_rfl) (fun _ _ _ h=>h) (Or.inl ⟨by rfl,?_⟩) hF (fun hA=>?_)
   rotate_left
   ·intro wS hSw;(try dsimp only at hSw);obtain ⟨s1,s2,s3⟩:=hSw;first | (apply Eq.trans;apply ex_ld_id;exact rfl;exact rfl;assumption;with_reducible rfl) | (apply Eq.trans;apply ex_ld_arr;exact rfl;exact rfl;assumption;with_reducible rfl) | (apply Eq.trans;apply ex_bld0_at;exact rfl;with_reducible rfl) | (go_simp;try with_reducible rfl)
   try simp only [sA1,sA2,sA3,Act.put,sA4,sA5,sA6]
   refine wpAnyN_take (i:=14) (v:=?_) hA rfl (by decide) (by kernel_rfl) (by kernel_rfl) (fun _ _ _ h=>h) (Or.inl ⟨by rfl,?_⟩) hF (fun hA=>?_)
   rotate_left
   ·intro wS hSw;(try dsimp only at hSw);obtain ⟨s1,s2,s3⟩:=hSw;first | (apply Eq.trans;apply ex_ld_id;exact rfl;exact rfl;assumption;with_reducible rfl) | (apply Eq.trans;apply ex_ld_arr;exact rfl;exact rfl;assumption;with_reducible rfl) | (apply Eq.trans;apply ex_bld0_at;exact rfl;with_reducible rfl) | (go_simp;try with_reducible rfl)
   try simp only [sA1,sA2,sA3,Act.put,sA4,sA5,sA6]
   refine wpAnyN_take (i:=15) (v:=?_) hA rfl (by decide) (by kernel_rfl) (by kernel_rfl) (fun _ _ _ h=>h) (Or.inl ⟨by rfl,?_⟩) hF (fun hA=>?_)
   rotate_left
   ·intro wS hSw;(try dsimp only at hSw);obtain ⟨s1,s2,s3⟩:=hSw;first | (apply Eq.trans;apply ex_ld_id;exact rfl;exact rfl;assumption;with_reducible rfl) | (apply Eq.trans;apply ex_ld_arr;exact rfl;exact rfl;assumption;with_reducible rfl) | (apply Eq.trans;apply ex_bld0_at;exact rfl;with_reducible rfl) | (go_simp;try with_reducible rfl)
   try simp only [sA1,sA2,sA3,Act.put,sA4,sA5,sA6]
   refine wpAnyN_take (i:=16) (v:=?_) hA rfl (by decide) (by kernel_rfl) (by kernel_rfl) (fun _ _ _ h=>h) (Or.inl ⟨by rfl,?_⟩) hF (fun hA=>?_)
   rotate_left
   ·intro wS hSw;(try dsimp only at hSw);obtain ⟨s1,s2,s3⟩:=hSw;first | (apply Eq.trans;apply ex_ld_id;exact rfl;exact rfl;assumption;with_reducible rfl) | (apply Eq.trans;apply ex_ld_arr;exact rfl;exact rfl;assumption;with_reducible rfl) | (apply Eq.trans;apply ex_bld0_at;exact rfl;with_reducible rfl) | (go_simp;try with_reducible rfl)
   try simp only [sA1,sA2,sA3,Act.put,sA4,sA5,sA6]
   refine wpAnyN_take (i:=17) (v:=?_) hA rfl (by decide) (by kernel_rfl) (by kernel_rfl) (fun _ _ _ h=>h) (Or.inl ⟨by rfl,?_⟩) hF (fun hA=>?_)
   rotate_left
   ·intro wS hSw;(try dsimp only at hSw);obtain ⟨s1,s2,s3⟩:=hSw;first | (apply Eq.trans;apply ex_ld_id;exact rfl;exact rfl;assumption;with_reducible rfl) | (apply Eq.trans;apply ex_ld_arr;exact rfl;exact rfl;assumption;with_reducible rfl) | (apply Eq.trans;apply ex_bld0_at;exact rfl;with_reducible rfl) | (go_simp;try with_reducible rfl)
   try simp only [sA1,sA2,sA3,Act.put,sA4,sA5,sA6]
   refine wpAnyN_take (i:=18) (v:=?_) hA rfl (by decide) (by kernel_rfl) (by kernel_rfl) (fun _ _ _ h=>h) (Or.inl ⟨by rfl,?_⟩) hF (fun hA=>?_)
   rotate_left
   ·intro wS hSw;(try dsimp only at hSw);obtain ⟨s1,s2,s3⟩:=hSw;first | (apply Eq.trans;apply ex_ld_id;exact rfl;exact rfl;assumption;with_reducible rfl) | (apply Eq.trans;apply ex_ld_arr;exact rfl;exact rfl;assumption;with_reducible rfl) | (apply Eq.trans;apply ex_bld0_at;exact rfl;with_reducible rfl) | (go_simp;try with_reducible rfl)
   try simp only [sA1,sA2,sA3,Act.put,sA4,sA5,sA6]
   refine wpAnyN_take (i:=19) (v:=?_) hA rfl (by decide) (by kernel_rfl) (by kernel_rfl) (fun _ _ _ h=>h) (Or.inl ⟨by rfl,?_⟩) hF (fun hA=>?_)
   rotate_left
   ·intro wS hSw;(try dsimp only at hSw);obtain ⟨s1,s2,s3⟩:=hSw;first | (apply Eq.trans;apply ex_ld_id;exact rfl;exact rfl;assumption;with_reducible rfl) | (apply Eq.trans;apply ex_ld_arr;exact rfl;exact rfl;assumption;with_reducible rfl) | (apply Eq.trans;apply ex_bld0_at;exact rfl;with_reducible rfl) | (go_simp;try with_reducible rfl)
   try simp only [sA1,sA2,sA3,Act.put,sA4,sA5,sA6]
   refine wpAnyN_take (i:=20) (v:=?_) hA rfl (by decide) (by kernel_rfl) (by kernel_rfl) (fun _ _ _ h=>h) (Or.inl ⟨by rfl,?_⟩) hF (fun hA=>?_)
   rotate_left
   ·intro wS hSw;(try dsimp only at hSw);obtain ⟨s1,s2,s3⟩:=hSw;first | (apply Eq.trans;apply ex_ld_id;exact rfl;exact rfl;assumption;with_reducible rfl) | (apply Eq.trans;apply ex_ld_arr;exact rfl;exact rfl;assumption;with_reducible rfl) | (apply Eq.trans;apply ex_bld0_at;exact rfl;with_reducible rfl) | (go_simp;try with_reducible rfl)
   try simp only [sA1,sA2,sA3,Act.put,sA4,sA5,sA6]
   refine wpAnyN_take (i:=21) (v:=?_) hA rfl (by decide) (by kernel_rfl) (by kernel_rfl) (fun _ _ _ h=>h) (Or.inl ⟨by rfl,?_⟩) hF (fun hA=>?_)
   rotate_left
   ·intro wS hSw;(try dsimp only at hSw);obtain ⟨s1,s2,s3⟩:=hSw;first | (apply Eq.trans;apply ex_ld_id;exact rfl;exact rfl;assumption;with_reducible rfl) | (apply Eq.trans;apply ex_ld_arr;exact rfl;exact rfl;assumption;with_reducible rfl) | (apply Eq.trans;apply ex_bld0_at;exact rfl;with_reducible rfl) | (go_simp;try with_reducible rfl)
   try simp only [sA1,sA2,sA3,Act.put,sA4,sA5,sA6]
   refine wpAnyN_take (i:=22) (v:=?_) hA rfl (by decide) (by kernel_rfl) (by kernel_rfl) (fun _ _ _ h=>h) (Or.inl ⟨by rfl,?_⟩) hF (fun hA=>?_)
   rotate_left
   ·intro wS hSw;(try dsimp only at hSw);obtain ⟨s1,s2,s3⟩:=hSw;first | (apply Eq.trans;apply ex_ld_id;exact rfl;exact rfl;assumption;with_reducible rfl) | (apply Eq.trans;apply ex_ld_arr;exact rfl;exact rfl;assumption;with_reducible rfl) | (apply Eq.trans;apply ex_bld0_at;exact rfl;with_reducible rfl) | (go_simp;try with_reducible rfl)
   try simp only [sA1,sA2,sA3,Act.put,sA4,sA5,sA6]
   refine wpAnyN_take (i:=23) (v:=?_) hA rfl (by decide) (by kernel_rfl) (by kernel_rfl) (fun _ _ _ h=>h) (Or.inl ⟨by rfl,?_⟩) hF (fun hA=>?_)
   rotate_left
   ·intro wS hSw;(try dsimp only at hSw);obtain ⟨s1,s2,s3⟩:=hSw;first | (apply Eq.trans;apply ex_ld_id;exact rfl;exact rfl;assumption;with_reducible rfl) | (apply Eq.trans;apply ex_ld_arr;exact rfl;exact rfl;assumption;with_reducible rfl) | (apply Eq.trans;apply ex_bld0_at;exact rfl;with_reducible rfl) | (go_simp;try with_reducible rfl)
   try simp only [sA1,sA2,sA3,Act.put,sA4,sA5,sA6]
   have fV:Fr noB w2 w2.drew:=(Fr.refl noB w2).drew
   generalize w2.drew = V at hF fV ⊢
   clear gi gj gl ht1 ht2 ht3 x1 x2 y1 y2 z1 z2 hm0
   have fa:Fr noB V (V.alloc (ido zID)):=(Fr.refl noB V).alloc _
   have fb:Fr noB V ((V.alloc (ido zID)).alloc (ido zID)):=fa.alloc _
   have fc:Fr noB V (((V.alloc (ido zID)).alloc (ido zID)).alloc (ido zID)):=fb.alloc _
   have keep:∀ w',Fr noB V w' → rdI w' g (off + i * 32) = some (idG i) ∧ rdI w' g (off + j * 32) = some (idG j) ∧ rdI w' g (off + l * 32) = some (idG l):=fun w' f=>⟨rdI_fr hF.1 (rdI_lt hF.1) f (by simp [noB]),rdI_fr hF.2.1 (rdI_lt hF.2.1) f (by simp [noB]),rdI_fr hF.2.2 (rdI_lt hF.2.2) f (by simp [noB])⟩
   have k1:bxI (((V.alloc (ido zID)).alloc (ido zID)).alloc (ido zID)) V.heap.size = some zID:=by rw [bxI_old _ _ _ (by simp;omega),bxI_old _ _ _ (by simp),bxI_new]
   have k2:bxI (((V.alloc (ido zID)).alloc (ido zID)).alloc (ido zID)) (V.heap.size + 1) = some zID:=by rw [bxI_old _ _ _ (by simp),bxI_new' _ _ _ (by simp)]
   have k3:bxI (((V.alloc (ido zID)).alloc (ido zID)).alloc (ido zID)) (V.heap.size + 1 + 1) = some zID:=by rw [bxI_new' _ _ _ (by simp)]
   refine wpAnyN_three (i:=24) (j:=25) (k:=26) hA (by kernel_rfl) (by decide) (by decide) (by decide) rfl rfl rfl (fun K' hK=>?_) (fun K' hK=>?_) (fun K' hK=>?_)
   ·skip
    rw [if_pos (by rfl)]
    refine step_runP _ _ (ex_alM_at rfl V) ?_
    refine hK.out _ _ (keep _ fa) (fun hA=>?_)
    clear hK K'
    try simp only [sA1,sA2,sA3,Act.put,sA4,sA5,sA6,World.size_alloc]
    refine wpAnyN_two (i:=25) (j:=26) hA (by kernel_rfl) (by decide) (by decide) rfl rfl (fun K' hK=>?_) (fun K' hK=>?_)
    ·skip
     rw [if_pos (by rfl)]
     refine step_runP _ _ (ex_alM_at rfl _) ?_
     refine hK.out _ _ (keep _ fb) (fun hA=>?_)
     clear hK K'
     try simp only [sA1,sA2,sA3,Act.put,sA4,sA5,sA6,World.size_alloc]
     refine wpAnyN_one (i:=26) hA (by kernel_rfl) (by decide) rfl (fun K' hK=>?_)
     rw [if_pos (by rfl)]
     refine step_runP _ _ (ex_alM_at rfl _) ?_
     refine hK.out _ _ (keep _ fc) (fun hA=>?_)
     clear hK K'
     try simp only [sA1,sA2,sA3,Act.put,sA4,sA5,sA6,World.size_alloc]
     obtain ⟨e1,e2,e3⟩:=putB_fr k1 (idG i)
     have e4:=bxI_fr k2 e1 (fun e=>by simp only [oneB] at e;omega)
     have e5:=bxI_fr k3 e1 (fun e=>by simp only [oneB] at e;omega)
     refine wpAnyN_one (i:=27) hA (by kernel_rfl) (by decide) rfl (fun K' hK=>?_)
     rw [if_pos (by rfl)]
     refine step_skipM _ (ex_stM_at rfl rfl rfl k1) ?_
     refine hK.out _ _ (keep _ (fc.step1 e1 (by omega))) (fun hA=>?_)
     clear hK K'
     try simp only [sA1,sA2,sA3,Act.put,sA4,sA5,sA6,World.size_alloc]
     obtain ⟨g1,g2,g3⟩:=putB_fr e4 (idG j)
     have g5:=bxI_fr e5 g1 (fun e=>by simp only [oneB] at e;omega)
     refine wpAnyN_one (i:=28) hA (by kernel_rfl) (by decide) rfl (fun K' hK=>?_)
     rw [if_pos (by rfl)]
     refine step_skipM _ (ex_stM_at rfl rfl rfl e4) ?_
     refine hK.out _ _ (keep _ ((fc.step1 e1 (by omega)).step1 g1 (by omega))) (fun hA=>?_)
     clear hK K'
     try simp only [sA1,sA2,sA3,Act.put,sA4,sA5,sA6,World.size_alloc]
     refine wpAnyN_end rfl (by kernel_rfl) ?_
     simp only [List.drop_succ_cons,List.drop_zero]
     go_wp2_with fail
     go_meet
     case rel =>
      obtain ⟨q1,q2,q3⟩:=putB_fr g5 (idG l)
      have qa:=bxI_fr (bxI_fr e3 g1 (fun e=>by simp only [oneB] at e;omega)) q1 (fun e=>by simp only [oneB] at e;omega)
      have qb:=bxI_fr g3 q1 (fun e=>by simp only [oneB] at e;omega)
      exact ⟨_,_,_,rfl,rfl,rfl,qa,qb,q3,fV.step0 (((fc.step1 e1 (by omega)).step1 g1 (by omega)).step1 q1 (by omega))⟩
    ·skip
     rw [if_pos (by rfl)]
     refine step_runP _ _ (ex_alM_at rfl _) ?_
     refine hK.out _ _ (keep _ fb) (fun hA=>?_)
     clear hK K'
     try simp only [sA1,sA2,sA3,Act.put,sA4,sA5,sA6,World.size_alloc]
     refine wpAnyN_one (i:=25) hA (by kernel_rfl) (by decide) rfl (fun K' hK=>?_)
     rw [if_pos (by rfl)]
     refine step_runP _ _ (ex_alM_at rfl _) ?_
     refine hK.out _ _ (keep _ fc) (fun hA=>?_)
     clear hK K'
     try simp only [sA1,sA2,sA3,Act.put,sA4,sA5,sA6,World.size_alloc]
     obtain ⟨e1,e2,e3⟩:=putB_fr k1 (idG i)
     have e4:=bxI_fr k3 e1 (fun e=>by simp only [oneB] at e;omega)
     have e5:=bxI_fr k2 e1 (fun e=>by simp only [oneB] at e;omega)
     refine wpAnyN_one (i:=27) hA (by kernel_rfl) (by decide) rfl (fun K' hK=>?_)
     rw [if_pos (by rfl)]
     refine step_skipM _ (ex_stM_at rfl rfl rfl k1) ?_
     refine hK.out _ _ (keep _ (fc.step1 e1 (by omega))) (fun hA=>?_)
     clear hK K'
     try simp only [sA1,sA2,sA3,Act.put,sA4,sA5,sA6,World.size_alloc]
     obtain ⟨g1,g2,g3⟩:=putB_fr e4 (idG j)
     have g5:=bxI_fr e5 g1 (fun e=>by simp only [oneB] at e;omega)
     refine wpAnyN_one (i:=28) hA (by kernel_rfl) (by decide) rfl (fun K' hK=>?_)
     rw [if_pos (by rfl)]
     refine step_skipM _ (ex_stM_at rfl rfl rfl e4) ?_
     refine hK.out _ _ (keep _ ((fc.step1 e1 (by omega)).step1 g1 (by omega))) (fun hA=>?_)
     clear hK K'
     try simp only [sA1,sA2,sA3,Act.put,sA4,sA5,sA6,World.size_alloc]
     refine wpAnyN_end rfl (by kernel_rfl) ?_
     simp only [List.drop_succ_cons,List.drop_zero]
     go_wp2_with fail
     go_meet
     case rel =>
      obtain ⟨q1,q2,q3⟩:=putB_fr g5 (idG l)
      have qa:=bxI_fr (bxI_fr e3 g1 (fun e=>by simp only [oneB] at e;omega)) q1 (fun e=>by simp only [oneB] at e;omega)
      have qb:=bxI_fr g3 q1 (fun e=>by simp only [oneB] at e;omega)
      exact ⟨_,_,_,rfl,rfl,rfl,qa,qb,q3,fV.step0 (((fc.step1 e1 (by omega)).step1 g1 (by omega)).step1 q1 (by omega))⟩
   ·skip
    rw [if_pos (by rfl)]
    refine step_runP _ _ (ex_alM_at rfl V) ?_
    refine hK.out _ _ (keep _ fa) (fun hA=>?_)
    clear hK K'
    try simp only [sA1,sA2,sA3,Act.put,sA4,sA5,sA6,World.size_alloc]
    refine wpAnyN_two (i:=24) (j:=26) hA (by kernel_rfl) (by decide) (by decide) rfl rfl (fun K' hK=>?_) (fun K' hK=>?_)
    ·skip
     rw [if_pos (by rfl)]
     refine step_runP _ _ (ex_alM_at rfl _) ?_
     refine hK.out _ _ (keep _ fb) (fun hA=>?_)
     clear hK K'
     try simp only [sA1,sA2,sA3,Act.put,sA4,sA5,sA6,World.size_alloc]
     refine wpAnyN_one (i:=26) hA (by kernel_rfl) (by decide) rfl (fun K' hK=>?_)
     rw [if_pos (by rfl)]
     refine step_runP _ _ (ex_alM_at rfl _) ?_
     refine hK.out _ _ (keep _ fc) (fun hA=>?_)
     clear hK K'
     try simp only [sA1,sA2,sA3,Act.put,sA4,sA5,sA6,World.size_alloc]
     obtain ⟨e1,e2,e3⟩:=putB_fr k2 (idG i)
     have e4:=bxI_fr k1 e1 (fun e=>by simp only [oneB] at e;omega)
     have e5:=bxI_fr k3 e1 (fun e=>by simp only [oneB] at e;omega)
     refine wpAnyN_one (i:=27) hA (by kernel_rfl) (by decide) rfl (fun K' hK=>?_)
     rw [if_pos (by rfl)]
     refine step_skipM _ (ex_stM_at rfl rfl rfl k2) ?_
     refine hK.out _ _ (keep _ (fc.step1 e1 (by omega))) (fun hA=>?_)
     clear hK K'
     try simp only [sA1,sA2,sA3,Act.put,sA4,sA5,sA6,World.size_alloc]
     obtain ⟨g1,g2,g3⟩:=putB_fr e4 (idG j)
     have g5:=bxI_fr e5 g1 (fun e=>by simp only [oneB] at e;omega)
     refine wpAnyN_one (i:=28) hA (by kernel_rfl) (by decide) rfl (fun K' hK=>?_)
     rw [if_pos (by rfl)]
     refine step_skipM _ (ex_stM_at rfl rfl rfl e4) ?_
     refine hK.out _ _ (keep _ ((fc.step1 e1 (by omega)).step1 g1 (by omega))) (fun hA=>?_)
     clear hK K'
     try simp only [sA1,sA2,sA3,Act.put,sA4,sA5,sA6,World.size_alloc]
     refine wpAnyN_end rfl (by kernel_rfl) ?_
     simp only [List.drop_succ_cons,List.drop_zero]
     go_wp2_with fail
     go_meet
     case rel =>
      obtain ⟨q1,q2,q3⟩:=putB_fr g5 (idG l)
      have qa:=bxI_fr (bxI_fr e3 g1 (fun e=>by simp only [oneB] at e;omega)) q1 (fun e=>by simp only [oneB] at e;omega)
      have qb:=bxI_fr g3 q1 (fun e=>by simp only [oneB] at e;omega)
      exact ⟨_,_,_,rfl,rfl,rfl,qa,qb,q3,fV.step0 (((fc.step1 e1 (by omega)).step1 g1 (by omega)).step1 q1 (by omega))⟩
    ·skip
     rw [if_pos (by rfl)]
     refine step_runP _ _ (ex_alM_at rfl _) ?_
     refine hK.out _ _ (keep _ fb) (fun hA=>?_)
     clear hK K'
     try simp only [sA1,sA2,sA3,Act.put,sA4,sA5,sA6,World.size_alloc]
     refine wpAnyN_one (i:=24) hA (by kernel_rfl) (by decide) rfl (fun K' hK=>?_)
     rw [if_pos (by rfl)]
     refine step_runP _ _ (ex_alM_at rfl _) ?_
     refine hK.out _ _ (keep _ fc) (fun hA=>?_)
     clear hK K'
     try simp only [sA1,sA2,sA3,Act.put,sA4,sA5,sA6,World.size_alloc]
     obtain ⟨e1,e2,e3⟩:=putB_fr k3 (idG i)
     have e4:=bxI_fr k1 e1 (fun e=>by simp only [oneB] at e;omega)
     have e5:=bxI_fr k2 e1 (fun e=>by simp only [oneB] at e;omega)
     refine wpAnyN_one (i:=27) hA (by kernel_rfl) (by decide) rfl (fun K' hK=>?_)
     rw [if_pos (by rfl)]
     refine step_skipM _ (ex_stM_at rfl rfl rfl k3) ?_
     refine hK.out _ _ (keep _ (fc.step1 e1 (by omega))) (fun hA=>?_)
     clear hK K'
     try simp only [sA1,sA2,sA3,Act.put,sA4,sA5,sA6,World.size_alloc]
     obtain ⟨g1,g2,g3⟩:=putB_fr e4 (idG j)
     have g5:=bxI_fr e5 g1 (fun e=>by simp only [oneB] at e;omega)
     refine wpAnyN_one (i:=28) hA (by kernel_rfl) (by decide) rfl (fun K' hK=>?_)
     rw [if_pos (by rfl)]
     refine step_skipM _ (ex_stM_at rfl rfl rfl e4) ?_
     refine hK.out _ _ (keep _ ((fc.step1 e1 (by omega)).step1 g1 (by omega))) (fun hA=>?_)
     clear hK K'
     try simp only [sA1,sA2,sA3,Act.put,sA4,sA5,sA6,World.size_alloc]
     refine wpAnyN_end rfl (by kernel_rfl) ?_
     simp only [List.drop_succ_cons,List.drop_zero]
     go_wp2_with fail
     go_meet
     case rel =>
      obtain ⟨q1,q2,q3⟩:=putB_fr g5 (idG l)
      have qa:=bxI_fr (bxI_fr e3 g1 (fun e=>by simp only [oneB] at e;omega)) q1 (fun e=>by simp only [oneB] at e;omega)
      have qb:=bxI_fr g3 q1 (fun e=>by simp only [oneB] at e;omega)
      exact ⟨_,_,_,rfl,rfl,rfl,qa,qb,q3,fV.step0 (((fc.step1 e1 (by omega)).step1 g1 (by omega)).step1 q1 (by omega))⟩
   ·skip
    rw [if_pos (by rfl)]
    refine step_runP _ _ (ex_alM_at rfl V) ?_
    refine hK.out _ _ (keep _ fa) (fun hA=>?_)
    clear hK K'
    try simp only [sA1,sA2,sA3,Act.put,sA4,sA5,sA6,World.size_alloc]
    refine wpAnyN_two (i:=24) (j:=25) hA (by kernel_rfl) (by decide) (by decide) rfl rfl (fun K' hK=>?_) (fun K' hK=>?_)
    ·skip
     rw [if_pos (by rfl)]
     refine step_runP _ _ (ex_alM_at rfl _) ?_
     refine hK.out _ _ (keep _ fb) (fun hA=>?_)
     clear hK K'
     try simp only [sA1,sA2,sA3,Act.put,sA4,sA5,sA6,World.size_alloc]
     refine wpAnyN_one (i:=25) hA (by kernel_rfl) (by decide) rfl (fun K' hK=>?_)
     rw [if_pos (by rfl)]
     refine step_runP _ _ (ex_alM_at rfl _) ?_
     refine hK.out _ _ (keep _ fc) (fun hA=>?_)
     clear hK K'
     try simp only [sA1,sA2,sA3,Act.put,sA4,sA5,sA6,World.size_alloc]
     obtain ⟨e1,e2,e3⟩:=putB_fr k2 (idG i)
     have e4:=bxI_fr k3 e1 (fun e=>by simp only [oneB] at e;omega)
     have e5:=bxI_fr k1 e1 (fun e=>by simp only [oneB] at e;omega)
     refine wpAnyN_one (i:=27) hA (by kernel_rfl) (by decide) rfl (fun K' hK=>?_)
     rw [if_pos (by rfl)]
     refine step_skipM _ (ex_stM_at rfl rfl rfl k2) ?_
     refine hK.out _ _ (keep _ (fc.step1 e1 (by omega))) (fun hA=>?_)
     clear hK K'
     try simp only [sA1,sA2,sA3,Act.put,sA4,sA5,sA6,World.size_alloc]
     obtain ⟨g1,g2,g3⟩:=putB_fr e4 (idG j)
     have g5:=bxI_fr e5 g1 (fun e=>by simp only [oneB] at e;omega)
     refine wpAnyN_one (i:=28) hA (by kernel_rfl) (by decide) rfl (fun K' hK=>?_)
     rw [if_pos (by rfl)]
     refine step_skipM _ (ex_stM_at rfl rfl rfl e4) ?_
     refine hK.out _ _ (keep _ ((fc.step1 e1 (by omega)).step1 g1 (by omega))) (fun hA=>?_)
     clear hK K'
     try simp only [sA1,sA2,sA3,Act.put,sA4,sA5,sA6,World.size_alloc]
     refine wpAnyN_end rfl (by kernel_rfl) ?_
     simp only [List.drop_succ_cons,List.drop_zero]
     go_wp2_with fail
     go_meet
     case rel =>
      obtain ⟨q1,q2,q3⟩:=putB_fr g5 (idG l)
      have qa:=bxI_fr (bxI_fr e3 g1 (fun e=>by simp only [oneB] at e;omega)) q1 (fun e=>by simp only [oneB] at e;omega)
      have qb:=bxI_fr g3 q1 (fun e=>by simp only [oneB] at e;omega)
      exact ⟨_,_,_,rfl,rfl,rfl,qa,qb,q3,fV.step0 (((fc.step1 e1 (by omega)).step1 g1 (by omega)).step1 q1 (by omega))⟩
    ·skip
     rw [if_pos (by rfl)]
     refine step_runP _ _ (ex_alM_at rfl _) ?_
     refine hK.out _ _ (keep _ fb) (fun hA=>?_)
     clear hK K'
     try simp only [sA1,sA2,sA3,Act.put,sA4,sA5,sA6,World.size_alloc]
     refine wpAnyN_one (i:=24) hA (by kernel_rfl) (by decide) rfl (fun K' hK=>?_)
     rw [if_pos (by rfl)]
     refine step_runP _ _ (ex_alM_at rfl _) ?_
     refine hK.out _ _ (keep _ fc) (fun hA=>?_)
     clear hK K'
     try simp only [sA1,sA2,sA3,Act.put,sA4,sA5,sA6,World.size_alloc]
     obtain ⟨e1,e2,e3⟩:=putB_fr k3 (idG i)
     have e4:=bxI_fr k2 e1 (fun e=>by simp only [oneB] at e;omega)
     have e5:=bxI_fr k1 e1 (fun e=>by simp only [oneB] at e;omega)
     refine wpAnyN_one (i:=27) hA (by kernel_rfl) (by decide) rfl (fun K' hK=>?_)
     rw [if_pos (by rfl)]
     refine step_skipM _ (ex_stM_at rfl rfl rfl k3) ?_
     refine hK.out _ _ (keep _ (fc.step1 e1 (by omega))) (fun hA=>?_)
     clear hK K'
     try simp only [sA1,sA2,sA3,Act.put,sA4,sA5,sA6,World.size_alloc]
     obtain ⟨g1,g2,g3⟩:=putB_fr e4 (idG j)
     have g5:=bxI_fr e5 g1 (fun e=>by simp only [oneB] at e;omega)
     refine wpAnyN_one (i:=28) hA (by kernel_rfl) (by decide) rfl (fun K' hK=>?_)
     rw [if_pos (by rfl)]
     refine step_skipM _ (ex_stM_at rfl rfl rfl e4) ?_
     refine hK.out _ _ (keep _ ((fc.step1 e1 (by omega)).step1 g1 (by omega))) (fun hA=>?_)
     clear hK K'
     try simp only [sA1,sA2,sA3,Act.put,sA4,sA5,sA6,World.size_alloc]
     refine wpAnyN_end rfl (by kernel_rfl) ?_
     simp only [List.drop_succ_cons,List.drop_zero]
     go_wp2_with fail
     go_meet
     case rel =>
      obtain ⟨q1,q2,q3⟩:=putB_fr g5 (idG l)
      have qa:=bxI_fr (bxI_fr e3 g1 (fun e=>by simp only [oneB] at e;omega)) q1 (fun e=>by simp only [oneB] at e;omega)
      have qb:=bxI_fr g3 q1 (fun e=>by simp only [oneB] at e;omega)
      exact ⟨_,_,_,rfl,rfl,rfl,qa,qb,q3,fV.step0 (((fc.step1 e1 (by omega)).step1 g1 (by omega)).step1 q1 (by omega))⟩
  case rest =>
   obtain ⟨pa,pb,pc,rfl,rfl,rfl,qa,qb,qc,fw⟩:=hcut
   clear gi gj gl ht1 ht2 ht3 x1 x2 y1 y2 z1 z2 hm0
   have hLl:L.length ≤ 1000:=by rw [HG.out.len,← HM.out];omega
   have im:i < ts.length:=by rw [← HM.out];exact i2
   have jm:j < ts.length:=by rw [← HM.out];exact j2
   have lm:l < ts.length:=by rw [← HM.out];exact l2
   have KN:=Lib.hid (show ∀ v ∈ [idG i,idG j,idG l],∃ c,findC L v = some c from fun v hv=>by
    simp only [List.mem_cons,List.not_mem_nil,or_false] at hv
    rcases hv with rfl | rfl | rfl
    ·exact ⟨_,(HG.out.has i im).choose_spec.1⟩
    ·exact ⟨_,(HG.out.has j jm).choose_spec.1⟩
    ·exact ⟨_,(HG.out.has l lm).choose_spec.1⟩)
   have M0:=Lib.hid (M3.start HG.out)
   have ra:=bxI_rd qa
   have rb:=bxI_rd qb
   have rc:=bxI_rd qc
   have fn:Fr noB wc (wc.alloc (rowo [idG i,idG j,idG l])):=(Fr.refl noB wc).alloc _
   have sn:=sl_new wc [idG i,idG j,idG l]
   have hH1:=HH.out.fr0 (fw.step0 fn)
   have MR:=Lib.hid (mgRows_any hH1 HG.out.nd hLl _ 3 3 [idG i,idG j,idG l] rfl sn (by simp))
   have HS1:=Lib.hid (show ∀ b,S b → b < (wc.alloc (rowo [idG i,idG j,idG l])).heap.size from fun b hb=>hH1.lt hb)
   have FW:=Lib.hid (fw.step0 fn)
   have HFN:=Lib.hid fn
   clear qa qb qc fw im jm lm hLl sn hH1 fn
   generalize idG i = x at ra KN MR HS1 FW HFN ⊢
   generalize idG j = y at rb KN MR HS1 FW HFN ⊢
   generalize idG l = z at rc KN MR HS1 FW HFN ⊢
   go_upto_region 10 with (go_at_call 20;refine MR.out.mono ?_;rintro e u3 hr;obtain ⟨Aw,nw,cw,lw,rfl,pw,bw,rf,_,f3⟩:=hr.f HS1.out;clear hr)
   have RF0:=Lib.hid rf
   have PW:=Lib.hid (And.intro pw bw)
   have HU3:=Lib.hid (FW.out.step0 f3)
   have fq:=HFN.out.step0 f3
   replace ra:=rdI_fr ra (rdI_lt ra) fq (by simp [noB])
   replace rb:=rdI_fr rb (rdI_lt rb) fq (by simp [noB])
   replace rc:=rdI_fr rc (rdI_lt rc) fq (by simp [noB])
   clear fq f3 pw bw rf
   have fo:Fr noB u3 (u3.alloc (codT3.ro [⟨x,y,z⟩,⟨y,z,x⟩,⟨z,x,y⟩,⟨z,y,x⟩])):=(Fr.refl noB u3).alloc _
   have so:=Cod.sl_new (C:=codT3) u3 [⟨x,y,z⟩,⟨y,z,x⟩,⟨z,x,y⟩,⟨z,y,x⟩]
   have RF:=Lib.hid (RF0.out.fr fo.any)
   have SO:=Lib.hid so
   have HF0:=Lib.hid (HU3.out.step0 fo)
   have HD:=Lib.hid (show ∀ b,S b → b < u3.heap.size from fun b hb=>(HH.out.fr0 HU3.out).lt hb)
   clear so fo RF0
   go_wp2_with fail
   generalize u3.alloc (codT3.ro [⟨x,y,z⟩,⟨y,z,x⟩,⟨z,x,y⟩,⟨z,y,x⟩]) = W0 at RF SO HF0 ⊢
   generalize u3.heap.size = D at SO HD ⊢
   clear ra rb rc
   go_loopg [84] 4 (fun gk kv wr=>ThR W0 H S L gk kv wr)
   case atStart=>exact ⟨0,S,L,rfl,rfl,by omega,HH.out.fr0 HF0.out,fun b h=>.inl h,M0.out,Fr.refl _ _⟩
   case round =>
    obtain ⟨n,S1,L1,rfl,rfl,hn4,hs1,hS1,hM1,hf1⟩:=hrel
    by_cases hlt:n < 4
    ·have n1:(n:Int) < 4:=by omega
     have n0:(0:Int) ≤ (n:Int):=by omega
     have rt:codT3.rd wr D (n * 96) = some (([⟨x,y,z⟩,⟨y,z,x⟩,⟨z,x,y⟩,⟨z,y,x⟩]:List T3)[n]):=by
      have h:=Cod.rd_fr (Sl.rd SO.out n (by simpa using hlt)) hf1 (fun h=>Nat.lt_irrefl _ (HD.out _ h))
      rw [Nat.zero_add] at h
      exact h
     have ht:∀ v,v ∈ [([⟨x,y,z⟩,⟨y,z,x⟩,⟨z,x,y⟩,⟨z,y,x⟩]:List T3)[n].x,([⟨x,y,z⟩,⟨y,z,x⟩,⟨z,x,y⟩,⟨z,y,x⟩]:List T3)[n].y,([⟨x,y,z⟩,⟨y,z,x⟩,⟨z,x,y⟩,⟨z,y,x⟩]:List T3)[n].z] ↔ v ∈ [x,y,z]:=fun v=>by
      simp only [List.mem_cons,List.not_mem_nil,or_false]
      rcases n with _ | _ | _ | _ | n
      ·exact Iff.rfl
      ·simp only [List.getElem_cons_succ,List.getElem_cons_zero]
       constructor <;> rintro (h | h | h) <;> simp [h]
      ·simp only [List.getElem_cons_succ,List.getElem_cons_zero]
       constructor <;> rintro (h | h | h) <;> simp [h]
      ·simp only [List.getElem_cons_succ,List.getElem_cons_zero]
       constructor <;> rintro (h | h | h) <;> simp [h]
      ·omega
     generalize ([⟨x,y,z⟩,⟨y,z,x⟩,⟨z,x,y⟩,⟨z,y,x⟩]:List T3)[n] = t at rt ht
     have HT:=Lib.hid ht
     have HM1:=Lib.hid hM1
     have HN:=Lib.hid hlt
     have HR1:=Lib.hid (And.intro hs1 (And.intro hS1 hf1))
     clear ht hM1 hlt hn4 hs1 hS1 hf1
     obtain ⟨wo,ewo⟩:∃ wo,wo = wr:=⟨_,rfl⟩
     subst ewo
     go_upto_region 13 with fail
     have f16:Fr noB wo (wo.alloc (codT3.o t)):=(Fr.refl noB wo).alloc _
     obtain ⟨r0,s0⟩:=t3At (Cod.bxd_new (C:=codT3) wo t)
     have lt16:wo.heap.size < (wo.alloc (codT3.o t)).heap.size:=by simp
     have F16:=Lib.hid f16
     clear rt f16
     generalize wo.alloc (codT3.o t) = W1 at r0 s0 lt16 F16 ⊢
     obtain ⟨P16,e16⟩:∃ P16,P16 = wo.heap.size:=⟨_,rfl⟩
     rw [← e16] at r0 s0 lt16 ⊢
     have E16:=Lib.hid e16
     clear e16
     go_upto_region 14 with fail
     obtain ⟨p1,p2,p3⟩:=putB_fr (bxI_new W1 zID) t.x
     have f17:Fr noB W1 (putB (W1.alloc (ido zID)) W1.heap.size t.x):=((Fr.refl noB W1).alloc _).step1 p1 (Nat.le_refl _)
     have hz17:W1.heap.size < (putB (W1.alloc (ido zID)) W1.heap.size t.x).heap.size:=by rw [p2];simp
     have S0:=Lib.hid (s0.fr0 f17)
     have F17:=Lib.hid (F16.out.step0 f17)
     clear p1 p2 r0 s0 f17
     generalize putB (W1.alloc (ido zID)) W1.heap.size t.x = W2 at p3 hz17 S0 F17 ⊢
     obtain ⟨P17,e17⟩:∃ P17,P17 = W1.heap.size:=⟨_,rfl⟩
     rw [← e17] at p3 hz17 ⊢
     have NP:=Lib.hid (show (¬ S1 P17) ∧ P17 < W2.heap.size ∧ (¬ (S1 P16 ∨ P16 = P17)) ∧ wo.heap.size ≤ P17 from ⟨fun h=>by have:=HR1.out.1.lt h;have:=E16.out;omega,hz17,fun h=>by
      rcases h with h | h
      ·have:=HR1.out.1.lt h;have:=E16.out;omega
      ·omega,by have:=E16.out;omega⟩)
     have B17:=Lib.hid p3
     clear p3 hz17 e17 lt16
     go_wp2_with fail
     go_loopg [93] 2 (fun gk kv wr=>ThI W2 H P17 S1 L t n gk kv wr)
     case atStart =>
      obtain ⟨c,hc⟩:=KN.out t.x ((HT.out t.x).1 (by simp))
      exact ⟨0,S1,L1,t.x,c,rfl,rfl,by omega,HR1.out.1.fr0 F17.out,fun b h=>.inl h,HM1.out,B17.out,HM1.out.keep _ _ hc,fun o=>by
       rw [HM1.out.ops _ _ hc]
       simp,Fr.refl _ _⟩
     case round =>
      obtain ⟨m',S',L',at_,c,rfl,rfl,hm2,hs2,hS2,hM2,hb2,hc2,hr2,hf2⟩:=hrel
      by_cases hlt2:m' < 2
      ·have m1:(m':Int) < 2:=by omega
       have m0':(0:Int) ≤ (m':Int):=by omega
       have rv0:=S0.out.id m' (by simpa using hlt2)
       have rv:=rdI_fr rv0 (rdI_lt rv0) hf2 NP.out.2.2.1
       have hv:[t.y,t.z][m'] ∈ [t.x,t.y,t.z]:=List.mem_cons_of_mem _ (List.getElem_mem _)
       have htk:[t.y,t.z].take (m' + 1) = [t.y,t.z].take m' ++ [[t.y,t.z][m']]:=List.take_succ_eq_append_getElem _
       generalize [t.y,t.z][m'] = v at rv hv htk
       obtain ⟨cv0,hcv0⟩:=KN.out v ((HT.out v).1 hv)
       have hcv:=hM2.keep _ _ hcv0
       have hov:=hM2.ops _ _ hcv0
       have HG2:=Lib.hid (show ∀ (Q:Opn → Prop),(∀ o,Q o ↔ ROps L' [at_] o ∨ ROps L' [v] o) → ∀ o,Q o ↔ ∃ i ∈ t.x :: [t.y,t.z].take (m' + 1),ROps L [i] o from fun Q hQ o=>by
        rw [hQ,hr2 o,hov o,htk]
        constructor
        ·rintro (⟨i,hi,h⟩ | h)
         ·refine ⟨i,?_,h⟩
          rcases List.mem_cons.1 hi with e | e
          ·exact List.mem_cons.2 (.inl e)
          ·exact List.mem_cons_of_mem _ (List.mem_append_left _ e)
         ·exact ⟨v,by simp,h⟩
        ·rintro ⟨i,hi,h⟩
         rcases List.mem_cons.1 hi with e | e
         ·exact .inl ⟨i,by rw [e];simp,h⟩
         ·rcases List.mem_append.1 e with e | e
          ·exact .inl ⟨i,List.mem_cons_of_mem _ e,h⟩
          ·rw [List.mem_singleton] at e
           rw [e] at h
           exact .inr h)
       have HC2:=Lib.hid hc2
       have HCV:=Lib.hid hcv
       have HM2:=Lib.hid hM2
       have HSS:=Lib.hid hS2
       have HF2:=Lib.hid hf2
       have HS2:=Lib.hid hs2
       have HL2:=Lib.hid hlt2
       have HNZ:=Lib.hid (And.intro (hM2.nz _ _ hc2) (hM2.nz _ _ hcv))
       have r17:=bxI_rd hb2
       have hM3:=hM2.len
       have hne17:P17 < wr.heap.size:=Nat.lt_of_lt_of_le NP.out.2.1 hf2.size
       have NL:=Lib.hid (And.intro hM3 hne17)
       have B2:=Lib.hid hb2
       clear rv0 hv htk hcv0 hcv hov hc2 hM2 hS2 hf2 hs2 hb2 hlt2 hr2 hm2 hM3 hne17
       obtain ⟨wl,ewl⟩:∃ wl,wl = wr:=⟨_,rfl⟩
       subst ewl
       go_upto_region 17 with fail
       obtain ⟨p1,p2,p3⟩:=putB_fr (bxI_new wl zID) v
       have f19:Fr noB wl (putB (wl.alloc (ido zID)) wl.heap.size v):=((Fr.refl noB wl).alloc _).step1 p1 (Nat.le_refl _)
       have r19:=bxI_rd p3
       have r17b:=rdI_fr r17 (rdI_lt r17) f19 (by simp [noB])
       have F19:=Lib.hid f19
       clear p1 p2 p3 f19 r17 rv
       generalize putB (wl.alloc (ido zID)) wl.heap.size v = u4 at r19 r17b F19 ⊢
       generalize wl.heap.size = P19 at r19 ⊢
       have MG:=Lib.hid (mgMerge_any (HS2.out.fr0 F19.out) HM2.out.nd (by have:=NL.out.1;have:=HN.out;have:=HL2.out;omega) at_ v)
       have E:=Lib.hid (HM2.out.mgE (by have:=HN.out;have:=HL2.out;omega) HC2.out HCV.out)
       go_upto_region 18 with (go_at_call 22;refine MG.out.mono ?_;rintro e u5 ⟨p,rfl,v5,_,hp⟩;have hp1:=Lib.hid (hp E.out);rw [E.out];clear hp)
       have fn:Fr noB u5 (u5.alloc (codPl.o p)):=(Fr.refl noB u5).alloc _
       have bN:=Cod.bxd_new (C:=codPl) u5 p
       have g5:=v5.step0 fn
       have r17c:=rdI_fr r17b (rdI_lt r17b) g5 (by simp [noB])
       have r19c:=rdI_fr r19 (rdI_lt r19) g5 (by simp [noB])
       have b17c:=bxI_fr B2.out (F19.out.step0 g5) (by simp [noB])
       have FU6:=Lib.hid (F19.out.step0 g5)
       obtain ⟨base1,ops1,pl1,_⟩:=hp1.out.plan
       have PL1:=Lib.hid pl1
       have d1:=plAt (Cod.bxd_rd bN)
       have c35:=d1.time
       have f1:=d1.fw
       clear bN fn g5 r17b r19 v5 hp1 pl1 d1
       generalize u5.alloc (codPl.o p) = u6 at r17c r19c b17c FU6 c35 f1 ⊢
       generalize u5.heap.size = N at c35 f1 ⊢
       by_cases hab:ancG (dgH L') at_ v = true
       ·obtain ⟨eF,_⟩:=PL1.out.fa hab
        rw [eF] at f1
        have HAB:=Lib.hid (And.intro hab eF)
        have hz:=HNZ.out.1
        have B17:=Lib.hid b17c
        clear hab eF
        go_wp2_with fail
        go_roundg (2 - (m' + 1))
        case measure=>have:=HL2.out;omega
        case rel =>
         refine ThI.fwd HS2.out HSS.out HM2.out HF2.out FU6.out B17.out NP.out.1 NP.out.2.1 HC2.out (HG2.out _ fun o=>?_) HL2.out ?_
         ·constructor
          ·exact .inl
          ·rintro (h | h)
           ·exact h
           ·exact h.up HS2.out.ok.ok HAB.out.1
         ·first | rfl | (simp;done) | exact congrArg (Value.int .i64) (IntWalk.wrap64_in _ (by have:=HL2.out;omega))
       ·replace hab:ancG (dgH L') at_ v = false:=by simpa using hab
        by_cases hba:ancG (dgH L') v at_ = true
        ·obtain ⟨eF,_⟩:=PL1.out.fb hab hba
         rw [eF] at f1
         have HAB:=Lib.hid (And.intro hba eF)
         have hz:=HNZ.out.2
         have B17:=Lib.hid b17c
         clear hab hba eF
         go_wp2_with fail
         go_roundg (2 - (m' + 1))
         case measure=>have:=HL2.out;omega
         case rel =>
          refine ThI.fwd HS2.out HSS.out HM2.out HF2.out FU6.out B17.out NP.out.1 NP.out.2.1 HCV.out (HG2.out _ fun o=>?_) HL2.out ?_
          ·constructor
           ·exact .inr
           ·rintro (h | h)
            ·exact h.up HS2.out.ok.ok HAB.out.1
            ·exact h
          ·first | rfl | (simp;done) | exact congrArg (Value.int .i64) (IntWalk.wrap64_in _ (by have:=HL2.out;omega))
        ·replace hba:ancG (dgH L') v at_ = false:=by simpa using hba
         obtain ⟨eF,_,_,_,_,htime⟩:=PL1.out.mg hab hba
         have HTM:=Lib.hid (htime _ _ HC2.out HCV.out)
         have hne:at_ ≠ v:=by
          intro e
          rw [e] at hab
          have:=anc_refl (g:=dgH L') (x:=v) (by rw [has_dg,HCV.out];rfl)
          rw [this] at hab
          cases hab
         obtain ⟨l0,l1,hl⟩:∃ l0 l1,par2 at_ v = [l0,l1]:=by unfold par2;split <;> exact ⟨_,_,rfl⟩
         have PV:=Lib.hid (show ptS4 [] at_ = [at_] ∧ ptS4 [at_] v = [l0,l1] by rw [← hl];exact putV_two HNZ.out.1 HNZ.out.2 hne)
         have AD:=Lib.hid (HM2.out.add HN.out HL2.out HC2.out HCV.out hne)
         rw [← HTM.out] at AD
         have HPL:=Lib.hid hl
         have HEF:=Lib.hid (And.intro eF HTM.out)
         rw [eF] at f1
         clear eF htime hab hba hne hl HTM PL1
         generalize p.Time = tm at c35 AD HEF
         have c35b:=cell_fr0 c35 ((Fr.refl noB u6).alloc (rowo [at_,v]))
         have zA:(u6.alloc (rowo [at_,v])).heap.size = u6.heap.size + 1:=by simp
         have hst:=st_newC (u6.alloc (rowo [at_,v])) ⟨some ⟨u6.heap.size,0,none⟩,2,2,tm,1,none,0,0,id2 1 0,[]⟩ zCgW
         rw [zA] at hst
         have ZA:=Lib.hid zA
         clear zA
         go_upto_region 23 with fail
         have zA:=ZA.out
         clear c35b hst ZA
         have fA:Fr noB u6 (u6.alloc (rowo [at_,v])):=(Fr.refl noB u6).alloc _
         have b22:=Cod.bxd_new (C:=codC) (u6.alloc (rowo [at_,v])) ⟨some ⟨u6.heap.size,0,none⟩,2,2,tm,1,none,0,0,id2 1 0,[]⟩
         rw [zA] at b22
         have fB:=fA.alloc (codC.o ⟨some ⟨u6.heap.size,0,none⟩,2,2,tm,1,none,0,0,id2 1 0,[]⟩)
         have r17d:=rdI_fr r17c (rdI_lt r17c) fB (by simp [noB])
         have r19d:=rdI_fr r19c (rdI_lt r19c) fB (by simp [noB])
         have B17:=Lib.hid (bxI_fr b17c fB (by simp [noB]))
         have FU7:=Lib.hid (FU6.out.step0 fB)
         have hP22:wl.heap.size ≤ u6.heap.size + 1:=by have:=FU6.out.size;omega
         generalize (u6.alloc (rowo [at_,v])).alloc (codC.o ⟨some ⟨u6.heap.size,0,none⟩,2,2,tm,1,none,0,0,id2 1 0,[]⟩) = u7 at b22 r17d r19d B17 FU7 ⊢
         clear r17c r19c b17c fA zA fB c35 f1
         generalize u6.heap.size + 1 = P22 at b22 hP22 ⊢
         generalize some (⟨u6.heap.size,0,none⟩:Addr) = A22 at b22 ⊢
         have B22:=Lib.hid b22
         have HP22:=Lib.hid hP22
         clear b22 hP22
         have fd:Fr noB u7 u7.drew:=(Fr.refl noB u7).drew
         have hF0:rdI u7.drew P17 0 = some at_ ∧ rdI u7.drew P19 0 = some v:=⟨rdI_fr r17d (rdI_lt r17d) fd (by simp [noB]),rdI_fr r19d (rdI_lt r19d) fd (by simp [noB])⟩
         have keep:∀ w' w'':World,Fr noB w' w'' → (rdI w' P17 0 = some at_ ∧ rdI w' P19 0 = some v) → (rdI w'' P17 0 = some at_ ∧ rdI w'' P19 0 = some v):=fun w' w'' f h=>⟨rdI_fr h.1 (rdI_lt h.1) f (by simp [noB]),rdI_fr h.2 (rdI_lt h.2) f (by simp [noB])⟩
         have FD:=Lib.hid fd
         clear r17d r19d fd
         refine wp_region_M 4 5 [⟨1329227995784915872903807060280344576,131072,0⟩,⟨2658455991569831745807614120560689152,1329227995784915872903807060280344576,1⟩,⟨5316911983139663491615228241121378304,524288,0⟩,⟨10633823966279326983230456482242756608,7975367974709495237422842361682067456,6⟩,⟨8388608,10633823966279326983230456482242756608,15⟩] [(true,0),(true,2),(false,1),(false,3)] (fun w'=>rdI w' P17 0 = some at_ ∧ rdI w' P19 0 = some v) (by kernel_rfl) rfl (by kernel_rfl) (by kernel_rfl) (by kernel_rfl) hF0 (fun hA hF=>?_)
         clear hF0
         generalize u7.drew = u7d at FD hF ⊢
         iterate 2
          refine wpAnyS_take (v:=?_) hA rfl (fun _ _ _ h=>h) (Or.inl ⟨by rfl,?_⟩) hF (fun hA=>?_)
          rotate_left
          ·intro wS hSw;(try dsimp only at hSw);obtain ⟨s1,s2⟩:=hSw;first | (apply Eq.trans;apply ex_ld_id;exact rfl;exact rfl;assumption;with_reducible rfl) | (apply Eq.trans;apply ex_ld_arr;exact rfl;exact rfl;assumption;with_reducible rfl) | (apply Eq.trans;apply ex_bld0_at;exact rfl;with_reducible rfl) | (go_simp;try with_reducible rfl)
          try simp only [sA1,sA2,sA3,Act.put,sA4,sA5,sA6]
         refine wpAnyS_one hA rfl (fun K' hK=>?_)
         go_simp
         go_at_call 28
         refine (r4putid_any _ _ 0 0 [] rfl (Sl.nil _ _) (by simp) at_ [at_] PV.out.1).mono ?_
         rintro e u8 ⟨A8,c8,rfl,s8,f8⟩
         replace hF:=keep _ _ f8 hF
         refine hK.out _ _ hF (fun hA=>?_)
         clear hK K'
         try simp only [sA1,sA2,sA3,Act.put,sA4,sA5,sA6]
         refine wpAnyS_one hA rfl (fun K' hK=>?_)
         go_simp
         go_at_call 28
         refine (r4putid_any _ _ c8 1 [at_] rfl s8 (by simp) v [l0,l1] PV.out.2).mono ?_
         rintro e u9 ⟨A9,c9,rfl,s9,f9⟩
         replace hF:=keep _ _ f9 hF
         refine hK.out _ _ hF (fun hA=>?_)
         clear hK K'
         try simp only [sA1,sA2,sA3,Act.put,sA4,sA5,sA6]
         refine wpAnyS_end hA rfl ?_
         simp only [List.drop_succ_cons,List.drop_zero]
         have F79:=Lib.hid (FD.out.step0 (f8.step0 f9))
         clear hF s8 f8 f9 keep
         obtain ⟨g9,o9,rfl⟩:=s9.adG (by simp)
         have d0:rdI u9 g9 o9 = some l0:=by simpa using s9.id 0 (by simp)
         have d1:rdI u9 g9 (o9 + 32) = some l1:=by simpa using s9.id 1 (by simp)
         clear s9
         go_upto_region 25 with fail
         have fd:Fr noB u9 u9.drew:=(Fr.refl noB u9).drew
         have hF0:rdI u9.drew g9 o9 = some l0 ∧ rdI u9.drew g9 (o9 + 32) = some l1:=⟨rdI_fr d0 (rdI_lt d0) fd (by simp [noB]),rdI_fr d1 (rdI_lt d1) fd (by simp [noB])⟩
         have keep:∀ w' w'':World,Fr noB w' w'' → (rdI w' g9 o9 = some l0 ∧ rdI w' g9 (o9 + 32) = some l1) → (rdI w'' g9 o9 = some l0 ∧ rdI w'' g9 (o9 + 32) = some l1):=fun w' w'' f h=>⟨rdI_fr h.1 (rdI_lt h.1) f (by simp [noB]),rdI_fr h.2 (rdI_lt h.2) f (by simp [noB])⟩
         have FD2:=Lib.hid (F79.out.step0 fd)
         clear d0 d1 fd
         refine wp_region_M 8 9 [⟨170141183460469231731687303715884105728,8388608,0⟩,⟨340282366920938463463374607431768211456,170141183460469231731687303715884105728,1⟩,⟨680564733841876926926749214863536422912,340282366920938463463374607431768211456,2⟩,⟨1361129467683753853853498429727072845824,8388608,0⟩,⟨2722258935367507707706996859454145691648,1361129467683753853853498429727072845824,8⟩,⟨5444517870735015415413993718908291383296,2722258935367507707706996859454145691648,16⟩,⟨10889035741470030830827987437816582766592,6125082604576892342340742933771827806208,36⟩,⟨21778071482940061661655974875633165533184,4194304,127⟩,⟨0,32667107224410092492483962313449748299776,255⟩] [(true,0),(true,1),(true,2),(true,3),(true,4),(true,5),(false,6),(true,7)] (fun w'=>rdI w' g9 o9 = some l0 ∧ rdI w' g9 (o9 + 32) = some l1) (by kernel_rfl) rfl (by kernel_rfl) (by kernel_rfl) (by kernel_rfl) hF0 (fun hA hF=>?_)
         clear hF0
         generalize u9.drew = u9d at FD2 hF ⊢
         iterate 6
          refine wpAnyS_take (v:=?_) hA rfl (fun _ _ _ h=>h) (Or.inl ⟨by rfl,?_⟩) hF (fun hA=>?_)
          rotate_left
          ·intro wS hSw;(try dsimp only at hSw);obtain ⟨s1,s2⟩:=hSw;first | (apply Eq.trans;apply ex_ld_id;exact rfl;exact rfl;assumption;with_reducible rfl) | (apply Eq.trans;apply ex_ld_arr;exact rfl;exact rfl;assumption;with_reducible rfl) | (apply Eq.trans;apply ex_bld0_at;exact rfl;with_reducible rfl) | (go_simp;try with_reducible rfl)
          try simp only [sA1,sA2,sA3,Act.put,sA4,sA5,sA6]
         refine wpAnyS_one hA rfl (fun K' hK=>?_)
         refine step_runI rfl _ _ (ex_bsM2_at (x:=l0) (y:=l1) rfl rfl rfl) ?_
         have fn:Fr noB u9d (u9d.alloc (rowo [l0,l1])):=(Fr.refl noB u9d).alloc _
         have sn:=sl_new u9d [l0,l1]
         replace hF:=keep _ _ fn hF
         refine hK.out _ _ hF (fun hA=>?_)
         clear hK K'
         try simp only [sA1,sA2,sA3,Act.put,sA4,sA5,sA6,World.size_alloc]
         refine wpAnyS_take (v:=?_) hA rfl (fun _ _ _ h=>h) (Or.inl ⟨by rfl,?_⟩) hF (fun hA=>?_)
         rotate_left
         ·intro wS hSw;(try dsimp only at hSw);obtain ⟨s1,s2⟩:=hSw;first | (apply Eq.trans;apply ex_ld_id;exact rfl;exact rfl;assumption;with_reducible rfl) | (apply Eq.trans;apply ex_ld_arr;exact rfl;exact rfl;assumption;with_reducible rfl) | (apply Eq.trans;apply ex_bld0_at;exact rfl;with_reducible rfl) | (go_simp;try with_reducible rfl)
         try simp only [sA1,sA2,sA3,Act.put,sA4,sA5,sA6]
         refine wpAnyS_end hA rfl ?_
         simp only [List.drop_succ_cons,List.drop_zero]
         have FD3:=Lib.hid (FD2.out.step0 fn)
         have HG9:=Lib.hid (show wl.heap.size ≤ u9d.heap.size ∧ P22 < u9d.heap.size by have:=FU7.out.size;have:=FD2.out.size;have:=Cod.bxd_lt B22.out;omega)
         clear hF keep
         generalize u9d.alloc (rowo [l0,l1]) = u10 at sn FD3 ⊢
         generalize u9d.heap.size = G at sn HG9 ⊢
         have b22:=Cod.bxd_fr0 B22.out FD3.out
         have k4:=(Cod.bxd_blk b22).frozen 0
         have k5:=(cgAt (Cod.bxd_rd b22)).parents
         clear fn
         have SN:=Lib.hid sn
         clear sn
         go_upto_region 26 with fail
         have f22:=Cod.set_fr u10 P22 0 (.slice (some ⟨G,0,none⟩) 2 2)
         have b22b:=Cod.bxd_set b22 0 (.slice (some ⟨G,0,none⟩) 2 2) _ (seC_Parents _ (some ⟨G,0,none⟩) 2 2)
         have F11:=Lib.hid ((FU7.out.step0 FD3.out).step1 f22 HP22.out)
         have b17d:=bxI_fr B17.out (FD3.out.any (M:=oneB P22)) (by simp only [oneB];have:=NL.out.2;have:=HP22.out;omega)
         have b17e:=bxI_fr b17d f22 (by simp only [oneB];have:=NL.out.2;have:=HP22.out;omega)
         have sl2:Sl (u10.setCell ⟨P22,0,none⟩ (.slice (some ⟨G,0,none⟩) 2 2)) (some ⟨G,0,none⟩) (idc [l0,l1]):=SN.out.frQ (Q:=fun b=>b = G) f22 (fun _ g hg=>by simpa using hg.symm) (fun g hg e=>by
          have e':g = P22:=e
          have:=HG9.out
          omega)
         clear b22 k4 k5 f22 b17d
         generalize World.setCell _ _ _ = u11 at b22b F11 b17e sl2 ⊢
         have v1:IntKind.u8.wrap (n:Int) = n:=by rw [IntKind.wrap_u8];have:=HN.out;omega
         have v2:IntKind.u8.wrap (m':Int) = m':=by rw [IntKind.wrap_u8];have:=HL2.out;omega
         have v3:n < 256:=by have:=HN.out;omega
         have v4:m' < 256:=by have:=HL2.out;omega
         go_upto_region 27 with fail
         obtain ⟨p1,p2,p3⟩:=putB_fr b17e (idT n m')
         have hs12:Hs (putB u11 P17 (idT n m')) H S' L':=(HS2.out.fr0 F11.out).fr p1 (fun b hb e=>by
          have e':b = P17:=e
          rw [e'] at hb
          rcases HSS.out _ hb with h | h
          ·exact NP.out.1 h
          ·have:=NP.out.2.1;omega)
         have r17f:=bxI_rd p3
         have rcg:=Cod.rd_fr (Cod.bxd_rd b22b) p1 (show ¬ P22 = P17 by have:=NL.out.2;have:=HP22.out;omega)
         have slq:=sl2.frQ (Q:=fun b=>b = G) p1 (fun _ g hg=>by simpa using hg.symm) (fun g hg e=>by
          have e':g = P17:=e
          have:=HG9.out
          have:=NL.out.2
          omega)
         have P1:=Lib.hid (And.intro p1 p3)
         have cq:=chT_q (Q:=fun g=>¬ S' g) (t:=tm) (x:=at_) (y:=v) rfl (by rw [HPL.out];exact slq) (fun h=>by
          have:=HS2.out.lt h
          have:=HG9.out
          omega)
         have MA:=Lib.hid (mgAdd_any hs12 (by have:=NL.out.1;have:=HN.out;have:=HL2.out;omega) (idT n m') _ [] (chT (par2 at_ v) tm) cq (by show (par2 at_ v).length ≤ _;rw [par2_len];decide))
         clear hs12 cq slq sl2 p1 p2 p3 b17e b22b v1 v2 v3 v4
         generalize putB u11 P17 (idT n m') = u12 at r17f rcg P1 MA ⊢
         go_wp2_with (go_at_call 10;refine MA.out.mono ?_;rintro e u14 ⟨rfl,hs14,f14⟩;rw [AD.out.1] at hs14 ⊢)
         go_roundg (2 - (m' + 1))
         case measure=>have:=HL2.out;omega
         case rel =>
          refine ThI.add HSS.out AD.out.2.1 HF2.out F11.out P1.out.1 hs14 f14 P1.out.2 NP.out.1 NP.out.2.1 (HG2.out _ AD.out.2.2) HL2.out ?_
          first | rfl | (simp;done) | exact congrArg (Value.int .i64) (IntWalk.wrap64_in _ (by have:=HL2.out;omega))
      ·have m1:¬ (m':Int) < 2:=by omega
       have em:m' = 2:=by omega
       subst em
       have r17:=bxI_rd hb2
       have fn:Fr noB wr (wr.alloc (rowo [at_])):=(Fr.refl noB wr).alloc _
       have sn:=sl_new wr [at_]
       have MR2:=Lib.hid (mgRows_any (hs2.fr0 fn) hM2.nd (by have:=hM2.len;have:=HN.out;omega) _ 1 1 [at_] rfl sn (by simp))
       have HQ:=Lib.hid (show ∀ o,ROps L' [at_] o ↔ ROps L [x,y,z] o from fun o=>by
        rw [hr2 o,ROps.ex (ids:=[x,y,z])]
        constructor
        ·rintro ⟨i,hi,h⟩
         exact ⟨i,(HT.out i).1 hi,h⟩
        ·rintro ⟨i,hi,h⟩
         exact ⟨i,(HT.out i).2 hi,h⟩)
       have FS:=Lib.hid (show Fr S W0 wr from (HR1.out.2.2.step0 F17.out).step hf2 (fun b h=>by
        rcases h with h | h
        ·rcases HR1.out.2.1 b h with h | h
         ·exact .inr h
         ·exact .inl h
        ·rw [h];exact .inl (Nat.le_trans HR1.out.2.2.size NP.out.2.2.2)))
       have HSE:=Lib.hid (show ∀ b,S' b → S b ∨ W0.heap.size ≤ b from fun b hb=>by
        rcases hS2 b hb with h | h
        ·exact HR1.out.2.1 b h
        ·have h1:=HR1.out.2.2.size
         have h2:=F17.out.size
         exact .inr (by omega))
       have HE:=Lib.hid (And.intro hs2 hM2)
       have HFN2:=Lib.hid fn
       clear hs2 hM2 hS2 hf2 hr2 hb2 hc2 sn fn hlt2 hm2
       go_wp2_with (first
        | (go_at_call 20;refine MR2.out.mono ?_;rintro e u4 hr;obtain ⟨Ar,nr,cr,lr,rfl,pr,br,_,rr,f4⟩:=hr.f (S:=noB) (fun b h=>absurd h (by simp [noB]));have eo:=pr.eqR PW.out.1 HQ.out;rw [eo] at rr;have ww:=RF.out u4 (FS.out.step0 (HFN2.out.step0 f4)))
        | (go_at_call 19;refine (same_rows rr ww PW.out.2).mono ?_;rintro e u5 ⟨rfl,f5⟩))
       go_roundg (4 - (n + 1))
       case measure=>have:=HN.out;omega
       case rel=>exact ⟨n + 1,S',L',by first | rfl | (simp;done) | exact congrArg (Value.int .i64) (IntWalk.wrap64_in _ (by have:=HN.out;omega)),rfl,HN.out,HE.out.1.fr0 (HFN2.out.step0 (f4.step0 f5)),HSE.out,HE.out.2,FS.out.step0 (HFN2.out.step0 (f4.step0 f5))⟩
    ·have n1:¬ (n:Int) < 4:=by omega
     go_wp2_with fail
     go_ret
     exact ⟨rfl,(HF.out.step0 HF0.out).step hf1 (fun b h=>.inl (HLO.out b h))⟩
end Go.Proofs.YtjpieiccpbcabaaGreat
