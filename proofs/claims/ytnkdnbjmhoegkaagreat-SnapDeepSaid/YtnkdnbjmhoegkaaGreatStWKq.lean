/- Contracts: cmp.Compare, cmp.Or; stamps: Right, fixed, Cmp. -/
import Derived.Test.YtnkdnbjmhoegkaaGreatTreePKq
import Derived.Test.YtnkdnbjmhoegkaaGreatRegQKq
import Derived.Deep.Cut
set_option linter.unusedVariables false
set_option linter.unusedSimpArgs false
namespace Go.Proofs.YtnkdnbjmhoegkaaGreat
open Go.RowKit
def Gives (w:World) (v:Value) (e:Ending) (w':World):Prop:=e = .returned v ∧ Fr noB w w'
def cmpZ (a b:Int):Int:=if a < b then -1 else if b < a then 1 else 0
theorem nan_any (w:World) (a:Int):Calls Tryz.prog 72 #[.int .i64 a] w fun e w'=>e = .returned (.bool false) ∧ w' = w:=by
 go_enter Tryz.func72,Tryz.ntmps72
 go_wp2
 go_ret
 exact ⟨by simp,rfl⟩
theorem nan64_any (w:World) (a:Int):Calls Tryz.prog 71 #[.int .i64 a] w fun e w'=>e = .returned (.bool false) ∧ w' = w:=by
 go_enter Tryz.func71,Tryz.ntmps71
 go_wp2
 go_ret
 exact ⟨by simp,rfl⟩
theorem compareI_any (w:World) (a b:Int):Calls Tryz.prog 45 #[.int .i64 a,.int .i64 b] w fun e w'=>e = .returned (.int .i64 (cmpZ a b)) ∧ w' = w:=by
 go_enter Tryz.func45,Tryz.ntmps45
 go_wp2_with fail
 go_at_call 72
 refine (nan_any w a).mono ?_
 rintro e w1 ⟨rfl,rfl⟩
 go_wp2_with fail
 go_at_call 72
 refine (nan_any _ b).mono ?_
 rintro e w1 ⟨rfl,rfl⟩
 have e1:a < b → cmpZ a b = -1:=fun h=>by simp [cmpZ,h]
 have e2:¬ a < b → b < a → cmpZ a b = 1:=fun h h'=>by simp [cmpZ,h,h']
 have e3:¬ a < b → ¬ b < a → cmpZ a b = 0:=fun h h'=>by simp [cmpZ,h,h']
 by_cases h1:a < b
 ·have E:=Lib.hid (e1 h1)
  clear e1 e2 e3
  go_wp2_with fail
  go_ret
  exact ⟨by rw [E.out];rfl,rfl⟩
 ·by_cases h2:b < a
  ·have E:=Lib.hid (e2 h1 h2)
   clear e1 e2 e3
   go_wp2_with fail
   go_ret
   exact ⟨by rw [E.out];rfl,rfl⟩
  ·have E:=Lib.hid (e3 h1 h2)
   clear e1 e2 e3
   go_wp2_with fail
   go_ret
   exact ⟨by rw [E.out];rfl,rfl⟩
theorem compare64_any (w:World) (a b:Int):Calls Tryz.prog 44 #[.int .i64 a,.int .i64 b] w fun e w'=>e = .returned (.int .i64 (cmpZ a b)) ∧ w' = w:=by
 go_enter Tryz.func44,Tryz.ntmps44
 go_wp2_with fail
 go_at_call 71
 refine (nan64_any w a).mono ?_
 rintro e w1 ⟨rfl,rfl⟩
 go_wp2_with fail
 go_at_call 71
 refine (nan64_any _ b).mono ?_
 rintro e w1 ⟨rfl,rfl⟩
 have e1:a < b → cmpZ a b = -1:=fun h=>by simp [cmpZ,h]
 have e2:¬ a < b → b < a → cmpZ a b = 1:=fun h h'=>by simp [cmpZ,h,h']
 have e3:¬ a < b → ¬ b < a → cmpZ a b = 0:=fun h h'=>by simp [cmpZ,h,h']
 by_cases h1:a < b
 ·have E:=Lib.hid (e1 h1)
  clear e1 e2 e3
  go_wp2_with fail
  go_ret
  exact ⟨by rw [E.out];rfl,rfl⟩
 ·by_cases h2:b < a
  ·have E:=Lib.hid (e2 h1 h2)
   clear e1 e2 e3
   go_wp2_with fail
   go_ret
   exact ⟨by rw [E.out];rfl,rfl⟩
  ·have E:=Lib.hid (e3 h1 h2)
   clear e1 e2 e3
   go_wp2_with fail
   go_ret
   exact ⟨by rw [E.out];rfl,rfl⟩
@[irreducible] def orI (a b:Int):Int:=if a = 0 then b else a
theorem orI_eq (a b:Int):orI a b = if a = 0 then b else a:=by unfold orI;rfl
theorem or_any (w:World) (A:Option Addr) (c:Nat) (a b:Int) (h:Sl w A [.int .i64 a,.int .i64 b]) :
  Calls Tryz.prog 43 #[.slice A 2 c] w fun e w'=>e = .returned (.int .i64 (orI a b)) ∧ w' = w:=by
 obtain ⟨g,off,rfl,_,hc⟩:=h (by simp)
 have c0:=hc 0 _ rfl
 have c1:=hc 1 _ rfl
 rw [Nat.add_zero] at c0
 go_enter Tryz.func43,Tryz.ntmps43
 go_wp2
 refine wp_loop_rounds 3 ?_
 by_cases ha:a = 0
 ·by_cases hb:b = 0
  ·subst ha hb
   rw [rounds_succ]
   go_wp2
   rw [rounds_succ]
   go_wp2
   rw [rounds_succ]
   go_wp2
   go_ret
   exact ⟨by simp [orI_eq],rfl⟩
  ·subst ha
   rw [rounds_succ]
   go_wp2
   rw [rounds_succ]
   go_wp2
   go_ret
   exact ⟨by simp [orI_eq],rfl⟩
 ·rw [rounds_succ]
  go_wp2
  go_ret
  exact ⟨by simp [orI_eq,ha],rfl⟩
theorem cmpS_or (a b:St):orI (cmpZ a.T b.T) (cmpZ a.R b.R) = cmpS a b:=by
 rw [orI_eq]
 unfold cmpZ cmpS
 split <;> (repeat' split) <;> first | rfl | omega
abbrev encS (s:St):Value:=.agg #[.int .i64 s.T,.int .i64 s.R]
abbrev sto (s:St):Obj:=.cells #[.int .i64 s.T,.int .i64 s.R] 24
theorem sto_cell (w:World) (s:St):(w.alloc (sto s)).cell? ⟨w.heap.size,0,none⟩ = some (.int .i64 s.T) ∧ (w.alloc (sto s)).cell? ⟨w.heap.size,1,none⟩ = some (.int .i64 s.R):=by
 have h:=Blk.new w 24 [.int .i64 s.T,.int .i64 s.R]
 exact ⟨h.cell 0,h.cell 1⟩
set_option maxRecDepth 100000 in
theorem right_any (w:World) (s:St):Calls Tryz.prog 103 #[encS s] w (Gives w (.bool (rightS s))):=by
 obtain ⟨c0,c1⟩:=sto_cell w s
 have f0:Fr noB w (w.alloc (sto s)):=(Fr.refl noB w).alloc _
 have e:∀ v:Bool,rightS s = v → rightS s = v:=fun _ h=>h
 obtain ⟨T,R⟩:=s
 simp only at c0 c1
 clear e
 by_cases h1:1 ≤ T
 ·by_cases h2:T ≤ 1099511627776
  ·by_cases h3:1 ≤ R
   ·by_cases h4:R ≤ 65536
    ·have e:rightS ⟨T,R⟩ = true:=by simp [rightS,h1,h2,h3,h4]
     have E:=Lib.hid e
     clear e
     go_enter Tryz.func103,Tryz.ntmps103
     go_wp2_with fail
     go_ret
     exact ⟨by rw [E.out];rfl,f0⟩
    ·have e:rightS ⟨T,R⟩ = false:=by simp [rightS,h4]
     have E:=Lib.hid e
     clear e
     go_enter Tryz.func103,Tryz.ntmps103
     go_wp2_with fail
     go_ret
     exact ⟨by rw [E.out];rfl,f0⟩
   ·have e:rightS ⟨T,R⟩ = false:=by simp [rightS,h3]
    have E:=Lib.hid e
    clear e
    go_enter Tryz.func103,Tryz.ntmps103
    go_wp2_with fail
    go_ret
    exact ⟨by rw [E.out];rfl,f0⟩
  ·have e:rightS ⟨T,R⟩ = false:=by simp [rightS,h2]
   have E:=Lib.hid e
   clear e
   go_enter Tryz.func103,Tryz.ntmps103
   go_wp2_with fail
   go_ret
   exact ⟨by rw [E.out];rfl,f0⟩
 ·have e:rightS ⟨T,R⟩ = false:=by simp [rightS,h1]
  have E:=Lib.hid e
  clear e
  go_enter Tryz.func103,Tryz.ntmps103
  go_wp2_with fail
  go_ret
  exact ⟨by rw [E.out];rfl,f0⟩
theorem cell_fr0 {w w':World} {b o:Nat} {v:Value} (h:w.cell? ⟨b,o,none⟩ = some v) (f:Fr noB w w'):w'.cell? ⟨b,o,none⟩ = some v :=
 (World.cell?_of_block (a:=⟨b,o,none⟩) (f.block b (World.block_lt_of_cell? _ _ h) (by simp [noB]))).trans h
set_option maxRecDepth 100000 in
theorem scmp_any (w:World) (a b:St):Calls Tryz.prog 27 #[encS a,encS b] w (Gives w (.int .i64 (cmpS a b))):=by
 have f1:Fr noB (w.alloc (sto a)) ((w.alloc (sto a)).alloc (sto b)):=(Fr.refl noB _).alloc _
 have f0:Fr noB w ((w.alloc (sto a)).alloc (sto b)):=((Fr.refl noB w).alloc _).alloc _
 obtain ⟨a0,a1⟩:=sto_cell w a
 obtain ⟨b0,b1⟩:=sto_cell (w.alloc (sto a)) b
 rw [World.size_alloc] at b0 b1
 have A0:=cell_fr0 a0 f1
 have A1:=cell_fr0 a1 f1
 have hcs:=cmpS_or a b
 have HCS:=Lib.hid hcs
 clear hcs a0 a1 f1
 go_enter Tryz.func27,Tryz.ntmps27
 go_upto_region 1 with fail
 generalize (w.alloc (sto a)).alloc (sto b) = W at f0 b0 b1 A0 A1 ⊢
 generalize w.heap.size + 1 = B at b0 b1 ⊢
 generalize w.heap.size = A at A0 A1 ⊢
 have keep:∀ w' w'':World,Fr noB w' w'' → (w'.cell? ⟨A,0,none⟩ = some (.int .i64 a.T) ∧ w'.cell? ⟨A,1,none⟩ = some (.int .i64 a.R) ∧ w'.cell? ⟨B,0,none⟩ = some (.int .i64 b.T) ∧ w'.cell? ⟨B,1,none⟩ = some (.int .i64 b.R)) → (w''.cell? ⟨A,0,none⟩ = some (.int .i64 a.T) ∧ w''.cell? ⟨A,1,none⟩ = some (.int .i64 a.R) ∧ w''.cell? ⟨B,0,none⟩ = some (.int .i64 b.T) ∧ w''.cell? ⟨B,1,none⟩ = some (.int .i64 b.R)):=fun w' w'' f h=>⟨cell_fr0 h.1 f,cell_fr0 h.2.1 f,cell_fr0 h.2.2.1 f,cell_fr0 h.2.2.2 f⟩
 have fd:=(Fr.refl noB W).drew
 have F0:=keep _ _ fd ⟨A0,A1,b0,b1⟩
 go_wp2_with fail
 refine wp_region_M 12 13 [⟨32,4,0⟩,⟨64,32,1⟩,⟨128,8,0⟩,⟨256,128,4⟩,⟨512,320,10⟩,⟨1024,4,0⟩,⟨2048,1024,32⟩,⟨4096,8,0⟩,⟨8192,4096,128⟩,⟨16384,10240,336⟩,⟨32768,16896,528⟩,⟨65536,32768,1536⟩,⟨16,65536,4095⟩] [(true,0),(true,1),(true,2),(true,3),(true,5),(true,6),(true,7),(true,8),(false,4),(false,9),(false,10),(false,11)] (fun w'=>w'.cell? ⟨A,0,none⟩ = some (.int .i64 a.T) ∧ w'.cell? ⟨A,1,none⟩ = some (.int .i64 a.R) ∧ w'.cell? ⟨B,0,none⟩ = some (.int .i64 b.T) ∧ w'.cell? ⟨B,1,none⟩ = some (.int .i64 b.R)) (by kernel_rfl) rfl (by kernel_rfl) (by kernel_rfl) (by kernel_rfl) F0 (fun hA hF=>?_)
 iterate 8
  refine wpAnyS_take (v:=?_) hA rfl (fun _ _ _ h=>h) (Or.inl ⟨by rfl,?_⟩) hF (fun hA=>?_)
  rotate_left
  ·intro wS hSw;(try dsimp only at hSw);obtain ⟨s1,s2,s3,s4⟩:=hSw;(go_simp;try with_reducible rfl)
  try simp only [sA1,sA2,sA3,Act.put,sA4,sA5,sA6]
 refine wpAnyS_one hA rfl (fun K' hK=>?_)
 go_simp
 go_at_call 44
 refine (compare64_any _ a.T b.T).mono ?_
 rintro e u1 ⟨rfl,rfl⟩
 replace hF:=keep _ _ (Fr.refl noB _) hF
 refine hK.out _ _ hF (fun hA=>?_)
 clear hK K'
 as_aux_lemma =>
 refine wpAnyS_one hA rfl (fun K' hK=>?_)
 go_simp
 go_at_call 45
 refine (compareI_any _ a.R b.R).mono ?_
 rintro e u2 ⟨rfl,rfl⟩
 replace hF:=keep _ _ (Fr.refl noB _) hF
 refine hK.out _ _ hF (fun hA=>?_)
 clear hK K'
 as_aux_lemma =>
 refine wpAnyS_one hA rfl (fun K' hK=>?_)
 go_simp
 have f3:Fr noB W.drew (W.drew.alloc (.cells #[.int .i64 (cmpZ a.T b.T),.int .i64 (cmpZ a.R b.R)] 3)):=(Fr.refl noB _).alloc _
 have s3:Sl (W.drew.alloc (.cells #[.int .i64 (cmpZ a.T b.T),.int .i64 (cmpZ a.R b.R)] 3)) (some ⟨W.heap.size,0,none⟩) [.int .i64 (cmpZ a.T b.T),.int .i64 (cmpZ a.R b.R)]:=Sl.new W.drew _ _
 replace hF:=keep _ _ f3 hF
 refine hK.out _ _ hF (fun hA=>?_)
 clear hK K'
 as_aux_lemma =>
 refine wpAnyS_one hA rfl (fun K' hK=>?_)
 go_simp
 go_at_call 43
 refine (or_any _ _ _ (cmpZ a.T b.T) (cmpZ a.R b.R) s3).mono ?_
 rintro e u4 ⟨rfl,rfl⟩
 replace hF:=keep _ _ (Fr.refl noB _) hF
 refine hK.out _ _ hF (fun hA=>?_)
 clear hK K'
 as_aux_lemma =>
 refine wpAnyS_end hA rfl ?_
 simp only [List.drop_succ_cons,List.drop_zero]
 clear hF
 go_wp2_with fail
 go_ret
 exact ⟨by rw [HCS.out];rfl,(f0.step0 fd).step0 f3⟩
end Go.Proofs.YtnkdnbjmhoegkaaGreat
