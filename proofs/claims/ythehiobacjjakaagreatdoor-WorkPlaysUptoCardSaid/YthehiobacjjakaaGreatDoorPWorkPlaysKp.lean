/- The law WorkPlays: for every input of bulk at most 1048576 it returns true, and its arguments read behind the call as they did. Condition: the bulk. -/
import Derived.Test.YthehiobacjjakaaGreatDoorFrameLKp
import Derived.Test.YthehiobacjjakaaGreatDoorCards
import Derived.Deep.DeepHandedRow
import Derived.ChangeMaps5
import Derived.Test.YthehiobacjjakaaGreatDoorLawPwKp
set_option linter.unusedVariables false
set_option linter.unusedSimpArgs false
namespace Go.Proofs.YthehiobacjjakaaGreatDoor.workPlays
open Go.ChangeShapes Go.WideShapes Go.ChangeAt Go.RowKit
set_option maxRecDepth 100000 in
theorem lifted (os:Os) (started:os.Started) (H:Type) (enc:TypeId × Value → H) (F:Stop.Interp) :
  ReturnsInHanded {} Tryz.checked os 3 .any ((Rows.OpenSpec.upto Rows.workPlaysSpec).preRow enc Tryz.prog Tryz.f3 Rows.workPlaysUptoRow.domain false Rows.workPlaysUptoRow.laid) (((Rows.OpenSpec.upto Rows.workPlaysSpec).at F).post enc Tryz.prog Tryz.f3 false true false false):=by
 refine returnsInHanded_of_row (C:=Tryz.checked) (s:=Rows.OpenSpec.upto Rows.workPlaysSpec) own started (by kernel_rfl) Tryz.func3
  (by
   obtain ⟨w,tape,i,h1,h2,h3,h4,h5,h6⟩:=witness_row_at (enc:=enc) (C:=Tryz.checked) (fn:=Tryz.f3) (s:=Rows.OpenSpec.upto Rows.workPlaysSpec) (conds:=Rows.workPlaysUptoRow.domain) (apart:=false) (laid:=Rows.workPlaysUptoRow.laid) false (World.laidAll Tryz.prog os laidW) #[.slice none 0 0,.agg #[.int .i64 0,.int .i64 0],.slice none 0 0,.string ⟨#[]⟩] (World.laidAll_os _ _ _) (by kernel_rfl) (by kernel_rfl) (by kernel_rfl)
    (OpenSpec.preRow_of_cond 8 (x:=([.nil,.agg [.lit (.int .i64 0),.lit (.int .i64 0)],.nil,.lit (.string [])],[],[])) (by kernel_rfl) (by kernel_rfl) (fun k hk=>by cases hk;kernel_rfl) (by kernel_rfl) (by exact laidMet_laidAll _ (by kernel_rfl) (by kernel_rfl)))
   exact ⟨w,tape,i,h1,h2,h3,h4,h5,h6⟩) ?_
 intro W base args ds gs before hval0 hW hcnd hk0 hsz0 hL hsh _
 have hsz:(DataW.weightsEach Tryz.prog (Tryz.f3.params.toList ++ Rows.workPlaysSpec.plain.varTypes Tryz.prog) (ds ++ gs)).all (· ≤ reachBytes) = true:=hsz0
 have hval:∀ (j:Nat) t v,Tryz.f3.params[j]? = some t → args[j]? = some v → Value.okWide Tryz.prog W .any base t v:=hval0
 have hW':=hW
 obtain ⟨p,q,hA0,hV,rfl,hfz,hnd⟩:=hW
 have hA:DataW.TrodAll enc Tryz.prog W 0 (fun _=>true) true Tryz.f3.params.toList args.toList ds p:=hA0
 rw [Tryz.params3] at hA hval hsz
 obtain ⟨v0,vs0,d0,ds0,p0,q0,hargs,rfl,rfl,h0,r0⟩:=trodAll_cons hA
 obtain ⟨v1,vs1,d1,ds1,p1,q1,rfl,rfl,rfl,h1,r1⟩:=trodAll_cons r0
 obtain ⟨v2,vs2,d2,ds2,p2,q2,rfl,rfl,rfl,h2,r2⟩:=trodAll_cons r1
 obtain ⟨v3,vs3,d3,ds3,p3,q3,rfl,rfl,rfl,h3,r3⟩:=trodAll_cons r2
 obtain ⟨rfl,rfl,rfl⟩:=trodAll_nil r3
 obtain rfl:args = #[v0,v1,v2,v3]:=by cases args;simp_all
 obtain ⟨rfl,rfl⟩:=trodVars_none hV
 have k0:=h0
 have lt0:∀ x ∈ p0,x.block < W.heap.size:=by obtain ⟨m,hm⟩:=k0;exact DataW.trod_lt m _ _ _ hm
 obtain ⟨A0,rs0,c0,rfl,hs0,hb0,hc0,xs0,hin0,hbd0⟩:=open_rows (hval 0 22 v0 rfl rfl) h0 (wt_arg hsz (j:=0) rfl rfl)
 have k1:=h1
 have lt1:∀ x ∈ p1,x.block < W.heap.size:=by obtain ⟨m,hm⟩:=k1;exact DataW.trod_lt m _ _ _ hm
 obtain ⟨s1,rfl,hw1⟩:=open_stamp (hval 1 24 v1 rfl rfl) h1 (wt_arg hsz (j:=1) rfl rfl)
 have k2:=h2
 have lt2:∀ x ∈ p2,x.block < W.heap.size:=by obtain ⟨m,hm⟩:=k2;exact DataW.trod_lt m _ _ _ hm
 obtain ⟨A2,rs2,c2,rfl,hs2,hb2,hc2⟩:=open_lops (hval 2 25 v2 rfl rfl) h2 (wt_arg hsz (j:=2) rfl rfl)
 have k3:=h3
 have lt3:∀ x ∈ p3,x.block < W.heap.size:=by obtain ⟨m,hm⟩:=k3;exact DataW.trod_lt m _ _ _ hm
 obtain ⟨sb3,rfl,rfl,rfl,hm3⟩:=Go.ChangeMaps.open_string Tryz.underlying9 (hval 3 9 v3 rfl rfl) h3
 have hk:=of_decide_eq_true (p:=Rows.uptoBulkAll _ ≤ 1048576) (hk0 _ rfl)
 simp only [List.cons_append,List.nil_append,List.append_nil,Rows.uptoBulkAll,Rows.uptoBulk] at hk
 clear hA0 hval0
 have es3:str sb3.data.toList = sb3:=by apply ByteArray.ext;simp [str]
 rw [← es3]
 refine (lawPlays17 W (hasTW hL) (hasMW hsh) A0 c0 rs0 xs0 hs0 hb0 hin0 hbd0 s1 hw1 A2 c2 rs2 hs2 hb2 (sb3.data.toList) (by omega)).mono fun e W' ⟨he,fr⟩=>?_
 subst he
 have bel:=fr.below
 exact ⟨_,rfl,_,_,_,[],_,[],hW',trodAll_mk1 (shut_bool Tryz.underlying4 _),(trodAll_cons_mk (Below.trod laidOut (by kernel_rfl) (of_decide_eq_true (by kernel_rfl)) k0 bel lt0) (trodAll_cons_mk (Below.trod laidOut (by kernel_rfl) (of_decide_eq_true (by kernel_rfl)) k1 bel lt1) (trodAll_cons_mk (Below.trod laidOut (by kernel_rfl) (of_decide_eq_true (by kernel_rfl)) k2 bel lt2) (trodAll_cons_mk (Below.trod laidOut (by kernel_rfl) (of_decide_eq_true (by kernel_rfl)) k3 bel lt3) trodAll_mk0)))),rfl,bel.frame _,fun h=>by cases h⟩
theorem said:Rows.WorkPlaysUptoSaid :=
 OpenClaim.holds_of_cond 3 Tryz.f3 rfl rfl rfl rfl rfl rfl rfl ⟨rfl,rfl,rfl,rfl,rfl⟩ rfl rfl rfl rfl rfl (by kernel_rfl) Tryz.func3 (by kernel_rfl)
  (of_decide_eq_true (by kernel_rfl)) (by unfold Func.isWrapper;first | (rw [if_pos (by decide +kernel)];kernel_rfl) | (rw [if_neg (by decide +kernel)];exact ⟨rfl,rfl⟩))
  (fun os started H enc _ F=>by rw [OpenClaim.pre_eq_preRow];exact lifted os started H enc F)
theorem proved:Rows.WorkPlaysUptoCardSaid :=
 Claim7.holds_tied_plain_at .later [] [.data, .data, .data, .data, .pinned] true (true, "b5315929075185513a43c99e1efd03fd2b7237898fc1d5697669653d5c0aa4e0") false said (fun _ h => by cases h) (by kernel_rfl) (fun _ h => by cases h) workPlaysUpto_row_tie rfl ⟨rfl, rfl⟩ (by kernel_rfl) rfl
  (fun f fn hf hfn=>by
   obtain rfl : f = 3 := Option.some.inj ((show Tryz.prog.funcNamed "pollard/pollardlaw17.WorkPlays" = some 3 by kernel_rfl).symm.trans hf) |>.symm
   obtain rfl:fn = Tryz.f3:=(Option.some.inj (Tryz.func3.symm.trans hfn)).symm
   exact ⟨by kernel_rfl,fun j t ht=>by
    rw [Tryz.params3] at ht
    have hm:t ∈ [22,24,25,9]:=by simpa using Array.mem_of_getElem? ht
    have hall:([22,24,25,9].all fun u=>!Tryz.prog.wantsStandIn u) = true:=by kernel_rfl
    exact (show Tryz.prog.wantsStandIn t = false by simpa using List.all_eq_true.1 hall t hm)⟩)
  (by kernel_rfl)
#print axioms proved
end Go.Proofs.YthehiobacjjakaaGreatDoor.workPlays
