/- The law PackTurns: for every input it returns true, and its arguments read behind the call as they did. No condition. -/
import Derived.Test.YtahllkifmmjbdaaFrameBKp
set_option linter.unusedVariables false
set_option linter.unusedSimpArgs false
namespace Go.Proofs.Ytahllkifmmjbdaa.packTurns
open Go.ChangeShapes Go.WideShapes Go.ChangeAt Go.RowKit
set_option maxRecDepth 100000 in
theorem lifted (os:Os) (started:os.Started) (H:Type) (enc:TypeId × Value → H) :
  ReturnsInHanded {} Try.checked os 3 .any (Rows.packTurnsSpec.pre6 enc Try.prog Try.f3 Rows.packTurnsRow.domain false) (Rows.packTurnsSpec.post enc Try.prog Try.f3 false true false false):=by
 refine returnsInHanded_of_change_shaped (C:=Try.checked) own started (by kernel_rfl) Try.func3
  (ChangeSpec.witness6 (enc:=enc) (C:=Try.checked) false ⟨#[],#[.slice none 0 0,.int .i64 0,.int .u8 0],[]⟩ 8 (by kernel_rfl) (by kernel_rfl) (by kernel_rfl) (by kernel_rfl)) ?_
 intro W base args ds gs before hval0 hW hcnd hsz0 hsh _
 have hsz:(DataW.weightsEach Try.prog (Try.f3.params.toList ++ Rows.packTurnsSpec.plain.varTypes Try.prog) (ds ++ gs)).all (· ≤ reachBytes) = true:=hsz0
 have hval:∀ (j:Nat) t v,Try.f3.params[j]? = some t → args[j]? = some v → Value.okWide Try.prog W .any base t v:=hval0
 have hW':=hW
 obtain ⟨p,q,hA0,hV,rfl,hfz,hnd⟩:=hW
 have hA:DataW.TrodAll enc Try.prog W 0 (fun _=>true) true Try.f3.params.toList args.toList ds p:=hA0
 rw [Try.params3] at hA hval hsz
 obtain ⟨v0,vs0,d0,ds0,p0,q0,hargs,rfl,rfl,h0,r0⟩:=trodAll_cons hA
 obtain ⟨v1,vs1,d1,ds1,p1,q1,rfl,rfl,rfl,h1,r1⟩:=trodAll_cons r0
 obtain ⟨v2,vs2,d2,ds2,p2,q2,rfl,rfl,rfl,h2,r2⟩:=trodAll_cons r1
 obtain ⟨rfl,rfl,rfl⟩:=trodAll_nil r2
 obtain rfl:args = #[v0,v1,v2]:=by cases args;simp_all
 obtain ⟨rfl,rfl⟩:=trodVars_none hV
 have k0:=h0
 have lt0:∀ x ∈ p0,x.block < W.heap.size:=by obtain ⟨m,hm⟩:=k0;exact DataW.trod_lt m _ _ _ hm
 obtain ⟨A0,rs0,c0,rfl,hs0,hb0,hc0,hbd0,xs0,hin0⟩:=open_bytess (hval 0 22 v0 rfl rfl) h0 (wt_arg hsz (j:=0) rfl rfl)
 obtain ⟨a1,rfl,rfl,rfl,w1⟩:=open_int Try.underlying3 (hval 1 3 v1 rfl rfl) h1
 obtain ⟨a2,rfl,rfl,rfl,w2⟩:=open_int Try.underlying5 (hval 2 5 v2 rfl rfl) h2
 have u2:=u8_wf w2
 obtain ⟨b2,hb82⟩:∃ b:UInt8,a2 = (b.toNat:Int):=⟨UInt8.ofNat a2.toNat,by rw [UInt8.toNat_ofNat',Nat.mod_eq_of_lt (by omega)];omega⟩
 subst hb82
 clear hA0 hval0
 obtain ⟨mz,hmz,hw0⟩:=hasMx hsh
 refine (turns08_any W mz hmz hw0 A0 c0 rs0 xs0 hs0 hb0 hin0 hbd0 a1 b2).mono fun e W' ⟨he,fr⟩=>?_
 subst he
 have bel:=fr.below
 exact ⟨_,rfl,_,_,_,[],_,[],hW',trodAll_mk1 (shut_bool Try.underlying4 _),(trodAll_cons_mk (Below.trod laidOut (by kernel_rfl) (of_decide_eq_true (by kernel_rfl)) k0 bel lt0) (trodAll_cons_mk (shut_int Try.underlying3 w1) (trodAll_cons_mk (shut_int Try.underlying5 w2) trodAll_mk0))),rfl,bel.frame _,fun h=>by cases h⟩
theorem proved:Rows.PackTurnsSaid :=
 OpenClaim.holds_of_wide 3 Try.f3 rfl rfl rfl rfl rfl rfl rfl ⟨rfl,rfl,rfl,rfl,rfl⟩ rfl rfl rfl rfl rfl (by kernel_rfl) Try.func3 (by kernel_rfl)
  (of_decide_eq_true (by kernel_rfl)) (by unfold Func.isWrapper;first | (rw [if_pos (by decide +kernel)];kernel_rfl) | (rw [if_neg (by decide +kernel)];exact ⟨rfl,rfl⟩))
  (fun os started H enc _=>lifted os started H enc)
#print axioms proved
end Go.Proofs.Ytahllkifmmjbdaa.packTurns
