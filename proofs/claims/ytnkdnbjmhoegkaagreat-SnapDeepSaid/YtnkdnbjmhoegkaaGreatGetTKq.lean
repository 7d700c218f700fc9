/- Contracts: stamp.put, obj.at. Contracts: obj.open. Variables that a reader's function fills: stores into parts of a value; the state of a reader with two such variables. Contract: stamp.Get. Contract: obj.getItem. -/
import Derived.Test.YtnkdnbjmhoegkaaGreatQFrKq
import Derived.Test.YtnkdnbjmhoegkaaGreatRdrIdKq
import Derived.Test.YtnkdnbjmhoegkaaGreatRightCKq
import Derived.Laws.ResultCell
import Derived.Deep.LoopGhost
set_option linter.unusedVariables false
set_option linter.unusedSimpArgs false
namespace Go.Proofs.YtnkdnbjmhoegkaaGreat
open Go.RowKit
structure StAt (w:World) (b:Nat) (s:St):Prop where
 T:w.cell? ⟨b,0,none⟩ = some (.int .i64 s.T)
 R:w.cell? ⟨b,1,none⟩ = some (.int .i64 s.R)
 self:codS.rd w b 0 = some s
theorem stAt {w:World} {b:Nat} {r:St} (h:codS.rd w b 0 = some r):StAt w b r:=by
 have e (k:Nat) {v:Value} (hv:(codS.cs r)[k]? = some v):=by simpa using Cod.rd_cell h k hv
 exact ⟨e 0 rfl,e 1 rfl,h⟩
theorem StAt.fr {w w':World} {b:Nat} {r:St} (h:StAt w b r) (f:Fr noB w w'):StAt w' b r:=stAt (Cod.rd_fr0 h.self f)
def okSt (s:St):Prop:=0 ≤ s.T ∧ s.T ≤ 4611686018427387904 ∧ 0 ≤ s.R ∧ s.R ≤ 4611686018427387904
theorem stB_len {s:St} (h:okSt s):(stB s).length ≤ 20:=by
 obtain ⟨h1,h2,h3,h4⟩:=h
 unfold stB
 rw [List.length_append]
 have h1:=numB_length s.T.toNat (by omega)
 have h2:=numB_length s.R.toNat (by omega)
 omega
theorem okSt_of {s:St} (hr:rightS s = true):okSt s:=by
 simp only [rightS,Bool.and_eq_true,decide_eq_true_eq] at hr
 exact ⟨by omega,by omega,by omega,by omega⟩
theorem enum_z (w:World) (A:Option Addr) (c:Nat) (l:List UInt8) (k:Nat) (hk:l.length = k) (hs:Sl w A (bv l)) (hl:l.length ≤ 140737488355000) (z:Int) (n:Nat) (hz:(n:Int) = z) (hn:n ≤ 4611686018427387904) :
  Calls Tryz.prog 50 #[.slice A k c,.int .i64 z] w (NewBytes w (l ++ numB n)):=by subst hz;exact enum_n w A c l k hk hs hl n hn
theorem NewBytes.sl {w w':World} {l:List UInt8} {A:Option Addr} {c:Nat} (h:w'.ownsRow w.heap.size 5 1 (.slice A l.length c) l.length (bv l)):Sl w' A (bv l):=Sl.own h
set_option maxRecDepth 100000 in
set_option maxHeartbeats 2000000 in
theorem oat_any (w:World) (A:Option Addr) (c n:Nat) (l:List UInt8) (hn:l.length = n) (hs:Sl w A (bv l)) (hb:l.length ≤ 140737488354000) (s:St) (hok:okSt s) :
  Calls Tryz.prog 53 #[.slice A n c,.agg (codS.A s)] w (NewBytes w (l ++ stB s)):=by
 subst hn
 have f0:Fr noB w (w.alloc (.cells (codS.A s) 24)):=(Fr.refl noB w).alloc _
 have q0:StAt (w.alloc (.cells (codS.A s) 24)) w.heap.size s:=stAt (Cod.rd_new w 24 s)
 have hs0:=hs.fr0 f0
 go_enter Tryz.func53,Tryz.ntmps53
 go_upto_region 1 with fail
 generalize w.alloc (.cells (codS.A s) 24) = w0 at f0 q0 hs0 ⊢
 generalize hP:w.heap.size = P at q0 ⊢
 have fd:=(Fr.refl noB w0).drew
 have qd:=q0.fr fd
 have keep:∀ w' w'':World,Fr noB w' w'' → (w'.cell? ⟨P,0,none⟩ = some (.int .i64 s.T) ∧ w'.cell? ⟨P,1,none⟩ = some (.int .i64 s.R)) → (w''.cell? ⟨P,0,none⟩ = some (.int .i64 s.T) ∧ w''.cell? ⟨P,1,none⟩ = some (.int .i64 s.R)):=fun w' w'' f h=>⟨cell_fr0 h.1 f,cell_fr0 h.2 f⟩
 obtain ⟨o1,o2,o3,o4⟩:=hok
 have p1:((s.T.toNat:Nat):Int) = s.T:=by omega
 have p2:s.T.toNat ≤ 4611686018427387904:=by omega
 have p3:((s.R.toNat:Nat):Int) = s.R:=by omega
 have p4:s.R.toNat ≤ 4611686018427387904:=by omega
 have hl1:=numB_length s.T.toNat p2
 have p5:(l ++ numB s.T.toNat).length ≤ 140737488355000:=by rw [List.length_append];omega
 have p6:l.length ≤ 140737488355000:=by omega
 have P1:=Lib.hid p1
 have P3:=Lib.hid p3
 clear p1 p3
 go_wp2_with fail
 refine wp_region_M 7 8 [⟨32,1,0⟩,⟨64,8,0⟩,⟨128,64,2⟩,⟨256,160,5⟩,⟨512,8,0⟩,⟨1024,512,16⟩,⟨2048,1280,40⟩,⟨16,2048,127⟩] [(true,0),(true,1),(true,2),(true,4),(true,5),(false,3),(false,6)] (fun w'=>w'.cell? ⟨P,0,none⟩ = some (.int .i64 s.T) ∧ w'.cell? ⟨P,1,none⟩ = some (.int .i64 s.R)) (by kernel_rfl) rfl (by kernel_rfl) (by kernel_rfl) (by kernel_rfl) ⟨qd.T,qd.R⟩ (fun hA hF=>?_)
 iterate 5
  refine wpAnyS_take (v:=?_) hA rfl (fun _ _ _ h=>h) (Or.inl ⟨by rfl,?_⟩) hF (fun hA=>?_)
  rotate_left
  ·intro wS hSw;(try dsimp only at hSw);obtain ⟨s1,s2⟩:=hSw;first | (apply Eq.trans;apply ex_ld_id;exact rfl;exact rfl;assumption;with_reducible rfl) | (go_simp;try with_reducible rfl)
  try simp only [sA1,sA2,sA3,Act.put,sA4,sA5,sA6]
 refine wpAnyS_one hA rfl (fun K' hK=>?_)
 go_simp
 go_at_call 50
 refine (enum_z w0.drew A c l _ rfl (hs0.fr0 fd) p6 s.T s.T.toNat P1.out p2).mono ?_
 rintro e w1 ⟨A1,c1,rfl,ho1,hf1⟩
 obtain ⟨l1,hl1e⟩:∃ l1,l1 = l ++ numB s.T.toNat:=⟨_,rfl⟩
 rw [← hl1e] at ho1 p5 ⊢
 have HL:=Lib.hid hl1e
 clear hl1e
 replace hF:=keep _ _ hf1 hF
 refine hK.out _ _ hF (fun hA=>?_)
 clear hK K'
 as_aux_lemma =>
 refine wpAnyS_one hA rfl (fun K' hK=>?_)
 go_simp
 go_at_call 50
 refine (enum_z w1 A1 c1 l1 l1.length rfl (Sl.own ho1) p5 s.R s.R.toNat P3.out p4).mono ?_
 rintro e w2 ⟨A2,c2,rfl,ho2,hf2⟩
 replace hF:=keep _ _ hf2 hF
 refine hK.out _ _ hF (fun hA=>?_)
 clear hK K'
 as_aux_lemma =>
 refine wpAnyS_end hA rfl ?_
 simp only [List.drop_succ_cons,List.drop_zero]
 clear hF
 go_wp2_with fail
 go_ret
 have hbs:w.heap.size ≤ w1.heap.size:=Nat.le_trans (Nat.le_trans f0.size fd.size) hf1.size
 have e:l1 ++ numB s.R.toNat = l ++ stB s:=by rw [HL.out];unfold stB;rw [List.append_assoc]
 rw [e] at ho2 ⊢
 exact ⟨A2,c2,rfl,own_base ho2 hbs,((f0.step0 fd).step0 hf1).step0 hf2⟩
end Go.Proofs.YtnkdnbjmhoegkaaGreat
namespace Go.Proofs.YtnkdnbjmhoegkaaGreat
open Go.RowKit
def OpenTo (w:World) (s:RS) (e:Ending) (w':World):Prop:=∃ p Q,e = .returned (.pointer (some ⟨p,0,none⟩)) ∧ Rdr w' p s Q ∧ ¬ Q p ∧ (∀ b,Q b → b < w'.heap.size) ∧ w.heap.size ≤ p ∧ (∀ b,Q b → w.heap.size ≤ b) ∧ Fr noB w w'
set_option maxRecDepth 100000 in
theorem open_any (w:World) (A:Option Addr) (c n:Nat) (l:List UInt8) (hn:l.length = n) (hs:Sl w A (bv l)) (hc:l.length ≤ c) (hb:l.length ≤ 140737488355328) (k:UInt8) :
  Calls Tryz.prog 56 #[.slice A n c,.int .u8 (k.toNat:Int)] w (OpenTo w (openR l k)):=by
 subst hn
 cases l with
 | nil =>
  go_enter Tryz.func56,Tryz.ntmps56
  go_wp2_with fail
  go_at_call 88
  refine (read_any w none 0 [] (Sl.nil _ _) (by simp)).mono ?_
  rintro e w1 ⟨p,rfl,hp,hr,hf⟩
  go_wp2_with fail
  go_at_call 89
  refine (fail_any w1 p _ _ hr).mono ?_
  rintro e w2 ⟨rfl,hr2,hf2⟩
  go_wp2_with fail
  go_ret
  exact ⟨p,_,rfl,hr2,(fun h=>by omega),(fun b hb=>Nat.lt_trans hb.2 hr2.lt),hp,(fun b hb=>hb.1),hf.step1 hf2 hp⟩
 | cons b t =>
  obtain ⟨g,off,rfl,hg,hcell⟩:=hs (by simp [bv_cons])
  have hc0:w.cell? ⟨g,off,none⟩ = some (.int .u8 (b.toNat:Int)):=hcell 0 _ (bv_get (b :: t) 0 (by simp))
  have i0:(((t.length + 1:Nat):Int) == 0) = false:=by rw [beq_eq_false_iff_ne];omega
  have i0':(((t.length:Int) + 1) == 0) = false:=by rw [beq_eq_false_iff_ne];omega
  have i1:(0:Int) < ((t.length + 1:Nat):Int):=by omega
  have i1':(0:Int) < (t.length:Int) + 1:=by omega
  have i2:(1:Int) ≤ (t.length:Int) + 1:=by omega
  have hcut:=hs.cutB (k:=1) (c:=c) hc
  simp only [List.length_cons] at hb hc ⊢
  by_cases hbk:b = k
  ·subst hbk
   have e1:openR (b :: t) b = (t,false):=by simp [openR]
   have E1:=Lib.hid e1
   have e2:((b.toNat:Int) != (b.toNat:Int)) = false:=by simp
   clear hs hcell e1
   go_enter Tryz.func56,Tryz.ntmps56
   go_wp2_with fail
   go_at_call 88
   refine (read_n w _ _ t _ (by simp) hcut (by omega)).mono ?_
   rintro e w1 ⟨p,rfl,hp,hr,hf⟩
   go_wp2_with fail
   go_ret
   rw [E1.out]
   exact ⟨p,_,rfl,hr,(fun h=>by omega),(fun b hb=>Nat.lt_trans hb.2 hr.lt),hp,(fun b hb=>hb.1),hf⟩
  ·have e1:openR (b :: t) k = ([],true):=by simp [openR,hbk]
   have E1:=Lib.hid e1
   have e2:((b.toNat:Int) != (k.toNat:Int)) = true:=by
    rw [bne_iff_ne]
    intro h
    exact hbk (UInt8.toNat_inj.1 (by omega))
   clear hs hcell e1 hcut
   go_enter Tryz.func56,Tryz.ntmps56
   go_wp2_with fail
   go_at_call 88
   refine (read_any w none 0 [] (Sl.nil _ _) (by simp)).mono ?_
   rintro e w1 ⟨p,rfl,hp,hr,hf⟩
   go_wp2_with fail
   go_at_call 89
   refine (fail_any w1 p _ _ hr).mono ?_
   rintro e w2 ⟨rfl,hr2,hf2⟩
   go_wp2_with fail
   go_ret
   rw [E1.out]
   exact ⟨p,_,rfl,hr2,(fun h=>by omega),(fun b hb=>Nat.lt_trans hb.2 hr2.lt),hp,(fun b hb=>hb.1),hf.step1 hf2 hp⟩
end Go.Proofs.YtnkdnbjmhoegkaaGreat
namespace Go.Proofs.YtnkdnbjmhoegkaaGreat
open Go.RowKit
/-! '.. {a}': the first field given -/
open Classical in
noncomputable def mkC {α β:Type} (C:Cod α) (D:Cod β) (f:α → β) (w:World) (v:Value) (r:Result Next):Result Next:=if h:∃ x,v = C.v x then .ok (.value (D.v (f h.choose))) w else r
@[simp] theorem mkC_at {α β:Type} (C:Cod α) (D:Cod β) (f:α → β) (w:World) (x:α) (r:Result Next):mkC C D f w (.agg (C.A x)) r = .ok (.value (.agg (D.A (f x)))) w:=by
 unfold mkC
 have h:∃ y,(Value.agg (C.A x)) = C.v y:=⟨x,rfl⟩
 rw [dif_pos h,← C.v_inj h.choose_spec]
theorem A_SS (x:St):codS.A x = #[.int .i64 x.T,.int .i64 x.R]:=Cod.A_eq codS x
theorem bldT_1 (w:World) (s:St):(Instr.build 63 #[(0,.agg (codS.A s))]).run Tryz.prog w = .ok (.agg (codT.A { zItW with Node:=s })) w:=by
 rw [Cod.A_eq codT,A_SS];go_simp;rfl
theorem bldH_1 (w:World) (s:St):(Instr.build 49 #[(0,.agg (codS.A s))]).run Tryz.prog w = .ok (.agg (codH.A { zHd with At:=s })) w:=by
 rw [Cod.A_eq codH,A_SS];go_simp;rfl
@[simp ↓] theorem ex_bldT_1 (ρ:Operand → Value) (x:Operand) (d:Option Nat) (t:TypeId) (p:String) (f:Array Edge) (g:Option (Nat × Bool)) (w:World) :
  (execOp ρ { dst:=d,op:=.build 63 #[(0,x)],type:=t,pos:=p,after:=f,guard:=g }).run Tryz.prog w = mkC codS codT (fun s=>{ zItW with Node:=s }) w (ρ x) (exElse ρ { dst:=d,op:=.build 63 #[(0,x)],type:=t,pos:=p,after:=f,guard:=g } w):=by
 have he:∀ o,exElse ρ o w = (execOp ρ o).run Tryz.prog w:=by intro o;unfold exElse;rfl
 rw [he]
 unfold mkC
 split
 ·rename_i hh
  have hv:=hh.choose_spec
  generalize hh.choose = s at hv
  refine ex_buildG 63 ρ _ #[(0,x)] w w _ rfl ?_
  have:=bldT_1 w s
  simpa [hv] using this
 ·rfl
@[simp ↓] theorem ex_bldH_1 (ρ:Operand → Value) (x:Operand) (d:Option Nat) (t:TypeId) (p:String) (f:Array Edge) (g:Option (Nat × Bool)) (w:World) :
  (execOp ρ { dst:=d,op:=.build 49 #[(0,x)],type:=t,pos:=p,after:=f,guard:=g }).run Tryz.prog w = mkC codS codH (fun s=>{ zHd with At:=s }) w (ρ x) (exElse ρ { dst:=d,op:=.build 49 #[(0,x)],type:=t,pos:=p,after:=f,guard:=g } w):=by
 have he:∀ o,exElse ρ o w = (execOp ρ o).run Tryz.prog w:=by intro o;unfold exElse;rfl
 rw [he]
 unfold mkC
 split
 ·rename_i hh
  have hv:=hh.choose_spec
  generalize hh.choose = s at hv
  refine ex_buildG 49 ρ _ #[(0,x)] w w _ rfl ?_
  have:=bldH_1 w s
  simpa [hv] using this
 ·rfl
/-! stores into parts -/
theorem dropApp (x y:ID) (l m:List Value) (n k:Nat) (hn:l.length = n) (hk:n + 32 = k):(l ++ (bv x.1 ++ m)).take n ++ bv y.1 ++ (l ++ (bv x.1 ++ m)).drop k = l ++ (bv y.1 ++ m):=by
 subst hn;subst hk
 rw [List.take_left,List.drop_append,List.drop_eq_nil_of_le (by omega),List.nil_append,Nat.add_sub_cancel_left,List.drop_left' (by rw [bv_length,x.2]),List.append_assoc]
theorem setApp (x:ID) (l m:List Value) (n i:Nat) (v:Value) (hn:l.length + 32 = n):(l ++ (bv x.1 ++ m)).set (n + i) v = l ++ (bv x.1 ++ m.set i v):=by
 subst hn
 rw [List.set_append_right _ _ (by omega),List.set_append_right _ _ (by rw [bv_length,x.2];omega),bv_length,x.2]
 congr 3
 omega
theorem stT_At {w:World} {b:Nat} {r:ItW} (h:codT.bxd w b = some r) (x:St):codS.stR w (.pointer (some ⟨b,2,none⟩)) (.agg (codS.A x)) = .ok .skip (codT.put w b { r with At:=x }):=okS.stR_part h x 2 _ (by decide) rfl
theorem seT_Name (r:ItW) (l:List UInt8):(codT.cs r).set 4 (.string (str l)) = codT.cs { r with Name:=l }:=rfl
theorem stT_Sub {w:World} {b:Nat} {r:ItW} (h:codT.bxd w b = some r) (x:ID):stI w (.pointer (some ⟨b,5,none⟩)) (encI x) = .ok .skip (codT.put w b { r with Sub:=x }):=Cod.stI_part h x 5 _ (by decide) (dropApp r.Sub x [.int .i64 r.Node.T,.int .i64 r.Node.R,.int .i64 r.At.T,.int .i64 r.At.R,.string (str r.Name)] [.slice r.A r.n r.c] 5 37 rfl rfl)
theorem seT_Heads (r:ItW) (A:Option Addr) (n c:Nat):(codT.cs r).set 37 (.slice A n c) = codT.cs { r with A:=A,n:=n,c:=c }:=setApp r.Sub [.int .i64 r.Node.T,.int .i64 r.Node.R,.int .i64 r.At.T,.int .i64 r.At.R,.string (str r.Name)] [.slice r.A r.n r.c] 37 0 (.slice A n c) rfl
theorem stH_Data {w:World} {b:Nat} {r:Hd} (h:codH.bxd w b = some r) (x:ID):stI w (.pointer (some ⟨b,2,none⟩)) (encI x) = .ok .skip (codH.put w b { r with Data:=x }):=Cod.stI_part h x 2 _ (by decide) (by
 have:=dropApp r.Data x [.int .i64 r.At.T,.int .i64 r.At.R] [] 2 34 rfl rfl
 rw [List.append_nil,List.append_nil] at this
 exact this)
theorem step_runI {P:Program} {w:World} {ops:Array Oper} {o:Oper} {a:Act} {K:Act → World → Prop} {Q:Exit → Act → World → Prop} {E:Prop} (hgd:o.guard = none) (v:Value) (w':World)
  (hr:(execOp a.eval o).run P w = .ok (.value v) w') (h:K (a.put o.dst v) w'):if Region.wanted o (yielded ops a.tmps) = true then Oper.wp P o a w K Q else E:=by
 have hw:Region.wanted o (yielded ops a.tmps) = true:=by simp [Region.wanted,hgd]
 rw [if_pos hw]
 unfold Oper.wp
 rw [hr]
 exact h
/-! contracts whose outcome is named -/
theorem oget_z (w:World) (p:Nat) (s:RS) (Q:Nat → Prop) (h:Rdr w p s Q) (hQw:∀ b,Q b → b < w.heap.size) (hlen:s.1.length ≤ 140737488355328) (x:St) (s':RS) (hh:rdSt s = (x,s')) :
  Calls Tryz.prog 91 #[.pointer (some ⟨p,0,none⟩)] w (RdrOf w p (.agg (codS.A x)) s' Q):=by
 have:=oget_any w p s Q h hQw hlen
 rw [hh] at this;exact this
theorem rid_z (w:World) (p:Nat) (s:RS) (Q:Nat → Prop) (h:Rdr w p s Q) (hQp:¬ Q p) (hQw:∀ b,Q b → b < w.heap.size) (hlen:s.1.length ≤ 140737488355328) (x:ID) (s':RS) (hh:rdId s = (x,s')) :
  Calls Tryz.prog 93 #[.pointer (some ⟨p,0,none⟩)] w (RdrOf w p (encI x) s' Q):=by
 have:=rid_any w p s Q h hQp hQw hlen
 rw [hh] at this;exact this
theorem rtext_z (w:World) (p:Nat) (s:RS) (Q:Nat → Prop) (h:Rdr w p s Q) (hQp:¬ Q p) (hlen:s.1.length ≤ 140737488355328) (most:Nat) (m:Int) (hme:(most:Int) = m) (hm:most ≤ 4611686018427387904) (x:List UInt8) (s':RS) (hh:rdText most s = (x,s')) :
  Calls Tryz.prog 92 #[.pointer (some ⟨p,0,none⟩),.int .i64 m] w (RdrOf w p (.string (str x)) s' Q):=by
 subst hme
 have:=rtext_any w p s Q h hQp hlen most hm
 rw [hh] at this;exact this
theorem rd_eq {α:Type} (f:RS → α × RS) (s:RS):∃ x s',f s = (x,s'):=⟨_,_,rfl⟩
/-! a reader, the result's variable, and one more -/
structure RB {α:Type} (C:Cod α) (M:Nat → Prop) (W w:World) (p R P:Nat) (s:RS) (Q:Nat → Prop) (z r:α):Prop where
 rd:Rdr w p s Q
 rs:C.bxd w R = some z
 bx:C.bxd w P = some r
 fr:Fr M W w
 mp:p < W.heap.size → M p
 RW:W.heap.size ≤ R
 PW:W.heap.size ≤ P
 ne1:R ≠ P
 ne2:p ≠ R
 ne3:p ≠ P
 q1:∀ b,Q b → b ≠ R ∧ b ≠ P
 qp:¬ Q p
section
variable {α:Type} {C:Cod α} {M:Nat → Prop} {W w:World} {p R P:Nat} {s:RS} {Q:Nat → Prop} {z r:α}
theorem RB.lt (h:RB C M W w p R P s Q z r):R < w.heap.size ∧ P < w.heap.size ∧ p < w.heap.size:=⟨Cod.bxd_lt h.rs,Cod.bxd_lt h.bx,h.rd.lt⟩
theorem RB.call {w':World} {s':RS} (h:RB C M W w p R P s Q z r) (hr:Rdr w' p s' Q) (f:Fr (oneB p) w w'):RB C M W w' p R P s' Q z r :=
 ⟨hr,Cod.bxd_fr h.rs f (fun e=>h.ne2 (by have:R = p:=e;exact this.symm)),Cod.bxd_fr h.bx f (fun e=>h.ne3 (by have:P = p:=e;exact this.symm)),
  h.fr.step f (fun b hb=>by
   have e:b = p:=hb
   subst e
   by_cases hw:b < W.heap.size
   ·exact .inr (h.mp hw)
   ·exact .inl (by omega)),h.mp,h.RW,h.PW,h.ne1,h.ne2,h.ne3,h.q1,h.qp⟩
theorem RB.new {w':World} (h:RB C M W w p R P s Q z r) (f:Fr noB w w'):RB C M W w' p R P s Q z r :=
 ⟨h.rd.fr f (by simp [noB]) (by simp [noB]),Cod.bxd_fr0 h.rs f,Cod.bxd_fr0 h.bx f,h.fr.step0 f,h.mp,h.RW,h.PW,h.ne1,h.ne2,h.ne3,h.q1,h.qp⟩
theorem RB.turn {w':World} {r':α} (h:RB C M W w p R P s Q z r) (f:Fr (oneB P) w w') (hb:C.bxd w' P = some r'):RB C M W w' p R P s Q z r' :=
 ⟨h.rd.fr f (fun e=>h.ne3 e) (fun b hb e=>(h.q1 b hb).2 e),Cod.bxd_fr h.rs f (fun e=>h.ne1 e),hb,h.fr.step1 f h.PW,h.mp,h.RW,h.PW,h.ne1,h.ne2,h.ne3,h.q1,h.qp⟩
theorem RB.put (h:RB C M W w p R P s Q z r) (r':α):RB C M W (C.put w P r') p R P s Q z r':=h.turn (Cod.put_fr h.bx r').1 (Cod.put_fr h.bx r').2.2
theorem RB.set (h:RB C M W w p R P s Q z r) (o:Nat) (v:Value) (r':α) (hs:(C.cs r).set o v = C.cs r'):RB C M W (w.setCell ⟨P,o,none⟩ v) p R P s Q z r':=h.turn (Cod.set_fr w P o v) (Cod.bxd_set h.bx o v r' hs)
theorem RB.res (h:RB C M W w p R P s Q z r) (z':α):RB C M W (C.put w R z') p R P s Q z' r:=by
 obtain ⟨f,_,hb⟩:=Cod.put_fr h.rs z'
 exact ⟨h.rd.fr f (fun e=>h.ne2 e) (fun b hb e=>(h.q1 b hb).1 e),hb,Cod.bxd_fr h.bx f (fun e=>h.ne1 (by have:P = R:=e;exact this.symm)),h.fr.step1 f h.RW,h.mp,h.RW,h.PW,h.ne1,h.ne2,h.ne3,h.q1,h.qp⟩
theorem own_box {base:Nat} {e:TypeId} {size n g:Nat} {v:Value} {xs cs:List Value} {t:TypeId} {w':World} (hb:Blk w g t cs) (h:w.ownsRow base e size v n xs) (hne:e ≠ t) (f:Fr (oneB g) w w'):w'.ownsRow base e size v n xs :=
 own_fr h f (fun g' hg' hM=>Blk.ne_own hb h hne g' hg' (by have:g' = g:=hM;exact this))
theorem own_new0 {base:Nat} {e:TypeId} {size n:Nat} {v:Value} {xs:List Value} {w':World} (h:w.ownsRow base e size v n xs) (f:Fr noB w w'):w'.ownsRow base e size v n xs :=
 own_fr h f (fun g' hg' hM=>by simp [noB] at hM)
theorem RB.own_call {base:Nat} {e:TypeId} {size n:Nat} {v:Value} {xs:List Value} {w':World} (h:RB C M W w p R P s Q z r) (ho:w.ownsRow base e size v n xs) (hne:e ≠ 148) (f:Fr (oneB p) w w'):w'.ownsRow base e size v n xs:=by
 obtain ⟨A,c,hb,_⟩:=h.rd
 exact own_box hb ho hne f
theorem RB.own_turn {base:Nat} {e:TypeId} {size n:Nat} {v:Value} {xs:List Value} {w':World} (h:RB C M W w p R P s Q z r) (ho:w.ownsRow base e size v n xs) (hne:e ≠ C.t) (f:Fr (oneB P) w w'):w'.ownsRow base e size v n xs :=
 own_box (Cod.bxd_blk h.bx) ho hne f
theorem RB.grow {e:TypeId} {size n c:Nat} {A:Option Addr} {xs:List Value} {w':World} (h:RB C M W w p R P s Q z r) (ho:w.ownsRow W.heap.size e size (.slice A n c) n xs) (h1:e ≠ 148) (h2:e ≠ C.t) (hq:∀ b,Q b → A.map (·.block) ≠ some b) (hg:w.grownBy w' (A.map (·.block))):RB C M W w' p R P s Q z r:=by
 have f:Fr (fun b=>A.map (·.block) = some b) w w':=Fr.ofGrown hg (fun g hg=>hg)
 have hob:(Value.slice A n c).ownBlock = A.map (·.block):=ownBlock_sl' A n c
 obtain ⟨Ar,cr,hb,_⟩:=id h.rd
 have np:A.map (·.block) ≠ some p:=fun e=>Blk.ne_own hb ho h1 p (by rw [hob];exact e) rfl
 have nP:A.map (·.block) ≠ some P:=fun e=>Blk.ne_own (Cod.bxd_blk h.bx) ho h2 P (by rw [hob];exact e) rfl
 have nR:A.map (·.block) ≠ some R:=fun e=>Blk.ne_own (Cod.bxd_blk h.rs) ho h2 R (by rw [hob];exact e) rfl
 exact ⟨h.rd.fr f np hq,Cod.bxd_fr h.rs f nR,Cod.bxd_fr h.bx f nP,h.fr.step f (fun b hb=>.inl (ho.lt b (by rw [hob];exact hb)).1),h.mp,h.RW,h.PW,h.ne1,h.ne2,h.ne3,h.q1,h.qp⟩
end
section
variable {α:Type} {C:Cod α} (H:CodOk Tryz.prog C)
include H
theorem ret_row {fn:Func} {p:Tmp} (h:fn.results = #[.cell p C.t]) (tmps:Array Value) (w:World) (R:Nat) (x:α) (hp:tmps.getD p undef = .pointer (some ⟨R,0,none⟩)) (hb:C.bxd w R = some x):(results fn tmps).run Tryz.prog w = .ok (.agg (C.A x)) w:=by
 obtain ⟨d,h1,h2⟩:=H.und
 have hh:=Cod.bxd_at hb
 rw [C.o_eq] at hh
 rw [C.A_eq]
 refine results_cell_row h tmps w R C.t _ _ d hp hh h1 ?_ (by rw [List.size_toArray,C.len];exact H.info)
 cases d <;> first | rfl | exact h2
end
end Go.Proofs.YtnkdnbjmhoegkaaGreat
namespace Go.Proofs.YtnkdnbjmhoegkaaGreat
open Go.RowKit
theorem rdTake_le (n:Nat) (s:RS):(rdTake n s).1.length ≤ n:=by
 unfold rdTake
 split
 ·exact Nat.zero_le _
 ·simp;omega
theorem rdText_le (most:Nat) (s:RS):(rdText most s).1.length ≤ most:=Nat.le_trans (rdTake_le _ _) (rdNum_bd most s).1
theorem rdAll_len {α:Type} {f:RS → α × RS} (hf:∀ s,(f s).2.1.length ≤ s.1.length):∀ (n:Nat) (s:RS),(rdAll f n s).1.length = n ∧ (rdAll f n s).2.1.length ≤ s.1.length
 | 0,s=>⟨rfl,Nat.le_refl _⟩
 | n + 1,s=>by
  have:=rdAll_len hf n (f s).2
  simp only [rdAll,List.length_cons]
  exact ⟨by rw [this.1],Nat.le_trans this.2 (hf s)⟩
end Go.Proofs.YtnkdnbjmhoegkaaGreat
namespace Go.Proofs.YtnkdnbjmhoegkaaGreat
open Go.RowKit
theorem RB.other {α:Type} {C:Cod α} {M:Nat → Prop} {W w w':World} {p R P H:Nat} {s:RS} {Q:Nat → Prop} {z r:α} (h:RB C M W w p R P s Q z r) (f:Fr (oneB H) w w') (hH:W.heap.size ≤ H) (n1:p ≠ H) (n2:R ≠ H) (n3:P ≠ H) (n4:∀ b,Q b → b ≠ H):RB C M W w' p R P s Q z r :=
 ⟨h.rd.fr f n1 n4,Cod.bxd_fr h.rs f n2,Cod.bxd_fr h.bx f n3,h.fr.step1 f hH,h.mp,h.RW,h.PW,h.ne1,h.ne2,h.ne3,h.q1,h.qp⟩
theorem own_lt {w:World} {base:Nat} {e:TypeId} {size n c:Nat} {A:Option Addr} {xs:List Value} (h:w.ownsRow base e size (.slice A n c) n xs) (g:Nat) (hg:A.map (·.block) = some g):base ≤ g ∧ g < w.heap.size:=by
 have:=h.lt g (by rw [ownBlock_sl'];exact hg)
 exact this
def GotT (w:World) (p:Nat) (s:RS) (Q:Nat → Prop) (e:Ending) (w':World):Prop :=
 ∃ r,e = .returned (.agg (codT.A r)) ∧ ItIn w' r (rdIt s).1 ∧ w'.ownsRow w.heap.size 49 34 (.slice r.A r.n r.c) r.n (codH.row (rdIt s).1.Heads) ∧ Rdr w' p (rdIt s).2 Q ∧ Fr (oneB p) w w'
theorem rdHd_len (s:RS):(rdHd s).2.1.length ≤ s.1.length:=Nat.le_trans (rdId_len _) (rdSt_len _)
theorem rdMany_len {α:Type} {f:RS → α × RS} (hf:∀ s,(f s).2.1.length ≤ s.1.length):∀ (n:Nat) (s:RS),(rdMany f n s).1.length ≤ n ∧ (rdMany f n s).2.1.length ≤ s.1.length
 | 0,s=>⟨Nat.le_refl _,Nat.le_refl _⟩
 | n + 1,s=>by
  have:=rdMany_len hf n (f s).2
  simp only [rdMany]
  split
  ·exact ⟨by simp,hf s⟩
  ·exact ⟨by simp only [List.length_cons];omega,Nat.le_trans this.2 (hf s)⟩
theorem rdMany_step {α:Type} (f:RS → α × RS) (n:Nat) (l:List α) (s s':RS) (x:α) (h:f s = (x,s')) (hb:s'.2 = false):(l ++ (rdMany f (n + 1) s).1,(rdMany f (n + 1) s).2) = ((l ++ [x]) ++ (rdMany f n s').1,(rdMany f n s').2):=by
 simp only [rdMany,h,hb,Bool.false_eq_true,if_false,List.append_assoc,List.singleton_append]
theorem rdMany_stop {α:Type} (f:RS → α × RS) (n:Nat) (l:List α) (s s':RS) (x:α) (h:f s = (x,s')) (hb:s'.2 = true):(l ++ (rdMany f (n + 1) s).1,(rdMany f (n + 1) s).2) = (l ++ [x],s'):=by
 simp only [rdMany,h,hb,if_true]
def GtR (M:Nat → Prop) (W:World) (p R P n mx:Nat) (Q:Nat → Prop) (z r:ItW) (tot:List Hd × RS) (gk:Nat) (iv:Value) (wr:World):Prop :=
 ∃ (k:Nat) (l:List Hd) (s:RS) (A:Option Addr) (c:Nat),iv = .int .i64 (k:Int) ∧ gk = n - k ∧ k ≤ n ∧ l.length = k ∧ s.1.length ≤ mx ∧ RB codT M W wr p R P s Q z { r with A:=A,n:=l.length,c:=c } ∧ OwnC codH W wr A c l ∧ tot = (l ++ (rdMany rdHd (n - k) s).1,(rdMany rdHd (n - k) s).2)
set_option maxRecDepth 100000 in
set_option maxHeartbeats 8000000 in
theorem getT_any (w:World) (p:Nat) (s:RS) (Q:Nat → Prop) (h:Rdr w p s Q) (hQw:∀ b,Q b → b < w.heap.size) (hQp:¬ Q p) (hlen:s.1.length ≤ 140737488355328) :
  Calls Tryz.prog 58 #[.pointer (some ⟨p,0,none⟩)] w (GotT w p s Q):=by
 have lp:=h.lt
 obtain ⟨nd,s1,e1⟩:=rd_eq rdSt s
 have b1:=rdSt_len s
 rw [e1] at b1
 obtain ⟨a,s2,e2⟩:=rd_eq rdSt s1
 have b2:=rdSt_len s1
 rw [e2] at b2
 obtain ⟨nm,s3,e3⟩:=rd_eq (rdText 60) s2
 have b3:=rdText_len 60 s2
 have c3:=rdText_le 60 s2
 rw [e3] at b3 c3
 obtain ⟨sb,s4,e4⟩:=rd_eq rdId s3
 have b4:=rdId_len s3
 rw [e4] at b4
 obtain ⟨n,s5,e5⟩:=rd_eq (rdNum 1000) s4
 have b5:=rdNum_bd 1000 s4
 rw [e5] at b5
 simp only at b1 b2 b3 b4 b5 c3
 have m1:s1.1.length ≤ 140737488355328:=by omega
 have m2:s2.1.length ≤ 140737488355328:=by omega
 have m3:s3.1.length ≤ 140737488355328:=by omega
 have m4:s4.1.length ≤ 140737488355328:=by omega
 have m5:s5.1.length ≤ 140737488355328:=by omega
 have n64:n ≤ 1000:=b5.1
 obtain ⟨tot,htot⟩:∃ tot,tot = rdMany rdHd n s5:=⟨_,rfl⟩
 have hIt:rdIt s = (⟨nd,a,nm,sb,tot.1⟩,tot.2):=by
  unfold rdIt
  rw [e1]
  dsimp only
  rw [e2]
  dsimp only
  rw [e3]
  dsimp only
  rw [e4]
  dsimp only
  rw [e5]
  dsimp only
  rw [htot]
 have HI:=Lib.hid hIt
 have HT:=Lib.hid htot
 have C3:=Lib.hid c3
 have f0:Fr noB w (w.alloc (codT.o zItW)):=(Fr.refl noB w).alloc _
 have h0:Rdr (w.alloc (codT.o zItW)) p s Q:=h.fr f0 (by simp [noB]) (fun _ _=>by simp [noB])
 have q0:codT.bxd (w.alloc (codT.o zItW)) w.heap.size = some zItW:=Cod.bxd_new _ _
 have E1:=Lib.hid e1
 have E2:=Lib.hid e2
 have E3:=Lib.hid e3
 have E4:=Lib.hid e4
 have E5:=Lib.hid e5
 clear e1 e2 e3 e4 e5 b1 b2 b3 b4 b5 c3 h hIt htot
 go_enter Tryz.func58,Tryz.ntmps58
 go_upto_region 1 with fail
 generalize w.alloc (codT.o zItW) = w0 at f0 q0 h0 ⊢
 have hRp:p ≠ w.heap.size:=by omega
 have hQR:∀ b,Q b → b ≠ w.heap.size:=fun b hb=>by have:=hQw b hb;omega
 generalize hRe:w.heap.size = R at q0 hRp hQR ⊢
 have hRw:w.heap.size ≤ R:=by omega
 have hQ0:∀ b,Q b → b < w0.heap.size:=fun b h=>Nat.lt_of_lt_of_le (hQw b h) f0.size
 go_wp2_with fail
 go_at_call 91
 refine (oget_z w0 p s Q h0 hQ0 hlen nd s1 E1.out).mono ?_
 rintro e w1 ⟨rfl,hr1,hf1⟩
 have q1:=Cod.bxd_fr q0 hf1 (fun e=>hRp (by have:R = p:=e;exact this.symm))
 have fn:Fr noB w1 (w1.alloc (codT.o { zItW with Node:=nd })):=(Fr.refl noB w1).alloc _
 have hb:RB codT (oneB p) w (w1.alloc (codT.o { zItW with Node:=nd })) p R w1.heap.size s1 Q zItW { zItW with Node:=nd } :=
  ⟨hr1.fr fn (by simp [noB]) (by simp [noB]),Cod.bxd_fr0 q1 fn,Cod.bxd_new _ _,((f0.any.trans hf1 (fun b _ h=>h)).step0 fn),fun _=>rfl,hRw,Nat.le_trans f0.size hf1.size,
   by have:=Cod.bxd_lt q1;omega,hRp,by have:=hr1.lt;omega,fun b hb=>⟨hQR b hb,by have:=hQ0 b hb;have:=hf1.size;omega⟩,hQp⟩
 clear hr1 hf1 q0 q1 f0 h0 hRp hQR hRw
 go_upto_region 2 with fail
 generalize w1.alloc (codT.o { zItW with Node:=nd }) = W at hb fn ⊢
 generalize w1.heap.size = P at hb ⊢
 clear fn
 go_upto_region 3 with (go_at_call 91;refine (oget_z _ p _ Q hb.rd (fun b h=>Nat.lt_of_lt_of_le (hQw b h) hb.fr.size) m1 _ _ E2.out).mono ?_;rintro e wz ⟨rfl,hr,hf⟩;replace hb:=hb.call hr hf;have hst:=stT_At hb.bx a;replace hb:=hb.put { zItW with Node:=nd,At:=a };clear hr hf)
 clear hst
 generalize codT.put wz P _ = W at hb ⊢
 have k3:=(itAt (Cod.bxd_rd hb.bx)).name
 have k4:=(Cod.bxd_blk hb.bx).frozen 4
 go_upto_region 4 with (go_at_call 92;refine (rtext_z _ p _ Q hb.rd hQp m2 60 60 rfl (by decide) _ _ E3.out).mono ?_;rintro e wz ⟨rfl,hr,hf⟩;replace hb:=hb.call hr hf;have k3:=(itAt (Cod.bxd_rd hb.bx)).name;have k4:=(Cod.bxd_blk hb.bx).frozen 4)
 replace hb:=hb.set 4 (.string (str nm)) { zItW with Node:=nd,At:=a,Name:=nm } (seT_Name _ nm)
 clear k3 k4
 generalize World.setCell _ _ _ = W at hb ⊢
 go_upto_region 5 with (go_at_call 93;refine (rid_z _ p _ Q hb.rd hQp (fun b h=>Nat.lt_of_lt_of_le (hQw b h) hb.fr.size) m3 _ _ E4.out).mono ?_;rintro e wz ⟨rfl,hr,hf⟩;replace hb:=hb.call hr hf;have hst:=stT_Sub hb.bx sb;replace hb:=hb.put { zItW with Node:=nd,At:=a,Name:=nm,Sub:=sb };clear hr hf)
 clear hst
 generalize hr0:({ zItW with Node:=nd,At:=a,Name:=nm,Sub:=sb }:ItW) = r0 at hb ⊢
 have R0:=Lib.hid hr0.symm
 clear hr0
 generalize codT.put _ P r0 = W at hb ⊢
 go_wp2_with (go_at_call 57;refine (num_z _ p _ Q 1000 1000 rfl (by decide) hb.rd m4 n s5 E5.out).mono ?_;rintro e wz ⟨rfl,hr,hf⟩;replace hb:=hb.call hr hf;clear hr hf)
 go_loopg [19] n (fun gk iv wr=>GtR (oneB p) w p R P n 140737488355328 Q zItW r0 tot gk iv wr)
 case atStart=>exact ⟨0,[],s5,none,0,rfl,by omega,by omega,rfl,m5,by
  have e:({ r0 with A:=none,n:=([]:List Hd).length,c:=0 }:ItW) = r0:=by rw [R0.out];rfl
  rw [e];exact hb,World.ownsRow_nil _ _ _ _,by rw [HT.out];simp⟩
 case round =>
  obtain ⟨k,l,sk,A,c,rfl,rfl,hk,hl,hmx,hb,ho,htot⟩:=hrel
  by_cases hlt:k < n
  ·have i1:(k:Int) < (n:Int):=by omega
   obtain ⟨xa,sa,ea⟩:=rd_eq rdSt sk
   have ba:=rdSt_len sk
   rw [ea] at ba
   obtain ⟨xd,sn,ed⟩:=rd_eq rdId sa
   have bd:=rdId_len sa
   rw [ed] at bd
   simp only at ba bd
   have hma:sa.1.length ≤ 140737488355328:=Nat.le_trans ba hmx
   have hmn:sn.1.length ≤ 140737488355328:=Nat.le_trans bd hma
   obtain ⟨x,hx⟩:∃ x:Hd,x = { zHd with At:=xa,Data:=xd }:=⟨_,rfl⟩
   have ex:rdHd sk = (x,sn):=by
    unfold rdHd
    rw [ea]
    dsimp only
    rw [ed,hx]
   have EA:=Lib.hid ea
   have ED:=Lib.hid ed
   have EX:=Lib.hid ex
   have HT2:=Lib.hid htot
   have HL:=Lib.hid hl
   have HX:=Lib.hid hx
   clear ex htot hl ea ed ba bd hx
   go_upto_region 8 with (go_at_call 91;refine (oget_z _ p _ Q hb.rd (fun b h=>Nat.lt_of_lt_of_le (hQw b h) hb.fr.size) hmx _ _ EA.out).mono ?_;rintro e wz ⟨rfl,hr,hf⟩;replace ho:=hb.own_call ho (by decide) hf;replace hb:=hb.call hr hf;clear hr hf)
   have fn:Fr noB wz (wz.alloc (codH.o { zHd with At:=xa })):=(Fr.refl noB wz).alloc _
   have hH:codH.bxd (wz.alloc (codH.o { zHd with At:=xa })) wz.heap.size = some { zHd with At:=xa }:=Cod.bxd_new _ _
   have nA:∀ g,A.map (·.block) = some g → g ≠ wz.heap.size:=fun g hg=>by have:=(own_lt ho g hg).2;omega
   have n1:p ≠ wz.heap.size:=by have:=hb.rd.lt;omega
   have n2:R ≠ wz.heap.size:=by have:=Cod.bxd_lt hb.rs;omega
   have n3:P ≠ wz.heap.size:=by have:=Cod.bxd_lt hb.bx;omega
   have n4:∀ b,Q b → b ≠ wz.heap.size:=fun b hb'=>by have:=hQw b hb';have:=hb.fr.size;omega
   have n5:w.heap.size ≤ wz.heap.size:=hb.fr.size
   replace hb:=hb.new fn
   replace ho:=own_new0 ho fn
   clear fn
   generalize wz.alloc (codH.o { zHd with At:=xa }) = W1 at hb ho hH ⊢
   generalize wz.heap.size = H at nA n1 n2 n3 n4 n5 hH ⊢
   go_upto_region 9 with (go_at_call 93;refine (rid_z _ p _ Q hb.rd hQp (fun b h=>Nat.lt_of_lt_of_le (hQw b h) hb.fr.size) hma _ _ ED.out).mono ?_;rintro e wz ⟨rfl,hr,hf⟩;replace ho:=hb.own_call ho (by decide) hf;replace hb:=hb.call hr hf;replace hH:=Cod.bxd_fr hH hf (fun e=>n1 (by have:H = p:=e;exact this.symm));have hst:=stH_Data hH xd;clear hr hf)
   clear hst
   obtain ⟨g1,g2,g3⟩:=Cod.put_fr hH { zHd with At:=xa,Data:=xd }
   replace hb:=hb.other g1 n5 n1 n2 n3 n4
   replace ho:=own_fr ho g1 (fun g hg e=>nA g (by rw [ownBlock_sl'] at hg;exact hg) e)
   clear g1 g2 hH
   have hHx:=HX.out
   rw [show ({ zHd with At:=xa,Data:=xd }:Hd) = x from hHx.symm] at hb ho g3 ⊢
   clear hHx
   generalize codH.put _ H x = W2 at hb ho g3 ⊢
   have kH:=Cod.bxd_rd g3
   have k37:=(itAt (Cod.bxd_rd hb.bx)).heads
   have fn:Fr noB W2 (W2.alloc (codH.ro [x])):=(Fr.refl noB W2).alloc _
   have sl:=Cod.sl_new (C:=codH) W2 [x]
   replace hb:=hb.new fn
   replace ho:=own_new0 ho fn
   clear fn g3
   have HLT:=Lib.hid hlt
   have hqA:∀ b,Q b → A.map (·.block) ≠ some b:=fun b hb' e=>by
    have h1:=(own_lt ho b e).1
    have h2:=hQw b hb'
    omega
   clear hlt
   go_upto_region 10 with (at_builtin;refine wpList_appC' etH w _ rfl _ _ rfl A l.length c l rfl rfl ho (some ⟨W2.heap.size,0,none⟩) 1 1 [x] rfl sl rfl (by have:=HL.out;have:=HLT.out;simp;omega) hb.fr.size ?_;intro A5 c5 w5 hc5 hm5 ho5 hg5 hA5;replace hb:=hb.grow ho (by decide) (by decide) hqA hg5;obtain ⟨l',hl'⟩:∃ l',l' = l ++ [x]:=⟨_,rfl⟩;rw [← hl'] at ho5 ⊢;have HL':=Lib.hid hl';clear hl';have k38:=(itAt (Cod.bxd_rd hb.bx)).heads;have k39:=(Cod.bxd_blk hb.bx).frozen 37)
   have ho6:=hb.own_turn ho5 (by decide) (Cod.set_fr w5 P 37 (.slice A5 l'.length c5))
   replace hb:=hb.set 37 (.slice A5 l'.length c5) _ (seT_Heads _ A5 _ c5)
   clear k37 k38 k39 kH sl ho hg5 ho5 hA5
   generalize World.setCell _ _ _ = W3 at hb ho6 ⊢
   have hll:l'.length = k + 1:=by rw [HL'.out];simp [HL.out]
   have hlt:=HLT.out
   by_cases hgb:sn.2 = true
   ·have HR:=Lib.hid (show rdIt s = (⟨nd,a,nm,sb,l'⟩,sn) by
     rw [HI.out,HT2.out,show n - k = n - (k + 1) + 1 by omega,rdMany_stop _ _ _ _ _ _ EX.out hgb,HL'.out])
    obtain ⟨rF,hrF⟩:∃ rF:ItW,rF = { r0 with A:=A5,n:=l'.length,c:=c5 }:=⟨_,rfl⟩
    have hin:ItIn W3 rF ⟨nd,a,nm,sb,l'⟩:=by
     rw [hrF,R0.out]
     exact ⟨rfl,rfl,Sl.own ho6,by simp only;omega,by have:=C3.out;simp only;omega⟩
    have hown:(W3).ownsRow w.heap.size 49 34 (.slice rF.A rF.n rF.c) rF.n (codH.row l'):=by
     rw [hrF]
     exact ho6
    have hbF:=hb
    rw [← hrF] at hbF
    have k5:=Cod.bxd_rd hbF.bx
    have hrs2:=okT.stR_box hbF.rs rF
    simp only [Cod.v] at hrs2
    clear hrF hll
    go_wp2_with (go_at_call 59;refine (good_any _ p _ Q hb.rd).mono ?_;rintro e wz ⟨rfl,rfl⟩;rw [hgb])
    have hbz:=hbF.res rF
    have ffr:=(Cod.put_fr hbF.rs rF).1
    refine bodyPost_ret (ret_row okT rfl _ _ R rF (by rfl) hbz.rs) rfl ?_
    refine ⟨rF,rfl,?_,?_,?_,hbz.fr⟩
    ·rw [HR.out]
     exact ⟨hin.eq,hin.len,Sl.own (own_box (Cod.bxd_blk hbF.rs) hown (by decide) ffr),hin.bd,hin.nm⟩
    ·rw [HR.out]
     exact own_box (Cod.bxd_blk hbF.rs) hown (by decide) ffr
    ·rw [HR.out]
     exact hbz.rd
   ·have hgb':sn.2 = false:=by simpa using hgb
    go_wp2_with (go_at_call 59;refine (good_any _ p _ Q hb.rd).mono ?_;rintro e wz ⟨rfl,rfl⟩;rw [hgb'])
    go_roundg (n - (k + 1))
    case measure=>omega
    case rel =>
     exact ⟨k + 1,l',sn,A5,c5,by simp,rfl,by omega,hll,hmn,hb,ho6,by
      rw [HT2.out,show n - k = n - (k + 1) + 1 by omega,rdMany_step _ _ _ _ _ _ EX.out hgb',HL'.out]⟩
  ·have hkn:k = n:=by omega
   subst hkn
   have i1:¬ (k:Int) < (k:Int):=by omega
   rw [Nat.sub_self] at htot
   simp only [rdMany,List.append_nil] at htot
   have HR:=Lib.hid (show rdIt s = (⟨nd,a,nm,sb,l⟩,sk) by rw [HI.out,htot])
   have hll:l.length ≤ 1000:=by omega
   clear hl htot
   obtain ⟨rF,hrF⟩:∃ rF:ItW,rF = { r0 with A:=A,n:=l.length,c:=c }:=⟨_,rfl⟩
   have hin:ItIn wr rF ⟨nd,a,nm,sb,l⟩:=by
    rw [hrF,R0.out]
    exact ⟨rfl,rfl,Sl.own ho,by simp only;omega,by have:=C3.out;simp only;omega⟩
   have hown:(wr).ownsRow w.heap.size 49 34 (.slice rF.A rF.n rF.c) rF.n (codH.row l):=by
    rw [hrF]
    exact ho
   have hbF:=hb
   rw [← hrF] at hbF
   have k5:=Cod.bxd_rd hbF.bx
   have hrs2:=okT.stR_box hbF.rs rF
   simp only [Cod.v] at hrs2
   clear hrF hll
   go_wp2_with fail
   have hbz:=hbF.res rF
   have ffr:=(Cod.put_fr hbF.rs rF).1
   refine bodyPost_ret (ret_row okT rfl _ _ R rF (by rfl) hbz.rs) rfl ?_
   refine ⟨rF,rfl,?_,?_,?_,hbz.fr⟩
   ·rw [HR.out]
    exact ⟨hin.eq,hin.len,Sl.own (own_box (Cod.bxd_blk hbF.rs) hown (by decide) ffr),hin.bd,hin.nm⟩
   ·rw [HR.out]
    exact own_box (Cod.bxd_blk hbF.rs) hown (by decide) ffr
   ·rw [HR.out]
    exact hbz.rd
end Go.Proofs.YtnkdnbjmhoegkaaGreat
