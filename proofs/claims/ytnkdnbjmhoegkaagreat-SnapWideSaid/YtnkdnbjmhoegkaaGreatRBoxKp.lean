/- Contracts: stamp.put, obj.at. Contracts: obj.open. Variables that a reader's function fills: stores into parts of a value; the state of a reader with two such variables. -/
import Derived.Test.YtnkdnbjmhoegkaaGreatQFrKp
import Derived.Test.YtnkdnbjmhoegkaaGreatRdrIdKp
import Derived.Test.YtnkdnbjmhoegkaaGreatRightCKp
import Derived.Laws.ResultCell
set_option linter.unusedVariables false
set_option linter.unusedSimpArgs false
namespace Go.Proofs.YtnkdnbjmhoegkaaGreat
open Go.RowKit
structure StAt (w:World) (b:Nat) (s:St):Prop where
 T:w.cell? ⟨b,0,none⟩ = some (.int .i64 s.T)
 R:w.cell? ⟨b,1,none⟩ = some (.int .i64 s.R)
 self:codS.rd w b 0 = some s
theorem stAt {w:World} {b:Nat} {r:St} (h:codS.rd w b 0 = some r):StAt w b r:=by
 have e (k:Nat) {v:Value} (hv:(codS.cs r)[k]? = some v):=by simpa using Cod.rd_cell h k hv
 exact ⟨e 0 rfl,e 1 rfl,h⟩
theorem StAt.fr {w w':World} {b:Nat} {r:St} (h:StAt w b r) (f:Fr noB w w'):StAt w' b r:=stAt (Cod.rd_fr0 h.self f)
def okSt (s:St):Prop:=0 ≤ s.T ∧ s.T ≤ 4611686018427387904 ∧ 0 ≤ s.R ∧ s.R ≤ 4611686018427387904
theorem stB_len {s:St} (h:okSt s):(stB s).length ≤ 20:=by
 obtain ⟨h1,h2,h3,h4⟩:=h
 unfold stB
 rw [List.length_append]
 have h1:=numB_length s.T.toNat (by omega)
 have h2:=numB_length s.R.toNat (by omega)
 omega
theorem okSt_of {s:St} (hr:rightS s = true):okSt s:=by
 simp only [rightS,Bool.and_eq_true,decide_eq_true_eq] at hr
 exact ⟨by omega,by omega,by omega,by omega⟩
theorem enum_z (w:World) (A:Option Addr) (c:Nat) (l:List UInt8) (k:Nat) (hk:l.length = k) (hs:Sl w A (bv l)) (hl:l.length ≤ 140737488355000) (z:Int) (n:Nat) (hz:(n:Int) = z) (hn:n ≤ 4611686018427387904) :
  Calls Tryz.prog 50 #[.slice A k c,.int .i64 z] w (NewBytes w (l ++ numB n)):=by subst hz;exact enum_n w A c l k hk hs hl n hn
theorem NewBytes.sl {w w':World} {l:List UInt8} {A:Option Addr} {c:Nat} (h:w'.ownsRow w.heap.size 5 1 (.slice A l.length c) l.length (bv l)):Sl w' A (bv l):=Sl.own h
set_option maxRecDepth 100000 in
set_option maxHeartbeats 2000000 in
theorem oat_any (w:World) (A:Option Addr) (c n:Nat) (l:List UInt8) (hn:l.length = n) (hs:Sl w A (bv l)) (hb:l.length ≤ 140737488354000) (s:St) (hok:okSt s) :
  Calls Tryz.prog 53 #[.slice A n c,.agg (codS.A s)] w (NewBytes w (l ++ stB s)):=by
 subst hn
 have f0:Fr noB w (w.alloc (.cells (codS.A s) 24)):=(Fr.refl noB w).alloc _
 have q0:StAt (w.alloc (.cells (codS.A s) 24)) w.heap.size s:=stAt (Cod.rd_new w 24 s)
 have hs0:=hs.fr0 f0
 go_enter Tryz.func53,Tryz.ntmps53
 go_upto_region 1 with fail
 generalize w.alloc (.cells (codS.A s) 24) = w0 at f0 q0 hs0 ⊢
 generalize hP:w.heap.size = P at q0 ⊢
 have fd:=(Fr.refl noB w0).drew
 have qd:=q0.fr fd
 have keep:∀ w' w'':World,Fr noB w' w'' → (w'.cell? ⟨P,0,none⟩ = some (.int .i64 s.T) ∧ w'.cell? ⟨P,1,none⟩ = some (.int .i64 s.R)) → (w''.cell? ⟨P,0,none⟩ = some (.int .i64 s.T) ∧ w''.cell? ⟨P,1,none⟩ = some (.int .i64 s.R)):=fun w' w'' f h=>⟨cell_fr0 h.1 f,cell_fr0 h.2 f⟩
 obtain ⟨o1,o2,o3,o4⟩:=hok
 have p1:((s.T.toNat:Nat):Int) = s.T:=by omega
 have p2:s.T.toNat ≤ 4611686018427387904:=by omega
 have p3:((s.R.toNat:Nat):Int) = s.R:=by omega
 have p4:s.R.toNat ≤ 4611686018427387904:=by omega
 have hl1:=numB_length s.T.toNat p2
 have p5:(l ++ numB s.T.toNat).length ≤ 140737488355000:=by rw [List.length_append];omega
 have p6:l.length ≤ 140737488355000:=by omega
 have P1:=Lib.hid p1
 have P3:=Lib.hid p3
 clear p1 p3
 go_wp2_with fail
 refine wp_region_M 7 8 [⟨32,1,0⟩,⟨64,8,0⟩,⟨128,64,2⟩,⟨256,160,5⟩,⟨512,8,0⟩,⟨1024,512,16⟩,⟨2048,1280,40⟩,⟨16,2048,127⟩] [(true,0),(true,1),(true,2),(true,4),(true,5),(false,3),(false,6)] (fun w'=>w'.cell? ⟨P,0,none⟩ = some (.int .i64 s.T) ∧ w'.cell? ⟨P,1,none⟩ = some (.int .i64 s.R)) (by kernel_rfl) rfl (by kernel_rfl) (by kernel_rfl) (by kernel_rfl) ⟨qd.T,qd.R⟩ (fun hA hF=>?_)
 iterate 5
  refine wpAnyS_take (v:=?_) hA rfl (fun _ _ _ h=>h) (Or.inl ⟨by rfl,?_⟩) hF (fun hA=>?_)
  rotate_left
  ·intro wS hSw;(try dsimp only at hSw);obtain ⟨s1,s2⟩:=hSw;first | (apply Eq.trans;apply ex_ld_id;exact rfl;exact rfl;assumption;with_reducible rfl) | (go_simp;try with_reducible rfl)
  try simp only [sA1,sA2,sA3,Act.put,sA4,sA5,sA6]
 refine wpAnyS_one hA rfl (fun K' hK=>?_)
 go_simp
 go_at_call 50
 refine (enum_z w0.drew A c l _ rfl (hs0.fr0 fd) p6 s.T s.T.toNat P1.out p2).mono ?_
 rintro e w1 ⟨A1,c1,rfl,ho1,hf1⟩
 obtain ⟨l1,hl1e⟩:∃ l1,l1 = l ++ numB s.T.toNat:=⟨_,rfl⟩
 rw [← hl1e] at ho1 p5 ⊢
 have HL:=Lib.hid hl1e
 clear hl1e
 replace hF:=keep _ _ hf1 hF
 refine hK.out _ _ hF (fun hA=>?_)
 clear hK K'
 as_aux_lemma =>
 refine wpAnyS_one hA rfl (fun K' hK=>?_)
 go_simp
 go_at_call 50
 refine (enum_z w1 A1 c1 l1 l1.length rfl (Sl.own ho1) p5 s.R s.R.toNat P3.out p4).mono ?_
 rintro e w2 ⟨A2,c2,rfl,ho2,hf2⟩
 replace hF:=keep _ _ hf2 hF
 refine hK.out _ _ hF (fun hA=>?_)
 clear hK K'
 as_aux_lemma =>
 refine wpAnyS_end hA rfl ?_
 simp only [List.drop_succ_cons,List.drop_zero]
 clear hF
 go_wp2_with fail
 go_ret
 have hbs:w.heap.size ≤ w1.heap.size:=Nat.le_trans (Nat.le_trans f0.size fd.size) hf1.size
 have e:l1 ++ numB s.R.toNat = l ++ stB s:=by rw [HL.out];unfold stB;rw [List.append_assoc]
 rw [e] at ho2 ⊢
 exact ⟨A2,c2,rfl,own_base ho2 hbs,((f0.step0 fd).step0 hf1).step0 hf2⟩
end Go.Proofs.YtnkdnbjmhoegkaaGreat
namespace Go.Proofs.YtnkdnbjmhoegkaaGreat
open Go.RowKit
def OpenTo (w:World) (s:RS) (e:Ending) (w':World):Prop:=∃ p Q,e = .returned (.pointer (some ⟨p,0,none⟩)) ∧ Rdr w' p s Q ∧ ¬ Q p ∧ (∀ b,Q b → b < w'.heap.size) ∧ w.heap.size ≤ p ∧ (∀ b,Q b → w.heap.size ≤ b) ∧ Fr noB w w'
set_option maxRecDepth 100000 in
theorem open_any (w:World) (A:Option Addr) (c n:Nat) (l:List UInt8) (hn:l.length = n) (hs:Sl w A (bv l)) (hc:l.length ≤ c) (hb:l.length ≤ 140737488355328) (k:UInt8) :
  Calls Tryz.prog 56 #[.slice A n c,.int .u8 (k.toNat:Int)] w (OpenTo w (openR l k)):=by
 subst hn
 cases l with
 | nil =>
  go_enter Tryz.func56,Tryz.ntmps56
  go_wp2_with fail
  go_at_call 88
  refine (read_any w none 0 [] (Sl.nil _ _) (by simp)).mono ?_
  rintro e w1 ⟨p,rfl,hp,hr,hf⟩
  go_wp2_with fail
  go_at_call 89
  refine (fail_any w1 p _ _ hr).mono ?_
  rintro e w2 ⟨rfl,hr2,hf2⟩
  go_wp2_with fail
  go_ret
  exact ⟨p,_,rfl,hr2,(fun h=>by omega),(fun b hb=>Nat.lt_trans hb.2 hr2.lt),hp,(fun b hb=>hb.1),hf.step1 hf2 hp⟩
 | cons b t =>
  obtain ⟨g,off,rfl,hg,hcell⟩:=hs (by simp [bv_cons])
  have hc0:w.cell? ⟨g,off,none⟩ = some (.int .u8 (b.toNat:Int)):=hcell 0 _ (bv_get (b :: t) 0 (by simp))
  have i0:(((t.length + 1:Nat):Int) == 0) = false:=by rw [beq_eq_false_iff_ne];omega
  have i0':(((t.length:Int) + 1) == 0) = false:=by rw [beq_eq_false_iff_ne];omega
  have i1:(0:Int) < ((t.length + 1:Nat):Int):=by omega
  have i1':(0:Int) < (t.length:Int) + 1:=by omega
  have i2:(1:Int) ≤ (t.length:Int) + 1:=by omega
  have hcut:=hs.cutB (k:=1) (c:=c) hc
  simp only [List.length_cons] at hb hc ⊢
  by_cases hbk:b = k
  ·subst hbk
   have e1:openR (b :: t) b = (t,false):=by simp [openR]
   have E1:=Lib.hid e1
   have e2:((b.toNat:Int) != (b.toNat:Int)) = false:=by simp
   clear hs hcell e1
   go_enter Tryz.func56,Tryz.ntmps56
   go_wp2_with fail
   go_at_call 88
   refine (read_n w _ _ t _ (by simp) hcut (by omega)).mono ?_
   rintro e w1 ⟨p,rfl,hp,hr,hf⟩
   go_wp2_with fail
   go_ret
   rw [E1.out]
   exact ⟨p,_,rfl,hr,(fun h=>by omega),(fun b hb=>Nat.lt_trans hb.2 hr.lt),hp,(fun b hb=>hb.1),hf⟩
  ·have e1:openR (b :: t) k = ([],true):=by simp [openR,hbk]
   have E1:=Lib.hid e1
   have e2:((b.toNat:Int) != (k.toNat:Int)) = true:=by
    rw [bne_iff_ne]
    intro h
    exact hbk (UInt8.toNat_inj.1 (by omega))
   clear hs hcell e1 hcut
   go_enter Tryz.func56,Tryz.ntmps56
   go_wp2_with fail
   go_at_call 88
   refine (read_any w none 0 [] (Sl.nil _ _) (by simp)).mono ?_
   rintro e w1 ⟨p,rfl,hp,hr,hf⟩
   go_wp2_with fail
   go_at_call 89
   refine (fail_any w1 p _ _ hr).mono ?_
   rintro e w2 ⟨rfl,hr2,hf2⟩
   go_wp2_with fail
   go_ret
   rw [E1.out]
   exact ⟨p,_,rfl,hr2,(fun h=>by omega),(fun b hb=>Nat.lt_trans hb.2 hr2.lt),hp,(fun b hb=>hb.1),hf.step1 hf2 hp⟩
end Go.Proofs.YtnkdnbjmhoegkaaGreat
namespace Go.Proofs.YtnkdnbjmhoegkaaGreat
open Go.RowKit
/-! '.. {a}': the first field given -/
open Classical in
noncomputable def mkC {α β:Type} (C:Cod α) (D:Cod β) (f:α → β) (w:World) (v:Value) (r:Result Next):Result Next:=if h:∃ x,v = C.v x then .ok (.value (D.v (f h.choose))) w else r
@[simp] theorem mkC_at {α β:Type} (C:Cod α) (D:Cod β) (f:α → β) (w:World) (x:α) (r:Result Next):mkC C D f w (.agg (C.A x)) r = .ok (.value (.agg (D.A (f x)))) w:=by
 unfold mkC
 have h:∃ y,(Value.agg (C.A x)) = C.v y:=⟨x,rfl⟩
 rw [dif_pos h,← C.v_inj h.choose_spec]
theorem A_SS (x:St):codS.A x = #[.int .i64 x.T,.int .i64 x.R]:=Cod.A_eq codS x
theorem bldT_1 (w:World) (s:St):(Instr.build 63 #[(0,.agg (codS.A s))]).run Tryz.prog w = .ok (.agg (codT.A { zItW with Node:=s })) w:=by
 rw [Cod.A_eq codT,A_SS];go_simp;rfl
theorem bldH_1 (w:World) (s:St):(Instr.build 49 #[(0,.agg (codS.A s))]).run Tryz.prog w = .ok (.agg (codH.A { zHd with At:=s })) w:=by
 rw [Cod.A_eq codH,A_SS];go_simp;rfl
@[simp ↓] theorem ex_bldT_1 (ρ:Operand → Value) (x:Operand) (d:Option Nat) (t:TypeId) (p:String) (f:Array Edge) (g:Option (Nat × Bool)) (w:World) :
  (execOp ρ { dst:=d,op:=.build 63 #[(0,x)],type:=t,pos:=p,after:=f,guard:=g }).run Tryz.prog w = mkC codS codT (fun s=>{ zItW with Node:=s }) w (ρ x) (exElse ρ { dst:=d,op:=.build 63 #[(0,x)],type:=t,pos:=p,after:=f,guard:=g } w):=by
 have he:∀ o,exElse ρ o w = (execOp ρ o).run Tryz.prog w:=by intro o;unfold exElse;rfl
 rw [he]
 unfold mkC
 split
 ·rename_i hh
  have hv:=hh.choose_spec
  generalize hh.choose = s at hv
  refine ex_buildG 63 ρ _ #[(0,x)] w w _ rfl ?_
  have:=bldT_1 w s
  simpa [hv] using this
 ·rfl
@[simp ↓] theorem ex_bldH_1 (ρ:Operand → Value) (x:Operand) (d:Option Nat) (t:TypeId) (p:String) (f:Array Edge) (g:Option (Nat × Bool)) (w:World) :
  (execOp ρ { dst:=d,op:=.build 49 #[(0,x)],type:=t,pos:=p,after:=f,guard:=g }).run Tryz.prog w = mkC codS codH (fun s=>{ zHd with At:=s }) w (ρ x) (exElse ρ { dst:=d,op:=.build 49 #[(0,x)],type:=t,pos:=p,after:=f,guard:=g } w):=by
 have he:∀ o,exElse ρ o w = (execOp ρ o).run Tryz.prog w:=by intro o;unfold exElse;rfl
 rw [he]
 unfold mkC
 split
 ·rename_i hh
  have hv:=hh.choose_spec
  generalize hh.choose = s at hv
  refine ex_buildG 49 ρ _ #[(0,x)] w w _ rfl ?_
  have:=bldH_1 w s
  simpa [hv] using this
 ·rfl
/-! stores into parts -/
theorem dropApp (x y:ID) (l m:List Value) (n k:Nat) (hn:l.length = n) (hk:n + 32 = k):(l ++ (bv x.1 ++ m)).take n ++ bv y.1 ++ (l ++ (bv x.1 ++ m)).drop k = l ++ (bv y.1 ++ m):=by
 subst hn;subst hk
 rw [List.take_left,List.drop_append,List.drop_eq_nil_of_le (by omega),List.nil_append,Nat.add_sub_cancel_left,List.drop_left' (by rw [bv_length,x.2]),List.append_assoc]
theorem setApp (x:ID) (l m:List Value) (n i:Nat) (v:Value) (hn:l.length + 32 = n):(l ++ (bv x.1 ++ m)).set (n + i) v = l ++ (bv x.1 ++ m.set i v):=by
 subst hn
 rw [List.set_append_right _ _ (by omega),List.set_append_right _ _ (by rw [bv_length,x.2];omega),bv_length,x.2]
 congr 3
 omega
theorem stT_At {w:World} {b:Nat} {r:ItW} (h:codT.bxd w b = some r) (x:St):codS.stR w (.pointer (some ⟨b,2,none⟩)) (.agg (codS.A x)) = .ok .skip (codT.put w b { r with At:=x }):=okS.stR_part h x 2 _ (by decide) rfl
theorem seT_Name (r:ItW) (l:List UInt8):(codT.cs r).set 4 (.string (str l)) = codT.cs { r with Name:=l }:=rfl
theorem stT_Sub {w:World} {b:Nat} {r:ItW} (h:codT.bxd w b = some r) (x:ID):stI w (.pointer (some ⟨b,5,none⟩)) (encI x) = .ok .skip (codT.put w b { r with Sub:=x }):=Cod.stI_part h x 5 _ (by decide) (dropApp r.Sub x [.int .i64 r.Node.T,.int .i64 r.Node.R,.int .i64 r.At.T,.int .i64 r.At.R,.string (str r.Name)] [.slice r.A r.n r.c] 5 37 rfl rfl)
theorem seT_Heads (r:ItW) (A:Option Addr) (n c:Nat):(codT.cs r).set 37 (.slice A n c) = codT.cs { r with A:=A,n:=n,c:=c }:=setApp r.Sub [.int .i64 r.Node.T,.int .i64 r.Node.R,.int .i64 r.At.T,.int .i64 r.At.R,.string (str r.Name)] [.slice r.A r.n r.c] 37 0 (.slice A n c) rfl
theorem stH_Data {w:World} {b:Nat} {r:Hd} (h:codH.bxd w b = some r) (x:ID):stI w (.pointer (some ⟨b,2,none⟩)) (encI x) = .ok .skip (codH.put w b { r with Data:=x }):=Cod.stI_part h x 2 _ (by decide) (by
 have:=dropApp r.Data x [.int .i64 r.At.T,.int .i64 r.At.R] [] 2 34 rfl rfl
 rw [List.append_nil,List.append_nil] at this
 exact this)
theorem step_runI {P:Program} {w:World} {ops:Array Oper} {o:Oper} {a:Act} {K:Act → World → Prop} {Q:Exit → Act → World → Prop} {E:Prop} (hgd:o.guard = none) (v:Value) (w':World)
  (hr:(execOp a.eval o).run P w = .ok (.value v) w') (h:K (a.put o.dst v) w'):if Region.wanted o (yielded ops a.tmps) = true then Oper.wp P o a w K Q else E:=by
 have hw:Region.wanted o (yielded ops a.tmps) = true:=by simp [Region.wanted,hgd]
 rw [if_pos hw]
 unfold Oper.wp
 rw [hr]
 exact h
/-! contracts whose outcome is named -/
theorem oget_z (w:World) (p:Nat) (s:RS) (Q:Nat → Prop) (h:Rdr w p s Q) (hQw:∀ b,Q b → b < w.heap.size) (hlen:s.1.length ≤ 140737488355328) (x:St) (s':RS) (hh:rdSt s = (x,s')) :
  Calls Tryz.prog 91 #[.pointer (some ⟨p,0,none⟩)] w (RdrOf w p (.agg (codS.A x)) s' Q):=by
 have:=oget_any w p s Q h hQw hlen
 rw [hh] at this;exact this
theorem rid_z (w:World) (p:Nat) (s:RS) (Q:Nat → Prop) (h:Rdr w p s Q) (hQp:¬ Q p) (hQw:∀ b,Q b → b < w.heap.size) (hlen:s.1.length ≤ 140737488355328) (x:ID) (s':RS) (hh:rdId s = (x,s')) :
  Calls Tryz.prog 93 #[.pointer (some ⟨p,0,none⟩)] w (RdrOf w p (encI x) s' Q):=by
 have:=rid_any w p s Q h hQp hQw hlen
 rw [hh] at this;exact this
theorem rtext_z (w:World) (p:Nat) (s:RS) (Q:Nat → Prop) (h:Rdr w p s Q) (hQp:¬ Q p) (hlen:s.1.length ≤ 140737488355328) (most:Nat) (m:Int) (hme:(most:Int) = m) (hm:most ≤ 4611686018427387904) (x:List UInt8) (s':RS) (hh:rdText most s = (x,s')) :
  Calls Tryz.prog 92 #[.pointer (some ⟨p,0,none⟩),.int .i64 m] w (RdrOf w p (.string (str x)) s' Q):=by
 subst hme
 have:=rtext_any w p s Q h hQp hlen most hm
 rw [hh] at this;exact this
theorem rd_eq {α:Type} (f:RS → α × RS) (s:RS):∃ x s',f s = (x,s'):=⟨_,_,rfl⟩
/-! a reader, the result's variable, and one more -/
structure RB {α:Type} (C:Cod α) (M:Nat → Prop) (W w:World) (p R P:Nat) (s:RS) (Q:Nat → Prop) (z r:α):Prop where
 rd:Rdr w p s Q
 rs:C.bxd w R = some z
 bx:C.bxd w P = some r
 fr:Fr M W w
 mp:p < W.heap.size → M p
 RW:W.heap.size ≤ R
 PW:W.heap.size ≤ P
 ne1:R ≠ P
 ne2:p ≠ R
 ne3:p ≠ P
 q1:∀ b,Q b → b ≠ R ∧ b ≠ P
 qp:¬ Q p
section
variable {α:Type} {C:Cod α} {M:Nat → Prop} {W w:World} {p R P:Nat} {s:RS} {Q:Nat → Prop} {z r:α}
theorem RB.lt (h:RB C M W w p R P s Q z r):R < w.heap.size ∧ P < w.heap.size ∧ p < w.heap.size:=⟨Cod.bxd_lt h.rs,Cod.bxd_lt h.bx,h.rd.lt⟩
theorem RB.call {w':World} {s':RS} (h:RB C M W w p R P s Q z r) (hr:Rdr w' p s' Q) (f:Fr (oneB p) w w'):RB C M W w' p R P s' Q z r :=
 ⟨hr,Cod.bxd_fr h.rs f (fun e=>h.ne2 (by have:R = p:=e;exact this.symm)),Cod.bxd_fr h.bx f (fun e=>h.ne3 (by have:P = p:=e;exact this.symm)),
  h.fr.step f (fun b hb=>by
   have e:b = p:=hb
   subst e
   by_cases hw:b < W.heap.size
   ·exact .inr (h.mp hw)
   ·exact .inl (by omega)),h.mp,h.RW,h.PW,h.ne1,h.ne2,h.ne3,h.q1,h.qp⟩
theorem RB.new {w':World} (h:RB C M W w p R P s Q z r) (f:Fr noB w w'):RB C M W w' p R P s Q z r :=
 ⟨h.rd.fr f (by simp [noB]) (by simp [noB]),Cod.bxd_fr0 h.rs f,Cod.bxd_fr0 h.bx f,h.fr.step0 f,h.mp,h.RW,h.PW,h.ne1,h.ne2,h.ne3,h.q1,h.qp⟩
theorem RB.turn {w':World} {r':α} (h:RB C M W w p R P s Q z r) (f:Fr (oneB P) w w') (hb:C.bxd w' P = some r'):RB C M W w' p R P s Q z r' :=
 ⟨h.rd.fr f (fun e=>h.ne3 e) (fun b hb e=>(h.q1 b hb).2 e),Cod.bxd_fr h.rs f (fun e=>h.ne1 e),hb,h.fr.step1 f h.PW,h.mp,h.RW,h.PW,h.ne1,h.ne2,h.ne3,h.q1,h.qp⟩
theorem RB.put (h:RB C M W w p R P s Q z r) (r':α):RB C M W (C.put w P r') p R P s Q z r':=h.turn (Cod.put_fr h.bx r').1 (Cod.put_fr h.bx r').2.2
theorem RB.set (h:RB C M W w p R P s Q z r) (o:Nat) (v:Value) (r':α) (hs:(C.cs r).set o v = C.cs r'):RB C M W (w.setCell ⟨P,o,none⟩ v) p R P s Q z r':=h.turn (Cod.set_fr w P o v) (Cod.bxd_set h.bx o v r' hs)
theorem RB.res (h:RB C M W w p R P s Q z r) (z':α):RB C M W (C.put w R z') p R P s Q z' r:=by
 obtain ⟨f,_,hb⟩:=Cod.put_fr h.rs z'
 exact ⟨h.rd.fr f (fun e=>h.ne2 e) (fun b hb e=>(h.q1 b hb).1 e),hb,Cod.bxd_fr h.bx f (fun e=>h.ne1 (by have:P = R:=e;exact this.symm)),h.fr.step1 f h.RW,h.mp,h.RW,h.PW,h.ne1,h.ne2,h.ne3,h.q1,h.qp⟩
theorem own_box {base:Nat} {e:TypeId} {size n g:Nat} {v:Value} {xs cs:List Value} {t:TypeId} {w':World} (hb:Blk w g t cs) (h:w.ownsRow base e size v n xs) (hne:e ≠ t) (f:Fr (oneB g) w w'):w'.ownsRow base e size v n xs :=
 own_fr h f (fun g' hg' hM=>Blk.ne_own hb h hne g' hg' (by have:g' = g:=hM;exact this))
theorem own_new0 {base:Nat} {e:TypeId} {size n:Nat} {v:Value} {xs:List Value} {w':World} (h:w.ownsRow base e size v n xs) (f:Fr noB w w'):w'.ownsRow base e size v n xs :=
 own_fr h f (fun g' hg' hM=>by simp [noB] at hM)
theorem RB.own_call {base:Nat} {e:TypeId} {size n:Nat} {v:Value} {xs:List Value} {w':World} (h:RB C M W w p R P s Q z r) (ho:w.ownsRow base e size v n xs) (hne:e ≠ 148) (f:Fr (oneB p) w w'):w'.ownsRow base e size v n xs:=by
 obtain ⟨A,c,hb,_⟩:=h.rd
 exact own_box hb ho hne f
theorem RB.own_turn {base:Nat} {e:TypeId} {size n:Nat} {v:Value} {xs:List Value} {w':World} (h:RB C M W w p R P s Q z r) (ho:w.ownsRow base e size v n xs) (hne:e ≠ C.t) (f:Fr (oneB P) w w'):w'.ownsRow base e size v n xs :=
 own_box (Cod.bxd_blk h.bx) ho hne f
theorem RB.grow {e:TypeId} {size n c:Nat} {A:Option Addr} {xs:List Value} {w':World} (h:RB C M W w p R P s Q z r) (ho:w.ownsRow W.heap.size e size (.slice A n c) n xs) (h1:e ≠ 148) (h2:e ≠ C.t) (hq:∀ b,Q b → A.map (·.block) ≠ some b) (hg:w.grownBy w' (A.map (·.block))):RB C M W w' p R P s Q z r:=by
 have f:Fr (fun b=>A.map (·.block) = some b) w w':=Fr.ofGrown hg (fun g hg=>hg)
 have hob:(Value.slice A n c).ownBlock = A.map (·.block):=ownBlock_sl' A n c
 obtain ⟨Ar,cr,hb,_⟩:=id h.rd
 have np:A.map (·.block) ≠ some p:=fun e=>Blk.ne_own hb ho h1 p (by rw [hob];exact e) rfl
 have nP:A.map (·.block) ≠ some P:=fun e=>Blk.ne_own (Cod.bxd_blk h.bx) ho h2 P (by rw [hob];exact e) rfl
 have nR:A.map (·.block) ≠ some R:=fun e=>Blk.ne_own (Cod.bxd_blk h.rs) ho h2 R (by rw [hob];exact e) rfl
 exact ⟨h.rd.fr f np hq,Cod.bxd_fr h.rs f nR,Cod.bxd_fr h.bx f nP,h.fr.step f (fun b hb=>.inl (ho.lt b (by rw [hob];exact hb)).1),h.mp,h.RW,h.PW,h.ne1,h.ne2,h.ne3,h.q1,h.qp⟩
end
section
variable {α:Type} {C:Cod α} (H:CodOk Tryz.prog C)
include H
theorem ret_row {fn:Func} {p:Tmp} (h:fn.results = #[.cell p C.t]) (tmps:Array Value) (w:World) (R:Nat) (x:α) (hp:tmps.getD p undef = .pointer (some ⟨R,0,none⟩)) (hb:C.bxd w R = some x):(results fn tmps).run Tryz.prog w = .ok (.agg (C.A x)) w:=by
 obtain ⟨d,h1,h2⟩:=H.und
 have hh:=Cod.bxd_at hb
 rw [C.o_eq] at hh
 rw [C.A_eq]
 refine results_cell_row h tmps w R C.t _ _ d hp hh h1 ?_ (by rw [List.size_toArray,C.len];exact H.info)
 cases d <;> first | rfl | exact h2
end
end Go.Proofs.YtnkdnbjmhoegkaaGreat
