/- Stamps as values that the walk never looks into: contracts of stamp.Right, fixed, Cmp, get, put; obj.getAt, at. Parts of operations, items, commits, tags. Drawn regions whose operations read, and whose callees make new memory alone and hand back one value: one walk in the text's order. -/
import Derived.Test.YtnkdnbjmhoegkaaGreatCodsKq
import Derived.Test.YtnkdnbjmhoegkaaGreatRdrWKq
import Derived.Test.YtnkdnbjmhoegkaaGreatRdrIdKq
import Derived.Deep.Quiet
set_option linter.unusedVariables false
set_option linter.unusedSimpArgs false
namespace Go.Proofs.YtnkdnbjmhoegkaaGreat
open Go.RowKit
theorem vS_eq (s:St):(.agg (codS.A s):Value) = encS s:=by rw [Cod.A_eq];rfl
theorem right_v (w:World) (s:St):Calls Tryz.prog 103 #[.agg (codS.A s)] w (Gives w (.bool (rightS s))):=by rw [vS_eq];exact right_any w s
theorem scmp_v (w:World) (a b:St):Calls Tryz.prog 27 #[.agg (codS.A a),.agg (codS.A b)] w (Gives w (.int .i64 (cmpS a b))):=by rw [vS_eq,vS_eq];exact scmp_any w a b
/-! parts -/
theorem get2 (s:St) (l:List Value) (k:Nat) (h0:l[k]? = some (.int .i64 s.T)) (h1:l[k + 1]? = some (.int .i64 s.R)):∀ j v,(codS.cs s)[j]? = some v → l[k + j]? = some v:=by
 intro j v h
 match j with
 | 0=>simp [codS,csS] at h;rw [← h];exact h0
 | 1=>simp [codS,csS] at h;rw [← h];exact h1
 | j + 2=>simp [codS,csS] at h
theorem getApp (x:ID) (l m:List Value) (n:Nat) (hn:l.length = n):∀ j v,(bv x.1)[j]? = some v → (l ++ (bv x.1 ++ m))[n + j]? = some v:=by
 intro j v h
 subst hn
 rw [List.getElem?_append_right (by omega),List.getElem?_append_left (by have:=(List.getElem?_eq_some_iff.1 h).1;omega)]
 rw [Nat.add_sub_cancel_left]
 exact h
theorem getEnd (x:ID) (l m:List Value) (n:Nat) (hn:l.length + 32 = n) (i:Nat):(l ++ (bv x.1 ++ m))[n + i]? = m[i]?:=by
 subst hn
 rw [List.getElem?_append_right (by omega),List.getElem?_append_right (by rw [bv_length,x.2];omega),bv_length,x.2]
 congr 1
 omega
structure ItAt (w:World) (b:Nat) (r:ItW):Prop where
 node:codS.rd w b 0 = some r.Node
 At:codS.rd w b 2 = some r.At
 name:w.cell? ⟨b,4,none⟩ = some (.string (str r.Name))
 sub:rdI w b 5 = some r.Sub
 heads:w.cell? ⟨b,37,none⟩ = some (.slice r.A r.n r.c)
 self:codT.rd w b 0 = some r
theorem itAt {w:World} {b:Nat} {r:ItW} (h:codT.rd w b 0 = some r):ItAt w b r:=by
 have e (k:Nat) {v:Value} (hv:(codT.cs r)[k]? = some v):=by simpa using Cod.rd_cell h k hv
 have s (k:Nat) {x:St} (hv:∀ j v,(codS.cs x)[j]? = some v → (codT.cs r)[k + j]? = some v):=by simpa using Cod.rd_part (C':=codS) h k hv
 exact ⟨s 0 (get2 _ _ 0 rfl rfl),s 2 (get2 _ _ 2 rfl rfl),e 4 rfl,
  by simpa using Cod.rdI_part h 5 (getApp r.Sub [.int .i64 r.Node.T,.int .i64 r.Node.R,.int .i64 r.At.T,.int .i64 r.At.R,.string (str r.Name)] _ 5 rfl),
  e 37 (getEnd r.Sub [.int .i64 r.Node.T,.int .i64 r.Node.R,.int .i64 r.At.T,.int .i64 r.At.R,.string (str r.Name)] [.slice r.A r.n r.c] 37 rfl 0),h⟩
structure HdAt (w:World) (b:Nat) (r:Hd):Prop where
 At:codS.rd w b 0 = some r.At
 data:rdI w b 2 = some r.Data
 self:codH.rd w b 0 = some r
theorem hdAt {w:World} {b:Nat} {r:Hd} (h:codH.rd w b 0 = some r):HdAt w b r:=by
 have s (k:Nat) {x:St} (hv:∀ j v,(codS.cs x)[j]? = some v → (codH.cs r)[k + j]? = some v):=by simpa using Cod.rd_part (C':=codS) h k hv
 have g:=getApp r.Data [.int .i64 r.At.T,.int .i64 r.At.R] [] 2 rfl
 rw [List.append_nil] at g
 exact ⟨s 0 (get2 _ _ 0 rfl rfl),by simpa using Cod.rdI_part h 2 g,h⟩
theorem rdSt_len (s:RS):(rdSt s).2.1.length ≤ s.1.length:=Nat.le_trans (rdNum_bd _ _).2 (rdNum_bd _ _).2
theorem num_z (w:World) (p:Nat) (s:RS) (Q:Nat → Prop) (most:Nat) (m:Int) (hme:(most:Int) = m) (hm:most ≤ 4611686018427387904) (h:Rdr w p s Q) (hlen:s.1.length ≤ 140737488355328) (n:Nat) (s':RS) (hh:rdNum most s = (n,s')) :
  Calls Tryz.prog 57 #[.pointer (some ⟨p,0,none⟩),.int .i64 m] w (RdrTo w p (.int .i64 n) s' Q):=by subst hme;exact num_eq w p s Q most hm h hlen n s' hh
set_option maxRecDepth 100000 in
theorem oget_any (w:World) (p:Nat) (s:RS) (Q:Nat → Prop) (h:Rdr w p s Q) (hQw:∀ b,Q b → b < w.heap.size) (hlen:s.1.length ≤ 140737488355328) :
  Calls Tryz.prog 91 #[.pointer (some ⟨p,0,none⟩)] w (RdrOf w p (.agg (codS.A (rdSt s).1)) (rdSt s).2 Q):=by
 have f0:Fr noB w (w.alloc (codS.o zSt)):=(Fr.refl noB w).alloc _
 have q0:codS.bxd (w.alloc (codS.o zSt)) w.heap.size = some zSt:=Cod.bxd_new _ _
 have lp:=h.lt
 have h0:Rdr (w.alloc (codS.o zSt)) p s Q:=h.fr f0 (by simp [noB]) (fun _ _=>by simp [noB])
 have hpP:¬ oneB p w.heap.size:=fun e=>by have:w.heap.size = p:=e;omega
 have hb1:=rdNum_bd 1099511627776 s
 obtain ⟨t,s1,e1⟩:∃ t s1,rdNum 1099511627776 s = (t,s1):=⟨_,_,rfl⟩
 obtain ⟨r,s2,e2⟩:∃ r s2,rdNum 65536 s1 = (r,s2):=⟨_,_,rfl⟩
 have e3:rdSt s = (⟨t,r⟩,s2):=by unfold rdSt;rw [e1];simp only;rw [e2]
 rw [e1] at hb1
 simp only at hb1
 have E1:=Lib.hid e1
 have E2:=Lib.hid e2
 have E3:=Lib.hid e3
 have HB:=Lib.hid hb1
 clear e1 e2 e3 hb1
 go_enter Tryz.func91,Tryz.ntmps91
 go_upto_region 1 with fail
 generalize w.alloc (codS.o zSt) = w0 at f0 q0 h0 ⊢
 have hPl:w.heap.size ≤ w.heap.size:=Nat.le_refl _
 generalize hP:w.heap.size = P at q0 hpP hPl hQw ⊢
 go_wp2_with fail
 go_at_call 57
 refine (num_z w0 p s Q 1099511627776 1099511627776 rfl (by decide) h0 hlen t s1 E1.out).mono ?_
 rintro e w1 ⟨rfl,hr1,hf1⟩
 have q1:=Cod.bxd_fr q0 hf1 hpP
 go_wp2_with fail
 go_at_call 57
 refine (num_z w1 p s1 Q 65536 65536 rfl (by decide) hr1 (by have:=HB.out;omega) r s2 E2.out).mono ?_
 rintro e w2 ⟨rfl,hr2,hf2⟩
 have q2:=Cod.bxd_fr q1 hf2 hpP
 have hst:=okS.stR_box q2 ⟨(t:Int),(r:Int)⟩
 simp only [Cod.v] at hst
 obtain ⟨g1,g2,g3⟩:=Cod.put_fr q2 ⟨(t:Int),(r:Int)⟩
 have hr3:=hr2.fr g1 (fun e=>hpP (by have:p = P:=e;exact this.symm)) (fun b hb e=>by have h1:=hQw b hb;have h2:b = P:=e;omega)
 have hbx:=Cod.bxd_blk g3
 go_wp2_with fail
 refine bodyPost_ret (results_cell_row rfl _ _ P 24 _ _ _ (by rfl) hbx Tryz.underlying24 ?_ ?_) rfl ?_
 ·rfl
 ·rw [List.size_toArray,codS.len];exact okS.info
 ·refine ⟨?_,?_,?_⟩
  ·rw [E3.out,Cod.A_eq]
  ·rw [E3.out];exact hr3
  ·exact ((f0.any.trans hf1 (fun b _ h=>h)).trans hf2 (fun b _ h=>h)).step g1 (fun b hb=>.inl (by have h2:b = P:=hb;omega))
end Go.Proofs.YtnkdnbjmhoegkaaGreat
namespace Go.Proofs.YtnkdnbjmhoegkaaGreat
open Go.RowKit
structure Same (n:Nat) (w w':World):Prop where
 cell:∀ b o,b < n → w'.cell? ⟨b,o,none⟩ = w.cell? ⟨b,o,none⟩
 st:∀ b o,b < n → codS.rd w' b o = codS.rd w b o
 id:∀ b o,b < n → rdI w' b o = rdI w b o
 hd:∀ b o,b < n → codH.rd w' b o = codH.rd w b o
 op:∀ b o,b < n → codS.rd w' b o = codS.rd w b o
 it:∀ b o,b < n → codT.rd w' b o = codT.rd w b o
theorem Fr.same {w w':World} (f:Fr noB w w'):Same w.heap.size w w' :=
 ⟨fun b o h=>World.cell?_of_block (a:=⟨b,o,none⟩) (f.block b h (by simp [noB])),fun b o h=>Cod.rd_keep (f.block b h (by simp [noB])),fun b o h=>rdI_keep (f.block b h (by simp [noB])),
  fun b o h=>Cod.rd_keep (f.block b h (by simp [noB])),fun b o h=>Cod.rd_keep (f.block b h (by simp [noB])),fun b o h=>Cod.rd_keep (f.block b h (by simp [noB]))⟩
@[irreducible] def wpQ (P:Program) (ops:Array Oper) (C:World → Prop) (Q:Act → Prop) (l:List Oper) (a:Act):Prop:=wpQuiet P ops C Q l a
section
variable {P:Program} {ops:Array Oper} {C:World → Prop} {Q:Act → Prop} {o:Oper} {rest:List Oper} {a:Act} {v:Value}
theorem wpQ_take (hw:Region.wanted o (yielded ops a.tmps) = true) (h:∀ w,C w → (execOp a.eval o).run P w = .ok (.value v) w) (k:wpQ P ops C Q rest (a.put o.dst v)):wpQ P ops C Q (o :: rest) a:=by
 unfold wpQ at k ⊢
 unfold wpQuiet
 rw [if_pos hw]
 refine ⟨v,fun w hC=>?_,k⟩
 unfold Oper.quietAt
 rw [h w hC]
 exact ⟨rfl,rfl⟩
theorem wpQ_call (hw:Region.wanted o (yielded ops a.tmps) = true) (h:∀ w,C w → ∃ f args,(execOp a.eval o).run P w = .ok (.enter f args) w ∧ Calls P f args w (fun e w''=>e = .returned v ∧ C w'')) (k:wpQ P ops C Q rest (a.put o.dst v)):wpQ P ops C Q (o :: rest) a:=by
 unfold wpQ at k ⊢
 unfold wpQuiet
 rw [if_pos hw]
 refine ⟨v,fun w hC=>?_,k⟩
 obtain ⟨f,args,h1,h2⟩:=h w hC
 unfold Oper.quietAt
 rw [h1]
 exact ⟨rfl,h2⟩
theorem wpQ_off (hw:Region.wanted o (yielded ops a.tmps) = false) (k:wpQ P ops C Q rest (a.put o.dst undef)):wpQ P ops C Q (o :: rest) a:=by
 unfold wpQ at k ⊢
 unfold wpQuiet
 rw [if_neg (by rw [hw];exact Bool.false_ne_true)]
 exact k
theorem wpQ_nil (h:Q a):wpQ P ops C Q [] a:=by
 unfold wpQ
 exact h
theorem Calls.fr {f:FuncId} {args:Array Value} {W w:World} (hC:Fr noB W w) (h:Calls P f args w (Gives w v)):Calls P f args w (fun e w''=>e = .returned v ∧ Fr noB W w'') :=
 h.mono fun _ _ ⟨h1,h2⟩=>⟨h1,hC.step0 h2⟩
theorem Gives.val {u:Value} {f:FuncId} {args:Array Value} {w:World} (h:Calls P f args w (Gives w v)) (e:v = u):Calls P f args w (Gives w u):=e ▸ h
theorem wp_region_fr {id:Nat} {Q:Exit → Act → World → Prop} {a:Act} {w:World} {l:List Oper} (hm:P.follows .mixedOrders = true) (hB:Region.lexB .any l.toArray = true)
  (h:wpQ P l.toArray (Fr noB w) (fun a'=>∀ w',Fr noB w w' → Q .normal a' w') l a):(Code.region id l.toArray true).wp P Q a w:=by
 unfold wpQ at h
 exact wp_region_quiet (C:=Fr noB w) hm hB (Fr.refl noB w).drew (by simpa using h)
end
end Go.Proofs.YtnkdnbjmhoegkaaGreat
