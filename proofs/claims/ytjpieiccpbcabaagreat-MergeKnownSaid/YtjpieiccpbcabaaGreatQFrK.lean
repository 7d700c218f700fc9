/- Contracts: enc.Id, enc.Text. Contracts: the reader's take, Done, Text. Contract: the reader's Id. Stamps as values that the walk never looks into: contracts of stamp.Right, fixed, Cmp, get, put; obj.getAt, at. Parts of operations, items, commits, tags. Drawn regions whose operations read, and whose callees make new memory alone and hand back one value: one walk in the text's order. -/
import Derived.Test.YtjpieiccpbcabaaGreatNumWK
import Derived.Test.YtjpieiccpbcabaaGreatStWK
import Derived.Test.YtjpieiccpbcabaaGreatIdRowK
import Derived.Test.YtjpieiccpbcabaaGreatStrsK
import Derived.Lib.AppendStr
import Derived.Test.YtjpieiccpbcabaaGreatBoxOK
import Derived.Laws.CopyRow
import Derived.Laws.IdiomCopy
import Derived.Laws.Rows
import Derived.Test.YtjpieiccpbcabaaGreatEqsK
import Derived.Deep.Quiet
namespace Go.Proofs.YtjpieiccpbcabaaGreat
open Go.RowKit
set_option linter.unusedVariables false
set_option linter.unusedSimpArgs false

abbrev OwnB (w0 w:World) (A:Option Addr) (c:Nat) (l:List UInt8):Prop:=w.ownsRow w0.heap.size 5 1 (.slice A l.length c) l.length (bv l)
theorem ownBlock_slice (A:Option Addr) (n c:Nat):(Value.slice A n c).ownBlock = A.map (·.block):=by cases A <;> rfl
theorem step_appC (w0 w:World) {ops:Array Oper} {o:Oper} {a:Act} {K:Act → World → Prop} {Q:Exit → Act → World → Prop} {E:Prop} (hgd:o.guard = none) (s x:Operand)
  (ho:o.op = .call { callee:=.builtin .append,args:=#[s,x],argTypes:=#[134,134] })
  (As:Option Addr) (ns cs:Nat) (lo:List UInt8) (hs:a.eval s = .slice As ns cs) (hns:lo.length = ns) (hown:OwnB w0 w As cs lo)
  (A:Option Addr) (m c:Nat) (news:List UInt8) (hx:a.eval x = .slice A m c) (hr:Sl w A (bv news)) (hl:news.length = m)
  (hbytes:lo.length + news.length ≤ 140737488355328) (hbase:w0.heap.size ≤ w.heap.size)
  (h:∀ A' c' w',(lo ++ news).length ≤ c' → c' ≤ maxLen → OwnB w0 w' A' c' (lo ++ news) → w.grownBy w' (As.map (·.block)) →
   (A'.map (·.block) = As.map (·.block) ∨ A'.map (·.block) = some w.heap.size) → K (a.put o.dst (.slice A' (lo ++ news).length c')) w') :
  if Region.wanted o (yielded ops a.tmps) = true then Oper.wp Tryz.prog o a w K Q else E:=by
 have hw:Region.wanted o (yielded ops a.tmps) = true:=by simp [Region.wanted,hgd]
 rw [if_pos hw]
 subst hns
 refine wp_app w etBytes s x ho w0.heap.size _ lo.length (bv lo) hs hown A m c (bv news) hx hr (by simp [hl]) (bv_one _) (by rw [← hl];omega) hbase ?_
 intro v' w' h1 h2 h3
 rw [← bv_append] at h1
 have h1':=own_bv h1
 obtain ⟨A',c',rfl,hc1,hc2⟩:=own_form h1'
 rw [ownBlock_slice,ownBlock_slice] at h3
 rw [ownBlock_slice] at h2
 have e:lo.length + m = (lo ++ news).length:=by simp [hl]
 exact h A' c' w' hc1 hc2 h1' h2 h3
theorem sl_arr (w:World) (x:ID):Sl (w.alloc (ido x)) (some ⟨w.heap.size,0,none⟩) (bv x.1):=by
 have:=Sl.new w 24 (bv x.1)
 rw [← idA_eq] at this
 exact this
set_option maxRecDepth 100000 in
theorem eid_any (w:World) (A:Option Addr) (c n:Nat) (l:List UInt8) (hn:l.length = n) (hs:Sl w A (bv l)) (hb:l.length ≤ 140737488355000) (x:ID):Calls Tryz.prog 94 #[.slice A n c,encI x] w (NewBytes w (l ++ x.1)):=by
 subst hn
 have f0:Fr noB w (w.alloc (ido x)):=(Fr.refl noB w).alloc _
 have sx:=sl_arr w x
 have hs1:=hs.fr0 f0
 go_enter Tryz.func94,Tryz.ntmps94
 go_upto_region 1 with fail
 generalize w.alloc (ido x) = w1 at f0 sx hs1 ⊢
 generalize hP:w.heap.size = P at sx ⊢
 have fd:=(Fr.refl noB w1).drew
 go_wp2_with fail
 refine wp_region_M 4 5 [⟨32,1,0⟩,⟨64,32,1⟩,⟨128,8,0⟩,⟨256,192,6⟩,⟨16,256,15⟩] [(true,0),(true,2),(false,1),(false,3)] (fun w'=>True) (by kernel_rfl) rfl (by kernel_rfl) (by kernel_rfl) (by kernel_rfl) trivial (fun hA hF=>?_)
 iterate 2
  refine wpAnyS_take (v:=?_) hA rfl (fun _ _ _ h=>h) (Or.inl ⟨by rfl,?_⟩) hF (fun hA=>?_)
  rotate_left
  ·intro wS hSw;(try dsimp only at hSw);obtain s1:=hSw;(go_simp;try with_reducible rfl)
  try simp only [List.getElem_toArray,List.getElem_cons_zero,List.getElem_cons_succ,Act.put,List.setIfInBounds_toArray,List.set_cons_zero,List.set_cons_succ]
 refine wpAnyS_one hA rfl (fun K' hK=>?_)
 go_simp
 go_at_call 128
 refine (clone_n _ A c l _ rfl (hs1.fr0 fd) (by omega)).mono ?_
 rintro e w2 ⟨A2,c2,rfl,ho2,f2⟩
 refine hK.out _ _ trivial (fun hA=>?_)
 clear hK K'
 refine wpAnyS_one hA rfl (fun K' hK=>?_)
 have ho3:OwnB w w2 A2 c2 l:=own_base ho2 (Nat.le_trans f0.size fd.size)
 refine step_appC w _ rfl _ _ rfl A2 _ c2 l rfl rfl ho3 (some ⟨P,0,none⟩) 32 _ x.1 rfl ((sx.fr0 fd).fr0 f2) x.2 (by rw [x.2];omega) ((f0.step0 fd).step0 f2).size ?_
 intro A6 c6 w6 hc6 hm6 ho6 hg6 hA6
 have f6:=Fr.ofGrown (M:=fun b=>A2.map (·.block) = some b) hg6 (fun g hg=>hg)
 refine hK.out _ _ trivial (fun hA=>?_)
 clear hK K'
 refine wpAnyS_end hA rfl ?_
 simp only [List.drop_succ_cons,List.drop_zero]
 go_wp2_with fail
 go_ret
 refine ⟨A6,c6,by first | rfl | simp,ho6,((f0.step0 fd).step0 f2).step f6 (fun b hb=>.inl ?_)⟩
 cases A2 with
 | none=>cases hb
 | some a=>simp only [Option.map_some,Option.some.injEq] at hb;rw [← hb];exact (ho3.lt _ (by simp [Value.ownBlock])).1
theorem str_cells (t:List UInt8):Lib.strCells (str t) = bv t:=by simp [Lib.strCells,str,bv,u8v]
theorem str_size (t:List UInt8):(str t).size = t.length:=rfl
set_option maxRecDepth 100000 in
theorem etext_any (w:World) (A:Option Addr) (c n:Nat) (l:List UInt8) (hn:l.length = n) (hs:Sl w A (bv l)) (hb:l.length ≤ 100000000000) (t:List UInt8) (ht:t.length ≤ 100000000000) :
  Calls Tryz.prog 96 #[.slice A n c,.string (str t)] w (NewBytes w (l ++ txB t)):=by
 subst hn
 obtain ⟨i,hi,hi2⟩:=Option.map_eq_some_iff.1 (show (Tryz.prog.info? 5).map (fun i=>(i.zero,i.size,i.bytes)) = some (some (.int .u8 0),1,1) by kernel_rfl)
 simp only [Prod.mk.injEq] at hi2
 have hz:=str_size t
 have HZ:=Lib.hid hz
 go_enter Tryz.func96,Tryz.ntmps96
 go_wp2_with fail
 go_at_call 93
 refine (enum_n w A c l _ rfl hs (by omega) t.length (by omega)).mono ?_
 rintro e w2 ⟨A2,c2,rfl,ho2,f2⟩
 have hnl:=numB_length t.length (by omega)
 have h1:(l ++ numB t.length).length + (str t).size ≤ 140737488355328:=by rw [HZ.out,List.length_append];omega
 have h2:(l ++ numB t.length).length + (str t).size ≤ maxLen:=by unfold maxLen;omega
 have hsz:=f2.size
 clear hz hnl
 generalize hL:l ++ numB t.length = L at ho2 h1 h2 ⊢
 have HL:=Lib.hid hL
 clear hL
 go_wp2_with (at_builtin;refine Lib.wpList_append_own_string _ rfl _ _ 134 9 rfl w.heap.size 5 i Tryz.underlying134 Tryz.underlying9 hi hi2.1 hi2.2.1 hi2.2.2 _ L.length (bv L) rfl ho2 (str t) rfl h2 h1 hsz ?_;intro v6 w6 ho6 hg6 hv6)
 go_ret
 rw [str_cells,← bv_append,← HL.out,List.append_assoc] at ho6
 have f6:Fr (fun b=>A2.map (·.block) = some b) w2 w6:=Fr.ofGrown (M:=fun b=>A2.map (·.block) = some b) hg6 (fun g hg=>by have hg':(Value.slice A2 L.length c2).ownBlock = some g:=hg;rw [ownBlock_slice] at hg';exact hg')
 have:=NewBytes.mk ho6 (f2.step f6 (fun b hb=>.inl (by
  cases A2 with
  | none=>cases hb
  | some a=>simp only [Option.map_some,Option.some.injEq] at hb;rw [← hb];exact (ho2.lt _ (by simp [Value.ownBlock])).1)))
 exact this
end Go.Proofs.YtjpieiccpbcabaaGreat
namespace Go.Proofs.YtjpieiccpbcabaaGreat
open Go.RowKit
set_option linter.unusedVariables false
set_option linter.unusedSimpArgs false

end Go.Proofs.YtjpieiccpbcabaaGreat
namespace Go.Proofs.YtjpieiccpbcabaaGreat
open Go.RowKit
set_option linter.unusedVariables false
set_option linter.unusedSimpArgs false

end Go.Proofs.YtjpieiccpbcabaaGreat
namespace Go.Proofs.YtjpieiccpbcabaaGreat
open Go.RowKit
set_option linter.unusedVariables false
set_option linter.unusedSimpArgs false

theorem vS_eq (s:St):(.agg (codS.A s):Value) = encS s:=by rw [Cod.A_eq];rfl
theorem right_v (w:World) (s:St):Calls Tryz.prog 124 #[.agg (codS.A s)] w (Gives w (.bool (rightS s))):=by rw [vS_eq];exact right_any w s
theorem fixed_v (w:World) (s:St):Calls Tryz.prog 163 #[.agg (codS.A s)] w (Gives w (.bool (fixedS s))):=by rw [vS_eq];exact fixed_any w s
theorem scmp_v (w:World) (a b:St):Calls Tryz.prog 76 #[.agg (codS.A a),.agg (codS.A b)] w (Gives w (.int .i64 (cmpS a b))):=by rw [vS_eq,vS_eq];exact scmp_any w a b
/-! parts -/
theorem get2 (s:St) (l:List Value) (k:Nat) (h0:l[k]? = some (.int .i64 s.T)) (h1:l[k + 1]? = some (.int .i64 s.R)):∀ j v,(codS.cs s)[j]? = some v → l[k + j]? = some v:=by
 intro j v h
 match j with
 | 0=>simp [codS,csS] at h;rw [← h];exact h0
 | 1=>simp [codS,csS] at h;rw [← h];exact h1
 | j + 2=>simp [codS,csS] at h
theorem getApp (x:ID) (l m:List Value) (n:Nat) (hn:l.length = n):∀ j v,(bv x.1)[j]? = some v → (l ++ (bv x.1 ++ m))[n + j]? = some v:=by
 intro j v h
 subst hn
 rw [List.getElem?_append_right (by omega),List.getElem?_append_left (by have:=(List.getElem?_eq_some_iff.1 h).1;omega)]
 rw [Nat.add_sub_cancel_left]
 exact h
theorem getEnd (x:ID) (l m:List Value) (n:Nat) (hn:l.length + 32 = n) (i:Nat):(l ++ (bv x.1 ++ m))[n + i]? = m[i]?:=by
 subst hn
 rw [List.getElem?_append_right (by omega),List.getElem?_append_right (by rw [bv_length,x.2];omega),bv_length,x.2]
 congr 1
 omega
structure OpAt (w:World) (b:Nat) (r:OpW):Prop where
 kind:w.cell? ⟨b,0,none⟩ = some (.int .i64 r.Kind)
 atT:w.cell? ⟨b,1,none⟩ = some (.int .i64 r.At.T)
 atR:w.cell? ⟨b,2,none⟩ = some (.int .i64 r.At.R)
 At:codS.rd w b 1 = some r.At
 node:codS.rd w b 3 = some r.Node
 parent:codS.rd w b 5 = some r.Parent
 name:w.cell? ⟨b,7,none⟩ = some (.string (str r.Name))
 data:rdI w b 8 = some r.Data
 over:w.cell? ⟨b,40,none⟩ = some (.slice r.A r.n r.c)
 self:codO.rd w b 0 = some r
def opL (r:OpW):List Value:=[.int .i64 r.Kind,.int .i64 r.At.T,.int .i64 r.At.R,.int .i64 r.Node.T,.int .i64 r.Node.R,.int .i64 r.Parent.T,.int .i64 r.Parent.R,.string (str r.Name)]
theorem opAt {w:World} {b:Nat} {r:OpW} (h:codO.rd w b 0 = some r):OpAt w b r:=by
 have e (k:Nat) {v:Value} (hv:(codO.cs r)[k]? = some v):=by simpa using Cod.rd_cell h k hv
 have s (k:Nat) {x:St} (hv:∀ j v,(codS.cs x)[j]? = some v → (codO.cs r)[k + j]? = some v):=by simpa using Cod.rd_part (C':=codS) h k hv
 exact ⟨e 0 rfl,e 1 rfl,e 2 rfl,s 1 (get2 _ _ 1 rfl rfl),s 3 (get2 _ _ 3 rfl rfl),s 5 (get2 _ _ 5 rfl rfl),e 7 rfl,
  by simpa using Cod.rdI_part h 8 (getApp r.Data (opL r) _ 8 rfl),e 40 (getEnd r.Data (opL r) [.slice r.A r.n r.c] 40 rfl 0),h⟩
structure HdAt (w:World) (b:Nat) (r:Hd):Prop where
 At:codS.rd w b 0 = some r.At
 data:rdI w b 2 = some r.Data
 self:codH.rd w b 0 = some r
theorem hdAt {w:World} {b:Nat} {r:Hd} (h:codH.rd w b 0 = some r):HdAt w b r:=by
 have s (k:Nat) {x:St} (hv:∀ j v,(codS.cs x)[j]? = some v → (codH.cs r)[k + j]? = some v):=by simpa using Cod.rd_part (C':=codS) h k hv
 have g:=getApp r.Data [.int .i64 r.At.T,.int .i64 r.At.R] [] 2 rfl
 rw [List.append_nil] at g
 exact ⟨s 0 (get2 _ _ 0 rfl rfl),by simpa using Cod.rdI_part h 2 g,h⟩
structure CgAt (w:World) (b:Nat) (r:CgW):Prop where
 parents:w.cell? ⟨b,0,none⟩ = some (.slice r.PA r.pn r.pc)
 time:w.cell? ⟨b,1,none⟩ = some (.int .i64 r.Time)
 R:w.cell? ⟨b,2,none⟩ = some (.int .i64 r.R)
 ops:w.cell? ⟨b,3,none⟩ = some (.slice r.OA r.on r.oc)
 tree:rdI w b 4 = some r.Tree
 msg:w.cell? ⟨b,36,none⟩ = some (.string (str r.Msg))
 self:codC.rd w b 0 = some r
theorem cgAt {w:World} {b:Nat} {r:CgW} (h:codC.rd w b 0 = some r):CgAt w b r:=by
 have e (k:Nat) {v:Value} (hv:(codC.cs r)[k]? = some v):=by simpa using Cod.rd_cell h k hv
 exact ⟨e 0 rfl,e 1 rfl,e 2 rfl,e 3 rfl,
  by simpa using Cod.rdI_part h 4 (getApp r.Tree [.slice r.PA r.pn r.pc,.int .i64 r.Time,.int .i64 r.R,.slice r.OA r.on r.oc] _ 4 rfl),
  e 36 (getEnd r.Tree [.slice r.PA r.pn r.pc,.int .i64 r.Time,.int .i64 r.R,.slice r.OA r.on r.oc] [.string (str r.Msg)] 36 rfl 0),h⟩
end Go.Proofs.YtjpieiccpbcabaaGreat
namespace Go.Proofs.YtjpieiccpbcabaaGreat
open Go.RowKit
set_option linter.unusedVariables false

structure Same (n:Nat) (w w':World):Prop where
 cell:∀ b o,b < n → w'.cell? ⟨b,o,none⟩ = w.cell? ⟨b,o,none⟩
 st:∀ b o,b < n → codS.rd w' b o = codS.rd w b o
 id:∀ b o,b < n → rdI w' b o = rdI w b o
 hd:∀ b o,b < n → codH.rd w' b o = codH.rd w b o
 op:∀ b o,b < n → codO.rd w' b o = codO.rd w b o
 it:∀ b o,b < n → codS.rd w' b o = codS.rd w b o
theorem Fr.same {w w':World} (f:Fr noB w w'):Same w.heap.size w w' :=
 ⟨fun b o h=>World.cell?_of_block (a:=⟨b,o,none⟩) (f.block b h (by simp [noB])),fun b o h=>Cod.rd_keep (f.block b h (by simp [noB])),fun b o h=>rdI_keep (f.block b h (by simp [noB])),
  fun b o h=>Cod.rd_keep (f.block b h (by simp [noB])),fun b o h=>Cod.rd_keep (f.block b h (by simp [noB])),fun b o h=>Cod.rd_keep (f.block b h (by simp [noB]))⟩
@[irreducible] def wpQ (P:Program) (ops:Array Oper) (C:World → Prop) (Q:Act → Prop) (l:List Oper) (a:Act):Prop:=wpQuiet P ops C Q l a
section
variable {P:Program} {ops:Array Oper} {C:World → Prop} {Q:Act → Prop} {o:Oper} {rest:List Oper} {a:Act} {v:Value}
theorem wpQ_take (hw:Region.wanted o (yielded ops a.tmps) = true) (h:∀ w,C w → (execOp a.eval o).run P w = .ok (.value v) w) (k:wpQ P ops C Q rest (a.put o.dst v)):wpQ P ops C Q (o :: rest) a:=by
 unfold wpQ at k ⊢
 unfold wpQuiet
 rw [if_pos hw]
 refine ⟨v,fun w hC=>?_,k⟩
 unfold Oper.quietAt
 rw [h w hC]
 exact ⟨rfl,rfl⟩
theorem wpQ_call (hw:Region.wanted o (yielded ops a.tmps) = true) (h:∀ w,C w → ∃ f args,(execOp a.eval o).run P w = .ok (.enter f args) w ∧ Calls P f args w (fun e w''=>e = .returned v ∧ C w'')) (k:wpQ P ops C Q rest (a.put o.dst v)):wpQ P ops C Q (o :: rest) a:=by
 unfold wpQ at k ⊢
 unfold wpQuiet
 rw [if_pos hw]
 refine ⟨v,fun w hC=>?_,k⟩
 obtain ⟨f,args,h1,h2⟩:=h w hC
 unfold Oper.quietAt
 rw [h1]
 exact ⟨rfl,h2⟩
theorem wpQ_off (hw:Region.wanted o (yielded ops a.tmps) = false) (k:wpQ P ops C Q rest (a.put o.dst undef)):wpQ P ops C Q (o :: rest) a:=by
 unfold wpQ at k ⊢
 unfold wpQuiet
 rw [if_neg (by rw [hw];exact Bool.false_ne_true)]
 exact k
theorem wpQ_nil (h:Q a):wpQ P ops C Q [] a:=by
 unfold wpQ
 exact h
theorem Calls.fr {f:FuncId} {args:Array Value} {W w:World} (hC:Fr noB W w) (h:Calls P f args w (Gives w v)):Calls P f args w (fun e w''=>e = .returned v ∧ Fr noB W w'') :=
 h.mono fun _ _ ⟨h1,h2⟩=>⟨h1,hC.step0 h2⟩
theorem Gives.val {u:Value} {f:FuncId} {args:Array Value} {w:World} (h:Calls P f args w (Gives w v)) (e:v = u):Calls P f args w (Gives w u):=e ▸ h
theorem wp_region_fr {id:Nat} {Q:Exit → Act → World → Prop} {a:Act} {w:World} {l:List Oper} (hm:P.follows .mixedOrders = true) (hB:Region.lexB .any l.toArray = true)
  (h:wpQ P l.toArray (Fr noB w) (fun a'=>∀ w',Fr noB w w' → Q .normal a' w') l a):(Code.region id l.toArray true).wp P Q a w:=by
 unfold wpQ at h
 exact wp_region_quiet (C:=Fr noB w) hm hB (Fr.refl noB w).drew (by simpa using h)
end
end Go.Proofs.YtjpieiccpbcabaaGreat
