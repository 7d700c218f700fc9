/- Contract: the reader's Id. Stamps as values that the walk never looks into: contracts of stamp.Right, fixed, Cmp, get, put; obj.getAt, at. Parts of operations, items, commits, tags. Drawn regions whose operations read, and whose callees make new memory alone and hand back one value: one walk in the text's order. -/
import Derived.Test.YthehiobacjjakaaGreatDoorRdrWKp
import Derived.Test.YthehiobacjjakaaGreatDoorBoxOKp
import Derived.Laws.CopyRow
import Derived.Laws.IdiomCopy
import Derived.Laws.Rows
import Derived.Test.YthehiobacjjakaaGreatDoorStabCKp
import Derived.Deep.Quiet
set_option linter.unusedVariables false
set_option linter.unusedSimpArgs false
namespace Go.Proofs.YthehiobacjjakaaGreatDoor
open Go.RowKit
theorem vS_eq (s:St):(.agg (codS.A s):Value) = encS s:=by rw [Cod.A_eq];rfl
theorem right_v (w:World) (s:St):Calls Tryz.prog 83 #[.agg (codS.A s)] w (Gives w (.bool (rightS s))):=by rw [vS_eq];exact right_any w s
theorem scmp_v (w:World) (a b:St):Calls Tryz.prog 45 #[.agg (codS.A a),.agg (codS.A b)] w (Gives w (.int .i64 (cmpS a b))):=by rw [vS_eq,vS_eq];exact scmp_any w a b
/-! parts -/
theorem get2 (s:St) (l:List Value) (k:Nat) (h0:l[k]? = some (.int .i64 s.T)) (h1:l[k + 1]? = some (.int .i64 s.R)):∀ j v,(codS.cs s)[j]? = some v → l[k + j]? = some v:=by
 intro j v h
 match j with
 | 0=>simp [codS,csS] at h;rw [← h];exact h0
 | 1=>simp [codS,csS] at h;rw [← h];exact h1
 | j + 2=>simp [codS,csS] at h
theorem getApp (x:ID) (l m:List Value) (n:Nat) (hn:l.length = n):∀ j v,(bv x.1)[j]? = some v → (l ++ (bv x.1 ++ m))[n + j]? = some v:=by
 intro j v h
 subst hn
 rw [List.getElem?_append_right (by omega),List.getElem?_append_left (by have:=(List.getElem?_eq_some_iff.1 h).1;omega)]
 rw [Nat.add_sub_cancel_left]
 exact h
theorem getEnd (x:ID) (l m:List Value) (n:Nat) (hn:l.length + 32 = n) (i:Nat):(l ++ (bv x.1 ++ m))[n + i]? = m[i]?:=by
 subst hn
 rw [List.getElem?_append_right (by omega),List.getElem?_append_right (by rw [bv_length,x.2];omega),bv_length,x.2]
 congr 1
 omega
structure ItAt (w:World) (b:Nat) (r:ItW):Prop where
 node:codS.rd w b 0 = some r.Node
 At:codS.rd w b 2 = some r.At
 name:w.cell? ⟨b,4,none⟩ = some (.string (str r.Name))
 sub:rdI w b 5 = some r.Sub
 heads:w.cell? ⟨b,37,none⟩ = some (.slice r.A r.n r.c)
 self:codT.rd w b 0 = some r
theorem itAt {w:World} {b:Nat} {r:ItW} (h:codT.rd w b 0 = some r):ItAt w b r:=by
 have e (k:Nat) {v:Value} (hv:(codT.cs r)[k]? = some v):=by simpa using Cod.rd_cell h k hv
 have s (k:Nat) {x:St} (hv:∀ j v,(codS.cs x)[j]? = some v → (codT.cs r)[k + j]? = some v):=by simpa using Cod.rd_part (C':=codS) h k hv
 exact ⟨s 0 (get2 _ _ 0 rfl rfl),s 2 (get2 _ _ 2 rfl rfl),e 4 rfl,
  by simpa using Cod.rdI_part h 5 (getApp r.Sub [.int .i64 r.Node.T,.int .i64 r.Node.R,.int .i64 r.At.T,.int .i64 r.At.R,.string (str r.Name)] _ 5 rfl),
  e 37 (getEnd r.Sub [.int .i64 r.Node.T,.int .i64 r.Node.R,.int .i64 r.At.T,.int .i64 r.At.R,.string (str r.Name)] [.slice r.A r.n r.c] 37 rfl 0),h⟩
structure HdAt (w:World) (b:Nat) (r:Hd):Prop where
 At:codS.rd w b 0 = some r.At
 data:rdI w b 2 = some r.Data
 self:codH.rd w b 0 = some r
theorem hdAt {w:World} {b:Nat} {r:Hd} (h:codH.rd w b 0 = some r):HdAt w b r:=by
 have s (k:Nat) {x:St} (hv:∀ j v,(codS.cs x)[j]? = some v → (codH.cs r)[k + j]? = some v):=by simpa using Cod.rd_part (C':=codS) h k hv
 have g:=getApp r.Data [.int .i64 r.At.T,.int .i64 r.At.R] [] 2 rfl
 rw [List.append_nil] at g
 exact ⟨s 0 (get2 _ _ 0 rfl rfl),by simpa using Cod.rdI_part h 2 g,h⟩
end Go.Proofs.YthehiobacjjakaaGreatDoor
namespace Go.Proofs.YthehiobacjjakaaGreatDoor
open Go.RowKit
structure Same (n:Nat) (w w':World):Prop where
 cell:∀ b o,b < n → w'.cell? ⟨b,o,none⟩ = w.cell? ⟨b,o,none⟩
 st:∀ b o,b < n → codS.rd w' b o = codS.rd w b o
 id:∀ b o,b < n → rdI w' b o = rdI w b o
 hd:∀ b o,b < n → codH.rd w' b o = codH.rd w b o
 op:∀ b o,b < n → codS.rd w' b o = codS.rd w b o
 it:∀ b o,b < n → codT.rd w' b o = codT.rd w b o
theorem Fr.same {w w':World} (f:Fr noB w w'):Same w.heap.size w w' :=
 ⟨fun b o h=>World.cell?_of_block (a:=⟨b,o,none⟩) (f.block b h (by simp [noB])),fun b o h=>Cod.rd_keep (f.block b h (by simp [noB])),fun b o h=>rdI_keep (f.block b h (by simp [noB])),
  fun b o h=>Cod.rd_keep (f.block b h (by simp [noB])),fun b o h=>Cod.rd_keep (f.block b h (by simp [noB])),fun b o h=>Cod.rd_keep (f.block b h (by simp [noB]))⟩
@[irreducible] def wpQ (P:Program) (ops:Array Oper) (C:World → Prop) (Q:Act → Prop) (l:List Oper) (a:Act):Prop:=wpQuiet P ops C Q l a
section
variable {P:Program} {ops:Array Oper} {C:World → Prop} {Q:Act → Prop} {o:Oper} {rest:List Oper} {a:Act} {v:Value}
theorem wpQ_take (hw:Region.wanted o (yielded ops a.tmps) = true) (h:∀ w,C w → (execOp a.eval o).run P w = .ok (.value v) w) (k:wpQ P ops C Q rest (a.put o.dst v)):wpQ P ops C Q (o :: rest) a:=by
 unfold wpQ at k ⊢
 unfold wpQuiet
 rw [if_pos hw]
 refine ⟨v,fun w hC=>?_,k⟩
 unfold Oper.quietAt
 rw [h w hC]
 exact ⟨rfl,rfl⟩
theorem wpQ_call (hw:Region.wanted o (yielded ops a.tmps) = true) (h:∀ w,C w → ∃ f args,(execOp a.eval o).run P w = .ok (.enter f args) w ∧ Calls P f args w (fun e w''=>e = .returned v ∧ C w'')) (k:wpQ P ops C Q rest (a.put o.dst v)):wpQ P ops C Q (o :: rest) a:=by
 unfold wpQ at k ⊢
 unfold wpQuiet
 rw [if_pos hw]
 refine ⟨v,fun w hC=>?_,k⟩
 obtain ⟨f,args,h1,h2⟩:=h w hC
 unfold Oper.quietAt
 rw [h1]
 exact ⟨rfl,h2⟩
theorem wpQ_off (hw:Region.wanted o (yielded ops a.tmps) = false) (k:wpQ P ops C Q rest (a.put o.dst undef)):wpQ P ops C Q (o :: rest) a:=by
 unfold wpQ at k ⊢
 unfold wpQuiet
 rw [if_neg (by rw [hw];exact Bool.false_ne_true)]
 exact k
theorem wpQ_nil (h:Q a):wpQ P ops C Q [] a:=by
 unfold wpQ
 exact h
theorem Calls.fr {f:FuncId} {args:Array Value} {W w:World} (hC:Fr noB W w) (h:Calls P f args w (Gives w v)):Calls P f args w (fun e w''=>e = .returned v ∧ Fr noB W w'') :=
 h.mono fun _ _ ⟨h1,h2⟩=>⟨h1,hC.step0 h2⟩
theorem Gives.val {u:Value} {f:FuncId} {args:Array Value} {w:World} (h:Calls P f args w (Gives w v)) (e:v = u):Calls P f args w (Gives w u):=e ▸ h
theorem wp_region_fr {id:Nat} {Q:Exit → Act → World → Prop} {a:Act} {w:World} {l:List Oper} (hm:P.follows .mixedOrders = true) (hB:Region.lexB .any l.toArray = true)
  (h:wpQ P l.toArray (Fr noB w) (fun a'=>∀ w',Fr noB w w' → Q .normal a' w') l a):(Code.region id l.toArray true).wp P Q a w:=by
 unfold wpQ at h
 exact wp_region_quiet (C:=Fr noB w) hm hB (Fr.refl noB w).drew (by simpa using h)
end
end Go.Proofs.YthehiobacjjakaaGreatDoor
