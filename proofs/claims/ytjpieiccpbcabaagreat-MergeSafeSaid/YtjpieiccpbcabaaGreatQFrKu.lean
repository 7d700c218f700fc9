/- Values of several cells (structs, arrays) by value: the walk never looks into one. One text for all types. Boxes that hold a value of several cells; rules for the operations on such values. Stamps, heads, operations, items, commits and tags as values; the rules of the walk for them. Equality of stamps as values. Contracts: enc.Id, enc.Text. Contracts: the reader's take, Done, Text. Contract: the reader's Id. Stamps as values that the walk never looks into: contracts of stamp.Right, fixed, Cmp, get, put; obj.getAt, at. Parts of operations, items, commits, tags. Drawn regions whose operations read, and whose callees make new memory alone and hand back one value: one walk in the text's order. -/
import Derived.Test.YtjpieiccpbcabaaGreatProg
import Derived.Test.YtjpieiccpbcabaaGreatShaCmpKu
import Derived.Deep.MidRow
import Derived.Deep.WholeRow
import Derived.WalkSpells
import Derived.Outline
import Derived.Test.YtjpieiccpbcabaaGreatBoxOKu
import Derived.Test.YtjpieiccpbcabaaGreatObjPKu
import Derived.Test.YtjpieiccpbcabaaGreatNumWKu
import Derived.Test.YtjpieiccpbcabaaGreatStWKu
import Derived.Laws.StructEq
import Derived.Lib.AppendStr
import Derived.Laws.CopyRow
import Derived.Laws.IdiomCopy
import Derived.Laws.Rows
import Derived.Deep.Quiet
set_option linter.unusedVariables false
set_option linter.unusedSimpArgs false
namespace Go.Proofs.YtjpieiccpbcabaaGreat
open Go.RowKit
structure Cod (α:Type) where
 t:TypeId
 n:Nat
 cs:α → List Value
 z:α
 len:∀ x,(cs x).length = n
 pos:0 < n
 one:∀ x,∀ u ∈ cs x,u.oneCell' = true
 inj:∀ x y,cs x = cs y → x = y
structure CodOk {α:Type} (P:Program) (C:Cod α):Prop where
 und:∃ d,P.underlying C.t = some d ∧ d.isRow = true
 info:(P.info? C.t).map (·.size) = some C.n
 zero:∀ w,(zeroValue C.t).run P w = .ok (.agg (C.cs C.z).toArray) w
section
variable {α:Type} (C:Cod α)
@[irreducible] def Cod.A (x:α):Array Value:=(C.cs x).toArray
theorem Cod.A_eq (x:α):C.A x = (C.cs x).toArray:=by unfold Cod.A;rfl
abbrev Cod.v (x:α):Value:=.agg (C.A x)
theorem Cod.v_cells (x:α):(C.v x).cells = (C.cs x).toArray:=by simp [Value.cells,C.A_eq]
theorem Cod.A_inj {x y:α} (h:C.A x = C.A y):x = y:=by
 rw [C.A_eq,C.A_eq] at h
 exact C.inj _ _ (by simpa using congrArg Array.toList h)
theorem Cod.v_inj {x y:α} (h:C.v x = C.v y):x = y:=by injection h with h;exact C.A_inj h
def Cod.Rd (w:World) (b o:Nat) (x:α):Prop:=w.rangeAt b o (C.cs x)
open Classical in
noncomputable def Cod.rd (w:World) (b o:Nat):Option α:=if h:∃ x,C.Rd w b o x then some h.choose else none
variable {C}
theorem Cod.Rd.uniq {w:World} {b o:Nat} {x y:α} (hx:C.Rd w b o x) (hy:C.Rd w b o y):x = y:=by
 refine C.inj _ _ (List.ext_getElem? fun j=>?_)
 by_cases hj:j < C.n
 ·have ex:(C.cs x)[j]? = some ((C.cs x)[j]'(by rw [C.len];exact hj)):=List.getElem?_eq_getElem _
  have ey:(C.cs y)[j]? = some ((C.cs y)[j]'(by rw [C.len];exact hj)):=List.getElem?_eq_getElem _
  have:=(hx j _ ex).symm.trans (hy j _ ey)
  rw [ex,ey,this]
 ·rw [List.getElem?_eq_none (by rw [C.len];omega),List.getElem?_eq_none (by rw [C.len];omega)]
theorem Cod.Rd.rd {w:World} {b o:Nat} {x:α} (h:C.Rd w b o x):C.rd w b o = some x:=by
 unfold Cod.rd
 have hx:∃ x,C.Rd w b o x:=⟨x,h⟩
 rw [dif_pos hx]
 exact congrArg some (hx.choose_spec.uniq h)
theorem Cod.rd_rd {w:World} {b o:Nat} {x:α} (h:C.rd w b o = some x):C.Rd w b o x:=by
 unfold Cod.rd at h
 split at h
 ·rename_i hx
  injection h with h
  rw [← h];exact hx.choose_spec
 ·cases h
theorem Cod.rd_congr {w w':World} {b o o':Nat} (h:∀ x,C.Rd w b o x ↔ C.Rd w' b o' x):C.rd w b o = C.rd w' b o':=by
 cases hx:C.rd w b o with
 | some x=>exact ((h x).1 (Cod.rd_rd hx)).rd.symm
 | none =>
  cases hy:C.rd w' b o' with
  | none=>rfl
  | some y=>rw [((h y).2 (Cod.rd_rd hy)).rd] at hx;cases hx
theorem Cod.Rd.keep {w w':World} {b o:Nat} {x:α} (h:C.Rd w b o x) (hb:w'.heap[b]? = w.heap[b]?):C.Rd w' b o x:=fun j v hv=>(World.cell?_of_block (a:=⟨b,o + j,none⟩) hb).trans (h j v hv)
theorem Cod.rd_keep {w w':World} {b o:Nat} (hb:w'.heap[b]? = w.heap[b]?):C.rd w' b o = C.rd w b o:=Cod.rd_congr fun x=>⟨fun h=>h.keep hb.symm,fun h=>h.keep hb⟩
theorem Cod.Rd.lt {w:World} {b o:Nat} {x:α} (h:C.Rd w b o x):b < w.heap.size:=by
 have hl:0 < (C.cs x).length:=by rw [C.len];exact C.pos
 exact World.block_lt_of_cell? _ _ (h 0 _ (List.getElem?_eq_getElem hl))
theorem Cod.rd_lt {w:World} {b o:Nat} {x:α} (h:C.rd w b o = some x):b < w.heap.size:=(Cod.rd_rd h).lt
theorem Cod.rd_fr {M:Nat → Prop} {w w':World} {b o:Nat} {x:α} (h:C.rd w b o = some x) (f:Fr M w w') (hM:¬ M b):C.rd w' b o = some x:=(Cod.rd_keep (f.block b (Cod.rd_lt h) hM)).trans h
theorem Cod.rd_fr0 {w w':World} {b o:Nat} {x:α} (h:C.rd w b o = some x) (f:Fr noB w w'):C.rd w' b o = some x:=Cod.rd_fr h f (by simp [noB])
theorem Cod.Rd.new (w:World) (t:TypeId) (x:α):C.Rd (w.alloc (.cells (C.A x) t)) w.heap.size 0 x:=by
 intro j v hv
 have hh:(w.alloc (.cells (C.A x) t)).heap[w.heap.size]? = some (.cells (C.A x) t):=heap_alloc_new w _
 simp only [C.A_eq] at hh ⊢
 rw [Nat.zero_add,cell_of_row _ _ j (C.cs x).toArray t (0,0) hh]
 simpa using hv
@[simp] theorem Cod.rd_new (w:World) (t:TypeId) (x:α):C.rd (w.alloc (.cells (C.A x) t)) w.heap.size 0 = some x:=(Cod.Rd.new w t x).rd
theorem Cod.Rd.part {β:Type} {C':Cod β} {w:World} {b o:Nat} {x:α} {y:β} (h:C.Rd w b o x) (k:Nat) (hs:∀ j v,(C'.cs y)[j]? = some v → (C.cs x)[k + j]? = some v):C'.Rd w b (o + k) y :=
 fun j v hv=>by rw [Nat.add_assoc];exact h _ _ (hs j v hv)
theorem Cod.rd_part {β:Type} {C':Cod β} {w:World} {b o:Nat} {x:α} {y:β} (h:C.rd w b o = some x) (k:Nat) (hs:∀ j v,(C'.cs y)[j]? = some v → (C.cs x)[k + j]? = some v):C'.rd w b (o + k) = some y:=((Cod.rd_rd h).part k hs).rd
theorem Cod.rd_cell {w:World} {b o:Nat} {x:α} (h:C.rd w b o = some x) (k:Nat) {v:Value} (hv:(C.cs x)[k]? = some v):w.cell? ⟨b,o + k,none⟩ = some v:=Cod.rd_rd h k v hv
end
section
variable {α:Type} {C:Cod α} {P:Program} (H:CodOk P C)
include H
theorem CodOk.ld {w:World} {b o:Nat} {x:α} (h:C.rd w b o = some x):(Instr.loadAt C.t (.pointer (some ⟨b,o,none⟩))).run P w = .ok (C.v x) w:=by
 obtain ⟨d,h1,h2⟩:=H.und
 simp only [Cod.v,C.A_eq]
 exact run_loadAt_mid w b o C.t (C.cs x) d (Cod.rd_rd h) h1 h2 (by rw [C.len];exact H.info)
theorem CodOk.ex_ld {ρ:Operand → Value} {o:Oper} {a:Operand} {w:World} {b off:Nat} {x:α} (ho:o.op = .load C.t a) (ha:ρ a = .pointer (some ⟨b,off,none⟩)) (hr:C.rd w b off = some x) :
  (execOp ρ o).run P w = .ok (.value (C.v x)) w:=by
 unfold execOp
 simp only [ho,ha,Sem.run_bind,H.ld hr,Result.andThen_ok,Sem.run_pure]
omit H in
theorem Cod.bx (w:World) (x:α):(Instr.box C.t (C.v x)).run P w = .ok (.pointer (some ⟨w.heap.size,0,none⟩)) (w.alloc (.cells (C.A x) C.t)):=by
 simp [Instr.box,newVar,newRow,newObj,Value.cells,Sem.run,Result.andThen]
theorem CodOk.zv (w:World):(zeroValue C.t).run P w = .ok (C.v C.z) w:=by
 simp only [Cod.v,C.A_eq];exact H.zero w
theorem CodOk.al (w:World):(Instr.alloc C.t true (.tuple #[])).run P w = .ok (.pointer (some ⟨w.heap.size,0,none⟩)) (w.alloc (.cells (C.A C.z) C.t)):=by
 have:=Cod.bx (C:=C) (P:=P) w C.z
 simp only [Instr.alloc,Sem.run_bind,H.zv,Result.andThen_ok]
 exact this
theorem CodOk.ex_al {ρ:Operand → Value} {o:Oper} (ho:o.op = .alloc C.t) (w:World):(execOp ρ o).run P w = .ok (.value (.pointer (some ⟨w.heap.size,0,none⟩))) (w.alloc (.cells (C.A C.z) C.t)):=by
 unfold execOp
 simp only [ho,Sem.run_bind,H.al,Result.andThen_ok,Sem.run_pure]
theorem CodOk.st_new (w:World) (x y:α):(Instr.storeAt C.t (.pointer (some ⟨w.heap.size,0,none⟩)) (C.v x)).run P (w.alloc (.cells (C.A y) C.t)) = .ok () (w.alloc (.cells (C.A x) C.t)):=by
 simp only [Cod.v,C.A_eq]
 exact run_storeAt_new w C.t _ _ (by rw [List.size_toArray,C.len];exact H.info) (by simp [C.len]) (all_oneCell_toArray (C.one _))
end
/-! rows -/
section
variable {α:Type} (C:Cod α)
def Cod.row (l:List α):List Value:=l.flatMap C.cs
variable {C}
theorem Cod.row_len (l:List α):(C.row l).length = l.length * C.n:=by
 induction l with
 | nil=>simp [Cod.row]
 | cons x l ih=>simp only [Cod.row,List.flatMap_cons,List.length_append,C.len,List.length_cons,Nat.add_mul,Nat.one_mul] at ih ⊢;omega
theorem Cod.row_append (l m:List α):C.row (l ++ m) = C.row l ++ C.row m:=by simp [Cod.row]
theorem Cod.row_one (l:List α):∀ u ∈ C.row l,u.oneCell' = true:=by
 intro u hu
 simp only [Cod.row,List.mem_flatMap] at hu
 obtain ⟨x,_,hu⟩:=hu
 exact C.one x u hu
theorem Cod.row_ne {l:List α} (h:l ≠ []):C.row l ≠ []:=by
 intro h0
 have:=Cod.row_len (C:=C) l
 rw [h0] at this
 have h1:=List.length_pos_iff.2 h
 have:=Nat.mul_pos h1 C.pos
 simp at *;omega
theorem Cod.row_get (l:List α) (i j:Nat) (hi:i < l.length) (v:Value) (hv:(C.cs l[i])[j]? = some v):(C.row l)[i * C.n + j]? = some v:=by
 induction l generalizing i with
 | nil=>simp at hi
 | cons x l ih =>
  have hj:j < C.n:=by have:=(List.getElem?_eq_some_iff.1 hv).1;rw [C.len] at this;exact this
  simp only [Cod.row,List.flatMap_cons]
  cases i with
  | zero =>
   rw [List.getElem?_append_left (by rw [C.len];omega)]
   simpa using hv
  | succ i =>
   rw [List.getElem?_append_right (by rw [C.len,Nat.add_mul];omega),C.len]
   have:=ih i (by simpa using hi) (by simpa using hv)
   rw [show (i + 1) * C.n + j - C.n = i * C.n + j by rw [Nat.add_mul];omega]
   exact this
theorem Sl.rd {w:World} {g off:Nat} {l:List α} (h:Sl w (some ⟨g,off,none⟩) (C.row l)) (i:Nat) (hi:i < l.length):C.rd w g (off + i * C.n) = some l[i]:=by
 refine Cod.Rd.rd fun j v hv=>?_
 have hne:C.row l ≠ []:=Cod.row_ne (by intro h0;subst h0;simp at hi)
 obtain ⟨g',off',e,_,hc⟩:=h hne
 injection e with e
 injection e with e1 e2
 subst e1;subst e2
 have:=hc _ v (Cod.row_get l i j hi v hv)
 rwa [← Nat.add_assoc] at this
theorem Sl.addr {w:World} {A:Option Addr} {l:List α} (h:Sl w A (C.row l)) (hl:0 < l.length):∃ g off,A = some ⟨g,off,none⟩ ∧ g < w.heap.size:=by
 obtain ⟨g,off,e,hg,_⟩:=h (Cod.row_ne (by intro h0;subst h0;simp at hl))
 exact ⟨g,off,e,hg⟩
theorem own_row {w:World} {base:Nat} {e:TypeId} {n:Nat} {v:Value} {l:List α} (h:w.ownsRow base e C.n v n (C.row l)):w.ownsRow base e C.n v l.length (C.row l):=by
 have hn:n = l.length:=by
  have:=h.1
  rw [Cod.row_len] at this
  exact Nat.eq_of_mul_eq_mul_right C.pos this.symm
 subst hn;exact h
end
abbrev OwnC {α:Type} (C:Cod α) (w0 w:World) (A:Option Addr) (c:Nat) (l:List α):Prop:=w.ownsRow w0.heap.size C.t C.n (.slice A l.length c) l.length (C.row l)
theorem ownBlock_sl' (A:Option Addr) (n c:Nat):(Value.slice A n c).ownBlock = A.map (·.block):=by cases A <;> rfl
section
variable {α:Type} {C:Cod α} {P:Program} {t bytes:Nat} (H:ET P t C.t C.n bytes) (w0 w:World)
include H
theorem wpList_appC' {ops:Array Oper} {rest:List Oper} {o:Oper} {a:Act} {Q:Exit → Act → World → Prop} (hgd:o.guard = none) (s x:Operand)
  (ho:o.op = .call { callee:=.builtin .append,args:=#[s,x],argTypes:=#[t,t] })
  (As:Option Addr) (ns cs:Nat) (lo:List α) (hs:a.eval s = .slice As ns cs) (hns:lo.length = ns) (hown:OwnC C w0 w As cs lo)
  (A:Option Addr) (m c:Nat) (news:List α) (hx:a.eval x = .slice A m c) (hr:Sl w A (C.row news)) (hl:news.length = m)
  (hbytes:(lo.length + news.length) * bytes ≤ 140737488355328) (hbase:w0.heap.size ≤ w.heap.size)
  (h:∀ A' c' w',(lo ++ news).length ≤ c' → c' ≤ maxLen → OwnC C w0 w' A' c' (lo ++ news) → w.grownBy w' (As.map (·.block)) →
   (A'.map (·.block) = As.map (·.block) ∨ A'.map (·.block) = some w.heap.size) → wpList P ops Q rest (a.put o.dst (.slice A' (lo ++ news).length c')) w') :
  wpList P ops Q (o :: rest) a w:=by
 subst hns
 refine wpList_app w H hgd s x ho w0.heap.size _ lo.length (C.row lo) hs hown A m c (C.row news) hx hr (by rw [Cod.row_len,hl]) (Cod.row_one _) (by rw [← hl];exact hbytes) hbase ?_
 intro v' w' h1 h2 h3
 rw [← Cod.row_append] at h1
 have h1':=own_row h1
 obtain ⟨A',c',rfl,hc1,hc2⟩:=own_form h1'
 rw [ownBlock_sl',ownBlock_sl'] at h3
 rw [ownBlock_sl'] at h2
 exact h A' c' w' hc1 hc2 h1' h2 h3
theorem step_appC' {ops:Array Oper} {o:Oper} {a:Act} {K:Act → World → Prop} {Q:Exit → Act → World → Prop} {E:Prop} (hgd:o.guard = none) (s x:Operand)
  (ho:o.op = .call { callee:=.builtin .append,args:=#[s,x],argTypes:=#[t,t] })
  (As:Option Addr) (ns cs:Nat) (lo:List α) (hs:a.eval s = .slice As ns cs) (hns:lo.length = ns) (hown:OwnC C w0 w As cs lo)
  (A:Option Addr) (m c:Nat) (news:List α) (hx:a.eval x = .slice A m c) (hr:Sl w A (C.row news)) (hl:news.length = m)
  (hbytes:(lo.length + news.length) * bytes ≤ 140737488355328) (hbase:w0.heap.size ≤ w.heap.size)
  (h:∀ A' c' w',(lo ++ news).length ≤ c' → c' ≤ maxLen → OwnC C w0 w' A' c' (lo ++ news) → w.grownBy w' (As.map (·.block)) →
   (A'.map (·.block) = As.map (·.block) ∨ A'.map (·.block) = some w.heap.size) → K (a.put o.dst (.slice A' (lo ++ news).length c')) w') :
  if Region.wanted o (yielded ops a.tmps) = true then Oper.wp P o a w K Q else E:=by
 have hw:Region.wanted o (yielded ops a.tmps) = true:=by simp [Region.wanted,hgd]
 rw [if_pos hw]
 subst hns
 refine wp_app w H s x ho w0.heap.size _ lo.length (C.row lo) hs hown A m c (C.row news) hx hr (by rw [Cod.row_len,hl]) (Cod.row_one _) (by rw [← hl];exact hbytes) hbase ?_
 intro v' w' h1 h2 h3
 rw [← Cod.row_append] at h1
 have h1':=own_row h1
 obtain ⟨A',c',rfl,hc1,hc2⟩:=own_form h1'
 rw [ownBlock_sl',ownBlock_sl'] at h3
 rw [ownBlock_sl'] at h2
 exact h A' c' w' hc1 hc2 h1' h2 h3
end
end Go.Proofs.YtjpieiccpbcabaaGreat
namespace Go.Proofs.YtjpieiccpbcabaaGreat
open Go.RowKit
theorem setCells_row (b:Nat) (t:TypeId):∀ (vs:List Value) (w:World) (c:List Value) (o:Nat),w.heap[b]? = some (.cells c.toArray t (0,0)) → o + vs.length ≤ c.length → w.setCells b o vs = ChangeMaps.setBlock w b (.cells (c.take o ++ vs ++ c.drop (o + vs.length)).toArray t (0,0)):=by
 have hw:∀ (vs:List Value) (w:World) (c:List Value) (o:Nat),w.heap[b]? = some (.cells c.toArray t (0,0)) → o + vs.length ≤ c.length → (w.setCells b o vs).heap = w.heap.setIfInBounds b (.cells (c.take o ++ vs ++ c.drop (o + vs.length)).toArray t (0,0)) ∧ (w.setCells b o vs) = { w with heap:=(w.setCells b o vs).heap }:=by
  intro vs
  induction vs with
  | nil =>
   intro w c o hc ho
   refine ⟨?_,rfl⟩
   simp only [World.setCells,List.append_nil,List.length_nil,Nat.add_zero,List.take_append_drop]
   apply Array.ext_getElem?
   intro k
   rw [Array.getElem?_setIfInBounds]
   split
   ·rename_i e;subst e;rw [if_pos (Array.getElem?_eq_some_iff.1 hc).1];exact hc
   ·rfl
  | cons v vs ih =>
   intro w c o hc ho
   simp only [List.length_cons] at ho
   have h1:(w.setCell ⟨b,o,none⟩ v).heap[b]? = some (.cells (c.set o v).toArray t (0,0)):=Blk.set (cs:=c) hc o v
   obtain ⟨e1,e2⟩:=ih (w.setCell ⟨b,o,none⟩ v) (c.set o v) (o + 1) h1 (by simp;omega)
   rw [World.setCells]
   refine ⟨?_,?_⟩
   ·rw [e1]
    have e3:(c.set o v).take (o + 1) ++ vs ++ (c.set o v).drop (o + 1 + vs.length) = c.take o ++ (v :: vs) ++ c.drop (o + (v :: vs).length):=by
     rw [List.take_add_one,List.take_set_of_le (Nat.le_refl _),List.getElem?_set_self (by omega),List.drop_set_of_lt (by omega)]
     simp [Nat.add_comm,Nat.add_left_comm]
    rw [e3]
    apply Array.ext_getElem?
    intro k
    rw [Array.getElem?_setIfInBounds,Array.getElem?_setIfInBounds]
    have es:(w.setCell ⟨b,o,none⟩ v).heap.size = w.heap.size:=by simp [World.setCell]
    rw [es]
    split
    ·rfl
    ·rename_i hne
     exact Below.heap_setCell w ⟨b,o,none⟩ v k (fun e=>hne e.symm)
   ·rw [e2];rfl
 intro vs w c o h ho
 obtain ⟨e1,e2⟩:=hw vs w c o h ho
 rw [e2,e1]
 rfl
section
variable {α:Type} (C:Cod α)
@[irreducible] def Cod.o (x:α):Obj:=.cells (C.A x) C.t
theorem Cod.o_eq (x:α):C.o x = .cells (C.cs x).toArray C.t (0,0):=by unfold Cod.o;rw [C.A_eq]
theorem Cod.o_inj {x y:α} (h:C.o x = C.o y):x = y:=by
 unfold Cod.o at h
 injection h with h
 exact C.A_inj h
open Classical in
noncomputable def Cod.bxd (w:World) (b:Nat):Option α:=if h:∃ x,w.heap[b]? = some (C.o x) then some h.choose else none
variable {C}
theorem Cod.bxd_of {w:World} {b:Nat} {x:α} (h:w.heap[b]? = some (C.o x)):C.bxd w b = some x:=by
 unfold Cod.bxd
 have hx:∃ x,w.heap[b]? = some (C.o x):=⟨x,h⟩
 rw [dif_pos hx]
 have:=h.symm.trans hx.choose_spec
 injection this with this
 exact congrArg some (C.o_inj this).symm
theorem Cod.bxd_at {w:World} {b:Nat} {x:α} (h:C.bxd w b = some x):w.heap[b]? = some (C.o x):=by
 unfold Cod.bxd at h
 split at h
 ·rename_i hx
  injection h with h
  rw [← h];exact hx.choose_spec
 ·cases h
theorem Cod.bxd_blk {w:World} {b:Nat} {x:α} (h:C.bxd w b = some x):Blk w b C.t (C.cs x):=by
 have:=Cod.bxd_at h
 rw [C.o_eq] at this
 exact this
theorem Cod.bxd_lt {w:World} {b:Nat} {x:α} (h:C.bxd w b = some x):b < w.heap.size:=(Array.getElem?_eq_some_iff.1 (Cod.bxd_at h)).1
theorem Cod.bxd_rd {w:World} {b:Nat} {x:α} (h:C.bxd w b = some x):C.rd w b 0 = some x:=by
 refine Cod.Rd.rd fun j v hv=>?_
 rw [Nat.zero_add,(Cod.bxd_blk h).cell j]
 exact hv
theorem Cod.bxd_keep {w w':World} {b:Nat} (hb:w'.heap[b]? = w.heap[b]?):C.bxd w' b = C.bxd w b:=by
 cases hx:C.bxd w b with
 | some x=>exact Cod.bxd_of (hb.trans (Cod.bxd_at hx))
 | none =>
  cases hy:C.bxd w' b with
  | none=>rfl
  | some y=>rw [Cod.bxd_of (hb.symm.trans (Cod.bxd_at hy))] at hx;cases hx
theorem Cod.bxd_fr {M:Nat → Prop} {w w':World} {b:Nat} {x:α} (h:C.bxd w b = some x) (f:Fr M w w') (hM:¬ M b):C.bxd w' b = some x:=(Cod.bxd_keep (f.block b (Cod.bxd_lt h) hM)).trans h
theorem Cod.bxd_fr0 {w w':World} {b:Nat} {x:α} (h:C.bxd w b = some x) (f:Fr noB w w'):C.bxd w' b = some x:=Cod.bxd_fr h f (by simp [noB])
@[simp] theorem Cod.bxd_new (w:World) (x:α):C.bxd (w.alloc (C.o x)) w.heap.size = some x:=Cod.bxd_of (heap_alloc_new w _)
theorem Cod.rd_new' (w:World) (x:α):C.rd (w.alloc (C.o x)) w.heap.size 0 = some x:=Cod.bxd_rd (Cod.bxd_new w x)
theorem Cod.rdI_part {w:World} {b o:Nat} {x:α} {y:ID} (h:C.rd w b o = some x) (k:Nat) (hs:∀ j v,(bv y.1)[j]? = some v → (C.cs x)[k + j]? = some v):rdI w b (o + k) = some y :=
 Rd.rdI fun j v hv=>by rw [Nat.add_assoc];exact Cod.rd_rd h _ _ (hs j v hv)
variable (C) in
def Cod.put (w:World) (b:Nat) (x:α):World:=ChangeMaps.setBlock w b (C.o x)
theorem Cod.put_fr {w:World} {b:Nat} {y:α} (h:C.bxd w b = some y) (x:α):Fr (oneB b) w (C.put w b x) ∧ (C.put w b x).heap.size = w.heap.size ∧ C.bxd (C.put w b x) b = some x:=by
 obtain ⟨h1,h2,h3⟩:=frameMap (Cod.bxd_lt h) (C.o x)
 exact ⟨h1,h2,Cod.bxd_of h3⟩
theorem Cod.store_part {w:World} {b:Nat} {y:α} (h:C.bxd w b = some y) (t:TypeId) (xs:List Value) (o:Nat) (y':α) (hi:(Tryz.prog.info? t).map (·.size) = some xs.length) (h1:∀ u ∈ xs,u.oneCell' = true)
  (ho:o + xs.length ≤ C.n) (hs:(C.cs y).take o ++ xs ++ (C.cs y).drop (o + xs.length) = C.cs y'):(Instr.storeAt t (.pointer (some ⟨b,o,none⟩)) (.agg xs.toArray)).run Tryz.prog w = .ok () (C.put w b y'):=by
 have hh:=Cod.bxd_blk h
 have hrun:=run_storeAt_mid (P:=Tryz.prog) w b o t xs.toArray (fun j hj=>by
  rw [List.size_toArray] at hj
  refine ⟨?_,hh.frozen _⟩
  rw [hh.cell]
  have:o + j < (C.cs y).length:=by rw [C.len];omega
  simp [this]) (by rw [List.size_toArray];exact hi) (all_oneCell_toArray h1)
 rw [setCells_row b C.t xs w (C.cs y) o hh (by rw [C.len];exact ho),hs] at hrun
 unfold Cod.put
 rw [C.o_eq]
 exact hrun
theorem Cod.bxd_set {w:World} {b:Nat} {y:α} (h:C.bxd w b = some y) (o:Nat) (v:Value) (y':α) (hs:(C.cs y).set o v = C.cs y'):C.bxd (w.setCell ⟨b,o,none⟩ v) b = some y':=by
 refine Cod.bxd_of ?_
 have:=(Cod.bxd_blk h).set o v
 rw [hs] at this
 rw [C.o_eq]
 exact this
theorem Cod.set_fr (w:World) (b o:Nat) (v:Value):Fr (oneB b) w (w.setCell ⟨b,o,none⟩ v):=(Fr.refl (oneB b) w).setCell (p:=⟨b,o,none⟩) (fun _=>rfl) _
variable (C) in
noncomputable def Cod.ldR (w:World) (v:Value) (r:Result Next):Result Next:=match v with
 | .pointer (some ⟨b,off,none⟩)=>(match C.rd w b off with | some x=>.ok (.value (C.v x)) w | none=>r)
 | _=>r
@[simp] theorem Cod.ldR_at (w:World) (b off:Nat) (r:Result Next):C.ldR w (.pointer (some ⟨b,off,none⟩)) r = match C.rd w b off with | some x=>.ok (.value (C.v x)) w | none=>r:=rfl
variable (C) in
@[irreducible] noncomputable def Cod.stR (w:World) (v u:Value):Result Next:=((Instr.storeAt C.t v u).run Tryz.prog w).andThen (fun _ w=>.ok .skip w)
variable (H:CodOk Tryz.prog C)
include H
theorem CodOk.ldOp (ρ:Operand → Value) (o:Oper) (a:Operand) (ho:o.op = .load C.t a) (w:World):(execOp ρ o).run Tryz.prog w = C.ldR w (ρ a) (exElse ρ o w):=by
 have he:exElse ρ o w = (execOp ρ o).run Tryz.prog w:=by unfold exElse;rfl
 rw [he]
 unfold Cod.ldR
 split
 ·rename_i b off hv
  cases h:C.rd w b off with
  | none=>rfl
  | some x=>exact H.ex_ld ho hv h
 ·rfl
theorem CodOk.alOp (ρ:Operand → Value) (o:Oper) (ho:o.op = .alloc C.t) (w:World):(execOp ρ o).run Tryz.prog w = .ok (.value (.pointer (some ⟨w.heap.size,0,none⟩))) (w.alloc (C.o C.z)):=by
 rw [H.ex_al ho w]
 unfold Cod.o
 rfl
omit H in
theorem Cod.stOp (ρ:Operand → Value) (o:Oper) (a x:Operand) (ho:o.op = .store C.t a x) (w:World):(execOp ρ o).run Tryz.prog w = C.stR w (ρ a) (ρ x):=by
 unfold execOp Cod.stR
 simp only [ho,Sem.run_bind,Sem.run_pure]
theorem CodOk.stR_new (w:World) (x y:α):C.stR (w.alloc (C.o y)) (.pointer (some ⟨w.heap.size,0,none⟩)) (C.v x) = .ok .skip (w.alloc (C.o x)):=by
 unfold Cod.stR Cod.o
 rw [H.st_new w x y]
 rfl
theorem CodOk.stR_part {β:Type} {D:Cod β} {w:World} {b:Nat} {y:β} (h:D.bxd w b = some y) (x:α) (o:Nat) (y':β) (ho:o + C.n ≤ D.n) (hs:(D.cs y).take o ++ C.cs x ++ (D.cs y).drop (o + C.n) = D.cs y') :
  C.stR w (.pointer (some ⟨b,o,none⟩)) (C.v x) = .ok .skip (D.put w b y'):=by
 unfold Cod.stR Cod.v
 rw [C.A_eq,Cod.store_part h C.t (C.cs x) o y' (by rw [C.len];exact H.info) (C.one x) (by rw [C.len];exact ho) (by rw [C.len];exact hs)]
 rfl
theorem CodOk.stR_box {w:World} {b:Nat} {y:α} (h:C.bxd w b = some y) (x:α):C.stR w (.pointer (some ⟨b,0,none⟩)) (C.v x) = .ok .skip (C.put w b x):=by
 refine H.stR_part h x 0 x (by omega) ?_
 rw [List.take_zero,List.nil_append,Nat.zero_add,List.drop_eq_nil_of_le (by rw [C.len];exact Nat.le_refl _),List.append_nil]
end
/-! '[]T{x}' -/
section
variable {α:Type} (C:Cod α)
@[irreducible] def Cod.ro (l:List α):Obj:=.cells (C.row l).toArray C.t
variable {C}
theorem Cod.ro_eq (l:List α):C.ro l = .cells (C.row l).toArray C.t (0,0):=by unfold Cod.ro;rfl
theorem Cod.sl_new (w:World) (l:List α):Sl (w.alloc (C.ro l)) (some ⟨w.heap.size,0,none⟩) (C.row l):=by
 rw [C.ro_eq];exact Sl.new w C.t (C.row l)
theorem CodOk.bs1 (H:CodOk Tryz.prog C) (ts:TypeId) (hu:Tryz.prog.underlying ts = some (.slice C.t)) (hsz:∀ w,(sizeOf C.t).run Tryz.prog w = .ok C.n w) (hn:C.n ≤ 2 ^ 24) (w:World) (x:α) :
  (Instr.buildSlice ts 1 #[(0,C.v x)]).run Tryz.prog w = .ok (.slice (some ⟨w.heap.size,0,none⟩) 1 1) (w.alloc (C.ro [x])):=by
 have hzs:(Array.range (1 * C.n)).map ((C.v C.z).cells[· % (C.v C.z).cells.size]!) = ([] ++ C.cs C.z ++ []).toArray:=by
  rw [C.v_cells]
  apply Array.ext_getElem?
  intro i
  rw [List.nil_append,List.append_nil,Array.getElem?_map,Nat.one_mul]
  by_cases hi:i < C.n
  ·have hi2:i < (C.cs C.z).length:=by rw [C.len];exact hi
   rw [Array.getElem?_range,if_pos hi,List.getElem?_toArray]
   simp only [Option.map_some,List.size_toArray,C.len,Nat.mod_eq_of_lt hi]
   rw [List.getElem?_eq_getElem hi2,getElem!_pos _ _ (by simpa using hi2)]
   simp
  ·rw [Array.getElem?_range,if_neg hi,List.getElem?_toArray,List.getElem?_eq_none (by rw [C.len];omega)]
   rfl
 have h1:Instr.fill (fun i=>some (i * C.n,C.n)) ([] ++ C.cs C.z ++ []).toArray [(0,C.v x)] = some (C.row [x]).toArray :=
  (fill_one (fun i=>some (i * C.n,C.n)) [] (C.cs C.z) [] (C.cs x) 0 (C.v x) [] (C.v_cells x) (by simp [C.len]) (by simp [C.len])).trans (by simp [Instr.fill,Cod.row])
 have hpos:=C.pos
 simp only [Instr.buildSlice,Sem.run_bind,run_underlying hu,Result.andThen_ok,hsz,H.zv]
 have a1:¬ (1 * C.n > 2 ^ 24):=by omega
 have a2:¬ (1 * C.n = 0):=by omega
 simp only [a1,a2,if_false,Sem.run_bind,H.zv,Result.andThen_ok,Sem.run_pure,hzs,h1]
 simp [newRow,newObj,C.ro_eq,Sem.run,Result.andThen]
@[irreducible] noncomputable def bsR (ts:TypeId) (w:World) (v:Value):Result Next:=((Instr.buildSlice ts 1 #[(0,v)]).run Tryz.prog w).andThen (fun v w=>.ok (.value v) w)
theorem bsOp (ts:TypeId) (ρ:Operand → Value) (o:Oper) (a:Operand) (ho:o.op = .buildSlice ts 1 #[(0,a)]) (w:World):(execOp ρ o).run Tryz.prog w = bsR ts w (ρ a):=by
 unfold execOp bsR
 simp only [ho,List.map_toArray,List.map_cons,List.map_nil,Sem.run_bind,Sem.run_pure]
end
end Go.Proofs.YtjpieiccpbcabaaGreat
namespace Go.Proofs.YtjpieiccpbcabaaGreat
open Go.RowKit
theorem str_inj {l m:List UInt8} (h:str l = str m):l = m:=by
 have:=congrArg ByteArray.data h
 simpa [str] using this
theorem bv_app_inj {x y:ID} {l m:List Value} (h:bv x.1 ++ l = bv y.1 ++ m):x = y ∧ l = m:=by
 have hl:(bv x.1).length = (bv y.1).length:=by rw [bv_length,bv_length,x.2,y.2]
 obtain ⟨h1,h2⟩:=List.append_inj h hl
 exact ⟨Subtype.ext (bv_inj h1),h2⟩
structure OpW where
 Kind:Int
 At:St
 Node:St
 Parent:St
 Name:List UInt8
 Data:ID
 A:Option Addr
 n:Nat
 c:Nat
structure ItW where
 Node:St
 At:St
 Name:List UInt8
 Sub:ID
 A:Option Addr
 n:Nat
 c:Nat
structure CgW where
 PA:Option Addr
 pn:Nat
 pc:Nat
 Time:Int
 R:Int
 OA:Option Addr
 on:Nat
 oc:Nat
 Tree:ID
 Msg:List UInt8
def csS (s:St):List Value:=[.int .i64 s.T,.int .i64 s.R]
def csH (h:Hd):List Value:=.int .i64 h.At.T :: .int .i64 h.At.R :: bv h.Data.1
def csO (r:OpW):List Value:=.int .i64 r.Kind :: .int .i64 r.At.T :: .int .i64 r.At.R :: .int .i64 r.Node.T :: .int .i64 r.Node.R :: .int .i64 r.Parent.T :: .int .i64 r.Parent.R :: .string (str r.Name) :: (bv r.Data.1 ++ [.slice r.A r.n r.c])
def csC (r:CgW):List Value:=.slice r.PA r.pn r.pc :: .int .i64 r.Time :: .int .i64 r.R :: .slice r.OA r.on r.oc :: (bv r.Tree.1 ++ [.string (str r.Msg)])
def zHd:Hd:=⟨zSt,zID⟩
def zOpW:OpW:=⟨0,zSt,zSt,zSt,[],zID,none,0,0⟩
def zCgW:CgW:=⟨none,0,0,0,0,none,0,0,zID,[]⟩
theorem one_bv {l m:List Value} {x:ID} (hl:∀ u ∈ l,u.oneCell' = true) (hm:∀ u ∈ m,u.oneCell' = true):∀ u ∈ l ++ (bv x.1 ++ m),u.oneCell' = true:=by
 intro u hu
 rcases List.mem_append.1 hu with h | h
 ·exact hl u h
 ·rcases List.mem_append.1 h with h | h
  ·exact bv_one _ u h
  ·exact hm u h
def codS:Cod St:=⟨80,2,csS,zSt,fun _=>rfl,by decide,fun x u hu=>by simp [csS] at hu;rcases hu with rfl | rfl <;> rfl,fun x y h=>by
 obtain ⟨a,b⟩:=x;obtain ⟨c,d⟩:=y;simp [csS] at h;obtain ⟨rfl,rfl⟩:=h;rfl⟩
def codH:Cod Hd:=⟨149,34,csH,zHd,fun x=>by simp [csH,x.Data.2],by decide,fun x u hu=>by
  have:=one_bv (l:=[.int .i64 x.At.T,.int .i64 x.At.R]) (m:=[]) (x:=x.Data) (by simp;exact ⟨rfl,rfl⟩) (by simp) u (by simpa [csH] using hu)
  exact this,fun x y h=>by
 obtain ⟨⟨a,b⟩,d⟩:=x;obtain ⟨⟨a',b'⟩,d'⟩:=y
 simp only [csH,List.cons.injEq,Value.int.injEq,true_and] at h
 obtain ⟨rfl,rfl,h⟩:=h
 obtain ⟨rfl,_⟩:=bv_app_inj (x:=d) (y:=d') (l:=[]) (m:=[]) (by rw [List.append_nil,List.append_nil];exact h)
 rfl⟩
def codO:Cod OpW:=⟨83,41,csO,zOpW,fun x=>by simp [csO,x.Data.2],by decide,fun x u hu=>by
  have:=one_bv (l:=[.int .i64 x.Kind,.int .i64 x.At.T,.int .i64 x.At.R,.int .i64 x.Node.T,.int .i64 x.Node.R,.int .i64 x.Parent.T,.int .i64 x.Parent.R,.string (str x.Name)]) (m:=[.slice x.A x.n x.c]) (x:=x.Data) (by simp;exact ⟨rfl,rfl,rfl,rfl,rfl,rfl,rfl,rfl⟩) (by simp;rfl) u (by simpa [csO] using hu)
  exact this,fun x y h=>by
 obtain ⟨k,⟨a,b⟩,⟨a2,b2⟩,⟨a3,b3⟩,nm,d,A,n,c⟩:=x;obtain ⟨k',⟨a',b'⟩,⟨a2',b2'⟩,⟨a3',b3'⟩,nm',d',A',n',c'⟩:=y
 simp only [csO] at h;simp only [List.cons.injEq,Value.int.injEq,Value.string.injEq,true_and] at h
 obtain ⟨rfl,rfl,rfl,rfl,rfl,rfl,rfl,hn,h⟩:=h
 obtain ⟨rfl,h5⟩:=bv_app_inj h
 have hn:=str_inj hn
 subst hn
 injection h5 with h6 _
 injection h6 with h1 h2 h3
 subst h1 h2 h3
 rfl⟩
def codC:Cod CgW:=⟨35,37,csC,zCgW,fun x=>by simp [csC,x.Tree.2],by decide,fun x u hu=>by
  have:=one_bv (l:=[.slice x.PA x.pn x.pc,.int .i64 x.Time,.int .i64 x.R,.slice x.OA x.on x.oc]) (m:=[.string (str x.Msg)]) (x:=x.Tree) (by simp;exact ⟨rfl,rfl,rfl,rfl⟩) (by simp;rfl) u (by simpa [csC] using hu)
  exact this,fun x y h=>by
 obtain ⟨A,n,c,a,b,A2,n2,c2,d,m⟩:=x;obtain ⟨A',n',c',a',b',A2',n2',c2',d',m'⟩:=y
 simp only [csC] at h;simp only [List.cons.injEq,Value.int.injEq,Value.slice.injEq,true_and] at h
 obtain ⟨⟨rfl,rfl,rfl⟩,rfl,rfl,⟨rfl,rfl,rfl⟩,h⟩:=h
 obtain ⟨rfl,h5⟩:=bv_app_inj h
 injection h5 with h6 _
 injection h6 with h6
 have hn:=str_inj h6
 subst hn
 rfl⟩
theorem ex_buildG (t:TypeId) (ρ:Operand → Value) (o:Oper) (ps:Array (Nat × Operand)) (w w':World) (v:Value) (ho:o.op = .build t ps) (h:(Instr.build t (ps.map fun (i,x)=>(i,ρ x))).run Tryz.prog w = .ok v w'):(execOp ρ o).run Tryz.prog w = .ok (.value v) w':=by
 unfold execOp
 simp only [ho,Sem.run_bind,h,Result.andThen_ok,Sem.run_pure]
theorem okS:CodOk Tryz.prog codS:=⟨⟨_,Tryz.underlying80,rfl⟩,by kernel_rfl,fun w=>(zero_of_info (P:=Tryz.prog) (t:=80) (v:=.agg (codS.cs codS.z).toArray) (n:=2) (by kernel_rfl)).1 w⟩
@[simp ↓] theorem ex_ldS (ρ:Operand → Value) (d:Option Nat) (a:Operand) (t:TypeId) (p:String) (f:Array Edge) (g:Option (Nat × Bool)) (w:World) :
  (execOp ρ { dst:=d,op:=.load 80 a,type:=t,pos:=p,after:=f,guard:=g }).run Tryz.prog w = codS.ldR w (ρ a) (exElse ρ { dst:=d,op:=.load 80 a,type:=t,pos:=p,after:=f,guard:=g } w):=okS.ldOp ρ _ a rfl w
@[simp ↓] theorem ex_alS (ρ:Operand → Value) (d:Option Nat) (t:TypeId) (p:String) (f:Array Edge) (g:Option (Nat × Bool)) (w:World) :
  (execOp ρ { dst:=d,op:=.alloc 80,type:=t,pos:=p,after:=f,guard:=g }).run Tryz.prog w = .ok (.value (.pointer (some ⟨w.heap.size,0,none⟩))) (w.alloc (codS.o zSt)):=okS.alOp ρ _ rfl w
@[simp ↓] theorem ex_stS (ρ:Operand → Value) (a x:Operand) (d:Option Nat) (t:TypeId) (p:String) (f:Array Edge) (g:Option (Nat × Bool)) (w:World) :
  (execOp ρ { dst:=d,op:=.store 80 a x,type:=t,pos:=p,after:=f,guard:=g }).run Tryz.prog w = codS.stR w (ρ a) (ρ x):=Cod.stOp (C:=codS) ρ _ a x rfl w
@[simp] theorem st_newS (w:World) (x y:St):codS.stR (w.alloc (codS.o y)) (.pointer (some ⟨w.heap.size,0,none⟩)) (.agg (codS.A x)) = .ok .skip (w.alloc (codS.o x)):=okS.stR_new w x y
theorem ex_ldS_at {ρ:Operand → Value} {o:Oper} {a:Operand} {w:World} {b off:Nat} {x:St} (ho:o.op = .load 80 a) (ha:ρ a = .pointer (some ⟨b,off,none⟩)) (hr:codS.rd w b off = some x) :
  (execOp ρ o).run Tryz.prog w = .ok (.value (.agg (codS.A x))) w:=okS.ex_ld ho ha hr
@[simp] theorem bld0_S (w:World):(Instr.build 80 #[]).run Tryz.prog w = .ok (.agg (codS.A zSt)) w:=by
 rw [Cod.A_eq]
 kernel_rfl
@[simp ↓] theorem ex_b0S (ρ:Operand → Value) (d:Option Nat) (t:TypeId) (p:String) (f:Array Edge) (g:Option (Nat × Bool)) (w:World) :
  (execOp ρ { dst:=d,op:=.build 80 #[],type:=t,pos:=p,after:=f,guard:=g }).run Tryz.prog w = .ok (.value (.agg (codS.A zSt))) w:=by
 refine ex_buildG 80 ρ _ #[] w w _ rfl ?_
 rw [List.map_toArray,List.map_nil]
 exact bld0_S w
theorem okH:CodOk Tryz.prog codH:=⟨⟨_,Tryz.underlying149,rfl⟩,by kernel_rfl,fun w=>(zero_of_info (P:=Tryz.prog) (t:=149) (v:=.agg (codH.cs codH.z).toArray) (n:=34) (by kernel_rfl)).1 w⟩
@[simp ↓] theorem ex_ldH (ρ:Operand → Value) (d:Option Nat) (a:Operand) (t:TypeId) (p:String) (f:Array Edge) (g:Option (Nat × Bool)) (w:World) :
  (execOp ρ { dst:=d,op:=.load 149 a,type:=t,pos:=p,after:=f,guard:=g }).run Tryz.prog w = codH.ldR w (ρ a) (exElse ρ { dst:=d,op:=.load 149 a,type:=t,pos:=p,after:=f,guard:=g } w):=okH.ldOp ρ _ a rfl w
@[simp ↓] theorem ex_alH (ρ:Operand → Value) (d:Option Nat) (t:TypeId) (p:String) (f:Array Edge) (g:Option (Nat × Bool)) (w:World) :
  (execOp ρ { dst:=d,op:=.alloc 149,type:=t,pos:=p,after:=f,guard:=g }).run Tryz.prog w = .ok (.value (.pointer (some ⟨w.heap.size,0,none⟩))) (w.alloc (codH.o zHd)):=okH.alOp ρ _ rfl w
@[simp ↓] theorem ex_stH (ρ:Operand → Value) (a x:Operand) (d:Option Nat) (t:TypeId) (p:String) (f:Array Edge) (g:Option (Nat × Bool)) (w:World) :
  (execOp ρ { dst:=d,op:=.store 149 a x,type:=t,pos:=p,after:=f,guard:=g }).run Tryz.prog w = codH.stR w (ρ a) (ρ x):=Cod.stOp (C:=codH) ρ _ a x rfl w
@[simp] theorem st_newH (w:World) (x y:Hd):codH.stR (w.alloc (codH.o y)) (.pointer (some ⟨w.heap.size,0,none⟩)) (.agg (codH.A x)) = .ok .skip (w.alloc (codH.o x)):=okH.stR_new w x y
theorem ex_ldH_at {ρ:Operand → Value} {o:Oper} {a:Operand} {w:World} {b off:Nat} {x:Hd} (ho:o.op = .load 149 a) (ha:ρ a = .pointer (some ⟨b,off,none⟩)) (hr:codH.rd w b off = some x) :
  (execOp ρ o).run Tryz.prog w = .ok (.value (.agg (codH.A x))) w:=okH.ex_ld ho ha hr
theorem okO:CodOk Tryz.prog codO:=⟨⟨_,Tryz.underlying83,rfl⟩,by kernel_rfl,fun w=>(zero_of_info (P:=Tryz.prog) (t:=83) (v:=.agg (codO.cs codO.z).toArray) (n:=41) (by kernel_rfl)).1 w⟩
@[simp ↓] theorem ex_ldO (ρ:Operand → Value) (d:Option Nat) (a:Operand) (t:TypeId) (p:String) (f:Array Edge) (g:Option (Nat × Bool)) (w:World) :
  (execOp ρ { dst:=d,op:=.load 83 a,type:=t,pos:=p,after:=f,guard:=g }).run Tryz.prog w = codO.ldR w (ρ a) (exElse ρ { dst:=d,op:=.load 83 a,type:=t,pos:=p,after:=f,guard:=g } w):=okO.ldOp ρ _ a rfl w
@[simp ↓] theorem ex_alO (ρ:Operand → Value) (d:Option Nat) (t:TypeId) (p:String) (f:Array Edge) (g:Option (Nat × Bool)) (w:World) :
  (execOp ρ { dst:=d,op:=.alloc 83,type:=t,pos:=p,after:=f,guard:=g }).run Tryz.prog w = .ok (.value (.pointer (some ⟨w.heap.size,0,none⟩))) (w.alloc (codO.o zOpW)):=okO.alOp ρ _ rfl w
@[simp ↓] theorem ex_stO (ρ:Operand → Value) (a x:Operand) (d:Option Nat) (t:TypeId) (p:String) (f:Array Edge) (g:Option (Nat × Bool)) (w:World) :
  (execOp ρ { dst:=d,op:=.store 83 a x,type:=t,pos:=p,after:=f,guard:=g }).run Tryz.prog w = codO.stR w (ρ a) (ρ x):=Cod.stOp (C:=codO) ρ _ a x rfl w
@[simp] theorem st_newO (w:World) (x y:OpW):codO.stR (w.alloc (codO.o y)) (.pointer (some ⟨w.heap.size,0,none⟩)) (.agg (codO.A x)) = .ok .skip (w.alloc (codO.o x)):=okO.stR_new w x y
theorem ex_ldO_at {ρ:Operand → Value} {o:Oper} {a:Operand} {w:World} {b off:Nat} {x:OpW} (ho:o.op = .load 83 a) (ha:ρ a = .pointer (some ⟨b,off,none⟩)) (hr:codO.rd w b off = some x) :
  (execOp ρ o).run Tryz.prog w = .ok (.value (.agg (codO.A x))) w:=okO.ex_ld ho ha hr
theorem okC:CodOk Tryz.prog codC:=⟨⟨_,Tryz.underlying35,rfl⟩,by kernel_rfl,fun w=>(zero_of_info (P:=Tryz.prog) (t:=35) (v:=.agg (codC.cs codC.z).toArray) (n:=37) (by kernel_rfl)).1 w⟩
@[simp ↓] theorem ex_ldC (ρ:Operand → Value) (d:Option Nat) (a:Operand) (t:TypeId) (p:String) (f:Array Edge) (g:Option (Nat × Bool)) (w:World) :
  (execOp ρ { dst:=d,op:=.load 35 a,type:=t,pos:=p,after:=f,guard:=g }).run Tryz.prog w = codC.ldR w (ρ a) (exElse ρ { dst:=d,op:=.load 35 a,type:=t,pos:=p,after:=f,guard:=g } w):=okC.ldOp ρ _ a rfl w
@[simp ↓] theorem ex_alC (ρ:Operand → Value) (d:Option Nat) (t:TypeId) (p:String) (f:Array Edge) (g:Option (Nat × Bool)) (w:World) :
  (execOp ρ { dst:=d,op:=.alloc 35,type:=t,pos:=p,after:=f,guard:=g }).run Tryz.prog w = .ok (.value (.pointer (some ⟨w.heap.size,0,none⟩))) (w.alloc (codC.o zCgW)):=okC.alOp ρ _ rfl w
@[simp ↓] theorem ex_stC (ρ:Operand → Value) (a x:Operand) (d:Option Nat) (t:TypeId) (p:String) (f:Array Edge) (g:Option (Nat × Bool)) (w:World) :
  (execOp ρ { dst:=d,op:=.store 35 a x,type:=t,pos:=p,after:=f,guard:=g }).run Tryz.prog w = codC.stR w (ρ a) (ρ x):=Cod.stOp (C:=codC) ρ _ a x rfl w
@[simp] theorem st_newC (w:World) (x y:CgW):codC.stR (w.alloc (codC.o y)) (.pointer (some ⟨w.heap.size,0,none⟩)) (.agg (codC.A x)) = .ok .skip (w.alloc (codC.o x)):=okC.stR_new w x y
theorem ex_ldC_at {ρ:Operand → Value} {o:Oper} {a:Operand} {w:World} {b off:Nat} {x:CgW} (ho:o.op = .load 35 a) (ha:ρ a = .pointer (some ⟨b,off,none⟩)) (hr:codC.rd w b off = some x) :
  (execOp ρ o).run Tryz.prog w = .ok (.value (.agg (codC.A x))) w:=okC.ex_ld ho ha hr
noncomputable def mkS (w:World) (v u:Value) (r:Result Next):Result Next:=match v,u with
 | .int .i64 a,.int .i64 b=>.ok (.value (.agg (codS.A ⟨a,b⟩))) w
 | _,_=>r
@[simp] theorem mkS_at (w:World) (a b:Int) (r:Result Next):mkS w (.int .i64 a) (.int .i64 b) r = .ok (.value (.agg (codS.A ⟨a,b⟩))) w:=rfl
noncomputable def mkS1 (f:Int → St) (w:World) (v:Value) (r:Result Next):Result Next:=match v with
 | .int .i64 a=>.ok (.value (.agg (codS.A (f a)))) w
 | _=>r
@[simp] theorem mkS1_at (f:Int → St) (w:World) (a:Int) (r:Result Next):mkS1 f w (.int .i64 a) r = .ok (.value (.agg (codS.A (f a)))) w:=rfl
theorem bldS2 (w:World) (a b:Int):(Instr.build 80 #[(0,.int .i64 a),(1,.int .i64 b)]).run Tryz.prog w = .ok (.agg (codS.A ⟨a,b⟩)) w:=by
 rw [Cod.A_eq];go_simp;rfl
@[simp ↓] theorem ex_bldS2 (ρ:Operand → Value) (x y:Operand) (d:Option Nat) (t:TypeId) (p:String) (f:Array Edge) (g:Option (Nat × Bool)) (w:World) :
  (execOp ρ { dst:=d,op:=.build 80 #[(0,x),(1,y)],type:=t,pos:=p,after:=f,guard:=g }).run Tryz.prog w = mkS w (ρ x) (ρ y) (exElse ρ { dst:=d,op:=.build 80 #[(0,x),(1,y)],type:=t,pos:=p,after:=f,guard:=g } w):=by
 have he:∀ o,exElse ρ o w = (execOp ρ o).run Tryz.prog w:=by intro o;unfold exElse;rfl
 rw [he]
 unfold mkS
 split
 ·rename_i a b hv hu
  refine ex_buildG 80 ρ _ #[(0,x),(1,y)] w w _ rfl ?_
  have:=bldS2 w a b
  simpa [hv,hu] using this
 ·rfl
/-! rows -/
theorem etS:ET Tryz.prog 81 codS.t codS.n 16:=ET.mk' (z:=.agg (codS.cs codS.z).toArray) Tryz.underlying81 (by kernel_rfl) (by simp only [Value.cells];kernel_rfl) (by decide) (by decide)
theorem etH:ET Tryz.prog 108 codH.t codH.n 48:=ET.mk' (z:=.agg (codH.cs codH.z).toArray) Tryz.underlying108 (by kernel_rfl) (by simp only [Value.cells];kernel_rfl) (by decide) (by decide)
theorem bs_H (w:World) (x:Hd):(Instr.buildSlice 108 1 #[(0,.agg (codH.A x))]).run Tryz.prog w = .ok (.slice (some ⟨w.heap.size,0,none⟩) 1 1) (w.alloc (codH.ro [x])):=okH.bs1 108 Tryz.underlying108 Tryz.sizeOf149 (by decide) w x
@[simp ↓] theorem ex_bsH (ρ:Operand → Value) (a:Operand) (d:Option Nat) (t:TypeId) (p:String) (f:Array Edge) (g:Option (Nat × Bool)) (w:World) :
  (execOp ρ { dst:=d,op:=.buildSlice 108 1 #[(0,a)],type:=t,pos:=p,after:=f,guard:=g }).run Tryz.prog w = bsR 108 w (ρ a):=bsOp 108 ρ _ a rfl w
@[simp] theorem bsR_H (w:World) (x:Hd):bsR 108 w (.agg (codH.A x)) = .ok (.value (.slice (some ⟨w.heap.size,0,none⟩) 1 1)) (w.alloc (codH.ro [x])):=by
 unfold bsR;rw [bs_H];rfl
theorem etO:ET Tryz.prog 33 codO.t codO.n 128:=ET.mk' (z:=.agg (codO.cs codO.z).toArray) Tryz.underlying33 (by kernel_rfl) (by simp only [Value.cells];kernel_rfl) (by decide) (by decide)
theorem bs_O (w:World) (x:OpW):(Instr.buildSlice 33 1 #[(0,.agg (codO.A x))]).run Tryz.prog w = .ok (.slice (some ⟨w.heap.size,0,none⟩) 1 1) (w.alloc (codO.ro [x])):=okO.bs1 33 Tryz.underlying33 Tryz.sizeOf83 (by decide) w x
@[simp ↓] theorem ex_bsO (ρ:Operand → Value) (a:Operand) (d:Option Nat) (t:TypeId) (p:String) (f:Array Edge) (g:Option (Nat × Bool)) (w:World) :
  (execOp ρ { dst:=d,op:=.buildSlice 33 1 #[(0,a)],type:=t,pos:=p,after:=f,guard:=g }).run Tryz.prog w = bsR 33 w (ρ a):=bsOp 33 ρ _ a rfl w
@[simp] theorem bsR_O (w:World) (x:OpW):bsR 33 w (.agg (codO.A x)) = .ok (.value (.slice (some ⟨w.heap.size,0,none⟩) 1 1)) (w.alloc (codO.ro [x])):=by
 unfold bsR;rw [bs_O];rfl
end Go.Proofs.YtjpieiccpbcabaaGreat
namespace Go.Proofs.YtjpieiccpbcabaaGreat
open Go.RowKit
theorem neq_of_eql {P:Program} {t:TypeId} {xs ys:Array Value} {w:World} {b:Bool} (h:(binOp .eql t (.agg xs) (.agg ys)).run P w = .ok (.bool b) w):(binOp .neq t (.agg xs) (.agg ys)).run P w = .ok (.bool (!b)) w:=by
 rw [run_eql_struct] at h
 rw [run_neq_struct]
 generalize (Op.equalIn 10000 t (.agg xs) (.agg ys)).run P w = r at h
 cases r with
 | ok c w' =>
  simp only [Result.andThen_ok] at h ⊢
  injection h with h1 h2
  injection h1 with h1
  rw [h1,h2]
 | halt x w'=>cases h
theorem decS (x y:St):decide (x = y) = ((x.T == y.T) && (x.R == y.R)):=by
 obtain ⟨a,b⟩:=x;obtain ⟨c,d⟩:=y
 rw [Bool.eq_iff_iff];simp
theorem A_S (x:St):codS.A x = #[.int .i64 x.T,.int .i64 x.R]:=Cod.A_eq codS x
theorem eqS_raw (w:World) (a b c d:Int):(binOp .eql 80 (.agg #[.int .i64 a,.int .i64 b]) (.agg #[.int .i64 c,.int .i64 d])).run Tryz.prog w = .ok (.bool ((a == c) && (b == d))) w:=by
 go_simp
 by_cases h1:a = c <;> by_cases h2:b = d <;> simp [h1,h2]
@[simp] theorem eq_S (w:World) (x y:St):(binOp .eql 80 (.agg (codS.A x)) (.agg (codS.A y))).run Tryz.prog w = .ok (.bool (decide (x = y))) w:=by
 rw [A_S,A_S,eqS_raw,decS]
@[simp] theorem neq_S (w:World) (x y:St):(binOp .neq 80 (.agg (codS.A x)) (.agg (codS.A y))).run Tryz.prog w = .ok (.bool (!decide (x = y))) w:=neq_of_eql (eq_S w x y)
end Go.Proofs.YtjpieiccpbcabaaGreat
namespace Go.Proofs.YtjpieiccpbcabaaGreat
open Go.RowKit
abbrev OwnB (w0 w:World) (A:Option Addr) (c:Nat) (l:List UInt8):Prop:=w.ownsRow w0.heap.size 5 1 (.slice A l.length c) l.length (bv l)
theorem ownBlock_slice (A:Option Addr) (n c:Nat):(Value.slice A n c).ownBlock = A.map (·.block):=by cases A <;> rfl
theorem step_appC (w0 w:World) {ops:Array Oper} {o:Oper} {a:Act} {K:Act → World → Prop} {Q:Exit → Act → World → Prop} {E:Prop} (hgd:o.guard = none) (s x:Operand)
  (ho:o.op = .call { callee:=.builtin .append,args:=#[s,x],argTypes:=#[134,134] })
  (As:Option Addr) (ns cs:Nat) (lo:List UInt8) (hs:a.eval s = .slice As ns cs) (hns:lo.length = ns) (hown:OwnB w0 w As cs lo)
  (A:Option Addr) (m c:Nat) (news:List UInt8) (hx:a.eval x = .slice A m c) (hr:Sl w A (bv news)) (hl:news.length = m)
  (hbytes:lo.length + news.length ≤ 140737488355328) (hbase:w0.heap.size ≤ w.heap.size)
  (h:∀ A' c' w',(lo ++ news).length ≤ c' → c' ≤ maxLen → OwnB w0 w' A' c' (lo ++ news) → w.grownBy w' (As.map (·.block)) →
   (A'.map (·.block) = As.map (·.block) ∨ A'.map (·.block) = some w.heap.size) → K (a.put o.dst (.slice A' (lo ++ news).length c')) w') :
  if Region.wanted o (yielded ops a.tmps) = true then Oper.wp Tryz.prog o a w K Q else E:=by
 have hw:Region.wanted o (yielded ops a.tmps) = true:=by simp [Region.wanted,hgd]
 rw [if_pos hw]
 subst hns
 refine wp_app w etBytes s x ho w0.heap.size _ lo.length (bv lo) hs hown A m c (bv news) hx hr (by simp [hl]) (bv_one _) (by rw [← hl];omega) hbase ?_
 intro v' w' h1 h2 h3
 rw [← bv_append] at h1
 have h1':=own_bv h1
 obtain ⟨A',c',rfl,hc1,hc2⟩:=own_form h1'
 rw [ownBlock_slice,ownBlock_slice] at h3
 rw [ownBlock_slice] at h2
 have e:lo.length + m = (lo ++ news).length:=by simp [hl]
 exact h A' c' w' hc1 hc2 h1' h2 h3
theorem sl_arr (w:World) (x:ID):Sl (w.alloc (ido x)) (some ⟨w.heap.size,0,none⟩) (bv x.1):=by
 have:=Sl.new w 24 (bv x.1)
 rw [← idA_eq] at this
 exact this
set_option maxRecDepth 100000 in
theorem eid_any (w:World) (A:Option Addr) (c n:Nat) (l:List UInt8) (hn:l.length = n) (hs:Sl w A (bv l)) (hb:l.length ≤ 140737488355000) (x:ID):Calls Tryz.prog 94 #[.slice A n c,encI x] w (NewBytes w (l ++ x.1)):=by
 subst hn
 have f0:Fr noB w (w.alloc (ido x)):=(Fr.refl noB w).alloc _
 have sx:=sl_arr w x
 have hs1:=hs.fr0 f0
 go_enter Tryz.func94,Tryz.ntmps94
 go_upto_region 1 with fail
 generalize w.alloc (ido x) = w1 at f0 sx hs1 ⊢
 generalize hP:w.heap.size = P at sx ⊢
 have fd:=(Fr.refl noB w1).drew
 go_wp2_with fail
 refine wp_region_M 4 5 [⟨32,1,0⟩,⟨64,32,1⟩,⟨128,8,0⟩,⟨256,192,6⟩,⟨16,256,15⟩] [(true,0),(true,2),(false,1),(false,3)] (fun w'=>True) (by kernel_rfl) rfl (by kernel_rfl) (by kernel_rfl) (by kernel_rfl) trivial (fun hA hF=>?_)
 iterate 2
  refine wpAnyS_take (v:=?_) hA rfl (fun _ _ _ h=>h) (Or.inl ⟨by rfl,?_⟩) hF (fun hA=>?_)
  rotate_left
  ·intro wS hSw;(try dsimp only at hSw);obtain s1:=hSw;(go_simp;try with_reducible rfl)
  try simp only [sA1,sA2,sA3,Act.put,sA4,sA5,sA6]
 refine wpAnyS_one hA rfl (fun K' hK=>?_)
 go_simp
 go_at_call 128
 refine (clone_n _ A c l _ rfl (hs1.fr0 fd) (by omega)).mono ?_
 rintro e w2 ⟨A2,c2,rfl,ho2,f2⟩
 refine hK.out _ _ trivial (fun hA=>?_)
 clear hK K'
 refine wpAnyS_one hA rfl (fun K' hK=>?_)
 have ho3:OwnB w w2 A2 c2 l:=own_base ho2 (Nat.le_trans f0.size fd.size)
 refine step_appC w _ rfl _ _ rfl A2 _ c2 l rfl rfl ho3 (some ⟨P,0,none⟩) 32 _ x.1 rfl ((sx.fr0 fd).fr0 f2) x.2 (by rw [x.2];omega) ((f0.step0 fd).step0 f2).size ?_
 intro A6 c6 w6 hc6 hm6 ho6 hg6 hA6
 have f6:=Fr.ofGrown (M:=fun b=>A2.map (·.block) = some b) hg6 (fun g hg=>hg)
 refine hK.out _ _ trivial (fun hA=>?_)
 clear hK K'
 refine wpAnyS_end hA rfl ?_
 simp only [List.drop_succ_cons,List.drop_zero]
 go_wp2_with fail
 go_ret
 refine ⟨A6,c6,by first | rfl | simp,ho6,((f0.step0 fd).step0 f2).step f6 (fun b hb=>.inl ?_)⟩
 cases A2 with
 | none=>cases hb
 | some a=>simp only [Option.map_some,Option.some.injEq] at hb;rw [← hb];exact (ho3.lt _ (by simp [Value.ownBlock])).1
theorem str_cells (t:List UInt8):Lib.strCells (str t) = bv t:=by simp [Lib.strCells,str,bv,u8v]
theorem str_size (t:List UInt8):(str t).size = t.length:=rfl
set_option maxRecDepth 100000 in
theorem etext_any (w:World) (A:Option Addr) (c n:Nat) (l:List UInt8) (hn:l.length = n) (hs:Sl w A (bv l)) (hb:l.length ≤ 100000000000) (t:List UInt8) (ht:t.length ≤ 100000000000) :
  Calls Tryz.prog 96 #[.slice A n c,.string (str t)] w (NewBytes w (l ++ txB t)):=by
 subst hn
 obtain ⟨i,hi,hi2⟩:=Option.map_eq_some_iff.1 (show (Tryz.prog.info? 5).map (fun i=>(i.zero,i.size,i.bytes)) = some (some (.int .u8 0),1,1) by kernel_rfl)
 simp only [Prod.mk.injEq] at hi2
 have hz:=str_size t
 have HZ:=Lib.hid hz
 go_enter Tryz.func96,Tryz.ntmps96
 go_wp2_with fail
 go_at_call 93
 refine (enum_n w A c l _ rfl hs (by omega) t.length (by omega)).mono ?_
 rintro e w2 ⟨A2,c2,rfl,ho2,f2⟩
 have hnl:=numB_length t.length (by omega)
 have h1:(l ++ numB t.length).length + (str t).size ≤ 140737488355328:=by rw [HZ.out,List.length_append];omega
 have h2:(l ++ numB t.length).length + (str t).size ≤ maxLen:=by unfold maxLen;omega
 have hsz:=f2.size
 clear hz hnl
 generalize hL:l ++ numB t.length = L at ho2 h1 h2 ⊢
 have HL:=Lib.hid hL
 clear hL
 go_wp2_with (at_builtin;refine Lib.wpList_append_own_string _ rfl _ _ 134 9 rfl w.heap.size 5 i Tryz.underlying134 Tryz.underlying9 hi hi2.1 hi2.2.1 hi2.2.2 _ L.length (bv L) rfl ho2 (str t) rfl h2 h1 hsz ?_;intro v6 w6 ho6 hg6 hv6)
 go_ret
 rw [str_cells,← bv_append,← HL.out,List.append_assoc] at ho6
 have f6:Fr (fun b=>A2.map (·.block) = some b) w2 w6:=Fr.ofGrown (M:=fun b=>A2.map (·.block) = some b) hg6 (fun g hg=>by have hg':(Value.slice A2 L.length c2).ownBlock = some g:=hg;rw [ownBlock_slice] at hg';exact hg')
 have:=NewBytes.mk ho6 (f2.step f6 (fun b hb=>.inl (by
  cases A2 with
  | none=>cases hb
  | some a=>simp only [Option.map_some,Option.some.injEq] at hb;rw [← hb];exact (ho2.lt _ (by simp [Value.ownBlock])).1)))
 exact this
end Go.Proofs.YtjpieiccpbcabaaGreat
namespace Go.Proofs.YtjpieiccpbcabaaGreat
open Go.RowKit
end Go.Proofs.YtjpieiccpbcabaaGreat
namespace Go.Proofs.YtjpieiccpbcabaaGreat
open Go.RowKit
theorem vS_eq (s:St):(.agg (codS.A s):Value) = encS s:=by rw [Cod.A_eq];rfl
theorem right_v (w:World) (s:St):Calls Tryz.prog 124 #[.agg (codS.A s)] w (Gives w (.bool (rightS s))):=by rw [vS_eq];exact right_any w s
theorem fixed_v (w:World) (s:St):Calls Tryz.prog 163 #[.agg (codS.A s)] w (Gives w (.bool (fixedS s))):=by rw [vS_eq];exact fixed_any w s
theorem scmp_v (w:World) (a b:St):Calls Tryz.prog 76 #[.agg (codS.A a),.agg (codS.A b)] w (Gives w (.int .i64 (cmpS a b))):=by rw [vS_eq,vS_eq];exact scmp_any w a b
/-! parts -/
theorem get2 (s:St) (l:List Value) (k:Nat) (h0:l[k]? = some (.int .i64 s.T)) (h1:l[k + 1]? = some (.int .i64 s.R)):∀ j v,(codS.cs s)[j]? = some v → l[k + j]? = some v:=by
 intro j v h
 match j with
 | 0=>simp [codS,csS] at h;rw [← h];exact h0
 | 1=>simp [codS,csS] at h;rw [← h];exact h1
 | j + 2=>simp [codS,csS] at h
theorem getApp (x:ID) (l m:List Value) (n:Nat) (hn:l.length = n):∀ j v,(bv x.1)[j]? = some v → (l ++ (bv x.1 ++ m))[n + j]? = some v:=by
 intro j v h
 subst hn
 rw [List.getElem?_append_right (by omega),List.getElem?_append_left (by have:=(List.getElem?_eq_some_iff.1 h).1;omega)]
 rw [Nat.add_sub_cancel_left]
 exact h
theorem getEnd (x:ID) (l m:List Value) (n:Nat) (hn:l.length + 32 = n) (i:Nat):(l ++ (bv x.1 ++ m))[n + i]? = m[i]?:=by
 subst hn
 rw [List.getElem?_append_right (by omega),List.getElem?_append_right (by rw [bv_length,x.2];omega),bv_length,x.2]
 congr 1
 omega
structure OpAt (w:World) (b:Nat) (r:OpW):Prop where
 kind:w.cell? ⟨b,0,none⟩ = some (.int .i64 r.Kind)
 atT:w.cell? ⟨b,1,none⟩ = some (.int .i64 r.At.T)
 atR:w.cell? ⟨b,2,none⟩ = some (.int .i64 r.At.R)
 At:codS.rd w b 1 = some r.At
 node:codS.rd w b 3 = some r.Node
 parent:codS.rd w b 5 = some r.Parent
 name:w.cell? ⟨b,7,none⟩ = some (.string (str r.Name))
 data:rdI w b 8 = some r.Data
 over:w.cell? ⟨b,40,none⟩ = some (.slice r.A r.n r.c)
 self:codO.rd w b 0 = some r
def opL (r:OpW):List Value:=[.int .i64 r.Kind,.int .i64 r.At.T,.int .i64 r.At.R,.int .i64 r.Node.T,.int .i64 r.Node.R,.int .i64 r.Parent.T,.int .i64 r.Parent.R,.string (str r.Name)]
theorem opAt {w:World} {b:Nat} {r:OpW} (h:codO.rd w b 0 = some r):OpAt w b r:=by
 have e (k:Nat) {v:Value} (hv:(codO.cs r)[k]? = some v):=by simpa using Cod.rd_cell h k hv
 have s (k:Nat) {x:St} (hv:∀ j v,(codS.cs x)[j]? = some v → (codO.cs r)[k + j]? = some v):=by simpa using Cod.rd_part (C':=codS) h k hv
 exact ⟨e 0 rfl,e 1 rfl,e 2 rfl,s 1 (get2 _ _ 1 rfl rfl),s 3 (get2 _ _ 3 rfl rfl),s 5 (get2 _ _ 5 rfl rfl),e 7 rfl,
  by simpa using Cod.rdI_part h 8 (getApp r.Data (opL r) _ 8 rfl),e 40 (getEnd r.Data (opL r) [.slice r.A r.n r.c] 40 rfl 0),h⟩
structure HdAt (w:World) (b:Nat) (r:Hd):Prop where
 At:codS.rd w b 0 = some r.At
 data:rdI w b 2 = some r.Data
 self:codH.rd w b 0 = some r
theorem hdAt {w:World} {b:Nat} {r:Hd} (h:codH.rd w b 0 = some r):HdAt w b r:=by
 have s (k:Nat) {x:St} (hv:∀ j v,(codS.cs x)[j]? = some v → (codH.cs r)[k + j]? = some v):=by simpa using Cod.rd_part (C':=codS) h k hv
 have g:=getApp r.Data [.int .i64 r.At.T,.int .i64 r.At.R] [] 2 rfl
 rw [List.append_nil] at g
 exact ⟨s 0 (get2 _ _ 0 rfl rfl),by simpa using Cod.rdI_part h 2 g,h⟩
structure CgAt (w:World) (b:Nat) (r:CgW):Prop where
 parents:w.cell? ⟨b,0,none⟩ = some (.slice r.PA r.pn r.pc)
 time:w.cell? ⟨b,1,none⟩ = some (.int .i64 r.Time)
 R:w.cell? ⟨b,2,none⟩ = some (.int .i64 r.R)
 ops:w.cell? ⟨b,3,none⟩ = some (.slice r.OA r.on r.oc)
 tree:rdI w b 4 = some r.Tree
 msg:w.cell? ⟨b,36,none⟩ = some (.string (str r.Msg))
 self:codC.rd w b 0 = some r
theorem cgAt {w:World} {b:Nat} {r:CgW} (h:codC.rd w b 0 = some r):CgAt w b r:=by
 have e (k:Nat) {v:Value} (hv:(codC.cs r)[k]? = some v):=by simpa using Cod.rd_cell h k hv
 exact ⟨e 0 rfl,e 1 rfl,e 2 rfl,e 3 rfl,
  by simpa using Cod.rdI_part h 4 (getApp r.Tree [.slice r.PA r.pn r.pc,.int .i64 r.Time,.int .i64 r.R,.slice r.OA r.on r.oc] _ 4 rfl),
  e 36 (getEnd r.Tree [.slice r.PA r.pn r.pc,.int .i64 r.Time,.int .i64 r.R,.slice r.OA r.on r.oc] [.string (str r.Msg)] 36 rfl 0),h⟩
end Go.Proofs.YtjpieiccpbcabaaGreat
namespace Go.Proofs.YtjpieiccpbcabaaGreat
open Go.RowKit
structure Same (n:Nat) (w w':World):Prop where
 cell:∀ b o,b < n → w'.cell? ⟨b,o,none⟩ = w.cell? ⟨b,o,none⟩
 st:∀ b o,b < n → codS.rd w' b o = codS.rd w b o
 id:∀ b o,b < n → rdI w' b o = rdI w b o
 hd:∀ b o,b < n → codH.rd w' b o = codH.rd w b o
 op:∀ b o,b < n → codO.rd w' b o = codO.rd w b o
 it:∀ b o,b < n → codS.rd w' b o = codS.rd w b o
theorem Fr.same {w w':World} (f:Fr noB w w'):Same w.heap.size w w' :=
 ⟨fun b o h=>World.cell?_of_block (a:=⟨b,o,none⟩) (f.block b h (by simp [noB])),fun b o h=>Cod.rd_keep (f.block b h (by simp [noB])),fun b o h=>rdI_keep (f.block b h (by simp [noB])),
  fun b o h=>Cod.rd_keep (f.block b h (by simp [noB])),fun b o h=>Cod.rd_keep (f.block b h (by simp [noB])),fun b o h=>Cod.rd_keep (f.block b h (by simp [noB]))⟩
@[irreducible] def wpQ (P:Program) (ops:Array Oper) (C:World → Prop) (Q:Act → Prop) (l:List Oper) (a:Act):Prop:=wpQuiet P ops C Q l a
section
variable {P:Program} {ops:Array Oper} {C:World → Prop} {Q:Act → Prop} {o:Oper} {rest:List Oper} {a:Act} {v:Value}
theorem wpQ_take (hw:Region.wanted o (yielded ops a.tmps) = true) (h:∀ w,C w → (execOp a.eval o).run P w = .ok (.value v) w) (k:wpQ P ops C Q rest (a.put o.dst v)):wpQ P ops C Q (o :: rest) a:=by
 unfold wpQ at k ⊢
 unfold wpQuiet
 rw [if_pos hw]
 refine ⟨v,fun w hC=>?_,k⟩
 unfold Oper.quietAt
 rw [h w hC]
 exact ⟨rfl,rfl⟩
theorem wpQ_call (hw:Region.wanted o (yielded ops a.tmps) = true) (h:∀ w,C w → ∃ f args,(execOp a.eval o).run P w = .ok (.enter f args) w ∧ Calls P f args w (fun e w''=>e = .returned v ∧ C w'')) (k:wpQ P ops C Q rest (a.put o.dst v)):wpQ P ops C Q (o :: rest) a:=by
 unfold wpQ at k ⊢
 unfold wpQuiet
 rw [if_pos hw]
 refine ⟨v,fun w hC=>?_,k⟩
 obtain ⟨f,args,h1,h2⟩:=h w hC
 unfold Oper.quietAt
 rw [h1]
 exact ⟨rfl,h2⟩
theorem wpQ_off (hw:Region.wanted o (yielded ops a.tmps) = false) (k:wpQ P ops C Q rest (a.put o.dst undef)):wpQ P ops C Q (o :: rest) a:=by
 unfold wpQ at k ⊢
 unfold wpQuiet
 rw [if_neg (by rw [hw];exact Bool.false_ne_true)]
 exact k
theorem wpQ_nil (h:Q a):wpQ P ops C Q [] a:=by
 unfold wpQ
 exact h
theorem Calls.fr {f:FuncId} {args:Array Value} {W w:World} (hC:Fr noB W w) (h:Calls P f args w (Gives w v)):Calls P f args w (fun e w''=>e = .returned v ∧ Fr noB W w'') :=
 h.mono fun _ _ ⟨h1,h2⟩=>⟨h1,hC.step0 h2⟩
theorem Gives.val {u:Value} {f:FuncId} {args:Array Value} {w:World} (h:Calls P f args w (Gives w v)) (e:v = u):Calls P f args w (Gives w u):=e ▸ h
theorem wp_region_fr {id:Nat} {Q:Exit → Act → World → Prop} {a:Act} {w:World} {l:List Oper} (hm:P.follows .mixedOrders = true) (hB:Region.lexB .any l.toArray = true)
  (h:wpQ P l.toArray (Fr noB w) (fun a'=>∀ w',Fr noB w w' → Q .normal a' w') l a):(Code.region id l.toArray true).wp P Q a w:=by
 unfold wpQ at h
 exact wp_region_quiet (C:=Fr noB w) hm hB (Fr.refl noB w).drew (by simpa using h)
end
end Go.Proofs.YtjpieiccpbcabaaGreat
