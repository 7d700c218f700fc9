/- Values of several cells (structs, arrays) by value: the walk never looks into one. One text for all types. Boxes that hold a value of several cells; rules for the operations on such values. Stamps, heads, operations, items, commits and tags as values; the rules of the walk for them. -/
import Derived.Test.YtnkdnbjmhoegkaaGreatProg
import Derived.Test.YtnkdnbjmhoegkaaGreatMapRKq
import Derived.Deep.MidRow
import Derived.Deep.WholeRow
import Derived.WalkSpells
import Derived.Outline
import Derived.Test.YtnkdnbjmhoegkaaGreatBoxOKq
import Derived.Test.YtnkdnbjmhoegkaaGreatTreePKq
import Derived.Test.YtnkdnbjmhoegkaaGreatStrsKq
import Derived.Test.YtnkdnbjmhoegkaaGreatStWKq
set_option linter.unusedVariables false
set_option linter.unusedSimpArgs false
namespace Go.Proofs.YtnkdnbjmhoegkaaGreat
open Go.RowKit
structure Cod (α:Type) where
 t:TypeId
 n:Nat
 cs:α → List Value
 z:α
 len:∀ x,(cs x).length = n
 pos:0 < n
 one:∀ x,∀ u ∈ cs x,u.oneCell' = true
 inj:∀ x y,cs x = cs y → x = y
structure CodOk {α:Type} (P:Program) (C:Cod α):Prop where
 und:∃ d,P.underlying C.t = some d ∧ d.isRow = true
 info:(P.info? C.t).map (·.size) = some C.n
 zero:∀ w,(zeroValue C.t).run P w = .ok (.agg (C.cs C.z).toArray) w
section
variable {α:Type} (C:Cod α)
@[irreducible] def Cod.A (x:α):Array Value:=(C.cs x).toArray
theorem Cod.A_eq (x:α):C.A x = (C.cs x).toArray:=by unfold Cod.A;rfl
abbrev Cod.v (x:α):Value:=.agg (C.A x)
theorem Cod.v_cells (x:α):(C.v x).cells = (C.cs x).toArray:=by simp [Value.cells,C.A_eq]
theorem Cod.A_inj {x y:α} (h:C.A x = C.A y):x = y:=by
 rw [C.A_eq,C.A_eq] at h
 exact C.inj _ _ (by simpa using congrArg Array.toList h)
theorem Cod.v_inj {x y:α} (h:C.v x = C.v y):x = y:=by injection h with h;exact C.A_inj h
def Cod.Rd (w:World) (b o:Nat) (x:α):Prop:=w.rangeAt b o (C.cs x)
open Classical in
noncomputable def Cod.rd (w:World) (b o:Nat):Option α:=if h:∃ x,C.Rd w b o x then some h.choose else none
variable {C}
theorem Cod.Rd.uniq {w:World} {b o:Nat} {x y:α} (hx:C.Rd w b o x) (hy:C.Rd w b o y):x = y:=by
 refine C.inj _ _ (List.ext_getElem? fun j=>?_)
 by_cases hj:j < C.n
 ·have ex:(C.cs x)[j]? = some ((C.cs x)[j]'(by rw [C.len];exact hj)):=List.getElem?_eq_getElem _
  have ey:(C.cs y)[j]? = some ((C.cs y)[j]'(by rw [C.len];exact hj)):=List.getElem?_eq_getElem _
  have:=(hx j _ ex).symm.trans (hy j _ ey)
  rw [ex,ey,this]
 ·rw [List.getElem?_eq_none (by rw [C.len];omega),List.getElem?_eq_none (by rw [C.len];omega)]
theorem Cod.Rd.rd {w:World} {b o:Nat} {x:α} (h:C.Rd w b o x):C.rd w b o = some x:=by
 unfold Cod.rd
 have hx:∃ x,C.Rd w b o x:=⟨x,h⟩
 rw [dif_pos hx]
 exact congrArg some (hx.choose_spec.uniq h)
theorem Cod.rd_rd {w:World} {b o:Nat} {x:α} (h:C.rd w b o = some x):C.Rd w b o x:=by
 unfold Cod.rd at h
 split at h
 ·rename_i hx
  injection h with h
  rw [← h];exact hx.choose_spec
 ·cases h
theorem Cod.rd_congr {w w':World} {b o o':Nat} (h:∀ x,C.Rd w b o x ↔ C.Rd w' b o' x):C.rd w b o = C.rd w' b o':=by
 cases hx:C.rd w b o with
 | some x=>exact ((h x).1 (Cod.rd_rd hx)).rd.symm
 | none =>
  cases hy:C.rd w' b o' with
  | none=>rfl
  | some y=>rw [((h y).2 (Cod.rd_rd hy)).rd] at hx;cases hx
theorem Cod.Rd.keep {w w':World} {b o:Nat} {x:α} (h:C.Rd w b o x) (hb:w'.heap[b]? = w.heap[b]?):C.Rd w' b o x:=fun j v hv=>(World.cell?_of_block (a:=⟨b,o + j,none⟩) hb).trans (h j v hv)
theorem Cod.rd_keep {w w':World} {b o:Nat} (hb:w'.heap[b]? = w.heap[b]?):C.rd w' b o = C.rd w b o:=Cod.rd_congr fun x=>⟨fun h=>h.keep hb.symm,fun h=>h.keep hb⟩
theorem Cod.Rd.lt {w:World} {b o:Nat} {x:α} (h:C.Rd w b o x):b < w.heap.size:=by
 have hl:0 < (C.cs x).length:=by rw [C.len];exact C.pos
 exact World.block_lt_of_cell? _ _ (h 0 _ (List.getElem?_eq_getElem hl))
theorem Cod.rd_lt {w:World} {b o:Nat} {x:α} (h:C.rd w b o = some x):b < w.heap.size:=(Cod.rd_rd h).lt
theorem Cod.rd_fr {M:Nat → Prop} {w w':World} {b o:Nat} {x:α} (h:C.rd w b o = some x) (f:Fr M w w') (hM:¬ M b):C.rd w' b o = some x:=(Cod.rd_keep (f.block b (Cod.rd_lt h) hM)).trans h
theorem Cod.rd_fr0 {w w':World} {b o:Nat} {x:α} (h:C.rd w b o = some x) (f:Fr noB w w'):C.rd w' b o = some x:=Cod.rd_fr h f (by simp [noB])
@[simp] theorem Cod.rd_drewN (w:World) (n b o:Nat):C.rd (w.drewN n) b o = C.rd w b o:=Cod.rd_keep rfl
theorem Cod.Rd.new (w:World) (t:TypeId) (x:α):C.Rd (w.alloc (.cells (C.A x) t)) w.heap.size 0 x:=by
 intro j v hv
 have hh:(w.alloc (.cells (C.A x) t)).heap[w.heap.size]? = some (.cells (C.A x) t):=heap_alloc_new w _
 simp only [C.A_eq] at hh ⊢
 rw [Nat.zero_add,cell_of_row _ _ j (C.cs x).toArray t (0,0) hh]
 simpa using hv
@[simp] theorem Cod.rd_new (w:World) (t:TypeId) (x:α):C.rd (w.alloc (.cells (C.A x) t)) w.heap.size 0 = some x:=(Cod.Rd.new w t x).rd
theorem Cod.Rd.part {β:Type} {C':Cod β} {w:World} {b o:Nat} {x:α} {y:β} (h:C.Rd w b o x) (k:Nat) (hs:∀ j v,(C'.cs y)[j]? = some v → (C.cs x)[k + j]? = some v):C'.Rd w b (o + k) y :=
 fun j v hv=>by rw [Nat.add_assoc];exact h _ _ (hs j v hv)
theorem Cod.rd_part {β:Type} {C':Cod β} {w:World} {b o:Nat} {x:α} {y:β} (h:C.rd w b o = some x) (k:Nat) (hs:∀ j v,(C'.cs y)[j]? = some v → (C.cs x)[k + j]? = some v):C'.rd w b (o + k) = some y:=((Cod.rd_rd h).part k hs).rd
theorem Cod.rd_cell {w:World} {b o:Nat} {x:α} (h:C.rd w b o = some x) (k:Nat) {v:Value} (hv:(C.cs x)[k]? = some v):w.cell? ⟨b,o + k,none⟩ = some v:=Cod.rd_rd h k v hv
end
section
variable {α:Type} {C:Cod α} {P:Program} (H:CodOk P C)
include H
theorem CodOk.ld {w:World} {b o:Nat} {x:α} (h:C.rd w b o = some x):(Instr.loadAt C.t (.pointer (some ⟨b,o,none⟩))).run P w = .ok (C.v x) w:=by
 obtain ⟨d,h1,h2⟩:=H.und
 simp only [Cod.v,C.A_eq]
 exact run_loadAt_mid w b o C.t (C.cs x) d (Cod.rd_rd h) h1 h2 (by rw [C.len];exact H.info)
theorem CodOk.ex_ld {ρ:Operand → Value} {o:Oper} {a:Operand} {w:World} {b off:Nat} {x:α} (ho:o.op = .load C.t a) (ha:ρ a = .pointer (some ⟨b,off,none⟩)) (hr:C.rd w b off = some x) :
  (execOp ρ o).run P w = .ok (.value (C.v x)) w:=by
 unfold execOp
 simp only [ho,ha,Sem.run_bind,H.ld hr,Result.andThen_ok,Sem.run_pure]
omit H in
theorem Cod.bx (w:World) (x:α):(Instr.box C.t (C.v x)).run P w = .ok (.pointer (some ⟨w.heap.size,0,none⟩)) (w.alloc (.cells (C.A x) C.t)):=by
 simp [Instr.box,newVar,newRow,newObj,Value.cells,Sem.run,Result.andThen]
theorem CodOk.zv (w:World):(zeroValue C.t).run P w = .ok (C.v C.z) w:=by
 simp only [Cod.v,C.A_eq];exact H.zero w
theorem CodOk.al (w:World):(Instr.alloc C.t true (.tuple #[])).run P w = .ok (.pointer (some ⟨w.heap.size,0,none⟩)) (w.alloc (.cells (C.A C.z) C.t)):=by
 have:=Cod.bx (C:=C) (P:=P) w C.z
 simp only [Instr.alloc,Sem.run_bind,H.zv,Result.andThen_ok]
 exact this
theorem CodOk.ex_al {ρ:Operand → Value} {o:Oper} (ho:o.op = .alloc C.t) (w:World):(execOp ρ o).run P w = .ok (.value (.pointer (some ⟨w.heap.size,0,none⟩))) (w.alloc (.cells (C.A C.z) C.t)):=by
 unfold execOp
 simp only [ho,Sem.run_bind,H.al,Result.andThen_ok,Sem.run_pure]
theorem CodOk.st_new (w:World) (x y:α):(Instr.storeAt C.t (.pointer (some ⟨w.heap.size,0,none⟩)) (C.v x)).run P (w.alloc (.cells (C.A y) C.t)) = .ok () (w.alloc (.cells (C.A x) C.t)):=by
 simp only [Cod.v,C.A_eq]
 exact run_storeAt_new w C.t _ _ (by rw [List.size_toArray,C.len];exact H.info) (by simp [C.len]) (all_oneCell_toArray (C.one _))
end
/-! rows -/
section
variable {α:Type} (C:Cod α)
def Cod.row (l:List α):List Value:=l.flatMap C.cs
variable {C}
theorem Cod.row_len (l:List α):(C.row l).length = l.length * C.n:=by
 induction l with
 | nil=>simp [Cod.row]
 | cons x l ih=>simp only [Cod.row,List.flatMap_cons,List.length_append,C.len,List.length_cons,Nat.add_mul,Nat.one_mul] at ih ⊢;omega
theorem Cod.row_append (l m:List α):C.row (l ++ m) = C.row l ++ C.row m:=by simp [Cod.row]
theorem Cod.row_one (l:List α):∀ u ∈ C.row l,u.oneCell' = true:=by
 intro u hu
 simp only [Cod.row,List.mem_flatMap] at hu
 obtain ⟨x,_,hu⟩:=hu
 exact C.one x u hu
theorem Cod.row_ne {l:List α} (h:l ≠ []):C.row l ≠ []:=by
 intro h0
 have:=Cod.row_len (C:=C) l
 rw [h0] at this
 have h1:=List.length_pos_iff.2 h
 have:=Nat.mul_pos h1 C.pos
 simp at *;omega
theorem Cod.row_get (l:List α) (i j:Nat) (hi:i < l.length) (v:Value) (hv:(C.cs l[i])[j]? = some v):(C.row l)[i * C.n + j]? = some v:=by
 induction l generalizing i with
 | nil=>simp at hi
 | cons x l ih =>
  have hj:j < C.n:=by have:=(List.getElem?_eq_some_iff.1 hv).1;rw [C.len] at this;exact this
  simp only [Cod.row,List.flatMap_cons]
  cases i with
  | zero =>
   rw [List.getElem?_append_left (by rw [C.len];omega)]
   simpa using hv
  | succ i =>
   rw [List.getElem?_append_right (by rw [C.len,Nat.add_mul];omega),C.len]
   have:=ih i (by simpa using hi) (by simpa using hv)
   rw [show (i + 1) * C.n + j - C.n = i * C.n + j by rw [Nat.add_mul];omega]
   exact this
theorem Sl.rd {w:World} {g off:Nat} {l:List α} (h:Sl w (some ⟨g,off,none⟩) (C.row l)) (i:Nat) (hi:i < l.length):C.rd w g (off + i * C.n) = some l[i]:=by
 refine Cod.Rd.rd fun j v hv=>?_
 have hne:C.row l ≠ []:=Cod.row_ne (by intro h0;subst h0;simp at hi)
 obtain ⟨g',off',e,_,hc⟩:=h hne
 injection e with e
 injection e with e1 e2
 subst e1;subst e2
 have:=hc _ v (Cod.row_get l i j hi v hv)
 rwa [← Nat.add_assoc] at this
theorem Sl.addr {w:World} {A:Option Addr} {l:List α} (h:Sl w A (C.row l)) (hl:0 < l.length):∃ g off,A = some ⟨g,off,none⟩ ∧ g < w.heap.size:=by
 obtain ⟨g,off,e,hg,_⟩:=h (Cod.row_ne (by intro h0;subst h0;simp at hl))
 exact ⟨g,off,e,hg⟩
theorem own_row {w:World} {base:Nat} {e:TypeId} {n:Nat} {v:Value} {l:List α} (h:w.ownsRow base e C.n v n (C.row l)):w.ownsRow base e C.n v l.length (C.row l):=by
 have hn:n = l.length:=by
  have:=h.1
  rw [Cod.row_len] at this
  exact Nat.eq_of_mul_eq_mul_right C.pos this.symm
 subst hn;exact h
end
abbrev OwnC {α:Type} (C:Cod α) (w0 w:World) (A:Option Addr) (c:Nat) (l:List α):Prop:=w.ownsRow w0.heap.size C.t C.n (.slice A l.length c) l.length (C.row l)
theorem ownBlock_sl' (A:Option Addr) (n c:Nat):(Value.slice A n c).ownBlock = A.map (·.block):=by cases A <;> rfl
section
variable {α:Type} {C:Cod α} {P:Program} {t bytes:Nat} (H:ET P t C.t C.n bytes) (w0 w:World)
include H
theorem wpList_appC' {ops:Array Oper} {rest:List Oper} {o:Oper} {a:Act} {Q:Exit → Act → World → Prop} (hgd:o.guard = none) (s x:Operand)
  (ho:o.op = .call { callee:=.builtin .append,args:=#[s,x],argTypes:=#[t,t] })
  (As:Option Addr) (ns cs:Nat) (lo:List α) (hs:a.eval s = .slice As ns cs) (hns:lo.length = ns) (hown:OwnC C w0 w As cs lo)
  (A:Option Addr) (m c:Nat) (news:List α) (hx:a.eval x = .slice A m c) (hr:Sl w A (C.row news)) (hl:news.length = m)
  (hbytes:(lo.length + news.length) * bytes ≤ 140737488355328) (hbase:w0.heap.size ≤ w.heap.size)
  (h:∀ A' c' w',(lo ++ news).length ≤ c' → c' ≤ maxLen → OwnC C w0 w' A' c' (lo ++ news) → w.grownBy w' (As.map (·.block)) →
   (A'.map (·.block) = As.map (·.block) ∨ A'.map (·.block) = some w.heap.size) → wpList P ops Q rest (a.put o.dst (.slice A' (lo ++ news).length c')) w') :
  wpList P ops Q (o :: rest) a w:=by
 subst hns
 refine wpList_app w H hgd s x ho w0.heap.size _ lo.length (C.row lo) hs hown A m c (C.row news) hx hr (by rw [Cod.row_len,hl]) (Cod.row_one _) (by rw [← hl];exact hbytes) hbase ?_
 intro v' w' h1 h2 h3
 rw [← Cod.row_append] at h1
 have h1':=own_row h1
 obtain ⟨A',c',rfl,hc1,hc2⟩:=own_form h1'
 rw [ownBlock_sl',ownBlock_sl'] at h3
 rw [ownBlock_sl'] at h2
 exact h A' c' w' hc1 hc2 h1' h2 h3
theorem step_appC' {ops:Array Oper} {o:Oper} {a:Act} {K:Act → World → Prop} {Q:Exit → Act → World → Prop} {E:Prop} (hgd:o.guard = none) (s x:Operand)
  (ho:o.op = .call { callee:=.builtin .append,args:=#[s,x],argTypes:=#[t,t] })
  (As:Option Addr) (ns cs:Nat) (lo:List α) (hs:a.eval s = .slice As ns cs) (hns:lo.length = ns) (hown:OwnC C w0 w As cs lo)
  (A:Option Addr) (m c:Nat) (news:List α) (hx:a.eval x = .slice A m c) (hr:Sl w A (C.row news)) (hl:news.length = m)
  (hbytes:(lo.length + news.length) * bytes ≤ 140737488355328) (hbase:w0.heap.size ≤ w.heap.size)
  (h:∀ A' c' w',(lo ++ news).length ≤ c' → c' ≤ maxLen → OwnC C w0 w' A' c' (lo ++ news) → w.grownBy w' (As.map (·.block)) →
   (A'.map (·.block) = As.map (·.block) ∨ A'.map (·.block) = some w.heap.size) → K (a.put o.dst (.slice A' (lo ++ news).length c')) w') :
  if Region.wanted o (yielded ops a.tmps) = true then Oper.wp P o a w K Q else E:=by
 have hw:Region.wanted o (yielded ops a.tmps) = true:=by simp [Region.wanted,hgd]
 rw [if_pos hw]
 subst hns
 refine wp_app w H s x ho w0.heap.size _ lo.length (C.row lo) hs hown A m c (C.row news) hx hr (by rw [Cod.row_len,hl]) (Cod.row_one _) (by rw [← hl];exact hbytes) hbase ?_
 intro v' w' h1 h2 h3
 rw [← Cod.row_append] at h1
 have h1':=own_row h1
 obtain ⟨A',c',rfl,hc1,hc2⟩:=own_form h1'
 rw [ownBlock_sl',ownBlock_sl'] at h3
 rw [ownBlock_sl'] at h2
 exact h A' c' w' hc1 hc2 h1' h2 h3
end
end Go.Proofs.YtnkdnbjmhoegkaaGreat
namespace Go.Proofs.YtnkdnbjmhoegkaaGreat
open Go.RowKit
theorem setCells_row (b:Nat) (t:TypeId):∀ (vs:List Value) (w:World) (c:List Value) (o:Nat),w.heap[b]? = some (.cells c.toArray t (0,0)) → o + vs.length ≤ c.length → w.setCells b o vs = ChangeMaps.setBlock w b (.cells (c.take o ++ vs ++ c.drop (o + vs.length)).toArray t (0,0)):=by
 have hw:∀ (vs:List Value) (w:World) (c:List Value) (o:Nat),w.heap[b]? = some (.cells c.toArray t (0,0)) → o + vs.length ≤ c.length → (w.setCells b o vs).heap = w.heap.setIfInBounds b (.cells (c.take o ++ vs ++ c.drop (o + vs.length)).toArray t (0,0)) ∧ (w.setCells b o vs) = { w with heap:=(w.setCells b o vs).heap }:=by
  intro vs
  induction vs with
  | nil =>
   intro w c o hc ho
   refine ⟨?_,rfl⟩
   simp only [World.setCells,List.append_nil,List.length_nil,Nat.add_zero,List.take_append_drop]
   apply Array.ext_getElem?
   intro k
   rw [Array.getElem?_setIfInBounds]
   split
   ·rename_i e;subst e;rw [if_pos (Array.getElem?_eq_some_iff.1 hc).1];exact hc
   ·rfl
  | cons v vs ih =>
   intro w c o hc ho
   simp only [List.length_cons] at ho
   have h1:(w.setCell ⟨b,o,none⟩ v).heap[b]? = some (.cells (c.set o v).toArray t (0,0)):=Blk.set (cs:=c) hc o v
   obtain ⟨e1,e2⟩:=ih (w.setCell ⟨b,o,none⟩ v) (c.set o v) (o + 1) h1 (by simp;omega)
   rw [World.setCells]
   refine ⟨?_,?_⟩
   ·rw [e1]
    have e3:(c.set o v).take (o + 1) ++ vs ++ (c.set o v).drop (o + 1 + vs.length) = c.take o ++ (v :: vs) ++ c.drop (o + (v :: vs).length):=by
     rw [List.take_add_one,List.take_set_of_le (Nat.le_refl _),List.getElem?_set_self (by omega),List.drop_set_of_lt (by omega)]
     simp [Nat.add_comm,Nat.add_left_comm]
    rw [e3]
    apply Array.ext_getElem?
    intro k
    rw [Array.getElem?_setIfInBounds,Array.getElem?_setIfInBounds]
    have es:(w.setCell ⟨b,o,none⟩ v).heap.size = w.heap.size:=by simp [World.setCell]
    rw [es]
    split
    ·rfl
    ·rename_i hne
     exact Below.heap_setCell w ⟨b,o,none⟩ v k (fun e=>hne e.symm)
   ·rw [e2];rfl
 intro vs w c o h ho
 obtain ⟨e1,e2⟩:=hw vs w c o h ho
 rw [e2,e1]
 rfl
section
variable {α:Type} (C:Cod α)
@[irreducible] def Cod.o (x:α):Obj:=.cells (C.A x) C.t
theorem Cod.o_eq (x:α):C.o x = .cells (C.cs x).toArray C.t (0,0):=by unfold Cod.o;rw [C.A_eq]
theorem Cod.o_inj {x y:α} (h:C.o x = C.o y):x = y:=by
 unfold Cod.o at h
 injection h with h
 exact C.A_inj h
open Classical in
noncomputable def Cod.bxd (w:World) (b:Nat):Option α:=if h:∃ x,w.heap[b]? = some (C.o x) then some h.choose else none
variable {C}
theorem Cod.bxd_of {w:World} {b:Nat} {x:α} (h:w.heap[b]? = some (C.o x)):C.bxd w b = some x:=by
 unfold Cod.bxd
 have hx:∃ x,w.heap[b]? = some (C.o x):=⟨x,h⟩
 rw [dif_pos hx]
 have:=h.symm.trans hx.choose_spec
 injection this with this
 exact congrArg some (C.o_inj this).symm
theorem Cod.bxd_at {w:World} {b:Nat} {x:α} (h:C.bxd w b = some x):w.heap[b]? = some (C.o x):=by
 unfold Cod.bxd at h
 split at h
 ·rename_i hx
  injection h with h
  rw [← h];exact hx.choose_spec
 ·cases h
theorem Cod.bxd_blk {w:World} {b:Nat} {x:α} (h:C.bxd w b = some x):Blk w b C.t (C.cs x):=by
 have:=Cod.bxd_at h
 rw [C.o_eq] at this
 exact this
theorem Cod.bxd_lt {w:World} {b:Nat} {x:α} (h:C.bxd w b = some x):b < w.heap.size:=(Array.getElem?_eq_some_iff.1 (Cod.bxd_at h)).1
theorem Cod.bxd_rd {w:World} {b:Nat} {x:α} (h:C.bxd w b = some x):C.rd w b 0 = some x:=by
 refine Cod.Rd.rd fun j v hv=>?_
 rw [Nat.zero_add,(Cod.bxd_blk h).cell j]
 exact hv
theorem Cod.bxd_keep {w w':World} {b:Nat} (hb:w'.heap[b]? = w.heap[b]?):C.bxd w' b = C.bxd w b:=by
 cases hx:C.bxd w b with
 | some x=>exact Cod.bxd_of (hb.trans (Cod.bxd_at hx))
 | none =>
  cases hy:C.bxd w' b with
  | none=>rfl
  | some y=>rw [Cod.bxd_of (hb.symm.trans (Cod.bxd_at hy))] at hx;cases hx
theorem Cod.bxd_fr {M:Nat → Prop} {w w':World} {b:Nat} {x:α} (h:C.bxd w b = some x) (f:Fr M w w') (hM:¬ M b):C.bxd w' b = some x:=(Cod.bxd_keep (f.block b (Cod.bxd_lt h) hM)).trans h
theorem Cod.bxd_fr0 {w w':World} {b:Nat} {x:α} (h:C.bxd w b = some x) (f:Fr noB w w'):C.bxd w' b = some x:=Cod.bxd_fr h f (by simp [noB])
@[simp] theorem Cod.bxd_new (w:World) (x:α):C.bxd (w.alloc (C.o x)) w.heap.size = some x:=Cod.bxd_of (heap_alloc_new w _)
theorem Cod.rd_new' (w:World) (x:α):C.rd (w.alloc (C.o x)) w.heap.size 0 = some x:=Cod.bxd_rd (Cod.bxd_new w x)
theorem Cod.rdI_part {w:World} {b o:Nat} {x:α} {y:ID} (h:C.rd w b o = some x) (k:Nat) (hs:∀ j v,(bv y.1)[j]? = some v → (C.cs x)[k + j]? = some v):rdI w b (o + k) = some y :=
 Rd.rdI fun j v hv=>by rw [Nat.add_assoc];exact Cod.rd_rd h _ _ (hs j v hv)
variable (C) in
def Cod.put (w:World) (b:Nat) (x:α):World:=ChangeMaps.setBlock w b (C.o x)
theorem Cod.put_fr {w:World} {b:Nat} {y:α} (h:C.bxd w b = some y) (x:α):Fr (oneB b) w (C.put w b x) ∧ (C.put w b x).heap.size = w.heap.size ∧ C.bxd (C.put w b x) b = some x:=by
 obtain ⟨h1,h2,h3⟩:=frameMapB (Cod.bxd_lt h) (C.o x)
 exact ⟨h1,h2,Cod.bxd_of h3⟩
theorem Cod.store_part {w:World} {b:Nat} {y:α} (h:C.bxd w b = some y) (t:TypeId) (xs:List Value) (o:Nat) (y':α) (hi:(Tryz.prog.info? t).map (·.size) = some xs.length) (h1:∀ u ∈ xs,u.oneCell' = true)
  (ho:o + xs.length ≤ C.n) (hs:(C.cs y).take o ++ xs ++ (C.cs y).drop (o + xs.length) = C.cs y'):(Instr.storeAt t (.pointer (some ⟨b,o,none⟩)) (.agg xs.toArray)).run Tryz.prog w = .ok () (C.put w b y'):=by
 have hh:=Cod.bxd_blk h
 have hrun:=run_storeAt_mid (P:=Tryz.prog) w b o t xs.toArray (fun j hj=>by
  rw [List.size_toArray] at hj
  refine ⟨?_,hh.frozen _⟩
  rw [hh.cell]
  have:o + j < (C.cs y).length:=by rw [C.len];omega
  simp [this]) (by rw [List.size_toArray];exact hi) (all_oneCell_toArray h1)
 rw [setCells_row b C.t xs w (C.cs y) o hh (by rw [C.len];exact ho),hs] at hrun
 unfold Cod.put
 rw [C.o_eq]
 exact hrun
theorem Cod.bxd_set {w:World} {b:Nat} {y:α} (h:C.bxd w b = some y) (o:Nat) (v:Value) (y':α) (hs:(C.cs y).set o v = C.cs y'):C.bxd (w.setCell ⟨b,o,none⟩ v) b = some y':=by
 refine Cod.bxd_of ?_
 have:=(Cod.bxd_blk h).set o v
 rw [hs] at this
 rw [C.o_eq]
 exact this
theorem Cod.set_fr (w:World) (b o:Nat) (v:Value):Fr (oneB b) w (w.setCell ⟨b,o,none⟩ v):=(Fr.refl (oneB b) w).setCell (p:=⟨b,o,none⟩) (fun _=>rfl) _
variable (C) in
noncomputable def Cod.ldR (w:World) (v:Value) (r:Result Next):Result Next:=match v with
 | .pointer (some ⟨b,off,none⟩)=>(match C.rd w b off with | some x=>.ok (.value (C.v x)) w | none=>r)
 | _=>r
@[simp] theorem Cod.ldR_at (w:World) (b off:Nat) (r:Result Next):C.ldR w (.pointer (some ⟨b,off,none⟩)) r = match C.rd w b off with | some x=>.ok (.value (C.v x)) w | none=>r:=rfl
variable (C) in
@[irreducible] noncomputable def Cod.stR (w:World) (v u:Value):Result Next:=((Instr.storeAt C.t v u).run Tryz.prog w).andThen (fun _ w=>.ok .skip w)
variable (H:CodOk Tryz.prog C)
include H
theorem CodOk.ldOp (ρ:Operand → Value) (o:Oper) (a:Operand) (ho:o.op = .load C.t a) (w:World):(execOp ρ o).run Tryz.prog w = C.ldR w (ρ a) (exElse ρ o w):=by
 have he:exElse ρ o w = (execOp ρ o).run Tryz.prog w:=by unfold exElse;rfl
 rw [he]
 unfold Cod.ldR
 split
 ·rename_i b off hv
  cases h:C.rd w b off with
  | none=>rfl
  | some x=>exact H.ex_ld ho hv h
 ·rfl
theorem CodOk.alOp (ρ:Operand → Value) (o:Oper) (ho:o.op = .alloc C.t) (w:World):(execOp ρ o).run Tryz.prog w = .ok (.value (.pointer (some ⟨w.heap.size,0,none⟩))) (w.alloc (C.o C.z)):=by
 rw [H.ex_al ho w]
 unfold Cod.o
 rfl
omit H in
theorem Cod.stOp (ρ:Operand → Value) (o:Oper) (a x:Operand) (ho:o.op = .store C.t a x) (w:World):(execOp ρ o).run Tryz.prog w = C.stR w (ρ a) (ρ x):=by
 unfold execOp Cod.stR
 simp only [ho,Sem.run_bind,Sem.run_pure]
theorem CodOk.stR_new (w:World) (x y:α):C.stR (w.alloc (C.o y)) (.pointer (some ⟨w.heap.size,0,none⟩)) (C.v x) = .ok .skip (w.alloc (C.o x)):=by
 unfold Cod.stR Cod.o
 rw [H.st_new w x y]
 rfl
theorem CodOk.stR_part {β:Type} {D:Cod β} {w:World} {b:Nat} {y:β} (h:D.bxd w b = some y) (x:α) (o:Nat) (y':β) (ho:o + C.n ≤ D.n) (hs:(D.cs y).take o ++ C.cs x ++ (D.cs y).drop (o + C.n) = D.cs y') :
  C.stR w (.pointer (some ⟨b,o,none⟩)) (C.v x) = .ok .skip (D.put w b y'):=by
 unfold Cod.stR Cod.v
 rw [C.A_eq,Cod.store_part h C.t (C.cs x) o y' (by rw [C.len];exact H.info) (C.one x) (by rw [C.len];exact ho) (by rw [C.len];exact hs)]
 rfl
theorem CodOk.stR_box {w:World} {b:Nat} {y:α} (h:C.bxd w b = some y) (x:α):C.stR w (.pointer (some ⟨b,0,none⟩)) (C.v x) = .ok .skip (C.put w b x):=by
 refine H.stR_part h x 0 x (by omega) ?_
 rw [List.take_zero,List.nil_append,Nat.zero_add,List.drop_eq_nil_of_le (by rw [C.len];exact Nat.le_refl _),List.append_nil]
omit H in
theorem Cod.stI_part {w:World} {b:Nat} {y:α} (h:C.bxd w b = some y) (x:ID) (o:Nat) (y':α) (ho:o + 32 ≤ C.n) (hs:(C.cs y).take o ++ bv x.1 ++ (C.cs y).drop (o + 32) = C.cs y') :
  stI w (.pointer (some ⟨b,o,none⟩)) (encI x) = .ok .skip (C.put w b y'):=by
 unfold stI
 have hl:(bv x.1).length = 32:=by rw [bv_length,x.2]
 simp only [encI,idA_eq]
 rw [Cod.store_part h 34 (bv x.1) o y' (by rw [hl];exact infoID) (bv_one _) (by rw [hl];exact ho) (by rw [hl];exact hs)]
 rfl
end
/-! '[]T{x}' -/
section
variable {α:Type} (C:Cod α)
@[irreducible] def Cod.ro (l:List α):Obj:=.cells (C.row l).toArray C.t
variable {C}
theorem Cod.ro_eq (l:List α):C.ro l = .cells (C.row l).toArray C.t (0,0):=by unfold Cod.ro;rfl
theorem Cod.sl_new (w:World) (l:List α):Sl (w.alloc (C.ro l)) (some ⟨w.heap.size,0,none⟩) (C.row l):=by
 rw [C.ro_eq];exact Sl.new w C.t (C.row l)
theorem CodOk.bs1 (H:CodOk Tryz.prog C) (ts:TypeId) (hu:Tryz.prog.underlying ts = some (.slice C.t)) (hsz:∀ w,(sizeOf C.t).run Tryz.prog w = .ok C.n w) (hn:C.n ≤ 2 ^ 24) (w:World) (x:α) :
  (Instr.buildSlice ts 1 #[(0,C.v x)]).run Tryz.prog w = .ok (.slice (some ⟨w.heap.size,0,none⟩) 1 1) (w.alloc (C.ro [x])):=by
 have hzs:(Array.range (1 * C.n)).map ((C.v C.z).cells[· % (C.v C.z).cells.size]!) = ([] ++ C.cs C.z ++ []).toArray:=by
  rw [C.v_cells]
  apply Array.ext_getElem?
  intro i
  rw [List.nil_append,List.append_nil,Array.getElem?_map,Nat.one_mul]
  by_cases hi:i < C.n
  ·have hi2:i < (C.cs C.z).length:=by rw [C.len];exact hi
   rw [Array.getElem?_range,if_pos hi,List.getElem?_toArray]
   simp only [Option.map_some,List.size_toArray,C.len,Nat.mod_eq_of_lt hi]
   rw [List.getElem?_eq_getElem hi2,getElem!_pos _ _ (by simpa using hi2)]
   simp
  ·rw [Array.getElem?_range,if_neg hi,List.getElem?_toArray,List.getElem?_eq_none (by rw [C.len];omega)]
   rfl
 have h1:Instr.fill (fun i=>some (i * C.n,C.n)) ([] ++ C.cs C.z ++ []).toArray [(0,C.v x)] = some (C.row [x]).toArray :=
  (fill_one (fun i=>some (i * C.n,C.n)) [] (C.cs C.z) [] (C.cs x) 0 (C.v x) [] (C.v_cells x) (by simp [C.len]) (by simp [C.len])).trans (by simp [Instr.fill,Cod.row])
 have hpos:=C.pos
 simp only [Instr.buildSlice,Sem.run_bind,run_underlying hu,Result.andThen_ok,hsz,H.zv]
 have a1:¬ (1 * C.n > 2 ^ 24):=by omega
 have a2:¬ (1 * C.n = 0):=by omega
 simp only [a1,a2,if_false,Sem.run_bind,H.zv,Result.andThen_ok,Sem.run_pure,hzs,h1]
 simp [newRow,newObj,C.ro_eq,Sem.run,Result.andThen]
@[irreducible] noncomputable def bsR (ts:TypeId) (w:World) (v:Value):Result Next:=((Instr.buildSlice ts 1 #[(0,v)]).run Tryz.prog w).andThen (fun v w=>.ok (.value v) w)
theorem bsOp (ts:TypeId) (ρ:Operand → Value) (o:Oper) (a:Operand) (ho:o.op = .buildSlice ts 1 #[(0,a)]) (w:World):(execOp ρ o).run Tryz.prog w = bsR ts w (ρ a):=by
 unfold execOp bsR
 simp only [ho,List.map_toArray,List.map_cons,List.map_nil,Sem.run_bind,Sem.run_pure]
end
end Go.Proofs.YtnkdnbjmhoegkaaGreat
namespace Go.Proofs.YtnkdnbjmhoegkaaGreat
open Go.RowKit
theorem str_inj {l m:List UInt8} (h:str l = str m):l = m:=by
 have:=congrArg ByteArray.data h
 simpa [str] using this
theorem bv_app_inj {x y:ID} {l m:List Value} (h:bv x.1 ++ l = bv y.1 ++ m):x = y ∧ l = m:=by
 have hl:(bv x.1).length = (bv y.1).length:=by rw [bv_length,bv_length,x.2,y.2]
 obtain ⟨h1,h2⟩:=List.append_inj h hl
 exact ⟨Subtype.ext (bv_inj h1),h2⟩
structure OpW where
 Kind:Int
 At:St
 Node:St
 Parent:St
 Name:List UInt8
 Data:ID
 A:Option Addr
 n:Nat
 c:Nat
structure ItW where
 Node:St
 At:St
 Name:List UInt8
 Sub:ID
 A:Option Addr
 n:Nat
 c:Nat
def csS (s:St):List Value:=[.int .i64 s.T,.int .i64 s.R]
def csH (h:Hd):List Value:=.int .i64 h.At.T :: .int .i64 h.At.R :: bv h.Data.1
def csT (r:ItW):List Value:=.int .i64 r.Node.T :: .int .i64 r.Node.R :: .int .i64 r.At.T :: .int .i64 r.At.R :: .string (str r.Name) :: (bv r.Sub.1 ++ [.slice r.A r.n r.c])
def zHd:Hd:=⟨zSt,zID⟩
def zItW:ItW:=⟨zSt,zSt,[],zID,none,0,0⟩
theorem one_bv {l m:List Value} {x:ID} (hl:∀ u ∈ l,u.oneCell' = true) (hm:∀ u ∈ m,u.oneCell' = true):∀ u ∈ l ++ (bv x.1 ++ m),u.oneCell' = true:=by
 intro u hu
 rcases List.mem_append.1 hu with h | h
 ·exact hl u h
 ·rcases List.mem_append.1 h with h | h
  ·exact bv_one _ u h
  ·exact hm u h
def codS:Cod St:=⟨24,2,csS,zSt,fun _=>rfl,by decide,fun x u hu=>by simp [csS] at hu;rcases hu with rfl | rfl <;> rfl,fun x y h=>by
 obtain ⟨a,b⟩:=x;obtain ⟨c,d⟩:=y;simp [csS] at h;obtain ⟨rfl,rfl⟩:=h;rfl⟩
def codH:Cod Hd:=⟨49,34,csH,zHd,fun x=>by simp [csH,x.Data.2],by decide,fun x u hu=>by
  have:=one_bv (l:=[.int .i64 x.At.T,.int .i64 x.At.R]) (m:=[]) (x:=x.Data) (by simp;exact ⟨rfl,rfl⟩) (by simp) u (by simpa [csH] using hu)
  exact this,fun x y h=>by
 obtain ⟨⟨a,b⟩,d⟩:=x;obtain ⟨⟨a',b'⟩,d'⟩:=y
 simp only [csH,List.cons.injEq,Value.int.injEq,true_and] at h
 obtain ⟨rfl,rfl,h⟩:=h
 obtain ⟨rfl,_⟩:=bv_app_inj (x:=d) (y:=d') (l:=[]) (m:=[]) (by rw [List.append_nil,List.append_nil];exact h)
 rfl⟩
def codT:Cod ItW:=⟨63,38,csT,zItW,fun x=>by simp [csT,x.Sub.2],by decide,fun x u hu=>by
  have:=one_bv (l:=[.int .i64 x.Node.T,.int .i64 x.Node.R,.int .i64 x.At.T,.int .i64 x.At.R,.string (str x.Name)]) (m:=[.slice x.A x.n x.c]) (x:=x.Sub) (by simp;exact ⟨rfl,rfl,rfl,rfl,rfl⟩) (by simp;rfl) u (by simpa [csT] using hu)
  exact this,fun x y h=>by
 obtain ⟨⟨a,b⟩,⟨a2,b2⟩,nm,d,A,n,c⟩:=x;obtain ⟨⟨a',b'⟩,⟨a2',b2'⟩,nm',d',A',n',c'⟩:=y
 simp only [csT] at h;simp only [List.cons.injEq,Value.int.injEq,Value.string.injEq,true_and] at h
 obtain ⟨rfl,rfl,rfl,rfl,hn,h⟩:=h
 obtain ⟨rfl,h5⟩:=bv_app_inj h
 have hn:=str_inj hn
 subst hn
 injection h5 with h6 _
 injection h6 with h1 h2 h3
 subst h1 h2 h3
 rfl⟩
theorem ex_buildG (t:TypeId) (ρ:Operand → Value) (o:Oper) (ps:Array (Nat × Operand)) (w w':World) (v:Value) (ho:o.op = .build t ps) (h:(Instr.build t (ps.map fun (i,x)=>(i,ρ x))).run Tryz.prog w = .ok v w'):(execOp ρ o).run Tryz.prog w = .ok (.value v) w':=by
 unfold execOp
 simp only [ho,Sem.run_bind,h,Result.andThen_ok,Sem.run_pure]
theorem okS:CodOk Tryz.prog codS:=⟨⟨_,Tryz.underlying24,rfl⟩,by kernel_rfl,fun w=>(zero_of_info (P:=Tryz.prog) (t:=24) (v:=.agg (codS.cs codS.z).toArray) (n:=2) (by kernel_rfl)).1 w⟩
@[simp ↓] theorem ex_ldS (ρ:Operand → Value) (d:Option Nat) (a:Operand) (t:TypeId) (p:String) (f:Array Edge) (g:Option (Nat × Bool)) (w:World) :
  (execOp ρ { dst:=d,op:=.load 24 a,type:=t,pos:=p,after:=f,guard:=g }).run Tryz.prog w = codS.ldR w (ρ a) (exElse ρ { dst:=d,op:=.load 24 a,type:=t,pos:=p,after:=f,guard:=g } w):=okS.ldOp ρ _ a rfl w
@[simp ↓] theorem ex_alS (ρ:Operand → Value) (d:Option Nat) (t:TypeId) (p:String) (f:Array Edge) (g:Option (Nat × Bool)) (w:World) :
  (execOp ρ { dst:=d,op:=.alloc 24,type:=t,pos:=p,after:=f,guard:=g }).run Tryz.prog w = .ok (.value (.pointer (some ⟨w.heap.size,0,none⟩))) (w.alloc (codS.o zSt)):=okS.alOp ρ _ rfl w
@[simp ↓] theorem ex_stS (ρ:Operand → Value) (a x:Operand) (d:Option Nat) (t:TypeId) (p:String) (f:Array Edge) (g:Option (Nat × Bool)) (w:World) :
  (execOp ρ { dst:=d,op:=.store 24 a x,type:=t,pos:=p,after:=f,guard:=g }).run Tryz.prog w = codS.stR w (ρ a) (ρ x):=Cod.stOp (C:=codS) ρ _ a x rfl w
@[simp] theorem st_newS (w:World) (x y:St):codS.stR (w.alloc (codS.o y)) (.pointer (some ⟨w.heap.size,0,none⟩)) (.agg (codS.A x)) = .ok .skip (w.alloc (codS.o x)):=okS.stR_new w x y
theorem ex_ldS_at {ρ:Operand → Value} {o:Oper} {a:Operand} {w:World} {b off:Nat} {x:St} (ho:o.op = .load 24 a) (ha:ρ a = .pointer (some ⟨b,off,none⟩)) (hr:codS.rd w b off = some x) :
  (execOp ρ o).run Tryz.prog w = .ok (.value (.agg (codS.A x))) w:=okS.ex_ld ho ha hr
@[simp] theorem bld0_S (w:World):(Instr.build 24 #[]).run Tryz.prog w = .ok (.agg (codS.A zSt)) w:=by
 rw [Cod.A_eq]
 kernel_rfl
@[simp ↓] theorem ex_b0S (ρ:Operand → Value) (d:Option Nat) (t:TypeId) (p:String) (f:Array Edge) (g:Option (Nat × Bool)) (w:World) :
  (execOp ρ { dst:=d,op:=.build 24 #[],type:=t,pos:=p,after:=f,guard:=g }).run Tryz.prog w = .ok (.value (.agg (codS.A zSt))) w:=by
 refine ex_buildG 24 ρ _ #[] w w _ rfl ?_
 rw [List.map_toArray,List.map_nil]
 exact bld0_S w
theorem okH:CodOk Tryz.prog codH:=⟨⟨_,Tryz.underlying49,rfl⟩,by kernel_rfl,fun w=>(zero_of_info (P:=Tryz.prog) (t:=49) (v:=.agg (codH.cs codH.z).toArray) (n:=34) (by kernel_rfl)).1 w⟩
@[simp ↓] theorem ex_ldH (ρ:Operand → Value) (d:Option Nat) (a:Operand) (t:TypeId) (p:String) (f:Array Edge) (g:Option (Nat × Bool)) (w:World) :
  (execOp ρ { dst:=d,op:=.load 49 a,type:=t,pos:=p,after:=f,guard:=g }).run Tryz.prog w = codH.ldR w (ρ a) (exElse ρ { dst:=d,op:=.load 49 a,type:=t,pos:=p,after:=f,guard:=g } w):=okH.ldOp ρ _ a rfl w
@[simp ↓] theorem ex_alH (ρ:Operand → Value) (d:Option Nat) (t:TypeId) (p:String) (f:Array Edge) (g:Option (Nat × Bool)) (w:World) :
  (execOp ρ { dst:=d,op:=.alloc 49,type:=t,pos:=p,after:=f,guard:=g }).run Tryz.prog w = .ok (.value (.pointer (some ⟨w.heap.size,0,none⟩))) (w.alloc (codH.o zHd)):=okH.alOp ρ _ rfl w
@[simp ↓] theorem ex_stH (ρ:Operand → Value) (a x:Operand) (d:Option Nat) (t:TypeId) (p:String) (f:Array Edge) (g:Option (Nat × Bool)) (w:World) :
  (execOp ρ { dst:=d,op:=.store 49 a x,type:=t,pos:=p,after:=f,guard:=g }).run Tryz.prog w = codH.stR w (ρ a) (ρ x):=Cod.stOp (C:=codH) ρ _ a x rfl w
@[simp] theorem st_newH (w:World) (x y:Hd):codH.stR (w.alloc (codH.o y)) (.pointer (some ⟨w.heap.size,0,none⟩)) (.agg (codH.A x)) = .ok .skip (w.alloc (codH.o x)):=okH.stR_new w x y
theorem ex_ldH_at {ρ:Operand → Value} {o:Oper} {a:Operand} {w:World} {b off:Nat} {x:Hd} (ho:o.op = .load 49 a) (ha:ρ a = .pointer (some ⟨b,off,none⟩)) (hr:codH.rd w b off = some x) :
  (execOp ρ o).run Tryz.prog w = .ok (.value (.agg (codH.A x))) w:=okH.ex_ld ho ha hr
theorem okT:CodOk Tryz.prog codT:=⟨⟨_,Tryz.underlying63,rfl⟩,by kernel_rfl,fun w=>(zero_of_info (P:=Tryz.prog) (t:=63) (v:=.agg (codT.cs codT.z).toArray) (n:=38) (by kernel_rfl)).1 w⟩
@[simp ↓] theorem ex_ldT (ρ:Operand → Value) (d:Option Nat) (a:Operand) (t:TypeId) (p:String) (f:Array Edge) (g:Option (Nat × Bool)) (w:World) :
  (execOp ρ { dst:=d,op:=.load 63 a,type:=t,pos:=p,after:=f,guard:=g }).run Tryz.prog w = codT.ldR w (ρ a) (exElse ρ { dst:=d,op:=.load 63 a,type:=t,pos:=p,after:=f,guard:=g } w):=okT.ldOp ρ _ a rfl w
@[simp ↓] theorem ex_alT (ρ:Operand → Value) (d:Option Nat) (t:TypeId) (p:String) (f:Array Edge) (g:Option (Nat × Bool)) (w:World) :
  (execOp ρ { dst:=d,op:=.alloc 63,type:=t,pos:=p,after:=f,guard:=g }).run Tryz.prog w = .ok (.value (.pointer (some ⟨w.heap.size,0,none⟩))) (w.alloc (codT.o zItW)):=okT.alOp ρ _ rfl w
@[simp ↓] theorem ex_stT (ρ:Operand → Value) (a x:Operand) (d:Option Nat) (t:TypeId) (p:String) (f:Array Edge) (g:Option (Nat × Bool)) (w:World) :
  (execOp ρ { dst:=d,op:=.store 63 a x,type:=t,pos:=p,after:=f,guard:=g }).run Tryz.prog w = codT.stR w (ρ a) (ρ x):=Cod.stOp (C:=codT) ρ _ a x rfl w
@[simp] theorem st_newT (w:World) (x y:ItW):codT.stR (w.alloc (codT.o y)) (.pointer (some ⟨w.heap.size,0,none⟩)) (.agg (codT.A x)) = .ok .skip (w.alloc (codT.o x)):=okT.stR_new w x y
theorem ex_ldT_at {ρ:Operand → Value} {o:Oper} {a:Operand} {w:World} {b off:Nat} {x:ItW} (ho:o.op = .load 63 a) (ha:ρ a = .pointer (some ⟨b,off,none⟩)) (hr:codT.rd w b off = some x) :
  (execOp ρ o).run Tryz.prog w = .ok (.value (.agg (codT.A x))) w:=okT.ex_ld ho ha hr
noncomputable def mkS (w:World) (v u:Value) (r:Result Next):Result Next:=match v,u with
 | .int .i64 a,.int .i64 b=>.ok (.value (.agg (codS.A ⟨a,b⟩))) w
 | _,_=>r
@[simp] theorem mkS_at (w:World) (a b:Int) (r:Result Next):mkS w (.int .i64 a) (.int .i64 b) r = .ok (.value (.agg (codS.A ⟨a,b⟩))) w:=rfl
noncomputable def mkS1 (f:Int → St) (w:World) (v:Value) (r:Result Next):Result Next:=match v with
 | .int .i64 a=>.ok (.value (.agg (codS.A (f a)))) w
 | _=>r
@[simp] theorem mkS1_at (f:Int → St) (w:World) (a:Int) (r:Result Next):mkS1 f w (.int .i64 a) r = .ok (.value (.agg (codS.A (f a)))) w:=rfl
theorem bldS2 (w:World) (a b:Int):(Instr.build 24 #[(0,.int .i64 a),(1,.int .i64 b)]).run Tryz.prog w = .ok (.agg (codS.A ⟨a,b⟩)) w:=by
 rw [Cod.A_eq];go_simp;rfl
theorem bldS_R (w:World) (b:Int):(Instr.build 24 #[(1,.int .i64 b)]).run Tryz.prog w = .ok (.agg (codS.A ⟨0,b⟩)) w:=by
 rw [Cod.A_eq];go_simp;rfl
@[simp ↓] theorem ex_bldS2 (ρ:Operand → Value) (x y:Operand) (d:Option Nat) (t:TypeId) (p:String) (f:Array Edge) (g:Option (Nat × Bool)) (w:World) :
  (execOp ρ { dst:=d,op:=.build 24 #[(0,x),(1,y)],type:=t,pos:=p,after:=f,guard:=g }).run Tryz.prog w = mkS w (ρ x) (ρ y) (exElse ρ { dst:=d,op:=.build 24 #[(0,x),(1,y)],type:=t,pos:=p,after:=f,guard:=g } w):=by
 have he:∀ o,exElse ρ o w = (execOp ρ o).run Tryz.prog w:=by intro o;unfold exElse;rfl
 rw [he]
 unfold mkS
 split
 ·rename_i a b hv hu
  refine ex_buildG 24 ρ _ #[(0,x),(1,y)] w w _ rfl ?_
  have:=bldS2 w a b
  simpa [hv,hu] using this
 ·rfl
@[simp ↓] theorem ex_bldS_R (ρ:Operand → Value) (y:Operand) (d:Option Nat) (t:TypeId) (p:String) (f:Array Edge) (g:Option (Nat × Bool)) (w:World) :
  (execOp ρ { dst:=d,op:=.build 24 #[(1,y)],type:=t,pos:=p,after:=f,guard:=g }).run Tryz.prog w = mkS1 (fun b=>⟨0,b⟩) w (ρ y) (exElse ρ { dst:=d,op:=.build 24 #[(1,y)],type:=t,pos:=p,after:=f,guard:=g } w):=by
 have he:∀ o,exElse ρ o w = (execOp ρ o).run Tryz.prog w:=by intro o;unfold exElse;rfl
 rw [he]
 unfold mkS1
 split
 ·rename_i b hu
  refine ex_buildG 24 ρ _ #[(1,y)] w w _ rfl ?_
  have:=bldS_R w b
  simpa [hu] using this
 ·rfl
/-! rows -/
theorem etS:ET Tryz.prog 83 codS.t codS.n 16:=ET.mk' (z:=.agg (codS.cs codS.z).toArray) Tryz.underlying83 (by kernel_rfl) (by simp only [Value.cells];kernel_rfl) (by decide) (by decide)
theorem bs_S (w:World) (x:St):(Instr.buildSlice 83 1 #[(0,.agg (codS.A x))]).run Tryz.prog w = .ok (.slice (some ⟨w.heap.size,0,none⟩) 1 1) (w.alloc (codS.ro [x])):=okS.bs1 83 Tryz.underlying83 Tryz.sizeOf24 (by decide) w x
@[simp ↓] theorem ex_bsS (ρ:Operand → Value) (a:Operand) (d:Option Nat) (t:TypeId) (p:String) (f:Array Edge) (g:Option (Nat × Bool)) (w:World) :
  (execOp ρ { dst:=d,op:=.buildSlice 83 1 #[(0,a)],type:=t,pos:=p,after:=f,guard:=g }).run Tryz.prog w = bsR 83 w (ρ a):=bsOp 83 ρ _ a rfl w
@[simp] theorem bsR_S (w:World) (x:St):bsR 83 w (.agg (codS.A x)) = .ok (.value (.slice (some ⟨w.heap.size,0,none⟩) 1 1)) (w.alloc (codS.ro [x])):=by
 unfold bsR;rw [bs_S];rfl
theorem etH:ET Tryz.prog 26 codH.t codH.n 48:=ET.mk' (z:=.agg (codH.cs codH.z).toArray) Tryz.underlying26 (by kernel_rfl) (by simp only [Value.cells];kernel_rfl) (by decide) (by decide)
theorem bs_H (w:World) (x:Hd):(Instr.buildSlice 26 1 #[(0,.agg (codH.A x))]).run Tryz.prog w = .ok (.slice (some ⟨w.heap.size,0,none⟩) 1 1) (w.alloc (codH.ro [x])):=okH.bs1 26 Tryz.underlying26 Tryz.sizeOf49 (by decide) w x
@[simp ↓] theorem ex_bsH (ρ:Operand → Value) (a:Operand) (d:Option Nat) (t:TypeId) (p:String) (f:Array Edge) (g:Option (Nat × Bool)) (w:World) :
  (execOp ρ { dst:=d,op:=.buildSlice 26 1 #[(0,a)],type:=t,pos:=p,after:=f,guard:=g }).run Tryz.prog w = bsR 26 w (ρ a):=bsOp 26 ρ _ a rfl w
@[simp] theorem bsR_H (w:World) (x:Hd):bsR 26 w (.agg (codH.A x)) = .ok (.value (.slice (some ⟨w.heap.size,0,none⟩) 1 1)) (w.alloc (codH.ro [x])):=by
 unfold bsR;rw [bs_H];rfl
theorem etT:ET Tryz.prog 57 codT.t codT.n 104:=ET.mk' (z:=.agg (codT.cs codT.z).toArray) Tryz.underlying57 (by kernel_rfl) (by simp only [Value.cells];kernel_rfl) (by decide) (by decide)
theorem bs_T (w:World) (x:ItW):(Instr.buildSlice 57 1 #[(0,.agg (codT.A x))]).run Tryz.prog w = .ok (.slice (some ⟨w.heap.size,0,none⟩) 1 1) (w.alloc (codT.ro [x])):=okT.bs1 57 Tryz.underlying57 Tryz.sizeOf63 (by decide) w x
@[simp ↓] theorem ex_bsT (ρ:Operand → Value) (a:Operand) (d:Option Nat) (t:TypeId) (p:String) (f:Array Edge) (g:Option (Nat × Bool)) (w:World) :
  (execOp ρ { dst:=d,op:=.buildSlice 57 1 #[(0,a)],type:=t,pos:=p,after:=f,guard:=g }).run Tryz.prog w = bsR 57 w (ρ a):=bsOp 57 ρ _ a rfl w
@[simp] theorem bsR_T (w:World) (x:ItW):bsR 57 w (.agg (codT.A x)) = .ok (.value (.slice (some ⟨w.heap.size,0,none⟩) 1 1)) (w.alloc (codT.ro [x])):=by
 unfold bsR;rw [bs_T];rfl
theorem ex_bsT_at {ρ:Operand → Value} {o:Oper} {a:Operand} {w:World} {x:ItW} (ho:o.op = .buildSlice 57 1 #[(0,a)]) (ha:ρ a = .agg (codT.A x)) :
  (execOp ρ o).run Tryz.prog w = .ok (.value (.slice (some ⟨w.heap.size,0,none⟩) 1 1)) (w.alloc (codT.ro [x])):=by
 rw [bsOp 57 ρ o a ho w,ha,bsR_T]
end Go.Proofs.YtnkdnbjmhoegkaaGreat
