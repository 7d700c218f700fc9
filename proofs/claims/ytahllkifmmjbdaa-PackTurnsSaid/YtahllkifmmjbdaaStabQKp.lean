/- Values of several cells (structs, arrays) by value: the walk never looks into one. One text for all types. Boxes that hold a value of several cells; rules for the operations on such values. Stamps, heads, operations, items, commits and tags as values; the rules of the walk for them. Plain: rotations of a row, and merging two sorted rows by a rotation at the right cut. Rows of values of several cells that are stored into: exchanges. What a sort does to a row. Plain: the steps of a stable sort: cuts found by halving, merges, blocks. -/
import Derived.Test.YtahllkifmmjbdaaProg
import Derived.Test.YtahllkifmmjbdaaMemKp
import Derived.Deep.MidRow
import Derived.Deep.WholeRow
import Derived.WalkSpells
import Derived.Outline
import Derived.Test.YtahllkifmmjbdaaBoxOKp
import Derived.Test.YtahllkifmmjbdaaDagQKp
import Derived.Test.YtahllkifmmjbdaaStrsKp
import Derived.Test.YtahllkifmmjbdaaStWKp
import Derived.Sort.LotA
import Derived.Sort.LotD2
import Derived.Sort.Lot0
set_option linter.unusedVariables false
set_option linter.unusedSimpArgs false
namespace Go.Proofs.Ytahllkifmmjbdaa
open Go.RowKit
structure Cod (α:Type) where
 t:TypeId
 n:Nat
 cs:α → List Value
 z:α
 len:∀ x,(cs x).length = n
 pos:0 < n
 one:∀ x,∀ u ∈ cs x,u.oneCell' = true
 inj:∀ x y,cs x = cs y → x = y
structure CodOk {α:Type} (P:Program) (C:Cod α):Prop where
 und:∃ d,P.underlying C.t = some d ∧ d.isRow = true
 info:(P.info? C.t).map (·.size) = some C.n
 zero:∀ w,(zeroValue C.t).run P w = .ok (.agg (C.cs C.z).toArray) w
section
variable {α:Type} (C:Cod α)
@[irreducible] def Cod.A (x:α):Array Value:=(C.cs x).toArray
theorem Cod.A_eq (x:α):C.A x = (C.cs x).toArray:=by unfold Cod.A;rfl
abbrev Cod.v (x:α):Value:=.agg (C.A x)
theorem Cod.A_inj {x y:α} (h:C.A x = C.A y):x = y:=by
 rw [C.A_eq,C.A_eq] at h
 exact C.inj _ _ (by simpa using congrArg Array.toList h)
def Cod.Rd (w:World) (b o:Nat) (x:α):Prop:=w.rangeAt b o (C.cs x)
open Classical in
noncomputable def Cod.rd (w:World) (b o:Nat):Option α:=if h:∃ x,C.Rd w b o x then some h.choose else none
variable {C}
theorem Cod.Rd.uniq {w:World} {b o:Nat} {x y:α} (hx:C.Rd w b o x) (hy:C.Rd w b o y):x = y:=by
 refine C.inj _ _ (List.ext_getElem? fun j=>?_)
 by_cases hj:j < C.n
 ·have ex:(C.cs x)[j]? = some ((C.cs x)[j]'(by rw [C.len];exact hj)):=List.getElem?_eq_getElem _
  have ey:(C.cs y)[j]? = some ((C.cs y)[j]'(by rw [C.len];exact hj)):=List.getElem?_eq_getElem _
  have:=(hx j _ ex).symm.trans (hy j _ ey)
  rw [ex,ey,this]
 ·rw [List.getElem?_eq_none (by rw [C.len];omega),List.getElem?_eq_none (by rw [C.len];omega)]
theorem Cod.Rd.rd {w:World} {b o:Nat} {x:α} (h:C.Rd w b o x):C.rd w b o = some x:=by
 unfold Cod.rd
 have hx:∃ x,C.Rd w b o x:=⟨x,h⟩
 rw [dif_pos hx]
 exact congrArg some (hx.choose_spec.uniq h)
theorem Cod.rd_rd {w:World} {b o:Nat} {x:α} (h:C.rd w b o = some x):C.Rd w b o x:=by
 unfold Cod.rd at h
 split at h
 ·rename_i hx
  injection h with h
  rw [← h];exact hx.choose_spec
 ·cases h
theorem Cod.rd_congr {w w':World} {b o o':Nat} (h:∀ x,C.Rd w b o x ↔ C.Rd w' b o' x):C.rd w b o = C.rd w' b o':=by
 cases hx:C.rd w b o with
 | some x=>exact ((h x).1 (Cod.rd_rd hx)).rd.symm
 | none =>
  cases hy:C.rd w' b o' with
  | none=>rfl
  | some y=>rw [((h y).2 (Cod.rd_rd hy)).rd] at hx;cases hx
theorem Cod.Rd.keep {w w':World} {b o:Nat} {x:α} (h:C.Rd w b o x) (hb:w'.heap[b]? = w.heap[b]?):C.Rd w' b o x:=fun j v hv=>(World.cell?_of_block (a:=⟨b,o + j,none⟩) hb).trans (h j v hv)
theorem Cod.rd_keep {w w':World} {b o:Nat} (hb:w'.heap[b]? = w.heap[b]?):C.rd w' b o = C.rd w b o:=Cod.rd_congr fun x=>⟨fun h=>h.keep hb.symm,fun h=>h.keep hb⟩
theorem Cod.Rd.lt {w:World} {b o:Nat} {x:α} (h:C.Rd w b o x):b < w.heap.size:=by
 have hl:0 < (C.cs x).length:=by rw [C.len];exact C.pos
 exact World.block_lt_of_cell? _ _ (h 0 _ (List.getElem?_eq_getElem hl))
theorem Cod.rd_cell {w:World} {b o:Nat} {x:α} (h:C.rd w b o = some x) (k:Nat) {v:Value} (hv:(C.cs x)[k]? = some v):w.cell? ⟨b,o + k,none⟩ = some v:=Cod.rd_rd h k v hv
end
section
variable {α:Type} {C:Cod α} {P:Program} (H:CodOk P C)
include H
omit H in
theorem Cod.bx (w:World) (x:α):(Instr.box C.t (C.v x)).run P w = .ok (.pointer (some ⟨w.heap.size,0,none⟩)) (w.alloc (.cells (C.A x) C.t)):=by
 simp [Instr.box,newVar,newRow,newObj,Value.cells,Sem.run,Result.andThen]
end
/-! rows -/
section
variable {α:Type} (C:Cod α)
def Cod.row (l:List α):List Value:=l.flatMap C.cs
variable {C}
theorem Cod.row_len (l:List α):(C.row l).length = l.length * C.n:=by
 induction l with
 | nil=>simp [Cod.row]
 | cons x l ih=>simp only [Cod.row,List.flatMap_cons,List.length_append,C.len,List.length_cons,Nat.add_mul,Nat.one_mul] at ih ⊢;omega
theorem Cod.row_append (l m:List α):C.row (l ++ m) = C.row l ++ C.row m:=by simp [Cod.row]
theorem Cod.row_one (l:List α):∀ u ∈ C.row l,u.oneCell' = true:=by
 intro u hu
 simp only [Cod.row,List.mem_flatMap] at hu
 obtain ⟨x,_,hu⟩:=hu
 exact C.one x u hu
theorem Cod.row_ne {l:List α} (h:l ≠ []):C.row l ≠ []:=by
 intro h0
 have:=Cod.row_len (C:=C) l
 rw [h0] at this
 have h1:=List.length_pos_iff.2 h
 have:=Nat.mul_pos h1 C.pos
 simp at *;omega
theorem Cod.row_get (l:List α) (i j:Nat) (hi:i < l.length) (v:Value) (hv:(C.cs l[i])[j]? = some v):(C.row l)[i * C.n + j]? = some v:=by
 induction l generalizing i with
 | nil=>simp at hi
 | cons x l ih =>
  have hj:j < C.n:=by have:=(List.getElem?_eq_some_iff.1 hv).1;rw [C.len] at this;exact this
  simp only [Cod.row,List.flatMap_cons]
  cases i with
  | zero =>
   rw [List.getElem?_append_left (by rw [C.len];omega)]
   simpa using hv
  | succ i =>
   rw [List.getElem?_append_right (by rw [C.len,Nat.add_mul];omega),C.len]
   have:=ih i (by simpa using hi) (by simpa using hv)
   rw [show (i + 1) * C.n + j - C.n = i * C.n + j by rw [Nat.add_mul];omega]
   exact this
theorem Sl.rd {w:World} {g off:Nat} {l:List α} (h:Sl w (some ⟨g,off,none⟩) (C.row l)) (i:Nat) (hi:i < l.length):C.rd w g (off + i * C.n) = some l[i]:=by
 refine Cod.Rd.rd fun j v hv=>?_
 have hne:C.row l ≠ []:=Cod.row_ne (by intro h0;subst h0;simp at hi)
 obtain ⟨g',off',e,_,hc⟩:=h hne
 injection e with e
 injection e with e1 e2
 subst e1;subst e2
 have:=hc _ v (Cod.row_get l i j hi v hv)
 rwa [← Nat.add_assoc] at this
theorem Sl.addr {w:World} {A:Option Addr} {l:List α} (h:Sl w A (C.row l)) (hl:0 < l.length):∃ g off,A = some ⟨g,off,none⟩ ∧ g < w.heap.size:=by
 obtain ⟨g,off,e,hg,_⟩:=h (Cod.row_ne (by intro h0;subst h0;simp at hl))
 exact ⟨g,off,e,hg⟩
theorem own_row {w:World} {base:Nat} {e:TypeId} {n:Nat} {v:Value} {l:List α} (h:w.ownsRow base e C.n v n (C.row l)):w.ownsRow base e C.n v l.length (C.row l):=by
 have hn:n = l.length:=by
  have:=h.1
  rw [Cod.row_len] at this
  exact Nat.eq_of_mul_eq_mul_right C.pos this.symm
 subst hn;exact h
end
abbrev OwnC {α:Type} (C:Cod α) (w0 w:World) (A:Option Addr) (c:Nat) (l:List α):Prop:=w.ownsRow w0.heap.size C.t C.n (.slice A l.length c) l.length (C.row l)
theorem ownBlock_sl' (A:Option Addr) (n c:Nat):(Value.slice A n c).ownBlock = A.map (·.block):=by cases A <;> rfl
section
variable {α:Type} {C:Cod α} {P:Program} {t bytes:Nat} (H:ET P t C.t C.n bytes) (w0 w:World)
include H
theorem wpList_appC' {ops:Array Oper} {rest:List Oper} {o:Oper} {a:Act} {Q:Exit → Act → World → Prop} (hgd:o.guard = none) (s x:Operand)
  (ho:o.op = .call { callee:=.builtin .append,args:=#[s,x],argTypes:=#[t,t] })
  (As:Option Addr) (ns cs:Nat) (lo:List α) (hs:a.eval s = .slice As ns cs) (hns:lo.length = ns) (hown:OwnC C w0 w As cs lo)
  (A:Option Addr) (m c:Nat) (news:List α) (hx:a.eval x = .slice A m c) (hr:Sl w A (C.row news)) (hl:news.length = m)
  (hbytes:(lo.length + news.length) * bytes ≤ 140737488355328) (hbase:w0.heap.size ≤ w.heap.size)
  (h:∀ A' c' w',(lo ++ news).length ≤ c' → c' ≤ maxLen → OwnC C w0 w' A' c' (lo ++ news) → w.grownBy w' (As.map (·.block)) →
   (A'.map (·.block) = As.map (·.block) ∨ A'.map (·.block) = some w.heap.size) → wpList P ops Q rest (a.put o.dst (.slice A' (lo ++ news).length c')) w') :
  wpList P ops Q (o :: rest) a w:=by
 subst hns
 refine wpList_app w H hgd s x ho w0.heap.size _ lo.length (C.row lo) hs hown A m c (C.row news) hx hr (by rw [Cod.row_len,hl]) (Cod.row_one _) (by rw [← hl];exact hbytes) hbase ?_
 intro v' w' h1 h2 h3
 rw [← Cod.row_append] at h1
 have h1':=own_row h1
 obtain ⟨A',c',rfl,hc1,hc2⟩:=own_form h1'
 rw [ownBlock_sl',ownBlock_sl'] at h3
 rw [ownBlock_sl'] at h2
 exact h A' c' w' hc1 hc2 h1' h2 h3
end
end Go.Proofs.Ytahllkifmmjbdaa
namespace Go.Proofs.Ytahllkifmmjbdaa
open Go.RowKit
section
variable {α:Type} (C:Cod α)
@[irreducible] def Cod.o (x:α):Obj:=.cells (C.A x) C.t
theorem Cod.o_eq (x:α):C.o x = .cells (C.cs x).toArray C.t (0,0):=by unfold Cod.o;rw [C.A_eq]
theorem Cod.o_inj {x y:α} (h:C.o x = C.o y):x = y:=by
 unfold Cod.o at h
 injection h with h
 exact C.A_inj h
open Classical in
noncomputable def Cod.bxd (w:World) (b:Nat):Option α:=if h:∃ x,w.heap[b]? = some (C.o x) then some h.choose else none
variable {C}
theorem Cod.bxd_of {w:World} {b:Nat} {x:α} (h:w.heap[b]? = some (C.o x)):C.bxd w b = some x:=by
 unfold Cod.bxd
 have hx:∃ x,w.heap[b]? = some (C.o x):=⟨x,h⟩
 rw [dif_pos hx]
 have:=h.symm.trans hx.choose_spec
 injection this with this
 exact congrArg some (C.o_inj this).symm
theorem Cod.bxd_at {w:World} {b:Nat} {x:α} (h:C.bxd w b = some x):w.heap[b]? = some (C.o x):=by
 unfold Cod.bxd at h
 split at h
 ·rename_i hx
  injection h with h
  rw [← h];exact hx.choose_spec
 ·cases h
theorem Cod.bxd_blk {w:World} {b:Nat} {x:α} (h:C.bxd w b = some x):Blk w b C.t (C.cs x):=by
 have:=Cod.bxd_at h
 rw [C.o_eq] at this
 exact this
theorem Cod.bxd_lt {w:World} {b:Nat} {x:α} (h:C.bxd w b = some x):b < w.heap.size:=(Array.getElem?_eq_some_iff.1 (Cod.bxd_at h)).1
theorem Cod.bxd_rd {w:World} {b:Nat} {x:α} (h:C.bxd w b = some x):C.rd w b 0 = some x:=by
 refine Cod.Rd.rd fun j v hv=>?_
 rw [Nat.zero_add,(Cod.bxd_blk h).cell j]
 exact hv
theorem Cod.bxd_keep {w w':World} {b:Nat} (hb:w'.heap[b]? = w.heap[b]?):C.bxd w' b = C.bxd w b:=by
 cases hx:C.bxd w b with
 | some x=>exact Cod.bxd_of (hb.trans (Cod.bxd_at hx))
 | none =>
  cases hy:C.bxd w' b with
  | none=>rfl
  | some y=>rw [Cod.bxd_of (hb.symm.trans (Cod.bxd_at hy))] at hx;cases hx
theorem Cod.bxd_fr {M:Nat → Prop} {w w':World} {b:Nat} {x:α} (h:C.bxd w b = some x) (f:Fr M w w') (hM:¬ M b):C.bxd w' b = some x:=(Cod.bxd_keep (f.block b (Cod.bxd_lt h) hM)).trans h
theorem Cod.bxd_fr0 {w w':World} {b:Nat} {x:α} (h:C.bxd w b = some x) (f:Fr noB w w'):C.bxd w' b = some x:=Cod.bxd_fr h f (by simp [noB])
@[simp] theorem Cod.bxd_new (w:World) (x:α):C.bxd (w.alloc (C.o x)) w.heap.size = some x:=Cod.bxd_of (heap_alloc_new w _)
variable (C) in
noncomputable def Cod.ldR (w:World) (v:Value) (r:Result Next):Result Next:=match v with
 | .pointer (some ⟨b,off,none⟩)=>(match C.rd w b off with | some x=>.ok (.value (C.v x)) w | none=>r)
 | _=>r
@[simp] theorem Cod.ldR_at (w:World) (b off:Nat) (r:Result Next):C.ldR w (.pointer (some ⟨b,off,none⟩)) r = match C.rd w b off with | some x=>.ok (.value (C.v x)) w | none=>r:=rfl
variable (C) in
@[irreducible] noncomputable def Cod.stR (w:World) (v u:Value):Result Next:=((Instr.storeAt C.t v u).run Try.prog w).andThen (fun _ w=>.ok .skip w)
variable (H:CodOk Try.prog C)
include H
end
/-! '[]T{x}' -/
section
variable {α:Type} (C:Cod α)
@[irreducible] def Cod.ro (l:List α):Obj:=.cells (C.row l).toArray C.t
variable {C}
@[irreducible] noncomputable def bsR (ts:TypeId) (w:World) (v:Value):Result Next:=((Instr.buildSlice ts 1 #[(0,v)]).run Try.prog w).andThen (fun v w=>.ok (.value v) w)
end
end Go.Proofs.Ytahllkifmmjbdaa
namespace Go.Proofs.Ytahllkifmmjbdaa
open Go.RowKit
structure OpW where
 Kind:Int
 At:St
 Node:St
 Parent:St
 Name:List UInt8
 Data:ID
 A:Option Addr
 n:Nat
 c:Nat
structure ItW where
 Node:St
 At:St
 Name:List UInt8
 Sub:ID
 A:Option Addr
 n:Nat
 c:Nat
/-! rows -/
end Go.Proofs.Ytahllkifmmjbdaa
namespace Go.Proofs.Ytahllkifmmjbdaa
open Go.Sort
variable {α:Type} [Inhabited α]
structure RotIn (a m b:Nat) (d d':Array α):Prop where
 size:d'.size = d.size
 out:∀ i,i < a ∨ b ≤ i → d'[i]! = d[i]!
 one:∀ i,i < b - m → d'[a + i]! = d[m + i]!
 two:∀ i,i < m - a → d'[a + (b - m) + i]! = d[a + i]!
structure SwIn (a b n:Nat) (d d':Array α):Prop where
 size:d'.size = d.size
 one:∀ i,i < n → d'[a + i]! = d[b + i]!
 two:∀ i,i < n → d'[b + i]! = d[a + i]!
 out:∀ i,(i < a ∨ a + n ≤ i) → (i < b ∨ b + n ≤ i) → d'[i]! = d[i]!
theorem SwIn.step {a b n:Nat} {d d':Array α} (h:SwIn a b n d d') (hab:a + n < b) (hb:b + n < d.size):SwIn a b (n + 1) d (swp d' (a + n) (b + n)):=by
 have hs:=h.size
 refine ⟨by rw [swp_size];exact hs,fun i hi=>?_,fun i hi=>?_,fun i h1 h2=>?_⟩
 ·rw [swp_get d' (by omega) (by omega)]
  by_cases e:i = n
  ·subst e
   rw [if_neg (by omega),if_pos rfl]
   exact h.out _ (by omega) (by omega)
  ·rw [if_neg (by omega),if_neg (by omega)]
   exact h.one i (by omega)
 ·rw [swp_get d' (by omega) (by omega)]
  by_cases e:i = n
  ·subst e
   rw [if_pos rfl]
   exact h.out _ (by omega) (by omega)
  ·rw [if_neg (by omega),if_neg (by omega)]
   exact h.two i (by omega)
 ·rw [swp_get d' (by omega) (by omega),if_neg (by omega),if_neg (by omega)]
  exact h.out i (by omega) (by omega)
theorem RotIn.up {a k:Nat} {d d':Array α} (h:RotIn a (a + 1) (k + 1) d d') (hak:a ≤ k) (hk:k + 1 < d.size):RotIn a (a + 1) (k + 2) d (swp d' k (k + 1)):=by
 have hs:=h.size
 refine ⟨by rw [swp_size];exact hs,fun i hi=>?_,fun i hi=>?_,fun i hi=>?_⟩
 ·rw [swp_get d' (by omega) (by omega),if_neg (by omega),if_neg (by omega)]
  exact h.out i (by omega)
 ·rw [swp_get d' (by omega) (by omega),if_neg (by omega)]
  by_cases e:a + i = k
  ·rw [if_pos e,h.out (k + 1) (by omega)]
   congr 1
   omega
  ·rw [if_neg e]
   exact h.one i (by omega)
 ·have e0:i = 0:=by omega
  subst e0
  rw [swp_get d' (by omega) (by omega),if_pos (by omega)]
  have:=h.two 0 (by omega)
  rw [← this]
  congr 1
  omega
theorem RotIn.down {m k:Nat} {d d':Array α} (h:RotIn k m (m + 1) d d') (hk:0 < k) (hkm:k ≤ m) (hm:m < d.size):RotIn (k - 1) m (m + 1) d (swp d' k (k - 1)):=by
 have hs:=h.size
 refine ⟨by rw [swp_size];exact hs,fun i hi=>?_,fun i hi=>?_,fun i hi=>?_⟩
 ·rw [swp_get d' (by omega) (by omega),if_neg (by omega),if_neg (by omega)]
  exact h.out i (by omega)
 ·have e0:i = 0:=by omega
  subst e0
  rw [swp_get d' (by omega) (by omega),if_pos (by omega)]
  have:=h.one 0 (by omega)
  rw [← this]
  rfl
 ·rw [swp_get d' (by omega) (by omega),if_neg (by omega)]
  by_cases e:k - 1 + (m + 1 - m) + i = k
  ·rw [if_pos e,h.out (k - 1) (by omega)]
   congr 1
   omega
  ·rw [if_neg e]
   have:=h.two (i - 1) (by omega)
   rw [show k + (m + 1 - m) + (i - 1) = k - 1 + (m + 1 - m) + i by omega,show k + (i - 1) = k - 1 + i by omega] at this
   exact this
end Go.Proofs.Ytahllkifmmjbdaa
namespace Go.Proofs.Ytahllkifmmjbdaa
open Go.RowKit Go.Sort
set_option linter.unusedSectionVars false
section
variable {α:Type} [Inhabited α] {C:Cod α}
def RwA (C:Cod α) (w:World) (g:Nat) (d:Array α):Prop:=∃ cur:List Value,w.heap[g]? = some (.cells cur.toArray C.t (0,0)) ∧ cur.take (d.size * C.n) = C.row d.toList
theorem RwA.own {base:Nat} {w:World} {A:Option Addr} {n c:Nat} {l:List α} (h:w.ownsRow base C.t C.n (.slice A n c) n (C.row l)) (h0:l ≠ []):∃ g,A = some ⟨g,0,none⟩ ∧ base ≤ g ∧ n = l.length ∧ n ≤ c ∧ RwA C w g l.toArray:=by
 have hn:n = l.length:=by
  have:=h.1
  rw [Cod.row_len] at this
  exact Nat.eq_of_mul_eq_mul_right C.pos this.symm
 rcases h.2 with ⟨hv,hn'⟩ | ⟨g,cap,cur,hv,hb,hg,hnc,hm,hs,ht⟩
 ·exact absurd (List.length_eq_zero_iff.1 (hn ▸ hn')) h0
 ·injection hv with h1 h2 h3
  exact ⟨g,h1,hb,hn,by omega,cur.toList,by rw [Array.toArray_toList];exact hg,by rw [hn] at ht;simpa using ht⟩
theorem RwA.lt {w:World} {g:Nat} {d:Array α} (h:RwA C w g d):g < w.heap.size:=by
 obtain ⟨cur,hg,_⟩:=h
 exact (Array.getElem?_eq_some_iff.1 hg).1
theorem RwA.cell {w:World} {g:Nat} {d:Array α} (h:RwA C w g d) (j:Nat) (hj:j < d.size * C.n):w.cell? ⟨g,j,none⟩ = (C.row d.toList)[j]? ∧ w.frozen? ⟨g,j,none⟩ = false:=by
 obtain ⟨cur,hg,ht⟩:=h
 have hb:Blk w g C.t cur:=hg
 refine ⟨?_,hb.frozen j⟩
 rw [hb.cell,← ht,List.getElem?_take_of_lt hj]
theorem RwA.sl {w:World} {g:Nat} {d:Array α} (h:RwA C w g d):Sl w (some ⟨g,0,none⟩) (C.row d.toList):=by
 intro hne
 refine ⟨g,0,rfl,h.lt,fun j v hv=>?_⟩
 have hj:j < d.size * C.n:=by have:=(List.getElem?_eq_some_iff.1 hv).1;rw [Cod.row_len] at this;simpa using this
 rw [Nat.zero_add,(h.cell j hj).1]
 exact hv
theorem RwA.fr0 {w w':World} {g:Nat} {d:Array α} (h:RwA C w g d) (f:Fr noB w w'):RwA C w' g d:=by
 have hl:=h.lt
 obtain ⟨cur,hg,ht⟩:=h
 exact ⟨cur,(f.block g hl (by simp [noB])).trans hg,ht⟩
theorem RwA.rd {w:World} {g:Nat} {d:Array α} (h:RwA C w g d) (i:Nat) (hi:i < d.size):C.rd w g (i * C.n) = some d[i]!:=by
 have:=h.sl.rd i (by simpa using hi)
 rw [getElem!_pos d i hi]
 simpa using this
structure SWF (C:Cod α) (p:α → Prop) (w0:World) (g:Nat) (d:Array α) (W:World):Prop where
 fr:Fr (oneB g) w0 W
 row:RwA C W g d
 ok:∀ i,i < d.size → p d[i]!
variable {p:α → Prop} {w0 W W':World} {g:Nat} {d:Array α}
theorem SWF.lt (h:SWF C p w0 g d W):g < W.heap.size:=h.row.lt
theorem SWF.step (h:SWF C p w0 g d W) (f:Fr noB W W'):SWF C p w0 g d W':=⟨h.fr.step0 f,h.row.fr0 f,h.ok⟩
theorem SWF.rd (h:SWF C p w0 g d W) (i:Nat) (hi:i < d.size):C.rd W g (i * C.n) = some d[i]!:=h.row.rd i hi
/-! the loops' relations -/
end
end Go.Proofs.Ytahllkifmmjbdaa
namespace Go.Proofs.Ytahllkifmmjbdaa
open Go.Sort
set_option linter.unusedSectionVars false
section
variable {α:Type} [Inhabited α] {lt:α → α → Bool}
structure CutL (lt:α → α → Bool) (d:Array α) (a m b i j:Nat):Prop where
 h1:m ≤ i
 h2:i ≤ j
 h3:j ≤ b
 lo:∀ x,m ≤ x → x < i → lt d[x]! d[a]! = true
 hi:∀ x,j ≤ x → x < b → lt d[x]! d[a]! = false
theorem le_in {d:Array α} {m b x h:Nat} (hS:SWO lt) (hs:SortedIn lt m b d) (h1:m ≤ x) (h2:x ≤ h) (h3:h < b):lt d[h]! d[x]! = false:=by
 rcases Nat.lt_or_eq_of_le h2 with h | rfl
 ·exact hs x _ h1 h h3
 ·exact hS.irrefl _
theorem CutL.up {d:Array α} {a m b i j h:Nat} (hS:SWO lt) (hs:SortedIn lt m b d) (k:CutL lt d a m b i j) (h1:i ≤ h) (h2:h < j) (hl:lt d[h]! d[a]! = true):CutL lt d a m b (h + 1) j:=by
 refine ⟨by have:=k.h1;omega,by omega,k.h3,fun x hx1 hx2=>?_,k.hi⟩
 cases e:lt d[x]! d[a]! with
 | true=>rfl
 | false =>
  have k3:=k.h3
  have:=hS.ntrans _ _ _ (le_in hS hs hx1 (show x ≤ h by omega) (by omega)) e
  rw [hl] at this;cases this
theorem CutL.down {d:Array α} {a m b i j h:Nat} (hS:SWO lt) (hs:SortedIn lt m b d) (k:CutL lt d a m b i j) (h1:i ≤ h) (h2:h < j) (hl:lt d[h]! d[a]! = false):CutL lt d a m b i h:=by
 have k3:=k.h3
 have k1:=k.h1
 exact ⟨k.h1,h1,by omega,k.lo,fun x hx1 hx2=>hS.ntrans _ _ _ (le_in hS hs (by omega) hx1 hx2) hl⟩
structure CutR (lt:α → α → Bool) (d:Array α) (a m i j:Nat):Prop where
 h1:a ≤ i
 h2:i ≤ j
 h3:j ≤ m
 lo:∀ x,a ≤ x → x < i → lt d[m]! d[x]! = false
 hi:∀ x,j ≤ x → x < m → lt d[m]! d[x]! = true
theorem CutR.up {d:Array α} {a m i j h:Nat} (hS:SWO lt) (hs:SortedIn lt a m d) (k:CutR lt d a m i j) (h1:i ≤ h) (h2:h < j) (hl:lt d[m]! d[h]! = false):CutR lt d a m (h + 1) j:=by
 have k1:=k.h1
 have k3:=k.h3
 exact ⟨by omega,by omega,k.h3,fun x hx1 hx2=>hS.ntrans _ _ _ hl (le_in hS hs hx1 (show x ≤ h by omega) (by omega)),k.hi⟩
theorem CutR.down {d:Array α} {a m i j h:Nat} (hS:SWO lt) (hs:SortedIn lt a m d) (k:CutR lt d a m i j) (h1:i ≤ h) (h2:h < j) (hl:lt d[m]! d[h]! = true):CutR lt d a m i h:=by
 have k1:=k.h1
 have k3:=k.h3
 refine ⟨k.h1,h1,by omega,k.lo,fun x hx1 hx2=>?_⟩
 cases e:lt d[m]! d[x]! with
 | true=>rfl
 | false =>
  have:=hS.ntrans _ _ _ e (le_in hS hs (show a ≤ h by omega) hx1 (by omega))
  rw [hl] at this;cases this
structure CutM (lt:α → α → Bool) (d:Array α) (n s0 r0 s r:Nat):Prop where
 h1:s0 ≤ s
 h2:s ≤ r
 h3:r ≤ r0
 lo:s0 < s → lt d[n - s]! d[s - 1]! = false
 hi:r < r0 → lt d[n - 1 - r]! d[r]! = true
theorem CutM.up {d:Array α} {n s0 r0 s r c:Nat} (k:CutM lt d n s0 r0 s r) (h1:s ≤ c) (h2:c < r) (hl:lt d[n - 1 - c]! d[c]! = false):CutM lt d n s0 r0 (c + 1) r :=
 ⟨by have:=k.h1;omega,by omega,k.h3,fun _=>by rw [show n - (c + 1) = n - 1 - c by omega,Nat.add_sub_cancel];exact hl,k.hi⟩
theorem CutM.down {d:Array α} {n s0 r0 s r c:Nat} (k:CutM lt d n s0 r0 s r) (h1:s ≤ c) (h2:c < r) (hl:lt d[n - 1 - c]! d[c]! = true):CutM lt d n s0 r0 s c :=
 ⟨k.h1,h1,by have:=k.h3;omega,k.lo,fun _=>hl⟩
theorem perm_keepS {a b x y:Nat} {d d':Array α} (h:PermIn a b d d') (hd:b ≤ x ∨ y ≤ a) (hs:SortedIn lt x y d):SortedIn lt x y d':=fun i j h1 h2 h3=>by
 rw [h.2.1 i (by omega),h.2.1 j (by omega)];exact hs i j h1 h2 h3
def Blocks (lt:α → α → Bool) (k n:Nat) (d:Array α):Prop:=∀ i,SortedIn lt (i * k) (min ((i + 1) * k) n) d
def BlocksTo (lt:α → α → Bool) (k a:Nat) (d:Array α):Prop:=∀ i,(i + 1) * k ≤ a → SortedIn lt (i * k) ((i + 1) * k) d
theorem mul_lt' {i q k:Nat} (h:(i + 1) * k ≤ q * k) (hk:0 < k):i < q:=by
 have:=Nat.le_of_mul_le_mul_right h hk
 omega
theorem BlocksTo.step {k q:Nat} {d d':Array α} (hk:0 < k) (h:BlocksTo lt k (q * k) d) (hp:PermIn (q * k) ((q + 1) * k) d d') (hs:SortedIn lt (q * k) ((q + 1) * k) d'):BlocksTo lt k ((q + 1) * k) d':=fun i hi=>by
 have hiq:i < q + 1:=mul_lt' hi hk
 by_cases e:i = q
 ·subst e;exact hs
 ·have h1:(i + 1) * k ≤ q * k:=Nat.mul_le_mul_right k (by omega)
  exact perm_keepS hp (.inr h1) (h i h1)
structure Pairs (lt:α → α → Bool) (k n q:Nat) (d:Array α):Prop where
 lo:BlocksTo lt (2 * k) (q * (2 * k)) d
 hi:∀ i,2 * q ≤ i → SortedIn lt (i * k) (min ((i + 1) * k) n) d
theorem two_mul_k (q k:Nat):q * (2 * k) = 2 * q * k:=by rw [← Nat.mul_assoc,Nat.mul_comm q 2]
theorem Pairs.step {k n q:Nat} {d d':Array α} (hk:0 < k) (h:Pairs lt k n q d) (hp:PermIn (q * (2 * k)) ((q + 1) * (2 * k)) d d') (hs:SortedIn lt (q * (2 * k)) ((q + 1) * (2 * k)) d'):Pairs lt k n (q + 1) d' :=
 ⟨h.lo.step (by omega) hp hs,fun i hi=>perm_keepS hp (.inl (by
  rw [two_mul_k]
  exact Nat.mul_le_mul_right k (by omega))) (h.hi i (by omega))⟩
theorem Blocks.all {k n:Nat} {d:Array α} (h:Blocks lt k n d) (hn:n ≤ k):SortedIn lt 0 n d:=by
 have:=h 0
 rw [Nat.zero_mul,Nat.zero_add,Nat.one_mul,Nat.min_eq_right hn] at this
 exact this
end
end Go.Proofs.Ytahllkifmmjbdaa
