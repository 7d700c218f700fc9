/- Plain: rotations of a row, and merging two sorted rows by a rotation at the right cut. Rows of values of several cells that are stored into: exchanges. What a sort does to a row. -/
import Derived.Sort.LotA
import Derived.Sort.LotD2
import Derived.Sort.Lot0
import Derived.Test.YthehiobacjjakaaGreatDoorCodsKv
set_option linter.unusedVariables false
set_option linter.unusedSimpArgs false
namespace Go.Proofs.YthehiobacjjakaaGreatDoor
open Go.Sort
variable {α:Type} [Inhabited α]
structure RotIn (a m b:Nat) (d d':Array α):Prop where
 size:d'.size = d.size
 out:∀ i,i < a ∨ b ≤ i → d'[i]! = d[i]!
 one:∀ i,i < b - m → d'[a + i]! = d[m + i]!
 two:∀ i,i < m - a → d'[a + (b - m) + i]! = d[a + i]!
structure SwIn (a b n:Nat) (d d':Array α):Prop where
 size:d'.size = d.size
 one:∀ i,i < n → d'[a + i]! = d[b + i]!
 two:∀ i,i < n → d'[b + i]! = d[a + i]!
 out:∀ i,(i < a ∨ a + n ≤ i) → (i < b ∨ b + n ≤ i) → d'[i]! = d[i]!
theorem RotIn.small {m i j:Nat} {d d' T:Array α} (h:RotIn (m - i) m (m + j) d T) (hw:SwIn (m - i) (m + j - i) i d d') (hij:i < j) (him:i ≤ m):RotIn (m - i) m (m + j - i) d' T:=by
 refine ⟨by rw [h.size,hw.size],fun k hk=>?_,fun k hk=>?_,fun k hk=>?_⟩
 ·by_cases hk':m + j - i ≤ k ∧ k < m + j
  ·have:=h.two (k - (m + j - i)) (by omega)
   rw [show m - i + (m + j - m) + (k - (m + j - i)) = k by omega] at this
   rw [this]
   have:=hw.two (k - (m + j - i)) (by omega)
   rw [show m + j - i + (k - (m + j - i)) = k by omega] at this
   rw [this]
  ·rw [h.out k (by omega),hw.out k (by omega) (by omega)]
 ·have:=h.one k (by omega)
  rw [this,hw.out (m + k) (by omega) (by omega)]
 ·have:=h.one (m + j - i - m + k) (by omega)
  rw [show m - i + (m + j - i - m + k) = m - i + (m + j - i - m) + k by omega] at this
  rw [this,hw.one k (by omega)]
  congr 1
  omega
end Go.Proofs.YthehiobacjjakaaGreatDoor
namespace Go.Proofs.YthehiobacjjakaaGreatDoor
open Go.RowKit Go.Sort
set_option linter.unusedSectionVars false
section
variable {α:Type} [Inhabited α] {C:Cod α}
def RwA (C:Cod α) (w:World) (g:Nat) (d:Array α):Prop:=∃ cur:List Value,w.heap[g]? = some (.cells cur.toArray C.t (0,0)) ∧ cur.take (d.size * C.n) = C.row d.toList
theorem Cod.row_take (l:List α) (k:Nat) (h:k ≤ l.length):(C.row l).take (k * C.n) = C.row (l.take k):=by
 have e:C.row l = C.row (l.take k) ++ C.row (l.drop k):=by rw [← Cod.row_append,List.take_append_drop]
 rw [e,List.take_left' (by rw [Cod.row_len,List.length_take,Nat.min_eq_left h])]
theorem Cod.row_drop (l:List α) (k:Nat) (h:k ≤ l.length):(C.row l).drop (k * C.n) = C.row (l.drop k):=by
 have e:C.row l = C.row (l.take k) ++ C.row (l.drop k):=by rw [← Cod.row_append,List.take_append_drop]
 rw [e,List.drop_left' (by rw [Cod.row_len,List.length_take,Nat.min_eq_left h])]
theorem Cod.row_one_ (x:α):C.row [x] = C.cs x:=by simp [Cod.row]
theorem RwA.own {base:Nat} {w:World} {A:Option Addr} {n c:Nat} {l:List α} (h:w.ownsRow base C.t C.n (.slice A n c) n (C.row l)) (h0:l ≠ []):∃ g,A = some ⟨g,0,none⟩ ∧ base ≤ g ∧ n = l.length ∧ n ≤ c ∧ RwA C w g l.toArray:=by
 have hn:n = l.length:=by
  have:=h.1
  rw [Cod.row_len] at this
  exact Nat.eq_of_mul_eq_mul_right C.pos this.symm
 rcases h.2 with ⟨hv,hn'⟩ | ⟨g,cap,cur,hv,hb,hg,hnc,hm,hs,ht⟩
 ·exact absurd (List.length_eq_zero_iff.1 (hn ▸ hn')) h0
 ·injection hv with h1 h2 h3
  exact ⟨g,h1,hb,hn,by omega,cur.toList,by rw [Array.toArray_toList];exact hg,by rw [hn] at ht;simpa using ht⟩
theorem RwA.lt {w:World} {g:Nat} {d:Array α} (h:RwA C w g d):g < w.heap.size:=by
 obtain ⟨cur,hg,_⟩:=h
 exact (Array.getElem?_eq_some_iff.1 hg).1
theorem RwA.cell {w:World} {g:Nat} {d:Array α} (h:RwA C w g d) (j:Nat) (hj:j < d.size * C.n):w.cell? ⟨g,j,none⟩ = (C.row d.toList)[j]? ∧ w.frozen? ⟨g,j,none⟩ = false:=by
 obtain ⟨cur,hg,ht⟩:=h
 have hb:Blk w g C.t cur:=hg
 refine ⟨?_,hb.frozen j⟩
 rw [hb.cell,← ht,List.getElem?_take_of_lt hj]
theorem RwA.sl {w:World} {g:Nat} {d:Array α} (h:RwA C w g d):Sl w (some ⟨g,0,none⟩) (C.row d.toList):=by
 intro hne
 refine ⟨g,0,rfl,h.lt,fun j v hv=>?_⟩
 have hj:j < d.size * C.n:=by have:=(List.getElem?_eq_some_iff.1 hv).1;rw [Cod.row_len] at this;simpa using this
 rw [Nat.zero_add,(h.cell j hj).1]
 exact hv
theorem RwA.rd {w:World} {g:Nat} {d:Array α} (h:RwA C w g d) (i:Nat) (hi:i < d.size):C.rd w g (i * C.n) = some d[i]!:=by
 have:=h.sl.rd i (by simpa using hi)
 rw [getElem!_pos d i hi]
 simpa using this
structure SWF (C:Cod α) (p:α → Prop) (w0:World) (g:Nat) (d:Array α) (W:World):Prop where
 fr:Fr (oneB g) w0 W
 row:RwA C W g d
 ok:∀ i,i < d.size → p d[i]!
variable {p:α → Prop} {w0 W W':World} {g:Nat} {d:Array α}
theorem SWF.lt (h:SWF C p w0 g d W):g < W.heap.size:=h.row.lt
theorem SWF.rd (h:SWF C p w0 g d W) (i:Nat) (hi:i < d.size):C.rd W g (i * C.n) = some d[i]!:=h.row.rd i hi
/-! the loops' relations -/
end
end Go.Proofs.YthehiobacjjakaaGreatDoor
