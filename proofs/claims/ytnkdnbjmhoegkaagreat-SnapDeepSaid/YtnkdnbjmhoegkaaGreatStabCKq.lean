/- Plain: rotations of a row, and merging two sorted rows by a rotation at the right cut. Plain: the steps of a stable sort: cuts found by halving, merges, blocks. Rows of values of several cells that are stored into: exchanges. What a sort does to a row. -/
import Derived.Sort.LotA
import Derived.Sort.LotD2
import Derived.Sort.Lot0
import Derived.Test.YtnkdnbjmhoegkaaGreatCodsKq
set_option linter.unusedVariables false
set_option linter.unusedSimpArgs false
namespace Go.Proofs.YtnkdnbjmhoegkaaGreat
open Go.Sort
variable {α:Type} [Inhabited α]
end Go.Proofs.YtnkdnbjmhoegkaaGreat
namespace Go.Proofs.YtnkdnbjmhoegkaaGreat
open Go.Sort
set_option linter.unusedSectionVars false
section
variable {α:Type} [Inhabited α] {lt:α → α → Bool}
def Blocks (lt:α → α → Bool) (k n:Nat) (d:Array α):Prop:=∀ i,SortedIn lt (i * k) (min ((i + 1) * k) n) d
theorem Blocks.all {k n:Nat} {d:Array α} (h:Blocks lt k n d) (hn:n ≤ k):SortedIn lt 0 n d:=by
 have:=h 0
 rw [Nat.zero_mul,Nat.zero_add,Nat.one_mul,Nat.min_eq_right hn] at this
 exact this
end
end Go.Proofs.YtnkdnbjmhoegkaaGreat
namespace Go.Proofs.YtnkdnbjmhoegkaaGreat
open Go.RowKit Go.Sort
set_option linter.unusedSectionVars false
section
variable {α:Type} [Inhabited α] {C:Cod α}
def RwA (C:Cod α) (w:World) (g:Nat) (d:Array α):Prop:=∃ cur:List Value,w.heap[g]? = some (.cells cur.toArray C.t (0,0)) ∧ cur.take (d.size * C.n) = C.row d.toList
theorem Cod.row_drop (l:List α) (k:Nat) (h:k ≤ l.length):(C.row l).drop (k * C.n) = C.row (l.drop k):=by
 have e:C.row l = C.row (l.take k) ++ C.row (l.drop k):=by rw [← Cod.row_append,List.take_append_drop]
 rw [e,List.drop_left' (by rw [Cod.row_len,List.length_take,Nat.min_eq_left h])]
theorem RwA.own {base:Nat} {w:World} {A:Option Addr} {n c:Nat} {l:List α} (h:w.ownsRow base C.t C.n (.slice A n c) n (C.row l)) (h0:l ≠ []):∃ g,A = some ⟨g,0,none⟩ ∧ base ≤ g ∧ n = l.length ∧ n ≤ c ∧ RwA C w g l.toArray:=by
 have hn:n = l.length:=by
  have:=h.1
  rw [Cod.row_len] at this
  exact Nat.eq_of_mul_eq_mul_right C.pos this.symm
 rcases h.2 with ⟨hv,hn'⟩ | ⟨g,cap,cur,hv,hb,hg,hnc,hm,hs,ht⟩
 ·exact absurd (List.length_eq_zero_iff.1 (hn ▸ hn')) h0
 ·injection hv with h1 h2 h3
  exact ⟨g,h1,hb,hn,by omega,cur.toList,by rw [Array.toArray_toList];exact hg,by rw [hn] at ht;simpa using ht⟩
theorem RwA.lt {w:World} {g:Nat} {d:Array α} (h:RwA C w g d):g < w.heap.size:=by
 obtain ⟨cur,hg,_⟩:=h
 exact (Array.getElem?_eq_some_iff.1 hg).1
theorem RwA.cell {w:World} {g:Nat} {d:Array α} (h:RwA C w g d) (j:Nat) (hj:j < d.size * C.n):w.cell? ⟨g,j,none⟩ = (C.row d.toList)[j]? ∧ w.frozen? ⟨g,j,none⟩ = false:=by
 obtain ⟨cur,hg,ht⟩:=h
 have hb:Blk w g C.t cur:=hg
 refine ⟨?_,hb.frozen j⟩
 rw [hb.cell,← ht,List.getElem?_take_of_lt hj]
theorem RwA.sl {w:World} {g:Nat} {d:Array α} (h:RwA C w g d):Sl w (some ⟨g,0,none⟩) (C.row d.toList):=by
 intro hne
 refine ⟨g,0,rfl,h.lt,fun j v hv=>?_⟩
 have hj:j < d.size * C.n:=by have:=(List.getElem?_eq_some_iff.1 hv).1;rw [Cod.row_len] at this;simpa using this
 rw [Nat.zero_add,(h.cell j hj).1]
 exact hv
theorem RwA.rd {w:World} {g:Nat} {d:Array α} (h:RwA C w g d) (i:Nat) (hi:i < d.size):C.rd w g (i * C.n) = some d[i]!:=by
 have:=h.sl.rd i (by simpa using hi)
 rw [getElem!_pos d i hi]
 simpa using this
theorem RwA.st (H:CodOk Tryz.prog C) {w:World} {g:Nat} {d:Array α} (h:RwA C w g d) (i:Nat) (hi:i < d.size) (x:α) :
  C.stR w (.pointer (some ⟨g,i * C.n,none⟩)) (.agg (C.A x)) = .ok .skip (w.setCells g (i * C.n) (C.cs x)):=by
 have hin:i * C.n + C.n ≤ d.size * C.n:=by
  have:=Nat.mul_le_mul_right C.n (show i + 1 ≤ d.size from hi)
  rwa [Nat.add_mul,Nat.one_mul] at this
 have hrun:=run_storeAt_mid (P:=Tryz.prog) w g (i * C.n) C.t (C.cs x).toArray (fun j hj=>by
  rw [List.size_toArray,C.len] at hj
  obtain ⟨a,b⟩:=h.cell (i * C.n + j) (by omega)
  refine ⟨?_,b⟩
  rw [a]
  have:i * C.n + j < (C.row d.toList).length:=by rw [Cod.row_len];simp only [Array.length_toList];omega
  simp [this]) (by rw [List.size_toArray,C.len];exact H.info) (all_oneCell_toArray (C.one x))
 unfold Cod.stR
 rw [C.A_eq,hrun]
 rfl
structure SWF (C:Cod α) (p:α → Prop) (w0:World) (g:Nat) (d:Array α) (W:World):Prop where
 fr:Fr (oneB g) w0 W
 row:RwA C W g d
 ok:∀ i,i < d.size → p d[i]!
variable {p:α → Prop} {w0 W W':World} {g:Nat} {d:Array α}
theorem SWF.lt (h:SWF C p w0 g d W):g < W.heap.size:=h.row.lt
theorem SWF.rd (h:SWF C p w0 g d W) (i:Nat) (hi:i < d.size):C.rd W g (i * C.n) = some d[i]!:=h.row.rd i hi
/-! the loops' relations -/
end
end Go.Proofs.YtnkdnbjmhoegkaaGreat
