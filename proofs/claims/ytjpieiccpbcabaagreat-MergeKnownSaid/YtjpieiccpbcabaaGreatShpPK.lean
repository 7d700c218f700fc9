/- Rows of new memory that are stored into: they keep their shape (the first half of KeepsP, for seats without items). -/
import Derived.Test.YtjpieiccpbcabaaGreatRdCK
import Derived.Test.YtjpieiccpbcabaaGreatPutDK
namespace Go.Proofs.YtjpieiccpbcabaaGreat
open Go.RowKit
set_option linter.unusedVariables false
set_option linter.unusedSimpArgs false

theorem splice_get (cur xs:List Value) (o m:Nat) (h:o + xs.length ≤ cur.length):(cur.take o ++ xs ++ cur.drop (o + xs.length))[m]? = if o ≤ m ∧ m < o + xs.length then xs[m - o]? else cur[m]?:=by
 have ht:(cur.take o).length = o:=by rw [List.length_take];omega
 by_cases h1:m < o
 ·rw [if_neg (by omega),List.append_assoc,List.getElem?_append_left (by omega),List.getElem?_take_of_lt h1]
 ·by_cases h2:m < o + xs.length
  ·rw [if_pos ⟨by omega,h2⟩,List.append_assoc,List.getElem?_append_right (by omega),ht,List.getElem?_append_left (by omega)]
  ·rw [if_neg (by omega),List.getElem?_append_right (by rw [List.length_append];omega),List.length_append,ht,List.getElem?_drop]
   congr 1;omega
theorem seg_get (l:List Value) (a n i:Nat):((l.drop a).take n)[i]? = if i < n then l[a + i]? else none:=by
 by_cases h:i < n
 ·rw [if_pos h,List.getElem?_take_of_lt h,List.getElem?_drop]
 ·rw [if_neg h,List.getElem?_eq_none (by rw [List.length_take];omega)]
section
variable {α:Type} (C:Cod α)
def Shp (w:World) (g n:Nat) (P:Nat → α → Prop):Prop:=∃ cur:List Value,w.heap[g]? = some (.cells cur.toArray C.t (0,0)) ∧ ∀ k,k < n → ∃ x,P k x ∧ (cur.drop (k * C.n)).take C.n = C.cs x
variable {C}
theorem Shp.of {w0 w:World} {A:Option Addr} {c:Nat} {l:List α} (h:OwnC C w0 w A c l) (h0:0 < l.length):∃ g,A = some ⟨g,0,none⟩ ∧ w0.heap.size ≤ g ∧ Shp C w g l.length (fun k x=>l[k]? = some x):=by
 rcases h.2 with ⟨hv,hn⟩ | ⟨g,cap,cur,hv,hb,hg,hnc,hm,hs,ht⟩
 ·omega
 ·injection hv with h1 h2 h3
  refine ⟨g,h1,hb,cur.toList,(by rw [Array.toArray_toList];exact hg),fun k hk=>⟨l[k],List.getElem?_eq_getElem hk,?_⟩⟩
  have hkk:k * C.n + C.n ≤ l.length * C.n:=by rw [← Nat.succ_mul];exact Nat.mul_le_mul_right _ hk
  apply List.ext_getElem?
  intro i
  rw [seg_get]
  by_cases hi:i < C.n
  ·have e:(C.cs l[k])[i]? = some ((C.cs l[k])[i]'(by rw [C.len];exact hi)):=List.getElem?_eq_getElem _
   rw [if_pos hi,e,← Cod.row_get l k i hk _ e,← ht,List.getElem?_take_of_lt (by omega)]
  ·rw [if_neg hi,List.getElem?_eq_none (by rw [C.len];omega)]
theorem Shp.mono {w:World} {g n:Nat} {P Q:Nat → α → Prop} (h:Shp C w g n P) (hpq:∀ k x,k < n → P k x → Q k x):Shp C w g n Q:=by
 obtain ⟨cur,h1,h2⟩:=h
 exact ⟨cur,h1,fun k hk=>by obtain ⟨x,hp,hx⟩:=h2 k hk;exact ⟨x,hpq k x hk hp,hx⟩⟩
theorem Shp.lt {w:World} {g n:Nat} {P:Nat → α → Prop} (h:Shp C w g n P):g < w.heap.size:=by
 obtain ⟨cur,h1,_⟩:=h
 exact (Array.getElem?_eq_some_iff.1 h1).1
theorem Shp.ne {β:Type} {D:Cod β} {w:World} {g g' n n':Nat} {P:Nat → α → Prop} {Q:Nat → β → Prop} (h:Shp C w g n P) (h':Shp D w g' n' Q) (ht:C.t ≠ D.t):g ≠ g':=by
 rintro rfl
 obtain ⟨cur,h1,_⟩:=h
 obtain ⟨cur',h2,_⟩:=h'
 rw [h1] at h2
 injection h2 with h2
 injection h2 with _ h2 _
 exact ht h2
theorem Shp.fr {M:Nat → Prop} {w w':World} {g n:Nat} {P:Nat → α → Prop} (h:Shp C w g n P) (f:Fr M w w') (hM:¬ M g):Shp C w' g n P:=by
 have hl:=h.lt
 obtain ⟨cur,h1,h2⟩:=h
 exact ⟨cur,(f.block g hl hM).trans h1,h2⟩
theorem Shp.fr0 {w w':World} {g n:Nat} {P:Nat → α → Prop} (h:Shp C w g n P) (f:Fr noB w w'):Shp C w' g n P:=h.fr f (by simp [noB])
theorem Shp.len {w:World} {g n:Nat} {P:Nat → α → Prop} {cur:List Value} (h1:∀ k,k < n → ∃ x,P k x ∧ (cur.drop (k * C.n)).take C.n = C.cs x) {k:Nat} (hk:k < n):k * C.n + C.n ≤ cur.length:=by
 obtain ⟨x,_,hx⟩:=h1 k hk
 have:=congrArg List.length hx
 rw [C.len,List.length_take,List.length_drop] at this
 have:=C.pos
 omega
theorem Shp.rd {w:World} {g n:Nat} {P:Nat → α → Prop} (h:Shp C w g n P) {k:Nat} (hk:k < n):∃ x,P k x ∧ C.rd w g (k * C.n) = some x ∧ ∀ j,j < C.n → w.frozen? ⟨g,k * C.n + j,none⟩ = false:=by
 obtain ⟨cur,h1,h2⟩:=h
 have hb:Blk w g C.t cur:=h1
 obtain ⟨x,hp,hx⟩:=h2 k hk
 refine ⟨x,hp,Cod.Rd.rd fun j v hv=>?_,fun j _=>hb.frozen _⟩
 have hj:j < C.n:=by have:=(List.getElem?_eq_some_iff.1 hv).1;rw [C.len] at this;exact this
 rw [hb.cell,← hv,← hx,seg_get,if_pos hj]
theorem Shp.set2 {w:World} {g n n':Nat} {P P':Nat → α → Prop} (h:Shp C w g n P) (h':Shp C w g n' P') {k:Nat} (hk:k < n) (xs:List Value) (j:Nat) (hj:j + xs.length ≤ C.n)
  (hs:∀ x,P' k x → ∃ x',P' k x' ∧ (C.cs x).take j ++ xs ++ (C.cs x).drop (j + xs.length) = C.cs x'):Shp C (w.setCells g (k * C.n + j) xs) g n' P' ∧ Fr (oneB g) w (w.setCells g (k * C.n + j) xs):=by
 have hlt:=h.lt
 obtain ⟨cur,h1,h2⟩:=h
 obtain ⟨cur',h1',h2'⟩:=h'
 have hl:=Shp.len h2 hk (w:=w) (g:=g)
 have hcc:cur' = cur:=by
  rw [h1] at h1'
  injection h1' with h3
  injection h3 with h3 _ _
  simpa using h3.symm
 subst hcc
 have e:=setCells_row g C.t xs w cur' (k * C.n + j) h1 (by omega)
 obtain ⟨f1,f2,f3⟩:=frameMap hlt (Obj.cells (cur'.take (k * C.n + j) ++ xs ++ cur'.drop (k * C.n + j + xs.length)).toArray C.t (0,0))
 rw [e]
 refine ⟨⟨_,f3,fun k' hk'=>?_⟩,f1⟩
 obtain ⟨x,hp,hx⟩:=h2' k' hk'
 by_cases hkk:k' = k
 ·subst hkk
  obtain ⟨x',hp',hx'⟩:=hs x hp
  refine ⟨x',hp',?_⟩
  rw [← hx',← hx]
  apply List.ext_getElem?
  intro i
  have hsl:((cur'.drop (k' * C.n)).take C.n).length = C.n:=by rw [hx,C.len]
  rw [seg_get,splice_get _ _ _ _ (by omega),splice_get _ _ _ _ (by rw [hsl];exact hj),seg_get]
  by_cases hi:i < C.n
  ·rw [if_pos hi,if_pos hi]
   by_cases hb:j ≤ i ∧ i < j + xs.length
   ·rw [if_pos hb,if_pos (by omega)]
    congr 1;omega
   ·rw [if_neg hb,if_neg (by omega)]
  ·rw [if_neg hi,if_neg (by omega),if_neg hi]
 ·refine ⟨x,hp,?_⟩
  rw [← hx]
  apply List.ext_getElem?
  intro i
  rw [seg_get,seg_get]
  by_cases hi:i < C.n
  ·rw [if_pos hi,if_pos hi,splice_get _ _ _ _ (by omega),if_neg]
   rcases Nat.lt_or_gt_of_ne hkk with h | h
   ·have:=Nat.mul_le_mul_right C.n (show k' + 1 ≤ k by omega)
    rw [Nat.add_mul,Nat.one_mul] at this
    omega
   ·have:=Nat.mul_le_mul_right C.n (show k + 1 ≤ k' by omega)
    rw [Nat.add_mul,Nat.one_mul] at this
    omega
  ·rw [if_neg hi,if_neg hi]
theorem Shp.set {w:World} {g n:Nat} {P:Nat → α → Prop} (h:Shp C w g n P) {k:Nat} (hk:k < n) (xs:List Value) (j:Nat) (hj:j + xs.length ≤ C.n)
  (hs:∀ x,P k x → ∃ x',P k x' ∧ (C.cs x).take j ++ xs ++ (C.cs x).drop (j + xs.length) = C.cs x'):Shp C (w.setCells g (k * C.n + j) xs) g n P ∧ Fr (oneB g) w (w.setCells g (k * C.n + j) xs):=h.set2 h hk xs j hj hs
theorem Shp.stI {w:World} {g n:Nat} {P:Nat → α → Prop} (h:Shp C w g n P) {k:Nat} (hk:k < n) (x:ID) (j o:Nat) (ho:k * C.n + j = o) (hj:j + 32 ≤ C.n):Proofs.YtjpieiccpbcabaaGreat.stI w (.pointer (some ⟨g,o,none⟩)) (encI x) = .ok .skip (w.setCells g o (bv x.1)):=by
 subst ho
 obtain ⟨y,_,hr,hf⟩:=h.rd hk
 have hrun:=run_storeAt_mid (P:=Tryz.prog) w g (k * C.n + j) 24 (bv x.1).toArray (fun i hi=>by
  rw [List.size_toArray,bv_length,x.2] at hi
  have hlt:j + i < (C.cs y).length:=by rw [C.len];omega
  have hc:=Cod.rd_cell hr (j + i) (List.getElem?_eq_getElem hlt)
  rw [Nat.add_assoc]
  exact ⟨by rw [hc];rfl,hf (j + i) (by rw [C.len] at hlt;exact hlt)⟩) (by rw [List.size_toArray,bv_length,x.2];exact infoID) (all_oneCell_toArray (bv_one _))
 unfold Proofs.YtjpieiccpbcabaaGreat.stI
 simp only [encI,idA_eq]
 rw [hrun]
 rfl
end
end Go.Proofs.YtjpieiccpbcabaaGreat
