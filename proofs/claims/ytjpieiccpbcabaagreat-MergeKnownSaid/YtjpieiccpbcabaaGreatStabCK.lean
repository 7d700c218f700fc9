/- Rows of values of several cells that are stored into: exchanges. What a sort does to a row. -/
import Derived.Test.YtjpieiccpbcabaaGreatEqsK
import Derived.Test.YtjpieiccpbcabaaGreatStabPK
namespace Go.Proofs.YtjpieiccpbcabaaGreat
open Go.RowKit Go.Sort
set_option linter.unusedVariables false
set_option linter.unusedSimpArgs false
set_option linter.unusedSectionVars false
section
variable {α:Type} [Inhabited α] {C:Cod α}
def RwA (C:Cod α) (w:World) (g:Nat) (d:Array α):Prop:=∃ cur:List Value,w.heap[g]? = some (.cells cur.toArray C.t (0,0)) ∧ cur.take (d.size * C.n) = C.row d.toList
theorem Cod.row_take (l:List α) (k:Nat) (h:k ≤ l.length):(C.row l).take (k * C.n) = C.row (l.take k):=by
 have e:C.row l = C.row (l.take k) ++ C.row (l.drop k):=by rw [← Cod.row_append,List.take_append_drop]
 rw [e,List.take_left' (by rw [Cod.row_len,List.length_take,Nat.min_eq_left h])]
theorem Cod.row_drop (l:List α) (k:Nat) (h:k ≤ l.length):(C.row l).drop (k * C.n) = C.row (l.drop k):=by
 have e:C.row l = C.row (l.take k) ++ C.row (l.drop k):=by rw [← Cod.row_append,List.take_append_drop]
 rw [e,List.drop_left' (by rw [Cod.row_len,List.length_take,Nat.min_eq_left h])]
theorem Cod.row_one_ (x:α):C.row [x] = C.cs x:=by simp [Cod.row]
theorem RwA.own {base:Nat} {w:World} {A:Option Addr} {n c:Nat} {l:List α} (h:w.ownsRow base C.t C.n (.slice A n c) n (C.row l)) (h0:l ≠ []):∃ g,A = some ⟨g,0,none⟩ ∧ base ≤ g ∧ n = l.length ∧ n ≤ c ∧ RwA C w g l.toArray:=by
 have hn:n = l.length:=by
  have:=h.1
  rw [Cod.row_len] at this
  exact Nat.eq_of_mul_eq_mul_right C.pos this.symm
 rcases h.2 with ⟨hv,hn'⟩ | ⟨g,cap,cur,hv,hb,hg,hnc,hm,hs,ht⟩
 ·exact absurd (List.length_eq_zero_iff.1 (hn ▸ hn')) h0
 ·injection hv with h1 h2 h3
  exact ⟨g,h1,hb,hn,by omega,cur.toList,by rw [Array.toArray_toList];exact hg,by rw [hn] at ht;simpa using ht⟩
theorem RwA.lt {w:World} {g:Nat} {d:Array α} (h:RwA C w g d):g < w.heap.size:=by
 obtain ⟨cur,hg,_⟩:=h
 exact (Array.getElem?_eq_some_iff.1 hg).1
theorem RwA.cell {w:World} {g:Nat} {d:Array α} (h:RwA C w g d) (j:Nat) (hj:j < d.size * C.n):w.cell? ⟨g,j,none⟩ = (C.row d.toList)[j]? ∧ w.frozen? ⟨g,j,none⟩ = false:=by
 obtain ⟨cur,hg,ht⟩:=h
 have hb:Blk w g C.t cur:=hg
 refine ⟨?_,hb.frozen j⟩
 rw [hb.cell,← ht,List.getElem?_take_of_lt hj]
theorem RwA.sl {w:World} {g:Nat} {d:Array α} (h:RwA C w g d):Sl w (some ⟨g,0,none⟩) (C.row d.toList):=by
 intro hne
 refine ⟨g,0,rfl,h.lt,fun j v hv=>?_⟩
 have hj:j < d.size * C.n:=by have:=(List.getElem?_eq_some_iff.1 hv).1;rw [Cod.row_len] at this;simpa using this
 rw [Nat.zero_add,(h.cell j hj).1]
 exact hv
theorem RwA.fr0 {w w':World} {g:Nat} {d:Array α} (h:RwA C w g d) (f:Fr noB w w'):RwA C w' g d:=by
 have hl:=h.lt
 obtain ⟨cur,hg,ht⟩:=h
 exact ⟨cur,(f.block g hl (by simp [noB])).trans hg,ht⟩
theorem RwA.rd {w:World} {g:Nat} {d:Array α} (h:RwA C w g d) (i:Nat) (hi:i < d.size):C.rd w g (i * C.n) = some d[i]!:=by
 have:=h.sl.rd i (by simpa using hi)
 rw [getElem!_pos d i hi]
 simpa using this
theorem RwA.set {w:World} {g:Nat} {d:Array α} (h:RwA C w g d) (i:Nat) (hi:i < d.size) (x:α) :
  RwA C (w.setCells g (i * C.n) (C.cs x)) g (d.setIfInBounds i x) ∧ Fr (oneB g) w (w.setCells g (i * C.n) (C.cs x)):=by
 have hlt:=h.lt
 obtain ⟨cur,hg,ht⟩:=h
 have hcl:d.size * C.n ≤ cur.length:=by
  have:=congrArg List.length ht
  rw [List.length_take,Cod.row_len] at this
  simp only [Array.length_toList] at this
  omega
 have hin:i * C.n + C.n ≤ d.size * C.n:=by
  have:=Nat.mul_le_mul_right C.n (show i + 1 ≤ d.size from hi)
  rwa [Nat.add_mul,Nat.one_mul] at this
 have hnl:(C.cs x).length = C.n:=C.len x
 have e:=setCells_row g C.t (C.cs x) w cur (i * C.n) hg (by rw [hnl];omega)
 obtain ⟨f1,f2,f3⟩:=frameMap hlt (Obj.cells (cur.take (i * C.n) ++ C.cs x ++ cur.drop (i * C.n + (C.cs x).length)).toArray C.t (0,0))
 rw [e]
 refine ⟨⟨_,f3,?_⟩,f1⟩
 rw [Array.toList_setIfInBounds,hnl]
 have hi':i < d.toList.length:=by simpa using hi
 have hsz:(d.setIfInBounds i x).size = d.size:=by simp
 rw [hsz,List.set_eq_take_append_cons_drop,if_pos hi',show d.toList.take i ++ x :: d.toList.drop (i + 1) = d.toList.take i ++ ([x] ++ d.toList.drop (i + 1)) by rfl,Cod.row_append,Cod.row_append,Cod.row_one_]
 have e1:cur.take (i * C.n) = C.row (d.toList.take i):=by
  rw [← Cod.row_take _ i (by omega),← ht,List.take_take]
  congr 1
  omega
 have e2:(cur.drop (i * C.n + C.n)).take (d.size * C.n - (i * C.n + C.n)) = C.row (d.toList.drop (i + 1)):=by
  rw [← Cod.row_drop _ (i + 1) (by omega),← ht,List.drop_take,Nat.add_mul,Nat.one_mul]
 rw [e1,← e2]
 have hl3:(C.row (d.toList.take i) ++ C.cs x).length = i * C.n + C.n:=by
  rw [List.length_append,Cod.row_len,List.length_take,hnl,Nat.min_eq_left (by omega)]
 rw [List.take_append,List.take_of_length_le (by rw [hl3];omega),hl3,List.append_assoc]
theorem RwA.st (H:CodOk Tryz.prog C) {w:World} {g:Nat} {d:Array α} (h:RwA C w g d) (i:Nat) (hi:i < d.size) (x:α) :
  C.stR w (.pointer (some ⟨g,i * C.n,none⟩)) (.agg (C.A x)) = .ok .skip (w.setCells g (i * C.n) (C.cs x)):=by
 have hin:i * C.n + C.n ≤ d.size * C.n:=by
  have:=Nat.mul_le_mul_right C.n (show i + 1 ≤ d.size from hi)
  rwa [Nat.add_mul,Nat.one_mul] at this
 have hrun:=run_storeAt_mid (P:=Tryz.prog) w g (i * C.n) C.t (C.cs x).toArray (fun j hj=>by
  rw [List.size_toArray,C.len] at hj
  obtain ⟨a,b⟩:=h.cell (i * C.n + j) (by omega)
  refine ⟨?_,b⟩
  rw [a]
  have:i * C.n + j < (C.row d.toList).length:=by rw [Cod.row_len];simp only [Array.length_toList];omega
  simp [this]) (by rw [List.size_toArray,C.len];exact H.info) (all_oneCell_toArray (C.one x))
 unfold Cod.stR
 rw [C.A_eq,hrun]
 rfl
structure SWF (C:Cod α) (p:α → Prop) (w0:World) (g:Nat) (d:Array α) (W:World):Prop where
 fr:Fr (oneB g) w0 W
 row:RwA C W g d
 ok:∀ i,i < d.size → p d[i]!
variable {p:α → Prop} {w0 W W':World} {g:Nat} {d:Array α}
theorem SWF.lt (h:SWF C p w0 g d W):g < W.heap.size:=h.row.lt
theorem SWF.step (h:SWF C p w0 g d W) (f:Fr noB W W'):SWF C p w0 g d W':=⟨h.fr.step0 f,h.row.fr0 f,h.ok⟩
theorem SWF.rd (h:SWF C p w0 g d W) (i:Nat) (hi:i < d.size):C.rd W g (i * C.n) = some d[i]!:=h.row.rd i hi
theorem SWF.ok_swp (h:∀ i,i < d.size → p d[i]!) {i j:Nat} (hi:i < d.size) (hj:j < d.size):∀ k,k < (swp d i j).size → p (swp d i j)[k]!:=fun k hk=>by
 rw [swp_size] at hk
 rw [swp_get d hi hj]
 split
 ·exact h _ hi
 ·split
  ·exact h _ hj
  ·exact h _ hk
theorem SWF.swp (H:CodOk Tryz.prog C) (h:SWF C p w0 g d W) {i j:Nat} (hi:i < d.size) (hj:j < d.size) :
  C.stR W (.pointer (some ⟨g,i * C.n,none⟩)) (.agg (C.A d[j]!)) = .ok .skip (W.setCells g (i * C.n) (C.cs d[j]!)) ∧
  C.stR (W.setCells g (i * C.n) (C.cs d[j]!)) (.pointer (some ⟨g,j * C.n,none⟩)) (.agg (C.A d[i]!)) = .ok .skip ((W.setCells g (i * C.n) (C.cs d[j]!)).setCells g (j * C.n) (C.cs d[i]!)) ∧
  SWF C p w0 g (swp d i j) ((W.setCells g (i * C.n) (C.cs d[j]!)).setCells g (j * C.n) (C.cs d[i]!)):=by
 obtain ⟨s1,f1⟩:=h.row.set i hi d[j]!
 have hj':j < (d.setIfInBounds i d[j]!).size:=by simpa using hj
 obtain ⟨s2,f2⟩:=s1.set j hj' d[i]!
 refine ⟨h.row.st H i hi _,s1.st H j hj' _,⟨(h.fr.trans f1 (fun _ _ h=>h)).trans f2 (fun _ _ h=>h),s2,SWF.ok_swp h.ok hi hj⟩⟩
def ltC (cf:α → α → Int) (x y:α):Bool:=decide (cf x y < 0)
/-! the loops' relations -/
def SwpR (C:Cod α) (p:α → Prop) (w0:World) (g:Nat) (d:Array α) (a b n:Nat) (gk:Nat) (iv:Value) (wr:World):Prop :=
 ∃ (k:Nat) (dk:Array α),iv = .int .i64 (k:Int) ∧ gk = n - k ∧ k ≤ n ∧ SWF C p w0 g dk wr ∧ SwIn a b k d dk
def RotR (C:Cod α) (p:α → Prop) (w0:World) (g:Nat) (T:Array α) (m N:Nat) (gk:Nat) (iv jv:Value) (wr:World):Prop :=
 ∃ (i j:Nat) (dk:Array α),iv = .int .i64 (i:Int) ∧ jv = .int .i64 (j:Int) ∧ gk = i + j ∧ 0 < i ∧ 0 < j ∧ i ≤ m ∧ m + j ≤ N ∧ dk.size = N ∧ SWF C p w0 g dk wr ∧ RotIn (m - i) m (m + j) dk T
def InsR (C:Cod α) (p:α → Prop) (w0:World) (g:Nat) (lt:α → α → Bool) (d:Array α) (a b N:Nat) (gk:Nat) (iv:Value) (wr:World):Prop :=
 ∃ (i:Nat) (dk:Array α),iv = .int .i64 (i:Int) ∧ gk = b + 1 - i ∧ a < i ∧ i ≤ b + 1 ∧ dk.size = N ∧ SWF C p w0 g dk wr ∧ insOuter lt a b i dk = insOuter lt a b (a + 1) d
def InnR (C:Cod α) (p:α → Prop) (w0:World) (g:Nat) (lt:α → α → Bool) (d:Array α) (a i N:Nat) (gk:Nat) (jv:Value) (wr:World):Prop :=
 ∃ (j:Nat) (dk:Array α),jv = .int .i64 (j:Int) ∧ j = gk ∧ a ≤ j ∧ j ≤ i ∧ dk.size = N ∧ SWF C p w0 g dk wr ∧ insInner lt a j dk = insInner lt a i d
def BsR (C:Cod α) (p:α → Prop) (w0:World) (g:Nat) (d:Array α) (K:Nat → Nat → Prop) (gk:Nat) (iv jv:Value) (wr:World):Prop :=
 ∃ (i j:Nat),iv = .int .i64 (i:Int) ∧ jv = .int .i64 (j:Int) ∧ gk = j - i ∧ i ≤ j ∧ K i j ∧ SWF C p w0 g d wr
def MvR (C:Cod α) (p:α → Prop) (w0:World) (g:Nat) (N:Nat) (K:Nat → Array α → Prop) (ms:Nat → Nat) (gk:Nat) (kv:Value) (wr:World):Prop :=
 ∃ (k:Nat) (dk:Array α),kv = .int .i64 (k:Int) ∧ gk = ms k ∧ dk.size = N ∧ K k dk ∧ SWF C p w0 g dk wr
end
end Go.Proofs.YtjpieiccpbcabaaGreat
