/- Contracts: stamp.Same; the closure of grove's do, IndexFunc and DeleteFunc of heads with it. (ex_ldS_at) Contracts: the closure of grove's do, IndexFunc and DeleteFunc of heads with it. (ex_ldS_at) A tree (grove) in memory; contracts: fixed, above, undo. (ex_ldS_at, ex_ldR_at) Contracts: grove's above, undo. (ex_ldS_at, ex_ldR_at) -/
import Derived.Test.YtjpieiccpbcabaaGreatGvBKu
import Derived.Lib.SliceRun
import Derived.Test.YtjpieiccpbcabaaGreatStWKu
import Derived.Test.YtjpieiccpbcabaaGreatGvMKu
import Derived.Test.YtjpieiccpbcabaaGreatFrameOKu
set_option linter.unusedVariables false
set_option linter.unusedSimpArgs false
namespace Go.Proofs.YtjpieiccpbcabaaGreat
open Go.RowKit
set_option linter.unusedSectionVars false
def sameO (a b:Opn):Bool:=decide (a.Kind = b.Kind) && decide (a.At = b.At) && decide (a.Node = b.Node) && decide (a.Parent = b.Parent) && decide (a.Name = b.Name) && decide (a.Data = b.Data) && decide (a.Over = b.Over)
theorem sameO_iff {a b:Opn}:sameO a b = true ↔ a = b:=by
 obtain ⟨a1,a2,a3,a4,a5,a6,a7⟩:=a
 obtain ⟨b1,b2,b3,b4,b5,b6,b7⟩:=b
 unfold sameO
 simp [and_assoc]
set_option maxRecDepth 100000 in
set_option maxHeartbeats 2000000 in
theorem sSame_any (w:World) (r s:OpW) (x y:Opn) (hx:OpIn w r x) (hy:OpIn w s y):Calls Tryz.prog 68 #[.agg (codO.A r),.agg (codO.A s)] w (Gives w (.bool (sameO x y))):=by
 have fa:Fr noB w ((w.alloc (.cells (codO.A r) 83)).alloc (.cells (codO.A s) 83)):=((Fr.refl noB w).alloc _).alloc _
 have n1:=opAt (Cod.rd_fr0 (Cod.rd_new (C:=codO) w 83 r) ((Fr.refl noB _).alloc (.cells (codO.A s) 83)))
 have n2:=opAt (Cod.rd_new (C:=codO) (w.alloc (.cells (codO.A r) 83)) 83 s)
 have hz:(w.alloc (.cells (codO.A r) 83)).heap.size = w.heap.size + 1:=by simp
 rw [hz] at n2
 obtain ⟨u1,u2,u3,u4,u5,u6,u7,u8,u9,u10⟩:=n1
 obtain ⟨v1,v2,v3,v4,v5,v6,v7,v8,v9,v10⟩:=n2
 have HD:=Lib.hid (eqStamps_any _ r.A s.A r.c s.c r.n s.n x.Over y.Over hx.len hy.len (hx.sl.fr0 fa) (hy.sl.fr0 fa) hx.bd hy.bd)
 have hM:sameO x y = (decide (r.Kind = s.Kind) && decide (r.At = s.At) && decide (r.Node = s.Node) && decide (r.Parent = s.Parent) && decide (r.Name = s.Name) && decide (r.Data = s.Data) && decide (x.Over = y.Over)):=by
  conv=>lhs;rw [hx.eq,hy.eq]
  rfl
 have HM:=Lib.hid hM
 clear hz hM u2 u3 u10 v2 v3 v10 hx hy
 have hnm:((str r.Name).toList == (str s.Name).toList) = decide (r.Name = s.Name):=by
  rw [str_toList,str_toList,Bool.eq_iff_iff];simp
 generalize decide (x.Over = y.Over) = sd at HD HM
 have ek:(r.Kind == s.Kind) = decide (r.Kind = s.Kind):=by rw [Bool.eq_iff_iff];simp
 cases d1:decide (r.Kind = s.Kind) with
 | false =>
  rw [d1] at ek
  have HE:=Lib.hid (HM.out.trans (by rw [d1];simp):sameO x y = false)
  clear HM
  go_enter Tryz.func68,Tryz.ntmps68
  go_wp2_with fail
  go_ret
  exact ⟨by rw [HE.out];rfl,fa⟩
 | true =>
  rw [d1] at ek
  cases d2:decide (r.At = s.At) with
  | false =>
   have HE:=Lib.hid (HM.out.trans (by rw [d2];simp):sameO x y = false)
   clear HM
   go_enter Tryz.func68,Tryz.ntmps68
   go_wp2_with fail
   go_ret
   exact ⟨by rw [HE.out];rfl,fa⟩
  | true =>
   cases d3:decide (r.Node = s.Node) with
   | false =>
    have HE:=Lib.hid (HM.out.trans (by rw [d3];simp):sameO x y = false)
    clear HM
    go_enter Tryz.func68,Tryz.ntmps68
    go_wp2_with fail
    go_ret
    exact ⟨by rw [HE.out];rfl,fa⟩
   | true =>
    cases d4:decide (r.Parent = s.Parent) with
    | false =>
     have HE:=Lib.hid (HM.out.trans (by rw [d4];simp):sameO x y = false)
     clear HM
     go_enter Tryz.func68,Tryz.ntmps68
     go_wp2_with fail
     go_ret
     exact ⟨by rw [HE.out];rfl,fa⟩
    | true =>
     cases d5:decide (r.Name = s.Name) with
     | false =>
      rw [d5] at hnm
      have HE:=Lib.hid (HM.out.trans (by rw [d5];simp):sameO x y = false)
      clear HM
      go_enter Tryz.func68,Tryz.ntmps68
      go_wp2_with fail
      go_ret
      exact ⟨by rw [HE.out];rfl,fa⟩
     | true =>
      rw [d5] at hnm
      cases d6:decide (r.Data = s.Data) with
      | false =>
       have HE:=Lib.hid (HM.out.trans (by rw [d6];simp):sameO x y = false)
       clear HM
       go_enter Tryz.func68,Tryz.ntmps68
       go_wp2_with fail
       go_ret
       exact ⟨by rw [HE.out];rfl,fa⟩
      | true =>
       have HE:=Lib.hid (HM.out.trans (by rw [d1,d2,d3,d4,d5,d6];simp):sameO x y = sd)
       clear HM
       go_enter Tryz.func68,Tryz.ntmps68
       go_wp2_with (go_at_call 98;refine HD.out.mono ?_;rintro e w5 ⟨rfl,f5⟩)
       go_ret
       exact ⟨by rw [HE.out];rfl,fa.step0 f5⟩
/-! rows owned that are stored into -/
section
variable {α:Type} [Inhabited α] {C:Cod α}
theorem OwnC.sets {w0 w:World} {A:Option Addr} {c g:Nat} {l:List α} (h:OwnC C w0 w A c l) (hA:A = some ⟨g,0,none⟩) (k:Nat) (news:List α) (hk:k + news.length ≤ l.length) (hl:l ≠ []) :
  OwnC C w0 (w.setCells g (k * C.n) (C.row news)) A c (l.take k ++ news ++ l.drop (k + news.length)) ∧ Fr (oneB g) w (w.setCells g (k * C.n) (C.row news)):=by
 have hlp:=List.length_pos_iff.2 hl
 have hlen:(l.take k ++ news ++ l.drop (k + news.length)).length = l.length:=by simp;omega
 rcases h.2 with ⟨hv,h00⟩ | ⟨blk,cap,cur,hv,hb,hg,hnc,hm,hs,ht⟩
 ·omega
 ·injection hv with h1 _ h3
  rw [hA] at h1
  injection h1 with h1
  injection h1 with h1
  subst h1;subst h3
  have hlt:g < w.heap.size:=(Array.getElem?_eq_some_iff.1 hg).1
  have hg':w.heap[g]? = some (.cells cur.toList.toArray C.t (0,0)):=by rw [Array.toArray_toList];exact hg
  have hcl:l.length * C.n ≤ cur.toList.length:=by
   have:=congrArg List.length ht
   rw [List.length_take,Cod.row_len] at this
   omega
  have hnl:(C.row news).length = news.length * C.n:=Cod.row_len _
  have hin:k * C.n + news.length * C.n ≤ l.length * C.n:=by rw [← Nat.add_mul];exact Nat.mul_le_mul_right _ hk
  have e:=setCells_row g C.t (C.row news) w cur.toList (k * C.n) hg' (by rw [hnl];omega)
  obtain ⟨f1,f2,f3⟩:=frameMap hlt (Obj.cells (cur.toList.take (k * C.n) ++ C.row news ++ cur.toList.drop (k * C.n + (C.row news).length)).toArray C.t (0,0))
  rw [e]
  refine ⟨⟨by rw [Cod.row_len],.inr ⟨g,c,_,by rw [hA,hlen],hb,f3,by rw [hlen];exact hnc,hm,?_,?_⟩⟩,f1⟩
  ·have:cur.toList.length = cur.size:=by simp
   simp only [List.size_toArray,List.length_append,List.length_take,List.length_drop,hnl]
   rw [← hs]
   omega
  ·rw [hlen,Cod.row_append,Cod.row_append,hnl]
   have e1:cur.toList.take (k * C.n) = C.row (l.take k):=by
    rw [← Cod.row_take _ k (by omega),← ht,List.take_take]
    congr 1
    omega
   have e2:(cur.toList.drop (k * C.n + news.length * C.n)).take (l.length * C.n - (k * C.n + news.length * C.n)) = C.row (l.drop (k + news.length)):=by
    rw [← Cod.row_drop _ _ hk,← ht,List.drop_take,Nat.add_mul]
   have hl3:(C.row (l.take k) ++ C.row news).length = k * C.n + news.length * C.n:=by
    rw [List.length_append,Cod.row_len,List.length_take,hnl,Nat.min_eq_left (by omega)]
   show List.take (l.length * C.n) (cur.toList.take (k * C.n) ++ C.row news ++ cur.toList.drop (k * C.n + news.length * C.n)) = _
   rw [e1,← e2,List.take_append,List.take_of_length_le (by rw [hl3];omega),hl3]
theorem OwnC.set {w0 w:World} {A:Option Addr} {c g:Nat} {l:List α} (h:OwnC C w0 w A c l) (hA:A = some ⟨g,0,none⟩) (k:Nat) (hk:k < l.length) (x:α) :
  OwnC C w0 (w.setCells g (k * C.n) (C.cs x)) A c (l.set k x) ∧ Fr (oneB g) w (w.setCells g (k * C.n) (C.cs x)):=by
 have:=OwnC.sets h hA k [x] (by simp only [List.length_singleton];omega) (by intro h0;rw [h0] at hk;simp at hk)
 rw [Cod.row_one_] at this
 rw [List.set_eq_take_append_cons_drop,if_pos hk]
 simpa using this
theorem OwnC.pre {w0 w:World} {A:Option Addr} {c:Nat} {l:List α} (h:OwnC C w0 w A c l) (k:Nat) (hk:k ≤ l.length):OwnC C w0 w A c (l.take k):=by
 have hlen:(l.take k).length = k:=by rw [List.length_take];omega
 refine ⟨by rw [Cod.row_len],?_⟩
 rcases h.2 with ⟨hv,h00⟩ | ⟨blk,cap,cur,hv,hb,hg,hnc,hm,hs,ht⟩
 ·left
  have:l = []:=List.length_eq_zero_iff.1 h00
  subst this
  simp at hk
  subst hk
  exact ⟨hv,rfl⟩
 ·right
  injection hv with h1 h2 h3
  refine ⟨blk,cap,cur,by rw [h1,h3],hb,hg,by rw [hlen];omega,hm,hs,?_⟩
  rw [hlen,← Cod.row_take l k hk,← ht,List.take_take]
  congr 1
  have:=Nat.mul_le_mul_right C.n hk
  omega
theorem zero_cellsC (z:α) (m:Nat):(Builtin.zeroCells (Value.agg (C.cs z).toArray).cells m).toList = C.row (List.replicate m z):=by
 have hsz:(Value.agg (C.cs z).toArray).cells.size = C.n:=by simp [Value.cells,C.len]
 apply List.ext_getElem?
 intro i
 by_cases hi:i < m * C.n
 ·have hq:i / C.n < m:=by rwa [Nat.div_lt_iff_lt_mul C.pos]
  have hr:i % C.n < C.n:=Nat.mod_lt _ C.pos
  have e1:(C.cs z)[i % C.n]? = some ((C.cs z)[i % C.n]'(by rw [C.len];exact hr)):=List.getElem?_eq_getElem _
  have e2:=Cod.row_get (C:=C) (List.replicate m z) (i / C.n) (i % C.n) (by simpa using hq) _ (by rw [List.getElem_replicate];exact e1)
  rw [show i / C.n * C.n + i % C.n = i by rw [Nat.mul_comm];exact Nat.div_add_mod i C.n] at e2
  rw [e2,Array.getElem?_toList]
  simp [Builtin.zeroCells,hsz,hi,Value.cells,C.len,hr]
 ·rw [List.getElem?_eq_none (by simp [Builtin.zeroCells,hsz];omega),List.getElem?_eq_none (by rw [Cod.row_len];simp;omega)]
set_option maxRecDepth 100000 in
theorem OwnC.clear {w0 w:World} {A:Option Addr} {c g:Nat} {l:List α} (H:CodOk Tryz.prog C) {ts:TypeId} (hts:Tryz.prog.underlying ts = some (.slice C.t)) (h:OwnC C w0 w A c l) (hA:A = some ⟨g,0,none⟩) (k m cc:Nat) (hk:k + m = l.length) (hm:0 < m) (ty:TypeId) :
  (Builtin.clear_ #[ts] ty #[.slice (some ⟨g,k * C.n,none⟩) m cc]).run Tryz.prog w = .ok (.tuple #[]) (w.setCells g (k * C.n) (C.row (List.replicate m C.z))):=by
 obtain ⟨g',e,_,_,_,hR⟩:=RwA.own h (by intro h0;rw [h0] at hk;simp at hk;omega)
 rw [hA] at e
 injection e with e
 injection e with e
 subst e
 have hl:(C.row (List.replicate m C.z)).length = m * C.n:=by rw [Cod.row_len,List.length_replicate]
 have hmul:l.length * C.n = k * C.n + m * C.n:=by rw [← hk,Nat.add_mul]
 have hst:=run_storeCells_cells (P:=Tryz.prog) g (k * C.n) (C.row (List.replicate m C.z)) 0 w (fun j hj=>by
  rw [hl] at hj
  obtain ⟨a,b⟩:=hR.cell (k * C.n + j) (by simp only [List.size_toArray];omega)
  simp only [Nat.zero_add,Nat.add_zero]
  rw [a]
  have:k * C.n + j < (C.row l).length:=by rw [Cod.row_len];omega
  simp [this]) (fun j hj=>by
  rw [hl] at hj
  simp only [Nat.zero_add,Nat.add_zero]
  exact (hR.cell (k * C.n + j) (by simp only [List.size_toArray];omega)).2) (Cod.row_one _)
 simp only [Nat.add_zero] at hst
 obtain ⟨m',rfl⟩:∃ m',m = m' + 1:=⟨m - 1,by omega⟩
 simp [Builtin.clear_,run_underlying hts,H.zero,zero_cellsC,hst]
end
instance:Inhabited Hd:=⟨codH.z⟩
instance:Inhabited DnW:=⟨zDnW⟩
instance:Inhabited OpW:=⟨zOpW⟩
end Go.Proofs.YtjpieiccpbcabaaGreat
namespace Go.Proofs.YtjpieiccpbcabaaGreat
open Go.RowKit
set_option maxRecDepth 100000 in
theorem gvDo1_any (w:World) (O:Nat) (OA:Option Addr) (on oc:Nat) (ov:List St) (ho:w.cell? ⟨O,40,none⟩ = some (.slice OA on oc)) (hon:ov.length = on) (hs:Sl w OA (codS.row ov)) (hb:ov.length ≤ 140737488355328) (h:Hd) :
  Calls Tryz.prog 140 #[.agg (codH.A h),.pointer (some ⟨O,0,none⟩)] w (Gives w (.bool (decide (h.At ∈ ov)))):=by
 have f0:Fr noB w (w.alloc (.cells (codH.A h) 149)):=(Fr.refl noB w).alloc _
 have q1:=(hdAt (Cod.rd_new (C:=codH) w 149 h)).At
 have q2:=cell_fr0 ho f0
 have HC:=Lib.hid (ctStamps_any _ OA oc on ov hon (hs.fr0 f0) hb h.At)
 go_enter Tryz.func140,Tryz.ntmps140
 go_wp2_with (go_at_call 141;refine HC.out.mono ?_;rintro e w5 ⟨rfl,f5⟩)
 go_ret
 exact ⟨rfl,f0.step0 f5⟩
def FstI (n:Nat) (p:Nat → Bool) (z:Int):Prop:=(∃ i:Nat,i < n ∧ z = (i:Int) ∧ p i = true ∧ ∀ j,j < i → p j = false) ∨ (z = -1 ∧ ∀ j,j < n → p j = false)
def FiTo (w:World) (n:Nat) (p:Nat → Bool) (e:Ending) (w':World):Prop:=∃ z:Int,e = .returned (.int .i64 z) ∧ FstI n p z ∧ Fr noB w w'
set_option maxRecDepth 100000 in
set_option maxHeartbeats 1000000 in
theorem idxHeads_any (w:World) (A:Option Addr) (c n:Nat) (l:List Hd) (hn:l.length = n) (hs:Sl w A (codH.row l)) (hb:l.length ≤ 140737488355328) (cp:Value) (p:Nat → Bool)
  (hf:∀ w',Fr noB w w' → ∀ i (hi:i < l.length),Calls Tryz.prog 140 #[.agg (codH.A l[i]),cp] w' (Gives w' (.bool (p i)))) :
  Calls Tryz.prog 165 #[.slice A n c,.func (.func 140) #[] #[cp]] w (FiTo w l.length p):=by
 subst hn
 go_enter Tryz.func165,Tryz.ntmps165
 go_wp2_with fail
 go_loopg [8] l.length (fun gk iv wr=>IxR w l.length p gk iv wr)
 case atStart=>exact ⟨0,rfl,by omega,by omega,fun j hj=>absurd hj (by omega),Fr.refl _ _⟩
 case round =>
  obtain ⟨k,rfl,rfl,hk,hj,hf0⟩:=hrel
  have HJ:=Lib.hid hj
  clear hj
  by_cases hlt:k < l.length
  ·have i1:(k:Int) < (l.length:Int):=by omega
   have i0:(0:Int) ≤ (k:Int):=by omega
   obtain ⟨g,off,rfl,hg⟩:=hs.adC (by omega)
   have e1:codH.rd wr g (off + k * 34) = some l[k]:=(hs.fr0 hf0).rd k hlt
   have hc:=hf wr hf0 k hlt
   generalize l[k] = x at e1 hc
   by_cases hp:p k = true
   ·rw [hp] at hc
    have HP:=Lib.hid hp
    clear hp
    go_wp2_with (go_at_call 140;refine hc.mono ?_;rintro e w1 ⟨rfl,f1⟩)
    go_ret
    exact ⟨k,rfl,.inl ⟨k,hlt,rfl,HP.out,HJ.out⟩,hf0.step0 f1⟩
   ·have hp':p k = false:=by simpa using hp
    rw [hp'] at hc
    have HP:=Lib.hid hp'
    clear hp hp'
    go_wp2_with (go_at_call 140;refine hc.mono ?_;rintro e w1 ⟨rfl,f1⟩)
    go_roundg (l.length - (k + 1))
    case measure=>omega
    case rel=>exact ⟨k + 1,by simp,rfl,by omega,fun j hj=>by
     rcases Nat.lt_or_ge j k with h | h
     ·exact HJ.out j h
     ·have:j = k:=by omega
      rw [this];exact HP.out,hf0.step0 f1⟩
  ·have hkl:k = l.length:=by omega
   subst hkl
   have i1:¬ (l.length:Int) < (l.length:Int):=by omega
   go_wp2_with fail
   go_ret
   exact ⟨-1,rfl,.inr ⟨rfl,HJ.out⟩,hf0⟩
def DelTo (w0:World) (l:List Hd) (e:Ending) (w':World):Prop:=∃ A c,e = .returned (.slice A l.length c) ∧ OwnC codH w0 w' A c l ∧ Fr noB w0 w' ∧ l.length ≤ c
def DelR (w0:World) (A:Option Addr) (c g:Nat) (ov:List St) (l:List Hd) (gk:Nat) (iv jv:Value) (wr:World):Prop :=
 ∃ (m j:Nat) (d:List Hd),iv = .int .i64 (m:Int) ∧ jv = .int .i64 (j:Int) ∧ gk = l.length - j ∧ m < j ∧ j ≤ l.length ∧ d.length = l.length ∧ OwnC codH w0 wr A c d ∧ d.take m = leftH ov (l.take j) ∧ d.drop j = l.drop j ∧ Fr noB w0 wr
theorem leftH_none {ov:List St} {l:List Hd} {k:Nat} (hk:k ≤ l.length) (h:∀ j (hj:j < l.length),j < k → decide ((l[j]).At ∈ ov) = false):leftH ov (l.take k) = l.take k:=by
 unfold leftH
 rw [List.filter_eq_self]
 intro x hx
 obtain ⟨j,hj,rfl⟩:=List.getElem_of_mem hx
 rw [List.getElem_take]
 have hj':j < k:=by rw [List.length_take] at hj;omega
 rw [h j (by omega) hj'];rfl
theorem leftH_succ (ov:List St) (l:List Hd) (k:Nat) (hk:k < l.length):leftH ov (l.take (k + 1)) = leftH ov (l.take k) ++ (if decide ((l[k]).At ∈ ov) = true then [] else [l[k]]):=by
 unfold leftH
 rw [List.take_succ_eq_append_getElem hk,List.filter_append]
 congr 1
 cases h:decide ((l[k]).At ∈ ov) <;> simp [h]
set_option maxRecDepth 100000 in
set_option maxHeartbeats 4000000 in
theorem delHeads_any (w0 w:World) (fw:Fr noB w0 w) (A:Option Addr) (c n:Nat) (l:List Hd) (hn:l.length = n) (hown:OwnC codH w0 w A c l) (hcap:l.length ≤ c) (hb:l.length ≤ 2932031007402)
  (O:Nat) (OA:Option Addr) (on oc:Nat) (ov:List St) (ho:w0.cell? ⟨O,40,none⟩ = some (.slice OA on oc)) (hon:ov.length = on) (hs:Sl w0 OA (codS.row ov)) (hob:ov.length ≤ 140737488355328) :
  Calls Tryz.prog 139 #[.slice A n c,.func (.func 140) #[] #[.pointer (some ⟨O,0,none⟩)]] w (DelTo w0 (leftH ov l)):=by
 subst hn
 have HC:=Lib.hid (fun w' (f:Fr noB w0 w') h=>gvDo1_any w' O OA on oc ov (cell_fr0 ho f) hon (hs.fr0 f) hob h)
 have HI:=Lib.hid (idxHeads_any w A c l.length l rfl (Sl.own hown) (by omega) (.pointer (some ⟨O,0,none⟩)) (fun i=>if h:i < l.length then decide ((l[i]).At ∈ ov) else false) (fun w' f i hi=>by
  have:=HC.out w' (fw.step0 f) l[i]
  simpa [hi] using this))
 have hown0:=Lib.hid hown
 go_enter Tryz.func139,Tryz.ntmps139
 go_upto_region 2 with (go_at_call 165;refine HI.out.mono ?_;rintro e w1 ⟨z,rfl,hz,f1⟩)
 replace hown:=own_new0 hown f1
 replace fw:=fw.step0 f1
 clear HI hown0 f1
 rcases hz with ⟨i,hi,rfl,hp,hlo⟩ | ⟨rfl,hno⟩
 ·have hne:¬ ((i:Int) = -1):=by omega
  have hne2:((i:Int) == -1) = false:=by rw [beq_eq_false_iff_ne];omega
  have hl0:l ≠ []:=by intro h;rw [h] at hi;simp at hi
  obtain ⟨g,rfl,hg,_,_,_⟩:=RwA.own hown hl0
  have wi:IntKind.i64.wrap ((i:Int) + 1) = ((i + 1:Nat):Int):=by rw [IntKind.wrap_i64];omega
  have HS:=Lib.hid (show l.take i = leftH ov (l.take (i + 1)) by
   rw [leftH_succ ov l i hi,leftH_none (by omega) (fun j h1 h2=>by have:=hlo j h2;simpa [h1] using this)]
   have:decide ((l[i]).At ∈ ov) = true:=by simpa [hi] using hp
   rw [this];simp)
  clear hp hlo
  go_wp2_with fail
  clear wi hne hne2
  go_loopg [5,6] (l.length - (i + 1)) (fun gk iv jv wr=>DelR w0 (some ⟨g,0,none⟩) c g ov l gk iv jv wr)
  case atStart=>exact ⟨i,i + 1,l,rfl,by simp,rfl,by omega,by omega,rfl,hown,HS.out,rfl,fw⟩
  case round =>
   clear hown fw HS
   obtain ⟨m,j,d,rfl,rfl,rfl,hmj,hjl,hdl,hod,hdt,hdd,hfr⟩:=hrel
   have HDT:=Lib.hid hdt
   have HDD:=Lib.hid hdd
   clear hdt hdd
   by_cases hlt:j < l.length
   ·have i1:(j:Int) < (l.length:Int):=by omega
    have i0:(0:Int) ≤ (j:Int):=by omega
    obtain ⟨_,e0,_,_,_,hR⟩:=RwA.own hod (by intro h;rw [h] at hdl;simp at hdl;omega)
    injection e0 with e0
    injection e0 with e0
    subst e0
    have hdj:d[j]'(by omega) = l[j]:=by
     have h1:(d.drop j)[0]? = (l.drop j)[0]?:=by rw [HDD.out]
     rw [List.getElem?_drop,List.getElem?_drop,Nat.add_zero,List.getElem?_eq_getElem (by omega),List.getElem?_eq_getElem hlt] at h1
     injection h1
    have e1:codH.rd wr g (j * 34) = some l[j]:=by
     have:=(Sl.own hod).rd j (by omega)
     rw [hdj] at this
     simpa [show codH.n = 34 from rfl] using this
    have hsc:=leftH_succ ov l j hlt
    have hc:=fun w' (f:Fr noB wr w')=>HC.out w' (hfr.step0 f) l[j]
    have hdrop:d.drop (j + 1) = l.drop (j + 1):=by
     have:=congrArg (List.drop 1) HDD.out
     rwa [List.drop_drop,List.drop_drop] at this
    have HDR:=Lib.hid hdrop
    generalize l[j] = x at e1 hsc hc hdj
    have fa:Fr noB wr (wr.alloc (codH.o x)):=(Fr.refl noB wr).alloc _
    have n1:=Cod.rd_new' (C:=codH) wr x
    have hc':=hc _ fa
    obtain ⟨b,hbb⟩:∃ b,b = decide (x.At ∈ ov):=⟨_,rfl⟩
    rw [← hbb] at hc' hsc
    have HSC:=Lib.hid hsc
    clear hsc hc hbb hdrop hdj hR
    cases b with
    | true =>
     go_wp2_with (go_at_call 140;refine hc'.mono ?_;rintro e w2 ⟨rfl,f2⟩)
     go_roundg (l.length - (j + 1))
     case measure=>omega
     case rel=>exact ⟨m,j + 1,d,rfl,by simp,rfl,by omega,by omega,hdl,own_new0 (own_new0 hod fa) f2,by rw [HDT.out,HSC.out];simp,HDR.out,(hfr.step0 fa).step0 f2⟩
    | false =>
     go_upto_region 9 with (go_at_call 140;refine hc'.mono ?_;rintro e w2 ⟨rfl,f2⟩)
     have n2:=Cod.rd_fr0 n1 f2
     have hod2:=own_new0 (own_new0 hod fa) f2
     have hfr2:=(hfr.step0 fa).step0 f2
     have hmd:m < d.length:=by omega
     obtain ⟨_,e0,_,_,_,hR⟩:=RwA.own hod2 (by intro h;rw [h] at hmd;simp at hmd)
     injection e0 with e0
     injection e0 with e0
     subst e0
     have hst:=hR.st okH m (by simpa using hmd) x
     obtain ⟨o3,f3⟩:=OwnC.set hod2 rfl m hmd x
     have j2:(0:Int) ≤ (m:Int):=by omega
     have j3:(m:Int) < (l.length:Int):=by omega
     have HO:=Lib.hid o3
     have HF:=Lib.hid f3
     clear o3 f3 hR hod e1 fa n1 hod2
     have hcn:codH.n = 34:=rfl
     rw [hcn] at hst HO HF
     have wm1:IntKind.i64.wrap ((m:Int) + 1) = ((m + 1:Nat):Int):=by rw [IntKind.wrap_i64];omega
     go_wp2_with fail
     go_roundg (l.length - (j + 1))
     case measure=>omega
     case rel =>
      refine ⟨m + 1,j + 1,d.set m x,by simp,by simp,rfl,by omega,by omega,by simp [hdl],HO.out,?_,?_,hfr2.step1 HF.out hg⟩
      ·have h1:m < (d.set m x).length:=by simpa using hmd
       rw [HSC.out,← HDT.out,List.take_succ_eq_append_getElem h1]
       simp [List.take_set_of_le]
      ·rw [List.drop_set_of_lt (by omega)]
       exact HDR.out
   ·have hjl2:j = l.length:=by omega
    subst hjl2
    have i1:¬ (l.length:Int) < (l.length:Int):=by omega
    have k1:(0:Int) ≤ (m:Int):=by omega
    have k2:(m:Int) ≤ (l.length:Int):=by omega
    have k3:(m:Int) ≤ (c:Int):=by omega
    have hHD:=Lib.hid (show d.take m = leftH ov l by rw [HDT.out,List.take_length])
    have hml:(leftH ov l).length = m:=by
     rw [← hHD.out,List.length_take];omega
    have HML:=Lib.hid hml
    clear HDT HDD hml
    have hclr:=fun cc=>OwnC.clear okH Tryz.underlying108 hod rfl m (l.length - m) cc (by omega) (by omega)
    obtain ⟨o4,f4⟩:=OwnC.sets hod rfl m (List.replicate (l.length - m) codH.z) (by simp;omega) (by intro h;rw [h] at hdl;simp at hdl;omega)
    have hcn:codH.n = 34:=rfl
    rw [hcn] at hclr o4 f4
    have HO:=Lib.hid (OwnC.pre o4 m (by simp;omega))
    have HF:=Lib.hid f4
    clear o4 f4 hod
    go_wp2_with fail
    have he:(d.take m ++ List.replicate (l.length - m) codH.z ++ d.drop (m + (List.replicate (l.length - m) codH.z).length)).take m = leftH ov l:=by
     rw [List.append_assoc,List.take_left' (by rw [List.length_take];omega)]
     exact hHD.out
    have HO2:=HO.out
    rw [he] at HO2
    go_ret
    exact ⟨some ⟨g,0,none⟩,c,by rw [HML.out];rfl,HO2,hfr.step1 HF.out hg,by rw [HML.out];omega⟩
 ·have hid:leftH ov l = l:=by
   have:=leftH_none (ov:=ov) (l:=l) (k:=l.length) (Nat.le_refl _) (fun j h1 h2=>by have:=hno j h1;simpa [h1] using this)
   rwa [List.take_length] at this
  have HID:=Lib.hid hid
  clear hid hno
  go_wp2_with fail
  go_ret
  unfold DelTo
  rw [HID.out]
  exact ⟨A,c,rfl,hown,fw,hcap⟩
theorem stp_skip {P:Program} {w:World} {ops:Array Oper} {o:Oper} {a:Act} {K:Act → World → Prop} {Q:Exit → Act → World → Prop} {E:Prop} (hgd:o.guard = none) (w':World)
  (hr:(execOp a.eval o).run P w = .ok .skip w') (h:K (a.put o.dst undef) w'):if Region.wanted o (yielded ops a.tmps) = true then Oper.wp P o a w K Q else E:=by
 have hw:Region.wanted o (yielded ops a.tmps) = true:=by simp [Region.wanted,hgd]
 rw [if_pos hw]
 unfold Oper.wp
 rw [hr]
 exact h
theorem ex_stV_at {α:Type} {C:Cod α} {ρ:Operand → Value} {o:Oper} {a x:Operand} {w w':World} {pa:Value} {v:α} (ho:o.op = .store C.t a x) (ha:ρ a = pa) (hx:ρ x = .agg (C.A v)) (hs:C.stR w pa (.agg (C.A v)) = .ok .skip w') :
  (execOp ρ o).run Tryz.prog w = .ok .skip w':=by
 rw [Cod.stOp (C:=C) ρ o a x ho w,ha,hx]
 exact hs
/-! rows, operations, what has been done: with rows of their own -/
structure RwO (w:World) (r:RwW) (x:RwP):Prop where
 inn:RwIn w r x
 own:w.ownsRow 0 149 34 (.slice r.A r.n r.c) r.n (codH.row x.Heads)
structure OpO (w:World) (r:OpW) (o:Opn):Prop where
 inn:OpIn w r o
 own:o.Over = [] ∨ w.ownsRow 0 80 2 (.slice r.A r.n r.c) r.n (codS.row o.Over)
structure DnO (w:World) (d:DnW) (x:DnP):Prop where
 op:OpO w d.op x.op
 tn:d.tn = x.tn
 was:RwO w d.was x.was
 was0:d.was0 = x.was0
def NoHS (M:Nat → Prop) (w:World):Prop:=∀ b,M b → ∀ cs z,w.heap[b]? ≠ some (.cells cs 149 z) ∧ w.heap[b]? ≠ some (.cells cs 80 z)
theorem NoHS.nob (w:World):NoHS noB w:=fun b h=>absurd h (by simp [noB])
theorem NoHS.map {w:World} {m:Nat} {kv:List (St × Value)} (h:mpT w m = some kv):NoHS (oneB m) w:=fun b hb cs z=>by
 obtain ⟨es,c,h1⟩:=mpT_blk h
 have e:b = m:=hb
 subst e
 rw [h1]
 exact ⟨fun h=>(by cases h),fun h=>(by cases h)⟩
theorem NoHS.blk {w:World} {g:Nat} {t:TypeId} {cs:List Value} (h:Blk w g t cs) (h1:t ≠ 149) (h2:t ≠ 80):NoHS (oneB g) w:=fun b hb c z=>by
 have e:b = g:=hb
 subst e
 have hh:w.heap[b]? = some (.cells cs.toArray t (0,0)):=h
 rw [hh]
 exact ⟨fun h=>by injection h with h;injection h with _ h _;exact h1 h,fun h=>by injection h with h;injection h with _ h _;exact h2 h⟩
theorem NoHS.own {w:World} {base size n:Nat} {e:TypeId} {v:Value} {xs:List Value} (h:w.ownsRow base e size v n xs) (h1:e ≠ 149) (h2:e ≠ 80):NoHS (fun b=>v.ownBlock = some b) w:=fun b hb c z=>by
 rcases h.2 with ⟨hv,_⟩ | ⟨blk,cap,cur,hv,_,hg,_⟩
 ·rw [hv] at hb;cases hb
 ·rw [hv] at hb
  have e:blk = b:=by simpa [Value.ownBlock] using hb
  subst e
  rw [hg]
  exact ⟨fun h=>by injection h with h;injection h with _ h _;exact h1 h,fun h=>by injection h with h;injection h with _ h _;exact h2 h⟩
theorem NoHS.or {M N:Nat → Prop} {w:World} (h:NoHS M w) (k:NoHS N w):NoHS (fun b=>M b ∨ N b) w:=fun b hb=>by
 rcases hb with hb | hb
 ·exact h b hb
 ·exact k b hb
theorem own_hs {M:Nat → Prop} {w w':World} {e:TypeId} {size n:Nat} {v:Value} {xs:List Value} (h:w.ownsRow 0 e size v n xs) (f:Fr M w w') (hM:∀ b,M b → ∀ cs z,w.heap[b]? ≠ some (.cells cs e z)):w'.ownsRow 0 e size v n xs :=
 own_fr h f (fun g hg hm=>by
  rcases h.2 with ⟨hv,_⟩ | ⟨blk,cap,cur,hv,_,hgg,_⟩
  ·rw [hv] at hg;cases hg
  ·rw [hv] at hg
   have e:blk = g:=by simpa [Value.ownBlock] using hg
   subst e
   exact hM blk hm _ _ hgg)
theorem RwIn.own_ {w w':World} {r:RwW} {x:RwP} (h:RwIn w r x) {base:Nat} (ho:w'.ownsRow base 149 34 (.slice r.A r.n r.c) r.n (codH.row x.Heads)):RwIn w' r x:=⟨h.eq,h.len,Sl.own ho,h.bd,h.nm,h.wn,h.wp⟩
theorem RwO.fr {M:Nat → Prop} {w w':World} {r:RwW} {x:RwP} (h:RwO w r x) (f:Fr M w w') (hM:NoHS M w):RwO w' r x:=by
 have ho:=own_hs h.own f (fun b hb cs z=>(hM b hb cs z).1)
 exact ⟨h.inn.own_ ho,ho⟩
theorem OpO.fr {M:Nat → Prop} {w w':World} {r:OpW} {x:Opn} (h:OpO w r x) (f:Fr M w w') (hM:NoHS M w):OpO w' r x:=by
 rcases h.own with h0 | h0
 ·exact ⟨⟨h.inn.eq,h.inn.len,by rw [h0];exact Sl.nil _ _,h.inn.bd,h.inn.nm⟩,.inl h0⟩
 ·have ho:=own_hs h0 f (fun b hb cs z=>(hM b hb cs z).2)
  exact ⟨⟨h.inn.eq,h.inn.len,Sl.own ho,h.inn.bd,h.inn.nm⟩,.inr ho⟩
theorem DnO.fr {M:Nat → Prop} {w w':World} {r:DnW} {x:DnP} (h:DnO w r x) (f:Fr M w w') (hM:NoHS M w):DnO w' r x:=⟨h.op.fr f hM,h.tn,h.was.fr f hM,h.was0⟩
def AllO {α β:Type} (R:World → α → β → Prop) (w:World) (rs:List α) (xs:List β):Prop:=rs.length = xs.length ∧ ∀ i (h:i < rs.length) (h':i < xs.length),R w rs[i] xs[i]
theorem AllO.map {α β:Type} {R:World → α → β → Prop} {w w':World} {rs:List α} {xs:List β} (h:AllO R w rs xs) (k:∀ r x,R w r x → R w' r x):AllO R w' rs xs:=⟨h.1,fun i h1 h2=>k _ _ (h.2 i h1 h2)⟩
theorem AllO.nil {α β:Type} {R:World → α → β → Prop} {w:World}:AllO R w [] []:=⟨rfl,fun i h=>absurd h (by simp)⟩
theorem AllO.cons {α β:Type} {R:World → α → β → Prop} {w:World} {r:α} {x:β} {rs:List α} {xs:List β} (h1:R w r x) (h2:AllO R w rs xs):AllO R w (r :: rs) (x :: xs) :=
 ⟨by simp [h2.1],fun i h3 h4=>by
  cases i with
  | zero=>exact h1
  | succ i=>exact h2.2 i (by simpa using h3) (by simpa using h4)⟩
theorem AllO.tail {α β:Type} {R:World → α → β → Prop} {w:World} {r:α} {x:β} {rs:List α} {xs:List β} (h:AllO R w (r :: rs) (x :: xs)):R w r x ∧ AllO R w rs xs :=
 ⟨h.2 0 (by simp) (by simp),by have:=h.1;simpa using this,fun i h1 h2=>h.2 (i + 1) (by simpa using h1) (by simpa using h2)⟩
theorem AllO.app {α β:Type} {R:World → α → β → Prop} {w:World} {rs ss:List α} {xs ys:List β} (h:AllO R w rs xs) (k:AllO R w ss ys):AllO R w (rs ++ ss) (xs ++ ys):=by
 induction rs generalizing xs with
 | nil =>
  obtain rfl:xs = []:=List.length_eq_zero_iff.1 (by simpa using h.1.symm)
  exact k
 | cons r rs ih =>
  match xs,h with
  | [],h=>have:=h.1;simp at this
  | x :: xs,h=>exact AllO.cons h.tail.1 (ih h.tail.2)
theorem AllO.snoc {α β:Type} {R:World → α → β → Prop} {w:World} {rs:List α} {xs:List β} {r:α} {x:β} (h:AllO R w rs xs) (k:R w r x):AllO R w (rs ++ [r]) (xs ++ [x]):=h.app (AllO.cons k AllO.nil)
theorem AllO.take {α β:Type} {R:World → α → β → Prop} {w:World} {rs:List α} {xs:List β} (h:AllO R w rs xs) (k:Nat):AllO R w (rs.take k) (xs.take k) :=
 ⟨by simp [h.1],fun i h1 h2=>by
  rw [List.getElem_take,List.getElem_take]
  exact h.2 i (by simp at h1;omega) (by simp at h2;omega)⟩
theorem AllO.drop {α β:Type} {R:World → α → β → Prop} {w:World} {rs:List α} {xs:List β} (h:AllO R w rs xs) (k:Nat):AllO R w (rs.drop k) (xs.drop k) :=
 ⟨by simp [h.1],fun i h1 h2=>by
  rw [List.getElem_drop,List.getElem_drop]
  exact h.2 (k + i) (by simp at h1;omega) (by simp at h2;omega)⟩
abbrev RwsO_:=AllO RwO
theorem RwsO_.rws {w:World} {rs:List RwW} {xs:List RwP} (h:AllO RwO w rs xs):RwsIn w rs xs:=⟨h.1,fun i h1 h2=>(h.2 i h1 h2).inn⟩
theorem RwsO_.find {w:World} {rs:List RwW} {xs:List RwP} (h:AllO RwO w rs xs) (s:St):(findW rs s = none ∧ findR xs s = none) ∨ ∃ r x,findW rs s = some r ∧ findR xs s = some x ∧ RwO w r x:=by
 induction rs generalizing xs with
 | nil =>
  obtain rfl:xs = []:=List.length_eq_zero_iff.1 (by simpa using h.1.symm)
  exact .inl ⟨rfl,rfl⟩
 | cons r rs ih =>
  match xs,h with
  | [],h=>have:=h.1;simp at this
  | x :: xs,h =>
   obtain ⟨h1,h2⟩:=h.tail
   unfold findW findR at ih ⊢
   rw [List.find?_cons,List.find?_cons]
   by_cases e:r.Node = s
   ·have e':x.Node = s:=by rw [h1.inn.node];exact e
    simp only [e,e',decide_true]
    exact .inr ⟨r,x,rfl,rfl,h1⟩
   ·have e':¬ x.Node = s:=by rw [h1.inn.node];exact e
    simp only [e,e',decide_false]
    exact ih h2
def putW (rs:List RwW) (r:RwW):List RwW:=if (findW rs r.Node).isSome then rs.map (fun x=>if x.Node = r.Node then r else x) else rs ++ [r]
theorem tab_putW (rs:List RwW) (r:RwW):putL (tab rs) r.Node (.agg (codR.A r)) = tab (putW rs r):=by
 unfold putL putW
 rw [look_tab]
 simp only [Option.isSome_map]
 split
 ·unfold tab
  rw [List.map_map,List.map_map]
  refine List.map_congr_left fun x _=>?_
  simp only [Function.comp_apply]
  by_cases e:x.Node = r.Node
  ·simp [e]
  ·simp [e]
 ·simp [tab]
theorem tab_delW (rs:List RwW) (s:St):delL (tab rs) s = tab (rs.filter fun x=>!decide (x.Node = s)):=by
 unfold delL tab
 rw [List.filter_map]
 rfl
theorem RwsO_.put {w:World} {rs:List RwW} {xs:List RwP} (h:AllO RwO w rs xs) {r:RwW} {x:RwP} (hr:RwO w r x):AllO RwO w (putW rs r) (putR xs x):=by
 have hn:x.Node = r.Node:=hr.inn.node
 have hs:(findW rs r.Node).isSome = (findR xs x.Node).isSome:=by
  rw [hn]
  rcases RwsO_.find h r.Node with ⟨h1,h2⟩ | ⟨q,y,h1,h2,_⟩
  ·rw [h1,h2];rfl
  ·rw [h1,h2];rfl
 unfold putW putR
 rw [hs]
 split
 ·refine ⟨by simp [h.1],fun i h1 h2=>?_⟩
  simp only [List.getElem_map]
  have hi:=h.2 i (by simpa using h1) (by simpa using h2)
  by_cases e:(rs[i]'(by simpa using h1)).Node = r.Node
  ·have e':(xs[i]'(by simpa using h2)).Node = x.Node:=by rw [hi.inn.node,hn];exact e
   rw [if_pos e,if_pos e']
   exact hr
  ·have e':¬ (xs[i]'(by simpa using h2)).Node = x.Node:=by rw [hi.inn.node,hn];exact e
   rw [if_neg e,if_neg e']
   exact hi
 ·exact h.snoc hr
theorem RwsO_.del {w:World} {rs:List RwW} {xs:List RwP} (h:AllO RwO w rs xs) (s:St):AllO RwO w (rs.filter fun x=>!decide (x.Node = s)) (xs.filter fun x=>!decide (x.Node = s)):=by
 induction rs generalizing xs with
 | nil =>
  obtain rfl:xs = []:=List.length_eq_zero_iff.1 (by simpa using h.1.symm)
  exact AllO.nil
 | cons r rs ih =>
  match xs,h with
  | [],h=>have:=h.1;simp at this
  | x :: xs,h =>
   obtain ⟨h1,h2⟩:=h.tail
   rw [List.filter_cons,List.filter_cons,h1.inn.node]
   split
   ·exact AllO.cons h1 (ih h2)
   ·exact ih h2
/-! contracts -/
set_option maxRecDepth 100000 in
theorem gvFixed_any (w:World) (s:St):Calls Tryz.prog 137 #[.agg (codS.A s)] w (Gives w (.bool (s.T == 0))):=by
 have f0:Fr noB w (w.alloc (.cells (codS.A s) 80)):=(Fr.refl noB w).alloc _
 obtain ⟨q1,q2⟩:=stCell (Cod.bxd_rd (bxS_box w s))
 go_enter Tryz.func137,Tryz.ntmps137
 go_wp2_with fail
 go_ret
 exact ⟨rfl,f0⟩
def AbvR (w:World) (P Q:Nat) (xs:List RwP) (n:St) (v:Bool) (gk:Nat) (wr:World):Prop :=
 ∃ p:St,codS.bxd wr Q = some p ∧ codS.rd wr P 0 = some n ∧ wfS p = true ∧ reach xs gk p = true ∧ aboveN xs gk n p = v ∧ Fr noB w wr
theorem aboveN_step {xs:List RwP} {k:Nat} {n p:St} {r:RwP} (h0:p.T ≠ 0) (hf:findR xs p = some r):aboveN xs (k + 1) n p = (decide (p = n) || aboveN xs k n r.Parent):=by
 show (if p.T = 0 then false else decide (p = n) || match findR xs p with | none=>false | some r=>aboveN xs k n r.Parent) = _
 rw [if_neg h0,hf]
theorem aboveN_zero {xs:List RwP} {k:Nat} {n p:St} (h0:p.T = 0):aboveN xs k n p = false:=by
 cases k with
 | zero=>rfl
 | succ k =>
  show (if p.T = 0 then false else _) = false
  rw [if_pos h0]
set_option maxRecDepth 100000 in
set_option maxHeartbeats 2000000 in
theorem gvAbove_any (w:World) (b:Nat) (t:TrW) (ht:TrB w b t) (rs:List RwW) (xs:List RwP) (hm:mpT w t.m = some (tab rs)) (hR:RwsIn w rs xs) (n p:St) (hp:wfS p = true) (k:Nat) (hk:reach xs k p = true) :
  Calls Tryz.prog 138 #[.pointer (some ⟨b,0,none⟩),.agg (codS.A n),.agg (codS.A p)] w (Gives w (.bool (aboveN xs k n p))):=by
 have f0:Fr noB w ((w.alloc (.cells (codS.A n) 80)).alloc (.cells (codS.A p) 80)):=((Fr.refl noB w).alloc _).alloc _
 have q0:=Cod.rd_fr0 (Cod.rd_new (C:=codS) w 80 n) ((Fr.refl noB _).alloc (.cells (codS.A p) 80))
 have b0:=bxS_box (w.alloc (.cells (codS.A n) 80)) p
 have hz:(w.alloc (.cells (codS.A n) 80)).heap.size = w.heap.size + 1:=by simp
 rw [hz] at b0
 obtain ⟨v,hv⟩:∃ v,v = aboveN xs k n p:=⟨_,rfl⟩
 rw [← hv]
 go_enter Tryz.func138,Tryz.ntmps138
 go_upto_region 1 with fail
 generalize (w.alloc (.cells (codS.A n) 80)).alloc (.cells (codS.A p) 80) = W0 at f0 b0 q0 ⊢
 obtain ⟨P,hP⟩:∃ t,t = w.heap.size:=⟨_,rfl⟩
 obtain ⟨Q,hQ⟩:∃ t,t = w.heap.size + 1:=⟨_,rfl⟩
 rw [← hP] at q0 ⊢
 rw [← hQ] at b0
 have HP:=Lib.hid (And.intro hP hQ)
 have eR:P + 1 = Q:=by omega
 rw [eR]
 clear hP hQ eR hz
 have HV:=Lib.hid hv
 clear hv
 go_loopg [6] k (fun gk vv wr=>vv = .bool false ∧ AbvR w P Q xs n v gk wr)
 case atStart=>exact ⟨rfl,p,b0,q0,hp,hk,HV.out.symm,f0⟩
 case round =>
  clear b0 q0 f0 hp hk HV
  obtain ⟨rfl,p,bq,qn,hp,hk,hv,hf⟩:=hrel
  have q3:=Cod.bxd_rd bq
  by_cases h0:p.T = 0
  ·have h0':(p.T == 0) = true:=by simp [h0]
   have HV:=Lib.hid (show v = false by rw [← hv,aboveN_zero h0])
   clear hv hk h0
   go_wp2_with (go_at_call 137;refine (gvFixed_any _ p).mono ?_;rintro e w2 ⟨rfl,f2⟩;rw [h0'])
   go_ret
   exact ⟨by rw [HV.out];rfl,hf.step0 f2⟩
  ·have h0':(p.T == 0) = false:=by rw [beq_eq_false_iff_ne];exact h0
   rcases reach_inv hk with h | ⟨j,x,rfl,hfx,hx⟩
   ·exact absurd (fixedS_T h) h0
   ·rw [aboveN_step h0 hfx] at hv
    by_cases hpn:p = n
    ·subst hpn
     have HV:=Lib.hid (show v = true by rw [← hv];simp)
     have d1:decide (p = p) = true:=by simp
     clear hv hk
     go_wp2_with (go_at_call 137;refine (gvFixed_any _ p).mono ?_;rintro e w2 ⟨rfl,f2⟩;rw [h0'];replace q3:=Cod.rd_fr0 q3 f2;replace qn:=Cod.rd_fr0 qn f2)
     go_ret
     exact ⟨by rw [HV.out];rfl,hf.step0 f2⟩
    ·have d1:decide (p = n) = false:=by simp [hpn]
     rw [d1,Bool.false_or] at hv
     have hmr:=mpT_fr0 hm hf
     have htr:=(ht.fr0 hf).m
     obtain ⟨r,hlk,hin⟩:∃ r,Go.Proofs.YtjpieiccpbcabaaGreat.look (tab rs) p = some (.agg (codR.A r)) ∧ RwIn w r x:=by
      rcases hR.find p with ⟨_,h2⟩ | ⟨r,y,h1,h2,h3⟩
      ·rw [h2] at hfx;cases hfx
      ·rw [h2] at hfx
       injection hfx with hfx
       subst hfx
       exact ⟨r,by rw [look_tab,h1];rfl,h3⟩
     have hpp:=hin.parent
     have hwp:=hin.wp
     have HV:=Lib.hid hv
     have HX:=Lib.hid (And.intro hx hpp)
     clear hv hx hpp hin hk hfx
     go_upto_region 4 with (go_at_call 137;refine (gvFixed_any _ p).mono ?_;rintro e w2 ⟨rfl,f2⟩;rw [h0'];replace q3:=Cod.rd_fr0 q3 f2;replace qn:=Cod.rd_fr0 qn f2)
     have bq2:=Cod.bxd_fr0 bq f2
     have hm2:=mpT_fr0 hmr f2
     have ht2:=cell_fr0 htr f2
     clear bq hmr htr
     have hk':∀ w' w'':World,Fr noB w' w'' → (w'.cell? ⟨b,0,none⟩ = some (.map (some t.m)) ∧ codS.rd w' Q 0 = some p ∧ mpT w' t.m = some (tab rs)) → (w''.cell? ⟨b,0,none⟩ = some (.map (some t.m)) ∧ codS.rd w'' Q 0 = some p ∧ mpT w'' t.m = some (tab rs)):=fun w' w'' f h=>⟨cell_fr0 h.1 f,Cod.rd_fr0 h.2.1 f,mpT_fr0 h.2.2 f⟩
     refine wp_region_M 7 8 [⟨8192,1,0⟩,⟨16384,8192,1⟩,⟨32768,16384,2⟩,⟨65536,32768,4⟩,⟨131072,32,0⟩,⟨262144,196608,24⟩,⟨524288,262144,32⟩,⟨0,524320,127⟩] [(true,0),(true,1),(true,2),(true,3),(true,4),(true,5),(true,6)] (fun w'=>w'.cell? ⟨b,0,none⟩ = some (.map (some t.m)) ∧ codS.rd w' Q 0 = some p ∧ mpT w' t.m = some (tab rs)) (by kernel_rfl) rfl (by kernel_rfl) (by kernel_rfl) (by kernel_rfl) (hk' _ _ ((Fr.refl noB w2).drew) ⟨ht2,q3,hm2⟩) (fun hA hF=>?_)
     iterate 7
      refine wpAnyS_take (v:=?_) hA rfl (fun _ _ _ h=>h) (Or.inl ⟨by rfl,?_⟩) hF (fun hA=>?_)
      rotate_left
      ·intro wS hSw;(try dsimp only at hSw);obtain ⟨s1,s2,s3⟩:=hSw;first | (apply Eq.trans;apply ex_ldR_at;exact rfl;exact rfl;assumption;with_reducible rfl) | (apply Eq.trans;apply ex_ldS_at;exact rfl;exact rfl;assumption;with_reducible rfl) | (go_simp;try with_reducible rfl)
      try simp only [sA1,sA2,sA3,Act.put,sA4,sA5,sA6]
     refine wpAnyS_end hA rfl ?_
     simp only [List.drop_succ_cons,List.drop_zero]
     clear hF hk'
     have fd:Fr noB w2 w2.drew:=(Fr.refl noB w2).drew
     have bq3:=Cod.bxd_fr0 bq2 fd
     have hst:=okS.stR_box bq3 r.Parent
     obtain ⟨p1,p2,p3⟩:=Cod.put_fr bq3 r.Parent
     have hPQ:=HP.out
     have qn2:=Cod.rd_fr (Cod.rd_fr0 qn fd) p1 (by show ¬ P = Q;omega)
     have F2:=((hf.step0 f2).step0 fd).step1 p1 (by omega)
     clear hPQ
     go_wp2_with fail
     go_roundg j
     case measure=>omega
     case rel =>
      obtain ⟨hx,hpp⟩:=HX.out
      exact ⟨rfl,r.Parent,p3,qn2,hwp,by rw [← hpp];exact hx,by rw [← hpp];exact HV.out,F2⟩
structure WasOk (d:DnP):Prop where
 wf:rightS d.op.Node = true
 was:d.was0 = true → d.was.Node = d.op.Node
theorem doD_was {xs:List RwP} {o:Opn} (h:rightS o.Node = true):WasOk (doD xs o):=by
 refine ⟨h,fun hw=>?_⟩
 unfold doD at hw ⊢
 simp only at hw ⊢
 cases hf:findR xs o.Node with
 | none=>rw [hf] at hw;cases hw
 | some r=>exact findR_node hf
def undoW (rs:List RwW) (d:DnW):List RwW:=if d.tn then (if d.was0 then putW rs d.was else rs.filter fun x=>!decide (x.Node = d.op.Node)) else rs
theorem RwsO_.undo {w:World} {rs:List RwW} {xs:List RwP} (h:AllO RwO w rs xs) {d:DnW} {x:DnP} (hd:DnO w d x):AllO RwO w (undoW rs d) (undoX xs x):=by
 unfold undoW undoX
 rw [hd.tn,hd.was0]
 split
 ·split
  ·exact RwsO_.put h hd.was
  ·have:x.op.Node = d.op.Node:=by rw [hd.op.inn.eq];rfl
   rw [this]
   exact RwsO_.del h _
 ·exact h
def UnTo (w:World) (m:Nat) (rs':List RwW) (e:Ending) (w':World):Prop:=e = .returned (.tuple #[]) ∧ mpT w' m = some (tab rs') ∧ Fr (oneB m) w w'
set_option maxRecDepth 100000 in
set_option maxHeartbeats 2000000 in
theorem gvUndo_any (w:World) (b:Nat) (t:TrW) (ht:TrB w b t) (rs:List RwW) (xs:List RwP) (hm:mpT w t.m = some (tab rs)) (hR:AllO RwO w rs xs) (d:DnW) (x:DnP) (hd:DnO w d x) (hw:WasOk x) :
  Calls Tryz.prog 110 #[.pointer (some ⟨b,0,none⟩),.agg (codD.A d)] w (UnTo w t.m (undoW rs d)):=by
 have f0:Fr noB w (w.alloc (.cells (codD.A d) 177)):=(Fr.refl noB w).alloc _
 have q:=dnAt (Cod.rd_new (C:=codD) w 177 d)
 obtain ⟨q1,q2,q3,q4,q5,q6,q7⟩:=q
 simp only [Nat.zero_add] at q2 q3 q4 q5 q6
 have hwn:wfS d.op.Node = true:=by
  have:=rightS_wf hw.wf
  rwa [show x.op.Node = d.op.Node by rw [hd.op.inn.eq];rfl] at this
 have hnd:x.op.Node = d.op.Node:=by rw [hd.op.inn.eq];rfl
 have F1:=ht.fr0 f0
 have hm0:=mpT_fr0 hm f0
 have HM:=Lib.hid hm
 have HD:=Lib.hid hd
 have HW:=Lib.hid hw
 have HRR:=Lib.hid hR
 have HT:=Lib.hid (show d.tn = x.tn ∧ d.was0 = x.was0 from ⟨hd.tn,hd.was0⟩)
 have hmS:=mpT_lt hm
 clear hd hw hm
 go_enter Tryz.func110,Tryz.ntmps110
 go_upto_region 2 with fail
 generalize w.alloc (.cells (codD.A d) 177) = W0 at f0 q1 q2 q3 q4 q5 q6 q7 F1 hm0 ⊢
 generalize w.heap.size = P at q1 q2 q3 q4 q5 q6 q7 ⊢
 cases ht1:d.tn with
 | false =>
  rw [ht1] at q4
  have HX:=Lib.hid (show undoW rs d = rs by unfold undoW;rw [ht1];rfl)
  clear hR ht1
  go_wp2_with fail
  refine bodyPost_ret (results_none rfl _ _ _) rfl ?_
  unfold UnTo
  rw [HX.out]
  exact ⟨rfl,hm0,(Fr.refl (oneB t.m) w).step0 f0⟩
 | true =>
  rw [ht1] at q4
  cases ht2:d.was0 with
  | true =>
   rw [ht2] at q6
   have HX:=Lib.hid (show undoW rs d = putW rs d.was by unfold undoW;rw [ht1,ht2];rfl)
   have hwas:d.was.Node = d.op.Node:=by
    have:=HW.out.was (by rw [← HT.out.2,ht2])
    rw [HD.out.was.inn.node,hnd] at this
    exact this
   have HWN:=Lib.hid hwas
   clear hR ht1 ht2 hwas
   go_upto_region 4 with fail
   have hk:∀ w' w'':World,Fr noB w' w'' → (w'.cell? ⟨b,0,none⟩ = some (.map (some t.m)) ∧ codS.rd w' P 3 = some d.op.Node ∧ codR.rd w' P 42 = some d.was) → (w''.cell? ⟨b,0,none⟩ = some (.map (some t.m)) ∧ codS.rd w'' P 3 = some d.op.Node ∧ codR.rd w'' P 42 = some d.was):=fun w' w'' f h=>⟨cell_fr0 h.1 f,Cod.rd_fr0 h.2.1 f,Cod.rd_fr0 h.2.2 f⟩
   refine wp_region_M 9 10 [⟨262144,1,0⟩,⟨524288,262144,1⟩,⟨1048576,524288,2⟩,⟨2097152,1048576,4⟩,⟨4194304,8,0⟩,⟨8388608,4194304,16⟩,⟨16777216,8388608,32⟩,⟨33554432,8,0⟩,⟨67108864,33554432,128⟩,⟨0,85983232,511⟩] [(true,0),(true,1),(true,2),(true,3),(true,4),(true,5),(true,6),(true,7),(true,8)] (fun w'=>w'.cell? ⟨b,0,none⟩ = some (.map (some t.m)) ∧ codS.rd w' P 3 = some d.op.Node ∧ codR.rd w' P 42 = some d.was) (by kernel_rfl) rfl (by kernel_rfl) (by kernel_rfl) (by kernel_rfl) (hk _ _ ((Fr.refl noB W0).drew) ⟨F1.m,q3,q5⟩) (fun hA hF=>?_)
   iterate 9
    refine wpAnyS_take (v:=?_) hA rfl (fun _ _ _ h=>h) (Or.inl ⟨by rfl,?_⟩) hF (fun hA=>?_)
    rotate_left
    ·intro wS hSw;(try dsimp only at hSw);obtain ⟨s1,s2,s3⟩:=hSw;first | (apply Eq.trans;apply ex_ldR_at;exact rfl;exact rfl;assumption;with_reducible rfl) | (apply Eq.trans;apply ex_ldS_at;exact rfl;exact rfl;assumption;with_reducible rfl) | (go_simp;try with_reducible rfl)
    try simp only [sA1,sA2,sA3,Act.put,sA4,sA5,sA6]
   refine wpAnyS_end hA rfl ?_
   simp only [List.drop_succ_cons,List.drop_zero]
   clear hF hk
   have fd:Fr noB W0 W0.drew:=(Fr.refl noB W0).drew
   have hm1:=mpT_fr0 hm0 fd
   obtain ⟨_,m1,m2,m3⟩:=mputT_all Tryz.underlying152 hm1 hwn (.agg (codR.A d.was))
   have HMM:=Lib.hid (And.intro m1 (And.intro m2 m3))
   clear m1 m2 m3
   go_wp2_with fail
   refine bodyPost_ret (results_none rfl _ _ _) rfl ?_
   obtain ⟨m1,m2,m3⟩:=HMM.out
   unfold UnTo
   rw [HX.out]
   have hf:=f0.step0 fd
   refine ⟨rfl,?_,((Fr.refl (oneB t.m) w).step0 hf).trans m2 (fun _ _ h=>h)⟩
   rw [m1,← HWN.out,tab_putW]
  | false =>
   rw [ht2] at q6
   have HX:=Lib.hid (show undoW rs d = rs.filter (fun y=>!decide (y.Node = d.op.Node)) by unfold undoW;rw [ht1,ht2];rfl)
   clear hR ht1 ht2
   go_upto_region 1 with fail
   have hk:∀ w' w'':World,Fr noB w' w'' → (w'.cell? ⟨b,0,none⟩ = some (.map (some t.m)) ∧ codS.rd w' P 3 = some d.op.Node) → (w''.cell? ⟨b,0,none⟩ = some (.map (some t.m)) ∧ codS.rd w'' P 3 = some d.op.Node):=fun w' w'' f h=>⟨cell_fr0 h.1 f,Cod.rd_fr0 h.2 f⟩
   refine wp_region_M 7 8 [⟨16,1,0⟩,⟨32,16,1⟩,⟨64,32,2⟩,⟨128,64,4⟩,⟨256,8,0⟩,⟨512,256,16⟩,⟨1024,512,32⟩,⟨0,1152,72⟩] [(true,0),(true,1),(true,2),(true,3),(true,4),(true,5),(true,6)] (fun w'=>w'.cell? ⟨b,0,none⟩ = some (.map (some t.m)) ∧ codS.rd w' P 3 = some d.op.Node) (by kernel_rfl) rfl (by kernel_rfl) (by kernel_rfl) (by kernel_rfl) (hk _ _ ((Fr.refl noB W0).drew) ⟨F1.m,q3⟩) (fun hA hF=>?_)
   iterate 7
    refine wpAnyS_take (v:=?_) hA rfl (fun _ _ _ h=>h) (Or.inl ⟨by rfl,?_⟩) hF (fun hA=>?_)
    rotate_left
    ·intro wS hSw;(try dsimp only at hSw);obtain ⟨s1,s2⟩:=hSw;first | (apply Eq.trans;apply ex_ldR_at;exact rfl;exact rfl;assumption;with_reducible rfl) | (apply Eq.trans;apply ex_ldS_at;exact rfl;exact rfl;assumption;with_reducible rfl) | (go_simp;try with_reducible rfl)
    try simp only [sA1,sA2,sA3,Act.put,sA4,sA5,sA6]
   refine wpAnyS_end hA rfl ?_
   simp only [List.drop_succ_cons,List.drop_zero]
   clear hF hk
   have fd:Fr noB W0 W0.drew:=(Fr.refl noB W0).drew
   have hm1:=mpT_fr0 hm0 fd
   obtain ⟨_,m1,m2,m3⟩:=mdelT_all Tryz.underlying152 hm1 hwn 0
   have HMM:=Lib.hid (And.intro m1 (And.intro m2 m3))
   clear m1 m2 m3
   go_wp2_with fail
   refine bodyPost_ret (results_none rfl _ _ _) rfl ?_
   obtain ⟨m1,m2,m3⟩:=HMM.out
   unfold UnTo
   rw [HX.out]
   have hf:=f0.step0 fd
   refine ⟨rfl,?_,((Fr.refl (oneB t.m) w).step0 hf).trans m2 (fun _ _ h=>h)⟩
   rw [m1,tab_delW]
end Go.Proofs.YtjpieiccpbcabaaGreat
