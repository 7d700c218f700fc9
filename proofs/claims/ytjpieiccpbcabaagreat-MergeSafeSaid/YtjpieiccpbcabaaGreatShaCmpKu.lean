/- Words for memory: frames, slices that read as lists, appends to rows of the call's own. IDs: 32 bytes by value. The walk never looks into one: rules on loads, stores, boxes, sameness. Contracts: the order of IDs (sha.Cmp, bytes.Compare). -/
import Derived.WalkKit
import Derived.Maps.AppendAt
import Derived.Lib.Hide
import Derived.Deep.Draws
import Derived.Test.YtjpieiccpbcabaaGreatProg
import Derived.Deep.MidRow
import Derived.Deep.WholeRow
import Derived.Stop.BytesEq
import Derived.WalkSpells
import Derived.Outline
import Derived.Lib.Bytealg
import Derived.Lib.BytesEntry
import Derived.Sort.Grow
import Derived.Deep.QuietTactic
import Derived.BigQuiet
set_option linter.unusedVariables false
set_option linter.unusedSimpArgs false
namespace Go.Proofs.YtjpieiccpbcabaaGreat
open Go.RowKit
structure Fr (M:Nat → Prop) (w w':World):Prop where
 os:w'.os = w.os
 tape:w'.tape = w.tape
 output:w'.output = w.output
 size:w.heap.size ≤ w'.heap.size
 block:∀ k,k < w.heap.size → ¬ M k → w'.heap[k]? = w.heap[k]?
def noB:Nat → Prop:=fun _=>False
def oneB (p:Nat):Nat → Prop:=fun k=>k = p
section
variable {M M':Nat → Prop} {w w' w1 w2:World}
theorem Fr.refl (M:Nat → Prop) (w:World):Fr M w w:=⟨rfl,rfl,rfl,Nat.le_refl _,fun _ _ _=>rfl⟩
theorem Fr.trans (h:Fr M w w1) (k:Fr M' w1 w2) (hm:∀ b,b < w.heap.size → M' b → M b):Fr M w w2 :=
 ⟨k.os.trans h.os,k.tape.trans h.tape,k.output.trans h.output,Nat.le_trans h.size k.size,
  fun b hb hn=>(k.block b (Nat.lt_of_lt_of_le hb h.size) (fun hx=>hn (hm b hb hx))).trans (h.block b hb hn)⟩
theorem Fr.mono (h:Fr M w w') (hm:∀ b,M b → M' b):Fr M' w w' :=
 ⟨h.os,h.tape,h.output,h.size,fun b hb hn=>h.block b hb (fun hx=>hn (hm b hx))⟩
theorem Fr.any (h:Fr noB w w'):Fr M w w':=h.mono (fun _ hx=>absurd hx (by simp [noB]))
theorem Fr.below (h:Fr noB w w'):Below w.heap.size w w':=⟨h.os,h.tape,h.output,h.size,fun k hk=>h.block k hk (by simp [noB])⟩
theorem Fr.ofBelow (h:Below w.heap.size w w'):Fr M w w':=⟨h.os,h.tape,h.output,h.size,fun k hk _=>h.block k hk⟩
theorem Fr.ofGrown {r:Option Nat} (h:w.grownBy w' r) (hr:∀ g,r = some g → M g):Fr M w w' :=
 ⟨h.os,h.tape,h.output,h.size,fun k hk hn=>h.block k hk (fun e=>hn (hr k e.symm))⟩
theorem Fr.alloc (h:Fr M w w1) (o:Obj):Fr M w (w1.alloc o) :=
 h.trans (M':=noB) ⟨rfl,rfl,rfl,by simp,fun k hk _=>Below.heap_alloc _ _ _ hk⟩ (fun _ _ hx=>absurd hx (by simp [noB]))
theorem Fr.drew (h:Fr M w w1):Fr M w w1.drew:=⟨h.os,h.tape,h.output,h.size,h.block⟩
theorem Fr.drewN (h:Fr M w w1) (n:Nat):Fr M w (w1.drewN n):=⟨h.os,h.tape,h.output,h.size,h.block⟩
theorem Fr.setCell (h:Fr M w w1) {p:Addr} (hp:p.block < w.heap.size → M p.block) (u:Value):Fr M w (w1.setCell p u) :=
 h.trans (M':=oneB p.block) ⟨rfl,rfl,rfl,by simp [World.setCell],fun k _ hn=>Below.heap_setCell _ _ _ _ (fun e=>hn e)⟩
  (fun b hb hx=>by have:b = p.block:=hx;subst this;exact hp hb)
theorem Fr.step (h:Fr M w w1) (k:Fr M' w1 w2) (hm:∀ b,M' b → w.heap.size ≤ b ∨ M b):Fr M w w2 :=
 h.trans k (fun b hb hx=>(hm b hx).elim (fun h'=>absurd hb (by omega)) id)
theorem Fr.step0 (h:Fr M w w1) (k:Fr noB w1 w2):Fr M w w2:=h.trans k (fun _ _ hx=>absurd hx (by simp [noB]))
theorem Fr.step1 {p:Nat} (h:Fr M w w1) (k:Fr (oneB p) w1 w2) (hp:w.heap.size ≤ p):Fr M w w2 :=
 h.step k (fun b hb=>.inl (by have:b = p:=hb;omega))
theorem Fr.stepG {r:Option Nat} (h:Fr M w w1) (k:w1.grownBy w2 r) (hp:∀ g,r = some g → w.heap.size ≤ g):Fr M w w2 :=
 h.step (M':=fun b=>r = some b) (Fr.ofGrown k (fun g hg=>hg)) (fun b hb=>.inl (hp b hb))
end
def Sl (w:World) (A:Option Addr) (xs:List Value):Prop :=
 xs ≠ [] → ∃ g off,A = some ⟨g,off,none⟩ ∧ g < w.heap.size ∧ ∀ j u,xs[j]? = some u → w.cell? ⟨g,off + j,none⟩ = some u
def cutA (A:Option Addr) (c k s:Nat):Option Addr:=if c = k then A else A.map (·.add (k * s))
@[simp] theorem cutA_zero (a:Option Addr) (m s:Nat):cutA a m 0 s = a:=by
 unfold cutA;split
 ·rfl
 ·cases a <;> simp [Addr.add]
def Off (A:Option Addr) (P:Nat → Prop):Prop:=∀ a,A = some a → P a.block
def u8v (b:UInt8):Value:=.int .u8 (b.toNat:Int)
def bv (l:List UInt8):List Value:=l.map u8v
@[simp] theorem bv_length (l:List UInt8):(bv l).length = l.length:=by simp [bv]
@[simp] theorem bv_nil:bv [] = []:=rfl
theorem bv_cons (b:UInt8) (l:List UInt8):bv (b :: l) = u8v b :: bv l:=rfl
theorem bv_append (l m:List UInt8):bv (l ++ m) = bv l ++ bv m:=by simp [bv]
theorem bv_drop (l:List UInt8) (n:Nat):bv (l.drop n) = (bv l).drop n:=by simp [bv,List.map_drop]
theorem bv_get (l:List UInt8) (j:Nat) (h:j < l.length):(bv l)[j]? = some (.int .u8 ((l[j]).toNat:Int)):=by simp [bv,h,u8v]
theorem bv_one (l:List UInt8):∀ u ∈ bv l,u.oneCell' = true:=by
 intro u hu;simp only [bv,List.mem_map] at hu;obtain ⟨b,_,rfl⟩:=hu;rfl
section
variable {M:Nat → Prop} {w w':World} {A:Option Addr} {xs:List Value}
theorem Sl.nil (w:World) (A:Option Addr):Sl w A []:=fun h=>absurd rfl h
theorem Sl.keep (h:Sl w A xs) (hk:∀ g off,A = some ⟨g,off,none⟩ → g < w.heap.size → w'.heap[g]? = w.heap[g]?) (hs:w.heap.size ≤ w'.heap.size):Sl w' A xs:=by
 intro hx
 obtain ⟨g,off,e,hg,hc⟩:=h hx
 exact ⟨g,off,e,by omega,fun j u hu=>(World.cell?_of_block (w:=w) (a:=⟨g,off + j,none⟩) (hk g off e hg)).trans (hc j u hu)⟩
theorem Sl.fr (h:Sl w A xs) (f:Fr M w w') (hM:Off A (fun b=>¬ M b)):Sl w' A xs :=
 h.keep (fun g off e hg=>f.block g hg (hM _ e)) f.size
theorem Sl.fr0 (h:Sl w A xs) (f:Fr noB w w'):Sl w' A xs:=h.fr f (fun _ _=>by simp [noB])
theorem Sl.cut {k c size n:Nat} (h:Sl w A xs) (hx:xs.length = n * size) (hs:0 < size) (hc:n ≤ c) :
  Sl w (cutA A c k size) (xs.drop (k * size)):=by
 intro hd
 have hk:k * size < xs.length:=by
  rcases Nat.lt_or_ge (k * size) xs.length with h | h
  ·exact h
  ·exact absurd (List.drop_eq_nil_of_le h) hd
 have hkn:k < n:=Nat.lt_of_mul_lt_mul_right (a:=size) (by omega)
 obtain ⟨g,off,rfl,hg,hcell⟩:=h (by intro h0;subst h0;simp at hk)
 refine ⟨g,off + k * size,?_,hg,fun j u hu=>?_⟩
 ·unfold cutA
  rw [if_neg (by omega)]
  by_cases h0:k * size = 0 <;> simp [Addr.add,h0]
 ·rw [List.getElem?_drop] at hu
  rw [Nat.add_assoc];exact hcell _ u hu
theorem Sl.take {k:Nat} (h:Sl w A xs):Sl w A (xs.take k):=by
 intro hx
 obtain ⟨g,off,rfl,hg,hcell⟩:=h (by intro h0;subst h0;simp at hx)
 refine ⟨g,off,rfl,hg,fun j u hu=>hcell j u ?_⟩
 rw [List.getElem?_take] at hu
 split at hu
 ·exact hu
 ·cases hu
theorem Off.mono {P Q:Nat → Prop} (h:Off A P) (hq:∀ b,P b → Q b):Off A Q:=fun a ha=>hq _ (h a ha)
theorem Off.none {P:Nat → Prop}:Off none P:=fun _ ha=>by cases ha
theorem Sl.own {base:Nat} {e:TypeId} {size n:Nat} {c:Nat} (h:w.ownsRow base e size (.slice A n c) n xs):Sl w A xs:=by
 intro hx
 rcases h.2 with ⟨hv,hn⟩ | ⟨g,cap,cur,hv,_,hg,hnc,_,hs,ht⟩
 ·subst hn;have:=h.1;simp at this;exact absurd this hx
 ·injection hv with h1 h2 h3
  subst h1
  refine ⟨g,0,rfl,(Array.getElem?_eq_some_iff.1 hg).1,fun j u hu=>?_⟩
  rw [Nat.zero_add]
  rw [cell_of_row w g j cur e (0,0) hg]
  rw [← ht,List.getElem?_take] at hu
  split at hu
  ·simpa using hu
  ·cases hu
theorem Off.own {base:Nat} {e:TypeId} {size n c:Nat} (h:w.ownsRow base e size (.slice A n c) n xs):Off A (fun b=>base ≤ b ∧ b < w.heap.size):=by
 intro a ha
 subst ha
 exact h.lt a.block rfl
end
structure ET (P:Program) (t e:TypeId) (size bytes:Nat):Prop where
 ht:P.underlying t = some (.slice e)
 hi:∃ i z,P.info? e = some i ∧ i.zero = some z ∧ i.size = size ∧ i.bytes = bytes ∧ z.cells.size = size
 hs:0 < size
 hb:0 < bytes
section
variable {P:Program} (w:World)
theorem run_app_nil (base:Nat) (t ty e:TypeId) (size:Nat) (i:TypeInfo) (ht:P.underlying t = some (.slice e)) (hi:P.info? e = some i)
  (v:Value) (n:Nat) (xs:List Value) (hown:w.ownsRow base e size v n xs) (c:Nat):(Builtin.append_ #[t,t] ty #[v,.slice none 0 c]).run P w = .ok v w:=by
 rcases hown.2 with ⟨rfl,rfl⟩ | ⟨g,cap,cur,rfl,_,_,hnc,_⟩
 ·simp [Builtin.append_,run_underlying ht,sizeOf,typeInfo,hi,Builtin.lenOf,Builtin.firstCells]
 ·simp [Builtin.append_,run_underlying ht,sizeOf,typeInfo,hi,Builtin.lenOf,Builtin.firstCells,hnc,storeCells]
theorem run_app {t e:TypeId} {size bytes:Nat} (H:ET P t e size bytes) (ty:TypeId) (base:Nat)
  (v:Value) (n:Nat) (xs:List Value) (hown:w.ownsRow base e size v n xs)
  (A:Option Addr) (m c:Nat) (news:List Value) (hr:Sl w A news) (hl:news.length = m * size) (h1:∀ u ∈ news,u.oneCell' = true)
  (hbytes:(n + m) * bytes ≤ 140737488355328) (hbase:base ≤ w.heap.size) :
  ∃ v' w',(Builtin.append_ #[t,t] ty #[v,.slice A m c]).run P w = .ok v' w' ∧ w'.ownsRow base e size v' (n + m) (xs ++ news) ∧ w.grownBy w' v.ownBlock ∧
   (v'.ownBlock = v.ownBlock ∨ v'.ownBlock = some w.heap.size):=by
 obtain ⟨i,z,hi,hz,hsize,hby,hzs⟩:=H.hi
 have hmul:n + m ≤ (n + m) * bytes:=Nat.le_mul_of_pos_right _ H.hb
 have h63:n + m ≤ maxLen:=by unfold maxLen;omega
 rcases A with _ | ad
 ·have hn:news = []:=by
   cases news with
   | nil=>rfl
   | cons u us=>obtain ⟨g,off,h,_⟩:=hr (by simp);cases h
  subst hn
  have hm:m = 0:=by
   rcases Nat.eq_zero_or_pos m with h0 | h0
   ·exact h0
   ·have:=Nat.mul_pos h0 H.hs;simp at hl;omega
  subst hm
  exact ⟨v,w,run_app_nil w base t ty e size i H.ht hi v n xs hown c,by simpa using hown,⟨rfl,rfl,rfl,Nat.le_refl _,fun _ _ _=>rfl⟩,.inl rfl⟩
 ·have hcells:∀ j u,news[j]? = some u → w.cell? (ad.add j) = some u:=by
   intro j u hu
   have hx:news ≠ []:=by intro h0;subst h0;simp at hu
   obtain ⟨g,off,h,_,hc⟩:=hr hx
   injection h with h
   subst h
   have e:(⟨g,off,none⟩:Addr).add j = ⟨g,off + j,none⟩:=by unfold Addr.add;split <;> simp_all
   rw [e];exact hc j u hu
  obtain ⟨v',w',hrun,h2,h3,_,h5⟩:=run_append_own_at (P:=P) w base t ty e i z size bytes H.ht hi hz hsize hby hzs H.hs v n xs hown ad m c news hl hcells h1 h63 hbytes hbase
  exact ⟨v',w',hrun,h2,h3,h5⟩
theorem wp_app {t e:TypeId} {size bytes:Nat} (H:ET P t e size bytes) {o:Oper} {a:Act} {K:Act → World → Prop} {Q:Exit → Act → World → Prop} (s x:Operand)
  (ho:o.op = .call { callee:=.builtin .append,args:=#[s,x],argTypes:=#[t,t] }) (base:Nat)
  (v:Value) (n:Nat) (xs:List Value) (hs:a.eval s = v) (hown:w.ownsRow base e size v n xs)
  (A:Option Addr) (m c:Nat) (news:List Value) (hx:a.eval x = .slice A m c) (hr:Sl w A news) (hl:news.length = m * size) (h1:∀ u ∈ news,u.oneCell' = true)
  (hbytes:(n + m) * bytes ≤ 140737488355328) (hbase:base ≤ w.heap.size)
  (h:∀ v' w',w'.ownsRow base e size v' (n + m) (xs ++ news) → w.grownBy w' v.ownBlock → (v'.ownBlock = v.ownBlock ∨ v'.ownBlock = some w.heap.size) → K (a.put o.dst v') w'):o.wp P a w K Q:=by
 obtain ⟨v',w',hrun,h2,h3,h4⟩:=run_app (P:=P) w H o.type base v n xs hown A m c news hr hl h1 hbytes hbase
 unfold Oper.wp execOp
 simp only [ho,resolve,invoke,builtin,Sem.run_bind,Sem.run_pure,Result.andThen_ok,List.map_toArray,List.map_cons,List.map_nil,hs,hx,hrun]
 exact h v' w' h2 h3 h4
theorem wpList_app {t e:TypeId} {size bytes:Nat} (H:ET P t e size bytes) {ops:Array Oper} {rest:List Oper} {o:Oper} {a:Act} {Q:Exit → Act → World → Prop} (hgd:o.guard = none) (s x:Operand)
  (ho:o.op = .call { callee:=.builtin .append,args:=#[s,x],argTypes:=#[t,t] }) (base:Nat)
  (v:Value) (n:Nat) (xs:List Value) (hs:a.eval s = v) (hown:w.ownsRow base e size v n xs)
  (A:Option Addr) (m c:Nat) (news:List Value) (hx:a.eval x = .slice A m c) (hr:Sl w A news) (hl:news.length = m * size) (h1:∀ u ∈ news,u.oneCell' = true)
  (hbytes:(n + m) * bytes ≤ 140737488355328) (hbase:base ≤ w.heap.size)
  (h:∀ v' w',w'.ownsRow base e size v' (n + m) (xs ++ news) → w.grownBy w' v.ownBlock → (v'.ownBlock = v.ownBlock ∨ v'.ownBlock = some w.heap.size) → wpList P ops Q rest (a.put o.dst v') w'):wpList P ops Q (o :: rest) a w :=
 wpList_plain hgd fun _ hK=>wp_app w H s x ho base v n xs hs hown A m c news hx hr hl h1 hbytes hbase fun v' w' h2 h3 h4=>hK _ _ (h v' w' h2 h3 h4)
end
theorem own_form {w:World} {base:Nat} {e:TypeId} {size n:Nat} {v:Value} {xs:List Value} (h:w.ownsRow base e size v n xs):∃ A c,v = .slice A n c ∧ n ≤ c ∧ c ≤ maxLen:=by
 rcases h.2 with ⟨rfl,rfl⟩ | ⟨g,cap,cur,rfl,_,_,hnc,hm,_⟩
 ·exact ⟨none,0,rfl,Nat.le_refl _,by simp [maxLen]⟩
 ·exact ⟨_,cap,rfl,hnc,hm⟩
theorem own_fr {M:Nat → Prop} {w w':World} {base:Nat} {e:TypeId} {size n:Nat} {v:Value} {xs:List Value} (h:w.ownsRow base e size v n xs) (f:Fr M w w') (hM:∀ g,v.ownBlock = some g → ¬ M g):w'.ownsRow base e size v n xs:=by
 refine ⟨h.1,?_⟩
 rcases h.2 with hn | ⟨g,cap,cur,rfl,hb,hgg,rest⟩
 ·exact .inl hn
 ·exact .inr ⟨g,cap,cur,rfl,hb,by rw [f.block g (Array.getElem?_eq_some_iff.1 hgg).1 (hM g rfl)];exact hgg,rest⟩
theorem own_base {w:World} {base base':Nat} {e:TypeId} {size n:Nat} {v:Value} {xs:List Value} (h:w.ownsRow base e size v n xs) (hb:base' ≤ base):w.ownsRow base' e size v n xs:=by
 refine ⟨h.1,?_⟩
 rcases h.2 with hn | ⟨g,cap,cur,rfl,hb',rest⟩
 ·exact .inl hn
 ·exact .inr ⟨g,cap,cur,rfl,Nat.le_trans hb hb',rest⟩
theorem own_bv {w:World} {base:Nat} {e:TypeId} {n:Nat} {v:Value} {l:List UInt8} (h:w.ownsRow base e 1 v n (bv l)):w.ownsRow base e 1 v l.length (bv l):=by
 have hn:n = l.length:=by have:=h.1;simp at this;omega
 subst hn;exact h
theorem wpList_appB {P:Program} (w:World) {t e:TypeId} (H:ET P t e 1 1) {ops:Array Oper} {rest:List Oper} {o:Oper} {a:Act} {Q:Exit → Act → World → Prop} (hgd:o.guard = none) (s x:Operand)
  (ho:o.op = .call { callee:=.builtin .append,args:=#[s,x],argTypes:=#[t,t] }) (base:Nat)
  (v:Value) (n:Nat) (lo:List UInt8) (hs:a.eval s = v) (hown:w.ownsRow base e 1 v n (bv lo))
  (A:Option Addr) (m c:Nat) (news:List UInt8) (hx:a.eval x = .slice A m c) (hr:Sl w A (bv news)) (hl:news.length = m)
  (hbytes:lo.length + news.length ≤ 140737488355328) (hbase:base ≤ w.heap.size)
  (h:∀ A' c' w',(lo ++ news).length ≤ c' → c' ≤ maxLen → w'.ownsRow base e 1 (.slice A' (lo ++ news).length c') (lo ++ news).length (bv (lo ++ news)) → w.grownBy w' v.ownBlock →
   (A'.map (·.block) = v.ownBlock ∨ A'.map (·.block) = some w.heap.size) → wpList P ops Q rest (a.put o.dst (.slice A' (lo ++ news).length c')) w'):wpList P ops Q (o :: rest) a w:=by
 have hown':=own_bv hown
 refine wpList_app w H hgd s x ho base v lo.length (bv lo) hs hown' A m c (bv news) hx hr (by simp [hl]) (bv_one _) (by rw [← hl];omega) hbase ?_
 intro v' w' h1 h2 h3
 rw [← bv_append] at h1
 have h1':=own_bv h1
 obtain ⟨A',c',rfl,hc1,hc2⟩:=own_form h1'
 refine h A' c' w' hc1 hc2 h1' h2 ?_
 cases A' with
 | none=>simpa [Value.ownBlock] using h3
 | some b=>simpa [Value.ownBlock] using h3
def Blk (w:World) (g:Nat) (t:TypeId) (cs:List Value):Prop:=w.heap[g]? = some (.cells cs.toArray t (0,0))
section
variable {w w':World} {g:Nat} {t:TypeId} {cs:List Value}
theorem Blk.lt (h:Blk w g t cs):g < w.heap.size:=(Array.getElem?_eq_some_iff.1 h).1
theorem Blk.cell (h:Blk w g t cs) (i:Nat):w.cell? ⟨g,i,none⟩ = cs[i]?:=by
 have:=cell_of_row w g i cs.toArray t (0,0) h
 simpa using this
theorem Blk.frozen (h:Blk w g t cs) (i:Nat):w.frozen? ⟨g,i,none⟩ = false:=by
 unfold Blk at h;simp [World.frozen?,h]
theorem Blk.new (w:World) (t:TypeId) (cs:List Value):Blk (w.alloc (.cells cs.toArray t)) w.heap.size t cs:=heap_alloc_new w _
theorem Sl.blk (h:Blk w g t cs):Sl w (some ⟨g,0,none⟩) cs:=fun _=>⟨g,0,rfl,h.lt,fun j u hu=>by rw [Nat.zero_add,h.cell];exact hu⟩
theorem Sl.new (w:World) (t:TypeId) (cs:List Value):Sl (w.alloc (.cells cs.toArray t)) (some ⟨w.heap.size,0,none⟩) cs:=Sl.blk (Blk.new w t cs)
theorem Blk.fr {M:Nat → Prop} (h:Blk w g t cs) (f:Fr M w w') (hM:¬ M g):Blk w' g t cs:=(f.block g h.lt hM).trans h
theorem Blk.set (h:Blk w g t cs) (i:Nat) (u:Value):Blk (w.setCell ⟨g,i,none⟩ u) g t (cs.set i u):=by
 unfold Blk at h ⊢
 simp [World.setCell,Array.getElem?_modify,h]
theorem Blk.alloc (h:Blk w g t cs) (o:Obj):Blk (w.alloc o) g t cs:=(Below.heap_alloc w o g h.lt).trans h
theorem Blk.ne_own {base:Nat} {e:TypeId} {size n:Nat} {v:Value} {xs:List Value} (hg:Blk w g t cs) (h:w.ownsRow base e size v n xs) (hne:e ≠ t):∀ g',v.ownBlock = some g' → g' ≠ g:=by
 rcases h.2 with ⟨rfl,_⟩ | ⟨g',cap,cur,rfl,_,hh,_⟩
 ·intro g' h';simp [Value.ownBlock] at h'
 ·intro g2 he
  have:g' = g2:=by simpa [Value.ownBlock] using he
  subst this
  rintro rfl
  unfold Blk at hg
  rw [hg] at hh
  injection hh with hh
  injection hh with _ ht
  exact hne ht.symm
end
theorem sA1 {α : Type} {xs : List α} {i : Nat} (h : i < xs.toArray.size) : xs.toArray[i] = xs[i]'(by simpa using h) := List.getElem_toArray h
theorem sA2 {α : Type} {a : α} {as : List α} {h : 0 < (a :: as).length} : (a :: as)[0] = a := rfl
theorem sA3 {α : Type} {a : α} {as : List α} {i : Nat} {h : i + 1 < (a :: as).length} : (a :: as)[i + 1] = as[i]'(Nat.lt_of_succ_lt_succ h) := rfl
theorem sA4 {α : Type} {l : List α} {i : Nat} {a : α} : l.toArray.setIfInBounds i a = (l.set i a).toArray := List.setIfInBounds_toArray ..
theorem sA5 {α : Type} {x : α} {xs : List α} {a : α} : (x :: xs).set 0 a = a :: xs := rfl
theorem sA6 {α : Type} {x : α} {xs : List α} {n : Nat} {a : α} : (x :: xs).set (n + 1) a = x :: xs.set n a := rfl
end Go.Proofs.YtjpieiccpbcabaaGreat
namespace Go.Proofs.YtjpieiccpbcabaaGreat
open Go.RowKit
def ID:Type:={ l:List UInt8 // l.length = 32 }
instance:DecidableEq ID:=inferInstanceAs (DecidableEq { l:List UInt8 // l.length = 32 })
@[irreducible] def idA (x:ID):Array Value:=(bv x.1).toArray
theorem idA_eq (x:ID):idA x = (bv x.1).toArray:=by unfold idA;rfl
abbrev encI (x:ID):Value:=.agg (idA x)
abbrev ido (x:ID):Obj:=.cells (idA x) 24
def zID:ID:=⟨List.replicate 32 0,rfl⟩
instance:Inhabited ID:=⟨zID⟩
theorem u8v_inj {a b:UInt8} (h:u8v a = u8v b):a = b:=by
 unfold u8v at h
 injection h with _ h
 exact UInt8.toNat_inj.1 (by omega)
theorem bv_inj {l m:List UInt8} (h:bv l = bv m):l = m:=by
 induction l generalizing m with
 | nil=>cases m with
  | nil=>rfl
  | cons b m=>simp [bv] at h
 | cons a l ih=>cases m with
  | nil=>simp [bv] at h
  | cons b m =>
   rw [bv_cons,bv_cons] at h
   injection h with h1 h2
   rw [u8v_inj h1,ih h2]
theorem encI_inj {x y:ID} (h:encI x = encI y):x = y:=by
 injection h with h
 rw [idA_eq,idA_eq] at h
 exact Subtype.ext (bv_inj (by simpa using congrArg Array.toList h))
def Rd (w:World) (b o:Nat) (x:ID):Prop:=w.rangeAt b o (bv x.1)
theorem Rd.uniq {w:World} {b o:Nat} {x y:ID} (hx:Rd w b o x) (hy:Rd w b o y):x = y:=by
 refine Subtype.ext (bv_inj (List.ext_getElem? fun j=>?_))
 by_cases hj:j < 32
 ·have ex:(bv x.1)[j]? = some ((bv x.1)[j]'(by simp [x.2];exact hj)):=List.getElem?_eq_getElem _
  have ey:(bv y.1)[j]? = some ((bv y.1)[j]'(by simp [y.2];exact hj)):=List.getElem?_eq_getElem _
  have:=(hx j _ ex).symm.trans (hy j _ ey)
  rw [ex,ey,this]
 ·rw [List.getElem?_eq_none (by simp [x.2];omega),List.getElem?_eq_none (by simp [y.2];omega)]
open Classical in
noncomputable def rdI (w:World) (b o:Nat):Option ID:=if h:∃ x,Rd w b o x then some h.choose else none
theorem Rd.rdI {w:World} {b o:Nat} {x:ID} (h:Rd w b o x):rdI w b o = some x:=by
 unfold Go.Proofs.YtjpieiccpbcabaaGreat.rdI
 have hx:∃ x,Rd w b o x:=⟨x,h⟩
 rw [dif_pos hx]
 exact congrArg some (hx.choose_spec.uniq h)
theorem rdI_rd {w:World} {b o:Nat} {x:ID} (h:rdI w b o = some x):Rd w b o x:=by
 unfold rdI at h
 split at h
 ·rename_i hx
  injection h with h
  rw [← h];exact hx.choose_spec
 ·cases h
theorem rdI_congr {w w':World} {b o o':Nat} (h:∀ x,Rd w b o x ↔ Rd w' b o' x):rdI w b o = rdI w' b o':=by
 cases hx:rdI w b o with
 | some x=>exact ((h x).1 (rdI_rd hx)).rdI.symm
 | none =>
  cases hy:rdI w' b o' with
  | none=>rfl
  | some y=>rw [((h y).2 (rdI_rd hy)).rdI] at hx;cases hx
theorem Rd.keep {w w':World} {b o:Nat} {x:ID} (h:Rd w b o x) (hb:w'.heap[b]? = w.heap[b]?):Rd w' b o x:=fun j v hv=>(World.cell?_of_block (a:=⟨b,o + j,none⟩) hb).trans (h j v hv)
theorem rdI_keep {w w':World} {b o:Nat} (hb:w'.heap[b]? = w.heap[b]?):rdI w' b o = rdI w b o:=rdI_congr fun x=>⟨fun h=>h.keep hb.symm,fun h=>h.keep hb⟩
theorem rdI_fr {M:Nat → Prop} {w w':World} {b o:Nat} {x:ID} (h:rdI w b o = some x) (hl:b < w.heap.size) (f:Fr M w w') (hM:¬ M b):rdI w' b o = some x:=(rdI_keep (f.block b hl hM)).trans h
theorem Rd.lt {w:World} {b o:Nat} {x:ID} (h:Rd w b o x):b < w.heap.size:=by
 have hl:0 < (bv x.1).length:=by simp [x.2]
 exact World.block_lt_of_cell? _ _ (h 0 _ (List.getElem?_eq_getElem hl))
theorem rdI_lt {w:World} {b o:Nat} {x:ID} (h:rdI w b o = some x):b < w.heap.size:=(rdI_rd h).lt
@[simp] theorem rdI_drew (w:World) (b o:Nat):rdI w.drew b o = rdI w b o:=rdI_keep rfl
@[simp] theorem rdI_drewN (w:World) (n b o:Nat):rdI (w.drewN n) b o = rdI w b o:=rdI_keep rfl
@[simp] theorem rdI_new (w:World) (x:ID):rdI (w.alloc (ido x)) w.heap.size 0 = some x:=by
 refine Rd.rdI fun j v hv=>?_
 have hh:(w.alloc (ido x)).heap[w.heap.size]? = some (ido x):=heap_alloc_new w _
 simp only [ido,idA_eq] at hh ⊢
 rw [Nat.zero_add,cell_of_row _ _ j (bv x.1).toArray 24 (0,0) hh]
 simpa using hv
@[simp] theorem rdI_old (w:World) (ob:Obj) (b o:Nat) (h:b < w.heap.size):rdI (w.alloc ob) b o = rdI w b o:=rdI_keep (heap_alloc_old w ob h)
theorem infoID:(Tryz.prog.info? 24).map (·.size) = some 32:=by kernel_rfl
theorem infoArr:(Tryz.prog.info? 23).map (·.size) = some 32:=by kernel_rfl
noncomputable def ldElse (t:TypeId) (w:World) (b o:Nat):Result Value:=(Instr.loadAt t (.pointer (some ⟨b,o,none⟩))).run Tryz.prog w
@[simp] theorem ld_id (w:World) (b o:Nat):(Instr.loadAt 24 (.pointer (some ⟨b,o,none⟩))).run Tryz.prog w = match rdI w b o with | some x=>.ok (encI x) w | none=>ldElse 24 w b o:=by
 cases h:rdI w b o with
 | none=>rfl
 | some x =>
  simp only [encI,idA_eq]
  exact run_loadAt_mid w b o 24 (bv x.1) _ (rdI_rd h) Tryz.underlying24 rfl (by rw [bv_length,x.2];exact infoID)
@[simp] theorem ld_arr (w:World) (b o:Nat):(Instr.loadAt 23 (.pointer (some ⟨b,o,none⟩))).run Tryz.prog w = match rdI w b o with | some x=>.ok (encI x) w | none=>ldElse 23 w b o:=by
 cases h:rdI w b o with
 | none=>rfl
 | some x =>
  simp only [encI,idA_eq]
  exact run_loadAt_mid w b o 23 (bv x.1) _ (rdI_rd h) Tryz.underlying23 rfl (by rw [bv_length,x.2];exact infoArr)
theorem ex_ld_id {ρ:Operand → Value} {o:Oper} {a:Operand} {w:World} {b off:Nat} {x:ID} (ho:o.op = .load 24 a) (ha:ρ a = .pointer (some ⟨b,off,none⟩)) (hr:rdI w b off = some x) :
  (execOp ρ o).run Tryz.prog w = .ok (.value (encI x)) w:=by
 have h:=ld_id w b off
 rw [hr] at h
 unfold execOp
 simp only [ho,ha,Sem.run_bind,h,Result.andThen_ok,Sem.run_pure]
@[irreducible] noncomputable def exElse (ρ:Operand → Value) (o:Oper) (w:World):Result Next:=(execOp ρ o).run Tryz.prog w
noncomputable def ldI (w:World) (v:Value) (r:Result Next):Result Next:=match v with
 | .pointer (some ⟨b,off,none⟩)=>(match rdI w b off with | some x=>.ok (.value (encI x)) w | none=>r)
 | _=>r
@[simp] theorem ldI_at (w:World) (b off:Nat) (r:Result Next):ldI w (.pointer (some ⟨b,off,none⟩)) r = match rdI w b off with | some x=>.ok (.value (encI x)) w | none=>r:=rfl
theorem ex_ld_op (ρ:Operand → Value) (o:Oper) (a:Operand) (ho:o.op = .load 24 a) (w:World):(execOp ρ o).run Tryz.prog w = ldI w (ρ a) (exElse ρ o w):=by
 have he:exElse ρ o w = (execOp ρ o).run Tryz.prog w:=by unfold exElse;rfl
 rw [he]
 unfold ldI
 split
 ·rename_i b off hv
  cases h:rdI w b off with
  | none=>rfl
  | some x=>exact ex_ld_id ho hv h
 ·rfl
@[simp ↓] theorem ex_ld (ρ:Operand → Value) (d:Option Nat) (a:Operand) (t:TypeId) (p:String) (f:Array Edge) (g:Option (Nat × Bool)) (w:World) :
  (execOp ρ { dst:=d,op:=.load 24 a,type:=t,pos:=p,after:=f,guard:=g }).run Tryz.prog w = ldI w (ρ a) (exElse ρ { dst:=d,op:=.load 24 a,type:=t,pos:=p,after:=f,guard:=g } w):=ex_ld_op ρ _ a rfl w
@[simp] theorem bx_id (w:World) (x:ID):(Instr.box 24 (encI x)).run Tryz.prog w = .ok (.pointer (some ⟨w.heap.size,0,none⟩)) (w.alloc (ido x)):=by
 simp [Instr.box,newVar,newRow,newObj,Value.cells,Sem.run,Result.andThen]
theorem zeroID (w:World):(zeroValue 24).run Tryz.prog w = .ok (encI zID) w:=by
 simp only [encI,idA_eq]
 exact (zero_of_info (P:=Tryz.prog) (t:=24) (v:=.agg (bv zID.1).toArray) (n:=32) (by kernel_rfl)).1 w
@[simp] theorem al_id (w:World):(Instr.alloc 24 true (.tuple #[])).run Tryz.prog w = .ok (.pointer (some ⟨w.heap.size,0,none⟩)) (w.alloc (ido zID)):=by
 have:=bx_id w zID
 simp only [Instr.alloc,Sem.run_bind,zeroID,Result.andThen_ok]
 exact this
@[simp] theorem st_new (w:World) (x y:ID):(Instr.storeAt 24 (.pointer (some ⟨w.heap.size,0,none⟩)) (encI x)).run Tryz.prog (w.alloc (ido y)) = .ok () (w.alloc (ido x)):=by
 simp only [encI,ido,idA_eq]
 exact run_storeAt_new w 24 _ _ (by rw [List.size_toArray,bv_length,x.2];exact infoID) (by simp [x.2,y.2]) (all_oneCell_toArray (bv_one _))
@[simp] theorem eq_id (w:World) (x y:ID):(binOp .eql 24 (encI x) (encI y)).run Tryz.prog w = .ok (.bool (decide (x = y))) w:=by
 simp only [encI,idA_eq]
 have:=run_eql_bytes (P:=Tryz.prog) (w:=w) 24 5 32 Tryz.underlying24 Tryz.underlying5 (by intro w;kernel_rfl) x.1 y.1 x.2 y.2
 have e:(x.1 == y.1) = decide (x = y):=by
  rw [Bool.eq_iff_iff]
  simp only [beq_iff_eq,decide_eq_true_eq]
  exact ⟨fun h=>Subtype.ext h,fun h=>congrArg Subtype.val h⟩
 rw [e] at this
 exact this
set_option maxRecDepth 100000 in
@[simp] theorem neq_id (w:World) (x y:ID):(binOp .neq 24 (encI x) (encI y)).run Tryz.prog w = .ok (.bool (!decide (x = y))) w:=by
 have h:=eq_id w x y
 rw [run_eql_struct] at h
 rw [run_neq_struct]
 cases hr:(Op.equalIn 10000 24 (encI x) (encI y)).run Tryz.prog w with
 | ok b w' =>
  rw [hr] at h
  simp only [Result.andThen_ok] at h ⊢
  injection h with h1 h2
  injection h1 with h1
  rw [h1,h2]
 | _=>rw [hr] at h;cases h
/-! at the operations: rules that are met ahead of the kit's -/
@[simp ↓] theorem ex_al (ρ:Operand → Value) (d:Option Nat) (t:TypeId) (p:String) (f:Array Edge) (g:Option (Nat × Bool)) (w:World) :
  (execOp ρ { dst:=d,op:=.alloc 24,type:=t,pos:=p,after:=f,guard:=g }).run Tryz.prog w = .ok (.value (.pointer (some ⟨w.heap.size,0,none⟩))) (w.alloc (ido zID)):=by
 unfold execOp
 simp only [Sem.run_bind,al_id,Result.andThen_ok,Sem.run_pure]
@[irreducible] noncomputable def stI (w:World) (v u:Value):Result Next:=((Instr.storeAt 24 v u).run Tryz.prog w).andThen (fun _ w=>.ok .skip w)
@[simp ↓] theorem ex_st (ρ:Operand → Value) (a x:Operand) (d:Option Nat) (t:TypeId) (p:String) (f:Array Edge) (g:Option (Nat × Bool)) (w:World) :
  (execOp ρ { dst:=d,op:=.store 24 a x,type:=t,pos:=p,after:=f,guard:=g }).run Tryz.prog w = stI w (ρ a) (ρ x):=by
 unfold execOp stI
 simp only [Sem.run_bind,Sem.run_pure]
@[simp] theorem stI_new (w:World) (x y:ID):stI (w.alloc (ido y)) (.pointer (some ⟨w.heap.size,0,none⟩)) (encI x) = .ok .skip (w.alloc (ido x)):=by
 unfold stI
 rw [st_new]
 rfl
def idc (l:List ID):List Value:=l.flatMap fun x=>bv x.1
theorem idc_length (l:List ID):(idc l).length = l.length * 32:=by
 induction l with
 | nil=>rfl
 | cons x l ih=>simp only [idc,List.flatMap_cons,List.length_append,bv_length,x.2,List.length_cons] at ih ⊢;omega
theorem idc_append (l m:List ID):idc (l ++ m) = idc l ++ idc m:=by simp [idc]
theorem idc_one (l:List ID):∀ u ∈ idc l,u.oneCell' = true:=by
 intro u hu
 simp only [idc,List.mem_flatMap] at hu
 obtain ⟨x,_,hu⟩:=hu
 exact bv_one _ u hu
theorem idc_get (l:List ID) (i j:Nat) (hi:i < l.length) (v:Value) (hv:(bv (l[i]).1)[j]? = some v):(idc l)[i * 32 + j]? = some v:=by
 induction l generalizing i with
 | nil=>simp at hi
 | cons x l ih =>
  have hj:j < 32:=by
   have:=(List.getElem?_eq_some_iff.1 hv).1
   rw [bv_length] at this
   have h2:=((x :: l)[i]).2
   omega
  simp only [idc,List.flatMap_cons]
  cases i with
  | zero =>
   rw [List.getElem?_append_left (by simp [x.2];omega)]
   simpa using hv
  | succ i =>
   rw [List.getElem?_append_right (by simp [x.2];omega),bv_length,x.2]
   have:=ih i (by simpa using hi) (by simpa using hv)
   rw [show (i + 1) * 32 + j - 32 = i * 32 + j by omega]
   exact this
theorem Sl.id {w:World} {g off:Nat} {l:List ID} (h:Sl w (some ⟨g,off,none⟩) (idc l)) (i:Nat) (hi:i < l.length):rdI w g (off + i * 32) = some l[i]:=by
 refine Rd.rdI fun j v hv=>?_
 have hne:idc l ≠ []:=by intro h0;have:=idc_length l;rw [h0] at this;simp at this;omega
 obtain ⟨g',off',e,_,hc⟩:=h hne
 injection e with e
 injection e with e1 e2
 subst e1;subst e2
 have:=hc _ v (idc_get l i j hi v hv)
 rwa [← Nat.add_assoc] at this
end Go.Proofs.YtjpieiccpbcabaaGreat
namespace Go.Proofs.YtjpieiccpbcabaaGreat
open Go.RowKit Go.Sort
theorem load_id (w:World) (a:Nat) (x:ID) (hx:rdI w a 0 = some x):(Extern.Bytes.loadBytes ⟨a,0,none⟩ 32 .empty).run Tryz.prog w = .ok ⟨x.1.toArray⟩ w:=by
 have h:=Lib.run_loadBytesX (P:=Tryz.prog) w (x.1.map fun b=>(b.toNat:Int)) ⟨a,0,none⟩ .empty (fun j u hu=>by
  rw [Addr.add_mid]
  refine rdI_rd hx j _ ?_
  rw [List.getElem?_map] at hu
  simp only [bv,List.getElem?_map]
  cases hj:x.1[j]? with
  | none=>rw [hj] at hu;cases hu
  | some b=>rw [hj] at hu;simp only [Option.map_some,Option.some.injEq] at hu ⊢;rw [← hu];rfl)
 rw [List.length_map,x.2] at h
 rw [h]
 congr 1
 apply ByteArray.ext
 simp only [Lib.bytesOf,List.map_map]
 have e:(x.1.map ((fun n:Int=>n.toNat.toUInt8) ∘ fun b:UInt8=>(b.toNat:Int))) = x.1:=by
  conv=>rhs;rw [← List.map_id x.1]
  exact List.map_congr_left (fun b _=>by simp)
 simpa using e
theorem bg_compare (w:World) (a b:Nat) (x y:ID) (hx:rdI w a 0 = some x) (hy:rdI w b 0 = some y) :
  (callFunc 160 #[.slice (some ⟨a,0,none⟩) 32 32,.slice (some ⟨b,0,none⟩) 32 32]).run Tryz.prog w = .ok (.value (.int .i64 (Lib.compareBytes x.1 y.1))) w:=by
 rw [run_callFunc_extern Tryz.func160 (by kernel_rfl) (by kernel_rfl) (by kernel_rfl) (e:=Extern.BytealgCompare.compare) (by kernel_rfl)]
 show (((do pure (goInt (Extern.BytealgCompare.cmp (← Extern.Bytes.bytesOf (.slice (some ⟨a,0,none⟩) 32 32)) (← Extern.Bytes.bytesOf (.slice (some ⟨b,0,none⟩) 32 32)))):Sem Value)).run Tryz.prog w).andThen _ = _
 simp only [Extern.Bytes.bytesOf,Sem.run_bind,load_id w a x hx,load_id w b y hy,Result.andThen_ok,Sem.run_pure,Lib.cmp_eq]
 rfl
theorem bcompare_any (w:World) (a b:Nat) (x y:ID) (hx:rdI w a 0 = some x) (hy:rdI w b 0 = some y) :
  Calls Tryz.prog 120 #[.slice (some ⟨a,0,none⟩) 32 32,.slice (some ⟨b,0,none⟩) 32 32] w fun e w'=>e = .returned (.int .i64 (Lib.compareBytes x.1 y.1)) ∧ w = w':=by
 have hc:=bg_compare w a b x y hx hy
 go_enter Tryz.func120,Tryz.ntmps120
 go_wp2
 go_ret
 exact ⟨rfl,rfl⟩
def cmpI (x y:ID):Int:=Lib.compareBytes x.1 y.1
def CmpTo (w:World) (v:Int) (e:Ending) (w':World):Prop:=e = .returned (.int .i64 v) ∧ ∃ q os,w' = grow (w.drewN q) os
theorem cmp_any (w:World) (x y:ID):Calls Tryz.prog 88 #[encI x,encI y] w (CmpTo w (cmpI x y)):=by
 go_enter Tryz.func88,Tryz.ntmps88
 go_wp2
 have r1:rdI ((w.alloc (ido x)).alloc (ido y)) w.heap.size 0 = some x:=by rw [rdI_old _ _ _ _ (by simp),rdI_new]
 have r2:rdI ((w.alloc (ido x)).alloc (ido y)) (w.heap.size + 1) 0 = some y:=by
  have:=rdI_new (w.alloc (ido x)) y
  rwa [World.size_alloc] at this
 go_quiet ((go_at_call 120;exact Calls.quiet_of_same ((bcompare_any _ _ _ x y (by rw [rdI_drewN];exact r1) (by rw [rdI_drewN];exact r2)).mono (fun _ _ h=>⟨h.1,h.2.symm⟩))))
 go_wp2
 go_ret
 refine ⟨rfl,nq,#[ido x,ido y],?_⟩
 rw [alloc_eq_grow,alloc_eq_grow,grow_grow]
 rfl
theorem CmpTo.fr {w w':World} {v:Int} {e:Ending} (h:CmpTo w v e w'):Fr noB w w':=by
 obtain ⟨_,q,os,rfl⟩:=h
 refine ⟨rfl,rfl,rfl,by simp [grow,World.drewN],fun k hk _=>?_⟩
 simp [grow,World.drewN,Array.getElem?_append_left hk]
/-! rows of IDs -/
theorem ET.mk' {P:Program} {t e:TypeId} {z:Value} {size bytes:Nat} (ht:P.underlying t = some (.slice e))
  (h:(P.info? e).map (fun i=>(i.zero,i.size,i.bytes)) = some (some z,size,bytes)) (hz:z.cells.size = size) (hs:0 < size) (hb:0 < bytes):ET P t e size bytes:=by
 obtain ⟨i,h1,h2,h3,h4⟩:=info_parts h
 exact ⟨ht,⟨i,z,h1,h2,h3,h4,hz⟩,hs,hb⟩
theorem etIDs:ET Tryz.prog 32 24 32 32:=ET.mk' (z:=.agg (bv zID.1).toArray) Tryz.underlying32 (by kernel_rfl) (by simp [Value.cells,zID]) (by decide) (by decide)
@[go_sem] theorem ids_eq_nil (w:World) (a:Option Addr) (n c:Nat):(binOp .eql 32 (.slice a n c) (.slice none 0 0)).run Tryz.prog w = .ok (.bool a.isNone) w :=
 Lib.run_eql_slice_nil w _ _ a n c 0 0 Tryz.underlying32
abbrev OwnD (w0 w:World) (A:Option Addr) (c:Nat) (l:List ID):Prop:=w.ownsRow w0.heap.size 24 32 (.slice A l.length c) l.length (idc l)
def NewIDs (w:World) (l:List ID) (e:Ending) (w':World):Prop:=∃ A c,e = .returned (.slice A l.length c) ∧ OwnD w w' A c l ∧ Fr noB w w'
theorem idclone_any (w:World) (A:Option Addr) (c:Nat) (l:List ID) (n:Nat) (hn:l.length = n) (hs:Sl w A (idc l)) (hb:l.length ≤ 1000000000000) :
  Calls Tryz.prog 63 #[.slice A n c] w (NewIDs w l):=by
 subst hn
 rcases A with _ | ad
 ·have hl:l = []:=by
   cases l with
   | nil=>rfl
   | cons b t=>obtain ⟨g,off,h,_⟩:=hs (by intro h0;have:=idc_length (b :: t);rw [h0] at this;simp at this);cases h
  subst hl
  go_enter Tryz.func63,Tryz.ntmps63
  go_wp2
  go_ret
  exact ⟨none,0,rfl,World.ownsRow_nil _ _ _ _,Fr.refl _ _⟩
 ·have hown:=World.ownsRow_lit (base:=w.heap.size) (e:=24) (size:=32) w #[] 0 (Nat.le_refl _) (by simp [maxLen]) rfl
  have hs1:Sl (w.alloc (.cells #[] 24)) (some ad) (idc l):=hs.fr0 ((Fr.refl noB w).alloc _)
  go_enter Tryz.func63,Tryz.ntmps63
  go_wp2_with (at_builtin;refine wpList_app _ etIDs rfl _ _ rfl w.heap.size _ _ _ rfl hown (some ad) l.length c (idc l) rfl hs1 (idc_length l) (idc_one l) (by omega) (by simp) ?_;intro v' w1 h1 h2 h3)
  go_ret
  obtain ⟨A',c',rfl,_,_⟩:=own_form h1
  simp only [Nat.zero_add,List.nil_append] at h1
  exact ⟨A',c',by simp,h1,((Fr.refl noB w).alloc _).stepG (r:=some w.heap.size) h2 (by intro g hg;injection hg with hg;omega)⟩
end Go.Proofs.YtjpieiccpbcabaaGreat
