/- Words for memory: frames, slices that read as lists, appends to rows of the call's own. -/
import Derived.WalkKit
import Derived.Maps.AppendAt
import Derived.Lib.Hide
import Derived.Deep.Draws
set_option linter.unusedVariables false
set_option linter.unusedSimpArgs false
namespace Go.Proofs.Ytahllkifmmjbdaa
open Go.RowKit
structure Fr (M:Nat → Prop) (w w':World):Prop where
 os:w'.os = w.os
 tape:w'.tape = w.tape
 output:w'.output = w.output
 size:w.heap.size ≤ w'.heap.size
 block:∀ k,k < w.heap.size → ¬ M k → w'.heap[k]? = w.heap[k]?
def noB:Nat → Prop:=fun _=>False
def oneB (p:Nat):Nat → Prop:=fun k=>k = p
section
variable {M M':Nat → Prop} {w w' w1 w2:World}
theorem Fr.refl (M:Nat → Prop) (w:World):Fr M w w:=⟨rfl,rfl,rfl,Nat.le_refl _,fun _ _ _=>rfl⟩
theorem Fr.trans (h:Fr M w w1) (k:Fr M' w1 w2) (hm:∀ b,b < w.heap.size → M' b → M b):Fr M w w2 :=
 ⟨k.os.trans h.os,k.tape.trans h.tape,k.output.trans h.output,Nat.le_trans h.size k.size,
  fun b hb hn=>(k.block b (Nat.lt_of_lt_of_le hb h.size) (fun hx=>hn (hm b hb hx))).trans (h.block b hb hn)⟩
theorem Fr.mono (h:Fr M w w') (hm:∀ b,M b → M' b):Fr M' w w' :=
 ⟨h.os,h.tape,h.output,h.size,fun b hb hn=>h.block b hb (fun hx=>hn (hm b hx))⟩
theorem Fr.any (h:Fr noB w w'):Fr M w w':=h.mono (fun _ hx=>absurd hx (by simp [noB]))
theorem Fr.below (h:Fr noB w w'):Below w.heap.size w w':=⟨h.os,h.tape,h.output,h.size,fun k hk=>h.block k hk (by simp [noB])⟩
theorem Fr.ofBelow (h:Below w.heap.size w w'):Fr M w w':=⟨h.os,h.tape,h.output,h.size,fun k hk _=>h.block k hk⟩
theorem Fr.ofGrown {r:Option Nat} (h:w.grownBy w' r) (hr:∀ g,r = some g → M g):Fr M w w' :=
 ⟨h.os,h.tape,h.output,h.size,fun k hk hn=>h.block k hk (fun e=>hn (hr k e.symm))⟩
theorem Fr.alloc (h:Fr M w w1) (o:Obj):Fr M w (w1.alloc o) :=
 h.trans (M':=noB) ⟨rfl,rfl,rfl,by simp,fun k hk _=>Below.heap_alloc _ _ _ hk⟩ (fun _ _ hx=>absurd hx (by simp [noB]))
theorem Fr.drew (h:Fr M w w1):Fr M w w1.drew:=⟨h.os,h.tape,h.output,h.size,h.block⟩
theorem Fr.drewN (h:Fr M w w1) (n:Nat):Fr M w (w1.drewN n):=⟨h.os,h.tape,h.output,h.size,h.block⟩
theorem Fr.setCell (h:Fr M w w1) {p:Addr} (hp:p.block < w.heap.size → M p.block) (u:Value):Fr M w (w1.setCell p u) :=
 h.trans (M':=oneB p.block) ⟨rfl,rfl,rfl,by simp [World.setCell],fun k _ hn=>Below.heap_setCell _ _ _ _ (fun e=>hn e)⟩
  (fun b hb hx=>by have:b = p.block:=hx;subst this;exact hp hb)
theorem Fr.step (h:Fr M w w1) (k:Fr M' w1 w2) (hm:∀ b,M' b → w.heap.size ≤ b ∨ M b):Fr M w w2 :=
 h.trans k (fun b hb hx=>(hm b hx).elim (fun h'=>absurd hb (by omega)) id)
theorem Fr.step0 (h:Fr M w w1) (k:Fr noB w1 w2):Fr M w w2:=h.trans k (fun _ _ hx=>absurd hx (by simp [noB]))
theorem Fr.step1 {p:Nat} (h:Fr M w w1) (k:Fr (oneB p) w1 w2) (hp:w.heap.size ≤ p):Fr M w w2 :=
 h.step k (fun b hb=>.inl (by have:b = p:=hb;omega))
theorem Fr.stepG {r:Option Nat} (h:Fr M w w1) (k:w1.grownBy w2 r) (hp:∀ g,r = some g → w.heap.size ≤ g):Fr M w w2 :=
 h.step (M':=fun b=>r = some b) (Fr.ofGrown k (fun g hg=>hg)) (fun b hb=>.inl (hp b hb))
end
def Sl (w:World) (A:Option Addr) (xs:List Value):Prop :=
 xs ≠ [] → ∃ g off,A = some ⟨g,off,none⟩ ∧ g < w.heap.size ∧ ∀ j u,xs[j]? = some u → w.cell? ⟨g,off + j,none⟩ = some u
def cutA (A:Option Addr) (c k s:Nat):Option Addr:=if c = k then A else A.map (·.add (k * s))
def Off (A:Option Addr) (P:Nat → Prop):Prop:=∀ a,A = some a → P a.block
def u8v (b:UInt8):Value:=.int .u8 (b.toNat:Int)
def bv (l:List UInt8):List Value:=l.map u8v
@[simp] theorem bv_length (l:List UInt8):(bv l).length = l.length:=by simp [bv]
@[simp] theorem bv_nil:bv [] = []:=rfl
theorem bv_cons (b:UInt8) (l:List UInt8):bv (b :: l) = u8v b :: bv l:=rfl
theorem bv_append (l m:List UInt8):bv (l ++ m) = bv l ++ bv m:=by simp [bv]
theorem bv_take (l:List UInt8) (n:Nat):bv (l.take n) = (bv l).take n:=by simp [bv,List.map_take]
theorem bv_drop (l:List UInt8) (n:Nat):bv (l.drop n) = (bv l).drop n:=by simp [bv,List.map_drop]
theorem bv_get (l:List UInt8) (j:Nat) (h:j < l.length):(bv l)[j]? = some (.int .u8 ((l[j]).toNat:Int)):=by simp [bv,h,u8v]
theorem bv_ne {l:List UInt8} (h:l ≠ []):bv l ≠ []:=by cases l <;> simp_all [bv]
theorem bv_one (l:List UInt8):∀ u ∈ bv l,u.oneCell' = true:=by
 intro u hu;simp only [bv,List.mem_map] at hu;obtain ⟨b,_,rfl⟩:=hu;rfl
section
variable {M:Nat → Prop} {w w':World} {A:Option Addr} {xs:List Value}
theorem Sl.nil (w:World) (A:Option Addr):Sl w A []:=fun h=>absurd rfl h
theorem Sl.keep (h:Sl w A xs) (hk:∀ g off,A = some ⟨g,off,none⟩ → g < w.heap.size → w'.heap[g]? = w.heap[g]?) (hs:w.heap.size ≤ w'.heap.size):Sl w' A xs:=by
 intro hx
 obtain ⟨g,off,e,hg,hc⟩:=h hx
 exact ⟨g,off,e,by omega,fun j u hu=>(World.cell?_of_block (w:=w) (a:=⟨g,off + j,none⟩) (hk g off e hg)).trans (hc j u hu)⟩
theorem Sl.fr (h:Sl w A xs) (f:Fr M w w') (hM:Off A (fun b=>¬ M b)):Sl w' A xs :=
 h.keep (fun g off e hg=>f.block g hg (hM _ e)) f.size
theorem Sl.fr0 (h:Sl w A xs) (f:Fr noB w w'):Sl w' A xs:=h.fr f (fun _ _=>by simp [noB])
theorem Sl.cut {k c size n:Nat} (h:Sl w A xs) (hx:xs.length = n * size) (hs:0 < size) (hc:n ≤ c) :
  Sl w (cutA A c k size) (xs.drop (k * size)):=by
 intro hd
 have hk:k * size < xs.length:=by
  rcases Nat.lt_or_ge (k * size) xs.length with h | h
  ·exact h
  ·exact absurd (List.drop_eq_nil_of_le h) hd
 have hkn:k < n:=Nat.lt_of_mul_lt_mul_right (a:=size) (by omega)
 obtain ⟨g,off,rfl,hg,hcell⟩:=h (by intro h0;subst h0;simp at hk)
 refine ⟨g,off + k * size,?_,hg,fun j u hu=>?_⟩
 ·unfold cutA
  rw [if_neg (by omega)]
  by_cases h0:k * size = 0 <;> simp [Addr.add,h0]
 ·rw [List.getElem?_drop] at hu
  rw [Nat.add_assoc];exact hcell _ u hu
theorem Sl.cutB {l:List UInt8} {k c:Nat} (h:Sl w A (bv l)) (hc:l.length ≤ c):Sl w (cutA A c k 1) (bv (l.drop k)):=by
 have:=h.cut (k:=k) (c:=c) (size:=1) (n:=l.length) (by simp) (by decide) hc
 rw [bv_drop];simpa using this
theorem Sl.takeB {l:List UInt8} {k:Nat} (h:Sl w A (bv l)):Sl w A (bv (l.take k)):=by
 rw [bv_take]
 intro hx
 obtain ⟨g,off,rfl,hg,hcell⟩:=h (by intro h0;rw [h0] at hx;simp at hx)
 refine ⟨g,off,rfl,hg,fun j u hu=>hcell j u ?_⟩
 rw [List.getElem?_take] at hu
 split at hu
 ·exact hu
 ·cases hu
theorem Sl.take {k:Nat} (h:Sl w A xs):Sl w A (xs.take k):=by
 intro hx
 obtain ⟨g,off,rfl,hg,hcell⟩:=h (by intro h0;subst h0;simp at hx)
 refine ⟨g,off,rfl,hg,fun j u hu=>hcell j u ?_⟩
 rw [List.getElem?_take] at hu
 split at hu
 ·exact hu
 ·cases hu
theorem Off.cut {P:Nat → Prop} {k c size:Nat} (h:Off A P):Off (cutA A c k size) P:=by
 intro a ha
 unfold cutA at ha
 split at ha
 ·exact h a ha
 ·cases hA:A with
  | none=>rw [hA] at ha;cases ha
  | some b =>
   rw [hA] at ha
   simp only [Option.map_some,Option.some.injEq] at ha
   subst ha
   have:=h b hA
   have e:(b.add (k * size)).block = b.block:=by unfold Addr.add;split <;> rfl
   rw [e];exact this
theorem Off.mono {P Q:Nat → Prop} (h:Off A P) (hq:∀ b,P b → Q b):Off A Q:=fun a ha=>hq _ (h a ha)
theorem Off.none {P:Nat → Prop}:Off none P:=fun _ ha=>by cases ha
theorem Sl.own {base:Nat} {e:TypeId} {size n:Nat} {c:Nat} (h:w.ownsRow base e size (.slice A n c) n xs):Sl w A xs:=by
 intro hx
 rcases h.2 with ⟨hv,hn⟩ | ⟨g,cap,cur,hv,_,hg,hnc,_,hs,ht⟩
 ·subst hn;have:=h.1;simp at this;exact absurd this hx
 ·injection hv with h1 h2 h3
  subst h1
  refine ⟨g,0,rfl,(Array.getElem?_eq_some_iff.1 hg).1,fun j u hu=>?_⟩
  rw [Nat.zero_add]
  rw [cell_of_row w g j cur e (0,0) hg]
  rw [← ht,List.getElem?_take] at hu
  split at hu
  ·simpa using hu
  ·cases hu
theorem Off.own {base:Nat} {e:TypeId} {size n c:Nat} (h:w.ownsRow base e size (.slice A n c) n xs):Off A (fun b=>base ≤ b ∧ b < w.heap.size):=by
 intro a ha
 subst ha
 exact h.lt a.block rfl
end
structure ET (P:Program) (t e:TypeId) (size bytes:Nat):Prop where
 ht:P.underlying t = some (.slice e)
 hi:∃ i z,P.info? e = some i ∧ i.zero = some z ∧ i.size = size ∧ i.bytes = bytes ∧ z.cells.size = size
 hs:0 < size
 hb:0 < bytes
section
variable {P:Program} (w:World)
theorem run_app_nil (base:Nat) (t ty e:TypeId) (size:Nat) (i:TypeInfo) (ht:P.underlying t = some (.slice e)) (hi:P.info? e = some i)
  (v:Value) (n:Nat) (xs:List Value) (hown:w.ownsRow base e size v n xs) (c:Nat):(Builtin.append_ #[t,t] ty #[v,.slice none 0 c]).run P w = .ok v w:=by
 rcases hown.2 with ⟨rfl,rfl⟩ | ⟨g,cap,cur,rfl,_,_,hnc,_⟩
 ·simp [Builtin.append_,run_underlying ht,sizeOf,typeInfo,hi,Builtin.lenOf,Builtin.firstCells]
 ·simp [Builtin.append_,run_underlying ht,sizeOf,typeInfo,hi,Builtin.lenOf,Builtin.firstCells,hnc,storeCells]
theorem run_app {t e:TypeId} {size bytes:Nat} (H:ET P t e size bytes) (ty:TypeId) (base:Nat)
  (v:Value) (n:Nat) (xs:List Value) (hown:w.ownsRow base e size v n xs)
  (A:Option Addr) (m c:Nat) (news:List Value) (hr:Sl w A news) (hl:news.length = m * size) (h1:∀ u ∈ news,u.oneCell' = true)
  (hbytes:(n + m) * bytes ≤ 140737488355328) (hbase:base ≤ w.heap.size) :
  ∃ v' w',(Builtin.append_ #[t,t] ty #[v,.slice A m c]).run P w = .ok v' w' ∧ w'.ownsRow base e size v' (n + m) (xs ++ news) ∧ w.grownBy w' v.ownBlock ∧
   (v'.ownBlock = v.ownBlock ∨ v'.ownBlock = some w.heap.size):=by
 obtain ⟨i,z,hi,hz,hsize,hby,hzs⟩:=H.hi
 have hmul:n + m ≤ (n + m) * bytes:=Nat.le_mul_of_pos_right _ H.hb
 have h63:n + m ≤ maxLen:=by unfold maxLen;omega
 rcases A with _ | ad
 ·have hn:news = []:=by
   cases news with
   | nil=>rfl
   | cons u us=>obtain ⟨g,off,h,_⟩:=hr (by simp);cases h
  subst hn
  have hm:m = 0:=by
   rcases Nat.eq_zero_or_pos m with h0 | h0
   ·exact h0
   ·have:=Nat.mul_pos h0 H.hs;simp at hl;omega
  subst hm
  exact ⟨v,w,run_app_nil w base t ty e size i H.ht hi v n xs hown c,by simpa using hown,⟨rfl,rfl,rfl,Nat.le_refl _,fun _ _ _=>rfl⟩,.inl rfl⟩
 ·have hcells:∀ j u,news[j]? = some u → w.cell? (ad.add j) = some u:=by
   intro j u hu
   have hx:news ≠ []:=by intro h0;subst h0;simp at hu
   obtain ⟨g,off,h,_,hc⟩:=hr hx
   injection h with h
   subst h
   have e:(⟨g,off,none⟩:Addr).add j = ⟨g,off + j,none⟩:=by unfold Addr.add;split <;> simp_all
   rw [e];exact hc j u hu
  obtain ⟨v',w',hrun,h2,h3,_,h5⟩:=run_append_own_at (P:=P) w base t ty e i z size bytes H.ht hi hz hsize hby hzs H.hs v n xs hown ad m c news hl hcells h1 h63 hbytes hbase
  exact ⟨v',w',hrun,h2,h3,h5⟩
theorem wp_app {t e:TypeId} {size bytes:Nat} (H:ET P t e size bytes) {o:Oper} {a:Act} {K:Act → World → Prop} {Q:Exit → Act → World → Prop} (s x:Operand)
  (ho:o.op = .call { callee:=.builtin .append,args:=#[s,x],argTypes:=#[t,t] }) (base:Nat)
  (v:Value) (n:Nat) (xs:List Value) (hs:a.eval s = v) (hown:w.ownsRow base e size v n xs)
  (A:Option Addr) (m c:Nat) (news:List Value) (hx:a.eval x = .slice A m c) (hr:Sl w A news) (hl:news.length = m * size) (h1:∀ u ∈ news,u.oneCell' = true)
  (hbytes:(n + m) * bytes ≤ 140737488355328) (hbase:base ≤ w.heap.size)
  (h:∀ v' w',w'.ownsRow base e size v' (n + m) (xs ++ news) → w.grownBy w' v.ownBlock → (v'.ownBlock = v.ownBlock ∨ v'.ownBlock = some w.heap.size) → K (a.put o.dst v') w'):o.wp P a w K Q:=by
 obtain ⟨v',w',hrun,h2,h3,h4⟩:=run_app (P:=P) w H o.type base v n xs hown A m c news hr hl h1 hbytes hbase
 unfold Oper.wp execOp
 simp only [ho,resolve,invoke,builtin,Sem.run_bind,Sem.run_pure,Result.andThen_ok,List.map_toArray,List.map_cons,List.map_nil,hs,hx,hrun]
 exact h v' w' h2 h3 h4
theorem wpList_app {t e:TypeId} {size bytes:Nat} (H:ET P t e size bytes) {ops:Array Oper} {rest:List Oper} {o:Oper} {a:Act} {Q:Exit → Act → World → Prop} (hgd:o.guard = none) (s x:Operand)
  (ho:o.op = .call { callee:=.builtin .append,args:=#[s,x],argTypes:=#[t,t] }) (base:Nat)
  (v:Value) (n:Nat) (xs:List Value) (hs:a.eval s = v) (hown:w.ownsRow base e size v n xs)
  (A:Option Addr) (m c:Nat) (news:List Value) (hx:a.eval x = .slice A m c) (hr:Sl w A news) (hl:news.length = m * size) (h1:∀ u ∈ news,u.oneCell' = true)
  (hbytes:(n + m) * bytes ≤ 140737488355328) (hbase:base ≤ w.heap.size)
  (h:∀ v' w',w'.ownsRow base e size v' (n + m) (xs ++ news) → w.grownBy w' v.ownBlock → (v'.ownBlock = v.ownBlock ∨ v'.ownBlock = some w.heap.size) → wpList P ops Q rest (a.put o.dst v') w'):wpList P ops Q (o :: rest) a w :=
 wpList_plain hgd fun _ hK=>wp_app w H s x ho base v n xs hs hown A m c news hx hr hl h1 hbytes hbase fun v' w' h2 h3 h4=>hK _ _ (h v' w' h2 h3 h4)
end
theorem own_form {w:World} {base:Nat} {e:TypeId} {size n:Nat} {v:Value} {xs:List Value} (h:w.ownsRow base e size v n xs):∃ A c,v = .slice A n c ∧ n ≤ c ∧ c ≤ maxLen:=by
 rcases h.2 with ⟨rfl,rfl⟩ | ⟨g,cap,cur,rfl,_,_,hnc,hm,_⟩
 ·exact ⟨none,0,rfl,Nat.le_refl _,by simp [maxLen]⟩
 ·exact ⟨_,cap,rfl,hnc,hm⟩
theorem own_fr {M:Nat → Prop} {w w':World} {base:Nat} {e:TypeId} {size n:Nat} {v:Value} {xs:List Value} (h:w.ownsRow base e size v n xs) (f:Fr M w w') (hM:∀ g,v.ownBlock = some g → ¬ M g):w'.ownsRow base e size v n xs:=by
 refine ⟨h.1,?_⟩
 rcases h.2 with hn | ⟨g,cap,cur,rfl,hb,hgg,rest⟩
 ·exact .inl hn
 ·exact .inr ⟨g,cap,cur,rfl,hb,by rw [f.block g (Array.getElem?_eq_some_iff.1 hgg).1 (hM g rfl)];exact hgg,rest⟩
theorem own_base {w:World} {base base':Nat} {e:TypeId} {size n:Nat} {v:Value} {xs:List Value} (h:w.ownsRow base e size v n xs) (hb:base' ≤ base):w.ownsRow base' e size v n xs:=by
 refine ⟨h.1,?_⟩
 rcases h.2 with hn | ⟨g,cap,cur,rfl,hb',rest⟩
 ·exact .inl hn
 ·exact .inr ⟨g,cap,cur,rfl,Nat.le_trans hb hb',rest⟩
theorem own_bv {w:World} {base:Nat} {e:TypeId} {n:Nat} {v:Value} {l:List UInt8} (h:w.ownsRow base e 1 v n (bv l)):w.ownsRow base e 1 v l.length (bv l):=by
 have hn:n = l.length:=by have:=h.1;simp at this;omega
 subst hn;exact h
theorem wpList_appB {P:Program} (w:World) {t e:TypeId} (H:ET P t e 1 1) {ops:Array Oper} {rest:List Oper} {o:Oper} {a:Act} {Q:Exit → Act → World → Prop} (hgd:o.guard = none) (s x:Operand)
  (ho:o.op = .call { callee:=.builtin .append,args:=#[s,x],argTypes:=#[t,t] }) (base:Nat)
  (v:Value) (n:Nat) (lo:List UInt8) (hs:a.eval s = v) (hown:w.ownsRow base e 1 v n (bv lo))
  (A:Option Addr) (m c:Nat) (news:List UInt8) (hx:a.eval x = .slice A m c) (hr:Sl w A (bv news)) (hl:news.length = m)
  (hbytes:lo.length + news.length ≤ 140737488355328) (hbase:base ≤ w.heap.size)
  (h:∀ A' c' w',(lo ++ news).length ≤ c' → c' ≤ maxLen → w'.ownsRow base e 1 (.slice A' (lo ++ news).length c') (lo ++ news).length (bv (lo ++ news)) → w.grownBy w' v.ownBlock →
   (A'.map (·.block) = v.ownBlock ∨ A'.map (·.block) = some w.heap.size) → wpList P ops Q rest (a.put o.dst (.slice A' (lo ++ news).length c')) w'):wpList P ops Q (o :: rest) a w:=by
 have hown':=own_bv hown
 refine wpList_app w H hgd s x ho base v lo.length (bv lo) hs hown' A m c (bv news) hx hr (by simp [hl]) (bv_one _) (by rw [← hl];omega) hbase ?_
 intro v' w' h1 h2 h3
 rw [← bv_append] at h1
 have h1':=own_bv h1
 obtain ⟨A',c',rfl,hc1,hc2⟩:=own_form h1'
 refine h A' c' w' hc1 hc2 h1' h2 ?_
 cases A' with
 | none=>simpa [Value.ownBlock] using h3
 | some b=>simpa [Value.ownBlock] using h3
def Blk (w:World) (g:Nat) (t:TypeId) (cs:List Value):Prop:=w.heap[g]? = some (.cells cs.toArray t (0,0))
section
variable {w w':World} {g:Nat} {t:TypeId} {cs:List Value}
theorem Blk.lt (h:Blk w g t cs):g < w.heap.size:=(Array.getElem?_eq_some_iff.1 h).1
theorem Blk.cell (h:Blk w g t cs) (i:Nat):w.cell? ⟨g,i,none⟩ = cs[i]?:=by
 have:=cell_of_row w g i cs.toArray t (0,0) h
 simpa using this
theorem Blk.frozen (h:Blk w g t cs) (i:Nat):w.frozen? ⟨g,i,none⟩ = false:=by
 unfold Blk at h;simp [World.frozen?,h]
theorem Blk.new (w:World) (t:TypeId) (cs:List Value):Blk (w.alloc (.cells cs.toArray t)) w.heap.size t cs:=heap_alloc_new w _
theorem Sl.blk (h:Blk w g t cs):Sl w (some ⟨g,0,none⟩) cs:=fun _=>⟨g,0,rfl,h.lt,fun j u hu=>by rw [Nat.zero_add,h.cell];exact hu⟩
theorem Sl.new (w:World) (t:TypeId) (cs:List Value):Sl (w.alloc (.cells cs.toArray t)) (some ⟨w.heap.size,0,none⟩) cs:=Sl.blk (Blk.new w t cs)
theorem Blk.fr {M:Nat → Prop} (h:Blk w g t cs) (f:Fr M w w') (hM:¬ M g):Blk w' g t cs:=(f.block g h.lt hM).trans h
theorem Blk.set (h:Blk w g t cs) (i:Nat) (u:Value):Blk (w.setCell ⟨g,i,none⟩ u) g t (cs.set i u):=by
 unfold Blk at h ⊢
 simp [World.setCell,Array.getElem?_modify,h]
theorem Blk.far (h:Blk w g t cs) {p:Addr} (hp:g ≠ p.block) (u:Value):Blk (w.setCell p u) g t cs:=(Below.heap_setCell w p u g hp).trans h
theorem Blk.alloc (h:Blk w g t cs) (o:Obj):Blk (w.alloc o) g t cs:=(Below.heap_alloc w o g h.lt).trans h
theorem Blk.ne_own {base:Nat} {e:TypeId} {size n:Nat} {v:Value} {xs:List Value} (hg:Blk w g t cs) (h:w.ownsRow base e size v n xs) (hne:e ≠ t):∀ g',v.ownBlock = some g' → g' ≠ g:=by
 rcases h.2 with ⟨rfl,_⟩ | ⟨g',cap,cur,rfl,_,hh,_⟩
 ·intro g' h';simp [Value.ownBlock] at h'
 ·intro g2 he
  have:g' = g2:=by simpa [Value.ownBlock] using he
  subst this
  rintro rfl
  unfold Blk at hg
  rw [hg] at hh
  injection hh with hh
  injection hh with _ ht
  exact hne ht.symm
end
theorem Sl.notIn {w:World} {g:Nat} {t:TypeId} {cs:List Value} {A:Option Addr} {l:List UInt8} (hs:Sl w A (bv l)) (hb:Blk w g t cs) (hn:∀ (j:Nat) (n:Int),cs[j]? ≠ some (.int .u8 n)) :
  ∀ g' off,bv l ≠ [] → A = some ⟨g',off,none⟩ → g' ≠ g:=by
 intro g' off hne he
 obtain ⟨g2,off2,e,hg,hc⟩:=hs hne
 rw [he] at e
 injection e with e
 injection e with e1 e2
 subst e1;subst e2
 rintro rfl
 have h0:0 < l.length:=by
  rcases Nat.eq_zero_or_pos l.length with h | h
  ·have:l = []:=List.eq_nil_of_length_eq_zero h
   subst this;exact absurd rfl hne
  ·exact h
 have:=hc 0 _ (bv_get l 0 h0)
 rw [hb.cell] at this
 exact hn _ _ this
theorem Sl.frB {w w':World} {g:Nat} {t:TypeId} {cs:List Value} {A:Option Addr} {l:List UInt8} (hs:Sl w A (bv l)) (hb:Blk w g t cs) (hn:∀ (j:Nat) (n:Int),cs[j]? ≠ some (.int .u8 n)) (hf:Fr (oneB g) w w'):Sl w' A (bv l):=by
 intro hne
 have h:=hs.notIn hb hn
 obtain ⟨g',off,e,hg,hc⟩:=hs hne
 refine ⟨g',off,e,Nat.lt_of_lt_of_le hg hf.size,fun j u hu=>?_⟩
 exact (World.cell?_of_block (w:=w) (a:=⟨g',off + j,none⟩) (hf.block g' hg (h g' off hne e))).trans (hc j u hu)
theorem sA1 {α : Type} {xs : List α} {i : Nat} (h : i < xs.toArray.size) : xs.toArray[i] = xs[i]'(by simpa using h) := List.getElem_toArray h
theorem sA2 {α : Type} {a : α} {l : List α} {h : 0 < (a :: l).length} : (a :: l)[0] = a := rfl
theorem sA3 {α : Type} {a : α} {l : List α} {i : Nat} {h : i + 1 < (a :: l).length} : (a :: l)[i + 1] = l[i]'(Nat.lt_of_succ_lt_succ h) := rfl
theorem sA4 {α : Type} {l : List α} {i : Nat} {a : α} : l.toArray.setIfInBounds i a = (l.set i a).toArray := List.setIfInBounds_toArray ..
theorem sA5 {α : Type} {x : α} {xs : List α} {a : α} : (x :: xs).set 0 a = a :: xs := rfl
theorem sA6 {α : Type} {x : α} {xs : List α} {n : Nat} {a : α} : (x :: xs).set (n + 1) a = x :: xs.set n a := rfl
end Go.Proofs.Ytahllkifmmjbdaa
