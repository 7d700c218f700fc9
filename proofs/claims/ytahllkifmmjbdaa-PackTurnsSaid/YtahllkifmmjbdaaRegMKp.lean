/- Regions that draw their order: a head of operations that read or make memory under a fact F that they keep, then a forced tail (a store) behind which F is not asked. The closed facts of a drawn region by bit masks: one table a region, one quick check. -/
import Derived.OrdersHeld
import Derived.StillTail
import Derived.WalkKit
import Derived.Lib.Hide
set_option linter.unusedVariables false
set_option linter.unusedSimpArgs false
namespace Go.Proofs.Ytahllkifmmjbdaa
open Go.RowKit
section
variable {P:Program} {ops:Array Oper} {Q:Exit → Act → World → Prop} {md:Region.Mode} {F:World → Prop} {n:Nat}
def wpAnyN (P:Program) (md:Region.Mode) (ops:Array Oper) (Q:Exit → Act → World → Prop) (F:World → Prop) (n:Nat):Nat → Array Bool → Act → World → Prop
 | 0,listed,a,w=>Region.ready md ops listed = [] ∧ Q .normal a w
 | fuel + 1,listed,a,w =>
  (Region.ready md ops listed = [] → Q .normal a w) ∧
  ∀ i ∈ Region.ready md ops listed,wpOp P ops Q i (fun a' w'=>(i < n → F w') ∧ wpAnyN P md ops Q F n fuel (listed.setIfInBounds i true) a' w') a w
theorem wpAny_of_N:∀ (fuel:Nat) (listed:Array Bool) (a:Act) (w:World),wpAnyN P md ops Q F n fuel listed a w → wpAny P md ops Q fuel listed a w
 | 0,_,_,_,h=>h
 | fuel + 1,_,_,_,h=>⟨h.1,fun i hi=>wpOp_mono (fun a' w' h'=>wpAny_of_N fuel _ a' w' h'.2) (h.2 i hi)⟩
theorem wpAnyN_first {i:Nat} {oi:Oper} {v:Value} (hs:Region.sinkB md ops n = true) (hc:Region.chainB md ops n = true) (hn:n < ops.size) (hin:i < n)
  (hi:ops[i]? = some oi) (hsel:∀ (j:Nat) (o:Oper) cs b,ops[j]? = some o → o.op ≠ .select cs b)
  (hQ:∀ c a w,Q (.panic c) (a.put oi.dst v) w → Q (.panic c) a w) :
  ∀ (fuel:Nat) (listed:Array Bool) (a:Act) (w:World),HeadInv md ops n listed →
   (∀ j oj,ops[j]? = some oj → j ≠ i → listed.getD j true = false → (∀ e ∈ oj.after,Region.binds md e = true → e.on ≠ i) → oi.apart ops oj = true) →
   i ∈ Region.ready md ops listed → YieldsIf P ops F oi v a → F w →
   wpAnyN P md ops Q F n fuel (listed.setIfInBounds i true) (a.put oi.dst v) w → wpAnyN P md ops Q F n (fuel + 1) listed a w:=by
 intro fuel
 induction fuel with
 | zero =>
  intro listed a w hI _ hr hy hS H
  refine ⟨fun h=>(by rw [h] at hr;cases hr),fun j hj=>?_⟩
  by_cases hji:j = i
  ·subst hji;exact hy.wpOp hi hS ⟨fun _=>hS,H⟩
  ·have:=ready_mono hj hji
   rw [H.1] at this
   cases this
 | succ fuel ih =>
  intro listed a w hI hfree hr hy hS H
  refine ⟨fun h=>(by rw [h] at hr;cases hr),fun j hj=>?_⟩
  by_cases hji:j = i
  ·subst hji;exact hy.wpOp hi hS ⟨fun _=>hS,H⟩
  ·have h1:=H.2 j (ready_mono hj hji)
   obtain ⟨hjun,oj,hoj,hall⟩:=mem_ready.1 hj
   have hnot:∀ e ∈ oj.after,Region.binds md e = true → e.on ≠ i:=fun e he hb heq=>by
    have h1:=hall e he hb
    have h0:=(mem_ready.1 hr).1
    rw [heq] at h1
    rcases Nat.lt_or_ge i listed.size with h' | h'
    ·simp [h'] at h0 h1;rw [h0] at h1;cases h1
    ·simp [Array.getElem?_eq_none h'] at h1
   have hjn:j < n:=by
    rcases Nat.lt_or_ge j n with h | h
    ·exact h
    ·exact absurd hj (tail_waits hs hc hn hI (n - i) i rfl hin (mem_ready.1 hr).1 j h)
   have h2:=wpOp_putIf hoj (hfree j oj hoj hji hjun hnot) (fun cs b=>hsel i oi cs b hi) (fun cs b=>hsel j oj cs b hoj) hQ hy h1
   have hfree':∀ k ok,ops[k]? = some ok → k ≠ i → (listed.setIfInBounds j true).getD k true = false →
     (∀ e ∈ ok.after,Region.binds md e = true → e.on ≠ i) → oi.apart ops ok = true:=fun k ok hk hki hun hno=>by
    refine hfree k ok hk hki ?_ hno
    by_cases hjk:j = k
    ·subst hjk;exact hjun
    ·rw [getD_set_ne true hjk] at hun;exact hun
   refine wpOp_mono (fun a' w' h3=>⟨fun _=>h3.2.1 hjn,ih (listed.setIfInBounds j true) a' w' (hI.set hj hjn) hfree' (ready_mono hr (Ne.symm hji)) h3.1 (h3.2.1 hjn) ?_⟩) h2
   rw [Array.setIfInBounds_comm _ _ hji]
   exact h3.2.2
def regB (md:Region.Mode) (ops:Array Oper) (n:Nat):Bool :=
 Region.noSelect ops && decide (n < ops.size) && Region.sinkB md ops n && Region.chainB md ops n
structure RegAt (md:Region.Mode) (ops:Array Oper) (n:Nat) (listed:Array Bool):Prop where
 inv:HeadInv md ops n listed
 b:regB md ops n = true
theorem RegAt.start (hB:regB md ops n = true):RegAt md ops n (Array.replicate ops.size false):=by
 refine ⟨⟨by simp,fun j oj _ hl=>(by rw [getD_replicate_false] at hl;cases hl),fun t _ ht=>getD_in (by simpa using ht) (getD_replicate_false _ _)⟩,hB⟩
theorem wpAnyN_take {i:Nat} {oi:Oper} {v:Value} {fuel:Nat} {listed:Array Bool} {a:Act} {w:World} (hA:RegAt md ops n listed) (hi:ops[i]? = some oi) (hin:i < n)
  (hf:Region.free md ops listed i = true) (hr:(Region.ready md ops listed).contains i = true)
  (hQ:∀ c a w,Q (.panic c) (a.put oi.dst v) w → Q (.panic c) a w) (hy:YieldsIf P ops F oi v a) (hS:F w)
  (h:RegAt md ops n (listed.setIfInBounds i true) → wpAnyN P md ops Q F n fuel (listed.setIfInBounds i true) (a.put oi.dst v) w):wpAnyN P md ops Q F n (fuel + 1) listed a w:=by
 have hB:=hA.b
 simp only [regB,Bool.and_eq_true,decide_eq_true_eq] at hB
 have hr':i ∈ Region.ready md ops listed:=by simpa using hr
 exact wpAnyN_first hB.1.2 hB.2 hB.1.1.2 hin hi (Region.noSelect_spec hB.1.1.1) hQ fuel listed a w hA.inv (Region.free_spec hi hf) hr' hy hS (h ⟨hA.inv.set hr' hin,hA.b⟩)
theorem wpAnyN_one {i:Nat} {o:Oper} {fuel:Nat} {listed:Array Bool} {a:Act} {w:World} (hA:RegAt md ops n listed) (hr:Region.ready md ops listed = [i]) (hin:i < n) (hi:ops[i]? = some o)
  (h:∀ K:Act → World → Prop,Hid (∀ a' w',F w' → (RegAt md ops n (listed.setIfInBounds i true) → wpAnyN P md ops Q F n fuel (listed.setIfInBounds i true) a' w') → K a' w') →
   if Region.wanted o (yielded ops a.tmps) = true then Oper.wp P o a w K Q else K (a.put o.dst undef) w):wpAnyN P md ops Q F n (fuel + 1) listed a w:=by
 refine ⟨fun h0=>(by rw [hr] at h0;cases h0),fun j hj=>?_⟩
 have hji:j = i:=by rw [hr] at hj;simpa using hj
 subst hji
 have hA':RegAt md ops n (listed.setIfInBounds j true):=⟨hA.inv.set hj hin,hA.b⟩
 have:=h (fun a' w'=>(j < n → F w') ∧ wpAnyN P md ops Q F n fuel (listed.setIfInBounds j true) a' w') (fun a' w' hF hW=>⟨fun _=>hF,hW hA'⟩)
 unfold wpOp
 simp only [hi]
 split
 ·rename_i hw;rw [if_pos hw] at this;exact .inl this
 ·rename_i hw;rw [if_neg hw] at this;exact this
theorem wpAnyN_tail:∀ (l:List Oper) (k:Nat) (listed:Array Bool) (a:Act) (w:World),n ≤ k → (∀ j,l[j]? = ops[k + j]?) →
  Region.seqB md ops l.length k listed = true → wpList P ops Q l a w → wpAnyN P md ops Q F n l.length listed a w
 | [],_,_,_,_,_,_,hB,h=>⟨by simpa [Region.seqB] using hB,h⟩
 | o :: l,k,listed,a,w,hk,hl,hB,h=>by
  have h0:ops[k]? = some o:=by simpa using (hl 0).symm
  simp only [List.length_cons,Region.seqB,Bool.and_eq_true,decide_eq_true_eq] at hB
  refine ⟨fun h1=>(by rw [hB.1] at h1;cases h1),fun i hi=>?_⟩
  rw [hB.1] at hi
  have hik:i = k:=by simpa using hi
  subst hik
  have hw:wpOp P ops Q i (wpList P ops Q l) a w:=by unfold wpOp;simp only [h0];exact h
  exact wpOp_mono (fun a' w' h'=>⟨fun hlt=>absurd hlt (by omega),wpAnyN_tail l (i + 1) _ a' w' (by omega) (fun j=>by have:=hl (j + 1);simpa [Nat.add_assoc,Nat.add_comm 1 j] using this) hB.2 h'⟩) hw
end
section
variable {P:Program} {Q:Exit → Act → World → Prop} {F:World → Prop}
theorem wpAnyN_end {md:Region.Mode} {l:List Oper} {n g:Nat} {listed:Array Bool} {a:Act} {w:World} (hg:(l.drop n).length = g) (hB:Region.seqB md l.toArray g n listed = true)
  (h:wpList P l.toArray Q (l.drop n) a w):wpAnyN P md l.toArray Q F n g listed a w:=by
 subst hg
 exact wpAnyN_tail (l.drop n) n listed a w (Nat.le_refl _) (fun j=>by simp [List.getElem?_drop]) hB h
theorem wp_region_H {id:Nat} {a:Act} {w:World} {l:List Oper} (S:World → Prop) (hm:P.follows .mixedOrders = true) (hS:S w.drew)
  (h:S w.drew → wpAnyH P .any l.toArray Q S l.toArray.size (Array.replicate l.toArray.size false) a w.drew):(Code.region id l.toArray true).wp P Q a w :=
 wp_region_held hm (h hS)
theorem wp_region_N {id:Nat} {a:Act} {w:World} {l:List Oper} (n:Nat) (F:World → Prop) (hm:P.follows .mixedOrders = true) (hB:regB .any l.toArray n = true) (hF:F w.drew)
  (h:RegAt .any l.toArray n (Array.replicate l.toArray.size false) → F w.drew → wpAnyN P .any l.toArray Q F n l.toArray.size (Array.replicate l.toArray.size false) a w.drew):(Code.region id l.toArray true).wp P Q a w :=
 wp_region_any hm (wpAny_of_N _ _ _ _ (h (RegAt.start hB) hF))
end
/-! a schedule that is checked once: (true, i): an operation that reads is taken; (false, i): the only one that is ready -/
section
variable {P:Program} {Q:Exit → Act → World → Prop} {F:World → Prop} {md:Region.Mode} {ops:Array Oper} {n:Nat}
def schedB (md:Region.Mode) (ops:Array Oper) (n:Nat):List (Bool × Nat) → Array Bool → Bool
 | [],listed=>Region.seqB md ops (ops.size - n) n listed
 | (true,i) :: s,listed=>decide (i < n) && Region.free md ops listed i && (Region.ready md ops listed).contains i && schedB md ops n s (listed.setIfInBounds i true)
 | (false,i) :: s,listed=>decide (i < n) && decide (Region.ready md ops listed = [i]) && schedB md ops n s (listed.setIfInBounds i true)
structure RegS (md:Region.Mode) (ops:Array Oper) (n:Nat) (listed:Array Bool) (s:List (Bool × Nat)):Prop where
 at_:RegAt md ops n listed
 b:schedB md ops n s listed = true
theorem wp_region_S {id:Nat} {a:Act} {w:World} {l:List Oper} (n k:Nat) (s:List (Bool × Nat)) (F:World → Prop) (hm:P.follows .mixedOrders = true) (hk:l.length = k)
  (hB:(regB .any l.toArray n && schedB .any l.toArray n s (Array.replicate k false)) = true) (hF:F w.drew)
  (h:RegS .any l.toArray n (Array.replicate k false) s → F w.drew → wpAnyN P .any l.toArray Q F n k (Array.replicate k false) a w.drew):(Code.region id l.toArray true).wp P Q a w:=by
 subst hk
 rw [Bool.and_eq_true] at hB
 exact wp_region_any hm (wpAny_of_N _ _ _ _ (h ⟨RegAt.start hB.1,hB.2⟩ hF))
theorem wpAnyS_take {i:Nat} {oi:Oper} {v:Value} {fuel:Nat} {listed:Array Bool} {s:List (Bool × Nat)} {a:Act} {w:World} (hA:RegS md ops n listed ((true,i) :: s)) (hi:ops[i]? = some oi)
  (hQ:∀ c a w,Q (.panic c) (a.put oi.dst v) w → Q (.panic c) a w) (hy:YieldsIf P ops F oi v a) (hS:F w)
  (h:RegS md ops n (listed.setIfInBounds i true) s → wpAnyN P md ops Q F n fuel (listed.setIfInBounds i true) (a.put oi.dst v) w):wpAnyN P md ops Q F n (fuel + 1) listed a w:=by
 have hb:=hA.b
 simp only [schedB,Bool.and_eq_true,decide_eq_true_eq] at hb
 exact wpAnyN_take hA.at_ hi hb.1.1.1 hb.1.1.2 hb.1.2 hQ hy hS (fun hA'=>h ⟨hA',hb.2⟩)
theorem wpAnyS_one {i:Nat} {o:Oper} {fuel:Nat} {listed:Array Bool} {s:List (Bool × Nat)} {a:Act} {w:World} (hA:RegS md ops n listed ((false,i) :: s)) (hi:ops[i]? = some o)
  (h:∀ K:Act → World → Prop,Hid (∀ a' w',F w' → (RegS md ops n (listed.setIfInBounds i true) s → wpAnyN P md ops Q F n fuel (listed.setIfInBounds i true) a' w') → K a' w') →
   if Region.wanted o (yielded ops a.tmps) = true then Oper.wp P o a w K Q else K (a.put o.dst undef) w):wpAnyN P md ops Q F n (fuel + 1) listed a w:=by
 have hb:=hA.b
 simp only [schedB,Bool.and_eq_true,decide_eq_true_eq] at hb
 refine wpAnyN_one hA.at_ hb.1.2 hb.1.1 hi (fun K hK=>h K ?_)
 exact Lib.hid (fun a' w' hF hW=>hK.out a' w' hF (fun hA'=>hW ⟨hA',hb.2⟩))
theorem wpAnyS_end {l:List Oper} {g:Nat} {listed:Array Bool} {a:Act} {w:World} (hA:RegS md l.toArray n listed []) (hg:(l.drop n).length = g)
  (h:wpList P l.toArray Q (l.drop n) a w):wpAnyN P md l.toArray Q F n g listed a w:=by
 have hb:=hA.b
 simp only [schedB] at hb
 refine wpAnyN_end hg ?_ h
 rw [← hg,List.length_drop]
 simpa using hb
end
end Go.Proofs.Ytahllkifmmjbdaa
namespace Go.Proofs.Ytahllkifmmjbdaa
open Go.RowKit
def maskL:List Nat → Nat
 | []=>0
 | b :: l=>Nat.lor (2 ^ b) (maskL l)
theorem maskL_test (l:List Nat) (j:Nat):(maskL l).testBit j = l.contains j:=by
 induction l with
 | nil=>simp [maskL]
 | cons b l ih =>
  show ((2 ^ b) ||| maskL l).testBit j = _
  rw [Nat.testBit_or,ih,Nat.testBit_two_pow,List.contains_cons]
  congr 1
  by_cases h:b = j
  ·subst h;simp
  ·have h':¬ j = b:=fun e=>h e.symm
   simp [h,h']
def hasBit (m i:Nat):Bool:=Nat.beq (Nat.land (Nat.shiftRight m i) 1) 1
theorem hasBit_test (m i:Nat):hasBit m i = m.testBit i:=by
 have e:Nat.land (Nat.shiftRight m i) 1 = (m >>> i) &&& 1:=rfl
 unfold hasBit
 rw [e,Nat.and_one_is_mod,Nat.testBit,Nat.and_comm,Nat.and_one_is_mod,Bool.eq_iff_iff,Nat.beq_eq]
 have:=Nat.mod_two_eq_zero_or_one (m >>> i)
 rcases this with h | h <;> simp [h]
def subB (e m:Nat):Bool:=Nat.beq (Nat.land e m) e
theorem subB_test {e m:Nat}:subB e m = true ↔ ∀ j,e.testBit j = true → m.testBit j = true:=by
 have e':Nat.land e m = e &&& m:=rfl
 unfold subB
 rw [Nat.beq_eq,e']
 constructor
 ·intro h j hj
  rw [← h,Nat.testBit_and,Bool.and_eq_true] at hj
  exact hj.2
 ·intro h
  apply Nat.eq_of_testBit_eq
  intro j
  rw [Nat.testBit_and]
  cases hj:e.testBit j with
  | false=>rfl
  | true=>rw [h j hj];rfl
theorem land_zero {a b:Nat} (h:Nat.land a b = 0) (j:Nat):¬ (a.testBit j = true ∧ b.testBit j = true):=by
 have e:a &&& b = 0:=h
 intro hj
 have:=congrArg (fun x=>Nat.testBit x j) e
 simp [Nat.testBit_and,hj.1,hj.2] at this
theorem lor_zero {a b:Nat} (h:Nat.lor a b = 0):a = 0 ∧ b = 0:=by
 have e:a ||| b = 0:=h
 exact Nat.or_eq_zero_iff.1 e
structure Rw where
 d:Nat
 l:Nat
 e:Nat
def rowOf (md:Region.Mode) (ops:Array Oper) (o:Oper):Rw:=⟨maskL o.dst.toList,maskL (o.looksAt ops),maskL ((o.after.toList.filter fun e=>Region.binds md e).map (·.on))⟩
def tabOf (md:Region.Mode) (ops:Array Oper):List Rw:=ops.toList.map (rowOf md ops)
def pairM (i:Nat) (a:Rw) (j:Nat) (b:Rw):Bool:=hasBit b.e i || hasBit a.e j || Nat.beq (Nat.lor (Nat.land a.d (Nat.lor b.l b.d)) (Nat.land b.d a.l)) 0
def pairsM (i:Nat) (a:Rw):Nat → List Rw → Bool
 | _,[]=>true
 | j,b :: t=>(Nat.beq i j || pairM i a j b) && pairsM i a (j + 1) t
def apartM (n:Nat) (T:List Rw):Nat → List Rw → Bool
 | _,[]=>true
 | i,a :: t=>(Nat.ble n i || pairsM i a 0 T) && apartM n T (i + 1) t
def readyM (m i:Nat) (a:Rw):Bool:=!hasBit m i && subB a.e m
def aloneM (m i:Nat):Nat → List Rw → Bool
 | _,[]=>true
 | j,b :: t=>(readyM m j b == Nat.beq i j) && aloneM m i (j + 1) t
def noneM (m:Nat):Nat → List Rw → Bool
 | _,[]=>true
 | j,b :: t=>!readyM m j b && noneM m (j + 1) t
def seqM (T:List Rw):Nat → Nat → Nat → Bool
 | 0,_,m=>noneM m 0 T
 | g + 1,k,m=>Nat.ble (k + 1) T.length && aloneM m k 0 T && seqM T g (k + 1) (Nat.lor m (2 ^ k))
def schedM (n:Nat) (T:List Rw):List (Bool × Nat) → Nat → Bool
 | [],m=>seqM T (T.length - n) n m
 | (true,i) :: s,m=>Nat.ble (i + 1) n && (match T[i]? with | some a=>readyM m i a | none=>false) && schedM n T s (Nat.lor m (2 ^ i))
 | (false,i) :: s,m=>Nat.ble (i + 1) n && Nat.ble (i + 1) T.length && aloneM m i 0 T && schedM n T s (Nat.lor m (2 ^ i))
def orE:List Rw → Nat
 | []=>0
 | a :: t=>Nat.lor a.e (orE t)
def backM:Nat → List Rw → Bool
 | _,[]=>true
 | j,b :: t=>Nat.ble (b.e + 1) (2 ^ j) && backM (j + 1) t
def chainM (n:Nat):Nat → List Rw → Bool
 | _,[]=>true
 | t,b :: r=>(Nat.ble t n || hasBit b.e (t - 1)) && chainM n (t + 1) r
def regM (n:Nat) (T:List Rw) (s:List (Bool × Nat)):Bool :=
 Nat.ble (n + 1) T.length && backM 0 T && subB (2 ^ n - 1) (orE (T.take (n + 1))) && chainM n 0 T && apartM n T 0 T && schedM n T s 0
section
variable {md:Region.Mode} {ops:Array Oper}
structure InvM (k m:Nat) (listed:Array Bool):Prop where
 size:listed.size = k
 bit:∀ j,j < k → listed.getD j true = m.testBit j
 out:∀ j,k ≤ j → m.testBit j = false
theorem InvM.bit' {k m:Nat} {listed:Array Bool} (h:InvM k m listed) (j:Nat):listed.getD j false = m.testBit j:=by
 rcases Nat.lt_or_ge j k with hj | hj
 ·rw [← h.bit j hj]
  have:j < listed.size:=by rw [h.size];exact hj
  simp [this]
 ·rw [h.out j hj]
  have:listed.size ≤ j:=by rw [h.size];exact hj
  simp [Array.getElem?_eq_none this]
theorem InvM.start (k:Nat):InvM k 0 (Array.replicate k false):=⟨by simp,fun j hj=>by simp [hj],fun j _=>by simp⟩
theorem InvM.set {k m:Nat} {listed:Array Bool} (h:InvM k m listed) {i:Nat} (hi:i < k):InvM k (Nat.lor m (2 ^ i)) (listed.setIfInBounds i true):=by
 have e:∀ j,(Nat.lor m (2 ^ i)).testBit j = (m.testBit j || decide (i = j)):=fun j=>by
  show (m ||| 2 ^ i).testBit j = _
  rw [Nat.testBit_or,Nat.testBit_two_pow]
 refine ⟨by simp [h.size],fun j hj=>?_,fun j hj=>?_⟩
 ·rw [e]
  by_cases hij:i = j
  ·subst hij
   have:i < listed.size:=by rw [h.size];exact hi
   simp [this]
  ·have:=h.bit j hj
   simp only [hij,decide_false,Bool.or_false]
   rw [← this]
   simp [Array.getElem?_setIfInBounds_ne hij]
 ·rw [e,h.out j hj]
  have:¬ i = j:=by omega
  simp [this]
theorem tab_len:(tabOf md ops).length = ops.size:=by simp [tabOf]
theorem tab_get (j:Nat):(tabOf md ops)[j]? = (ops[j]?).map (rowOf md ops):=by simp [tabOf]
theorem row_e (o:Oper) (i:Nat):(rowOf md ops o).e.testBit i = true ↔ ∃ e ∈ o.after,Region.binds md e = true ∧ e.on = i:=by
 simp only [rowOf,maskL_test,List.contains_iff_mem,List.mem_map,List.mem_filter,Array.mem_toList_iff,and_assoc]
theorem row_d (o:Oper) (t:Nat):(rowOf md ops o).d.testBit t = true ↔ o.dst = some t:=by
 simp only [rowOf,maskL_test,List.contains_iff_mem]
 cases o.dst <;> simp [eq_comm]
theorem row_l (o:Oper) (t:Nat):(rowOf md ops o).l.testBit t = true ↔ t ∈ o.looksAt ops:=by
 simp only [rowOf,maskL_test,List.contains_iff_mem]
theorem readyM_iff {m:Nat} {listed:Array Bool} (h:InvM ops.size m listed) {j:Nat} {a:Rw} (ha:(tabOf md ops)[j]? = some a):readyM m j a = true ↔ j ∈ Region.ready md ops listed:=by
 rw [tab_get] at ha
 cases ho:ops[j]? with
 | none=>rw [ho] at ha;cases ha
 | some oj =>
  rw [ho] at ha
  simp only [Option.map_some,Option.some.injEq] at ha
  subst ha
  have hj:j < ops.size:=(Array.getElem?_eq_some_iff.1 ho).1
  rw [mem_ready]
  unfold readyM
  rw [Bool.and_eq_true,Bool.not_eq_true',hasBit_test,← h.bit j hj,subB_test]
  refine and_congr_right (fun _=>?_)
  constructor
  ·intro hs
   exact ⟨oj,ho,fun e he hb=>by rw [h.bit'];exact hs _ ((row_e oj e.on).2 ⟨e,he,hb,rfl⟩)⟩
  ·rintro ⟨o',ho',hall⟩ i hi
   rw [ho] at ho'
   injection ho' with ho'
   subst ho'
   obtain ⟨e,he,hb,rfl⟩:=(row_e oj i).1 hi
   rw [← h.bit'];exact hall e he hb
theorem aloneM_get {m i:Nat}:∀ (T:List Rw) (j:Nat),aloneM m i j T = true → ∀ (q:Nat) (a:Rw),T[q]? = some a → readyM m (j + q) a = Nat.beq i (j + q)
 | [],_,_,q,a,ha=>by simp at ha
 | b :: T,j,h,q,a,ha=>by
  simp only [aloneM,Bool.and_eq_true,beq_iff_eq] at h
  cases q with
  | zero=>simp at ha;subst ha;exact h.1
  | succ q =>
   have:=aloneM_get T (j + 1) h.2 q a (by simpa using ha)
   rw [show j + (q + 1) = j + 1 + q by omega];exact this
theorem noneM_get {m:Nat}:∀ (T:List Rw) (j:Nat),noneM m j T = true → ∀ (q:Nat) (a:Rw),T[q]? = some a → readyM m (j + q) a = false
 | [],_,_,q,a,ha=>by simp at ha
 | b :: T,j,h,q,a,ha=>by
  simp only [noneM,Bool.and_eq_true,Bool.not_eq_true'] at h
  cases q with
  | zero=>simp at ha;subst ha;exact h.1
  | succ q =>
   have:=noneM_get T (j + 1) h.2 q a (by simpa using ha)
   rw [show j + (q + 1) = j + 1 + q by omega];exact this
theorem filter_one (p:Nat → Bool) (i:Nat):∀ k,(∀ j,j < k → p j = decide (j = i)) → (List.range k).filter p = if i < k then [i] else []
 | 0,_=>by simp
 | k + 1,h=>by
  rw [List.range_succ,List.filter_append,filter_one p i k (fun j hj=>h j (by omega))]
  have hk:=h k (by omega)
  by_cases e:k = i
  ·subst e
   simp [hk]
  ·have:(i < k + 1) ↔ i < k:=by omega
   simp [hk,e,this]
theorem alone_ready {m i:Nat} {listed:Array Bool} (h:InvM ops.size m listed) (hi:i < ops.size) (ha:aloneM m i 0 (tabOf md ops) = true):Region.ready md ops listed = [i]:=by
 unfold Region.ready
 rw [filter_one _ i ops.size ?_,if_pos hi]
 intro j hj
 obtain ⟨a,hT⟩:∃ a,(tabOf md ops)[j]? = some a:=⟨_,List.getElem?_eq_getElem (by rw [tab_len];exact hj)⟩
 have h1:=aloneM_get _ 0 ha j a hT
 rw [Nat.zero_add] at h1
 have h2:=readyM_iff h hT
 have h3:j ∈ Region.ready md ops listed ↔ j = i:=by
  rw [← h2,h1,Nat.beq_eq]
  exact eq_comm
 unfold Region.ready at h3
 rw [List.mem_filter] at h3
 rw [Bool.eq_iff_iff,decide_eq_true_eq,← h3]
 simp [hj]
theorem none_ready {m:Nat} {listed:Array Bool} (h:InvM ops.size m listed) (ha:noneM m 0 (tabOf md ops) = true):Region.ready md ops listed = []:=by
 rw [List.eq_nil_iff_forall_not_mem]
 intro j hj
 obtain ⟨_,oj,hoj,_⟩:=mem_ready.1 hj
 have hjl:j < ops.size:=(Array.getElem?_eq_some_iff.1 hoj).1
 obtain ⟨a,hT⟩:∃ a,(tabOf md ops)[j]? = some a:=⟨_,List.getElem?_eq_getElem (by rw [tab_len];exact hjl)⟩
 have h1:=noneM_get _ 0 ha j a hT
 rw [Nat.zero_add] at h1
 have:=(readyM_iff h hT).2 hj
 rw [h1] at this;cases this
theorem seqM_sound:∀ (g k m:Nat) (listed:Array Bool),InvM ops.size m listed → seqM (tabOf md ops) g k m = true → Region.seqB md ops g k listed = true
 | 0,k,m,listed,h,hs=>by
  simp only [seqM] at hs
  simp only [Region.seqB,none_ready h hs];rfl
 | g + 1,k,m,listed,h,hs=>by
  simp only [seqM,Bool.and_eq_true,Nat.ble_eq] at hs
  have hk:k < ops.size:=by rw [← tab_len (md:=md)];omega
  simp only [Region.seqB,alone_ready h hk hs.1.2,decide_true,Bool.true_and]
  exact seqM_sound g (k + 1) _ _ (h.set hk) hs.2
theorem pairsM_get {i:Nat} {a:Rw}:∀ (T:List Rw) (j:Nat),pairsM i a j T = true → ∀ (q:Nat) (b:Rw),T[q]? = some b → i ≠ j + q → pairM i a (j + q) b = true
 | [],_,_,q,b,hb,_=>by simp at hb
 | c :: T,j,h,q,b,hb,hne=>by
  simp only [pairsM,Bool.and_eq_true,Bool.or_eq_true,Nat.beq_eq] at h
  cases q with
  | zero =>
   simp at hb;subst hb
   exact h.1.resolve_left hne
  | succ q =>
   have:=pairsM_get T (j + 1) h.2 q b (by simpa using hb) (by omega)
   rw [show j + (q + 1) = j + 1 + q by omega];exact this
theorem apartM_get {n:Nat} {U:List Rw}:∀ (T:List Rw) (i:Nat),apartM n U i T = true → ∀ (q:Nat) (a:Rw),T[q]? = some a → i + q < n → pairsM (i + q) a 0 U = true
 | [],_,_,q,a,ha,_=>by simp at ha
 | c :: T,i,h,q,a,ha,hl=>by
  simp only [apartM,Bool.and_eq_true,Bool.or_eq_true,Nat.ble_eq] at h
  cases q with
  | zero =>
   simp at ha;subst ha
   exact h.1.resolve_left (by omega)
  | succ q =>
   have:=apartM_get T (i + 1) h.2 q a (by simpa using ha) (by omega)
   rw [show i + (q + 1) = i + 1 + q by omega];exact this
theorem free_of {n m i:Nat} {listed:Array Bool} (h:InvM ops.size m listed) (hn:i < n) (ha:apartM n (tabOf md ops) 0 (tabOf md ops) = true) (hr:i ∈ Region.ready md ops listed):Region.free md ops listed i = true:=by
 obtain ⟨_,oi,hoi,hall⟩:=mem_ready.1 hr
 unfold Region.free
 simp only [hoi,List.all_eq_true,List.mem_range,Bool.or_eq_true,beq_iff_eq]
 intro j hj
 by_cases hji:j = i
 ·exact .inl (.inl hji)
 ·by_cases hun:listed.getD j true = true
  ·exact .inl (.inr hun)
  ·right
   obtain ⟨oj,hoj⟩:∃ oj,ops[j]? = some oj:=⟨_,Array.getElem?_eq_getElem hj⟩
   rw [hoj]
   simp only [Bool.or_eq_true]
   have hTi:(tabOf md ops)[i]? = some (rowOf md ops oi):=by rw [tab_get,hoi];rfl
   have hTj:(tabOf md ops)[j]? = some (rowOf md ops oj):=by rw [tab_get,hoj];rfl
   have h1:=apartM_get _ 0 ha i _ hTi (by omega)
   rw [Nat.zero_add] at h1
   have h2:=pairsM_get _ 0 h1 j _ hTj (by omega)
   rw [Nat.zero_add] at h2
   simp only [pairM,Bool.or_eq_true,hasBit_test,Nat.beq_eq] at h2
   rcases h2 with (h2 | h2) | h2
   ·left
    obtain ⟨e,he,hb,hon⟩:=(row_e oj i).1 h2
    rw [Array.any_eq_true']
    exact ⟨e,he,by simp [hb,hon]⟩
   ·exfalso
    obtain ⟨e,he,hb,hon⟩:=(row_e oi j).1 h2
    have:=hall e he hb
    rw [hon,h.bit',← h.bit j hj] at this
    exact hun this
   ·right
    obtain ⟨h3,h4⟩:=lor_zero h2
    have e3:∀ d,oi.dst = some d → d ∉ oj.looksAt ops ∧ oj.dst ≠ some d:=by
     intro d hd
     have hd':=(row_d (md:=md) (ops:=ops) oi d).2 hd
     have:=land_zero h3 d
     have e:(Nat.lor (rowOf md ops oj).l (rowOf md ops oj).d).testBit d = ((rowOf md ops oj).l.testBit d || (rowOf md ops oj).d.testBit d):=Nat.testBit_or _ _ _
     rw [e] at this
     refine ⟨fun hl=>this ⟨hd',by rw [(row_l oj d).2 hl];rfl⟩,fun hd2=>this ⟨hd',by rw [(row_d oj d).2 hd2,Bool.or_true]⟩⟩
    have e4:∀ d,oj.dst = some d → d ∉ oi.looksAt ops:=by
     intro d hd hl
     exact land_zero h4 d ⟨(row_d oj d).2 hd,(row_l oi d).2 hl⟩
    unfold Oper.apart
    rw [Bool.and_eq_true]
    constructor
    ·cases hd:oi.dst with
     | none=>rfl
     | some d =>
      have:=e3 d hd
      simp only [Bool.and_eq_true,Bool.not_eq_true',bne_iff_ne,ne_eq]
      exact ⟨by simpa using this.1,this.2⟩
    ·cases hd:oj.dst with
     | none=>rfl
     | some d =>
      have:=e4 d hd
      simpa using this
theorem schedM_sound {n:Nat} (ha:apartM n (tabOf md ops) 0 (tabOf md ops) = true) (hn:n < ops.size):∀ (s:List (Bool × Nat)) (m:Nat) (listed:Array Bool),InvM ops.size m listed → schedM n (tabOf md ops) s m = true → schedB md ops n s listed = true
 | [],m,listed,h,hs=>by
  simp only [schedM] at hs
  rw [tab_len] at hs
  exact seqM_sound _ _ _ _ h hs
 | (true,i) :: s,m,listed,h,hs=>by
  simp only [schedM,Bool.and_eq_true,Nat.ble_eq] at hs
  have hin:i < n:=by omega
  obtain ⟨a,hT⟩:∃ a,(tabOf md ops)[i]? = some a:=⟨_,List.getElem?_eq_getElem (by rw [tab_len];omega)⟩
  rw [hT] at hs
  have hr:=(readyM_iff h hT).1 hs.1.2
  simp only [schedB,Bool.and_eq_true,decide_eq_true_eq]
  exact ⟨⟨⟨hin,free_of h hin ha hr⟩,by simpa using hr⟩,schedM_sound ha hn s _ _ (h.set (by omega)) hs.2⟩
 | (false,i) :: s,m,listed,h,hs=>by
  simp only [schedM,Bool.and_eq_true,Nat.ble_eq] at hs
  have hin:i < n:=by omega
  simp only [schedB,Bool.and_eq_true,decide_eq_true_eq]
  exact ⟨⟨hin,alone_ready h (by omega) hs.1.2⟩,schedM_sound ha hn s _ _ (h.set (by omega)) hs.2⟩
theorem backM_get:∀ (T:List Rw) (j:Nat),backM j T = true → ∀ (q:Nat) (b:Rw),T[q]? = some b → b.e < 2 ^ (j + q)
 | [],_,_,q,b,hb=>by simp at hb
 | c :: T,j,h,q,b,hb=>by
  simp only [backM,Bool.and_eq_true,Nat.ble_eq] at h
  cases q with
  | zero=>simp at hb;subst hb;exact h.1
  | succ q =>
   have:=backM_get T (j + 1) h.2 q b (by simpa using hb)
   rw [show j + (q + 1) = j + 1 + q by omega];exact this
theorem orE_get {i:Nat}:∀ (T:List Rw),(orE T).testBit i = true → ∃ (q:Nat) (b:Rw),T[q]? = some b ∧ b.e.testBit i = true
 | [],h=>by simp [orE] at h
 | c :: T,h=>by
  have e:(Nat.lor c.e (orE T)).testBit i = (c.e.testBit i || (orE T).testBit i):=Nat.testBit_or _ _ _
  rw [orE,e,Bool.or_eq_true] at h
  rcases h with h | h
  ·exact ⟨0,c,rfl,h⟩
  ·obtain ⟨q,b,h1,h2⟩:=orE_get T h
   exact ⟨q + 1,b,by simpa using h1,h2⟩
theorem chainM_get {n:Nat}:∀ (T:List Rw) (t:Nat),chainM n t T = true → ∀ (q:Nat) (b:Rw),T[q]? = some b → ¬ t + q ≤ n → b.e.testBit (t + q - 1) = true
 | [],_,_,q,b,hb,_=>by simp at hb
 | c :: T,t,h,q,b,hb,hl=>by
  simp only [chainM,Bool.and_eq_true,Bool.or_eq_true,Nat.ble_eq,hasBit_test] at h
  cases q with
  | zero=>simp at hb;subst hb;exact h.1.resolve_left (by omega)
  | succ q =>
   have:=chainM_get T (t + 1) h.2 q b (by simpa using hb) (by omega)
   rw [show t + (q + 1) = t + 1 + q by omega];exact this
theorem waits_of {j i:Nat} {oj:Oper} (hj:ops[j]? = some oj) (h:(rowOf md ops oj).e.testBit i = true):Region.waitsFor md ops j i = true:=by
 obtain ⟨e,he,hb,hon⟩:=(row_e oj i).1 h
 unfold Region.waitsFor
 rw [hj]
 simp only
 rw [Array.any_eq_true']
 exact ⟨e,he,by simp [hb,hon]⟩
theorem regM_sound {n:Nat} {T:List Rw} {s:List (Bool × Nat)} (hT:tabOf md ops = T) (hn:Region.noSelect ops = true) (h:regM n T s = true):regB md ops n = true ∧ schedB md ops n s (Array.replicate ops.size false) = true:=by
 subst hT
 simp only [regM,Bool.and_eq_true,Nat.ble_eq] at h
 obtain ⟨⟨⟨⟨⟨h1,h2⟩,h3⟩,h4⟩,h5⟩,h6⟩:=h
 rw [tab_len] at h1
 have hns:n < ops.size:=by omega
 have get:∀ (q:Nat) (b:Rw),(tabOf md ops)[q]? = some b → ∃ o:Oper,ops[q]? = some o ∧ b = rowOf md ops o:=by
  intro q b hb
  rw [tab_get] at hb
  cases ho:ops[q]? with
  | none=>rw [ho] at hb;cases hb
  | some o=>rw [ho] at hb;simp at hb;exact ⟨o,rfl,hb.symm⟩
 refine ⟨?_,schedM_sound h5 hns s 0 _ (InvM.start _) h6⟩
 simp only [regB,Bool.and_eq_true,decide_eq_true_eq]
 refine ⟨⟨⟨hn,hns⟩,?_⟩,?_⟩
 ·unfold Region.sinkB
  rw [List.all_eq_true]
  intro i hi
  rw [List.mem_range] at hi
  have hb:(2 ^ n - 1).testBit i = true:=by rw [Nat.testBit_two_pow_sub_one];simpa using hi
  obtain ⟨q,b,hq,he⟩:=orE_get _ (subB_test.1 h3 i hb)
  rw [List.getElem?_take] at hq
  split at hq
  ·rename_i hqn
   obtain ⟨o,ho,rfl⟩:=get q b hq
   have hlt:=backM_get _ 0 h2 q _ hq
   rw [Nat.zero_add] at hlt
   have hiq:i < q:=by
    rcases Nat.lt_or_ge i q with h | h
    ·exact h
    ·have:=Nat.testBit_lt_two_pow (Nat.lt_of_lt_of_le hlt (Nat.pow_le_pow_right (by decide) h))
     rw [this] at he;cases he
   rw [List.any_eq_true]
   exact ⟨q,List.mem_range.2 hqn,by simp [hiq,waits_of ho he]⟩
  ·cases hq
 ·unfold Region.chainB
  rw [List.all_eq_true]
  intro t ht
  rw [List.mem_range] at ht
  rw [Bool.or_eq_true,decide_eq_true_eq]
  by_cases htn:t ≤ n
  ·exact .inl htn
  ·right
   obtain ⟨b,hb⟩:∃ b,(tabOf md ops)[t]? = some b:=⟨_,List.getElem?_eq_getElem (by rw [tab_len];exact ht)⟩
   obtain ⟨o,ho,rfl⟩:=get t b hb
   have:=chainM_get _ 0 h4 t _ hb (by omega)
   rw [Nat.zero_add] at this
   exact waits_of ho this
end
theorem wp_region_M {P:Program} {Q:Exit → Act → World → Prop} {id:Nat} {a:Act} {w:World} {l:List Oper} (n k:Nat) (T:List Rw) (s:List (Bool × Nat)) (F:World → Prop) (hm:P.follows .mixedOrders = true) (hk:l.length = k)
  (hT:tabOf .any l.toArray = T) (hn:Region.noSelect l.toArray = true) (hB:regM n T s = true) (hF:F w.drew)
  (h:RegS .any l.toArray n (Array.replicate k false) s → F w.drew → wpAnyN P .any l.toArray Q F n k (Array.replicate k false) a w.drew):(Code.region id l.toArray true).wp P Q a w:=by
 obtain ⟨h1,h2⟩:=regM_sound hT hn hB
 refine wp_region_S n k s F hm hk ?_ hF h
 rw [h1]
 subst hk
 simpa using h2
end Go.Proofs.Ytahllkifmmjbdaa
