/- Drawn regions with a schedule that parts where two operations may come up: one check by bit masks. -/
import Derived.Test.YtnkdnbjmhoegkaaGreatRegQKq
set_option linter.unusedVariables false
set_option linter.unusedSimpArgs false
namespace Go.Proofs.YtnkdnbjmhoegkaaGreat
open Go.RowKit
inductive Sch where
 | done:Sch
 | take:Nat → Sch → Sch
 | one:Nat → Sch → Sch
 | two:Nat → Nat → Sch → Sch → Sch
def twoM (m i j:Nat):Nat → List Rw → Bool
 | _,[]=>true
 | q,b :: t=>(readyM m q b == (Nat.beq i q || Nat.beq j q)) && twoM m i j (q + 1) t
def schT (n:Nat) (T:List Rw):Sch → Nat → Bool
 | .done,m=>seqM T (T.length - n) n m
 | .take i s,m=>Nat.ble (i + 1) n && (match T[i]? with | some a=>readyM m i a | none=>false) && schT n T s (Nat.lor m (2 ^ i))
 | .one i s,m=>Nat.ble (i + 1) n && Nat.ble (i + 1) T.length && aloneM m i 0 T && schT n T s (Nat.lor m (2 ^ i))
 | .two i j s t,m=>Nat.ble (i + 1) j && Nat.ble (j + 1) n && Nat.ble (j + 1) T.length && twoM m i j 0 T && schT n T s (Nat.lor m (2 ^ i)) && schT n T t (Nat.lor m (2 ^ j))
def regT (n:Nat) (T:List Rw) (s:Sch):Bool :=
 Nat.ble (n + 1) T.length && backM 0 T && subB (2 ^ n - 1) (orE (T.take (n + 1))) && chainM n 0 T && apartM n T 0 T && schT n T s 0
def schTB (md:Region.Mode) (ops:Array Oper) (n:Nat):Sch → Array Bool → Bool
 | .done,listed=>Region.seqB md ops (ops.size - n) n listed
 | .take i s,listed=>decide (i < n) && Region.free md ops listed i && (Region.ready md ops listed).contains i && schTB md ops n s (listed.setIfInBounds i true)
 | .one i s,listed=>decide (i < n) && decide (Region.ready md ops listed = [i]) && schTB md ops n s (listed.setIfInBounds i true)
 | .two i j s t,listed=>decide (i < n) && decide (j < n) && decide (Region.ready md ops listed = [i,j]) && schTB md ops n s (listed.setIfInBounds i true) && schTB md ops n t (listed.setIfInBounds j true)
section
variable {md:Region.Mode} {ops:Array Oper}
theorem twoM_get {m i j:Nat}:∀ (T:List Rw) (q0:Nat),twoM m i j q0 T = true → ∀ (q:Nat) (a:Rw),T[q]? = some a → readyM m (q0 + q) a = (Nat.beq i (q0 + q) || Nat.beq j (q0 + q))
 | [],_,_,q,a,ha=>by simp at ha
 | b :: T,q0,h,q,a,ha=>by
  simp only [twoM,Bool.and_eq_true,beq_iff_eq] at h
  cases q with
  | zero=>simp at ha;subst ha;exact h.1
  | succ q =>
   have:=twoM_get T (q0 + 1) h.2 q a (by simpa using ha)
   rw [show q0 + (q + 1) = q0 + 1 + q by omega];exact this
theorem filter_two (p:Nat → Bool) (i j:Nat) (hij:i < j):∀ k,(∀ q,q < k → p q = decide (q = i ∨ q = j)) → (List.range k).filter p = (if i < k then [i] else []) ++ (if j < k then [j] else [])
 | 0,_=>by simp
 | k + 1,h=>by
  rw [List.range_succ,List.filter_append,filter_two p i j hij k (fun q hq=>h q (by omega))]
  have hk:=h k (by omega)
  by_cases e:k = i
  ·subst e
   have h1:¬ j < k + 1:=by omega
   have h2:¬ j < k:=by omega
   simp [hk,h1,h2]
  ·by_cases e2:k = j
   ·subst e2
    have h1:i < k + 1:=by omega
    simp [hk,h1,hij]
   ·have h1:(i < k + 1) ↔ i < k:=by omega
    have h2:(j < k + 1) ↔ j < k:=by omega
    simp [hk,e,e2,h1,h2]
theorem two_ready {m i j:Nat} {listed:Array Bool} (h:InvM ops.size m listed) (hij:i < j) (hj:j < ops.size) (ha:twoM m i j 0 (tabOf md ops) = true):Region.ready md ops listed = [i,j]:=by
 unfold Region.ready
 rw [filter_two _ i j hij ops.size ?_,if_pos (by omega),if_pos hj];rfl
 intro q hq
 obtain ⟨a,hT⟩:∃ a,(tabOf md ops)[q]? = some a:=⟨_,List.getElem?_eq_getElem (by rw [tab_len];exact hq)⟩
 have h1:=twoM_get _ 0 ha q a hT
 rw [Nat.zero_add] at h1
 have h2:=readyM_iff h hT
 have h3:q ∈ Region.ready md ops listed ↔ (q = i ∨ q = j):=by
  rw [← h2,h1,Bool.or_eq_true,Nat.beq_eq,Nat.beq_eq]
  exact or_congr eq_comm eq_comm
 unfold Region.ready at h3
 rw [List.mem_filter] at h3
 rw [Bool.eq_iff_iff,decide_eq_true_eq,← h3]
 simp [hq]
theorem schT_sound {n:Nat} (ha:apartM n (tabOf md ops) 0 (tabOf md ops) = true) (hn:n < ops.size):∀ (s:Sch) (m:Nat) (listed:Array Bool),InvM ops.size m listed → schT n (tabOf md ops) s m = true → schTB md ops n s listed = true
 | .done,m,listed,h,hs=>by
  simp only [schT] at hs
  rw [tab_len] at hs
  exact seqM_sound _ _ _ _ h hs
 | .take i s,m,listed,h,hs=>by
  simp only [schT,Bool.and_eq_true,Nat.ble_eq] at hs
  have hin:i < n:=by omega
  obtain ⟨a,hT⟩:∃ a,(tabOf md ops)[i]? = some a:=⟨_,List.getElem?_eq_getElem (by rw [tab_len];omega)⟩
  rw [hT] at hs
  have hr:=(readyM_iff h hT).1 hs.1.2
  simp only [schTB,Bool.and_eq_true,decide_eq_true_eq]
  exact ⟨⟨⟨hin,free_of h hin ha hr⟩,by simpa using hr⟩,schT_sound ha hn s _ _ (h.set (by omega)) hs.2⟩
 | .one i s,m,listed,h,hs=>by
  simp only [schT,Bool.and_eq_true,Nat.ble_eq] at hs
  have hin:i < n:=by omega
  simp only [schTB,Bool.and_eq_true,decide_eq_true_eq]
  exact ⟨⟨hin,alone_ready h (by omega) hs.1.2⟩,schT_sound ha hn s _ _ (h.set (by omega)) hs.2⟩
 | .two i j s t,m,listed,h,hs=>by
  simp only [schT,Bool.and_eq_true,Nat.ble_eq] at hs
  obtain ⟨⟨⟨⟨⟨h1,h2⟩,h3⟩,h4⟩,h5⟩,h6⟩:=hs
  simp only [schTB,Bool.and_eq_true,decide_eq_true_eq]
  exact ⟨⟨⟨⟨by omega,by omega⟩,two_ready h (by omega) (by omega) h4⟩,schT_sound ha hn s _ _ (h.set (by omega)) h5⟩,schT_sound ha hn t _ _ (h.set (by omega)) h6⟩
theorem regT_sound {n:Nat} {T:List Rw} {s:Sch} (hT:tabOf md ops = T) (hn:Region.noSelect ops = true) (h:regT n T s = true):regB md ops n = true ∧ schTB md ops n s (Array.replicate ops.size false) = true:=by
 subst hT
 simp only [regT,Bool.and_eq_true,Nat.ble_eq] at h
 obtain ⟨⟨⟨⟨⟨h1,h2⟩,h3⟩,h4⟩,h5⟩,h6⟩:=h
 rw [tab_len] at h1
 have hns:n < ops.size:=by omega
 have get:∀ (q:Nat) (b:Rw),(tabOf md ops)[q]? = some b → ∃ o:Oper,ops[q]? = some o ∧ b = rowOf md ops o:=by
  intro q b hb
  rw [tab_get] at hb
  cases ho:ops[q]? with
  | none=>rw [ho] at hb;cases hb
  | some o=>rw [ho] at hb;simp at hb;exact ⟨o,rfl,hb.symm⟩
 refine ⟨?_,schT_sound h5 hns s 0 _ (InvM.start _) h6⟩
 simp only [regB,Bool.and_eq_true,decide_eq_true_eq]
 refine ⟨⟨⟨hn,hns⟩,?_⟩,?_⟩
 ·unfold Region.sinkB
  rw [List.all_eq_true]
  intro i hi
  rw [List.mem_range] at hi
  have hb:(2 ^ n - 1).testBit i = true:=by rw [Nat.testBit_two_pow_sub_one];simpa using hi
  obtain ⟨q,b,hq,he⟩:=orE_get _ (subB_test.1 h3 i hb)
  rw [List.getElem?_take] at hq
  split at hq
  ·rename_i hqn
   obtain ⟨o,ho,rfl⟩:=get q b hq
   have hlt:=backM_get _ 0 h2 q _ hq
   rw [Nat.zero_add] at hlt
   have hiq:i < q:=by
    rcases Nat.lt_or_ge i q with h | h
    ·exact h
    ·have:=Nat.testBit_lt_two_pow (Nat.lt_of_lt_of_le hlt (Nat.pow_le_pow_right (by decide) h))
     rw [this] at he;cases he
   rw [List.any_eq_true]
   exact ⟨q,List.mem_range.2 hqn,by simp [hiq,waits_of ho he]⟩
  ·cases hq
 ·unfold Region.chainB
  rw [List.all_eq_true]
  intro t ht
  rw [List.mem_range] at ht
  rw [Bool.or_eq_true,decide_eq_true_eq]
  by_cases htn:t ≤ n
  ·exact .inl htn
  ·right
   obtain ⟨b,hb⟩:∃ b,(tabOf md ops)[t]? = some b:=⟨_,List.getElem?_eq_getElem (by rw [tab_len];exact ht)⟩
   obtain ⟨o,ho,rfl⟩:=get t b hb
   have:=chainM_get _ 0 h4 t _ hb (by omega)
   rw [Nat.zero_add] at this
   exact waits_of ho this
end
section
variable {P:Program} {Q:Exit → Act → World → Prop} {F:World → Prop} {md:Region.Mode} {ops:Array Oper} {n:Nat}
structure RegT (md:Region.Mode) (ops:Array Oper) (n:Nat) (listed:Array Bool) (s:Sch):Prop where
 at_:RegAt md ops n listed
 b:schTB md ops n s listed = true
theorem wp_region_T {id:Nat} {a:Act} {w:World} {l:List Oper} (n k:Nat) (T:List Rw) (s:Sch) (F:World → Prop) (hm:P.follows .mixedOrders = true) (hk:l.length = k)
  (hT:tabOf .any l.toArray = T) (hn:Region.noSelect l.toArray = true) (hB:regT n T s = true) (hF:F w.drew)
  (h:RegT .any l.toArray n (Array.replicate k false) s → F w.drew → wpAnyN P .any l.toArray Q F n k (Array.replicate k false) a w.drew):(Code.region id l.toArray true).wp P Q a w:=by
 obtain ⟨h1,h2⟩:=regT_sound hT hn hB
 subst hk
 exact wp_region_any hm (wpAny_of_N _ _ _ _ (h ⟨RegAt.start h1,by simpa using h2⟩ hF))
theorem wpAnyT_take {i:Nat} {oi:Oper} {v:Value} {fuel:Nat} {listed:Array Bool} {s:Sch} {a:Act} {w:World} (hA:RegT md ops n listed (.take i s)) (hi:ops[i]? = some oi)
  (hQ:∀ c a w,Q (.panic c) (a.put oi.dst v) w → Q (.panic c) a w) (hy:YieldsIf P ops F oi v a) (hS:F w)
  (h:RegT md ops n (listed.setIfInBounds i true) s → wpAnyN P md ops Q F n fuel (listed.setIfInBounds i true) (a.put oi.dst v) w):wpAnyN P md ops Q F n (fuel + 1) listed a w:=by
 have hb:=hA.b
 simp only [schTB,Bool.and_eq_true,decide_eq_true_eq] at hb
 exact wpAnyN_take hA.at_ hi hb.1.1.1 hb.1.1.2 hb.1.2 hQ hy hS (fun hA'=>h ⟨hA',hb.2⟩)
theorem wpAnyT_one {i:Nat} {o:Oper} {fuel:Nat} {listed:Array Bool} {s:Sch} {a:Act} {w:World} (hA:RegT md ops n listed (.one i s)) (hi:ops[i]? = some o)
  (h:∀ K:Act → World → Prop,Hid (∀ a' w',F w' → (RegT md ops n (listed.setIfInBounds i true) s → wpAnyN P md ops Q F n fuel (listed.setIfInBounds i true) a' w') → K a' w') →
   if Region.wanted o (yielded ops a.tmps) = true then Oper.wp P o a w K Q else K (a.put o.dst undef) w):wpAnyN P md ops Q F n (fuel + 1) listed a w:=by
 have hb:=hA.b
 simp only [schTB,Bool.and_eq_true,decide_eq_true_eq] at hb
 refine wpAnyN_one hA.at_ hb.1.2 hb.1.1 hi (fun K hK=>h K ?_)
 exact Lib.hid (fun a' w' hF hW=>hK.out a' w' hF (fun hA'=>hW ⟨hA',hb.2⟩))
theorem wpAnyT_two {i j:Nat} {o p:Oper} {fuel:Nat} {listed:Array Bool} {s t:Sch} {a:Act} {w:World} (hA:RegT md ops n listed (.two i j s t)) (hi:ops[i]? = some o) (hj:ops[j]? = some p)
  (h:∀ K:Act → World → Prop,Hid (∀ a' w',F w' → (RegT md ops n (listed.setIfInBounds i true) s → wpAnyN P md ops Q F n fuel (listed.setIfInBounds i true) a' w') → K a' w') →
   if Region.wanted o (yielded ops a.tmps) = true then Oper.wp P o a w K Q else K (a.put o.dst undef) w)
  (h':∀ K:Act → World → Prop,Hid (∀ a' w',F w' → (RegT md ops n (listed.setIfInBounds j true) t → wpAnyN P md ops Q F n fuel (listed.setIfInBounds j true) a' w') → K a' w') →
   if Region.wanted p (yielded ops a.tmps) = true then Oper.wp P p a w K Q else K (a.put p.dst undef) w):wpAnyN P md ops Q F n (fuel + 1) listed a w:=by
 have hb:=hA.b
 simp only [schTB,Bool.and_eq_true,decide_eq_true_eq] at hb
 obtain ⟨⟨⟨⟨b1,b2⟩,b3⟩,b4⟩,b5⟩:=hb
 refine ⟨fun h0=>(by rw [b3] at h0;cases h0),fun q hq=>?_⟩
 have hq':q = i ∨ q = j:=by rw [b3] at hq;simpa using hq
 rcases hq' with rfl | rfl
 ·have hA':RegAt md ops n (listed.setIfInBounds q true):=⟨hA.at_.inv.set hq b1,hA.at_.b⟩
  have:=h (fun a' w'=>(q < n → F w') ∧ wpAnyN P md ops Q F n fuel (listed.setIfInBounds q true) a' w') (Lib.hid (fun a' w' hF hW=>⟨fun _=>hF,hW ⟨hA',b4⟩⟩))
  unfold wpOp
  simp only [hi]
  split
  ·rename_i hw;rw [if_pos hw] at this;exact .inl this
  ·rename_i hw;rw [if_neg hw] at this;exact this
 ·have hA':RegAt md ops n (listed.setIfInBounds q true):=⟨hA.at_.inv.set hq b2,hA.at_.b⟩
  have:=h' (fun a' w'=>(q < n → F w') ∧ wpAnyN P md ops Q F n fuel (listed.setIfInBounds q true) a' w') (Lib.hid (fun a' w' hF hW=>⟨fun _=>hF,hW ⟨hA',b5⟩⟩))
  unfold wpOp
  simp only [hj]
  split
  ·rename_i hw;rw [if_pos hw] at this;exact .inl this
  ·rename_i hw;rw [if_neg hw] at this;exact this
theorem wpAnyT_end {l:List Oper} {g:Nat} {listed:Array Bool} {a:Act} {w:World} (hA:RegT md l.toArray n listed .done) (hg:(l.drop n).length = g)
  (h:wpList P l.toArray Q (l.drop n) a w):wpAnyN P md l.toArray Q F n g listed a w:=by
 have hb:=hA.b
 simp only [schTB] at hb
 refine wpAnyN_end hg ?_ h
 rw [← hg,List.length_drop]
 simpa using hb
end
end Go.Proofs.YtnkdnbjmhoegkaaGreat
