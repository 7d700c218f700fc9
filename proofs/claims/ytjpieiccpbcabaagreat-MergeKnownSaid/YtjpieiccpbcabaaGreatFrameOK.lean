/- The frame of a law's proof over package obj's types: arguments of types api.Stamp, api.Head, api.Op, api.Item, api.Change, api.Label and slices of them, opened. -/
import Derived.Test.YtjpieiccpbcabaaGreatRows
import Derived.Test.YtjpieiccpbcabaaGreatRdCK
import Derived.WalkKit
import Derived.ProofKit
import Derived.OpenShut
import Derived.ShutString
import Derived.ChangeOld
import Derived.Below
import Derived.SizedLaws
import Derived.Deep.Slices
namespace Go.Proofs.YtjpieiccpbcabaaGreat
open Go.ChangeShapes Go.WideShapes Go.ChangeAt Go.RowKit Go.Deep
set_option linter.unusedVariables false

theorem own:ownKnob Tryz.prog.godebug = none:=by kernel_rfl
theorem laidOut:laidOutB Tryz.prog = true:=by kernel_rfl
theorem list_of_all {α:Type} {Q:Nat → α → Prop} (n:Nat) (h:∀ i,i < n → ∃ p,Q i p):∃ ps:List α,ps.length = n ∧ ∀ i (hi:i < ps.length),Q i ps[i]:=by
 induction n with
 | zero=>exact ⟨[],rfl,fun i hi=>by simp at hi⟩
 | succ n ih =>
  obtain ⟨ps,hl,hq⟩:=ih (fun i hi=>h i (by omega))
  obtain ⟨p,hp⟩:=h n (by omega)
  refine ⟨ps ++ [p],by simp [hl],fun i hi=>?_⟩
  by_cases hi':i < ps.length
  ·rw [List.getElem_append_left hi'];exact hq i hi'
  ·have:i = ps.length:=by simp at hi;omega
   subst this
   simp only [List.getElem_append_right (Nat.le_refl _),Nat.sub_self,List.getElem_cons_zero]
   rw [hl];exact hp
section
variable {H:Type} {enc:TypeId × Value → H} {W:World}
def Td (enc:TypeId × Value → H) (W:World) (fuel:Nat) (t:TypeId) (cs:List Value) (x:DataW H × List MemPlace):Prop :=
 DataW.trod enc Tryz.prog W 0 (fun _=>true) true fuel t cs = some x ∧ ∀ n ∈ x.1.weights Tryz.prog t,n ≤ reachBytes
theorem wAll_mem {e:TypeId} {d:DataW H} {l:List (DataW H)} (hd:d ∈ l) {n:Nat} (hn:n ∈ d.weights Tryz.prog e):n ∈ DataW.weightsAll Tryz.prog e l:=by
 induction l with
 | nil=>simp at hd
 | cons y l ih =>
  simp only [DataW.weightsAll,List.mem_append]
  rcases List.mem_cons.1 hd with rfl | h
  ·exact .inl hn
  ·exact .inr (ih h)
set_option maxRecDepth 100000 in
theorem td_slk {α:Type} (C:Cod α) {R:α → Prop} {ts:TypeId} (hts:Tryz.prog.underlying ts = some (.slice C.t)) (hC:Tryz.prog.cellsOf C.t = C.n) {k:Nat} (hk:1 ≤ k) (hB:k ≤ Tryz.prog.bytesOf C.t)
  (hel:∀ n cs x,Td enc W n C.t cs x → ∃ a,cs = C.cs a ∧ R a) {fuel:Nat} {cs:List Value} {x:DataW H × List MemPlace} (h:Td enc W fuel ts cs x) :
  ∃ (B:Option Addr) (xs:List α) (c:Nat),cs = [.slice B xs.length c] ∧ Sl W B (C.row xs) ∧ xs.length * k ≤ 140737488355328 ∧ xs.length ≤ c ∧ ∀ i (hi:i < xs.length),R xs[i]:=by
 obtain ⟨h,hw⟩:=h
 rcases open_slice hts h with ⟨hcs,_⟩ | ⟨a,l,c,m,n,D,Pl,hcs,_,hl,hm,hmm,rfl,hall⟩
 ·exact ⟨none,[],0,hcs,Sl.nil _ _,by simp,by simp,fun i hi=>by simp at hi⟩
 ·simp only [if_true] at hmm
  subst hmm
  simp only [DataW.weights,hts] at hw
  have hwl:l * k ≤ 140737488355328:=by
   have h1:=hw _ (List.mem_cons_self ..)
   simp only [List.length_map,List.length_range,reachBytes] at h1
   have h2:=Nat.mul_le_mul_left (l + (m - l)) hB
   have h3:=Nat.mul_le_mul_right k (show l ≤ l + (m - l) by omega)
   omega
  rw [hC] at hall
  have hp:∀ i,i < l → ∃ y:α,(∀ j (v:Value),(C.cs y)[j]? = some v → W.cell? ((a.add (i * C.n)).add j) = some v) ∧ R y:=by
   intro i hi
   obtain ⟨cs',hc,ht⟩:=hall i (by omega)
   obtain ⟨_,hcl,hat⟩:=World.cells?_some hc
   obtain ⟨y,rfl,hr⟩:=hel _ _ _ ⟨ht,fun k hk=>hw k (List.mem_cons_of_mem _ (List.mem_append_left _ (wAll_mem (List.mem_map.2 ⟨i,List.mem_range.2 hi,rfl⟩) hk)))⟩
   refine ⟨y,fun j v hv=>?_,hr⟩
   have hj:j < C.n:=by have:=(List.getElem?_eq_some_iff.1 hv).1;rw [C.len] at this;exact this
   exact (hat j hj).trans hv
  obtain ⟨ps,hpl,hq⟩:=list_of_all l hp
  refine ⟨some a,ps,_,by rw [hpl];exact hcs,fun hne=>?_,by rw [hpl];exact hwl,by omega,fun i hi=>(hq i hi).2⟩
  obtain ⟨g,off,spot⟩:=a
  have hpos:0 < ps.length:=by
   rcases Nat.eq_zero_or_pos ps.length with h0 | h0
   ·have:ps = []:=List.eq_nil_of_length_eq_zero h0
    subst this;simp [Cod.row] at hne
   ·exact h0
  have hn:=C.pos
  have h00:=(hq 0 hpos).1 0 _ (List.getElem?_eq_getElem (by rw [C.len];exact hn))
  have hspot:spot = none:=by simpa [Addr.add] using World.cell?_spot h00
  subst hspot
  have hadd:∀ (o j:Nat),(⟨g,o,none⟩:Addr).add j = ⟨g,o + j,none⟩:=by intro o j;unfold Addr.add;split <;> simp_all
  refine ⟨g,off,rfl,World.block_lt_of_cell? _ _ (by rw [hadd,hadd] at h00;exact h00),fun j u hu=>?_⟩
  have hjl:j < ps.length * C.n:=by have:=(List.getElem?_eq_some_iff.1 hu).1;rw [Cod.row_len] at this;exact this
  have hi:j / C.n < ps.length:=Nat.div_lt_of_lt_mul (by rw [Nat.mul_comm];exact hjl)
  have hk:j % C.n < (C.cs ps[j / C.n]).length:=by rw [C.len];exact Nat.mod_lt _ hn
  have h1:=(hq (j / C.n) hi).1 (j % C.n) _ (List.getElem?_eq_getElem hk)
  have h2:=Cod.row_get ps (j / C.n) (j % C.n) hi _ (List.getElem?_eq_getElem hk)
  have hdm:j / C.n * C.n + j % C.n = j:=Nat.div_add_mod' j C.n
  rw [hdm] at h2
  rw [h2] at hu
  injection hu with hu
  rw [← hu]
  rw [hadd,hadd,Nat.add_assoc,hdm] at h1
  exact h1
theorem td_sl {α:Type} (C:Cod α) {R:α → Prop} {ts:TypeId} (hts:Tryz.prog.underlying ts = some (.slice C.t)) (hC:Tryz.prog.cellsOf C.t = C.n) (hB:1 ≤ Tryz.prog.bytesOf C.t)
  (hel:∀ n cs x,Td enc W n C.t cs x → ∃ a,cs = C.cs a ∧ R a) {fuel:Nat} {cs:List Value} {x:DataW H × List MemPlace} (h:Td enc W fuel ts cs x) :
  ∃ (B:Option Addr) (xs:List α) (c:Nat),cs = [.slice B xs.length c] ∧ Sl W B (C.row xs) ∧ xs.length ≤ 140737488355328 ∧ xs.length ≤ c ∧ ∀ i (hi:i < xs.length),R xs[i]:=by
 obtain ⟨B,xs,c,h1,h2,h3,h4⟩:=td_slk C hts hC (Nat.le_refl 1) hB hel h
 exact ⟨B,xs,c,h1,h2,by omega,h4⟩
/-! the types of package api -/
theorem wt_arg {ts:List TypeId} {ds:List (DataW H)} (h:(DataW.weightsEach Tryz.prog ts ds).all (· ≤ reachBytes) = true) {j:Nat} {t:TypeId} {d:DataW H} (ht:ts[j]? = some t) (hd:ds[j]? = some d):∀ n ∈ d.weights Tryz.prog t,n ≤ reachBytes:=fun n hn=>by
 simpa using List.all_eq_true.1 h n (DataW.weights_mem_each ht hd n hn)
/-! bytes -/
end
end Go.Proofs.YtjpieiccpbcabaaGreat
