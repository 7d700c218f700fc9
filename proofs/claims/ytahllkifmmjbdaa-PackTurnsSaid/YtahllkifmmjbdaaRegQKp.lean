/- Drawn regions (RegM): many reads of a schedule at once, each run by the kit's cheap step for quiet operations (a frame that is a variable). -/
import Derived.Test.YtahllkifmmjbdaaRegMKp
import Derived.BigQuiet
set_option linter.unusedVariables false
set_option linter.unusedSimpArgs false
namespace Go.Proofs.Ytahllkifmmjbdaa
open Go.RowKit
structure Wd (F:World → Prop) where
 w:World
 h:F w
theorem Wd.ne {F:World → Prop} {w:World} (h:F w):Nonempty (Wd F):=⟨⟨w,h⟩⟩
abbrev Wd.C (F:World → Prop):World → Prop:=fun w'=>∃ i:Wd F,w' = i.w
def isVal:Op → Bool
 | .move _ | .assign _ | .pick .. | .box .. | .build .. | .load .. | .binOp .. | .unOp .. | .convert .. | .makeInterface .. | .makeFunc .. | .slice .. | .fieldAddr .. | .field .. | .indexAddr .. | .index .. | .lookup .. | .extract ..=>true
 | .nilCheck _=>true
 | .call { callee:=.builtin .len,.. }=>true
 | .call { callee:=.builtin .cap,.. }=>true
 | _=>false
theorem val_pure {P:Program} {s:Sem Value} {w w':World} {n:Next} (h:(do pure (Next.value (← s)):Sem Next).run P w = .ok n w'):∃ u,n = .value u:=by
 rw [Sem.run_bind] at h
 cases hs:s.run P w with
 | ok x w2 =>
  rw [hs,Result.andThen_ok,Sem.run_pure] at h
  injection h with h _
  exact ⟨_,h.symm⟩
 | halt x w2=>rw [hs] at h;cases h
theorem then_inv {α β:Type} {r:Result α} {k:α → World → Result β} {x:β} {w':World} (h:r.andThen k = .ok x w'):∃ y w2,r = .ok y w2 ∧ k y w2 = .ok x w':=by
 cases r with
 | ok y w2=>exact ⟨y,w2,rfl,h⟩
 | halt y w2=>cases h
theorem run_isVal {P:Program} {ρ:Operand → Value} {o:Oper} (ho:isVal o.op = true) {w w':World} {n:Next} (h:(execOp ρ o).run P w = .ok n w'):∃ u,n = .value u:=by
 obtain ⟨d,op,t,p,f,g⟩:=o
 simp only at ho
 unfold execOp at h
 simp only at h
 cases op with
 | move x=>simp only [Sem.run_pure] at h;injection h with h _;exact ⟨_,h.symm⟩
 | assign x=>simp only [Sem.run_pure] at h;injection h with h _;exact ⟨_,h.symm⟩
 | pick c a b =>
  simp only [Sem.run_bind] at h
  cases hs:(asBool (ρ c)).run P w with
  | ok x w2=>rw [hs,Result.andThen_ok,Sem.run_pure] at h;injection h with h _;exact ⟨_,h.symm⟩
  | halt x w2=>rw [hs] at h;cases h
 | box e x=>exact val_pure h
 | build t ps=>exact val_pure h
 | load t a=>exact val_pure h
 | binOp b t x y z=>exact val_pure h
 | unOp b t x=>exact val_pure h
 | convert a b x=>exact val_pure h
 | makeInterface t x=>exact val_pure h
 | makeFunc f a b=>exact val_pure h
 | slice t x a b c=>exact val_pure h
 | fieldAddr s x k=>exact val_pure h
 | field t x k=>exact val_pure h
 | indexAddr t x k=>exact val_pure h
 | index t x k=>exact val_pure h
 | lookup t x k b=>exact val_pure h
 | extract x k=>exact val_pure h
 | nilCheck x =>
  simp only at h
  split at h
  ·simp [runtimePanic] at h
  ·simp [runtimePanic] at h
  ·simp [runtimePanic] at h
  ·split at h
   ·simp [runtimePanic] at h
   ·simp only [Sem.run_bind] at h
    obtain ⟨x1,w1,_,h⟩:=then_inv h
    obtain ⟨x2,w2,_,h⟩:=then_inv h
    split at h
    ·simp only [Sem.run_bind] at h
     obtain ⟨x3,w3,h3,h⟩:=then_inv h
     simp only [Sem.run_pure] at h;injection h with h _;exact ⟨_,h.symm⟩
    ·simp only [Sem.run_pure] at h;injection h with h _;exact ⟨_,h.symm⟩
   ·simp only [Sem.run_pure] at h;injection h with h _;exact ⟨_,h.symm⟩
  ·simp only [Sem.run_pure] at h;injection h with h _;exact ⟨_,h.symm⟩
 | call c =>
  obtain ⟨cal,args,ats⟩:=c
  cases cal with
  | builtin b =>
   cases b <;> simp only [isVal] at ho <;> first | (cases ho;done) | exact val_pure h
  | _=>simp [isVal] at ho
 | _=>simp [isVal] at ho
section
variable {P:Program} {ops:Array Oper} {Q:Exit → Act → World → Prop} {md:Region.Mode} {F:World → Prop} {n:Nat}
def wpTakes (P:Program) (ops:Array Oper) (C:World → Prop) (Q:Act → Prop):List Nat → Act → Prop
 | [],a=>Q a
 | i :: s,a=>∃ o,ops[i]? = some o ∧ isVal o.op = true ∧ if Region.wanted o (yielded ops a.tmps) then o.quiet P a C (wpTakes P ops C Q s) else wpTakes P ops C Q s (a.put o.dst undef)
theorem wpTakes_nil {C:World → Prop} {Q:Act → Prop} {a:Act} (h:Q a):wpTakes P ops C Q [] a:=h
theorem wpTakes_at {l:List Oper} {C:World → Prop} {Q:Act → Prop} {i:Nat} {s:List Nat} {o:Oper} {a:Act} (hi:l[i]? = some o) (hv:isVal o.op = true) (h:wpQuiet P l.toArray C (fun a'=>wpTakes P l.toArray C Q s a') [o] a):wpTakes P l.toArray C Q (i :: s) a:=⟨o,by rw [List.getElem?_toArray];exact hi,hv,h⟩
def setAll (listed:Array Bool):List Nat → Array Bool
 | []=>listed
 | i :: s=>setAll (listed.setIfInBounds i true) s
theorem wpAnyS_takes (hQ:∀ d v c a w,Q (.panic c) (a.put d v) w → Q (.panic c) a w) {s2:List (Bool × Nat)} {fuel:Nat} {w:World} (hF:F w):∀ (s1:List Nat) {listed:Array Bool} {a:Act},RegS md ops n listed (s1.map (fun i=>(true,i)) ++ s2) →
  wpTakes P ops (Wd.C F) (fun a'=>RegS md ops n (setAll listed s1) s2 → wpAnyN P md ops Q F n fuel (setAll listed s1) a' w) s1 a → wpAnyN P md ops Q F n (fuel + s1.length) listed a w
 | [],listed,a,hA,h=>h hA
 | i :: s,listed,a,hA,⟨o,hi,hv,h⟩=>by
  by_cases hw:Region.wanted o (yielded ops a.tmps) = true
  ·rw [if_pos hw] at h
   obtain ⟨v,h1,h2⟩:=h
   refine wpAnyS_take hA hi (hQ o.dst v) (Or.inl ⟨hw,fun wS hS=>?_⟩) hF (fun hA=>wpAnyS_takes hQ hF s hA h2)
   have h3:=h1 wS ⟨⟨wS,hS⟩,rfl⟩
   unfold Oper.quietAt at h3
   cases hr:(execOp a.eval o).run P wS with
   | ok x w2 =>
    rw [hr] at h3
    obtain ⟨u,rfl⟩:=run_isVal hv hr
    obtain ⟨rfl,rfl⟩:=h3
    rfl
   | halt x w2=>rw [hr] at h3;cases h3
  ·rw [if_neg hw] at h
   exact wpAnyS_take hA hi (hQ o.dst undef) (Or.inr ⟨by simpa using hw,rfl⟩) hF (fun hA=>wpAnyS_takes hQ hF s hA h)
end
end Go.Proofs.Ytahllkifmmjbdaa
