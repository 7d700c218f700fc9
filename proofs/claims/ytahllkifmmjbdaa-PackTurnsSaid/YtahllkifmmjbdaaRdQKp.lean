/- Plain: what is put is read again; a reader takes the same of longer bytes. -/
import Derived.Test.YtahllkifmmjbdaaDagQKp
import Derived.Test.YtahllkifmmjbdaaNumWKp
set_option linter.unusedVariables false
set_option linter.unusedSimpArgs false
namespace Go.Proofs.Ytahllkifmmjbdaa
structure Ext {α:Type} (f:RS → α × RS):Prop where
 ext:∀ s t e,(f (s,false)).2 = (t,false) → f (s ++ e,false) = ((f (s,false)).1,(t ++ e,false))
 go:∀ s,s.2 = true → (f s).2.2 = true
theorem Ext.take (n:Nat):Ext (rdTake n):=by
 refine ⟨fun s t e h=>?_,fun s h=>?_⟩
 ·unfold rdTake at *
  simp only [Bool.false_eq_true,false_or] at *
  split at h
  ·simp at h
  ·rename_i h1
   have h2:¬ (s ++ e).length < n:=by rw [List.length_append];omega
   rw [if_neg h2,if_neg h1]
   simp only [Prod.mk.injEq,and_true] at h ⊢
   subst h
   rw [List.take_append_of_le_length (by omega),List.drop_append_of_le_length (by omega)]
   exact ⟨rfl,rfl⟩
 ·unfold rdTake
  rw [if_pos (.inl h)]
theorem Ext.bind {α β:Type} {f:RS → α × RS} {g:α → RS → β × RS} (hf:Ext f) (hg:∀ a,Ext (g a)):Ext (fun s=>g (f s).1 (f s).2):=by
 refine ⟨fun s t e h=>?_,fun s h=>(hg _).go _ (hf.go _ h)⟩
 try dsimp only at h ⊢
 cases hb:(f (s,false)).2.2 with
 | true =>
  have:=(hg (f (s,false)).1).go _ hb
  rw [h] at this;cases this
 | false =>
  obtain ⟨r,hr⟩:∃ r,(f (s,false)).2 = (r,false):=⟨(f (s,false)).2.1,Prod.ext rfl hb⟩
  rw [hf.ext s r e hr]
  rw [hr] at h
  rw [hr]
  exact (hg _).ext r t e h
theorem Ext.pure {α β:Type} {f:RS → α × RS} (hf:Ext f) (k:α → β):Ext (fun s=>(k (f s).1,(f s).2)):=by
 refine ⟨fun s t e h=>?_,fun s h=>hf.go _ h⟩
 simp only at h
 rw [hf.ext s t e h]
theorem Ext.congr {α:Type} {f g:RS → α × RS} (hf:Ext f) (h:∀ s,g s = f s):Ext g:=by
 have:f = g:=funext fun s=>(h s).symm
 rw [← this];exact hf
theorem Ext.ret {α:Type} (a:α):Ext (fun s:RS=>(a,s)):=by
 refine ⟨fun s t e h=>?_,fun s h=>h⟩
 simp only [Prod.mk.injEq,and_true] at h ⊢
 rw [h];exact ⟨trivial,rfl⟩
theorem Ext.all {α:Type} {f:RS → α × RS} (hf:Ext f) (n:Nat):Ext (rdAll f n):=by
 induction n with
 | zero=>exact (Ext.ret ([]:List α)).congr fun s=>rfl
 | succ n ih=>exact (hf.bind (g:=fun a s=>(a :: (rdAll f n s).1,(rdAll f n s).2)) fun a=>ih.pure fun l=>a :: l).congr fun s=>rfl
def whole {α:Type} (f:RS → α × RS) (k:UInt8) (p:α → Bool) (b:List UInt8):Option α :=
 if (f (openR b k)).2 = ([],false) ∧ p (f (openR b k)).1 = true then some (f (openR b k)).1 else none
/-! what is put is read -/
def Rt {α:Type} (f:RS → α × RS) (b:α → List UInt8) (x:α):Prop:=∀ e,f (b x ++ e,false) = (x,(e,false))
theorem Rt.all {α:Type} {f:RS → α × RS} {b:α → List UInt8}:∀ {l:List α},(∀ x ∈ l,Rt f b x) → ∀ e,rdAll f l.length (l.flatMap b ++ e,false) = (l,(e,false))
 | [],_,e=>rfl
 | x :: l,h,e=>by
  simp only [List.length_cons,rdAll,List.flatMap_cons,List.append_assoc]
  rw [h x (by simp)]
  dsimp only
  rw [Rt.all (fun y hy=>h y (by simp [hy])) e]
end Go.Proofs.Ytahllkifmmjbdaa
