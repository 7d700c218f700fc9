/- Plain: numbers read back; steps of a delta put together. Plain: what delta.Make makes, and that the target comes out of it. -/
import Derived.Test.YtahllkifmmjbdaaDeltaPKp
import Derived.Test.YtahllkifmmjbdaaNumWKp
import Derived.Test.YtahllkifmmjbdaaLongestKp
set_option linter.unusedVariables false
set_option linter.unusedSimpArgs false
namespace Go.Proofs.Ytahllkifmmjbdaa
def plcN (base:List UInt8):Nat → SKey → List Nat
 | 0=>fun _=>[]
 | n + 1=>if (plcN base n (keyAt base (4 * n))).length < 4 then pushG (plcN base n) (keyAt base (4 * n)) (4 * n) else plcN base n
theorem plcN_ok (base:List UInt8):∀ (n:Nat),4 * n ≤ base.length + 0 → (n = 0 ∨ 4 * (n - 1) + 8 ≤ base.length) → ∀ k,(plcN base n k).length ≤ 4 ∧ ∀ x ∈ plcN base n k,x + 8 ≤ base.length ∧ (base.drop x).take 8 = k.1:=by
 intro n
 induction n with
 | zero=>intro _ _ k;simp [plcN]
 | succ n ih =>
  intro hn hlast k
  have hl:4 * n + 8 ≤ base.length:=by rcases hlast with h | h <;> omega
  have ih':=ih (by omega) (by omega)
  unfold plcN
  split
  ·rename_i hlt
   unfold pushG
   split
   ·rename_i hk
    subst hk
    refine ⟨by simp;omega,fun x hx=>?_⟩
    simp only [List.mem_append,List.mem_singleton] at hx
    rcases hx with hx | rfl
    ·exact (ih' _).2 x hx
    ·exact ⟨hl,rfl⟩
   ·exact ih' k
  ·exact ih' k
theorem cpl_take (l m:List UInt8):l.take (cpl l m) = m.take (cpl l m):=by
 induction l generalizing m with
 | nil=>simp [cpl]
 | cons a l ih =>
  cases m with
  | nil=>simp [cpl]
  | cons b m =>
   unfold cpl
   split
   ·rename_i h;subst h;simp [ih m]
   ·simp
def Piece (base target:List UInt8) (at_:Nat) (s:Nat × Nat):Prop :=
 s = (0,0) ∨ (8 ≤ s.2 ∧ s.1 + s.2 ≤ base.length ∧ at_ + s.2 ≤ target.length ∧ (base.drop s.1).take s.2 = (target.drop at_).take s.2)
theorem piece_F (base target:List UInt8) (at_:Nat) (s:Nat × Nat) (p:Nat) (hs:Piece base target at_ s) (hp:p + 8 ≤ base.length) (ha:at_ + 8 ≤ target.length) (hw:(base.drop p).take 8 = (target.drop at_).take 8) :
  Piece base target at_ (lgF base target at_ s p):=by
 unfold lgF
 split
 ·right
  have hc:=cpl_le (base.drop (p + 8)) (target.drop (at_ + 8))
  simp only [List.length_drop] at hc
  refine ⟨by simp only;omega,by simp only;omega,by simp only;omega,?_⟩
  simp only
  rw [List.take_add,List.take_add,hw,List.drop_drop,List.drop_drop,cpl_take]
 ·exact hs
theorem piece_L (base target:List UInt8) (at_:Nat) (ha:at_ + 8 ≤ target.length):∀ (ps:List Nat) (s:Nat × Nat),Piece base target at_ s → (∀ x ∈ ps,x + 8 ≤ base.length ∧ (base.drop x).take 8 = (target.drop at_).take 8) →
  Piece base target at_ (ps.foldl (lgF base target at_) s):=by
 intro ps
 induction ps with
 | nil=>intro s hs _;exact hs
 | cons p ps ih =>
  intro s hs hall
  exact ih _ (piece_F base target at_ s p hs (hall p (by simp)).1 ha (hall p (by simp)).2) (fun x hx=>hall x (by simp [hx]))
def lg (base target:List UInt8) (g:SKey → List Nat) (at_:Nat):Nat × Nat:=if target.length < at_ + 8 then (0,0) else lgL base target at_ (g (keyAt target at_))
theorem lg_piece (base target:List UInt8) (g:SKey → List Nat) (at_:Nat) (hg:∀ k,∀ x ∈ g k,x + 8 ≤ base.length ∧ (base.drop x).take 8 = k.1):Piece base target at_ (lg base target g at_):=by
 unfold lg
 split
 ·exact .inl rfl
 ·exact piece_L base target at_ (by omega) _ _ (.inl rfl) (fun x hx=>hg _ x hx)
def flushF (target out:List UInt8) (own at_:Nat):List UInt8:=if own < at_ then out ++ numB (2 * (at_ - own)) ++ (target.drop own).take (at_ - own) else out
def mkLd (base target:List UInt8) (g:SKey → List Nat):Nat → Nat → Nat → List UInt8 → List UInt8 × Nat
 | 0,_,own,out=>(out,own)
 | f + 1,at_,own,out =>
  if at_ < target.length then
   if (lg base target g at_).2 = 0 then mkLd base target g f (at_ + 1) own out
   else mkLd base target g f (at_ + (lg base target g at_).2) (at_ + (lg base target g at_).2) (flushF target out own at_ ++ numB (2 * (lg base target g at_).2 + 1) ++ numB (lg base target g at_).1)
  else (out,own)
end Go.Proofs.Ytahllkifmmjbdaa
