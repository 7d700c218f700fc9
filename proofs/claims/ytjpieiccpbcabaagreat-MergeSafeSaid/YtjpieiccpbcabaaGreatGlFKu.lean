/- Contract: pollardlaw12.few. (ex_ldO_at) -/
import Derived.Test.YtjpieiccpbcabaaGreatGlPKu
import Derived.Test.YtjpieiccpbcabaaGreatGlSKu
set_option linter.unusedVariables false
set_option linter.unusedSimpArgs false
namespace Go.Proofs.YtjpieiccpbcabaaGreat
open Go.RowKit Go.Sort
attribute [local go_sem] Oper.semAt_some
theorem GvS.offC {base:Nat} {w:World} {b:Nat} {t:TrW} {L:List Opn} (h:GvS base w b t L) {g:Nat} {cur:Array Value} {e:TypeId} {z:Nat × Nat} (hg:w.heap[g]? = some (.cells cur e z)) (h1:e ≠ 155) (h2:e ≠ 177):¬ trM b t g:=by
 rintro (rfl | rfl | h3)
 ·have hh:w.heap[g]? = some (.cells (trL t).toArray 155 (0,0)):=h.tr
  rw [hh] at hg
  injection hg with hg
  injection hg with _ hg _
  exact h1 hg.symm
 ·obtain ⟨_,hm,_⟩:=h.rows
  obtain ⟨es,c,h4⟩:=mpT_blk hm
  rw [h4] at hg;cases hg
 ·obtain ⟨ds,_,hd,_⟩:=h.log
  obtain ⟨_,cur',z',h4⟩:=own_blk hd h3
  rw [h4] at hg
  injection hg with hg
  injection hg with _ hg _
  exact h2 hg.symm
theorem GvS.own {base base':Nat} {w w':World} {b:Nat} {t:TrW} {L:List Opn} (h:GvS base w b t L) (f:Fr (trM b t) w w') {e:TypeId} {size n c:Nat} {A:Option Addr} {xs:List Value} (ho:w.ownsRow base' e size (.slice A n c) n xs) (h1:e ≠ 155) (h2:e ≠ 177):w'.ownsRow base' e size (.slice A n c) n xs :=
 own_fr ho f (fun g hg hm=>by
  rw [ownBlock_sl'] at hg
  obtain ⟨_,cur,z,h4⟩:=own_blk ho hg
  exact h.offC h4 h1 h2 hm)
end Go.Proofs.YtjpieiccpbcabaaGreat
