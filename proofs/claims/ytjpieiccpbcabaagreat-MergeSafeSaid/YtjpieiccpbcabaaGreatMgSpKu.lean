/- Plain: what MergeSafe's loops say of a plan. -/
import Derived.Test.YtjpieiccpbcabaaGreatMgThPKu
set_option linter.unusedVariables false
set_option linter.unusedSimpArgs false
namespace Go.Proofs.YtjpieiccpbcabaaGreat
open Go.RowKit
def lastO (l:List Opn):St:=match l.getLast? with | some o=>o.At | none=>zSt
theorem lastO_take (l:List Opn) (k:Nat) (h:k < l.length):lastO (l.take (k + 1)) = l[k].At:=by
 unfold lastO
 rw [List.take_succ_eq_append_getElem h,List.getLast?_append]
 rfl
def sfO (base:List Opn) (o:Opn):Bool:=(base.any fun b=>decide (b.At = o.At)) || decide (0 < cmpS o.At (lastO base))
theorem all_take {α:Type} (p:α → Bool) (l:List α) (k:Nat) (h:k < l.length):(l.take (k + 1)).all p = ((l.take k).all p && p l[k]):=by
 rw [List.take_succ_eq_append_getElem h,List.all_append]
 simp only [List.all_cons,List.all_nil,Bool.and_true]
theorem safe_loop {base all:List Opn} (ha:SrtL all) (hg:∀ o ∈ all,goodOp o = true):safeO base all = all.all (sfO base):=by
 rw [Bool.eq_iff_iff,safe_iff ha,List.all_eq_true]
 unfold sfO lastO restO
 simp only [List.mem_filter,Bool.or_eq_true,decide_eq_true_eq,Bool.not_eq_true']
 constructor
 ·intro h o ho
  cases hb:base.any fun b=>decide (b.At = o.At) with
  | true=>exact .inl rfl
  | false =>
   right
   cases hl:base.getLast? with
   | none =>
    simp only
    have hr:=(goodOp_at (hg o ho)).1
    unfold rightS at hr
    simp only [Bool.and_eq_true,decide_eq_true_eq] at hr
    unfold cmpS zSt
    simp only
    rw [if_neg (by omega),if_pos (by omega)]
    decide
   | some b=>exact h b hl o ⟨ho,hb⟩
 ·intro h b hb o ho
  rcases h o ho.1 with h1 | h1
  ·rw [ho.2] at h1
   cases h1
  ·rw [hb] at h1
   exact h1
end Go.Proofs.YtjpieiccpbcabaaGreat
