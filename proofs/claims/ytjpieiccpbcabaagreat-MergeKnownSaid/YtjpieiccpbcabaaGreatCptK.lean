/- Contract: obj.Kind. Contract: slices.Compact of IDs, in place. -/
import Derived.Test.YtjpieiccpbcabaaGreatRdCK
import Derived.Test.YtjpieiccpbcabaaGreatRdQK
import Derived.Lib.SliceRun
namespace Go.Proofs.YtjpieiccpbcabaaGreat
open Go.RowKit
set_option linter.unusedVariables false
set_option linter.unusedSimpArgs false

end Go.Proofs.YtjpieiccpbcabaaGreat
namespace Go.Proofs.YtjpieiccpbcabaaGreat
open Go.RowKit
set_option linter.unusedVariables false
set_option linter.unusedSimpArgs false

def RwI (w:World) (g:Nat) (l:List ID):Prop:=∃ cur:List Value,w.heap[g]? = some (.cells cur.toArray 24 (0,0)) ∧ cur.take (l.length * 32) = idc l
theorem RwI.own {w0 w:World} {A:Option Addr} {c:Nat} {l:List ID} (h:OwnC codI w0 w A c l) (h0:l ≠ []):∃ g,A = some ⟨g,0,none⟩ ∧ RwI w g l:=by
 rcases h.2 with ⟨hv,hn⟩ | ⟨g,cap,cur,hv,hb,hg,hnc,hm,hs,ht⟩
 ·exact absurd (List.length_eq_zero_iff.1 hn) h0
 ·injection hv with h1 h2 h3
  exact ⟨g,h1,cur.toList,(by rw [Array.toArray_toList];exact hg),ht⟩
end Go.Proofs.YtjpieiccpbcabaaGreat
namespace Go.Proofs.YtjpieiccpbcabaaGreat
open Go.RowKit Go.Maps
set_option linter.unusedVariables false
set_option linter.unusedSimpArgs false

end Go.Proofs.YtjpieiccpbcabaaGreat
