/- Walks: the stable sort of a row of structs: swapRange, rotate, insertionSort, symMerge, stable. (ex_ldR_at) Walks: the stable sort of a row of structs: symMerge, stable, SortStableFunc. (ex_ldR_at, Fr.sameR) Walks: the stable sort of a row of structs: symMerge in general; stable, SortStableFunc. (ex_ldR_at, Fr.sameR) Walks: the stable sort of a row of structs: stable, SortStableFunc. -/
import Derived.Test.YtjpieiccpbcabaaGreatRowCKu
import Derived.Test.YtjpieiccpbcabaaGreatStabCKu
import Derived.Test.YtjpieiccpbcabaaGreatStabQKu
import Derived.Test.YtjpieiccpbcabaaGreatQFrKu
import Derived.Test.YtjpieiccpbcabaaGreatRegMKu
import Derived.Sort.WalkA
import Derived.Deep.LoopGhost
import Derived.Shelf.RegionOpenPlain
import Derived.Deep.Cut
set_option linter.unusedVariables false
set_option linter.unusedSimpArgs false
namespace Go.Proofs.YtjpieiccpbcabaaGreat
open Go.RowKit Go.Sort
instance:Inhabited RwW:=⟨zRwW⟩
def SortTo {α:Type} [Inhabited α] (C:Cod α) (p:α → Prop) (w0:World) (g:Nat) (cf:α → α → Int) (d:Array α) (a b:Nat) (e:Ending) (w':World):Prop :=
 e = .returned (.tuple #[]) ∧ ∃ d',SWF C p w0 g d' w' ∧ PermIn a b d d' ∧ SortedIn (ltC cf) a b d'
def StA {α:Type} [Inhabited α] (C:Cod α) (p:α → Prop) (w0:World) (g:Nat) (lt:α → α → Bool) (d:Array α) (N:Nat) (gk:Nat) (av bv:Value) (wr:World):Prop :=
 ∃ (q a b:Nat) (dk:Array α),av = .int .i64 (a:Int) ∧ bv = .int .i64 (b:Int) ∧ a = q * 20 ∧ b = (q + 1) * 20 ∧ gk = N - a ∧ a ≤ N ∧ dk.size = N ∧ PermIn 0 N d dk ∧ BlocksTo lt 20 (q * 20) dk ∧ SWF C p w0 g dk wr
def StB {α:Type} [Inhabited α] (C:Cod α) (p:α → Prop) (w0:World) (g:Nat) (lt:α → α → Bool) (d:Array α) (N:Nat) (gk:Nat) (kv:Value) (wr:World):Prop :=
 ∃ (k:Nat) (dk:Array α),kv = .int .i64 (k:Int) ∧ 0 < k ∧ k ≤ 2 * N + 20 ∧ gk = N - k ∧ dk.size = N ∧ PermIn 0 N d dk ∧ Blocks lt k N dk ∧ SWF C p w0 g dk wr
def StC {α:Type} [Inhabited α] (C:Cod α) (p:α → Prop) (w0:World) (g:Nat) (lt:α → α → Bool) (d:Array α) (N k:Nat) (gk:Nat) (av bv:Value) (wr:World):Prop :=
 ∃ (q a b:Nat) (dk:Array α),av = .int .i64 (a:Int) ∧ bv = .int .i64 (b:Int) ∧ a = q * (2 * k) ∧ b = (q + 1) * (2 * k) ∧ gk = N - a ∧ a ≤ N ∧ dk.size = N ∧ PermIn 0 N d dk ∧ Pairs lt k N q dk ∧ SWF C p w0 g dk wr
theorem perm_up {α:Type} [Inhabited α] {a b N:Nat} {d dk d':Array α} (h:PermIn 0 N d dk) (h':PermIn a b dk d') (hb:b ≤ N) (hs:dk.size = N):PermIn 0 N d d' :=
 permIn_trans d dk d' 0 N h (permIn_mono dk d' a b 0 N (Nat.zero_le _) hb (by rw [hs];exact Nat.le_refl _) h')
end Go.Proofs.YtjpieiccpbcabaaGreat
