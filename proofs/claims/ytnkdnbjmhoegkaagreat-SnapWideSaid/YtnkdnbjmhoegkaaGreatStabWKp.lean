/- Plain: the steps of a stable sort: cuts found by halving, merges, blocks. Walks: the stable sort of a row of structs: swapRange, rotate, insertionSort, symMerge, stable. (ex_ldR_at) -/
import Derived.Test.YtnkdnbjmhoegkaaGreatStabCKp
import Derived.Test.YtnkdnbjmhoegkaaGreatRowCKp
import Derived.Test.YtnkdnbjmhoegkaaGreatQFrKp
import Derived.Test.YtnkdnbjmhoegkaaGreatRegMKp
import Derived.Sort.WalkA
import Derived.Deep.LoopGhost
import Derived.Shelf.RegionOpenPlain
set_option linter.unusedVariables false
set_option linter.unusedSimpArgs false
namespace Go.Proofs.YtnkdnbjmhoegkaaGreat
open Go.Sort
set_option linter.unusedSectionVars false
section
variable {α:Type} [Inhabited α] {lt:α → α → Bool}
structure CutL (lt:α → α → Bool) (d:Array α) (a m b i j:Nat):Prop where
 h1:m ≤ i
 h2:i ≤ j
 h3:j ≤ b
 lo:∀ x,m ≤ x → x < i → lt d[x]! d[a]! = true
 hi:∀ x,j ≤ x → x < b → lt d[x]! d[a]! = false
theorem le_in {d:Array α} {m b x h:Nat} (hS:SWO lt) (hs:SortedIn lt m b d) (h1:m ≤ x) (h2:x ≤ h) (h3:h < b):lt d[h]! d[x]! = false:=by
 rcases Nat.lt_or_eq_of_le h2 with h | rfl
 ·exact hs x _ h1 h h3
 ·exact hS.irrefl _
theorem CutL.up {d:Array α} {a m b i j h:Nat} (hS:SWO lt) (hs:SortedIn lt m b d) (k:CutL lt d a m b i j) (h1:i ≤ h) (h2:h < j) (hl:lt d[h]! d[a]! = true):CutL lt d a m b (h + 1) j:=by
 refine ⟨by have:=k.h1;omega,by omega,k.h3,fun x hx1 hx2=>?_,k.hi⟩
 cases e:lt d[x]! d[a]! with
 | true=>rfl
 | false =>
  have k3:=k.h3
  have:=hS.ntrans _ _ _ (le_in hS hs hx1 (show x ≤ h by omega) (by omega)) e
  rw [hl] at this;cases this
structure CutR (lt:α → α → Bool) (d:Array α) (a m i j:Nat):Prop where
 h1:a ≤ i
 h2:i ≤ j
 h3:j ≤ m
 lo:∀ x,a ≤ x → x < i → lt d[m]! d[x]! = false
 hi:∀ x,j ≤ x → x < m → lt d[m]! d[x]! = true
theorem CutR.up {d:Array α} {a m i j h:Nat} (hS:SWO lt) (hs:SortedIn lt a m d) (k:CutR lt d a m i j) (h1:i ≤ h) (h2:h < j) (hl:lt d[m]! d[h]! = false):CutR lt d a m (h + 1) j:=by
 have k1:=k.h1
 have k3:=k.h3
 exact ⟨by omega,by omega,k.h3,fun x hx1 hx2=>hS.ntrans _ _ _ hl (le_in hS hs hx1 (show x ≤ h by omega) (by omega)),k.hi⟩
structure CutM (lt:α → α → Bool) (d:Array α) (n s0 r0 s r:Nat):Prop where
 h1:s0 ≤ s
 h2:s ≤ r
 h3:r ≤ r0
 lo:s0 < s → lt d[n - s]! d[s - 1]! = false
 hi:r < r0 → lt d[n - 1 - r]! d[r]! = true
theorem CutM.up {d:Array α} {n s0 r0 s r c:Nat} (k:CutM lt d n s0 r0 s r) (h1:s ≤ c) (h2:c < r) (hl:lt d[n - 1 - c]! d[c]! = false):CutM lt d n s0 r0 (c + 1) r :=
 ⟨by have:=k.h1;omega,by omega,k.h3,fun _=>by rw [show n - (c + 1) = n - 1 - c by omega,Nat.add_sub_cancel];exact hl,k.hi⟩
def Blocks (lt:α → α → Bool) (k n:Nat) (d:Array α):Prop:=∀ i,SortedIn lt (i * k) (min ((i + 1) * k) n) d
theorem Blocks.all {k n:Nat} {d:Array α} (h:Blocks lt k n d) (hn:n ≤ k):SortedIn lt 0 n d:=by
 have:=h 0
 rw [Nat.zero_mul,Nat.zero_add,Nat.one_mul,Nat.min_eq_right hn] at this
 exact this
end
end Go.Proofs.YtnkdnbjmhoegkaaGreat
namespace Go.Proofs.YtnkdnbjmhoegkaaGreat
open Go.RowKit Go.Sort
instance:Inhabited RwW:=⟨zRwW⟩
theorem Fr.sameR {w w':World} (f:Fr noB w w'):∀ b o,b < w.heap.size → codR.rd w' b o = codR.rd w b o:=fun b o h=>Cod.rd_keep (f.block b h (by simp [noB]))
end Go.Proofs.YtnkdnbjmhoegkaaGreat
