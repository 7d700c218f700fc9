/-
  No cell of these rows narrows 'for every input' (looked for: loops, veiled, ifaces, maps, wideKeys, modest, calm, conditions, laid).
  DERIVED. THE GIVEN ROWS OF THIS SEAT. 3 by the template 'for every input the law returns true; each argument reads behind the call as it read before'; 0 by the template 'total and deterministic' (their statements: YtnkdnbjmhoegkaaGreatTotals.lean).
  GIVEN WITH THE SEED: the statements are not yours to turn. If you find one false, say at which input.
  Laid BY PROGRAM, IN A SANDBOX (cutbox-rows.mjs): the forced cells as the released guide's own fill.sh prints them over the translation 61f69b34cf0210d6… (all of the seat's roots in one cut). By AI agents, Wed Nov 11 2026. No macro, syntax, notation, axiom, sorry.
-/
import Derived.Test.YtnkdnbjmhoegkaaGreatChecked
import GoSem.Claim
import GoSem.ClaimJoined
import GoSem.ClaimMapViews
import Derived.JoinedTies
import Derived.KernelRfl
namespace Go.Proofs.YtnkdnbjmhoegkaaGreat
/- THE CELL 'sum', in the pinned program and in every row, IS THE sha256 OF THE DUMP (.gsa) THAT YtnkdnbjmhoegkaaGreatProg.lean LOADS. Nothing in Lean hashes anything: it is a label: what it is worth is what the hold of that sum in a sandbox is worth. -/
noncomputable def Tryz.pinned : Pinned := { name := "ytnkdnbjmhoegkaagreat", sum := "61f69b34cf0210d6313079a5246a95b7b8454907d5b1f84565e3566d67309425", checked := Tryz.checked }
namespace Rows
def none {H : Type} : Left H := { results := [], args := [] }

/-- 'pollardlaw13.SnapWide': WHATEVER THE INPUT: true; the input reads as it did. -/
def snapWideSpec : ChangeSpec := { name := "snapWide", fn := fun _ => fun
  | [d1, d2] => { results := [.lit (.bool true)], args := [d1, d2] }
  | _ => none }
def snapWideRow : OpenClaim := { program := "ytnkdnbjmhoegkaagreat", sum := "61f69b34cf0210d6313079a5246a95b7b8454907d5b1f84565e3566d67309425", func := "pollard/pollardlaw13.SnapWide", spec := "snapWide", inPlace := ["internal/bytealg.IndexByteString", "internal/bytealg.IndexString", "internal/bytealg.Compare"], unfollowed := true, recurses := true, named := ["internal/bytealg.MaxLen"], plainKeys := false, apart := false }
def SnapWideSaid : Prop := snapWideRow.holds Tryz.pinned (OpenSpec.ofChange snapWideSpec)

/-- ITS FALSE NEIGHBOUR: 'it returns false'. Refute it at one input. -/
def snapWideWrong : ChangeSpec := { name := "snapWide", fn := fun _ => fun
  | [d1, d2] => { results := [.lit (.bool false)], args := [d1, d2] }
  | _ => none }
def SnapWideWrongFalsely : Prop := snapWideRow.holds Tryz.pinned (OpenSpec.ofChange snapWideWrong)

/-- 'pollardlaw13.SnapShares': WHATEVER THE INPUT: true; the input reads as it did. -/
def snapSharesSpec : ChangeSpec := { name := "snapShares", fn := fun _ => fun
  | [d1, d2] => { results := [.lit (.bool true)], args := [d1, d2] }
  | _ => none }
def snapSharesRow : OpenClaim := { program := "ytnkdnbjmhoegkaagreat", sum := "61f69b34cf0210d6313079a5246a95b7b8454907d5b1f84565e3566d67309425", func := "pollard/pollardlaw13.SnapShares", spec := "snapShares", inPlace := ["internal/bytealg.IndexByteString", "internal/bytealg.IndexString", "internal/bytealg.Compare"], unfollowed := true, recurses := true, named := ["internal/bytealg.MaxLen"], plainKeys := false, apart := false }
def SnapSharesSaid : Prop := snapSharesRow.holds Tryz.pinned (OpenSpec.ofChange snapSharesSpec)

/-- ITS FALSE NEIGHBOUR: 'it returns false'. Refute it at one input. -/
def snapSharesWrong : ChangeSpec := { name := "snapShares", fn := fun _ => fun
  | [d1, d2] => { results := [.lit (.bool false)], args := [d1, d2] }
  | _ => none }
def SnapSharesWrongFalsely : Prop := snapSharesRow.holds Tryz.pinned (OpenSpec.ofChange snapSharesWrong)

/-- 'pollardlaw13.SnapDeep': WHATEVER THE INPUT: true; the input reads as it did. -/
def snapDeepSpec : ChangeSpec := { name := "snapDeep", fn := fun _ => fun
  | [d1, d2] => { results := [.lit (.bool true)], args := [d1, d2] }
  | _ => none }
def snapDeepRow : OpenClaim := { program := "ytnkdnbjmhoegkaagreat", sum := "61f69b34cf0210d6313079a5246a95b7b8454907d5b1f84565e3566d67309425", func := "pollard/pollardlaw13.SnapDeep", spec := "snapDeep", inPlace := ["internal/bytealg.IndexByteString", "internal/bytealg.IndexString", "internal/bytealg.Compare"], unfollowed := true, recurses := true, named := ["internal/bytealg.MaxLen"], plainKeys := false, apart := false }
def SnapDeepSaid : Prop := snapDeepRow.holds Tryz.pinned (OpenSpec.ofChange snapDeepSpec)

/-- ITS FALSE NEIGHBOUR: 'it returns false'. Refute it at one input. -/
def snapDeepWrong : ChangeSpec := { name := "snapDeep", fn := fun _ => fun
  | [d1, d2] => { results := [.lit (.bool false)], args := [d1, d2] }
  | _ => none }
def SnapDeepWrongFalsely : Prop := snapDeepRow.holds Tryz.pinned (OpenSpec.ofChange snapDeepWrong)

/- THE SECOND FORM. 'bulk': how many values and letters a reading holds, each counted each time it is reached (what is shared counts as often as it is met; a slice's spare places count too). A statement '..UptoSaid' is the law's where the arguments, and the package variables that the reading takes, are together of bulk at most 1048576: NARROWER than '..Said'. Prove '..Said' where nothing that the law and all that it calls make is longer than what came in: it says more and counts as full. Else prove '..UptoSaid'. A law counts once. -/
mutual
def uptoBulk {H : Type} : DataW H → Nat
  | .lit (.string bytes) => bytes.length + 1
  | .lit _ => 1
  | .nil => 1
  | .ptr d => uptoBulk d + 1
  | .slice elems spare => uptoBulkAll elems + uptoBulkAll spare + 1
  | .agg parts => uptoBulkAll parts + 1
  | .iface _ d => uptoBulk d + 1
  | .map entries => uptoBulkEntries entries + 1
  | .held _ => 1
def uptoBulkAll {H : Type} : List (DataW H) → Nat
  | [] => 0
  | d :: r => uptoBulk d + uptoBulkAll r
def uptoBulkEntries {H : Type} : List (Lit × DataW H) → Nat
  | [] => 0
  | x :: r => uptoBulkEntry x + uptoBulkEntries r
def uptoBulkEntry {H : Type} : Lit × DataW H → Nat
  | (.string bytes, d) => bytes.length + uptoBulk d + 1
  | (_, d) => uptoBulk d + 1
 end
def uptoSmall : (H : Type) → List (DataW H) → Bool := fun _ ds => decide (uptoBulkAll ds ≤ 1048576)
def OpenSpec.upto (s : _root_.Go.ChangeSpec) : _root_.Go.OpenSpec := { _root_.Go.OpenSpec.ofChange s with cond := some uptoSmall }

/-- 'pollardlaw13.SnapWide', WHERE WHAT IT READS IS OF BULK AT MOST 1048576: true; the input reads as it did. -/
def snapWideUptoRow : OpenClaim := { program := "ytnkdnbjmhoegkaagreat", sum := "61f69b34cf0210d6313079a5246a95b7b8454907d5b1f84565e3566d67309425", func := "pollard/pollardlaw13.SnapWide", spec := "snapWide", inPlace := ["internal/bytealg.IndexByteString", "internal/bytealg.IndexString", "internal/bytealg.Compare"], unfollowed := true, recurses := true, named := ["internal/bytealg.MaxLen"], plainKeys := false, apart := false, narrowed := true }
def SnapWideUptoSaid : Prop := snapWideUptoRow.holds Tryz.pinned (OpenSpec.upto snapWideSpec)

/-- 'pollardlaw13.SnapShares', WHERE WHAT IT READS IS OF BULK AT MOST 1048576: true; the input reads as it did. -/
def snapSharesUptoRow : OpenClaim := { program := "ytnkdnbjmhoegkaagreat", sum := "61f69b34cf0210d6313079a5246a95b7b8454907d5b1f84565e3566d67309425", func := "pollard/pollardlaw13.SnapShares", spec := "snapShares", inPlace := ["internal/bytealg.IndexByteString", "internal/bytealg.IndexString", "internal/bytealg.Compare"], unfollowed := true, recurses := true, named := ["internal/bytealg.MaxLen"], plainKeys := false, apart := false, narrowed := true }
def SnapSharesUptoSaid : Prop := snapSharesUptoRow.holds Tryz.pinned (OpenSpec.upto snapSharesSpec)

/-- 'pollardlaw13.SnapDeep', WHERE WHAT IT READS IS OF BULK AT MOST 1048576: true; the input reads as it did. -/
def snapDeepUptoRow : OpenClaim := { program := "ytnkdnbjmhoegkaagreat", sum := "61f69b34cf0210d6313079a5246a95b7b8454907d5b1f84565e3566d67309425", func := "pollard/pollardlaw13.SnapDeep", spec := "snapDeep", inPlace := ["internal/bytealg.IndexByteString", "internal/bytealg.IndexString", "internal/bytealg.Compare"], unfollowed := true, recurses := true, named := ["internal/bytealg.MaxLen"], plainKeys := false, apart := false, narrowed := true }
def SnapDeepUptoSaid : Prop := snapDeepUptoRow.holds Tryz.pinned (OpenSpec.upto snapDeepSpec)

end Rows
end Go.Proofs.YtnkdnbjmhoegkaaGreat
