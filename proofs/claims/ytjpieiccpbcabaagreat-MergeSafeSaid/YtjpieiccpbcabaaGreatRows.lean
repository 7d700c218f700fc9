/-
  No cell of these rows narrows 'for every input' (looked for: loops, veiled, ifaces, maps, wideKeys, modest, calm, conditions, laid).
  DERIVED. THE GIVEN ROWS OF THIS SEAT. 5 by the template 'for every input the law returns true; each argument reads behind the call as it read before'; 0 by the template 'total and deterministic' (their statements: YtjpieiccpbcabaaGreatTotals.lean).
  GIVEN WITH THE SEED: the statements are not yours to turn. If you find one false, say at which input.
  Laid BY PROGRAM, IN A SANDBOX (cutbox-rows.mjs): the forced cells as the released guide's own fill.sh prints them over the translation e83dca16c0b203b0… (all of the seat's roots in one cut). By AI agents, Wed Nov 11 2026. No macro, syntax, notation, axiom, sorry.
-/
import Derived.Test.YtjpieiccpbcabaaGreatChecked
import GoSem.Claim
import GoSem.ClaimJoined
import GoSem.ClaimMapViews
import Derived.JoinedTies
import Derived.KernelRfl
namespace Go.Proofs.YtjpieiccpbcabaaGreat
/- THE CELL 'sum', in the pinned program and in every row, IS THE sha256 OF THE DUMP (.gsa) THAT YtjpieiccpbcabaaGreatProg.lean LOADS. Nothing in Lean hashes anything: it is a label: what it is worth is what the hold of that sum in a sandbox is worth. -/
noncomputable def Tryz.pinned : Pinned := { name := "ytjpieiccpbcabaagreat", sum := "e83dca16c0b203b005412e1ea3e479670a6dce4688a3eb9476655a074217c347", checked := Tryz.checked }
namespace Rows
def none {H : Type} : Left H := { results := [], args := [] }

/-- 'pollardlaw15.MergePlays': WHATEVER THE INPUT: true; the input reads as it did. -/
def mergePlaysSpec : ChangeSpec := { name := "mergePlays", fn := fun _ => fun
  | [d1, d2, d3] => { results := [.lit (.bool true)], args := [d1, d2, d3] }
  | _ => none }
def mergePlaysRow : OpenClaim := { program := "ytjpieiccpbcabaagreat", sum := "e83dca16c0b203b005412e1ea3e479670a6dce4688a3eb9476655a074217c347", func := "pollard/pollardlaw15.MergePlays", spec := "mergePlays", inPlace := ["internal/bytealg.Compare", "internal/bytealg.IndexByteString", "internal/bytealg.IndexString"], unfollowed := true, recurses := true, named := ["internal/bytealg.MaxLen"], plainKeys := false, apart := false }
def MergePlaysSaid : Prop := mergePlaysRow.holds Tryz.pinned (OpenSpec.ofChange mergePlaysSpec)

/-- ITS FALSE NEIGHBOUR: 'it returns false'. Refute it at one input. -/
def mergePlaysWrong : ChangeSpec := { name := "mergePlays", fn := fun _ => fun
  | [d1, d2, d3] => { results := [.lit (.bool false)], args := [d1, d2, d3] }
  | _ => none }
def MergePlaysWrongFalsely : Prop := mergePlaysRow.holds Tryz.pinned (OpenSpec.ofChange mergePlaysWrong)

/-- 'pollardlaw15.MergeTwo': WHATEVER THE INPUT: true; the input reads as it did. -/
def mergeTwoSpec : ChangeSpec := { name := "mergeTwo", fn := fun _ => fun
  | [d1, d2, d3] => { results := [.lit (.bool true)], args := [d1, d2, d3] }
  | _ => none }
def mergeTwoRow : OpenClaim := { program := "ytjpieiccpbcabaagreat", sum := "e83dca16c0b203b005412e1ea3e479670a6dce4688a3eb9476655a074217c347", func := "pollard/pollardlaw15.MergeTwo", spec := "mergeTwo", inPlace := ["internal/bytealg.Compare", "internal/bytealg.IndexByteString", "internal/bytealg.IndexString"], unfollowed := true, recurses := true, named := ["internal/bytealg.MaxLen"], plainKeys := false, apart := false }
def MergeTwoSaid : Prop := mergeTwoRow.holds Tryz.pinned (OpenSpec.ofChange mergeTwoSpec)

/-- ITS FALSE NEIGHBOUR: 'it returns false'. Refute it at one input. -/
def mergeTwoWrong : ChangeSpec := { name := "mergeTwo", fn := fun _ => fun
  | [d1, d2, d3] => { results := [.lit (.bool false)], args := [d1, d2, d3] }
  | _ => none }
def MergeTwoWrongFalsely : Prop := mergeTwoRow.holds Tryz.pinned (OpenSpec.ofChange mergeTwoWrong)

/-- 'pollardlaw15.MergeThree': WHATEVER THE INPUT: true; the input reads as it did. -/
def mergeThreeSpec : ChangeSpec := { name := "mergeThree", fn := fun _ => fun
  | [d1, d2, d3, d4] => { results := [.lit (.bool true)], args := [d1, d2, d3, d4] }
  | _ => none }
def mergeThreeRow : OpenClaim := { program := "ytjpieiccpbcabaagreat", sum := "e83dca16c0b203b005412e1ea3e479670a6dce4688a3eb9476655a074217c347", func := "pollard/pollardlaw15.MergeThree", spec := "mergeThree", inPlace := ["internal/bytealg.Compare", "internal/bytealg.IndexByteString", "internal/bytealg.IndexString"], unfollowed := true, recurses := true, named := ["internal/bytealg.MaxLen"], plainKeys := false, apart := false }
def MergeThreeSaid : Prop := mergeThreeRow.holds Tryz.pinned (OpenSpec.ofChange mergeThreeSpec)

/-- ITS FALSE NEIGHBOUR: 'it returns false'. Refute it at one input. -/
def mergeThreeWrong : ChangeSpec := { name := "mergeThree", fn := fun _ => fun
  | [d1, d2, d3, d4] => { results := [.lit (.bool false)], args := [d1, d2, d3, d4] }
  | _ => none }
def MergeThreeWrongFalsely : Prop := mergeThreeRow.holds Tryz.pinned (OpenSpec.ofChange mergeThreeWrong)

/-- 'pollardlaw15.MergeSafe': WHATEVER THE INPUT: true; the input reads as it did. -/
def mergeSafeSpec : ChangeSpec := { name := "mergeSafe", fn := fun _ => fun
  | [d1, d2, d3] => { results := [.lit (.bool true)], args := [d1, d2, d3] }
  | _ => none }
def mergeSafeRow : OpenClaim := { program := "ytjpieiccpbcabaagreat", sum := "e83dca16c0b203b005412e1ea3e479670a6dce4688a3eb9476655a074217c347", func := "pollard/pollardlaw15.MergeSafe", spec := "mergeSafe", inPlace := ["internal/bytealg.Compare", "internal/bytealg.IndexByteString", "internal/bytealg.IndexString"], unfollowed := true, recurses := true, named := ["internal/bytealg.MaxLen"], plainKeys := false, apart := false }
def MergeSafeSaid : Prop := mergeSafeRow.holds Tryz.pinned (OpenSpec.ofChange mergeSafeSpec)

/-- ITS FALSE NEIGHBOUR: 'it returns false'. Refute it at one input. -/
def mergeSafeWrong : ChangeSpec := { name := "mergeSafe", fn := fun _ => fun
  | [d1, d2, d3] => { results := [.lit (.bool false)], args := [d1, d2, d3] }
  | _ => none }
def MergeSafeWrongFalsely : Prop := mergeSafeRow.holds Tryz.pinned (OpenSpec.ofChange mergeSafeWrong)

/-- 'pollardlaw15.MergeKnown': WHATEVER THE INPUT: true; the input reads as it did. -/
def mergeKnownSpec : ChangeSpec := { name := "mergeKnown", fn := fun _ => fun
  | [d1, d2] => { results := [.lit (.bool true)], args := [d1, d2] }
  | _ => none }
def mergeKnownRow : OpenClaim := { program := "ytjpieiccpbcabaagreat", sum := "e83dca16c0b203b005412e1ea3e479670a6dce4688a3eb9476655a074217c347", func := "pollard/pollardlaw15.MergeKnown", spec := "mergeKnown", inPlace := ["internal/bytealg.Compare", "internal/bytealg.IndexByteString", "internal/bytealg.IndexString"], unfollowed := true, recurses := true, named := ["internal/bytealg.MaxLen"], plainKeys := false, apart := false }
def MergeKnownSaid : Prop := mergeKnownRow.holds Tryz.pinned (OpenSpec.ofChange mergeKnownSpec)

/-- ITS FALSE NEIGHBOUR: 'it returns false'. Refute it at one input. -/
def mergeKnownWrong : ChangeSpec := { name := "mergeKnown", fn := fun _ => fun
  | [d1, d2] => { results := [.lit (.bool false)], args := [d1, d2] }
  | _ => none }
def MergeKnownWrongFalsely : Prop := mergeKnownRow.holds Tryz.pinned (OpenSpec.ofChange mergeKnownWrong)

/- THE SECOND FORM. 'bulk': how many values and letters a reading holds, each counted each time it is reached (what is shared counts as often as it is met; a slice's spare places count too). A statement '..UptoSaid' is the law's where the arguments, and the package variables that the reading takes, are together of bulk at most 1048576: NARROWER than '..Said'. Prove '..Said' where nothing that the law and all that it calls make is longer than what came in: it says more and counts as full. Else prove '..UptoSaid'. A law counts once. -/
mutual
def uptoBulk {H : Type} : DataW H → Nat
  | .lit (.string bytes) => bytes.length + 1
  | .lit _ => 1
  | .nil => 1
  | .ptr d => uptoBulk d + 1
  | .slice elems spare => uptoBulkAll elems + uptoBulkAll spare + 1
  | .agg parts => uptoBulkAll parts + 1
  | .iface _ d => uptoBulk d + 1
  | .map entries => uptoBulkEntries entries + 1
  | .held _ => 1
def uptoBulkAll {H : Type} : List (DataW H) → Nat
  | [] => 0
  | d :: r => uptoBulk d + uptoBulkAll r
def uptoBulkEntries {H : Type} : List (Lit × DataW H) → Nat
  | [] => 0
  | x :: r => uptoBulkEntry x + uptoBulkEntries r
def uptoBulkEntry {H : Type} : Lit × DataW H → Nat
  | (.string bytes, d) => bytes.length + uptoBulk d + 1
  | (_, d) => uptoBulk d + 1
 end
def uptoSmall : (H : Type) → List (DataW H) → Bool := fun _ ds => decide (uptoBulkAll ds ≤ 1048576)
def OpenSpec.upto (s : _root_.Go.ChangeSpec) : _root_.Go.OpenSpec := { _root_.Go.OpenSpec.ofChange s with cond := some uptoSmall }

/-- 'pollardlaw15.MergePlays', WHERE WHAT IT READS IS OF BULK AT MOST 1048576: true; the input reads as it did. -/
def mergePlaysUptoRow : OpenClaim := { program := "ytjpieiccpbcabaagreat", sum := "e83dca16c0b203b005412e1ea3e479670a6dce4688a3eb9476655a074217c347", func := "pollard/pollardlaw15.MergePlays", spec := "mergePlays", inPlace := ["internal/bytealg.Compare", "internal/bytealg.IndexByteString", "internal/bytealg.IndexString"], unfollowed := true, recurses := true, named := ["internal/bytealg.MaxLen"], plainKeys := false, apart := false, narrowed := true }
def MergePlaysUptoSaid : Prop := mergePlaysUptoRow.holds Tryz.pinned (OpenSpec.upto mergePlaysSpec)

/-- 'pollardlaw15.MergeTwo', WHERE WHAT IT READS IS OF BULK AT MOST 1048576: true; the input reads as it did. -/
def mergeTwoUptoRow : OpenClaim := { program := "ytjpieiccpbcabaagreat", sum := "e83dca16c0b203b005412e1ea3e479670a6dce4688a3eb9476655a074217c347", func := "pollard/pollardlaw15.MergeTwo", spec := "mergeTwo", inPlace := ["internal/bytealg.Compare", "internal/bytealg.IndexByteString", "internal/bytealg.IndexString"], unfollowed := true, recurses := true, named := ["internal/bytealg.MaxLen"], plainKeys := false, apart := false, narrowed := true }
def MergeTwoUptoSaid : Prop := mergeTwoUptoRow.holds Tryz.pinned (OpenSpec.upto mergeTwoSpec)

/-- 'pollardlaw15.MergeThree', WHERE WHAT IT READS IS OF BULK AT MOST 1048576: true; the input reads as it did. -/
def mergeThreeUptoRow : OpenClaim := { program := "ytjpieiccpbcabaagreat", sum := "e83dca16c0b203b005412e1ea3e479670a6dce4688a3eb9476655a074217c347", func := "pollard/pollardlaw15.MergeThree", spec := "mergeThree", inPlace := ["internal/bytealg.Compare", "internal/bytealg.IndexByteString", "internal/bytealg.IndexString"], unfollowed := true, recurses := true, named := ["internal/bytealg.MaxLen"], plainKeys := false, apart := false, narrowed := true }
def MergeThreeUptoSaid : Prop := mergeThreeUptoRow.holds Tryz.pinned (OpenSpec.upto mergeThreeSpec)

/-- 'pollardlaw15.MergeSafe', WHERE WHAT IT READS IS OF BULK AT MOST 1048576: true; the input reads as it did. -/
def mergeSafeUptoRow : OpenClaim := { program := "ytjpieiccpbcabaagreat", sum := "e83dca16c0b203b005412e1ea3e479670a6dce4688a3eb9476655a074217c347", func := "pollard/pollardlaw15.MergeSafe", spec := "mergeSafe", inPlace := ["internal/bytealg.Compare", "internal/bytealg.IndexByteString", "internal/bytealg.IndexString"], unfollowed := true, recurses := true, named := ["internal/bytealg.MaxLen"], plainKeys := false, apart := false, narrowed := true }
def MergeSafeUptoSaid : Prop := mergeSafeUptoRow.holds Tryz.pinned (OpenSpec.upto mergeSafeSpec)

/-- 'pollardlaw15.MergeKnown', WHERE WHAT IT READS IS OF BULK AT MOST 1048576: true; the input reads as it did. -/
def mergeKnownUptoRow : OpenClaim := { program := "ytjpieiccpbcabaagreat", sum := "e83dca16c0b203b005412e1ea3e479670a6dce4688a3eb9476655a074217c347", func := "pollard/pollardlaw15.MergeKnown", spec := "mergeKnown", inPlace := ["internal/bytealg.Compare", "internal/bytealg.IndexByteString", "internal/bytealg.IndexString"], unfollowed := true, recurses := true, named := ["internal/bytealg.MaxLen"], plainKeys := false, apart := false, narrowed := true }
def MergeKnownUptoSaid : Prop := mergeKnownUptoRow.holds Tryz.pinned (OpenSpec.upto mergeKnownSpec)

end Rows
end Go.Proofs.YtjpieiccpbcabaaGreat
