/-
  No cell of these rows narrows 'for every input' (looked for: loops, veiled, ifaces, maps, wideKeys, modest, calm, conditions, laid).
  DERIVED. THE GIVEN ROWS OF THIS SEAT. 3 by the template 'for every input the law returns true; each argument reads behind the call as it read before'; 0 by the template 'total and deterministic' (their statements: YtefcalkbfaefgaaGreatTotals.lean).
  GIVEN WITH THE SEED: the statements are not yours to turn. If you find one false, say at which input.
  Laid BY PROGRAM, IN A SANDBOX (cutbox-rows.mjs): the forced cells as the released guide's own fill.sh prints them over the translation bae3ef0810ea8e5b… (all of the seat's roots in one cut). By AI agents, Wed Nov 11 2026. No macro, syntax, notation, axiom, sorry.
-/
import Derived.Test.YtefcalkbfaefgaaGreatChecked
import GoSem.Claim
import GoSem.ClaimJoined
import GoSem.ClaimMapViews
import Derived.JoinedTies
import Derived.KernelRfl
namespace Go.Proofs.YtefcalkbfaefgaaGreat
/- THE CELL 'sum', in the pinned program and in every row, IS THE sha256 OF THE DUMP (.gsa) THAT YtefcalkbfaefgaaGreatProg.lean LOADS. Nothing in Lean hashes anything: it is a label: what it is worth is what the hold of that sum in a sandbox is worth. -/
noncomputable def Tryz.pinned : Pinned := { name := "ytefcalkbfaefgaagreat", sum := "bae3ef0810ea8e5bb56ff8681cdeae376a1998813e14d8bd91ed34bd58cd3045", checked := Tryz.checked }
namespace Rows
def none {H : Type} : Left H := { results := [], args := [] }

/-- 'pollardlaw14.DifferSelf': WHATEVER THE INPUT: true; the input reads as it did. -/
def differSelfSpec : ChangeSpec := { name := "differSelf", fn := fun _ => fun
  | [d] => { results := [.lit (.bool true)], args := [d] }
  | _ => none }
def differSelfRow : OpenClaim := { program := "ytefcalkbfaefgaagreat", sum := "bae3ef0810ea8e5bb56ff8681cdeae376a1998813e14d8bd91ed34bd58cd3045", func := "pollard/pollardlaw14.DifferSelf", spec := "differSelf", inPlace := ["internal/bytealg.IndexByteString", "internal/bytealg.IndexString", "internal/abi.NoEscape", "internal/bytealg.MakeNoZero"], unfollowed := true, recurses := true, named := ["internal/bytealg.MaxLen"], plainKeys := false, apart := false }
def DifferSelfSaid : Prop := differSelfRow.holds Tryz.pinned (OpenSpec.ofChange differSelfSpec)

/-- ITS FALSE NEIGHBOUR: 'it returns false'. Refute it at one input. -/
def differSelfWrong : ChangeSpec := { name := "differSelf", fn := fun _ => fun
  | [d] => { results := [.lit (.bool false)], args := [d] }
  | _ => none }
def DifferSelfWrongFalsely : Prop := differSelfRow.holds Tryz.pinned (OpenSpec.ofChange differSelfWrong)

/-- 'pollardlaw14.DifferTurns': WHATEVER THE INPUT: true; the input reads as it did. -/
def differTurnsSpec : ChangeSpec := { name := "differTurns", fn := fun _ => fun
  | [d1, d2] => { results := [.lit (.bool true)], args := [d1, d2] }
  | _ => none }
def differTurnsRow : OpenClaim := { program := "ytefcalkbfaefgaagreat", sum := "bae3ef0810ea8e5bb56ff8681cdeae376a1998813e14d8bd91ed34bd58cd3045", func := "pollard/pollardlaw14.DifferTurns", spec := "differTurns", inPlace := ["internal/bytealg.IndexByteString", "internal/bytealg.IndexString", "internal/abi.NoEscape", "internal/bytealg.MakeNoZero"], unfollowed := true, recurses := true, named := ["internal/bytealg.MaxLen"], plainKeys := false, apart := false }
def DifferTurnsSaid : Prop := differTurnsRow.holds Tryz.pinned (OpenSpec.ofChange differTurnsSpec)

/-- ITS FALSE NEIGHBOUR: 'it returns false'. Refute it at one input. -/
def differTurnsWrong : ChangeSpec := { name := "differTurns", fn := fun _ => fun
  | [d1, d2] => { results := [.lit (.bool false)], args := [d1, d2] }
  | _ => none }
def DifferTurnsWrongFalsely : Prop := differTurnsRow.holds Tryz.pinned (OpenSpec.ofChange differTurnsWrong)

/-- 'pollardlaw14.DifferPaths': WHATEVER THE INPUT: true; the input reads as it did. -/
def differPathsSpec : ChangeSpec := { name := "differPaths", fn := fun _ => fun
  | [d] => { results := [.lit (.bool true)], args := [d] }
  | _ => none }
def differPathsRow : OpenClaim := { program := "ytefcalkbfaefgaagreat", sum := "bae3ef0810ea8e5bb56ff8681cdeae376a1998813e14d8bd91ed34bd58cd3045", func := "pollard/pollardlaw14.DifferPaths", spec := "differPaths", inPlace := ["internal/bytealg.IndexByteString", "internal/bytealg.IndexString", "internal/abi.NoEscape", "internal/bytealg.MakeNoZero"], unfollowed := true, recurses := true, named := ["internal/bytealg.MaxLen"], plainKeys := false, apart := false }
def DifferPathsSaid : Prop := differPathsRow.holds Tryz.pinned (OpenSpec.ofChange differPathsSpec)

/-- ITS FALSE NEIGHBOUR: 'it returns false'. Refute it at one input. -/
def differPathsWrong : ChangeSpec := { name := "differPaths", fn := fun _ => fun
  | [d] => { results := [.lit (.bool false)], args := [d] }
  | _ => none }
def DifferPathsWrongFalsely : Prop := differPathsRow.holds Tryz.pinned (OpenSpec.ofChange differPathsWrong)

/- THE SECOND FORM. 'bulk': how many values and letters a reading holds, each counted each time it is reached (what is shared counts as often as it is met; a slice's spare places count too). A statement '..UptoSaid' is the law's where the arguments, and the package variables that the reading takes, are together of bulk at most 1048576: NARROWER than '..Said'. Prove '..Said' where nothing that the law and all that it calls make is longer than what came in: it says more and counts as full. Else prove '..UptoSaid'. A law counts once. -/
mutual
def uptoBulk {H : Type} : DataW H → Nat
  | .lit (.string bytes) => bytes.length + 1
  | .lit _ => 1
  | .nil => 1
  | .ptr d => uptoBulk d + 1
  | .slice elems spare => uptoBulkAll elems + uptoBulkAll spare + 1
  | .agg parts => uptoBulkAll parts + 1
  | .iface _ d => uptoBulk d + 1
  | .map entries => uptoBulkEntries entries + 1
  | .held _ => 1
def uptoBulkAll {H : Type} : List (DataW H) → Nat
  | [] => 0
  | d :: r => uptoBulk d + uptoBulkAll r
def uptoBulkEntries {H : Type} : List (Lit × DataW H) → Nat
  | [] => 0
  | x :: r => uptoBulkEntry x + uptoBulkEntries r
def uptoBulkEntry {H : Type} : Lit × DataW H → Nat
  | (.string bytes, d) => bytes.length + uptoBulk d + 1
  | (_, d) => uptoBulk d + 1
 end
def uptoSmall : (H : Type) → List (DataW H) → Bool := fun _ ds => decide (uptoBulkAll ds ≤ 1048576)
def OpenSpec.upto (s : _root_.Go.ChangeSpec) : _root_.Go.OpenSpec := { _root_.Go.OpenSpec.ofChange s with cond := some uptoSmall }

/-- 'pollardlaw14.DifferSelf', WHERE WHAT IT READS IS OF BULK AT MOST 1048576: true; the input reads as it did. -/
def differSelfUptoRow : OpenClaim := { program := "ytefcalkbfaefgaagreat", sum := "bae3ef0810ea8e5bb56ff8681cdeae376a1998813e14d8bd91ed34bd58cd3045", func := "pollard/pollardlaw14.DifferSelf", spec := "differSelf", inPlace := ["internal/bytealg.IndexByteString", "internal/bytealg.IndexString", "internal/abi.NoEscape", "internal/bytealg.MakeNoZero"], unfollowed := true, recurses := true, named := ["internal/bytealg.MaxLen"], plainKeys := false, apart := false, narrowed := true }
def DifferSelfUptoSaid : Prop := differSelfUptoRow.holds Tryz.pinned (OpenSpec.upto differSelfSpec)

/-- 'pollardlaw14.DifferTurns', WHERE WHAT IT READS IS OF BULK AT MOST 1048576: true; the input reads as it did. -/
def differTurnsUptoRow : OpenClaim := { program := "ytefcalkbfaefgaagreat", sum := "bae3ef0810ea8e5bb56ff8681cdeae376a1998813e14d8bd91ed34bd58cd3045", func := "pollard/pollardlaw14.DifferTurns", spec := "differTurns", inPlace := ["internal/bytealg.IndexByteString", "internal/bytealg.IndexString", "internal/abi.NoEscape", "internal/bytealg.MakeNoZero"], unfollowed := true, recurses := true, named := ["internal/bytealg.MaxLen"], plainKeys := false, apart := false, narrowed := true }
def DifferTurnsUptoSaid : Prop := differTurnsUptoRow.holds Tryz.pinned (OpenSpec.upto differTurnsSpec)

/-- 'pollardlaw14.DifferPaths', WHERE WHAT IT READS IS OF BULK AT MOST 1048576: true; the input reads as it did. -/
def differPathsUptoRow : OpenClaim := { program := "ytefcalkbfaefgaagreat", sum := "bae3ef0810ea8e5bb56ff8681cdeae376a1998813e14d8bd91ed34bd58cd3045", func := "pollard/pollardlaw14.DifferPaths", spec := "differPaths", inPlace := ["internal/bytealg.IndexByteString", "internal/bytealg.IndexString", "internal/abi.NoEscape", "internal/bytealg.MakeNoZero"], unfollowed := true, recurses := true, named := ["internal/bytealg.MaxLen"], plainKeys := false, apart := false, narrowed := true }
def DifferPathsUptoSaid : Prop := differPathsUptoRow.holds Tryz.pinned (OpenSpec.upto differPathsSpec)

end Rows
end Go.Proofs.YtefcalkbfaefgaaGreat
