/-
  No cell of these rows narrows 'for every input' (looked for: loops, veiled, ifaces, maps, wideKeys, modest, calm, conditions, laid).
  DERIVED. THE GIVEN ROWS OF THIS SEAT. 5 by the template 'for every input the law returns true; each argument reads behind the call as it read before'; 0 by the template 'total and deterministic' (their statements: YtdandpaeeodolaaGreatTotals.lean).
  GIVEN WITH THE SEED: the statements are not yours to turn. If you find one false, say at which input.
  Laid BY PROGRAM, IN A SANDBOX (cutbox-rows.mjs): the forced cells as the released guide's own fill.sh prints them over the translation 2c40499b0c56055f… (all of the seat's roots in one cut). By AI agents, Wed Nov 11 2026. No macro, syntax, notation, axiom, sorry.
-/
import Derived.Test.YtdandpaeeodolaaGreatChecked
import GoSem.Claim
import GoSem.ClaimJoined
import GoSem.ClaimMapViews
import Derived.JoinedTies
import Derived.KernelRfl
namespace Go.Proofs.YtdandpaeeodolaaGreat
/- THE CELL 'sum', in the pinned program and in every row, IS THE sha256 OF THE DUMP (.gsa) THAT YtdandpaeeodolaaGreatProg.lean LOADS. Nothing in Lean hashes anything: it is a label: what it is worth is what the hold of that sum in a sandbox is worth. -/
noncomputable def Tryz.pinned : Pinned := { name := "ytdandpaeeodolaagreat", sum := "2c40499b0c56055f51bd77328e6ebd0cc4942345ca25c449772cc577173a3f49", checked := Tryz.checked }
namespace Rows
def none {H : Type} : Left H := { results := [], args := [] }

/-- 'pollardlaw12.GroveTree': WHATEVER THE INPUT: true; the input reads as it did. -/
def groveTreeSpec : ChangeSpec := { name := "groveTree", fn := fun _ => fun
  | [d] => { results := [.lit (.bool true)], args := [d] }
  | _ => none }
def groveTreeRow : OpenClaim := { program := "ytdandpaeeodolaagreat", sum := "2c40499b0c56055f51bd77328e6ebd0cc4942345ca25c449772cc577173a3f49", func := "pollard/pollardlaw12.GroveTree", spec := "groveTree", inPlace := ["internal/bytealg.IndexByteString", "internal/bytealg.IndexString"], unfollowed := true, recurses := true, named := ["internal/bytealg.MaxLen"], plainKeys := false, apart := false }
def GroveTreeSaid : Prop := groveTreeRow.holds Tryz.pinned (OpenSpec.ofChange groveTreeSpec)

/-- ITS FALSE NEIGHBOUR: 'it returns false'. Refute it at one input. -/
def groveTreeWrong : ChangeSpec := { name := "groveTree", fn := fun _ => fun
  | [d] => { results := [.lit (.bool false)], args := [d] }
  | _ => none }
def GroveTreeWrongFalsely : Prop := groveTreeRow.holds Tryz.pinned (OpenSpec.ofChange groveTreeWrong)

/-- 'pollardlaw12.GroveHeads': WHATEVER THE INPUT: true; the input reads as it did. -/
def groveHeadsSpec : ChangeSpec := { name := "groveHeads", fn := fun _ => fun
  | [d] => { results := [.lit (.bool true)], args := [d] }
  | _ => none }
def groveHeadsRow : OpenClaim := { program := "ytdandpaeeodolaagreat", sum := "2c40499b0c56055f51bd77328e6ebd0cc4942345ca25c449772cc577173a3f49", func := "pollard/pollardlaw12.GroveHeads", spec := "groveHeads", inPlace := ["internal/bytealg.IndexByteString", "internal/bytealg.IndexString"], unfollowed := true, recurses := true, named := ["internal/bytealg.MaxLen"], plainKeys := false, apart := false }
def GroveHeadsSaid : Prop := groveHeadsRow.holds Tryz.pinned (OpenSpec.ofChange groveHeadsSpec)

/-- ITS FALSE NEIGHBOUR: 'it returns false'. Refute it at one input. -/
def groveHeadsWrong : ChangeSpec := { name := "groveHeads", fn := fun _ => fun
  | [d] => { results := [.lit (.bool false)], args := [d] }
  | _ => none }
def GroveHeadsWrongFalsely : Prop := groveHeadsRow.holds Tryz.pinned (OpenSpec.ofChange groveHeadsWrong)

/-- 'pollardlaw12.GroveCycles': WHATEVER THE INPUT: true; the input reads as it did. -/
def groveCyclesSpec : ChangeSpec := { name := "groveCycles", fn := fun _ => fun
  | [d1, d2, d3] => { results := [.lit (.bool true)], args := [d1, d2, d3] }
  | _ => none }
def groveCyclesRow : OpenClaim := { program := "ytdandpaeeodolaagreat", sum := "2c40499b0c56055f51bd77328e6ebd0cc4942345ca25c449772cc577173a3f49", func := "pollard/pollardlaw12.GroveCycles", spec := "groveCycles", inPlace := ["internal/bytealg.IndexByteString", "internal/bytealg.IndexString"], unfollowed := true, recurses := true, named := ["internal/bytealg.MaxLen"], plainKeys := false, apart := false }
def GroveCyclesSaid : Prop := groveCyclesRow.holds Tryz.pinned (OpenSpec.ofChange groveCyclesSpec)

/-- ITS FALSE NEIGHBOUR: 'it returns false'. Refute it at one input. -/
def groveCyclesWrong : ChangeSpec := { name := "groveCycles", fn := fun _ => fun
  | [d1, d2, d3] => { results := [.lit (.bool false)], args := [d1, d2, d3] }
  | _ => none }
def GroveCyclesWrongFalsely : Prop := groveCyclesRow.holds Tryz.pinned (OpenSpec.ofChange groveCyclesWrong)

/-- 'pollardlaw12.GroveKids': WHATEVER THE INPUT: true; the input reads as it did. -/
def groveKidsSpec : ChangeSpec := { name := "groveKids", fn := fun _ => fun
  | [d] => { results := [.lit (.bool true)], args := [d] }
  | _ => none }
def groveKidsRow : OpenClaim := { program := "ytdandpaeeodolaagreat", sum := "2c40499b0c56055f51bd77328e6ebd0cc4942345ca25c449772cc577173a3f49", func := "pollard/pollardlaw12.GroveKids", spec := "groveKids", inPlace := ["internal/bytealg.IndexByteString", "internal/bytealg.IndexString"], unfollowed := true, recurses := true, named := ["internal/bytealg.MaxLen"], plainKeys := false, apart := false }
def GroveKidsSaid : Prop := groveKidsRow.holds Tryz.pinned (OpenSpec.ofChange groveKidsSpec)

/-- ITS FALSE NEIGHBOUR: 'it returns false'. Refute it at one input. -/
def groveKidsWrong : ChangeSpec := { name := "groveKids", fn := fun _ => fun
  | [d] => { results := [.lit (.bool false)], args := [d] }
  | _ => none }
def GroveKidsWrongFalsely : Prop := groveKidsRow.holds Tryz.pinned (OpenSpec.ofChange groveKidsWrong)

/-- 'pollardlaw12.GroveClones': WHATEVER THE INPUT: true; the input reads as it did. -/
def groveClonesSpec : ChangeSpec := { name := "groveClones", fn := fun _ => fun
  | [d1, d2] => { results := [.lit (.bool true)], args := [d1, d2] }
  | _ => none }
def groveClonesRow : OpenClaim := { program := "ytdandpaeeodolaagreat", sum := "2c40499b0c56055f51bd77328e6ebd0cc4942345ca25c449772cc577173a3f49", func := "pollard/pollardlaw12.GroveClones", spec := "groveClones", inPlace := ["internal/bytealg.IndexByteString", "internal/bytealg.IndexString"], unfollowed := true, recurses := true, named := ["internal/bytealg.MaxLen"], plainKeys := false, apart := false }
def GroveClonesSaid : Prop := groveClonesRow.holds Tryz.pinned (OpenSpec.ofChange groveClonesSpec)

/-- ITS FALSE NEIGHBOUR: 'it returns false'. Refute it at one input. -/
def groveClonesWrong : ChangeSpec := { name := "groveClones", fn := fun _ => fun
  | [d1, d2] => { results := [.lit (.bool false)], args := [d1, d2] }
  | _ => none }
def GroveClonesWrongFalsely : Prop := groveClonesRow.holds Tryz.pinned (OpenSpec.ofChange groveClonesWrong)

/- THE SECOND FORM. 'bulk': how many values and letters a reading holds, each counted each time it is reached (what is shared counts as often as it is met; a slice's spare places count too). A statement '..UptoSaid' is the law's where the arguments, and the package variables that the reading takes, are together of bulk at most 1048576: NARROWER than '..Said'. Prove '..Said' where nothing that the law and all that it calls make is longer than what came in: it says more and counts as full. Else prove '..UptoSaid'. A law counts once. -/
mutual
def uptoBulk {H : Type} : DataW H → Nat
  | .lit (.string bytes) => bytes.length + 1
  | .lit _ => 1
  | .nil => 1
  | .ptr d => uptoBulk d + 1
  | .slice elems spare => uptoBulkAll elems + uptoBulkAll spare + 1
  | .agg parts => uptoBulkAll parts + 1
  | .iface _ d => uptoBulk d + 1
  | .map entries => uptoBulkEntries entries + 1
  | .held _ => 1
def uptoBulkAll {H : Type} : List (DataW H) → Nat
  | [] => 0
  | d :: r => uptoBulk d + uptoBulkAll r
def uptoBulkEntries {H : Type} : List (Lit × DataW H) → Nat
  | [] => 0
  | x :: r => uptoBulkEntry x + uptoBulkEntries r
def uptoBulkEntry {H : Type} : Lit × DataW H → Nat
  | (.string bytes, d) => bytes.length + uptoBulk d + 1
  | (_, d) => uptoBulk d + 1
 end
def uptoSmall : (H : Type) → List (DataW H) → Bool := fun _ ds => decide (uptoBulkAll ds ≤ 1048576)
def OpenSpec.upto (s : _root_.Go.ChangeSpec) : _root_.Go.OpenSpec := { _root_.Go.OpenSpec.ofChange s with cond := some uptoSmall }

/-- 'pollardlaw12.GroveTree', WHERE WHAT IT READS IS OF BULK AT MOST 1048576: true; the input reads as it did. -/
def groveTreeUptoRow : OpenClaim := { program := "ytdandpaeeodolaagreat", sum := "2c40499b0c56055f51bd77328e6ebd0cc4942345ca25c449772cc577173a3f49", func := "pollard/pollardlaw12.GroveTree", spec := "groveTree", inPlace := ["internal/bytealg.IndexByteString", "internal/bytealg.IndexString"], unfollowed := true, recurses := true, named := ["internal/bytealg.MaxLen"], plainKeys := false, apart := false, narrowed := true }
def GroveTreeUptoSaid : Prop := groveTreeUptoRow.holds Tryz.pinned (OpenSpec.upto groveTreeSpec)

/-- 'pollardlaw12.GroveHeads', WHERE WHAT IT READS IS OF BULK AT MOST 1048576: true; the input reads as it did. -/
def groveHeadsUptoRow : OpenClaim := { program := "ytdandpaeeodolaagreat", sum := "2c40499b0c56055f51bd77328e6ebd0cc4942345ca25c449772cc577173a3f49", func := "pollard/pollardlaw12.GroveHeads", spec := "groveHeads", inPlace := ["internal/bytealg.IndexByteString", "internal/bytealg.IndexString"], unfollowed := true, recurses := true, named := ["internal/bytealg.MaxLen"], plainKeys := false, apart := false, narrowed := true }
def GroveHeadsUptoSaid : Prop := groveHeadsUptoRow.holds Tryz.pinned (OpenSpec.upto groveHeadsSpec)

/-- 'pollardlaw12.GroveCycles', WHERE WHAT IT READS IS OF BULK AT MOST 1048576: true; the input reads as it did. -/
def groveCyclesUptoRow : OpenClaim := { program := "ytdandpaeeodolaagreat", sum := "2c40499b0c56055f51bd77328e6ebd0cc4942345ca25c449772cc577173a3f49", func := "pollard/pollardlaw12.GroveCycles", spec := "groveCycles", inPlace := ["internal/bytealg.IndexByteString", "internal/bytealg.IndexString"], unfollowed := true, recurses := true, named := ["internal/bytealg.MaxLen"], plainKeys := false, apart := false, narrowed := true }
def GroveCyclesUptoSaid : Prop := groveCyclesUptoRow.holds Tryz.pinned (OpenSpec.upto groveCyclesSpec)

/-- 'pollardlaw12.GroveKids', WHERE WHAT IT READS IS OF BULK AT MOST 1048576: true; the input reads as it did. -/
def groveKidsUptoRow : OpenClaim := { program := "ytdandpaeeodolaagreat", sum := "2c40499b0c56055f51bd77328e6ebd0cc4942345ca25c449772cc577173a3f49", func := "pollard/pollardlaw12.GroveKids", spec := "groveKids", inPlace := ["internal/bytealg.IndexByteString", "internal/bytealg.IndexString"], unfollowed := true, recurses := true, named := ["internal/bytealg.MaxLen"], plainKeys := false, apart := false, narrowed := true }
def GroveKidsUptoSaid : Prop := groveKidsUptoRow.holds Tryz.pinned (OpenSpec.upto groveKidsSpec)

/-- 'pollardlaw12.GroveClones', WHERE WHAT IT READS IS OF BULK AT MOST 1048576: true; the input reads as it did. -/
def groveClonesUptoRow : OpenClaim := { program := "ytdandpaeeodolaagreat", sum := "2c40499b0c56055f51bd77328e6ebd0cc4942345ca25c449772cc577173a3f49", func := "pollard/pollardlaw12.GroveClones", spec := "groveClones", inPlace := ["internal/bytealg.IndexByteString", "internal/bytealg.IndexString"], unfollowed := true, recurses := true, named := ["internal/bytealg.MaxLen"], plainKeys := false, apart := false, narrowed := true }
def GroveClonesUptoSaid : Prop := groveClonesUptoRow.holds Tryz.pinned (OpenSpec.upto groveClonesSpec)

end Rows
end Go.Proofs.YtdandpaeeodolaaGreat
