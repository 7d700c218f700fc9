/-
  No cell of these rows narrows 'for every input' (looked for: loops, veiled, ifaces, maps, wideKeys, modest, calm, conditions, laid).
  DERIVED. THE GIVEN ROWS OF THIS SEAT. 6 by the template 'for every input the law returns true; each argument reads behind the call as it read before'; 0 by the template 'total and deterministic' (their statements: YtejkfekpgbmdiaaGreatTotals.lean).
  GIVEN WITH THE SEED: the statements are not yours to turn. If you find one false, say at which input.
  Laid BY PROGRAM, IN A SANDBOX (cutbox-rows.mjs): the forced cells as the released guide's own fill.sh prints them over the translation bde00739f92adc9b… (all of the seat's roots in one cut). By AI agents, Wed Nov 11 2026. No macro, syntax, notation, axiom, sorry.
-/
import Derived.Test.YtejkfekpgbmdiaaGreatChecked
import GoSem.Claim
import GoSem.ClaimJoined
import GoSem.ClaimMapViews
import Derived.JoinedTies
import Derived.KernelRfl
namespace Go.Proofs.YtejkfekpgbmdiaaGreat
/- THE CELL 'sum', in the pinned program and in every row, IS THE sha256 OF THE DUMP (.gsa) THAT YtejkfekpgbmdiaaGreatProg.lean LOADS. Nothing in Lean hashes anything: it is a label: what it is worth is what the hold of that sum in a sandbox is worth. -/
noncomputable def Tryz.pinned : Pinned := { name := "ytejkfekpgbmdiaagreat", sum := "bde00739f92adc9b03eaf640d36a9e25ca6ab99af40834eeedf77f32c356531f", checked := Tryz.checked }
namespace Rows
def none {H : Type} : Left H := { results := [], args := [] }

/-- 'pollardlaw04.ObjBlobs': WHATEVER THE INPUT: true; the input reads as it did. -/
def objBlobsSpec : ChangeSpec := { name := "objBlobs", fn := fun _ => fun
  | [d] => { results := [.lit (.bool true)], args := [d] }
  | _ => none }
def objBlobsRow : OpenClaim := { program := "ytejkfekpgbmdiaagreat", sum := "bde00739f92adc9b03eaf640d36a9e25ca6ab99af40834eeedf77f32c356531f", func := "pollard/pollardlaw04.ObjBlobs", spec := "objBlobs", inPlace := ["internal/bytealg.IndexByteString", "internal/bytealg.IndexString", "internal/bytealg.Compare"], unfollowed := true, recurses := true, named := ["internal/bytealg.MaxLen"], plainKeys := false, apart := false }
def ObjBlobsSaid : Prop := objBlobsRow.holds Tryz.pinned (OpenSpec.ofChange objBlobsSpec)

/-- ITS FALSE NEIGHBOUR: 'it returns false'. Refute it at one input. -/
def objBlobsWrong : ChangeSpec := { name := "objBlobs", fn := fun _ => fun
  | [d] => { results := [.lit (.bool false)], args := [d] }
  | _ => none }
def ObjBlobsWrongFalsely : Prop := objBlobsRow.holds Tryz.pinned (OpenSpec.ofChange objBlobsWrong)

/-- 'pollardlaw04.ObjDirs': WHATEVER THE INPUT: true; the input reads as it did. -/
def objDirsSpec : ChangeSpec := { name := "objDirs", fn := fun _ => fun
  | [d] => { results := [.lit (.bool true)], args := [d] }
  | _ => none }
def objDirsRow : OpenClaim := { program := "ytejkfekpgbmdiaagreat", sum := "bde00739f92adc9b03eaf640d36a9e25ca6ab99af40834eeedf77f32c356531f", func := "pollard/pollardlaw04.ObjDirs", spec := "objDirs", inPlace := ["internal/bytealg.IndexByteString", "internal/bytealg.IndexString", "internal/bytealg.Compare"], unfollowed := true, recurses := true, named := ["internal/bytealg.MaxLen"], plainKeys := false, apart := false }
def ObjDirsSaid : Prop := objDirsRow.holds Tryz.pinned (OpenSpec.ofChange objDirsSpec)

/-- ITS FALSE NEIGHBOUR: 'it returns false'. Refute it at one input. -/
def objDirsWrong : ChangeSpec := { name := "objDirs", fn := fun _ => fun
  | [d] => { results := [.lit (.bool false)], args := [d] }
  | _ => none }
def ObjDirsWrongFalsely : Prop := objDirsRow.holds Tryz.pinned (OpenSpec.ofChange objDirsWrong)

/-- 'pollardlaw04.ObjChanges': WHATEVER THE INPUT: true; the input reads as it did. -/
def objChangesSpec : ChangeSpec := { name := "objChanges", fn := fun _ => fun
  | [d] => { results := [.lit (.bool true)], args := [d] }
  | _ => none }
def objChangesRow : OpenClaim := { program := "ytejkfekpgbmdiaagreat", sum := "bde00739f92adc9b03eaf640d36a9e25ca6ab99af40834eeedf77f32c356531f", func := "pollard/pollardlaw04.ObjChanges", spec := "objChanges", inPlace := ["internal/bytealg.IndexByteString", "internal/bytealg.IndexString", "internal/bytealg.Compare"], unfollowed := true, recurses := true, named := ["internal/bytealg.MaxLen"], plainKeys := false, apart := false }
def ObjChangesSaid : Prop := objChangesRow.holds Tryz.pinned (OpenSpec.ofChange objChangesSpec)

/-- ITS FALSE NEIGHBOUR: 'it returns false'. Refute it at one input. -/
def objChangesWrong : ChangeSpec := { name := "objChanges", fn := fun _ => fun
  | [d] => { results := [.lit (.bool false)], args := [d] }
  | _ => none }
def ObjChangesWrongFalsely : Prop := objChangesRow.holds Tryz.pinned (OpenSpec.ofChange objChangesWrong)

/-- 'pollardlaw04.ObjLabels': WHATEVER THE INPUT: true; the input reads as it did. -/
def objLabelsSpec : ChangeSpec := { name := "objLabels", fn := fun _ => fun
  | [d] => { results := [.lit (.bool true)], args := [d] }
  | _ => none }
def objLabelsRow : OpenClaim := { program := "ytejkfekpgbmdiaagreat", sum := "bde00739f92adc9b03eaf640d36a9e25ca6ab99af40834eeedf77f32c356531f", func := "pollard/pollardlaw04.ObjLabels", spec := "objLabels", inPlace := ["internal/bytealg.IndexByteString", "internal/bytealg.IndexString", "internal/bytealg.Compare"], unfollowed := true, recurses := true, named := ["internal/bytealg.MaxLen"], plainKeys := false, apart := false }
def ObjLabelsSaid : Prop := objLabelsRow.holds Tryz.pinned (OpenSpec.ofChange objLabelsSpec)

/-- ITS FALSE NEIGHBOUR: 'it returns false'. Refute it at one input. -/
def objLabelsWrong : ChangeSpec := { name := "objLabels", fn := fun _ => fun
  | [d] => { results := [.lit (.bool false)], args := [d] }
  | _ => none }
def ObjLabelsWrongFalsely : Prop := objLabelsRow.holds Tryz.pinned (OpenSpec.ofChange objLabelsWrong)

/-- 'pollardlaw04.ObjReads': WHATEVER THE INPUT: true; the input reads as it did. -/
def objReadsSpec : ChangeSpec := { name := "objReads", fn := fun _ => fun
  | [d] => { results := [.lit (.bool true)], args := [d] }
  | _ => none }
def objReadsRow : OpenClaim := { program := "ytejkfekpgbmdiaagreat", sum := "bde00739f92adc9b03eaf640d36a9e25ca6ab99af40834eeedf77f32c356531f", func := "pollard/pollardlaw04.ObjReads", spec := "objReads", inPlace := ["internal/bytealg.IndexByteString", "internal/bytealg.IndexString", "internal/bytealg.Compare"], unfollowed := true, recurses := true, named := ["internal/bytealg.MaxLen"], plainKeys := false, apart := false }
def ObjReadsSaid : Prop := objReadsRow.holds Tryz.pinned (OpenSpec.ofChange objReadsSpec)

/-- ITS FALSE NEIGHBOUR: 'it returns false'. Refute it at one input. -/
def objReadsWrong : ChangeSpec := { name := "objReads", fn := fun _ => fun
  | [d] => { results := [.lit (.bool false)], args := [d] }
  | _ => none }
def ObjReadsWrongFalsely : Prop := objReadsRow.holds Tryz.pinned (OpenSpec.ofChange objReadsWrong)

/-- 'pollardlaw04.ObjLinks': WHATEVER THE INPUT: true; the input reads as it did. -/
def objLinksSpec : ChangeSpec := { name := "objLinks", fn := fun _ => fun
  | [d1, d2] => { results := [.lit (.bool true)], args := [d1, d2] }
  | _ => none }
def objLinksRow : OpenClaim := { program := "ytejkfekpgbmdiaagreat", sum := "bde00739f92adc9b03eaf640d36a9e25ca6ab99af40834eeedf77f32c356531f", func := "pollard/pollardlaw04.ObjLinks", spec := "objLinks", inPlace := ["internal/bytealg.IndexByteString", "internal/bytealg.IndexString", "internal/bytealg.Compare"], unfollowed := true, recurses := true, named := ["internal/bytealg.MaxLen"], plainKeys := false, apart := false }
def ObjLinksSaid : Prop := objLinksRow.holds Tryz.pinned (OpenSpec.ofChange objLinksSpec)

/-- ITS FALSE NEIGHBOUR: 'it returns false'. Refute it at one input. -/
def objLinksWrong : ChangeSpec := { name := "objLinks", fn := fun _ => fun
  | [d1, d2] => { results := [.lit (.bool false)], args := [d1, d2] }
  | _ => none }
def ObjLinksWrongFalsely : Prop := objLinksRow.holds Tryz.pinned (OpenSpec.ofChange objLinksWrong)

/- THE SECOND FORM. 'bulk': how many values and letters a reading holds, each counted each time it is reached (what is shared counts as often as it is met; a slice's spare places count too). A statement '..UptoSaid' is the law's where the arguments, and the package variables that the reading takes, are together of bulk at most 1048576: NARROWER than '..Said'. Prove '..Said' where nothing that the law and all that it calls make is longer than what came in: it says more and counts as full. Else prove '..UptoSaid'. A law counts once. -/
mutual
def uptoBulk {H : Type} : DataW H → Nat
  | .lit (.string bytes) => bytes.length + 1
  | .lit _ => 1
  | .nil => 1
  | .ptr d => uptoBulk d + 1
  | .slice elems spare => uptoBulkAll elems + uptoBulkAll spare + 1
  | .agg parts => uptoBulkAll parts + 1
  | .iface _ d => uptoBulk d + 1
  | .map entries => uptoBulkEntries entries + 1
  | .held _ => 1
def uptoBulkAll {H : Type} : List (DataW H) → Nat
  | [] => 0
  | d :: r => uptoBulk d + uptoBulkAll r
def uptoBulkEntries {H : Type} : List (Lit × DataW H) → Nat
  | [] => 0
  | x :: r => uptoBulkEntry x + uptoBulkEntries r
def uptoBulkEntry {H : Type} : Lit × DataW H → Nat
  | (.string bytes, d) => bytes.length + uptoBulk d + 1
  | (_, d) => uptoBulk d + 1
 end
def uptoSmall : (H : Type) → List (DataW H) → Bool := fun _ ds => decide (uptoBulkAll ds ≤ 1048576)
def OpenSpec.upto (s : _root_.Go.ChangeSpec) : _root_.Go.OpenSpec := { _root_.Go.OpenSpec.ofChange s with cond := some uptoSmall }

/-- 'pollardlaw04.ObjBlobs', WHERE WHAT IT READS IS OF BULK AT MOST 1048576: true; the input reads as it did. -/
def objBlobsUptoRow : OpenClaim := { program := "ytejkfekpgbmdiaagreat", sum := "bde00739f92adc9b03eaf640d36a9e25ca6ab99af40834eeedf77f32c356531f", func := "pollard/pollardlaw04.ObjBlobs", spec := "objBlobs", inPlace := ["internal/bytealg.IndexByteString", "internal/bytealg.IndexString", "internal/bytealg.Compare"], unfollowed := true, recurses := true, named := ["internal/bytealg.MaxLen"], plainKeys := false, apart := false, narrowed := true }
def ObjBlobsUptoSaid : Prop := objBlobsUptoRow.holds Tryz.pinned (OpenSpec.upto objBlobsSpec)

/-- 'pollardlaw04.ObjDirs', WHERE WHAT IT READS IS OF BULK AT MOST 1048576: true; the input reads as it did. -/
def objDirsUptoRow : OpenClaim := { program := "ytejkfekpgbmdiaagreat", sum := "bde00739f92adc9b03eaf640d36a9e25ca6ab99af40834eeedf77f32c356531f", func := "pollard/pollardlaw04.ObjDirs", spec := "objDirs", inPlace := ["internal/bytealg.IndexByteString", "internal/bytealg.IndexString", "internal/bytealg.Compare"], unfollowed := true, recurses := true, named := ["internal/bytealg.MaxLen"], plainKeys := false, apart := false, narrowed := true }
def ObjDirsUptoSaid : Prop := objDirsUptoRow.holds Tryz.pinned (OpenSpec.upto objDirsSpec)

/-- 'pollardlaw04.ObjChanges', WHERE WHAT IT READS IS OF BULK AT MOST 1048576: true; the input reads as it did. -/
def objChangesUptoRow : OpenClaim := { program := "ytejkfekpgbmdiaagreat", sum := "bde00739f92adc9b03eaf640d36a9e25ca6ab99af40834eeedf77f32c356531f", func := "pollard/pollardlaw04.ObjChanges", spec := "objChanges", inPlace := ["internal/bytealg.IndexByteString", "internal/bytealg.IndexString", "internal/bytealg.Compare"], unfollowed := true, recurses := true, named := ["internal/bytealg.MaxLen"], plainKeys := false, apart := false, narrowed := true }
def ObjChangesUptoSaid : Prop := objChangesUptoRow.holds Tryz.pinned (OpenSpec.upto objChangesSpec)

/-- 'pollardlaw04.ObjLabels', WHERE WHAT IT READS IS OF BULK AT MOST 1048576: true; the input reads as it did. -/
def objLabelsUptoRow : OpenClaim := { program := "ytejkfekpgbmdiaagreat", sum := "bde00739f92adc9b03eaf640d36a9e25ca6ab99af40834eeedf77f32c356531f", func := "pollard/pollardlaw04.ObjLabels", spec := "objLabels", inPlace := ["internal/bytealg.IndexByteString", "internal/bytealg.IndexString", "internal/bytealg.Compare"], unfollowed := true, recurses := true, named := ["internal/bytealg.MaxLen"], plainKeys := false, apart := false, narrowed := true }
def ObjLabelsUptoSaid : Prop := objLabelsUptoRow.holds Tryz.pinned (OpenSpec.upto objLabelsSpec)

/-- 'pollardlaw04.ObjReads', WHERE WHAT IT READS IS OF BULK AT MOST 1048576: true; the input reads as it did. -/
def objReadsUptoRow : OpenClaim := { program := "ytejkfekpgbmdiaagreat", sum := "bde00739f92adc9b03eaf640d36a9e25ca6ab99af40834eeedf77f32c356531f", func := "pollard/pollardlaw04.ObjReads", spec := "objReads", inPlace := ["internal/bytealg.IndexByteString", "internal/bytealg.IndexString", "internal/bytealg.Compare"], unfollowed := true, recurses := true, named := ["internal/bytealg.MaxLen"], plainKeys := false, apart := false, narrowed := true }
def ObjReadsUptoSaid : Prop := objReadsUptoRow.holds Tryz.pinned (OpenSpec.upto objReadsSpec)

/-- 'pollardlaw04.ObjLinks', WHERE WHAT IT READS IS OF BULK AT MOST 1048576: true; the input reads as it did. -/
def objLinksUptoRow : OpenClaim := { program := "ytejkfekpgbmdiaagreat", sum := "bde00739f92adc9b03eaf640d36a9e25ca6ab99af40834eeedf77f32c356531f", func := "pollard/pollardlaw04.ObjLinks", spec := "objLinks", inPlace := ["internal/bytealg.IndexByteString", "internal/bytealg.IndexString", "internal/bytealg.Compare"], unfollowed := true, recurses := true, named := ["internal/bytealg.MaxLen"], plainKeys := false, apart := false, narrowed := true }
def ObjLinksUptoSaid : Prop := objLinksUptoRow.holds Tryz.pinned (OpenSpec.upto objLinksSpec)

end Rows
end Go.Proofs.YtejkfekpgbmdiaaGreat
