/-
  No cell of these rows narrows 'for every input' (looked for: loops, veiled, ifaces, maps, wideKeys, modest, calm, conditions, laid).
  DERIVED. THE GIVEN ROWS OF THIS SEAT. 6 by the template 'for every input the law returns true; each argument reads behind the call as it read before'; 0 by the template 'total and deterministic' (their statements: YtlnjemdnmndnfaaTotals.lean).
  GIVEN WITH THE SEED: the statements are not yours to turn. If you find one false, say at which input.
  Laid BY PROGRAM, IN A SANDBOX (cutbox-rows.mjs): the forced cells as the released guide's own fill.sh prints them over the translation 72100fcd0bba97f7… (all of the seat's roots in one cut). By AI agents, Wed Nov 11 2026. No macro, syntax, notation, axiom, sorry.
-/
import Derived.Test.YtlnjemdnmndnfaaChecked
import GoSem.Claim
import GoSem.ClaimJoined
import GoSem.ClaimMapViews
import Derived.JoinedTies
import Derived.KernelRfl
namespace Go.Proofs.Ytlnjemdnmndnfaa
/- THE CELL 'sum', in the pinned program and in every row, IS THE sha256 OF THE DUMP (.gsa) THAT YtlnjemdnmndnfaaProg.lean LOADS. Nothing in Lean hashes anything: it is a label: what it is worth is what the hold of that sum in a sandbox is worth. -/
noncomputable def Try.pinned : Pinned := { name := "ytlnjemdnmndnfaa", sum := "72100fcd0bba97f74d2eae93de40872100bb03e3985578f8178e78afd924982e", checked := Try.checked }
namespace Rows
def none {H : Type} : Left H := { results := [], args := [] }

/-- 'gantrylaw11.TimeidxFinds': WHATEVER THE INPUT: true; the input reads as it did. -/
def timeidxFindsSpec : ChangeSpec := { name := "timeidxFinds", fn := fun _ => fun
  | [d1, d2] => { results := [.lit (.bool true)], args := [d1, d2] }
  | _ => none }
def timeidxFindsRow : OpenClaim := { program := "ytlnjemdnmndnfaa", sum := "72100fcd0bba97f74d2eae93de40872100bb03e3985578f8178e78afd924982e", func := "gantry/gantrylaw11.TimeidxFinds", spec := "timeidxFinds", unfollowed := true, recurses := true, apart := false }
def TimeidxFindsSaid : Prop := timeidxFindsRow.holds Try.pinned (OpenSpec.ofChange timeidxFindsSpec)

/-- ITS FALSE NEIGHBOUR: 'it returns false'. Refute it at one input. -/
def timeidxFindsWrong : ChangeSpec := { name := "timeidxFinds", fn := fun _ => fun
  | [d1, d2] => { results := [.lit (.bool false)], args := [d1, d2] }
  | _ => none }
def TimeidxFindsWrongFalsely : Prop := timeidxFindsRow.holds Try.pinned (OpenSpec.ofChange timeidxFindsWrong)

/-- 'gantrylaw11.TimeidxBounds': WHATEVER THE INPUT: true; the input reads as it did. -/
def timeidxBoundsSpec : ChangeSpec := { name := "timeidxBounds", fn := fun _ => fun
  | [d1, d2, d3] => { results := [.lit (.bool true)], args := [d1, d2, d3] }
  | _ => none }
def timeidxBoundsRow : OpenClaim := { program := "ytlnjemdnmndnfaa", sum := "72100fcd0bba97f74d2eae93de40872100bb03e3985578f8178e78afd924982e", func := "gantry/gantrylaw11.TimeidxBounds", spec := "timeidxBounds", unfollowed := true, recurses := true, apart := false }
def TimeidxBoundsSaid : Prop := timeidxBoundsRow.holds Try.pinned (OpenSpec.ofChange timeidxBoundsSpec)

/-- ITS FALSE NEIGHBOUR: 'it returns false'. Refute it at one input. -/
def timeidxBoundsWrong : ChangeSpec := { name := "timeidxBounds", fn := fun _ => fun
  | [d1, d2, d3] => { results := [.lit (.bool false)], args := [d1, d2, d3] }
  | _ => none }
def TimeidxBoundsWrongFalsely : Prop := timeidxBoundsRow.holds Try.pinned (OpenSpec.ofChange timeidxBoundsWrong)

/-- 'gantrylaw11.TimeidxNone': WHATEVER THE INPUT: true; the input reads as it did. -/
def timeidxNoneSpec : ChangeSpec := { name := "timeidxNone", fn := fun _ => fun
  | [d] => { results := [.lit (.bool true)], args := [d] }
  | _ => none }
def timeidxNoneRow : OpenClaim := { program := "ytlnjemdnmndnfaa", sum := "72100fcd0bba97f74d2eae93de40872100bb03e3985578f8178e78afd924982e", func := "gantry/gantrylaw11.TimeidxNone", spec := "timeidxNone", inPlace := ["internal/abi.NoEscape"], unfollowed := true, recurses := true, apart := false }
def TimeidxNoneSaid : Prop := timeidxNoneRow.holds Try.pinned (OpenSpec.ofChange timeidxNoneSpec)

/-- ITS FALSE NEIGHBOUR: 'it returns false'. Refute it at one input. -/
def timeidxNoneWrong : ChangeSpec := { name := "timeidxNone", fn := fun _ => fun
  | [d] => { results := [.lit (.bool false)], args := [d] }
  | _ => none }
def TimeidxNoneWrongFalsely : Prop := timeidxNoneRow.holds Try.pinned (OpenSpec.ofChange timeidxNoneWrong)

/-- 'gantrylaw11.TimeidxReads': WHATEVER THE INPUT: true; the input reads as it did. -/
def timeidxReadsSpec : ChangeSpec := { name := "timeidxReads", fn := fun _ => fun
  | [d1, d2] => { results := [.lit (.bool true)], args := [d1, d2] }
  | _ => none }
def timeidxReadsRow : OpenClaim := { program := "ytlnjemdnmndnfaa", sum := "72100fcd0bba97f74d2eae93de40872100bb03e3985578f8178e78afd924982e", func := "gantry/gantrylaw11.TimeidxReads", spec := "timeidxReads", inPlace := ["internal/abi.NoEscape"], unfollowed := true, recurses := true, apart := false }
def TimeidxReadsSaid : Prop := timeidxReadsRow.holds Try.pinned (OpenSpec.ofChange timeidxReadsSpec)

/-- ITS FALSE NEIGHBOUR: 'it returns false'. Refute it at one input. -/
def timeidxReadsWrong : ChangeSpec := { name := "timeidxReads", fn := fun _ => fun
  | [d1, d2] => { results := [.lit (.bool false)], args := [d1, d2] }
  | _ => none }
def TimeidxReadsWrongFalsely : Prop := timeidxReadsRow.holds Try.pinned (OpenSpec.ofChange timeidxReadsWrong)

/-- 'gantrylaw11.TimeidxBack': WHATEVER THE INPUT: true; the input reads as it did. -/
def timeidxBackSpec : ChangeSpec := { name := "timeidxBack", fn := fun _ => fun
  | [d1, d2] => { results := [.lit (.bool true)], args := [d1, d2] }
  | _ => none }
def timeidxBackRow : OpenClaim := { program := "ytlnjemdnmndnfaa", sum := "72100fcd0bba97f74d2eae93de40872100bb03e3985578f8178e78afd924982e", func := "gantry/gantrylaw11.TimeidxBack", spec := "timeidxBack", inPlace := ["internal/abi.NoEscape"], unfollowed := true, recurses := true, apart := false }
def TimeidxBackSaid : Prop := timeidxBackRow.holds Try.pinned (OpenSpec.ofChange timeidxBackSpec)

/-- ITS FALSE NEIGHBOUR: 'it returns false'. Refute it at one input. -/
def timeidxBackWrong : ChangeSpec := { name := "timeidxBack", fn := fun _ => fun
  | [d1, d2] => { results := [.lit (.bool false)], args := [d1, d2] }
  | _ => none }
def TimeidxBackWrongFalsely : Prop := timeidxBackRow.holds Try.pinned (OpenSpec.ofChange timeidxBackWrong)

/-- 'gantrylaw11.TimeidxPlays': WHATEVER THE INPUT: true; the input reads as it did. -/
def timeidxPlaysSpec : ChangeSpec := { name := "timeidxPlays", fn := fun _ => fun
  | [d] => { results := [.lit (.bool true)], args := [d] }
  | _ => none }
def timeidxPlaysRow : OpenClaim := { program := "ytlnjemdnmndnfaa", sum := "72100fcd0bba97f74d2eae93de40872100bb03e3985578f8178e78afd924982e", func := "gantry/gantrylaw11.TimeidxPlays", spec := "timeidxPlays", inPlace := ["internal/abi.NoEscape"], unfollowed := true, recurses := true, apart := false }
def TimeidxPlaysSaid : Prop := timeidxPlaysRow.holds Try.pinned (OpenSpec.ofChange timeidxPlaysSpec)

/-- ITS FALSE NEIGHBOUR: 'it returns false'. Refute it at one input. -/
def timeidxPlaysWrong : ChangeSpec := { name := "timeidxPlays", fn := fun _ => fun
  | [d] => { results := [.lit (.bool false)], args := [d] }
  | _ => none }
def TimeidxPlaysWrongFalsely : Prop := timeidxPlaysRow.holds Try.pinned (OpenSpec.ofChange timeidxPlaysWrong)

/- THE SECOND FORM. 'bulk': how many values and letters a reading holds, each counted each time it is reached (what is shared counts as often as it is met; a slice's spare places count too). A statement '..UptoSaid' is the law's where the arguments, and the package variables that the reading takes, are together of bulk at most 1048576: NARROWER than '..Said'. Prove '..Said' where nothing that the law and all that it calls make is longer than what came in: it says more and counts as full. Else prove '..UptoSaid'. A law counts once. -/
mutual
def uptoBulk {H : Type} : DataW H → Nat
  | .lit (.string bytes) => bytes.length + 1
  | .lit _ => 1
  | .nil => 1
  | .ptr d => uptoBulk d + 1
  | .slice elems spare => uptoBulkAll elems + uptoBulkAll spare + 1
  | .agg parts => uptoBulkAll parts + 1
  | .iface _ d => uptoBulk d + 1
  | .map entries => uptoBulkEntries entries + 1
  | .held _ => 1
def uptoBulkAll {H : Type} : List (DataW H) → Nat
  | [] => 0
  | d :: r => uptoBulk d + uptoBulkAll r
def uptoBulkEntries {H : Type} : List (Lit × DataW H) → Nat
  | [] => 0
  | x :: r => uptoBulkEntry x + uptoBulkEntries r
def uptoBulkEntry {H : Type} : Lit × DataW H → Nat
  | (.string bytes, d) => bytes.length + uptoBulk d + 1
  | (_, d) => uptoBulk d + 1
 end
def uptoSmall : (H : Type) → List (DataW H) → Bool := fun _ ds => decide (uptoBulkAll ds ≤ 1048576)
def OpenSpec.upto (s : _root_.Go.ChangeSpec) : _root_.Go.OpenSpec := { _root_.Go.OpenSpec.ofChange s with cond := some uptoSmall }

/-- 'gantrylaw11.TimeidxFinds', WHERE WHAT IT READS IS OF BULK AT MOST 1048576: true; the input reads as it did. -/
def timeidxFindsUptoRow : OpenClaim := { program := "ytlnjemdnmndnfaa", sum := "72100fcd0bba97f74d2eae93de40872100bb03e3985578f8178e78afd924982e", func := "gantry/gantrylaw11.TimeidxFinds", spec := "timeidxFinds", unfollowed := true, recurses := true, apart := false, narrowed := true }
def TimeidxFindsUptoSaid : Prop := timeidxFindsUptoRow.holds Try.pinned (OpenSpec.upto timeidxFindsSpec)

/-- 'gantrylaw11.TimeidxBounds', WHERE WHAT IT READS IS OF BULK AT MOST 1048576: true; the input reads as it did. -/
def timeidxBoundsUptoRow : OpenClaim := { program := "ytlnjemdnmndnfaa", sum := "72100fcd0bba97f74d2eae93de40872100bb03e3985578f8178e78afd924982e", func := "gantry/gantrylaw11.TimeidxBounds", spec := "timeidxBounds", unfollowed := true, recurses := true, apart := false, narrowed := true }
def TimeidxBoundsUptoSaid : Prop := timeidxBoundsUptoRow.holds Try.pinned (OpenSpec.upto timeidxBoundsSpec)

/-- 'gantrylaw11.TimeidxNone', WHERE WHAT IT READS IS OF BULK AT MOST 1048576: true; the input reads as it did. -/
def timeidxNoneUptoRow : OpenClaim := { program := "ytlnjemdnmndnfaa", sum := "72100fcd0bba97f74d2eae93de40872100bb03e3985578f8178e78afd924982e", func := "gantry/gantrylaw11.TimeidxNone", spec := "timeidxNone", inPlace := ["internal/abi.NoEscape"], unfollowed := true, recurses := true, apart := false, narrowed := true }
def TimeidxNoneUptoSaid : Prop := timeidxNoneUptoRow.holds Try.pinned (OpenSpec.upto timeidxNoneSpec)

/-- 'gantrylaw11.TimeidxReads', WHERE WHAT IT READS IS OF BULK AT MOST 1048576: true; the input reads as it did. -/
def timeidxReadsUptoRow : OpenClaim := { program := "ytlnjemdnmndnfaa", sum := "72100fcd0bba97f74d2eae93de40872100bb03e3985578f8178e78afd924982e", func := "gantry/gantrylaw11.TimeidxReads", spec := "timeidxReads", inPlace := ["internal/abi.NoEscape"], unfollowed := true, recurses := true, apart := false, narrowed := true }
def TimeidxReadsUptoSaid : Prop := timeidxReadsUptoRow.holds Try.pinned (OpenSpec.upto timeidxReadsSpec)

/-- 'gantrylaw11.TimeidxBack', WHERE WHAT IT READS IS OF BULK AT MOST 1048576: true; the input reads as it did. -/
def timeidxBackUptoRow : OpenClaim := { program := "ytlnjemdnmndnfaa", sum := "72100fcd0bba97f74d2eae93de40872100bb03e3985578f8178e78afd924982e", func := "gantry/gantrylaw11.TimeidxBack", spec := "timeidxBack", inPlace := ["internal/abi.NoEscape"], unfollowed := true, recurses := true, apart := false, narrowed := true }
def TimeidxBackUptoSaid : Prop := timeidxBackUptoRow.holds Try.pinned (OpenSpec.upto timeidxBackSpec)

/-- 'gantrylaw11.TimeidxPlays', WHERE WHAT IT READS IS OF BULK AT MOST 1048576: true; the input reads as it did. -/
def timeidxPlaysUptoRow : OpenClaim := { program := "ytlnjemdnmndnfaa", sum := "72100fcd0bba97f74d2eae93de40872100bb03e3985578f8178e78afd924982e", func := "gantry/gantrylaw11.TimeidxPlays", spec := "timeidxPlays", inPlace := ["internal/abi.NoEscape"], unfollowed := true, recurses := true, apart := false, narrowed := true }
def TimeidxPlaysUptoSaid : Prop := timeidxPlaysUptoRow.holds Try.pinned (OpenSpec.upto timeidxPlaysSpec)

end Rows
end Go.Proofs.Ytlnjemdnmndnfaa
