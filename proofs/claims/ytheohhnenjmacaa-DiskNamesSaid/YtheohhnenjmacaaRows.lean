/-
  No cell of these rows narrows 'for every input' (looked for: loops, veiled, ifaces, maps, wideKeys, modest, calm, conditions, laid).
  DERIVED. THE GIVEN ROWS OF THIS SEAT. 9 by the template 'for every input the law returns true; each argument reads behind the call as it read before'; 0 by the template 'total and deterministic' (their statements: YtheohhnenjmacaaTotals.lean).
  GIVEN WITH THE SEED: the statements are not yours to turn. If you find one false, say at which input.
  Laid BY PROGRAM, IN A SANDBOX (cutbox-rows.mjs): the forced cells as the released guide's own fill.sh prints them over the translation 053cc69a8f77cfe1… (all of the seat's roots in one cut). By AI agents, Wed Nov 11 2026. No macro, syntax, notation, axiom, sorry.
-/
import Derived.Test.YtheohhnenjmacaaChecked
import GoSem.Claim
import GoSem.ClaimJoined
import GoSem.ClaimMapViews
import Derived.JoinedTies
import Derived.KernelRfl
namespace Go.Proofs.Ytheohhnenjmacaa
/- THE CELL 'sum', in the pinned program and in every row, IS THE sha256 OF THE DUMP (.gsa) THAT YtheohhnenjmacaaProg.lean LOADS. Nothing in Lean hashes anything: it is a label: what it is worth is what the hold of that sum in a sandbox is worth. -/
noncomputable def Try.pinned : Pinned := { name := "ytheohhnenjmacaa", sum := "053cc69a8f77cfe18aef8aafa111df0d157f5acd90ae3966b236977b8aace851", checked := Try.checked }
namespace Rows
def none {H : Type} : Left H := { results := [], args := [] }

/-- 'gantrylaw07.DiskNames': WHATEVER THE INPUT: true; the input reads as it did. -/
def diskNamesSpec : ChangeSpec := { name := "diskNames", fn := fun _ => fun
  | [] => { results := [.lit (.bool true)], args := [] }
  | _ => none }
def diskNamesRow : OpenClaim := { program := "ytheohhnenjmacaa", sum := "053cc69a8f77cfe18aef8aafa111df0d157f5acd90ae3966b236977b8aace851", func := "gantry/gantrylaw07.DiskNames", spec := "diskNames", apart := false }
def DiskNamesSaid : Prop := diskNamesRow.holds Try.pinned (OpenSpec.ofChange diskNamesSpec)

/-- ITS FALSE NEIGHBOUR: 'it returns false'. Refute it at one input. -/
def diskNamesWrong : ChangeSpec := { name := "diskNames", fn := fun _ => fun
  | [] => { results := [.lit (.bool false)], args := [] }
  | _ => none }
def DiskNamesWrongFalsely : Prop := diskNamesRow.holds Try.pinned (OpenSpec.ofChange diskNamesWrong)

/-- 'gantrylaw07.DiskSafe': WHATEVER THE INPUT: true; the input reads as it did. -/
def diskSafeSpec : ChangeSpec := { name := "diskSafe", fn := fun _ => fun
  | [d1, d2, d3, d4, d5] => { results := [.lit (.bool true)], args := [d1, d2, d3, d4, d5] }
  | _ => none }
def diskSafeRow : OpenClaim := { program := "ytheohhnenjmacaa", sum := "053cc69a8f77cfe18aef8aafa111df0d157f5acd90ae3966b236977b8aace851", func := "gantry/gantrylaw07.DiskSafe", spec := "diskSafe", apart := false }
def DiskSafeSaid : Prop := diskSafeRow.holds Try.pinned (OpenSpec.ofChange diskSafeSpec)

/-- ITS FALSE NEIGHBOUR: 'it returns false'. Refute it at one input. -/
def diskSafeWrong : ChangeSpec := { name := "diskSafe", fn := fun _ => fun
  | [d1, d2, d3, d4, d5] => { results := [.lit (.bool false)], args := [d1, d2, d3, d4, d5] }
  | _ => none }
def DiskSafeWrongFalsely : Prop := diskSafeRow.holds Try.pinned (OpenSpec.ofChange diskSafeWrong)

/-- 'gantrylaw07.DiskMost': WHATEVER THE INPUT: true; the input reads as it did. -/
def diskMostSpec : ChangeSpec := { name := "diskMost", fn := fun _ => fun
  | [] => { results := [.lit (.bool true)], args := [] }
  | _ => none }
def diskMostRow : OpenClaim := { program := "ytheohhnenjmacaa", sum := "053cc69a8f77cfe18aef8aafa111df0d157f5acd90ae3966b236977b8aace851", func := "gantry/gantrylaw07.DiskMost", spec := "diskMost", unfollowed := true, recurses := true, apart := false }
def DiskMostSaid : Prop := diskMostRow.holds Try.pinned (OpenSpec.ofChange diskMostSpec)

/-- ITS FALSE NEIGHBOUR: 'it returns false'. Refute it at one input. -/
def diskMostWrong : ChangeSpec := { name := "diskMost", fn := fun _ => fun
  | [] => { results := [.lit (.bool false)], args := [] }
  | _ => none }
def DiskMostWrongFalsely : Prop := diskMostRow.holds Try.pinned (OpenSpec.ofChange diskMostWrong)

/-- 'gantrylaw07.DiskFaces': WHATEVER THE INPUT: true; the input reads as it did. -/
def diskFacesSpec : ChangeSpec := { name := "diskFaces", fn := fun _ => fun
  | [d1, d2] => { results := [.lit (.bool true)], args := [d1, d2] }
  | _ => none }
def diskFacesRow : OpenClaim := { program := "ytheohhnenjmacaa", sum := "053cc69a8f77cfe18aef8aafa111df0d157f5acd90ae3966b236977b8aace851", func := "gantry/gantrylaw07.DiskFaces", spec := "diskFaces", unfollowed := true, recurses := true, apart := false }
def DiskFacesSaid : Prop := diskFacesRow.holds Try.pinned (OpenSpec.ofChange diskFacesSpec)

/-- ITS FALSE NEIGHBOUR: 'it returns false'. Refute it at one input. -/
def diskFacesWrong : ChangeSpec := { name := "diskFaces", fn := fun _ => fun
  | [d1, d2] => { results := [.lit (.bool false)], args := [d1, d2] }
  | _ => none }
def DiskFacesWrongFalsely : Prop := diskFacesRow.holds Try.pinned (OpenSpec.ofChange diskFacesWrong)

/-- 'gantrylaw07.DiskKeeps': WHATEVER THE INPUT: true; the input reads as it did. -/
def diskKeepsSpec : ChangeSpec := { name := "diskKeeps", fn := fun _ => fun
  | [d1, d2, d3] => { results := [.lit (.bool true)], args := [d1, d2, d3] }
  | _ => none }
def diskKeepsRow : OpenClaim := { program := "ytheohhnenjmacaa", sum := "053cc69a8f77cfe18aef8aafa111df0d157f5acd90ae3966b236977b8aace851", func := "gantry/gantrylaw07.DiskKeeps", spec := "diskKeeps", unfollowed := true, recurses := true, apart := false }
def DiskKeepsSaid : Prop := diskKeepsRow.holds Try.pinned (OpenSpec.ofChange diskKeepsSpec)

/-- ITS FALSE NEIGHBOUR: 'it returns false'. Refute it at one input. -/
def diskKeepsWrong : ChangeSpec := { name := "diskKeeps", fn := fun _ => fun
  | [d1, d2, d3] => { results := [.lit (.bool false)], args := [d1, d2, d3] }
  | _ => none }
def DiskKeepsWrongFalsely : Prop := diskKeepsRow.holds Try.pinned (OpenSpec.ofChange diskKeepsWrong)

/-- 'gantrylaw07.DiskRoom': WHATEVER THE INPUT: true; the input reads as it did. -/
def diskRoomSpec : ChangeSpec := { name := "diskRoom", fn := fun _ => fun
  | [d1, d2] => { results := [.lit (.bool true)], args := [d1, d2] }
  | _ => none }
def diskRoomRow : OpenClaim := { program := "ytheohhnenjmacaa", sum := "053cc69a8f77cfe18aef8aafa111df0d157f5acd90ae3966b236977b8aace851", func := "gantry/gantrylaw07.DiskRoom", spec := "diskRoom", unfollowed := true, recurses := true, apart := false }
def DiskRoomSaid : Prop := diskRoomRow.holds Try.pinned (OpenSpec.ofChange diskRoomSpec)

/-- ITS FALSE NEIGHBOUR: 'it returns false'. Refute it at one input. -/
def diskRoomWrong : ChangeSpec := { name := "diskRoom", fn := fun _ => fun
  | [d1, d2] => { results := [.lit (.bool false)], args := [d1, d2] }
  | _ => none }
def DiskRoomWrongFalsely : Prop := diskRoomRow.holds Try.pinned (OpenSpec.ofChange diskRoomWrong)

/-- 'gantrylaw07.DiskPlays': WHATEVER THE INPUT: true; the input reads as it did. -/
def diskPlaysSpec : ChangeSpec := { name := "diskPlays", fn := fun _ => fun
  | [d1, d2] => { results := [.lit (.bool true)], args := [d1, d2] }
  | _ => none }
def diskPlaysRow : OpenClaim := { program := "ytheohhnenjmacaa", sum := "053cc69a8f77cfe18aef8aafa111df0d157f5acd90ae3966b236977b8aace851", func := "gantry/gantrylaw07.DiskPlays", spec := "diskPlays", unfollowed := true, recurses := true, apart := false }
def DiskPlaysSaid : Prop := diskPlaysRow.holds Try.pinned (OpenSpec.ofChange diskPlaysSpec)

/-- ITS FALSE NEIGHBOUR: 'it returns false'. Refute it at one input. -/
def diskPlaysWrong : ChangeSpec := { name := "diskPlays", fn := fun _ => fun
  | [d1, d2] => { results := [.lit (.bool false)], args := [d1, d2] }
  | _ => none }
def DiskPlaysWrongFalsely : Prop := diskPlaysRow.holds Try.pinned (OpenSpec.ofChange diskPlaysWrong)

/-- 'gantrylaw07.DiskClones': WHATEVER THE INPUT: true; the input reads as it did. -/
def diskClonesSpec : ChangeSpec := { name := "diskClones", fn := fun _ => fun
  | [d1, d2, d3] => { results := [.lit (.bool true)], args := [d1, d2, d3] }
  | _ => none }
def diskClonesRow : OpenClaim := { program := "ytheohhnenjmacaa", sum := "053cc69a8f77cfe18aef8aafa111df0d157f5acd90ae3966b236977b8aace851", func := "gantry/gantrylaw07.DiskClones", spec := "diskClones", unfollowed := true, recurses := true, apart := false }
def DiskClonesSaid : Prop := diskClonesRow.holds Try.pinned (OpenSpec.ofChange diskClonesSpec)

/-- ITS FALSE NEIGHBOUR: 'it returns false'. Refute it at one input. -/
def diskClonesWrong : ChangeSpec := { name := "diskClones", fn := fun _ => fun
  | [d1, d2, d3] => { results := [.lit (.bool false)], args := [d1, d2, d3] }
  | _ => none }
def DiskClonesWrongFalsely : Prop := diskClonesRow.holds Try.pinned (OpenSpec.ofChange diskClonesWrong)

/-- 'gantrylaw07.DiskNone': WHATEVER THE INPUT: true; the input reads as it did. -/
def diskNoneSpec : ChangeSpec := { name := "diskNone", fn := fun _ => fun
  | [d] => { results := [.lit (.bool true)], args := [d] }
  | _ => none }
def diskNoneRow : OpenClaim := { program := "ytheohhnenjmacaa", sum := "053cc69a8f77cfe18aef8aafa111df0d157f5acd90ae3966b236977b8aace851", func := "gantry/gantrylaw07.DiskNone", spec := "diskNone", unfollowed := true, recurses := true, apart := false }
def DiskNoneSaid : Prop := diskNoneRow.holds Try.pinned (OpenSpec.ofChange diskNoneSpec)

/-- ITS FALSE NEIGHBOUR: 'it returns false'. Refute it at one input. -/
def diskNoneWrong : ChangeSpec := { name := "diskNone", fn := fun _ => fun
  | [d] => { results := [.lit (.bool false)], args := [d] }
  | _ => none }
def DiskNoneWrongFalsely : Prop := diskNoneRow.holds Try.pinned (OpenSpec.ofChange diskNoneWrong)

/- THE SECOND FORM. 'bulk': how many values and letters a reading holds, each counted each time it is reached (what is shared counts as often as it is met; a slice's spare places count too). A statement '..UptoSaid' is the law's where the arguments, and the package variables that the reading takes, are together of bulk at most 1048576: NARROWER than '..Said'. Prove '..Said' where nothing that the law and all that it calls make is longer than what came in: it says more and counts as full. Else prove '..UptoSaid'. A law counts once. -/
mutual
def uptoBulk {H : Type} : DataW H → Nat
  | .lit (.string bytes) => bytes.length + 1
  | .lit _ => 1
  | .nil => 1
  | .ptr d => uptoBulk d + 1
  | .slice elems spare => uptoBulkAll elems + uptoBulkAll spare + 1
  | .agg parts => uptoBulkAll parts + 1
  | .iface _ d => uptoBulk d + 1
  | .map entries => uptoBulkEntries entries + 1
  | .held _ => 1
def uptoBulkAll {H : Type} : List (DataW H) → Nat
  | [] => 0
  | d :: r => uptoBulk d + uptoBulkAll r
def uptoBulkEntries {H : Type} : List (Lit × DataW H) → Nat
  | [] => 0
  | x :: r => uptoBulkEntry x + uptoBulkEntries r
def uptoBulkEntry {H : Type} : Lit × DataW H → Nat
  | (.string bytes, d) => bytes.length + uptoBulk d + 1
  | (_, d) => uptoBulk d + 1
 end
def uptoSmall : (H : Type) → List (DataW H) → Bool := fun _ ds => decide (uptoBulkAll ds ≤ 1048576)
def OpenSpec.upto (s : _root_.Go.ChangeSpec) : _root_.Go.OpenSpec := { _root_.Go.OpenSpec.ofChange s with cond := some uptoSmall }

/-- 'gantrylaw07.DiskNames', WHERE WHAT IT READS IS OF BULK AT MOST 1048576: true; the input reads as it did. -/
def diskNamesUptoRow : OpenClaim := { program := "ytheohhnenjmacaa", sum := "053cc69a8f77cfe18aef8aafa111df0d157f5acd90ae3966b236977b8aace851", func := "gantry/gantrylaw07.DiskNames", spec := "diskNames", apart := false, narrowed := true }
def DiskNamesUptoSaid : Prop := diskNamesUptoRow.holds Try.pinned (OpenSpec.upto diskNamesSpec)

/-- 'gantrylaw07.DiskSafe', WHERE WHAT IT READS IS OF BULK AT MOST 1048576: true; the input reads as it did. -/
def diskSafeUptoRow : OpenClaim := { program := "ytheohhnenjmacaa", sum := "053cc69a8f77cfe18aef8aafa111df0d157f5acd90ae3966b236977b8aace851", func := "gantry/gantrylaw07.DiskSafe", spec := "diskSafe", apart := false, narrowed := true }
def DiskSafeUptoSaid : Prop := diskSafeUptoRow.holds Try.pinned (OpenSpec.upto diskSafeSpec)

/-- 'gantrylaw07.DiskMost', WHERE WHAT IT READS IS OF BULK AT MOST 1048576: true; the input reads as it did. -/
def diskMostUptoRow : OpenClaim := { program := "ytheohhnenjmacaa", sum := "053cc69a8f77cfe18aef8aafa111df0d157f5acd90ae3966b236977b8aace851", func := "gantry/gantrylaw07.DiskMost", spec := "diskMost", unfollowed := true, recurses := true, apart := false, narrowed := true }
def DiskMostUptoSaid : Prop := diskMostUptoRow.holds Try.pinned (OpenSpec.upto diskMostSpec)

/-- 'gantrylaw07.DiskFaces', WHERE WHAT IT READS IS OF BULK AT MOST 1048576: true; the input reads as it did. -/
def diskFacesUptoRow : OpenClaim := { program := "ytheohhnenjmacaa", sum := "053cc69a8f77cfe18aef8aafa111df0d157f5acd90ae3966b236977b8aace851", func := "gantry/gantrylaw07.DiskFaces", spec := "diskFaces", unfollowed := true, recurses := true, apart := false, narrowed := true }
def DiskFacesUptoSaid : Prop := diskFacesUptoRow.holds Try.pinned (OpenSpec.upto diskFacesSpec)

/-- 'gantrylaw07.DiskKeeps', WHERE WHAT IT READS IS OF BULK AT MOST 1048576: true; the input reads as it did. -/
def diskKeepsUptoRow : OpenClaim := { program := "ytheohhnenjmacaa", sum := "053cc69a8f77cfe18aef8aafa111df0d157f5acd90ae3966b236977b8aace851", func := "gantry/gantrylaw07.DiskKeeps", spec := "diskKeeps", unfollowed := true, recurses := true, apart := false, narrowed := true }
def DiskKeepsUptoSaid : Prop := diskKeepsUptoRow.holds Try.pinned (OpenSpec.upto diskKeepsSpec)

/-- 'gantrylaw07.DiskRoom', WHERE WHAT IT READS IS OF BULK AT MOST 1048576: true; the input reads as it did. -/
def diskRoomUptoRow : OpenClaim := { program := "ytheohhnenjmacaa", sum := "053cc69a8f77cfe18aef8aafa111df0d157f5acd90ae3966b236977b8aace851", func := "gantry/gantrylaw07.DiskRoom", spec := "diskRoom", unfollowed := true, recurses := true, apart := false, narrowed := true }
def DiskRoomUptoSaid : Prop := diskRoomUptoRow.holds Try.pinned (OpenSpec.upto diskRoomSpec)

/-- 'gantrylaw07.DiskPlays', WHERE WHAT IT READS IS OF BULK AT MOST 1048576: true; the input reads as it did. -/
def diskPlaysUptoRow : OpenClaim := { program := "ytheohhnenjmacaa", sum := "053cc69a8f77cfe18aef8aafa111df0d157f5acd90ae3966b236977b8aace851", func := "gantry/gantrylaw07.DiskPlays", spec := "diskPlays", unfollowed := true, recurses := true, apart := false, narrowed := true }
def DiskPlaysUptoSaid : Prop := diskPlaysUptoRow.holds Try.pinned (OpenSpec.upto diskPlaysSpec)

/-- 'gantrylaw07.DiskClones', WHERE WHAT IT READS IS OF BULK AT MOST 1048576: true; the input reads as it did. -/
def diskClonesUptoRow : OpenClaim := { program := "ytheohhnenjmacaa", sum := "053cc69a8f77cfe18aef8aafa111df0d157f5acd90ae3966b236977b8aace851", func := "gantry/gantrylaw07.DiskClones", spec := "diskClones", unfollowed := true, recurses := true, apart := false, narrowed := true }
def DiskClonesUptoSaid : Prop := diskClonesUptoRow.holds Try.pinned (OpenSpec.upto diskClonesSpec)

/-- 'gantrylaw07.DiskNone', WHERE WHAT IT READS IS OF BULK AT MOST 1048576: true; the input reads as it did. -/
def diskNoneUptoRow : OpenClaim := { program := "ytheohhnenjmacaa", sum := "053cc69a8f77cfe18aef8aafa111df0d157f5acd90ae3966b236977b8aace851", func := "gantry/gantrylaw07.DiskNone", spec := "diskNone", unfollowed := true, recurses := true, apart := false, narrowed := true }
def DiskNoneUptoSaid : Prop := diskNoneUptoRow.holds Try.pinned (OpenSpec.upto diskNoneSpec)

end Rows
end Go.Proofs.Ytheohhnenjmacaa
