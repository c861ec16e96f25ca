/-
  No cell of these rows narrows 'for every input' (looked for: loops, veiled, ifaces, maps, wideKeys, modest, calm, conditions, laid).
  DERIVED. THE GIVEN ROWS OF THIS SEAT. 9 by the template 'for every input the law returns true; each argument reads behind the call as it read before'; 0 by the template 'total and deterministic' (their statements: YtmdjkpmjpngkdaaTotals.lean).
  GIVEN WITH THE SEED: the statements are not yours to turn. If you find one false, say at which input.
  Laid BY PROGRAM, IN A SANDBOX (cutbox-rows.mjs): the forced cells as the released guide's own fill.sh prints them over the translation 00534d4168a6d150… (all of the seat's roots in one cut). By AI agents, Wed Nov 11 2026. No macro, syntax, notation, axiom, sorry.
-/
import Derived.Test.YtmdjkpmjpngkdaaChecked
import GoSem.Claim
import GoSem.ClaimJoined
import GoSem.ClaimMapViews
import Derived.JoinedTies
import Derived.KernelRfl
namespace Go.Proofs.Ytmdjkpmjpngkdaa
/- THE CELL 'sum', in the pinned program and in every row, IS THE sha256 OF THE DUMP (.gsa) THAT YtmdjkpmjpngkdaaProg.lean LOADS. Nothing in Lean hashes anything: it is a label: what it is worth is what the hold of that sum in a sandbox is worth. -/
noncomputable def Try.pinned : Pinned := { name := "ytmdjkpmjpngkdaa", sum := "00534d4168a6d150cf4a7dbd1b54d262d832e1c1bb28e1279075212b1192887d", checked := Try.checked }
namespace Rows
def none {H : Type} : Left H := { results := [], args := [] }

/-- 'gantrylaw03.CrcSums': WHATEVER THE INPUT: true; the input reads as it did. -/
def crcSumsSpec : ChangeSpec := { name := "crcSums", fn := fun _ => fun
  | [d1, d2] => { results := [.lit (.bool true)], args := [d1, d2] }
  | _ => none }
def crcSumsRow : OpenClaim := { program := "ytmdjkpmjpngkdaa", sum := "00534d4168a6d150cf4a7dbd1b54d262d832e1c1bb28e1279075212b1192887d", func := "gantry/gantrylaw03.CrcSums", spec := "crcSums", apart := false }
def CrcSumsSaid : Prop := crcSumsRow.holds Try.pinned (OpenSpec.ofChange crcSumsSpec)

/-- ITS FALSE NEIGHBOUR: 'it returns false'. Refute it at one input. -/
def crcSumsWrong : ChangeSpec := { name := "crcSums", fn := fun _ => fun
  | [d1, d2] => { results := [.lit (.bool false)], args := [d1, d2] }
  | _ => none }
def CrcSumsWrongFalsely : Prop := crcSumsRow.holds Try.pinned (OpenSpec.ofChange crcSumsWrong)

/-- 'gantrylaw03.CrcFixes': WHATEVER THE INPUT: true; the input reads as it did. -/
def crcFixesSpec : ChangeSpec := { name := "crcFixes", fn := fun _ => fun
  | [d1, d2] => { results := [.lit (.bool true)], args := [d1, d2] }
  | _ => none }
def crcFixesRow : OpenClaim := { program := "ytmdjkpmjpngkdaa", sum := "00534d4168a6d150cf4a7dbd1b54d262d832e1c1bb28e1279075212b1192887d", func := "gantry/gantrylaw03.CrcFixes", spec := "crcFixes", apart := false }
def CrcFixesSaid : Prop := crcFixesRow.holds Try.pinned (OpenSpec.ofChange crcFixesSpec)

/-- ITS FALSE NEIGHBOUR: 'it returns false'. Refute it at one input. -/
def crcFixesWrong : ChangeSpec := { name := "crcFixes", fn := fun _ => fun
  | [d1, d2] => { results := [.lit (.bool false)], args := [d1, d2] }
  | _ => none }
def CrcFixesWrongFalsely : Prop := crcFixesRow.holds Try.pinned (OpenSpec.ofChange crcFixesWrong)

/-- 'gantrylaw03.CrcTable': WHATEVER THE INPUT: true; the input reads as it did. -/
def crcTableSpec : ChangeSpec := { name := "crcTable", fn := fun _ => fun
  | [] => { results := [.lit (.bool true)], args := [] }
  | _ => none }
def crcTableRow : OpenClaim := { program := "ytmdjkpmjpngkdaa", sum := "00534d4168a6d150cf4a7dbd1b54d262d832e1c1bb28e1279075212b1192887d", func := "gantry/gantrylaw03.CrcTable", spec := "crcTable", apart := false }
def CrcTableSaid : Prop := crcTableRow.holds Try.pinned (OpenSpec.ofChange crcTableSpec)

/-- ITS FALSE NEIGHBOUR: 'it returns false'. Refute it at one input. -/
def crcTableWrong : ChangeSpec := { name := "crcTable", fn := fun _ => fun
  | [] => { results := [.lit (.bool false)], args := [] }
  | _ => none }
def CrcTableWrongFalsely : Prop := crcTableRow.holds Try.pinned (OpenSpec.ofChange crcTableWrong)

/-- 'gantrylaw03.CrcTells': WHATEVER THE INPUT: true; the input reads as it did. -/
def crcTellsSpec : ChangeSpec := { name := "crcTells", fn := fun _ => fun
  | [d1, d2, d3] => { results := [.lit (.bool true)], args := [d1, d2, d3] }
  | _ => none }
def crcTellsRow : OpenClaim := { program := "ytmdjkpmjpngkdaa", sum := "00534d4168a6d150cf4a7dbd1b54d262d832e1c1bb28e1279075212b1192887d", func := "gantry/gantrylaw03.CrcTells", spec := "crcTells", apart := false }
def CrcTellsSaid : Prop := crcTellsRow.holds Try.pinned (OpenSpec.ofChange crcTellsSpec)

/-- ITS FALSE NEIGHBOUR: 'it returns false'. Refute it at one input. -/
def crcTellsWrong : ChangeSpec := { name := "crcTells", fn := fun _ => fun
  | [d1, d2, d3] => { results := [.lit (.bool false)], args := [d1, d2, d3] }
  | _ => none }
def CrcTellsWrongFalsely : Prop := crcTellsRow.holds Try.pinned (OpenSpec.ofChange crcTellsWrong)

/-- 'gantrylaw03.CrcForges': WHATEVER THE INPUT: true; the input reads as it did. -/
def crcForgesSpec : ChangeSpec := { name := "crcForges", fn := fun _ => fun
  | [d1, d2, d3] => { results := [.lit (.bool true)], args := [d1, d2, d3] }
  | _ => none }
def crcForgesRow : OpenClaim := { program := "ytmdjkpmjpngkdaa", sum := "00534d4168a6d150cf4a7dbd1b54d262d832e1c1bb28e1279075212b1192887d", func := "gantry/gantrylaw03.CrcForges", spec := "crcForges", apart := false }
def CrcForgesSaid : Prop := crcForgesRow.holds Try.pinned (OpenSpec.ofChange crcForgesSpec)

/-- ITS FALSE NEIGHBOUR: 'it returns false'. Refute it at one input. -/
def crcForgesWrong : ChangeSpec := { name := "crcForges", fn := fun _ => fun
  | [d1, d2, d3] => { results := [.lit (.bool false)], args := [d1, d2, d3] }
  | _ => none }
def CrcForgesWrongFalsely : Prop := crcForgesRow.holds Try.pinned (OpenSpec.ofChange crcForgesWrong)

/-- 'gantrylaw03.CrcJoins': WHATEVER THE INPUT: true; the input reads as it did. -/
def crcJoinsSpec : ChangeSpec := { name := "crcJoins", fn := fun _ => fun
  | [d1, d2, d3] => { results := [.lit (.bool true)], args := [d1, d2, d3] }
  | _ => none }
def crcJoinsRow : OpenClaim := { program := "ytmdjkpmjpngkdaa", sum := "00534d4168a6d150cf4a7dbd1b54d262d832e1c1bb28e1279075212b1192887d", func := "gantry/gantrylaw03.CrcJoins", spec := "crcJoins", apart := false }
def CrcJoinsSaid : Prop := crcJoinsRow.holds Try.pinned (OpenSpec.ofChange crcJoinsSpec)

/-- ITS FALSE NEIGHBOUR: 'it returns false'. Refute it at one input. -/
def crcJoinsWrong : ChangeSpec := { name := "crcJoins", fn := fun _ => fun
  | [d1, d2, d3] => { results := [.lit (.bool false)], args := [d1, d2, d3] }
  | _ => none }
def CrcJoinsWrongFalsely : Prop := crcJoinsRow.holds Try.pinned (OpenSpec.ofChange crcJoinsWrong)

/-- 'gantrylaw03.CrcPieces': WHATEVER THE INPUT: true; the input reads as it did. -/
def crcPiecesSpec : ChangeSpec := { name := "crcPieces", fn := fun _ => fun
  | [d1, d2] => { results := [.lit (.bool true)], args := [d1, d2] }
  | _ => none }
def crcPiecesRow : OpenClaim := { program := "ytmdjkpmjpngkdaa", sum := "00534d4168a6d150cf4a7dbd1b54d262d832e1c1bb28e1279075212b1192887d", func := "gantry/gantrylaw03.CrcPieces", spec := "crcPieces", apart := false }
def CrcPiecesSaid : Prop := crcPiecesRow.holds Try.pinned (OpenSpec.ofChange crcPiecesSpec)

/-- ITS FALSE NEIGHBOUR: 'it returns false'. Refute it at one input. -/
def crcPiecesWrong : ChangeSpec := { name := "crcPieces", fn := fun _ => fun
  | [d1, d2] => { results := [.lit (.bool false)], args := [d1, d2] }
  | _ => none }
def CrcPiecesWrongFalsely : Prop := crcPiecesRow.holds Try.pinned (OpenSpec.ofChange crcPiecesWrong)

/-- 'gantrylaw03.CrcLinear': WHATEVER THE INPUT: true; the input reads as it did. -/
def crcLinearSpec : ChangeSpec := { name := "crcLinear", fn := fun _ => fun
  | [d1, d2, d3] => { results := [.lit (.bool true)], args := [d1, d2, d3] }
  | _ => none }
def crcLinearRow : OpenClaim := { program := "ytmdjkpmjpngkdaa", sum := "00534d4168a6d150cf4a7dbd1b54d262d832e1c1bb28e1279075212b1192887d", func := "gantry/gantrylaw03.CrcLinear", spec := "crcLinear", apart := false }
def CrcLinearSaid : Prop := crcLinearRow.holds Try.pinned (OpenSpec.ofChange crcLinearSpec)

/-- ITS FALSE NEIGHBOUR: 'it returns false'. Refute it at one input. -/
def crcLinearWrong : ChangeSpec := { name := "crcLinear", fn := fun _ => fun
  | [d1, d2, d3] => { results := [.lit (.bool false)], args := [d1, d2, d3] }
  | _ => none }
def CrcLinearWrongFalsely : Prop := crcLinearRow.holds Try.pinned (OpenSpec.ofChange crcLinearWrong)

/-- 'gantrylaw03.CrcDigests': WHATEVER THE INPUT: true; the input reads as it did. -/
def crcDigestsSpec : ChangeSpec := { name := "crcDigests", fn := fun _ => fun
  | [d1, d2] => { results := [.lit (.bool true)], args := [d1, d2] }
  | _ => none }
def crcDigestsRow : OpenClaim := { program := "ytmdjkpmjpngkdaa", sum := "00534d4168a6d150cf4a7dbd1b54d262d832e1c1bb28e1279075212b1192887d", func := "gantry/gantrylaw03.CrcDigests", spec := "crcDigests", apart := false }
def CrcDigestsSaid : Prop := crcDigestsRow.holds Try.pinned (OpenSpec.ofChange crcDigestsSpec)

/-- ITS FALSE NEIGHBOUR: 'it returns false'. Refute it at one input. -/
def crcDigestsWrong : ChangeSpec := { name := "crcDigests", fn := fun _ => fun
  | [d1, d2] => { results := [.lit (.bool false)], args := [d1, d2] }
  | _ => none }
def CrcDigestsWrongFalsely : Prop := crcDigestsRow.holds Try.pinned (OpenSpec.ofChange crcDigestsWrong)

/- THE SECOND FORM. 'bulk': how many values and letters a reading holds, each counted each time it is reached (what is shared counts as often as it is met; a slice's spare places count too). A statement '..UptoSaid' is the law's where the arguments, and the package variables that the reading takes, are together of bulk at most 1048576: NARROWER than '..Said'. Prove '..Said' where nothing that the law and all that it calls make is longer than what came in: it says more and counts as full. Else prove '..UptoSaid'. A law counts once. -/
mutual
def uptoBulk {H : Type} : DataW H → Nat
  | .lit (.string bytes) => bytes.length + 1
  | .lit _ => 1
  | .nil => 1
  | .ptr d => uptoBulk d + 1
  | .slice elems spare => uptoBulkAll elems + uptoBulkAll spare + 1
  | .agg parts => uptoBulkAll parts + 1
  | .iface _ d => uptoBulk d + 1
  | .map entries => uptoBulkEntries entries + 1
  | .held _ => 1
def uptoBulkAll {H : Type} : List (DataW H) → Nat
  | [] => 0
  | d :: r => uptoBulk d + uptoBulkAll r
def uptoBulkEntries {H : Type} : List (Lit × DataW H) → Nat
  | [] => 0
  | x :: r => uptoBulkEntry x + uptoBulkEntries r
def uptoBulkEntry {H : Type} : Lit × DataW H → Nat
  | (.string bytes, d) => bytes.length + uptoBulk d + 1
  | (_, d) => uptoBulk d + 1
 end
def uptoSmall : (H : Type) → List (DataW H) → Bool := fun _ ds => decide (uptoBulkAll ds ≤ 1048576)
def OpenSpec.upto (s : _root_.Go.ChangeSpec) : _root_.Go.OpenSpec := { _root_.Go.OpenSpec.ofChange s with cond := some uptoSmall }

/-- 'gantrylaw03.CrcSums', WHERE WHAT IT READS IS OF BULK AT MOST 1048576: true; the input reads as it did. -/
def crcSumsUptoRow : OpenClaim := { program := "ytmdjkpmjpngkdaa", sum := "00534d4168a6d150cf4a7dbd1b54d262d832e1c1bb28e1279075212b1192887d", func := "gantry/gantrylaw03.CrcSums", spec := "crcSums", apart := false, narrowed := true }
def CrcSumsUptoSaid : Prop := crcSumsUptoRow.holds Try.pinned (OpenSpec.upto crcSumsSpec)

/-- 'gantrylaw03.CrcFixes', WHERE WHAT IT READS IS OF BULK AT MOST 1048576: true; the input reads as it did. -/
def crcFixesUptoRow : OpenClaim := { program := "ytmdjkpmjpngkdaa", sum := "00534d4168a6d150cf4a7dbd1b54d262d832e1c1bb28e1279075212b1192887d", func := "gantry/gantrylaw03.CrcFixes", spec := "crcFixes", apart := false, narrowed := true }
def CrcFixesUptoSaid : Prop := crcFixesUptoRow.holds Try.pinned (OpenSpec.upto crcFixesSpec)

/-- 'gantrylaw03.CrcTable', WHERE WHAT IT READS IS OF BULK AT MOST 1048576: true; the input reads as it did. -/
def crcTableUptoRow : OpenClaim := { program := "ytmdjkpmjpngkdaa", sum := "00534d4168a6d150cf4a7dbd1b54d262d832e1c1bb28e1279075212b1192887d", func := "gantry/gantrylaw03.CrcTable", spec := "crcTable", apart := false, narrowed := true }
def CrcTableUptoSaid : Prop := crcTableUptoRow.holds Try.pinned (OpenSpec.upto crcTableSpec)

/-- 'gantrylaw03.CrcTells', WHERE WHAT IT READS IS OF BULK AT MOST 1048576: true; the input reads as it did. -/
def crcTellsUptoRow : OpenClaim := { program := "ytmdjkpmjpngkdaa", sum := "00534d4168a6d150cf4a7dbd1b54d262d832e1c1bb28e1279075212b1192887d", func := "gantry/gantrylaw03.CrcTells", spec := "crcTells", apart := false, narrowed := true }
def CrcTellsUptoSaid : Prop := crcTellsUptoRow.holds Try.pinned (OpenSpec.upto crcTellsSpec)

/-- 'gantrylaw03.CrcForges', WHERE WHAT IT READS IS OF BULK AT MOST 1048576: true; the input reads as it did. -/
def crcForgesUptoRow : OpenClaim := { program := "ytmdjkpmjpngkdaa", sum := "00534d4168a6d150cf4a7dbd1b54d262d832e1c1bb28e1279075212b1192887d", func := "gantry/gantrylaw03.CrcForges", spec := "crcForges", apart := false, narrowed := true }
def CrcForgesUptoSaid : Prop := crcForgesUptoRow.holds Try.pinned (OpenSpec.upto crcForgesSpec)

/-- 'gantrylaw03.CrcJoins', WHERE WHAT IT READS IS OF BULK AT MOST 1048576: true; the input reads as it did. -/
def crcJoinsUptoRow : OpenClaim := { program := "ytmdjkpmjpngkdaa", sum := "00534d4168a6d150cf4a7dbd1b54d262d832e1c1bb28e1279075212b1192887d", func := "gantry/gantrylaw03.CrcJoins", spec := "crcJoins", apart := false, narrowed := true }
def CrcJoinsUptoSaid : Prop := crcJoinsUptoRow.holds Try.pinned (OpenSpec.upto crcJoinsSpec)

/-- 'gantrylaw03.CrcPieces', WHERE WHAT IT READS IS OF BULK AT MOST 1048576: true; the input reads as it did. -/
def crcPiecesUptoRow : OpenClaim := { program := "ytmdjkpmjpngkdaa", sum := "00534d4168a6d150cf4a7dbd1b54d262d832e1c1bb28e1279075212b1192887d", func := "gantry/gantrylaw03.CrcPieces", spec := "crcPieces", apart := false, narrowed := true }
def CrcPiecesUptoSaid : Prop := crcPiecesUptoRow.holds Try.pinned (OpenSpec.upto crcPiecesSpec)

/-- 'gantrylaw03.CrcLinear', WHERE WHAT IT READS IS OF BULK AT MOST 1048576: true; the input reads as it did. -/
def crcLinearUptoRow : OpenClaim := { program := "ytmdjkpmjpngkdaa", sum := "00534d4168a6d150cf4a7dbd1b54d262d832e1c1bb28e1279075212b1192887d", func := "gantry/gantrylaw03.CrcLinear", spec := "crcLinear", apart := false, narrowed := true }
def CrcLinearUptoSaid : Prop := crcLinearUptoRow.holds Try.pinned (OpenSpec.upto crcLinearSpec)

/-- 'gantrylaw03.CrcDigests', WHERE WHAT IT READS IS OF BULK AT MOST 1048576: true; the input reads as it did. -/
def crcDigestsUptoRow : OpenClaim := { program := "ytmdjkpmjpngkdaa", sum := "00534d4168a6d150cf4a7dbd1b54d262d832e1c1bb28e1279075212b1192887d", func := "gantry/gantrylaw03.CrcDigests", spec := "crcDigests", apart := false, narrowed := true }
def CrcDigestsUptoSaid : Prop := crcDigestsUptoRow.holds Try.pinned (OpenSpec.upto crcDigestsSpec)

end Rows
end Go.Proofs.Ytmdjkpmjpngkdaa
