/-
  No cell of these rows narrows 'for every input' (looked for: loops, veiled, ifaces, maps, wideKeys, modest, calm, conditions, laid).
  DERIVED. THE GIVEN ROWS OF THIS SEAT. 7 by the template 'for every input the law returns true; each argument reads behind the call as it read before'; 0 by the template 'total and deterministic' (their statements: YtgjpaglkcpomnaaTotals.lean).
  GIVEN WITH THE SEED: the statements are not yours to turn. If you find one false, say at which input.
  Laid BY PROGRAM, IN A SANDBOX (cutbox-rows.mjs): the forced cells as the released guide's own fill.sh prints them over the translation da5a163aa0f70447… (all of the seat's roots in one cut). By AI agents, Wed Nov 11 2026. No macro, syntax, notation, axiom, sorry.
-/
import Derived.Test.YtgjpaglkcpomnaaChecked
import GoSem.Claim
import GoSem.ClaimJoined
import GoSem.ClaimMapViews
import Derived.JoinedTies
import Derived.KernelRfl
namespace Go.Proofs.Ytgjpaglkcpomnaa
/- THE CELL 'sum', in the pinned program and in every row, IS THE sha256 OF THE DUMP (.gsa) THAT YtgjpaglkcpomnaaProg.lean LOADS. Nothing in Lean hashes anything: it is a label: what it is worth is what the hold of that sum in a sandbox is worth. -/
noncomputable def Try.pinned : Pinned := { name := "ytgjpaglkcpomnaa", sum := "da5a163aa0f70447cba72cd1e981f03880bccfc35712b17ec33499e0f6b3ea61", checked := Try.checked }
namespace Rows
def none {H : Type} : Left H := { results := [], args := [] }

/-- 'gantrylaw10.OffidxNames': WHATEVER THE INPUT: true; the input reads as it did. -/
def offidxNamesSpec : ChangeSpec := { name := "offidxNames", fn := fun _ => fun
  | [] => { results := [.lit (.bool true)], args := [] }
  | _ => none }
def offidxNamesRow : OpenClaim := { program := "ytgjpaglkcpomnaa", sum := "da5a163aa0f70447cba72cd1e981f03880bccfc35712b17ec33499e0f6b3ea61", func := "gantry/gantrylaw10.OffidxNames", spec := "offidxNames", apart := false }
def OffidxNamesSaid : Prop := offidxNamesRow.holds Try.pinned (OpenSpec.ofChange offidxNamesSpec)

/-- ITS FALSE NEIGHBOUR: 'it returns false'. Refute it at one input. -/
def offidxNamesWrong : ChangeSpec := { name := "offidxNames", fn := fun _ => fun
  | [] => { results := [.lit (.bool false)], args := [] }
  | _ => none }
def OffidxNamesWrongFalsely : Prop := offidxNamesRow.holds Try.pinned (OpenSpec.ofChange offidxNamesWrong)

/-- 'gantrylaw10.OffidxFinds': WHATEVER THE INPUT: true; the input reads as it did. -/
def offidxFindsSpec : ChangeSpec := { name := "offidxFinds", fn := fun _ => fun
  | [d1, d2] => { results := [.lit (.bool true)], args := [d1, d2] }
  | _ => none }
def offidxFindsRow : OpenClaim := { program := "ytgjpaglkcpomnaa", sum := "da5a163aa0f70447cba72cd1e981f03880bccfc35712b17ec33499e0f6b3ea61", func := "gantry/gantrylaw10.OffidxFinds", spec := "offidxFinds", apart := false }
def OffidxFindsSaid : Prop := offidxFindsRow.holds Try.pinned (OpenSpec.ofChange offidxFindsSpec)

/-- ITS FALSE NEIGHBOUR: 'it returns false'. Refute it at one input. -/
def offidxFindsWrong : ChangeSpec := { name := "offidxFinds", fn := fun _ => fun
  | [d1, d2] => { results := [.lit (.bool false)], args := [d1, d2] }
  | _ => none }
def OffidxFindsWrongFalsely : Prop := offidxFindsRow.holds Try.pinned (OpenSpec.ofChange offidxFindsWrong)

/-- 'gantrylaw10.OffidxPlays': WHATEVER THE INPUT: true; the input reads as it did. -/
def offidxPlaysSpec : ChangeSpec := { name := "offidxPlays", fn := fun _ => fun
  | [d] => { results := [.lit (.bool true)], args := [d] }
  | _ => none }
def offidxPlaysRow : OpenClaim := { program := "ytgjpaglkcpomnaa", sum := "da5a163aa0f70447cba72cd1e981f03880bccfc35712b17ec33499e0f6b3ea61", func := "gantry/gantrylaw10.OffidxPlays", spec := "offidxPlays", apart := false }
def OffidxPlaysSaid : Prop := offidxPlaysRow.holds Try.pinned (OpenSpec.ofChange offidxPlaysSpec)

/-- ITS FALSE NEIGHBOUR: 'it returns false'. Refute it at one input. -/
def offidxPlaysWrong : ChangeSpec := { name := "offidxPlays", fn := fun _ => fun
  | [d] => { results := [.lit (.bool false)], args := [d] }
  | _ => none }
def OffidxPlaysWrongFalsely : Prop := offidxPlaysRow.holds Try.pinned (OpenSpec.ofChange offidxPlaysWrong)

/-- 'gantrylaw10.OffidxNone': WHATEVER THE INPUT: true; the input reads as it did. -/
def offidxNoneSpec : ChangeSpec := { name := "offidxNone", fn := fun _ => fun
  | [d] => { results := [.lit (.bool true)], args := [d] }
  | _ => none }
def offidxNoneRow : OpenClaim := { program := "ytgjpaglkcpomnaa", sum := "da5a163aa0f70447cba72cd1e981f03880bccfc35712b17ec33499e0f6b3ea61", func := "gantry/gantrylaw10.OffidxNone", spec := "offidxNone", apart := false }
def OffidxNoneSaid : Prop := offidxNoneRow.holds Try.pinned (OpenSpec.ofChange offidxNoneSpec)

/-- ITS FALSE NEIGHBOUR: 'it returns false'. Refute it at one input. -/
def offidxNoneWrong : ChangeSpec := { name := "offidxNone", fn := fun _ => fun
  | [d] => { results := [.lit (.bool false)], args := [d] }
  | _ => none }
def OffidxNoneWrongFalsely : Prop := offidxNoneRow.holds Try.pinned (OpenSpec.ofChange offidxNoneWrong)

/-- 'gantrylaw10.OffidxKeeps': WHATEVER THE INPUT: true; the input reads as it did. -/
def offidxKeepsSpec : ChangeSpec := { name := "offidxKeeps", fn := fun _ => fun
  | [d] => { results := [.lit (.bool true)], args := [d] }
  | _ => none }
def offidxKeepsRow : OpenClaim := { program := "ytgjpaglkcpomnaa", sum := "da5a163aa0f70447cba72cd1e981f03880bccfc35712b17ec33499e0f6b3ea61", func := "gantry/gantrylaw10.OffidxKeeps", spec := "offidxKeeps", unfollowed := true, recurses := true, apart := false }
def OffidxKeepsSaid : Prop := offidxKeepsRow.holds Try.pinned (OpenSpec.ofChange offidxKeepsSpec)

/-- ITS FALSE NEIGHBOUR: 'it returns false'. Refute it at one input. -/
def offidxKeepsWrong : ChangeSpec := { name := "offidxKeeps", fn := fun _ => fun
  | [d] => { results := [.lit (.bool false)], args := [d] }
  | _ => none }
def OffidxKeepsWrongFalsely : Prop := offidxKeepsRow.holds Try.pinned (OpenSpec.ofChange offidxKeepsWrong)

/-- 'gantrylaw10.OffidxBytes': WHATEVER THE INPUT: true; the input reads as it did. -/
def offidxBytesSpec : ChangeSpec := { name := "offidxBytes", fn := fun _ => fun
  | [d1, d2] => { results := [.lit (.bool true)], args := [d1, d2] }
  | _ => none }
def offidxBytesRow : OpenClaim := { program := "ytgjpaglkcpomnaa", sum := "da5a163aa0f70447cba72cd1e981f03880bccfc35712b17ec33499e0f6b3ea61", func := "gantry/gantrylaw10.OffidxBytes", spec := "offidxBytes", unfollowed := true, recurses := true, apart := false }
def OffidxBytesSaid : Prop := offidxBytesRow.holds Try.pinned (OpenSpec.ofChange offidxBytesSpec)

/-- ITS FALSE NEIGHBOUR: 'it returns false'. Refute it at one input. -/
def offidxBytesWrong : ChangeSpec := { name := "offidxBytes", fn := fun _ => fun
  | [d1, d2] => { results := [.lit (.bool false)], args := [d1, d2] }
  | _ => none }
def OffidxBytesWrongFalsely : Prop := offidxBytesRow.holds Try.pinned (OpenSpec.ofChange offidxBytesWrong)

/-- 'gantrylaw10.OffidxBacks': WHATEVER THE INPUT: true; the input reads as it did. -/
def offidxBacksSpec : ChangeSpec := { name := "offidxBacks", fn := fun _ => fun
  | [d1, d2, d3] => { results := [.lit (.bool true)], args := [d1, d2, d3] }
  | _ => none }
def offidxBacksRow : OpenClaim := { program := "ytgjpaglkcpomnaa", sum := "da5a163aa0f70447cba72cd1e981f03880bccfc35712b17ec33499e0f6b3ea61", func := "gantry/gantrylaw10.OffidxBacks", spec := "offidxBacks", unfollowed := true, recurses := true, apart := false }
def OffidxBacksSaid : Prop := offidxBacksRow.holds Try.pinned (OpenSpec.ofChange offidxBacksSpec)

/-- ITS FALSE NEIGHBOUR: 'it returns false'. Refute it at one input. -/
def offidxBacksWrong : ChangeSpec := { name := "offidxBacks", fn := fun _ => fun
  | [d1, d2, d3] => { results := [.lit (.bool false)], args := [d1, d2, d3] }
  | _ => none }
def OffidxBacksWrongFalsely : Prop := offidxBacksRow.holds Try.pinned (OpenSpec.ofChange offidxBacksWrong)

/- THE SECOND FORM. 'bulk': how many values and letters a reading holds, each counted each time it is reached (what is shared counts as often as it is met; a slice's spare places count too). A statement '..UptoSaid' is the law's where the arguments, and the package variables that the reading takes, are together of bulk at most 1048576: NARROWER than '..Said'. Prove '..Said' where nothing that the law and all that it calls make is longer than what came in: it says more and counts as full. Else prove '..UptoSaid'. A law counts once. -/
mutual
def uptoBulk {H : Type} : DataW H → Nat
  | .lit (.string bytes) => bytes.length + 1
  | .lit _ => 1
  | .nil => 1
  | .ptr d => uptoBulk d + 1
  | .slice elems spare => uptoBulkAll elems + uptoBulkAll spare + 1
  | .agg parts => uptoBulkAll parts + 1
  | .iface _ d => uptoBulk d + 1
  | .map entries => uptoBulkEntries entries + 1
  | .held _ => 1
def uptoBulkAll {H : Type} : List (DataW H) → Nat
  | [] => 0
  | d :: r => uptoBulk d + uptoBulkAll r
def uptoBulkEntries {H : Type} : List (Lit × DataW H) → Nat
  | [] => 0
  | x :: r => uptoBulkEntry x + uptoBulkEntries r
def uptoBulkEntry {H : Type} : Lit × DataW H → Nat
  | (.string bytes, d) => bytes.length + uptoBulk d + 1
  | (_, d) => uptoBulk d + 1
 end
def uptoSmall : (H : Type) → List (DataW H) → Bool := fun _ ds => decide (uptoBulkAll ds ≤ 1048576)
def OpenSpec.upto (s : _root_.Go.ChangeSpec) : _root_.Go.OpenSpec := { _root_.Go.OpenSpec.ofChange s with cond := some uptoSmall }

/-- 'gantrylaw10.OffidxNames', WHERE WHAT IT READS IS OF BULK AT MOST 1048576: true; the input reads as it did. -/
def offidxNamesUptoRow : OpenClaim := { program := "ytgjpaglkcpomnaa", sum := "da5a163aa0f70447cba72cd1e981f03880bccfc35712b17ec33499e0f6b3ea61", func := "gantry/gantrylaw10.OffidxNames", spec := "offidxNames", apart := false, narrowed := true }
def OffidxNamesUptoSaid : Prop := offidxNamesUptoRow.holds Try.pinned (OpenSpec.upto offidxNamesSpec)

/-- 'gantrylaw10.OffidxFinds', WHERE WHAT IT READS IS OF BULK AT MOST 1048576: true; the input reads as it did. -/
def offidxFindsUptoRow : OpenClaim := { program := "ytgjpaglkcpomnaa", sum := "da5a163aa0f70447cba72cd1e981f03880bccfc35712b17ec33499e0f6b3ea61", func := "gantry/gantrylaw10.OffidxFinds", spec := "offidxFinds", apart := false, narrowed := true }
def OffidxFindsUptoSaid : Prop := offidxFindsUptoRow.holds Try.pinned (OpenSpec.upto offidxFindsSpec)

/-- 'gantrylaw10.OffidxPlays', WHERE WHAT IT READS IS OF BULK AT MOST 1048576: true; the input reads as it did. -/
def offidxPlaysUptoRow : OpenClaim := { program := "ytgjpaglkcpomnaa", sum := "da5a163aa0f70447cba72cd1e981f03880bccfc35712b17ec33499e0f6b3ea61", func := "gantry/gantrylaw10.OffidxPlays", spec := "offidxPlays", apart := false, narrowed := true }
def OffidxPlaysUptoSaid : Prop := offidxPlaysUptoRow.holds Try.pinned (OpenSpec.upto offidxPlaysSpec)

/-- 'gantrylaw10.OffidxNone', WHERE WHAT IT READS IS OF BULK AT MOST 1048576: true; the input reads as it did. -/
def offidxNoneUptoRow : OpenClaim := { program := "ytgjpaglkcpomnaa", sum := "da5a163aa0f70447cba72cd1e981f03880bccfc35712b17ec33499e0f6b3ea61", func := "gantry/gantrylaw10.OffidxNone", spec := "offidxNone", apart := false, narrowed := true }
def OffidxNoneUptoSaid : Prop := offidxNoneUptoRow.holds Try.pinned (OpenSpec.upto offidxNoneSpec)

/-- 'gantrylaw10.OffidxKeeps', WHERE WHAT IT READS IS OF BULK AT MOST 1048576: true; the input reads as it did. -/
def offidxKeepsUptoRow : OpenClaim := { program := "ytgjpaglkcpomnaa", sum := "da5a163aa0f70447cba72cd1e981f03880bccfc35712b17ec33499e0f6b3ea61", func := "gantry/gantrylaw10.OffidxKeeps", spec := "offidxKeeps", unfollowed := true, recurses := true, apart := false, narrowed := true }
def OffidxKeepsUptoSaid : Prop := offidxKeepsUptoRow.holds Try.pinned (OpenSpec.upto offidxKeepsSpec)

/-- 'gantrylaw10.OffidxBytes', WHERE WHAT IT READS IS OF BULK AT MOST 1048576: true; the input reads as it did. -/
def offidxBytesUptoRow : OpenClaim := { program := "ytgjpaglkcpomnaa", sum := "da5a163aa0f70447cba72cd1e981f03880bccfc35712b17ec33499e0f6b3ea61", func := "gantry/gantrylaw10.OffidxBytes", spec := "offidxBytes", unfollowed := true, recurses := true, apart := false, narrowed := true }
def OffidxBytesUptoSaid : Prop := offidxBytesUptoRow.holds Try.pinned (OpenSpec.upto offidxBytesSpec)

/-- 'gantrylaw10.OffidxBacks', WHERE WHAT IT READS IS OF BULK AT MOST 1048576: true; the input reads as it did. -/
def offidxBacksUptoRow : OpenClaim := { program := "ytgjpaglkcpomnaa", sum := "da5a163aa0f70447cba72cd1e981f03880bccfc35712b17ec33499e0f6b3ea61", func := "gantry/gantrylaw10.OffidxBacks", spec := "offidxBacks", unfollowed := true, recurses := true, apart := false, narrowed := true }
def OffidxBacksUptoSaid : Prop := offidxBacksUptoRow.holds Try.pinned (OpenSpec.upto offidxBacksSpec)

end Rows
end Go.Proofs.Ytgjpaglkcpomnaa
