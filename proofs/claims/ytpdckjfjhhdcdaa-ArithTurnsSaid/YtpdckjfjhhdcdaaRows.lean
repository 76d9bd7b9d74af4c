/-
  No cell of these rows narrows 'for every input' (looked for: loops, veiled, ifaces, maps, wideKeys, modest, calm, conditions, laid).
  DERIVED. THE GIVEN ROWS OF THIS SEAT. 6 by the template 'for every input the law returns true; each argument reads behind the call as it read before'; 0 by the template 'total and deterministic' (their statements: YtpdckjfjhhdcdaaTotals.lean).
  GIVEN WITH THE SEED: the statements are not yours to turn. If you find one false, say at which input.
  Laid BY PROGRAM, IN A SANDBOX (cutbox-rows.mjs): the forced cells as the released guide's own fill.sh prints them over the translation 21b68f30267abba8… (all of the seat's roots in one cut). By AI agents, Wed Nov 11 2026. No macro, syntax, notation, axiom, sorry.
-/
import Derived.Test.YtpdckjfjhhdcdaaChecked
import GoSem.Claim
import GoSem.ClaimJoined
import GoSem.ClaimMapViews
import Derived.JoinedTies
import Derived.KernelRfl
namespace Go.Proofs.Ytpdckjfjhhdcdaa
/- THE CELL 'sum', in the pinned program and in every row, IS THE sha256 OF THE DUMP (.gsa) THAT YtpdckjfjhhdcdaaProg.lean LOADS. Nothing in Lean hashes anything: it is a label: what it is worth is what the hold of that sum in a sandbox is worth. -/
noncomputable def Try.pinned : Pinned := { name := "ytpdckjfjhhdcdaa", sum := "21b68f30267abba8a6104b5018146a75858f708db939daef63fa44aaf6fe93a6", checked := Try.checked }
namespace Rows
def none {H : Type} : Left H := { results := [], args := [] }

/-- 'ostinatolaw01.ArithCeil': WHATEVER THE INPUT: true; the input reads as it did. -/
def arithCeilSpec : ChangeSpec := { name := "arithCeil", fn := fun _ => fun
  | [d1, d2] => { results := [.lit (.bool true)], args := [d1, d2] }
  | _ => none }
def arithCeilRow : OpenClaim := { program := "ytpdckjfjhhdcdaa", sum := "21b68f30267abba8a6104b5018146a75858f708db939daef63fa44aaf6fe93a6", func := "ostinato/ostinatolaw01.ArithCeil", spec := "arithCeil", unfollowed := true, recurses := true, apart := false }
def ArithCeilSaid : Prop := arithCeilRow.holds Try.pinned (OpenSpec.ofChange arithCeilSpec)

/-- ITS FALSE NEIGHBOUR: 'it returns false'. Refute it at one input. -/
def arithCeilWrong : ChangeSpec := { name := "arithCeil", fn := fun _ => fun
  | [d1, d2] => { results := [.lit (.bool false)], args := [d1, d2] }
  | _ => none }
def ArithCeilWrongFalsely : Prop := arithCeilRow.holds Try.pinned (OpenSpec.ofChange arithCeilWrong)

/-- 'ostinatolaw01.ArithDivides': WHATEVER THE INPUT: true; the input reads as it did. -/
def arithDividesSpec : ChangeSpec := { name := "arithDivides", fn := fun _ => fun
  | [d1, d2, d3] => { results := [.lit (.bool true)], args := [d1, d2, d3] }
  | _ => none }
def arithDividesRow : OpenClaim := { program := "ytpdckjfjhhdcdaa", sum := "21b68f30267abba8a6104b5018146a75858f708db939daef63fa44aaf6fe93a6", func := "ostinato/ostinatolaw01.ArithDivides", spec := "arithDivides", unfollowed := true, recurses := true, apart := false }
def ArithDividesSaid : Prop := arithDividesRow.holds Try.pinned (OpenSpec.ofChange arithDividesSpec)

/-- ITS FALSE NEIGHBOUR: 'it returns false'. Refute it at one input. -/
def arithDividesWrong : ChangeSpec := { name := "arithDivides", fn := fun _ => fun
  | [d1, d2, d3] => { results := [.lit (.bool false)], args := [d1, d2, d3] }
  | _ => none }
def ArithDividesWrongFalsely : Prop := arithDividesRow.holds Try.pinned (OpenSpec.ofChange arithDividesWrong)

/-- 'ostinatolaw01.ArithTurns': WHATEVER THE INPUT: true; the input reads as it did. -/
def arithTurnsSpec : ChangeSpec := { name := "arithTurns", fn := fun _ => fun
  | [d1, d2] => { results := [.lit (.bool true)], args := [d1, d2] }
  | _ => none }
def arithTurnsRow : OpenClaim := { program := "ytpdckjfjhhdcdaa", sum := "21b68f30267abba8a6104b5018146a75858f708db939daef63fa44aaf6fe93a6", func := "ostinato/ostinatolaw01.ArithTurns", spec := "arithTurns", inPlace := ["math/bits.Add64"], unfollowed := true, recurses := true, apart := false }
def ArithTurnsSaid : Prop := arithTurnsRow.holds Try.pinned (OpenSpec.ofChange arithTurnsSpec)

/-- ITS FALSE NEIGHBOUR: 'it returns false'. Refute it at one input. -/
def arithTurnsWrong : ChangeSpec := { name := "arithTurns", fn := fun _ => fun
  | [d1, d2] => { results := [.lit (.bool false)], args := [d1, d2] }
  | _ => none }
def ArithTurnsWrongFalsely : Prop := arithTurnsRow.holds Try.pinned (OpenSpec.ofChange arithTurnsWrong)

/-- 'ostinatolaw01.ArithWhole': WHATEVER THE INPUT: true; the input reads as it did. -/
def arithWholeSpec : ChangeSpec := { name := "arithWhole", fn := fun _ => fun
  | [d1, d2, d3] => { results := [.lit (.bool true)], args := [d1, d2, d3] }
  | _ => none }
def arithWholeRow : OpenClaim := { program := "ytpdckjfjhhdcdaa", sum := "21b68f30267abba8a6104b5018146a75858f708db939daef63fa44aaf6fe93a6", func := "ostinato/ostinatolaw01.ArithWhole", spec := "arithWhole", unfollowed := true, recurses := true, named := ["math/bits.divideError", "math/bits.overflowError"], apart := false }
def ArithWholeSaid : Prop := arithWholeRow.holds Try.pinned (OpenSpec.ofChange arithWholeSpec)

/-- ITS FALSE NEIGHBOUR: 'it returns false'. Refute it at one input. -/
def arithWholeWrong : ChangeSpec := { name := "arithWhole", fn := fun _ => fun
  | [d1, d2, d3] => { results := [.lit (.bool false)], args := [d1, d2, d3] }
  | _ => none }
def ArithWholeWrongFalsely : Prop := arithWholeRow.holds Try.pinned (OpenSpec.ofChange arithWholeWrong)

/-- 'ostinatolaw01.ArithBack': WHATEVER THE INPUT: true; the input reads as it did. -/
def arithBackSpec : ChangeSpec := { name := "arithBack", fn := fun _ => fun
  | [d1, d2] => { results := [.lit (.bool true)], args := [d1, d2] }
  | _ => none }
def arithBackRow : OpenClaim := { program := "ytpdckjfjhhdcdaa", sum := "21b68f30267abba8a6104b5018146a75858f708db939daef63fa44aaf6fe93a6", func := "ostinato/ostinatolaw01.ArithBack", spec := "arithBack", inPlace := ["math/bits.Add64"], unfollowed := true, recurses := true, named := ["math/bits.divideError", "math/bits.overflowError"], apart := false }
def ArithBackSaid : Prop := arithBackRow.holds Try.pinned (OpenSpec.ofChange arithBackSpec)

/-- ITS FALSE NEIGHBOUR: 'it returns false'. Refute it at one input. -/
def arithBackWrong : ChangeSpec := { name := "arithBack", fn := fun _ => fun
  | [d1, d2] => { results := [.lit (.bool false)], args := [d1, d2] }
  | _ => none }
def ArithBackWrongFalsely : Prop := arithBackRow.holds Try.pinned (OpenSpec.ofChange arithBackWrong)

/-- 'ostinatolaw01.ArithTells': WHATEVER THE INPUT: true; the input reads as it did. -/
def arithTellsSpec : ChangeSpec := { name := "arithTells", fn := fun _ => fun
  | [d1, d2] => { results := [.lit (.bool true)], args := [d1, d2] }
  | _ => none }
def arithTellsRow : OpenClaim := { program := "ytpdckjfjhhdcdaa", sum := "21b68f30267abba8a6104b5018146a75858f708db939daef63fa44aaf6fe93a6", func := "ostinato/ostinatolaw01.ArithTells", spec := "arithTells", inPlace := ["math/bits.Add64"], unfollowed := true, recurses := true, named := ["math/bits.divideError", "math/bits.overflowError"], apart := false }
def ArithTellsSaid : Prop := arithTellsRow.holds Try.pinned (OpenSpec.ofChange arithTellsSpec)

/-- ITS FALSE NEIGHBOUR: 'it returns false'. Refute it at one input. -/
def arithTellsWrong : ChangeSpec := { name := "arithTells", fn := fun _ => fun
  | [d1, d2] => { results := [.lit (.bool false)], args := [d1, d2] }
  | _ => none }
def ArithTellsWrongFalsely : Prop := arithTellsRow.holds Try.pinned (OpenSpec.ofChange arithTellsWrong)

/- THE SECOND FORM. 'bulk': how many values and letters a reading holds, each counted each time it is reached (what is shared counts as often as it is met; a slice's spare places count too). A statement '..UptoSaid' is the law's where the arguments, and the package variables that the reading takes, are together of bulk at most 1048576: NARROWER than '..Said'. Prove '..Said' where nothing that the law and all that it calls make is longer than what came in: it says more and counts as full. Else prove '..UptoSaid'. A law counts once. -/
mutual
def uptoBulk {H : Type} : DataW H → Nat
  | .lit (.string bytes) => bytes.length + 1
  | .lit _ => 1
  | .nil => 1
  | .ptr d => uptoBulk d + 1
  | .slice elems spare => uptoBulkAll elems + uptoBulkAll spare + 1
  | .agg parts => uptoBulkAll parts + 1
  | .iface _ d => uptoBulk d + 1
  | .map entries => uptoBulkEntries entries + 1
  | .held _ => 1
def uptoBulkAll {H : Type} : List (DataW H) → Nat
  | [] => 0
  | d :: r => uptoBulk d + uptoBulkAll r
def uptoBulkEntries {H : Type} : List (Lit × DataW H) → Nat
  | [] => 0
  | x :: r => uptoBulkEntry x + uptoBulkEntries r
def uptoBulkEntry {H : Type} : Lit × DataW H → Nat
  | (.string bytes, d) => bytes.length + uptoBulk d + 1
  | (_, d) => uptoBulk d + 1
 end
def uptoSmall : (H : Type) → List (DataW H) → Bool := fun _ ds => decide (uptoBulkAll ds ≤ 1048576)
def OpenSpec.upto (s : _root_.Go.ChangeSpec) : _root_.Go.OpenSpec := { _root_.Go.OpenSpec.ofChange s with cond := some uptoSmall }

/-- 'ostinatolaw01.ArithCeil', WHERE WHAT IT READS IS OF BULK AT MOST 1048576: true; the input reads as it did. -/
def arithCeilUptoRow : OpenClaim := { program := "ytpdckjfjhhdcdaa", sum := "21b68f30267abba8a6104b5018146a75858f708db939daef63fa44aaf6fe93a6", func := "ostinato/ostinatolaw01.ArithCeil", spec := "arithCeil", unfollowed := true, recurses := true, apart := false, narrowed := true }
def ArithCeilUptoSaid : Prop := arithCeilUptoRow.holds Try.pinned (OpenSpec.upto arithCeilSpec)

/-- 'ostinatolaw01.ArithDivides', WHERE WHAT IT READS IS OF BULK AT MOST 1048576: true; the input reads as it did. -/
def arithDividesUptoRow : OpenClaim := { program := "ytpdckjfjhhdcdaa", sum := "21b68f30267abba8a6104b5018146a75858f708db939daef63fa44aaf6fe93a6", func := "ostinato/ostinatolaw01.ArithDivides", spec := "arithDivides", unfollowed := true, recurses := true, apart := false, narrowed := true }
def ArithDividesUptoSaid : Prop := arithDividesUptoRow.holds Try.pinned (OpenSpec.upto arithDividesSpec)

/-- 'ostinatolaw01.ArithTurns', WHERE WHAT IT READS IS OF BULK AT MOST 1048576: true; the input reads as it did. -/
def arithTurnsUptoRow : OpenClaim := { program := "ytpdckjfjhhdcdaa", sum := "21b68f30267abba8a6104b5018146a75858f708db939daef63fa44aaf6fe93a6", func := "ostinato/ostinatolaw01.ArithTurns", spec := "arithTurns", inPlace := ["math/bits.Add64"], unfollowed := true, recurses := true, apart := false, narrowed := true }
def ArithTurnsUptoSaid : Prop := arithTurnsUptoRow.holds Try.pinned (OpenSpec.upto arithTurnsSpec)

/-- 'ostinatolaw01.ArithWhole', WHERE WHAT IT READS IS OF BULK AT MOST 1048576: true; the input reads as it did. -/
def arithWholeUptoRow : OpenClaim := { program := "ytpdckjfjhhdcdaa", sum := "21b68f30267abba8a6104b5018146a75858f708db939daef63fa44aaf6fe93a6", func := "ostinato/ostinatolaw01.ArithWhole", spec := "arithWhole", unfollowed := true, recurses := true, named := ["math/bits.divideError", "math/bits.overflowError"], apart := false, narrowed := true }
def ArithWholeUptoSaid : Prop := arithWholeUptoRow.holds Try.pinned (OpenSpec.upto arithWholeSpec)

/-- 'ostinatolaw01.ArithBack', WHERE WHAT IT READS IS OF BULK AT MOST 1048576: true; the input reads as it did. -/
def arithBackUptoRow : OpenClaim := { program := "ytpdckjfjhhdcdaa", sum := "21b68f30267abba8a6104b5018146a75858f708db939daef63fa44aaf6fe93a6", func := "ostinato/ostinatolaw01.ArithBack", spec := "arithBack", inPlace := ["math/bits.Add64"], unfollowed := true, recurses := true, named := ["math/bits.divideError", "math/bits.overflowError"], apart := false, narrowed := true }
def ArithBackUptoSaid : Prop := arithBackUptoRow.holds Try.pinned (OpenSpec.upto arithBackSpec)

/-- 'ostinatolaw01.ArithTells', WHERE WHAT IT READS IS OF BULK AT MOST 1048576: true; the input reads as it did. -/
def arithTellsUptoRow : OpenClaim := { program := "ytpdckjfjhhdcdaa", sum := "21b68f30267abba8a6104b5018146a75858f708db939daef63fa44aaf6fe93a6", func := "ostinato/ostinatolaw01.ArithTells", spec := "arithTells", inPlace := ["math/bits.Add64"], unfollowed := true, recurses := true, named := ["math/bits.divideError", "math/bits.overflowError"], apart := false, narrowed := true }
def ArithTellsUptoSaid : Prop := arithTellsUptoRow.holds Try.pinned (OpenSpec.upto arithTellsSpec)

end Rows
end Go.Proofs.Ytpdckjfjhhdcdaa
