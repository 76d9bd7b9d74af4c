/-
  No cell of these rows narrows 'for every input' (looked for: loops, veiled, ifaces, maps, wideKeys, modest, calm, conditions, laid).
  DERIVED. THE GIVEN ROWS OF THIS SEAT. 5 by the template 'for every input the law returns true; each argument reads behind the call as it read before'; 0 by the template 'total and deterministic' (their statements: YtajkckjpfbkpmaaTotals.lean).
  GIVEN WITH THE SEED: the statements are not yours to turn. If you find one false, say at which input.
  Laid BY PROGRAM, IN A SANDBOX (cutbox-rows.mjs): the forced cells as the released guide's own fill.sh prints them over the translation 8fd52c7f906fe6d9… (all of the seat's roots in one cut). By AI agents, Wed Nov 11 2026. No macro, syntax, notation, axiom, sorry.
-/
import Derived.Test.YtajkckjpfbkpmaaChecked
import GoSem.Claim
import GoSem.ClaimJoined
import GoSem.ClaimMapViews
import Derived.JoinedTies
import Derived.KernelRfl
namespace Go.Proofs.Ytajkckjpfbkpmaa
/- THE CELL 'sum', in the pinned program and in every row, IS THE sha256 OF THE DUMP (.gsa) THAT YtajkckjpfbkpmaaProg.lean LOADS. Nothing in Lean hashes anything: it is a label: what it is worth is what the hold of that sum in a sandbox is worth. -/
noncomputable def Try.pinned : Pinned := { name := "ytajkckjpfbkpmaa", sum := "8fd52c7f906fe6d9db2b2d392cf2f9317415a31ff920206680c1824271838740", checked := Try.checked }
namespace Rows
def none {H : Type} : Left H := { results := [], args := [] }

/-- 'ostinatolaw12.QpaSound': WHATEVER THE INPUT: true; the input reads as it did. -/
def qpaSoundSpec : ChangeSpec := { name := "qpaSound", fn := fun _ => fun
  | [d1, d2] => { results := [.lit (.bool true)], args := [d1, d2] }
  | _ => none }
def qpaSoundRow : OpenClaim := { program := "ytajkckjpfbkpmaa", sum := "8fd52c7f906fe6d9db2b2d392cf2f9317415a31ff920206680c1824271838740", func := "ostinato/ostinatolaw12.QpaSound", spec := "qpaSound", inPlace := ["math/bits.Add64"], unfollowed := true, recurses := true, apart := false }
def QpaSoundSaid : Prop := qpaSoundRow.holds Try.pinned (OpenSpec.ofChange qpaSoundSpec)

/-- ITS FALSE NEIGHBOUR: 'it returns false'. Refute it at one input. -/
def qpaSoundWrong : ChangeSpec := { name := "qpaSound", fn := fun _ => fun
  | [d1, d2] => { results := [.lit (.bool false)], args := [d1, d2] }
  | _ => none }
def QpaSoundWrongFalsely : Prop := qpaSoundRow.holds Try.pinned (OpenSpec.ofChange qpaSoundWrong)

/-- 'ostinatolaw12.QpaMiss': WHATEVER THE INPUT: true; the input reads as it did. -/
def qpaMissSpec : ChangeSpec := { name := "qpaMiss", fn := fun _ => fun
  | [d1, d2] => { results := [.lit (.bool true)], args := [d1, d2] }
  | _ => none }
def qpaMissRow : OpenClaim := { program := "ytajkckjpfbkpmaa", sum := "8fd52c7f906fe6d9db2b2d392cf2f9317415a31ff920206680c1824271838740", func := "ostinato/ostinatolaw12.QpaMiss", spec := "qpaMiss", inPlace := ["math/bits.Add64"], unfollowed := true, recurses := true, apart := false }
def QpaMissSaid : Prop := qpaMissRow.holds Try.pinned (OpenSpec.ofChange qpaMissSpec)

/-- ITS FALSE NEIGHBOUR: 'it returns false'. Refute it at one input. -/
def qpaMissWrong : ChangeSpec := { name := "qpaMiss", fn := fun _ => fun
  | [d1, d2] => { results := [.lit (.bool false)], args := [d1, d2] }
  | _ => none }
def QpaMissWrongFalsely : Prop := qpaMissRow.holds Try.pinned (OpenSpec.ofChange qpaMissWrong)

/-- 'ostinatolaw12.QpaMore': WHATEVER THE INPUT: true; the input reads as it did. -/
def qpaMoreSpec : ChangeSpec := { name := "qpaMore", fn := fun _ => fun
  | [d1, d2, d3] => { results := [.lit (.bool true)], args := [d1, d2, d3] }
  | _ => none }
def qpaMoreRow : OpenClaim := { program := "ytajkckjpfbkpmaa", sum := "8fd52c7f906fe6d9db2b2d392cf2f9317415a31ff920206680c1824271838740", func := "ostinato/ostinatolaw12.QpaMore", spec := "qpaMore", inPlace := ["math/bits.Add64"], unfollowed := true, recurses := true, apart := false }
def QpaMoreSaid : Prop := qpaMoreRow.holds Try.pinned (OpenSpec.ofChange qpaMoreSpec)

/-- ITS FALSE NEIGHBOUR: 'it returns false'. Refute it at one input. -/
def qpaMoreWrong : ChangeSpec := { name := "qpaMore", fn := fun _ => fun
  | [d1, d2, d3] => { results := [.lit (.bool false)], args := [d1, d2, d3] }
  | _ => none }
def QpaMoreWrongFalsely : Prop := qpaMoreRow.holds Try.pinned (OpenSpec.ofChange qpaMoreWrong)

/-- 'ostinatolaw12.QpaRoom': WHATEVER THE INPUT: true; the input reads as it did. -/
def qpaRoomSpec : ChangeSpec := { name := "qpaRoom", fn := fun _ => fun
  | [d1, d2] => { results := [.lit (.bool true)], args := [d1, d2] }
  | _ => none }
def qpaRoomRow : OpenClaim := { program := "ytajkckjpfbkpmaa", sum := "8fd52c7f906fe6d9db2b2d392cf2f9317415a31ff920206680c1824271838740", func := "ostinato/ostinatolaw12.QpaRoom", spec := "qpaRoom", inPlace := ["math/bits.Add64"], unfollowed := true, recurses := true, apart := false }
def QpaRoomSaid : Prop := qpaRoomRow.holds Try.pinned (OpenSpec.ofChange qpaRoomSpec)

/-- ITS FALSE NEIGHBOUR: 'it returns false'. Refute it at one input. -/
def qpaRoomWrong : ChangeSpec := { name := "qpaRoom", fn := fun _ => fun
  | [d1, d2] => { results := [.lit (.bool false)], args := [d1, d2] }
  | _ => none }
def QpaRoomWrongFalsely : Prop := qpaRoomRow.holds Try.pinned (OpenSpec.ofChange qpaRoomWrong)

/-- 'ostinatolaw12.QpaDouble': WHATEVER THE INPUT: true; the input reads as it did. -/
def qpaDoubleSpec : ChangeSpec := { name := "qpaDouble", fn := fun _ => fun
  | [d1, d2] => { results := [.lit (.bool true)], args := [d1, d2] }
  | _ => none }
def qpaDoubleRow : OpenClaim := { program := "ytajkckjpfbkpmaa", sum := "8fd52c7f906fe6d9db2b2d392cf2f9317415a31ff920206680c1824271838740", func := "ostinato/ostinatolaw12.QpaDouble", spec := "qpaDouble", inPlace := ["math/bits.Add64"], unfollowed := true, recurses := true, apart := false }
def QpaDoubleSaid : Prop := qpaDoubleRow.holds Try.pinned (OpenSpec.ofChange qpaDoubleSpec)

/-- ITS FALSE NEIGHBOUR: 'it returns false'. Refute it at one input. -/
def qpaDoubleWrong : ChangeSpec := { name := "qpaDouble", fn := fun _ => fun
  | [d1, d2] => { results := [.lit (.bool false)], args := [d1, d2] }
  | _ => none }
def QpaDoubleWrongFalsely : Prop := qpaDoubleRow.holds Try.pinned (OpenSpec.ofChange qpaDoubleWrong)

/- THE SECOND FORM. 'bulk': how many values and letters a reading holds, each counted each time it is reached (what is shared counts as often as it is met; a slice's spare places count too). A statement '..UptoSaid' is the law's where the arguments, and the package variables that the reading takes, are together of bulk at most 1048576: NARROWER than '..Said'. Prove '..Said' where nothing that the law and all that it calls make is longer than what came in: it says more and counts as full. Else prove '..UptoSaid'. A law counts once. -/
mutual
def uptoBulk {H : Type} : DataW H → Nat
  | .lit (.string bytes) => bytes.length + 1
  | .lit _ => 1
  | .nil => 1
  | .ptr d => uptoBulk d + 1
  | .slice elems spare => uptoBulkAll elems + uptoBulkAll spare + 1
  | .agg parts => uptoBulkAll parts + 1
  | .iface _ d => uptoBulk d + 1
  | .map entries => uptoBulkEntries entries + 1
  | .held _ => 1
def uptoBulkAll {H : Type} : List (DataW H) → Nat
  | [] => 0
  | d :: r => uptoBulk d + uptoBulkAll r
def uptoBulkEntries {H : Type} : List (Lit × DataW H) → Nat
  | [] => 0
  | x :: r => uptoBulkEntry x + uptoBulkEntries r
def uptoBulkEntry {H : Type} : Lit × DataW H → Nat
  | (.string bytes, d) => bytes.length + uptoBulk d + 1
  | (_, d) => uptoBulk d + 1
 end
def uptoSmall : (H : Type) → List (DataW H) → Bool := fun _ ds => decide (uptoBulkAll ds ≤ 1048576)
def OpenSpec.upto (s : _root_.Go.ChangeSpec) : _root_.Go.OpenSpec := { _root_.Go.OpenSpec.ofChange s with cond := some uptoSmall }

/-- 'ostinatolaw12.QpaSound', WHERE WHAT IT READS IS OF BULK AT MOST 1048576: true; the input reads as it did. -/
def qpaSoundUptoRow : OpenClaim := { program := "ytajkckjpfbkpmaa", sum := "8fd52c7f906fe6d9db2b2d392cf2f9317415a31ff920206680c1824271838740", func := "ostinato/ostinatolaw12.QpaSound", spec := "qpaSound", inPlace := ["math/bits.Add64"], unfollowed := true, recurses := true, apart := false, narrowed := true }
def QpaSoundUptoSaid : Prop := qpaSoundUptoRow.holds Try.pinned (OpenSpec.upto qpaSoundSpec)

/-- 'ostinatolaw12.QpaMiss', WHERE WHAT IT READS IS OF BULK AT MOST 1048576: true; the input reads as it did. -/
def qpaMissUptoRow : OpenClaim := { program := "ytajkckjpfbkpmaa", sum := "8fd52c7f906fe6d9db2b2d392cf2f9317415a31ff920206680c1824271838740", func := "ostinato/ostinatolaw12.QpaMiss", spec := "qpaMiss", inPlace := ["math/bits.Add64"], unfollowed := true, recurses := true, apart := false, narrowed := true }
def QpaMissUptoSaid : Prop := qpaMissUptoRow.holds Try.pinned (OpenSpec.upto qpaMissSpec)

/-- 'ostinatolaw12.QpaMore', WHERE WHAT IT READS IS OF BULK AT MOST 1048576: true; the input reads as it did. -/
def qpaMoreUptoRow : OpenClaim := { program := "ytajkckjpfbkpmaa", sum := "8fd52c7f906fe6d9db2b2d392cf2f9317415a31ff920206680c1824271838740", func := "ostinato/ostinatolaw12.QpaMore", spec := "qpaMore", inPlace := ["math/bits.Add64"], unfollowed := true, recurses := true, apart := false, narrowed := true }
def QpaMoreUptoSaid : Prop := qpaMoreUptoRow.holds Try.pinned (OpenSpec.upto qpaMoreSpec)

/-- 'ostinatolaw12.QpaRoom', WHERE WHAT IT READS IS OF BULK AT MOST 1048576: true; the input reads as it did. -/
def qpaRoomUptoRow : OpenClaim := { program := "ytajkckjpfbkpmaa", sum := "8fd52c7f906fe6d9db2b2d392cf2f9317415a31ff920206680c1824271838740", func := "ostinato/ostinatolaw12.QpaRoom", spec := "qpaRoom", inPlace := ["math/bits.Add64"], unfollowed := true, recurses := true, apart := false, narrowed := true }
def QpaRoomUptoSaid : Prop := qpaRoomUptoRow.holds Try.pinned (OpenSpec.upto qpaRoomSpec)

/-- 'ostinatolaw12.QpaDouble', WHERE WHAT IT READS IS OF BULK AT MOST 1048576: true; the input reads as it did. -/
def qpaDoubleUptoRow : OpenClaim := { program := "ytajkckjpfbkpmaa", sum := "8fd52c7f906fe6d9db2b2d392cf2f9317415a31ff920206680c1824271838740", func := "ostinato/ostinatolaw12.QpaDouble", spec := "qpaDouble", inPlace := ["math/bits.Add64"], unfollowed := true, recurses := true, apart := false, narrowed := true }
def QpaDoubleUptoSaid : Prop := qpaDoubleUptoRow.holds Try.pinned (OpenSpec.upto qpaDoubleSpec)

end Rows
end Go.Proofs.Ytajkckjpfbkpmaa
