/-
  DERIVED. GIVEN WITH THE SEED: THE CARDS: each row of YtecocdnfbkiabaaDoorRows.lean that lists a variable, with what it lists TIED to the program's text (the seventh form; the later family's looks); each row that meets fmt, with fmt's text TOLD by the authors' own Lean function (tested against real Go, not proved from fmt's source: count such statements apart). THE CARD IS WHAT COUNTS. Prove the row's statement (the work); the ties are given (YtecocdnfbkiabaaDoorTie.lean); close each card by the builder's one call (the guide's Derived/Test/ToyasCard.lean, 'card_holds'). Laid BY PROGRAM, IN A SANDBOX (cutbox-door.mjs). By AI agents, Wed Nov 11 2026. No macro, syntax, notation, axiom, sorry.
-/
import Derived.Test.YtecocdnfbkiabaaDoorRows
import GoSem.ClaimSeven
namespace Go.Proofs.YtecocdnfbkiabaaDoor
namespace Rows

/-- THE TIED CARD OF 'ostinatolaw02.BitsSame'. -/
def bitsSameCard : Claim7 := { stood := { row := bitsSameRow, standIns := [], harness := (true, "13a0a173c9ebe44534d1fde256e7a6bea9503ec16f512ace851c7f2749ea70fa"), looks := false }, kinds := [], alts := [], laidByText := true, laidKinds := [.data], laidTests := true, laidLooks := .later }
def BitsSameCardSaid : Prop := Claim7.holds Tryd.pinned (.plain (OpenSpec.ofChange bitsSameSpec)) bitsSameCard

/-- THE TIED CARD OF 'ostinatolaw02.BitsOne'. -/
def bitsOneCard : Claim7 := { stood := { row := bitsOneRow, standIns := [], harness := (true, "13a0a173c9ebe44534d1fde256e7a6bea9503ec16f512ace851c7f2749ea70fa"), looks := false }, kinds := [], alts := [], laidByText := true, laidKinds := [.data], laidTests := true, laidLooks := .later }
def BitsOneCardSaid : Prop := Claim7.holds Tryd.pinned (.plain (OpenSpec.ofChange bitsOneSpec)) bitsOneCard

/-- THE TIED CARD OF 'ostinatolaw02.BitsBack'. -/
def bitsBackCard : Claim7 := { stood := { row := bitsBackRow, standIns := [], harness := (true, "13a0a173c9ebe44534d1fde256e7a6bea9503ec16f512ace851c7f2749ea70fa"), looks := false }, kinds := [], alts := [], laidByText := true, laidKinds := [.data], laidTests := true, laidLooks := .later }
def BitsBackCardSaid : Prop := Claim7.holds Tryd.pinned (.plain (OpenSpec.ofChange bitsBackSpec)) bitsBackCard

/-- THE TIED CARD OF 'ostinatolaw02.BitsParts'. -/
def bitsPartsCard : Claim7 := { stood := { row := bitsPartsRow, standIns := [], harness := (true, "13a0a173c9ebe44534d1fde256e7a6bea9503ec16f512ace851c7f2749ea70fa"), looks := false }, kinds := [], alts := [], laidByText := true, laidKinds := [.data], laidTests := true, laidLooks := .later }
def BitsPartsCardSaid : Prop := Claim7.holds Tryd.pinned (.plain (OpenSpec.ofChange bitsPartsSpec)) bitsPartsCard

/-- THE TIED CARD OF 'ostinatolaw02.BitsShares'. -/
def bitsSharesCard : Claim7 := { stood := { row := bitsSharesRow, standIns := [], harness := (true, "13a0a173c9ebe44534d1fde256e7a6bea9503ec16f512ace851c7f2749ea70fa"), looks := false }, kinds := [], alts := [], laidByText := true, laidKinds := [.data], laidTests := true, laidLooks := .later }
def BitsSharesCardSaid : Prop := Claim7.holds Tryd.pinned (.plain (OpenSpec.ofChange bitsSharesSpec)) bitsSharesCard

/-- THE TIED CARD OF 'ostinatolaw02.BitsTell'. -/
def bitsTellCard : Claim7 := { stood := { row := bitsTellRow, standIns := [], harness := (true, "13a0a173c9ebe44534d1fde256e7a6bea9503ec16f512ace851c7f2749ea70fa"), looks := false }, kinds := [], alts := [], laidByText := true, laidKinds := [.data], laidTests := true, laidLooks := .later }
def BitsTellCardSaid : Prop := Claim7.holds Tryd.pinned (.plain (OpenSpec.ofChange bitsTellSpec)) bitsTellCard

/-- THE SECOND FORM's CARD OF 'ostinatolaw02.BitsSame'. -/
def bitsSameUptoCard : Claim7 := { stood := { row := bitsSameUptoRow, standIns := [], harness := (true, "13a0a173c9ebe44534d1fde256e7a6bea9503ec16f512ace851c7f2749ea70fa"), looks := false }, kinds := [], alts := [], laidByText := true, laidKinds := [.data], laidTests := true, laidLooks := .later }
def BitsSameUptoCardSaid : Prop := Claim7.holds Tryd.pinned (.plain (OpenSpec.upto bitsSameSpec)) bitsSameUptoCard

/-- THE SECOND FORM's CARD OF 'ostinatolaw02.BitsOne'. -/
def bitsOneUptoCard : Claim7 := { stood := { row := bitsOneUptoRow, standIns := [], harness := (true, "13a0a173c9ebe44534d1fde256e7a6bea9503ec16f512ace851c7f2749ea70fa"), looks := false }, kinds := [], alts := [], laidByText := true, laidKinds := [.data], laidTests := true, laidLooks := .later }
def BitsOneUptoCardSaid : Prop := Claim7.holds Tryd.pinned (.plain (OpenSpec.upto bitsOneSpec)) bitsOneUptoCard

/-- THE SECOND FORM's CARD OF 'ostinatolaw02.BitsBack'. -/
def bitsBackUptoCard : Claim7 := { stood := { row := bitsBackUptoRow, standIns := [], harness := (true, "13a0a173c9ebe44534d1fde256e7a6bea9503ec16f512ace851c7f2749ea70fa"), looks := false }, kinds := [], alts := [], laidByText := true, laidKinds := [.data], laidTests := true, laidLooks := .later }
def BitsBackUptoCardSaid : Prop := Claim7.holds Tryd.pinned (.plain (OpenSpec.upto bitsBackSpec)) bitsBackUptoCard

/-- THE SECOND FORM's CARD OF 'ostinatolaw02.BitsParts'. -/
def bitsPartsUptoCard : Claim7 := { stood := { row := bitsPartsUptoRow, standIns := [], harness := (true, "13a0a173c9ebe44534d1fde256e7a6bea9503ec16f512ace851c7f2749ea70fa"), looks := false }, kinds := [], alts := [], laidByText := true, laidKinds := [.data], laidTests := true, laidLooks := .later }
def BitsPartsUptoCardSaid : Prop := Claim7.holds Tryd.pinned (.plain (OpenSpec.upto bitsPartsSpec)) bitsPartsUptoCard

/-- THE SECOND FORM's CARD OF 'ostinatolaw02.BitsShares'. -/
def bitsSharesUptoCard : Claim7 := { stood := { row := bitsSharesUptoRow, standIns := [], harness := (true, "13a0a173c9ebe44534d1fde256e7a6bea9503ec16f512ace851c7f2749ea70fa"), looks := false }, kinds := [], alts := [], laidByText := true, laidKinds := [.data], laidTests := true, laidLooks := .later }
def BitsSharesUptoCardSaid : Prop := Claim7.holds Tryd.pinned (.plain (OpenSpec.upto bitsSharesSpec)) bitsSharesUptoCard

/-- THE SECOND FORM's CARD OF 'ostinatolaw02.BitsTell'. -/
def bitsTellUptoCard : Claim7 := { stood := { row := bitsTellUptoRow, standIns := [], harness := (true, "13a0a173c9ebe44534d1fde256e7a6bea9503ec16f512ace851c7f2749ea70fa"), looks := false }, kinds := [], alts := [], laidByText := true, laidKinds := [.data], laidTests := true, laidLooks := .later }
def BitsTellUptoCardSaid : Prop := Claim7.holds Tryd.pinned (.plain (OpenSpec.upto bitsTellSpec)) bitsTellUptoCard
end Rows
end Go.Proofs.YtecocdnfbkiabaaDoor
