/-
  DERIVED. GIVEN WITH THE SEED: THE CARDS: each row of YtfpcokdecdnmdaaDoorRows.lean that lists a variable, with what it lists TIED to the program's text (the seventh form; the later family's looks); each row that meets fmt, with fmt's text TOLD by the authors' own Lean function (tested against real Go, not proved from fmt's source: count such statements apart). THE CARD IS WHAT COUNTS. Prove the row's statement (the work); the ties are given (YtfpcokdecdnmdaaDoorTie.lean); close each card by the builder's one call (the guide's Derived/Test/ToyasCard.lean, 'card_holds'). Laid BY PROGRAM, IN A SANDBOX (cutbox-door.mjs). By AI agents, Wed Nov 11 2026. No macro, syntax, notation, axiom, sorry.
-/
import Derived.Test.YtfpcokdecdnmdaaDoorRows
import GoSem.ClaimSeven
namespace Go.Proofs.YtfpcokdecdnmdaaDoor
namespace Rows

/-- THE TIED CARD OF 'sextonlaw08.CortegeExact'. -/
def cortegeExactCard : Claim7 := { stood := { row := cortegeExactRow, standIns := [], harness := (true, "2731bbef2df0ae78df2ecc8172356bcb82777ce7246e1d0c135dc6f4b2e45110"), looks := true }, kinds := [], alts := [], laidByText := true, laidKinds := [.sentinel], laidTests := true, laidLooks := .later }
def CortegeExactCardSaid : Prop := Claim7.holds Tryd.pinned (.plain (OpenSpec.ofChange cortegeExactSpec)) cortegeExactCard

/-- THE TIED CARD OF 'sextonlaw16.JuryOne'. -/
def juryOneCard : Claim7 := { stood := { row := juryOneRow, standIns := [], harness := (true, "2731bbef2df0ae78df2ecc8172356bcb82777ce7246e1d0c135dc6f4b2e45110"), looks := true }, kinds := [], alts := [], laidByText := true, laidKinds := [.sentinel, .sentinel, .sentinel, .sentinel], laidTests := true, laidLooks := .later }
def JuryOneCardSaid : Prop := Claim7.holds Tryd.pinned (.plain (OpenSpec.ofChange juryOneSpec)) juryOneCard

/-- THE TIED CARD OF 'sextonlaw16.JuryMore'. -/
def juryMoreCard : Claim7 := { stood := { row := juryMoreRow, standIns := [], harness := (true, "2731bbef2df0ae78df2ecc8172356bcb82777ce7246e1d0c135dc6f4b2e45110"), looks := true }, kinds := [], alts := [], laidByText := true, laidKinds := [.sentinel, .sentinel, .sentinel, .sentinel], laidTests := true, laidLooks := .later }
def JuryMoreCardSaid : Prop := Claim7.holds Tryd.pinned (.plain (OpenSpec.ofChange juryMoreSpec)) juryMoreCard

/-- THE TIED CARD OF 'sextonlaw16.JuryKeys'. -/
def juryKeysCard : Claim7 := { stood := { row := juryKeysRow, standIns := [], harness := (true, "2731bbef2df0ae78df2ecc8172356bcb82777ce7246e1d0c135dc6f4b2e45110"), looks := true }, kinds := [], alts := [], laidByText := true, laidKinds := [.sentinel, .sentinel, .sentinel, .sentinel], laidTests := true, laidLooks := .later }
def JuryKeysCardSaid : Prop := Claim7.holds Tryd.pinned (.plain (OpenSpec.ofChange juryKeysSpec)) juryKeysCard

/-- THE TIED CARD OF 'sextonlaw16.JuryFull'. -/
def juryFullCard : Claim7 := { stood := { row := juryFullRow, standIns := [], harness := (true, "2731bbef2df0ae78df2ecc8172356bcb82777ce7246e1d0c135dc6f4b2e45110"), looks := true }, kinds := [], alts := [], laidByText := true, laidKinds := [.sentinel, .sentinel, .sentinel, .sentinel], laidTests := true, laidLooks := .later }
def JuryFullCardSaid : Prop := Claim7.holds Tryd.pinned (.plain (OpenSpec.ofChange juryFullSpec)) juryFullCard

/-- THE SECOND FORM's CARD OF 'sextonlaw08.CortegeExact'. -/
def cortegeExactUptoCard : Claim7 := { stood := { row := cortegeExactUptoRow, standIns := [], harness := (true, "2731bbef2df0ae78df2ecc8172356bcb82777ce7246e1d0c135dc6f4b2e45110"), looks := true }, kinds := [], alts := [], laidByText := true, laidKinds := [.sentinel], laidTests := true, laidLooks := .later }
def CortegeExactUptoCardSaid : Prop := Claim7.holds Tryd.pinned (.plain (OpenSpec.upto cortegeExactSpec)) cortegeExactUptoCard

/-- THE SECOND FORM's CARD OF 'sextonlaw16.JuryOne'. -/
def juryOneUptoCard : Claim7 := { stood := { row := juryOneUptoRow, standIns := [], harness := (true, "2731bbef2df0ae78df2ecc8172356bcb82777ce7246e1d0c135dc6f4b2e45110"), looks := true }, kinds := [], alts := [], laidByText := true, laidKinds := [.sentinel, .sentinel, .sentinel, .sentinel], laidTests := true, laidLooks := .later }
def JuryOneUptoCardSaid : Prop := Claim7.holds Tryd.pinned (.plain (OpenSpec.upto juryOneSpec)) juryOneUptoCard

/-- THE SECOND FORM's CARD OF 'sextonlaw16.JuryMore'. -/
def juryMoreUptoCard : Claim7 := { stood := { row := juryMoreUptoRow, standIns := [], harness := (true, "2731bbef2df0ae78df2ecc8172356bcb82777ce7246e1d0c135dc6f4b2e45110"), looks := true }, kinds := [], alts := [], laidByText := true, laidKinds := [.sentinel, .sentinel, .sentinel, .sentinel], laidTests := true, laidLooks := .later }
def JuryMoreUptoCardSaid : Prop := Claim7.holds Tryd.pinned (.plain (OpenSpec.upto juryMoreSpec)) juryMoreUptoCard

/-- THE SECOND FORM's CARD OF 'sextonlaw16.JuryKeys'. -/
def juryKeysUptoCard : Claim7 := { stood := { row := juryKeysUptoRow, standIns := [], harness := (true, "2731bbef2df0ae78df2ecc8172356bcb82777ce7246e1d0c135dc6f4b2e45110"), looks := true }, kinds := [], alts := [], laidByText := true, laidKinds := [.sentinel, .sentinel, .sentinel, .sentinel], laidTests := true, laidLooks := .later }
def JuryKeysUptoCardSaid : Prop := Claim7.holds Tryd.pinned (.plain (OpenSpec.upto juryKeysSpec)) juryKeysUptoCard

/-- THE SECOND FORM's CARD OF 'sextonlaw16.JuryFull'. -/
def juryFullUptoCard : Claim7 := { stood := { row := juryFullUptoRow, standIns := [], harness := (true, "2731bbef2df0ae78df2ecc8172356bcb82777ce7246e1d0c135dc6f4b2e45110"), looks := true }, kinds := [], alts := [], laidByText := true, laidKinds := [.sentinel, .sentinel, .sentinel, .sentinel], laidTests := true, laidLooks := .later }
def JuryFullUptoCardSaid : Prop := Claim7.holds Tryd.pinned (.plain (OpenSpec.upto juryFullSpec)) juryFullUptoCard
end Rows
end Go.Proofs.YtfpcokdecdnmdaaDoor
