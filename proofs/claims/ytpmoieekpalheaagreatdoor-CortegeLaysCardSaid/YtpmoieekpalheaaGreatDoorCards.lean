/-
  DERIVED. GIVEN WITH THE SEED: THE CARDS: each row of YtpmoieekpalheaaGreatDoorRows.lean that lists a variable, with what it lists TIED to the program's text (the seventh form; the later family's looks); each row that meets fmt, with fmt's text TOLD by the authors' own Lean function (tested against real Go, not proved from fmt's source: count such statements apart). THE CARD IS WHAT COUNTS. Prove the row's statement (the work); the ties are given (YtpmoieekpalheaaGreatDoorTie.lean); close each card by the builder's one call (the guide's Derived/Test/ToyasCard.lean, 'card_holds'). Laid BY PROGRAM, IN A SANDBOX (cutbox-door.mjs). By AI agents, Wed Nov 11 2026. No macro, syntax, notation, axiom, sorry.
-/
import Derived.Test.YtpmoieekpalheaaGreatDoorRows
import GoSem.ClaimSeven
namespace Go.Proofs.YtpmoieekpalheaaGreatDoor
namespace Rows

/-- THE TIED CARD OF 'sextonlaw08.CortegeLays'. -/
def cortegeLaysCard : Claim7 := { stood := { row := cortegeLaysRow, standIns := [], harness := (true, "89629356c854eb82db99867097bc987a1e383fc873e30e43f6b0b573b950cce5"), looks := true }, kinds := [], alts := [], laidByText := true, laidKinds := [.sentinel, .sentinel, .sentinel, .sentinel, .sentinel, .sentinel, .sentinel, .sentinel], laidTests := true, laidLooks := .later }
def CortegeLaysCardSaid : Prop := Claim7.holds Tryz.pinned (.plain (OpenSpec.ofChange cortegeLaysSpec)) cortegeLaysCard

/-- THE SECOND FORM's CARD OF 'sextonlaw08.CortegeLays'. -/
def cortegeLaysUptoCard : Claim7 := { stood := { row := cortegeLaysUptoRow, standIns := [], harness := (true, "89629356c854eb82db99867097bc987a1e383fc873e30e43f6b0b573b950cce5"), looks := true }, kinds := [], alts := [], laidByText := true, laidKinds := [.sentinel, .sentinel, .sentinel, .sentinel, .sentinel, .sentinel, .sentinel, .sentinel], laidTests := true, laidLooks := .later }
def CortegeLaysUptoCardSaid : Prop := Claim7.holds Tryz.pinned (.plain (OpenSpec.upto cortegeLaysSpec)) cortegeLaysUptoCard
end Rows
end Go.Proofs.YtpmoieekpalheaaGreatDoor
