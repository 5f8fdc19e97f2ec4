/-
  NARROWER THAN 'FOR EVERY INPUT', by the rows' own cells (each row's printed sentence says how): CortegeExact: laid · JuryOne: laid · JuryMore: laid · JuryKeys: laid · JuryFull: laid.
  DERIVED. THE GIVEN ROWS OF THIS SEAT. 5 by the template 'for every input the law returns true; each argument reads behind the call as it read before'; 0 by the template 'total and deterministic' (their statements: YtfpcokdecdnmdaaDoorTotals.lean).
  GIVEN WITH THE SEED: the statements are not yours to turn. If you find one false, say at which input.
  Laid BY PROGRAM, IN A SANDBOX (cutbox-rows.mjs): the forced cells as the released guide's own fill.sh prints them over the translation 3b6cee506aed5544… (all of the seat's roots in one cut). By AI agents, Wed Nov 11 2026. No macro, syntax, notation, axiom, sorry.
-/
import Derived.Test.YtfpcokdecdnmdaaDoorChecked
import GoSem.Claim
import GoSem.ClaimJoined
import GoSem.ClaimMapViews
import Derived.JoinedTies
import Derived.KernelRfl
namespace Go.Proofs.YtfpcokdecdnmdaaDoor
/- THE CELL 'sum', in the pinned program and in every row, IS THE sha256 OF THE DUMP (.gsa) THAT YtfpcokdecdnmdaaDoorProg.lean LOADS. Nothing in Lean hashes anything: it is a label: what it is worth is what the hold of that sum in a sandbox is worth. -/
noncomputable def Tryd.pinned : Pinned := { name := "ytfpcokdecdnmdaadoor", sum := "3b6cee506aed5544ac9bf755b5d23405300f9dbf9d0a2d4ca0ee5605f544b46b", checked := Tryd.checked }
namespace Rows
def none {H : Type} : Left H := { results := [], args := [] }

/- WHAT THE LISTED PACKAGE-LEVEL VARIABLES READ AS WHEN THE CALL BEGINS. Each datum BY PROGRAM (the guide's laid-datum.mjs) off the statement by which the dump's own 'gosem.cut.vars' lays the variable. In a bare row this is a premise. The card (YtfpcokdecdnmdaaDoorCards.lean) ties it to the program's text. -/
def laid_sexton_api_ErrArg {H : Type} : DataW H := .iface "*errors.errorString" (.ptr (.agg [.lit (.string [97, 110, 32, 97, 114, 103, 117, 109, 101, 110, 116, 32, 116, 104, 97, 116, 32, 99, 97, 110, 39, 116, 32, 98, 101])]))
def laid_sexton_api_ErrNil {H : Type} : DataW H := .iface "*errors.errorString" (.ptr (.agg [.lit (.string [97, 32, 110, 105, 108, 32, 116, 104, 105, 110, 103])]))
def laid_sexton_api_ErrState {H : Type} : DataW H := .iface "*errors.errorString" (.ptr (.agg [.lit (.string [110, 111, 116, 32, 110, 111, 119])]))
def laid_sexton_api_ErrLong {H : Type} : DataW H := .iface "*errors.errorString" (.ptr (.agg [.lit (.string [116, 111, 111, 32, 108, 111, 110, 103])]))

/-- 'sextonlaw08.CortegeExact': WHATEVER THE INPUT: true; the input reads as it did. -/
def cortegeExactSpec : ChangeSpec := { name := "cortegeExact", fn := fun _ => fun
  | [d1, d2] => { results := [.lit (.bool true)], args := [d1, d2] }
  | _ => none }
def cortegeExactRow : OpenClaim := { program := "ytfpcokdecdnmdaadoor", sum := "3b6cee506aed5544ac9bf755b5d23405300f9dbf9d0a2d4ca0ee5605f544b46b", func := "sexton/sextonlaw08.CortegeExact", spec := "cortegeExact", inPlace := ["internal/reflectlite.TypeOf"], unfollowed := true, recurses := true, named := ["sexton/api.ErrArg"], apart := false, laid := [("sexton/api.ErrArg", laid_sexton_api_ErrArg)] }
def CortegeExactSaid : Prop := cortegeExactRow.holds Tryd.pinned (OpenSpec.ofChange cortegeExactSpec)

/-- ITS FALSE NEIGHBOUR: 'it returns false'. Refute it at one input. -/
def cortegeExactWrong : ChangeSpec := { name := "cortegeExact", fn := fun _ => fun
  | [d1, d2] => { results := [.lit (.bool false)], args := [d1, d2] }
  | _ => none }
def CortegeExactWrongFalsely : Prop := cortegeExactRow.holds Tryd.pinned (OpenSpec.ofChange cortegeExactWrong)

/-- 'sextonlaw16.JuryOne': WHATEVER THE INPUT: true; the input reads as it did. -/
def juryOneSpec : ChangeSpec := { name := "juryOne", fn := fun _ => fun
  | [d1, d2, d3] => { results := [.lit (.bool true)], args := [d1, d2, d3] }
  | _ => none }
def juryOneRow : OpenClaim := { program := "ytfpcokdecdnmdaadoor", sum := "3b6cee506aed5544ac9bf755b5d23405300f9dbf9d0a2d4ca0ee5605f544b46b", func := "sexton/sextonlaw16.JuryOne", spec := "juryOne", inPlace := ["slices.overlaps[sexton/api.Pair]", "internal/reflectlite.TypeOf"], unfollowed := true, recurses := true, named := ["sexton/api.ErrArg", "sexton/api.ErrLong", "sexton/api.ErrState", "sexton/api.ErrNil"], apart := false, laid := [("sexton/api.ErrArg", laid_sexton_api_ErrArg), ("sexton/api.ErrNil", laid_sexton_api_ErrNil), ("sexton/api.ErrState", laid_sexton_api_ErrState), ("sexton/api.ErrLong", laid_sexton_api_ErrLong)] }
def JuryOneSaid : Prop := juryOneRow.holds Tryd.pinned (OpenSpec.ofChange juryOneSpec)

/-- ITS FALSE NEIGHBOUR: 'it returns false'. Refute it at one input. -/
def juryOneWrong : ChangeSpec := { name := "juryOne", fn := fun _ => fun
  | [d1, d2, d3] => { results := [.lit (.bool false)], args := [d1, d2, d3] }
  | _ => none }
def JuryOneWrongFalsely : Prop := juryOneRow.holds Tryd.pinned (OpenSpec.ofChange juryOneWrong)

/-- 'sextonlaw16.JuryMore': WHATEVER THE INPUT: true; the input reads as it did. -/
def juryMoreSpec : ChangeSpec := { name := "juryMore", fn := fun _ => fun
  | [d1, d2, d3] => { results := [.lit (.bool true)], args := [d1, d2, d3] }
  | _ => none }
def juryMoreRow : OpenClaim := { program := "ytfpcokdecdnmdaadoor", sum := "3b6cee506aed5544ac9bf755b5d23405300f9dbf9d0a2d4ca0ee5605f544b46b", func := "sexton/sextonlaw16.JuryMore", spec := "juryMore", inPlace := ["slices.overlaps[sexton/api.Pair]", "internal/reflectlite.TypeOf"], unfollowed := true, recurses := true, named := ["sexton/api.ErrArg", "sexton/api.ErrLong", "sexton/api.ErrState", "sexton/api.ErrNil"], apart := false, laid := [("sexton/api.ErrArg", laid_sexton_api_ErrArg), ("sexton/api.ErrNil", laid_sexton_api_ErrNil), ("sexton/api.ErrState", laid_sexton_api_ErrState), ("sexton/api.ErrLong", laid_sexton_api_ErrLong)] }
def JuryMoreSaid : Prop := juryMoreRow.holds Tryd.pinned (OpenSpec.ofChange juryMoreSpec)

/-- ITS FALSE NEIGHBOUR: 'it returns false'. Refute it at one input. -/
def juryMoreWrong : ChangeSpec := { name := "juryMore", fn := fun _ => fun
  | [d1, d2, d3] => { results := [.lit (.bool false)], args := [d1, d2, d3] }
  | _ => none }
def JuryMoreWrongFalsely : Prop := juryMoreRow.holds Tryd.pinned (OpenSpec.ofChange juryMoreWrong)

/-- 'sextonlaw16.JuryKeys': WHATEVER THE INPUT: true; the input reads as it did. -/
def juryKeysSpec : ChangeSpec := { name := "juryKeys", fn := fun _ => fun
  | [d1, d2] => { results := [.lit (.bool true)], args := [d1, d2] }
  | _ => none }
def juryKeysRow : OpenClaim := { program := "ytfpcokdecdnmdaadoor", sum := "3b6cee506aed5544ac9bf755b5d23405300f9dbf9d0a2d4ca0ee5605f544b46b", func := "sexton/sextonlaw16.JuryKeys", spec := "juryKeys", inPlace := ["slices.overlaps[sexton/api.Pair]", "internal/reflectlite.TypeOf"], unfollowed := true, recurses := true, named := ["sexton/api.ErrArg", "sexton/api.ErrLong", "sexton/api.ErrState", "sexton/api.ErrNil"], apart := false, laid := [("sexton/api.ErrArg", laid_sexton_api_ErrArg), ("sexton/api.ErrNil", laid_sexton_api_ErrNil), ("sexton/api.ErrState", laid_sexton_api_ErrState), ("sexton/api.ErrLong", laid_sexton_api_ErrLong)] }
def JuryKeysSaid : Prop := juryKeysRow.holds Tryd.pinned (OpenSpec.ofChange juryKeysSpec)

/-- ITS FALSE NEIGHBOUR: 'it returns false'. Refute it at one input. -/
def juryKeysWrong : ChangeSpec := { name := "juryKeys", fn := fun _ => fun
  | [d1, d2] => { results := [.lit (.bool false)], args := [d1, d2] }
  | _ => none }
def JuryKeysWrongFalsely : Prop := juryKeysRow.holds Tryd.pinned (OpenSpec.ofChange juryKeysWrong)

/-- 'sextonlaw16.JuryFull': WHATEVER THE INPUT: true; the input reads as it did. -/
def juryFullSpec : ChangeSpec := { name := "juryFull", fn := fun _ => fun
  | [d1, d2, d3] => { results := [.lit (.bool true)], args := [d1, d2, d3] }
  | _ => none }
def juryFullRow : OpenClaim := { program := "ytfpcokdecdnmdaadoor", sum := "3b6cee506aed5544ac9bf755b5d23405300f9dbf9d0a2d4ca0ee5605f544b46b", func := "sexton/sextonlaw16.JuryFull", spec := "juryFull", inPlace := ["slices.overlaps[sexton/api.Pair]", "internal/reflectlite.TypeOf"], unfollowed := true, recurses := true, named := ["sexton/api.ErrArg", "sexton/api.ErrLong", "sexton/api.ErrState", "sexton/api.ErrNil"], apart := false, laid := [("sexton/api.ErrArg", laid_sexton_api_ErrArg), ("sexton/api.ErrNil", laid_sexton_api_ErrNil), ("sexton/api.ErrState", laid_sexton_api_ErrState), ("sexton/api.ErrLong", laid_sexton_api_ErrLong)] }
def JuryFullSaid : Prop := juryFullRow.holds Tryd.pinned (OpenSpec.ofChange juryFullSpec)

/-- ITS FALSE NEIGHBOUR: 'it returns false'. Refute it at one input. -/
def juryFullWrong : ChangeSpec := { name := "juryFull", fn := fun _ => fun
  | [d1, d2, d3] => { results := [.lit (.bool false)], args := [d1, d2, d3] }
  | _ => none }
def JuryFullWrongFalsely : Prop := juryFullRow.holds Tryd.pinned (OpenSpec.ofChange juryFullWrong)

/- THE SECOND FORM. 'bulk': how many values and letters a reading holds, each counted each time it is reached (what is shared counts as often as it is met; a slice's spare places count too). A statement '..UptoSaid' is the law's where the arguments, and the package variables that the reading takes, are together of bulk at most 1048576: NARROWER than '..Said'. Prove '..Said' where nothing that the law and all that it calls make is longer than what came in: it says more and counts as full. Else prove '..UptoSaid'. A law counts once. -/
mutual
def uptoBulk {H : Type} : DataW H → Nat
  | .lit (.string bytes) => bytes.length + 1
  | .lit _ => 1
  | .nil => 1
  | .ptr d => uptoBulk d + 1
  | .slice elems spare => uptoBulkAll elems + uptoBulkAll spare + 1
  | .agg parts => uptoBulkAll parts + 1
  | .iface _ d => uptoBulk d + 1
  | .map entries => uptoBulkEntries entries + 1
  | .held _ => 1
def uptoBulkAll {H : Type} : List (DataW H) → Nat
  | [] => 0
  | d :: r => uptoBulk d + uptoBulkAll r
def uptoBulkEntries {H : Type} : List (Lit × DataW H) → Nat
  | [] => 0
  | x :: r => uptoBulkEntry x + uptoBulkEntries r
def uptoBulkEntry {H : Type} : Lit × DataW H → Nat
  | (.string bytes, d) => bytes.length + uptoBulk d + 1
  | (_, d) => uptoBulk d + 1
 end
def uptoSmall : (H : Type) → List (DataW H) → Bool := fun _ ds => decide (uptoBulkAll ds ≤ 1048576)
def OpenSpec.upto (s : _root_.Go.ChangeSpec) : _root_.Go.OpenSpec := { _root_.Go.OpenSpec.ofChange s with cond := some uptoSmall }

/-- 'sextonlaw08.CortegeExact', WHERE WHAT IT READS IS OF BULK AT MOST 1048576: true; the input reads as it did. -/
def cortegeExactUptoRow : OpenClaim := { program := "ytfpcokdecdnmdaadoor", sum := "3b6cee506aed5544ac9bf755b5d23405300f9dbf9d0a2d4ca0ee5605f544b46b", func := "sexton/sextonlaw08.CortegeExact", spec := "cortegeExact", inPlace := ["internal/reflectlite.TypeOf"], unfollowed := true, recurses := true, named := ["sexton/api.ErrArg"], apart := false, laid := [("sexton/api.ErrArg", laid_sexton_api_ErrArg)], narrowed := true }
def CortegeExactUptoSaid : Prop := cortegeExactUptoRow.holds Tryd.pinned (OpenSpec.upto cortegeExactSpec)

/-- 'sextonlaw16.JuryOne', WHERE WHAT IT READS IS OF BULK AT MOST 1048576: true; the input reads as it did. -/
def juryOneUptoRow : OpenClaim := { program := "ytfpcokdecdnmdaadoor", sum := "3b6cee506aed5544ac9bf755b5d23405300f9dbf9d0a2d4ca0ee5605f544b46b", func := "sexton/sextonlaw16.JuryOne", spec := "juryOne", inPlace := ["slices.overlaps[sexton/api.Pair]", "internal/reflectlite.TypeOf"], unfollowed := true, recurses := true, named := ["sexton/api.ErrArg", "sexton/api.ErrLong", "sexton/api.ErrState", "sexton/api.ErrNil"], apart := false, laid := [("sexton/api.ErrArg", laid_sexton_api_ErrArg), ("sexton/api.ErrNil", laid_sexton_api_ErrNil), ("sexton/api.ErrState", laid_sexton_api_ErrState), ("sexton/api.ErrLong", laid_sexton_api_ErrLong)], narrowed := true }
def JuryOneUptoSaid : Prop := juryOneUptoRow.holds Tryd.pinned (OpenSpec.upto juryOneSpec)

/-- 'sextonlaw16.JuryMore', WHERE WHAT IT READS IS OF BULK AT MOST 1048576: true; the input reads as it did. -/
def juryMoreUptoRow : OpenClaim := { program := "ytfpcokdecdnmdaadoor", sum := "3b6cee506aed5544ac9bf755b5d23405300f9dbf9d0a2d4ca0ee5605f544b46b", func := "sexton/sextonlaw16.JuryMore", spec := "juryMore", inPlace := ["slices.overlaps[sexton/api.Pair]", "internal/reflectlite.TypeOf"], unfollowed := true, recurses := true, named := ["sexton/api.ErrArg", "sexton/api.ErrLong", "sexton/api.ErrState", "sexton/api.ErrNil"], apart := false, laid := [("sexton/api.ErrArg", laid_sexton_api_ErrArg), ("sexton/api.ErrNil", laid_sexton_api_ErrNil), ("sexton/api.ErrState", laid_sexton_api_ErrState), ("sexton/api.ErrLong", laid_sexton_api_ErrLong)], narrowed := true }
def JuryMoreUptoSaid : Prop := juryMoreUptoRow.holds Tryd.pinned (OpenSpec.upto juryMoreSpec)

/-- 'sextonlaw16.JuryKeys', WHERE WHAT IT READS IS OF BULK AT MOST 1048576: true; the input reads as it did. -/
def juryKeysUptoRow : OpenClaim := { program := "ytfpcokdecdnmdaadoor", sum := "3b6cee506aed5544ac9bf755b5d23405300f9dbf9d0a2d4ca0ee5605f544b46b", func := "sexton/sextonlaw16.JuryKeys", spec := "juryKeys", inPlace := ["slices.overlaps[sexton/api.Pair]", "internal/reflectlite.TypeOf"], unfollowed := true, recurses := true, named := ["sexton/api.ErrArg", "sexton/api.ErrLong", "sexton/api.ErrState", "sexton/api.ErrNil"], apart := false, laid := [("sexton/api.ErrArg", laid_sexton_api_ErrArg), ("sexton/api.ErrNil", laid_sexton_api_ErrNil), ("sexton/api.ErrState", laid_sexton_api_ErrState), ("sexton/api.ErrLong", laid_sexton_api_ErrLong)], narrowed := true }
def JuryKeysUptoSaid : Prop := juryKeysUptoRow.holds Tryd.pinned (OpenSpec.upto juryKeysSpec)

/-- 'sextonlaw16.JuryFull', WHERE WHAT IT READS IS OF BULK AT MOST 1048576: true; the input reads as it did. -/
def juryFullUptoRow : OpenClaim := { program := "ytfpcokdecdnmdaadoor", sum := "3b6cee506aed5544ac9bf755b5d23405300f9dbf9d0a2d4ca0ee5605f544b46b", func := "sexton/sextonlaw16.JuryFull", spec := "juryFull", inPlace := ["slices.overlaps[sexton/api.Pair]", "internal/reflectlite.TypeOf"], unfollowed := true, recurses := true, named := ["sexton/api.ErrArg", "sexton/api.ErrLong", "sexton/api.ErrState", "sexton/api.ErrNil"], apart := false, laid := [("sexton/api.ErrArg", laid_sexton_api_ErrArg), ("sexton/api.ErrNil", laid_sexton_api_ErrNil), ("sexton/api.ErrState", laid_sexton_api_ErrState), ("sexton/api.ErrLong", laid_sexton_api_ErrLong)], narrowed := true }
def JuryFullUptoSaid : Prop := juryFullUptoRow.holds Tryd.pinned (OpenSpec.upto juryFullSpec)

end Rows
end Go.Proofs.YtfpcokdecdnmdaaDoor
