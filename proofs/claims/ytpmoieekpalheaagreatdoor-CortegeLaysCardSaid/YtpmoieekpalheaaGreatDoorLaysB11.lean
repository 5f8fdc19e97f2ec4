/- CortegeLays: the walks of the law, one for each remainder of the slots and of the engine. -/
import Derived.Test.YtpmoieekpalheaaGreatDoorLaysA
namespace Go.Vse
open Go Go.Proofs
set_option maxRecDepth 1000000 in
theorem lay_4_4 (t : Nat → TypeId) (slots engine : Int) : pathT (runL 4 4 t slots engine) = some [cmpZ .eql (remL slots) 4, cmpZ .eql (remL engine) 4] := by kernel_rfl
end Go.Vse
