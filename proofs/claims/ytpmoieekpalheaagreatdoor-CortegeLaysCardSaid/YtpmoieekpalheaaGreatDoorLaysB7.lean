/- CortegeLays: the walks of the law, one for each remainder of the slots and of the engine. -/
import Derived.Test.YtpmoieekpalheaaGreatDoorLaysA
namespace Go.Vse
open Go Go.Proofs
set_option maxRecDepth 1000000 in
theorem lay_3_1 (t : Nat → TypeId) (slots engine : Int) : pathT (runL 3 1 t slots engine) = some [cmpZ .eql (remL slots) 3, cmpZ .eql (remL engine) 1] := by kernel_rfl
set_option maxRecDepth 1000000 in
theorem lay_3_2 (t : Nat → TypeId) (slots engine : Int) : pathT (runL 3 2 t slots engine) = some [cmpZ .eql (remL slots) 3, cmpZ .eql (remL engine) 2] := by kernel_rfl
end Go.Vse
