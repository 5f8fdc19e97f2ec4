/- CortegeLays: the walks of the law, one for each remainder of the slots and of the engine. -/
import Derived.Test.YtpmoieekpalheaaGreatDoorLaysA
namespace Go.Vse
open Go Go.Proofs
set_option maxRecDepth 1000000 in
theorem lay_2_4 (t : Nat → TypeId) (slots engine : Int) : pathT (runL 2 4 t slots engine) = some [cmpZ .eql (remL slots) 2, cmpZ .eql (remL engine) 4] := by kernel_rfl
set_option maxRecDepth 1000000 in
theorem lay_3_0 (t : Nat → TypeId) (slots engine : Int) : pathT (runL 3 0 t slots engine) = some [cmpZ .eql (remL slots) 3, cmpZ .eql (remL engine) 0] := by kernel_rfl
end Go.Vse
