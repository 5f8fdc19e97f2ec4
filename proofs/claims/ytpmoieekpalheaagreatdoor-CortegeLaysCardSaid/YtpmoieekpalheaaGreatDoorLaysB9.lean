/- CortegeLays: the walks of the law, one for each remainder of the slots and of the engine. -/
import Derived.Test.YtpmoieekpalheaaGreatDoorLaysA
namespace Go.Vse
open Go Go.Proofs
set_option maxRecDepth 1000000 in
theorem lay_4_0 (t : Nat → TypeId) (slots engine : Int) : pathT (runL 4 0 t slots engine) = some [cmpZ .eql (remL slots) 4, cmpZ .eql (remL engine) 0] := by kernel_rfl
set_option maxRecDepth 1000000 in
theorem lay_4_1 (t : Nat → TypeId) (slots engine : Int) : pathT (runL 4 1 t slots engine) = some [cmpZ .eql (remL slots) 4, cmpZ .eql (remL engine) 1] := by kernel_rfl
end Go.Vse
