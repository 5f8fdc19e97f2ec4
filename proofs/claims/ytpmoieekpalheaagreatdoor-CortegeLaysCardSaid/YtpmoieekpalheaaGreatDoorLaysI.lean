/- CortegeLays: errors.Is by its summary, and that every walk of this environment is true of the call. -/
import Derived.Test.YtpmoieekpalheaaGreatDoorVseY
import Derived.Test.YtpmoieekpalheaaGreatDoorLaysA
import Derived.WalkKit
import Derived.LaidEql
import Derived.RowKitTokens
import Derived.Lib.Hide
namespace Go.Vse
open Go Go.Proofs Go.RowKit Go.Extern.Stop Go.Stop Go.Extern
theorem isTypeOf (v : Value) (w : World) : (Extern.ReflectliteType.typeOf #[.iface 171 v]).run Tryz.prog w = .ok (.iface 125 (.agg #[.pointer (some ⟨8, 171, none⟩)])) w := by kernel_rfl
def cmpExt (args : Array Value) : Sem Value := (Extern.ReflectliteType.method fun t => do Rtype.noPackHeld "Comparable" t; pure (.bool (← typeInfo t).comparable)) args
theorem isComparable (w : World) : (cmpExt #[.agg #[.pointer (some ⟨8, 171, none⟩)]]).run Tryz.prog w = .ok (.bool true) w := by kernel_rfl
theorem isMethodComparable (v : Value) (w : World) : (Go.method 308 125 v "Comparable").run Tryz.prog w = .ok (119, v) w := by kernel_rfl

theorem is_via (t : TypeId) (v x : Value) (w : World) (R : Ending → World → Prop) (h : Calls Tryz.prog 29 #[.iface t v, .iface 171 x, .bool true] w fun e w' => ∃ y, e = .returned y ∧ R e w') : Calls Tryz.prog 14 #[.iface t v, .iface 171 x] w R := by
  have h8 := @run_callFunc_extern Tryz.prog 28 _ Extern.ReflectliteType.typeOf Tryz.func28 (by kernel_rfl) (by kernel_rfl) (by kernel_rfl) (by kernel_rfl)
  have h32 := @run_callFunc_extern Tryz.prog 119 _ cmpExt Tryz.func119 (by kernel_rfl) (by kernel_rfl) (by kernel_rfl) (by kernel_rfl)
  have tT := isTypeOf
  have cT := isComparable
  have mR := isMethodComparable
  have hu := Tryz.underlying26
  have H := Go.Lib.hid h
  clear h
  go_enter Tryz.func14, Tryz.ntmps14
  go_wp2_with (go_at_call 29; refine H.out.mono ?_; rintro e w' ⟨y, rfl, hR⟩)
  exact hR

theorem mixL : Tryz.prog.follows .mixedOrders = true := by kernel_rfl
theorem callL (n e lf m : Nat) : CallOK (EL n e) (callN (EL n e) lf m) :=
  callN_ok (E := EL n e) arS_ok mixL (spec_withIs (E := EbL n e) arS_ok mixL (noSpec rfl) (noLoop rfl) is_via) (noLoop rfl) m
end Go.Vse
