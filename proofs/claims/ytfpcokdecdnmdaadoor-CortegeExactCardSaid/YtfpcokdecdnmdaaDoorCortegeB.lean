/- CortegeExact, second part: the call returns true, for every operation and every row of replies, and writes nothing that was there. -/
import Derived.Test.YtfpcokdecdnmdaaDoorCortegeA
import Derived.WalkKit
import Derived.LaidEql
import Derived.RowKitTokens
import Derived.Lib.Hide
namespace Go.Vse
open Go Go.Proofs Go.RowKit Go.Extern.Stop Go.Stop Go.Extern
theorem isTypeOf (v : Value) (w : World) : (Extern.ReflectliteType.typeOf #[.iface 206 v]).run Tryd.prog w = .ok (.iface 124 (.agg #[.pointer (some ⟨4, 206, none⟩)])) w := by kernel_rfl
def cmpExt (args : Array Value) : Sem Value := (Extern.ReflectliteType.method fun t => do Rtype.noPackHeld "Comparable" t; pure (.bool (← typeInfo t).comparable)) args
theorem isComparable (w : World) : (cmpExt #[.agg #[.pointer (some ⟨4, 206, none⟩)]]).run Tryd.prog w = .ok (.bool true) w := by kernel_rfl
theorem isMethodComparable (v : Value) (w : World) : (Go.method 354 124 v "Comparable").run Tryd.prog w = .ok (125, v) w := by kernel_rfl

theorem is_via {t : TypeId} {v x : Value} {w : World} {R : Ending → World → Prop} (h : Calls Tryd.prog 23 #[.iface t v, .iface 206 x, .bool true] w fun e w' => ∃ y, e = .returned y ∧ R e w') : Calls Tryd.prog 11 #[.iface t v, .iface 206 x] w R := by
  have h8 := @run_callFunc_extern Tryd.prog 22 _ Extern.ReflectliteType.typeOf Tryd.func22 (by kernel_rfl) (by kernel_rfl) (by kernel_rfl) (by kernel_rfl)
  have h32 := @run_callFunc_extern Tryd.prog 125 _ cmpExt Tryd.func125 (by kernel_rfl) (by kernel_rfl) (by kernel_rfl) (by kernel_rfl)
  have tT := isTypeOf
  have cT := isComparable
  have mR := isMethodComparable
  have hu := Tryd.underlying28
  have H := Go.Lib.hid h
  clear h
  go_enter Tryd.func11, Tryd.ntmps11
  go_wp2_with (go_at_call 23; refine H.out.mono ?_; rintro e w' ⟨y, rfl, hR⟩)

  exact hR

noncomputable def El (TR : TypeId) (R : List Reply) : Env PS := { E0 with loop := fun f k => if f = 3 && k = 10 then some (invLoop E0 [0] [1, 5, 7, 8] (st8 TR R) V8 0) else none }
def h08n (n : Nat) (t : TypeId) : Heap PS := ⟨n, [(0, .ccells [.ifc 206 (.ptr 1 [] 0)] t)]⟩
def h08 (t TR : TypeId) (R : List Reply) : Heap PS := ⟨3, [(0, .ccells [.ifc 206 (.ptr 1 [] 0)] t), (2, .ro TR 6 (.opn (.replies R)))]⟩

def TrueT (t : Out PS (ST PS)) : Prop := t.eval = some (.one (.bool (.lit true)))
theorem TrueT.ite {b : Bool} {l r : Out PS (ST PS)} (hl : b = true → TrueT l) (hr : b = false → TrueT r) : TrueT (.ite b l r) := by
  cases b with
  | true => exact hl rfl
  | false => exact hr rfl
theorem TrueT.leaf : TrueT (.leaf (.one (.bool (.lit true)))) := rfl

theorem start8 (TR : TypeId) (R : List Reply) (s : S8) (h : s.k = 4 ∨ s.k = 5) (h1 : s.pc = 0) (h2 : s.line = 0) (h3 : s.i = 0) (h4 : s.fin = none) : startB E0 (st8 TR R) V8 (some (openS arS (st8 TR R s))) = true := by
  simp only [startB, decide_eq_true_eq]
  refine ⟨s, ⟨by omega, by omega, .inl ⟨h4, ?_⟩⟩, rfl⟩
  rw [h1, h2]
  rcases h with h | h <;> rw [h] <;> simp [pairs8]


theorem law_tree (t TR : TypeId) (R : List Reply) (op : Opn) : (callN (El TR R) 100 40 3 [.agg op.sc, .one (.slc 2 none)] (h08 t TR R)).map (fun (v, _) => v) = (.ite (cmpZ .eql op.kind (5 : Int)) (.ite (cmpZ .neq op.val (0 : Int)) (.ite (cmpZ .lss op.kind (4 : Int)) (.leaf (.one (.bool (.lit true)))) (.ite (cmpZ .gtr op.kind (5 : Int)) (.leaf (.one (.bool (.lit true)))) (.ite (cmpZ .neq op.key (0 : Int)) (.leaf (.one (.bool (.lit true)))) (.ite (cmpZ .neq op.tall (0 : Int)) (.leaf (.one (.bool (.lit true)))) (.ite (cmpZ .lss op.val (0 : Int)) (.leaf (.one (.bool (.lit true)))) (.ite (cmpZ .gtr op.val (1073741824 : Int)) (.leaf (.one (.bool (.lit true)))) (.ite (cmpZ .neq op.kind (4 : Int)) (.ite (cmpZ .neq op.val (0 : Int)) (.leaf (.one (.bool (.lit true)))) (.leaf (.one (.bool (.lit false))))) (.leaf (.one (.bool (.lit false))))))))))) (.ite (cmpZ .eql op.key (0 : Int)) (.ite (cmpZ .eql op.tall (0 : Int)) (.ite (cmpZ .geq op.val (0 : Int)) (.ite (cmpZ .leq op.val (1073741824 : Int)) (.ite (cmpZ .lss op.kind (4 : Int)) (.leaf (.one (.bool (.lit false)))) (.ite (cmpZ .gtr op.kind (5 : Int)) (.leaf (.one (.bool (.lit false)))) (.ite (cmpZ .neq op.key (0 : Int)) (.leaf (.one (.bool (.lit false)))) (.ite (cmpZ .neq op.tall (0 : Int)) (.leaf (.one (.bool (.lit false)))) (.ite (cmpZ .lss op.val (0 : Int)) (.leaf (.one (.bool (.lit false)))) (.ite (cmpZ .gtr op.val (1073741824 : Int)) (.leaf (.one (.bool (.lit false)))) (.ite (cmpZ .neq op.kind (4 : Int)) (.ite (cmpZ .neq op.val (0 : Int)) (.leaf (.one (.bool (.lit false)))) (.ite (startB E0 (st8 TR R) V8 (some (openS arS (st8 TR R ⟨op.kind, op.key, op.val, op.tall, (0 : Int), (0 : Int), ⟨(0 : Int), (0 : Int), (0 : Int), (0 : Int), false⟩, ⟨(0 : Int), (0 : Int), (0 : Int), (0 : Int), false⟩, ⟨(0 : Int), (0 : Int), (0 : Int), (0 : Int), false⟩, ⟨(0 : Int), (0 : Int), (0 : Int), (0 : Int), false⟩, (0 : Int), (0 : Int), none⟩)))) (.leaf (.one (.bool (.lit true)))) (.fail "start"))) (.ite (startB E0 (st8 TR R) V8 (some (openS arS (st8 TR R ⟨op.kind, op.key, op.val, op.tall, (0 : Int), (0 : Int), ⟨(0 : Int), (0 : Int), (0 : Int), (0 : Int), false⟩, ⟨(0 : Int), (0 : Int), (0 : Int), (0 : Int), false⟩, ⟨(0 : Int), (0 : Int), (0 : Int), (0 : Int), false⟩, ⟨(0 : Int), (0 : Int), (0 : Int), (0 : Int), false⟩, (0 : Int), (0 : Int), none⟩)))) (.leaf (.one (.bool (.lit true)))) (.fail "start"))))))))) (.ite (cmpZ .lss op.kind (4 : Int)) (.leaf (.one (.bool (.lit true)))) (.ite (cmpZ .gtr op.kind (5 : Int)) (.leaf (.one (.bool (.lit true)))) (.ite (cmpZ .neq op.key (0 : Int)) (.leaf (.one (.bool (.lit true)))) (.ite (cmpZ .neq op.tall (0 : Int)) (.leaf (.one (.bool (.lit true)))) (.ite (cmpZ .lss op.val (0 : Int)) (.leaf (.one (.bool (.lit true)))) (.ite (cmpZ .gtr op.val (1073741824 : Int)) (.leaf (.one (.bool (.lit true)))) (.ite (cmpZ .neq op.kind (4 : Int)) (.ite (cmpZ .neq op.val (0 : Int)) (.leaf (.one (.bool (.lit true)))) (.leaf (.one (.bool (.lit false))))) (.leaf (.one (.bool (.lit false)))))))))))) (.ite (cmpZ .lss op.kind (4 : Int)) (.leaf (.one (.bool (.lit true)))) (.ite (cmpZ .gtr op.kind (5 : Int)) (.leaf (.one (.bool (.lit true)))) (.ite (cmpZ .neq op.key (0 : Int)) (.leaf (.one (.bool (.lit true)))) (.ite (cmpZ .neq op.tall (0 : Int)) (.leaf (.one (.bool (.lit true)))) (.ite (cmpZ .lss op.val (0 : Int)) (.leaf (.one (.bool (.lit true)))) (.ite (cmpZ .gtr op.val (1073741824 : Int)) (.leaf (.one (.bool (.lit true)))) (.ite (cmpZ .neq op.kind (4 : Int)) (.ite (cmpZ .neq op.val (0 : Int)) (.leaf (.one (.bool (.lit true)))) (.leaf (.one (.bool (.lit false))))) (.leaf (.one (.bool (.lit false)))))))))))) (.ite (cmpZ .lss op.kind (4 : Int)) (.leaf (.one (.bool (.lit true)))) (.ite (cmpZ .gtr op.kind (5 : Int)) (.leaf (.one (.bool (.lit true)))) (.ite (cmpZ .neq op.key (0 : Int)) (.leaf (.one (.bool (.lit true)))) (.ite (cmpZ .neq op.tall (0 : Int)) (.leaf (.one (.bool (.lit true)))) (.ite (cmpZ .lss op.val (0 : Int)) (.leaf (.one (.bool (.lit true)))) (.ite (cmpZ .gtr op.val (1073741824 : Int)) (.leaf (.one (.bool (.lit true)))) (.ite (cmpZ .neq op.kind (4 : Int)) (.ite (cmpZ .neq op.val (0 : Int)) (.leaf (.one (.bool (.lit true)))) (.leaf (.one (.bool (.lit false))))) (.leaf (.one (.bool (.lit false)))))))))))) (.ite (cmpZ .lss op.kind (4 : Int)) (.leaf (.one (.bool (.lit true)))) (.ite (cmpZ .gtr op.kind (5 : Int)) (.leaf (.one (.bool (.lit true)))) (.ite (cmpZ .neq op.key (0 : Int)) (.leaf (.one (.bool (.lit true)))) (.ite (cmpZ .neq op.tall (0 : Int)) (.leaf (.one (.bool (.lit true)))) (.ite (cmpZ .lss op.val (0 : Int)) (.leaf (.one (.bool (.lit true)))) (.ite (cmpZ .gtr op.val (1073741824 : Int)) (.leaf (.one (.bool (.lit true)))) (.ite (cmpZ .neq op.kind (4 : Int)) (.ite (cmpZ .neq op.val (0 : Int)) (.leaf (.one (.bool (.lit true)))) (.leaf (.one (.bool (.lit false))))) (.leaf (.one (.bool (.lit false))))))))))))) (.ite (cmpZ .eql op.kind (4 : Int)) (.ite (cmpZ .eql op.key (0 : Int)) (.ite (cmpZ .eql op.tall (0 : Int)) (.ite (cmpZ .geq op.val (0 : Int)) (.ite (cmpZ .leq op.val (1073741824 : Int)) (.ite (cmpZ .lss op.kind (4 : Int)) (.leaf (.one (.bool (.lit false)))) (.ite (cmpZ .gtr op.kind (5 : Int)) (.leaf (.one (.bool (.lit false)))) (.ite (cmpZ .neq op.key (0 : Int)) (.leaf (.one (.bool (.lit false)))) (.ite (cmpZ .neq op.tall (0 : Int)) (.leaf (.one (.bool (.lit false)))) (.ite (cmpZ .lss op.val (0 : Int)) (.leaf (.one (.bool (.lit false)))) (.ite (cmpZ .gtr op.val (1073741824 : Int)) (.leaf (.one (.bool (.lit false)))) (.ite (cmpZ .neq op.kind (4 : Int)) (.ite (cmpZ .neq op.val (0 : Int)) (.leaf (.one (.bool (.lit false)))) (.ite (startB E0 (st8 TR R) V8 (some (openS arS (st8 TR R ⟨op.kind, op.key, op.val, op.tall, (0 : Int), (0 : Int), ⟨(0 : Int), (0 : Int), (0 : Int), (0 : Int), false⟩, ⟨(0 : Int), (0 : Int), (0 : Int), (0 : Int), false⟩, ⟨(0 : Int), (0 : Int), (0 : Int), (0 : Int), false⟩, ⟨(0 : Int), (0 : Int), (0 : Int), (0 : Int), false⟩, (0 : Int), (0 : Int), none⟩)))) (.leaf (.one (.bool (.lit true)))) (.fail "start"))) (.ite (startB E0 (st8 TR R) V8 (some (openS arS (st8 TR R ⟨op.kind, op.key, op.val, op.tall, (0 : Int), (0 : Int), ⟨(0 : Int), (0 : Int), (0 : Int), (0 : Int), false⟩, ⟨(0 : Int), (0 : Int), (0 : Int), (0 : Int), false⟩, ⟨(0 : Int), (0 : Int), (0 : Int), (0 : Int), false⟩, ⟨(0 : Int), (0 : Int), (0 : Int), (0 : Int), false⟩, (0 : Int), (0 : Int), none⟩)))) (.leaf (.one (.bool (.lit true)))) (.fail "start"))))))))) (.ite (cmpZ .lss op.kind (4 : Int)) (.leaf (.one (.bool (.lit true)))) (.ite (cmpZ .gtr op.kind (5 : Int)) (.leaf (.one (.bool (.lit true)))) (.ite (cmpZ .neq op.key (0 : Int)) (.leaf (.one (.bool (.lit true)))) (.ite (cmpZ .neq op.tall (0 : Int)) (.leaf (.one (.bool (.lit true)))) (.ite (cmpZ .lss op.val (0 : Int)) (.leaf (.one (.bool (.lit true)))) (.ite (cmpZ .gtr op.val (1073741824 : Int)) (.leaf (.one (.bool (.lit true)))) (.ite (cmpZ .neq op.kind (4 : Int)) (.ite (cmpZ .neq op.val (0 : Int)) (.leaf (.one (.bool (.lit true)))) (.leaf (.one (.bool (.lit false))))) (.leaf (.one (.bool (.lit false)))))))))))) (.ite (cmpZ .lss op.kind (4 : Int)) (.leaf (.one (.bool (.lit true)))) (.ite (cmpZ .gtr op.kind (5 : Int)) (.leaf (.one (.bool (.lit true)))) (.ite (cmpZ .neq op.key (0 : Int)) (.leaf (.one (.bool (.lit true)))) (.ite (cmpZ .neq op.tall (0 : Int)) (.leaf (.one (.bool (.lit true)))) (.ite (cmpZ .lss op.val (0 : Int)) (.leaf (.one (.bool (.lit true)))) (.ite (cmpZ .gtr op.val (1073741824 : Int)) (.leaf (.one (.bool (.lit true)))) (.ite (cmpZ .neq op.kind (4 : Int)) (.ite (cmpZ .neq op.val (0 : Int)) (.leaf (.one (.bool (.lit true)))) (.leaf (.one (.bool (.lit false))))) (.leaf (.one (.bool (.lit false)))))))))))) (.ite (cmpZ .lss op.kind (4 : Int)) (.leaf (.one (.bool (.lit true)))) (.ite (cmpZ .gtr op.kind (5 : Int)) (.leaf (.one (.bool (.lit true)))) (.ite (cmpZ .neq op.key (0 : Int)) (.leaf (.one (.bool (.lit true)))) (.ite (cmpZ .neq op.tall (0 : Int)) (.leaf (.one (.bool (.lit true)))) (.ite (cmpZ .lss op.val (0 : Int)) (.leaf (.one (.bool (.lit true)))) (.ite (cmpZ .gtr op.val (1073741824 : Int)) (.leaf (.one (.bool (.lit true)))) (.ite (cmpZ .neq op.kind (4 : Int)) (.ite (cmpZ .neq op.val (0 : Int)) (.leaf (.one (.bool (.lit true)))) (.leaf (.one (.bool (.lit false))))) (.leaf (.one (.bool (.lit false)))))))))))) (.ite (cmpZ .lss op.kind (4 : Int)) (.leaf (.one (.bool (.lit true)))) (.ite (cmpZ .gtr op.kind (5 : Int)) (.leaf (.one (.bool (.lit true)))) (.ite (cmpZ .neq op.key (0 : Int)) (.leaf (.one (.bool (.lit true)))) (.ite (cmpZ .neq op.tall (0 : Int)) (.leaf (.one (.bool (.lit true)))) (.ite (cmpZ .lss op.val (0 : Int)) (.leaf (.one (.bool (.lit true)))) (.ite (cmpZ .gtr op.val (1073741824 : Int)) (.leaf (.one (.bool (.lit true)))) (.ite (cmpZ .neq op.kind (4 : Int)) (.ite (cmpZ .neq op.val (0 : Int)) (.leaf (.one (.bool (.lit true)))) (.leaf (.one (.bool (.lit false))))) (.leaf (.one (.bool (.lit false)))))))))))) (.ite (cmpZ .lss op.kind (4 : Int)) (.leaf (.one (.bool (.lit true)))) (.ite (cmpZ .gtr op.kind (5 : Int)) (.leaf (.one (.bool (.lit true)))) (.ite (cmpZ .neq op.key (0 : Int)) (.leaf (.one (.bool (.lit true)))) (.ite (cmpZ .neq op.tall (0 : Int)) (.leaf (.one (.bool (.lit true)))) (.ite (cmpZ .lss op.val (0 : Int)) (.leaf (.one (.bool (.lit true)))) (.ite (cmpZ .gtr op.val (1073741824 : Int)) (.leaf (.one (.bool (.lit true)))) (.ite (cmpZ .neq op.kind (4 : Int)) (.ite (cmpZ .neq op.val (0 : Int)) (.leaf (.one (.bool (.lit true)))) (.leaf (.one (.bool (.lit false))))) (.leaf (.one (.bool (.lit false))))))))))))) := by kernel_rfl
theorem nil_tree (t : TypeId) (op : Opn) : (callN E0 100 40 3 [.agg op.sc, .one .nslc] (h08n 2 t)).map (fun (v, _) => v) = (.ite (cmpZ .eql op.kind (5 : Int)) (.ite (cmpZ .neq op.val (0 : Int)) (.ite (cmpZ .lss op.kind (4 : Int)) (.leaf (.one (.bool (.lit true)))) (.ite (cmpZ .gtr op.kind (5 : Int)) (.leaf (.one (.bool (.lit true)))) (.ite (cmpZ .neq op.key (0 : Int)) (.leaf (.one (.bool (.lit true)))) (.ite (cmpZ .neq op.tall (0 : Int)) (.leaf (.one (.bool (.lit true)))) (.ite (cmpZ .lss op.val (0 : Int)) (.leaf (.one (.bool (.lit true)))) (.ite (cmpZ .gtr op.val (1073741824 : Int)) (.leaf (.one (.bool (.lit true)))) (.ite (cmpZ .neq op.kind (4 : Int)) (.ite (cmpZ .neq op.val (0 : Int)) (.leaf (.one (.bool (.lit true)))) (.leaf (.one (.bool (.lit false))))) (.leaf (.one (.bool (.lit false))))))))))) (.ite (cmpZ .eql op.key (0 : Int)) (.ite (cmpZ .eql op.tall (0 : Int)) (.ite (cmpZ .geq op.val (0 : Int)) (.ite (cmpZ .leq op.val (1073741824 : Int)) (.ite (cmpZ .lss op.kind (4 : Int)) (.leaf (.one (.bool (.lit false)))) (.ite (cmpZ .gtr op.kind (5 : Int)) (.leaf (.one (.bool (.lit false)))) (.ite (cmpZ .neq op.key (0 : Int)) (.leaf (.one (.bool (.lit false)))) (.ite (cmpZ .neq op.tall (0 : Int)) (.leaf (.one (.bool (.lit false)))) (.ite (cmpZ .lss op.val (0 : Int)) (.leaf (.one (.bool (.lit false)))) (.ite (cmpZ .gtr op.val (1073741824 : Int)) (.leaf (.one (.bool (.lit false)))) (.ite (cmpZ .neq op.kind (4 : Int)) (.ite (cmpZ .neq op.val (0 : Int)) (.leaf (.one (.bool (.lit false)))) (.leaf (.one (.bool (.lit true))))) (.leaf (.one (.bool (.lit true))))))))))) (.ite (cmpZ .lss op.kind (4 : Int)) (.leaf (.one (.bool (.lit true)))) (.ite (cmpZ .gtr op.kind (5 : Int)) (.leaf (.one (.bool (.lit true)))) (.ite (cmpZ .neq op.key (0 : Int)) (.leaf (.one (.bool (.lit true)))) (.ite (cmpZ .neq op.tall (0 : Int)) (.leaf (.one (.bool (.lit true)))) (.ite (cmpZ .lss op.val (0 : Int)) (.leaf (.one (.bool (.lit true)))) (.ite (cmpZ .gtr op.val (1073741824 : Int)) (.leaf (.one (.bool (.lit true)))) (.ite (cmpZ .neq op.kind (4 : Int)) (.ite (cmpZ .neq op.val (0 : Int)) (.leaf (.one (.bool (.lit true)))) (.leaf (.one (.bool (.lit false))))) (.leaf (.one (.bool (.lit false)))))))))))) (.ite (cmpZ .lss op.kind (4 : Int)) (.leaf (.one (.bool (.lit true)))) (.ite (cmpZ .gtr op.kind (5 : Int)) (.leaf (.one (.bool (.lit true)))) (.ite (cmpZ .neq op.key (0 : Int)) (.leaf (.one (.bool (.lit true)))) (.ite (cmpZ .neq op.tall (0 : Int)) (.leaf (.one (.bool (.lit true)))) (.ite (cmpZ .lss op.val (0 : Int)) (.leaf (.one (.bool (.lit true)))) (.ite (cmpZ .gtr op.val (1073741824 : Int)) (.leaf (.one (.bool (.lit true)))) (.ite (cmpZ .neq op.kind (4 : Int)) (.ite (cmpZ .neq op.val (0 : Int)) (.leaf (.one (.bool (.lit true)))) (.leaf (.one (.bool (.lit false))))) (.leaf (.one (.bool (.lit false)))))))))))) (.ite (cmpZ .lss op.kind (4 : Int)) (.leaf (.one (.bool (.lit true)))) (.ite (cmpZ .gtr op.kind (5 : Int)) (.leaf (.one (.bool (.lit true)))) (.ite (cmpZ .neq op.key (0 : Int)) (.leaf (.one (.bool (.lit true)))) (.ite (cmpZ .neq op.tall (0 : Int)) (.leaf (.one (.bool (.lit true)))) (.ite (cmpZ .lss op.val (0 : Int)) (.leaf (.one (.bool (.lit true)))) (.ite (cmpZ .gtr op.val (1073741824 : Int)) (.leaf (.one (.bool (.lit true)))) (.ite (cmpZ .neq op.kind (4 : Int)) (.ite (cmpZ .neq op.val (0 : Int)) (.leaf (.one (.bool (.lit true)))) (.leaf (.one (.bool (.lit false))))) (.leaf (.one (.bool (.lit false)))))))))))) (.ite (cmpZ .lss op.kind (4 : Int)) (.leaf (.one (.bool (.lit true)))) (.ite (cmpZ .gtr op.kind (5 : Int)) (.leaf (.one (.bool (.lit true)))) (.ite (cmpZ .neq op.key (0 : Int)) (.leaf (.one (.bool (.lit true)))) (.ite (cmpZ .neq op.tall (0 : Int)) (.leaf (.one (.bool (.lit true)))) (.ite (cmpZ .lss op.val (0 : Int)) (.leaf (.one (.bool (.lit true)))) (.ite (cmpZ .gtr op.val (1073741824 : Int)) (.leaf (.one (.bool (.lit true)))) (.ite (cmpZ .neq op.kind (4 : Int)) (.ite (cmpZ .neq op.val (0 : Int)) (.leaf (.one (.bool (.lit true)))) (.leaf (.one (.bool (.lit false))))) (.leaf (.one (.bool (.lit false))))))))))))) (.ite (cmpZ .eql op.kind (4 : Int)) (.ite (cmpZ .eql op.key (0 : Int)) (.ite (cmpZ .eql op.tall (0 : Int)) (.ite (cmpZ .geq op.val (0 : Int)) (.ite (cmpZ .leq op.val (1073741824 : Int)) (.ite (cmpZ .lss op.kind (4 : Int)) (.leaf (.one (.bool (.lit false)))) (.ite (cmpZ .gtr op.kind (5 : Int)) (.leaf (.one (.bool (.lit false)))) (.ite (cmpZ .neq op.key (0 : Int)) (.leaf (.one (.bool (.lit false)))) (.ite (cmpZ .neq op.tall (0 : Int)) (.leaf (.one (.bool (.lit false)))) (.ite (cmpZ .lss op.val (0 : Int)) (.leaf (.one (.bool (.lit false)))) (.ite (cmpZ .gtr op.val (1073741824 : Int)) (.leaf (.one (.bool (.lit false)))) (.ite (cmpZ .neq op.kind (4 : Int)) (.ite (cmpZ .neq op.val (0 : Int)) (.leaf (.one (.bool (.lit false)))) (.leaf (.one (.bool (.lit true))))) (.leaf (.one (.bool (.lit true))))))))))) (.ite (cmpZ .lss op.kind (4 : Int)) (.leaf (.one (.bool (.lit true)))) (.ite (cmpZ .gtr op.kind (5 : Int)) (.leaf (.one (.bool (.lit true)))) (.ite (cmpZ .neq op.key (0 : Int)) (.leaf (.one (.bool (.lit true)))) (.ite (cmpZ .neq op.tall (0 : Int)) (.leaf (.one (.bool (.lit true)))) (.ite (cmpZ .lss op.val (0 : Int)) (.leaf (.one (.bool (.lit true)))) (.ite (cmpZ .gtr op.val (1073741824 : Int)) (.leaf (.one (.bool (.lit true)))) (.ite (cmpZ .neq op.kind (4 : Int)) (.ite (cmpZ .neq op.val (0 : Int)) (.leaf (.one (.bool (.lit true)))) (.leaf (.one (.bool (.lit false))))) (.leaf (.one (.bool (.lit false)))))))))))) (.ite (cmpZ .lss op.kind (4 : Int)) (.leaf (.one (.bool (.lit true)))) (.ite (cmpZ .gtr op.kind (5 : Int)) (.leaf (.one (.bool (.lit true)))) (.ite (cmpZ .neq op.key (0 : Int)) (.leaf (.one (.bool (.lit true)))) (.ite (cmpZ .neq op.tall (0 : Int)) (.leaf (.one (.bool (.lit true)))) (.ite (cmpZ .lss op.val (0 : Int)) (.leaf (.one (.bool (.lit true)))) (.ite (cmpZ .gtr op.val (1073741824 : Int)) (.leaf (.one (.bool (.lit true)))) (.ite (cmpZ .neq op.kind (4 : Int)) (.ite (cmpZ .neq op.val (0 : Int)) (.leaf (.one (.bool (.lit true)))) (.leaf (.one (.bool (.lit false))))) (.leaf (.one (.bool (.lit false)))))))))))) (.ite (cmpZ .lss op.kind (4 : Int)) (.leaf (.one (.bool (.lit true)))) (.ite (cmpZ .gtr op.kind (5 : Int)) (.leaf (.one (.bool (.lit true)))) (.ite (cmpZ .neq op.key (0 : Int)) (.leaf (.one (.bool (.lit true)))) (.ite (cmpZ .neq op.tall (0 : Int)) (.leaf (.one (.bool (.lit true)))) (.ite (cmpZ .lss op.val (0 : Int)) (.leaf (.one (.bool (.lit true)))) (.ite (cmpZ .gtr op.val (1073741824 : Int)) (.leaf (.one (.bool (.lit true)))) (.ite (cmpZ .neq op.kind (4 : Int)) (.ite (cmpZ .neq op.val (0 : Int)) (.leaf (.one (.bool (.lit true)))) (.leaf (.one (.bool (.lit false))))) (.leaf (.one (.bool (.lit false)))))))))))) (.ite (cmpZ .lss op.kind (4 : Int)) (.leaf (.one (.bool (.lit true)))) (.ite (cmpZ .gtr op.kind (5 : Int)) (.leaf (.one (.bool (.lit true)))) (.ite (cmpZ .neq op.key (0 : Int)) (.leaf (.one (.bool (.lit true)))) (.ite (cmpZ .neq op.tall (0 : Int)) (.leaf (.one (.bool (.lit true)))) (.ite (cmpZ .lss op.val (0 : Int)) (.leaf (.one (.bool (.lit true)))) (.ite (cmpZ .gtr op.val (1073741824 : Int)) (.leaf (.one (.bool (.lit true)))) (.ite (cmpZ .neq op.kind (4 : Int)) (.ite (cmpZ .neq op.val (0 : Int)) (.leaf (.one (.bool (.lit true)))) (.leaf (.one (.bool (.lit false))))) (.leaf (.one (.bool (.lit false)))))))))))) (.ite (cmpZ .lss op.kind (4 : Int)) (.leaf (.one (.bool (.lit true)))) (.ite (cmpZ .gtr op.kind (5 : Int)) (.leaf (.one (.bool (.lit true)))) (.ite (cmpZ .neq op.key (0 : Int)) (.leaf (.one (.bool (.lit true)))) (.ite (cmpZ .neq op.tall (0 : Int)) (.leaf (.one (.bool (.lit true)))) (.ite (cmpZ .lss op.val (0 : Int)) (.leaf (.one (.bool (.lit true)))) (.ite (cmpZ .gtr op.val (1073741824 : Int)) (.leaf (.one (.bool (.lit true)))) (.ite (cmpZ .neq op.kind (4 : Int)) (.ite (cmpZ .neq op.val (0 : Int)) (.leaf (.one (.bool (.lit true)))) (.leaf (.one (.bool (.lit false))))) (.leaf (.one (.bool (.lit false))))))))))))) := by kernel_rfl
theorem emp_tree (t : TypeId) (op : Opn) : (callN E0 100 40 3 [.agg op.sc, .one (.slc 2 (some (.lit 0)))] (h08n 3 t)).map (fun (v, _) => v) = (.ite (cmpZ .eql op.kind (5 : Int)) (.ite (cmpZ .neq op.val (0 : Int)) (.ite (cmpZ .lss op.kind (4 : Int)) (.leaf (.one (.bool (.lit true)))) (.ite (cmpZ .gtr op.kind (5 : Int)) (.leaf (.one (.bool (.lit true)))) (.ite (cmpZ .neq op.key (0 : Int)) (.leaf (.one (.bool (.lit true)))) (.ite (cmpZ .neq op.tall (0 : Int)) (.leaf (.one (.bool (.lit true)))) (.ite (cmpZ .lss op.val (0 : Int)) (.leaf (.one (.bool (.lit true)))) (.ite (cmpZ .gtr op.val (1073741824 : Int)) (.leaf (.one (.bool (.lit true)))) (.ite (cmpZ .neq op.kind (4 : Int)) (.ite (cmpZ .neq op.val (0 : Int)) (.leaf (.one (.bool (.lit true)))) (.leaf (.one (.bool (.lit false))))) (.leaf (.one (.bool (.lit false))))))))))) (.ite (cmpZ .eql op.key (0 : Int)) (.ite (cmpZ .eql op.tall (0 : Int)) (.ite (cmpZ .geq op.val (0 : Int)) (.ite (cmpZ .leq op.val (1073741824 : Int)) (.ite (cmpZ .lss op.kind (4 : Int)) (.leaf (.one (.bool (.lit false)))) (.ite (cmpZ .gtr op.kind (5 : Int)) (.leaf (.one (.bool (.lit false)))) (.ite (cmpZ .neq op.key (0 : Int)) (.leaf (.one (.bool (.lit false)))) (.ite (cmpZ .neq op.tall (0 : Int)) (.leaf (.one (.bool (.lit false)))) (.ite (cmpZ .lss op.val (0 : Int)) (.leaf (.one (.bool (.lit false)))) (.ite (cmpZ .gtr op.val (1073741824 : Int)) (.leaf (.one (.bool (.lit false)))) (.ite (cmpZ .neq op.kind (4 : Int)) (.ite (cmpZ .neq op.val (0 : Int)) (.leaf (.one (.bool (.lit false)))) (.leaf (.one (.bool (.lit true))))) (.leaf (.one (.bool (.lit true))))))))))) (.ite (cmpZ .lss op.kind (4 : Int)) (.leaf (.one (.bool (.lit true)))) (.ite (cmpZ .gtr op.kind (5 : Int)) (.leaf (.one (.bool (.lit true)))) (.ite (cmpZ .neq op.key (0 : Int)) (.leaf (.one (.bool (.lit true)))) (.ite (cmpZ .neq op.tall (0 : Int)) (.leaf (.one (.bool (.lit true)))) (.ite (cmpZ .lss op.val (0 : Int)) (.leaf (.one (.bool (.lit true)))) (.ite (cmpZ .gtr op.val (1073741824 : Int)) (.leaf (.one (.bool (.lit true)))) (.ite (cmpZ .neq op.kind (4 : Int)) (.ite (cmpZ .neq op.val (0 : Int)) (.leaf (.one (.bool (.lit true)))) (.leaf (.one (.bool (.lit false))))) (.leaf (.one (.bool (.lit false)))))))))))) (.ite (cmpZ .lss op.kind (4 : Int)) (.leaf (.one (.bool (.lit true)))) (.ite (cmpZ .gtr op.kind (5 : Int)) (.leaf (.one (.bool (.lit true)))) (.ite (cmpZ .neq op.key (0 : Int)) (.leaf (.one (.bool (.lit true)))) (.ite (cmpZ .neq op.tall (0 : Int)) (.leaf (.one (.bool (.lit true)))) (.ite (cmpZ .lss op.val (0 : Int)) (.leaf (.one (.bool (.lit true)))) (.ite (cmpZ .gtr op.val (1073741824 : Int)) (.leaf (.one (.bool (.lit true)))) (.ite (cmpZ .neq op.kind (4 : Int)) (.ite (cmpZ .neq op.val (0 : Int)) (.leaf (.one (.bool (.lit true)))) (.leaf (.one (.bool (.lit false))))) (.leaf (.one (.bool (.lit false)))))))))))) (.ite (cmpZ .lss op.kind (4 : Int)) (.leaf (.one (.bool (.lit true)))) (.ite (cmpZ .gtr op.kind (5 : Int)) (.leaf (.one (.bool (.lit true)))) (.ite (cmpZ .neq op.key (0 : Int)) (.leaf (.one (.bool (.lit true)))) (.ite (cmpZ .neq op.tall (0 : Int)) (.leaf (.one (.bool (.lit true)))) (.ite (cmpZ .lss op.val (0 : Int)) (.leaf (.one (.bool (.lit true)))) (.ite (cmpZ .gtr op.val (1073741824 : Int)) (.leaf (.one (.bool (.lit true)))) (.ite (cmpZ .neq op.kind (4 : Int)) (.ite (cmpZ .neq op.val (0 : Int)) (.leaf (.one (.bool (.lit true)))) (.leaf (.one (.bool (.lit false))))) (.leaf (.one (.bool (.lit false)))))))))))) (.ite (cmpZ .lss op.kind (4 : Int)) (.leaf (.one (.bool (.lit true)))) (.ite (cmpZ .gtr op.kind (5 : Int)) (.leaf (.one (.bool (.lit true)))) (.ite (cmpZ .neq op.key (0 : Int)) (.leaf (.one (.bool (.lit true)))) (.ite (cmpZ .neq op.tall (0 : Int)) (.leaf (.one (.bool (.lit true)))) (.ite (cmpZ .lss op.val (0 : Int)) (.leaf (.one (.bool (.lit true)))) (.ite (cmpZ .gtr op.val (1073741824 : Int)) (.leaf (.one (.bool (.lit true)))) (.ite (cmpZ .neq op.kind (4 : Int)) (.ite (cmpZ .neq op.val (0 : Int)) (.leaf (.one (.bool (.lit true)))) (.leaf (.one (.bool (.lit false))))) (.leaf (.one (.bool (.lit false))))))))))))) (.ite (cmpZ .eql op.kind (4 : Int)) (.ite (cmpZ .eql op.key (0 : Int)) (.ite (cmpZ .eql op.tall (0 : Int)) (.ite (cmpZ .geq op.val (0 : Int)) (.ite (cmpZ .leq op.val (1073741824 : Int)) (.ite (cmpZ .lss op.kind (4 : Int)) (.leaf (.one (.bool (.lit false)))) (.ite (cmpZ .gtr op.kind (5 : Int)) (.leaf (.one (.bool (.lit false)))) (.ite (cmpZ .neq op.key (0 : Int)) (.leaf (.one (.bool (.lit false)))) (.ite (cmpZ .neq op.tall (0 : Int)) (.leaf (.one (.bool (.lit false)))) (.ite (cmpZ .lss op.val (0 : Int)) (.leaf (.one (.bool (.lit false)))) (.ite (cmpZ .gtr op.val (1073741824 : Int)) (.leaf (.one (.bool (.lit false)))) (.ite (cmpZ .neq op.kind (4 : Int)) (.ite (cmpZ .neq op.val (0 : Int)) (.leaf (.one (.bool (.lit false)))) (.leaf (.one (.bool (.lit true))))) (.leaf (.one (.bool (.lit true))))))))))) (.ite (cmpZ .lss op.kind (4 : Int)) (.leaf (.one (.bool (.lit true)))) (.ite (cmpZ .gtr op.kind (5 : Int)) (.leaf (.one (.bool (.lit true)))) (.ite (cmpZ .neq op.key (0 : Int)) (.leaf (.one (.bool (.lit true)))) (.ite (cmpZ .neq op.tall (0 : Int)) (.leaf (.one (.bool (.lit true)))) (.ite (cmpZ .lss op.val (0 : Int)) (.leaf (.one (.bool (.lit true)))) (.ite (cmpZ .gtr op.val (1073741824 : Int)) (.leaf (.one (.bool (.lit true)))) (.ite (cmpZ .neq op.kind (4 : Int)) (.ite (cmpZ .neq op.val (0 : Int)) (.leaf (.one (.bool (.lit true)))) (.leaf (.one (.bool (.lit false))))) (.leaf (.one (.bool (.lit false)))))))))))) (.ite (cmpZ .lss op.kind (4 : Int)) (.leaf (.one (.bool (.lit true)))) (.ite (cmpZ .gtr op.kind (5 : Int)) (.leaf (.one (.bool (.lit true)))) (.ite (cmpZ .neq op.key (0 : Int)) (.leaf (.one (.bool (.lit true)))) (.ite (cmpZ .neq op.tall (0 : Int)) (.leaf (.one (.bool (.lit true)))) (.ite (cmpZ .lss op.val (0 : Int)) (.leaf (.one (.bool (.lit true)))) (.ite (cmpZ .gtr op.val (1073741824 : Int)) (.leaf (.one (.bool (.lit true)))) (.ite (cmpZ .neq op.kind (4 : Int)) (.ite (cmpZ .neq op.val (0 : Int)) (.leaf (.one (.bool (.lit true)))) (.leaf (.one (.bool (.lit false))))) (.leaf (.one (.bool (.lit false)))))))))))) (.ite (cmpZ .lss op.kind (4 : Int)) (.leaf (.one (.bool (.lit true)))) (.ite (cmpZ .gtr op.kind (5 : Int)) (.leaf (.one (.bool (.lit true)))) (.ite (cmpZ .neq op.key (0 : Int)) (.leaf (.one (.bool (.lit true)))) (.ite (cmpZ .neq op.tall (0 : Int)) (.leaf (.one (.bool (.lit true)))) (.ite (cmpZ .lss op.val (0 : Int)) (.leaf (.one (.bool (.lit true)))) (.ite (cmpZ .gtr op.val (1073741824 : Int)) (.leaf (.one (.bool (.lit true)))) (.ite (cmpZ .neq op.kind (4 : Int)) (.ite (cmpZ .neq op.val (0 : Int)) (.leaf (.one (.bool (.lit true)))) (.leaf (.one (.bool (.lit false))))) (.leaf (.one (.bool (.lit false)))))))))))) (.ite (cmpZ .lss op.kind (4 : Int)) (.leaf (.one (.bool (.lit true)))) (.ite (cmpZ .gtr op.kind (5 : Int)) (.leaf (.one (.bool (.lit true)))) (.ite (cmpZ .neq op.key (0 : Int)) (.leaf (.one (.bool (.lit true)))) (.ite (cmpZ .neq op.tall (0 : Int)) (.leaf (.one (.bool (.lit true)))) (.ite (cmpZ .lss op.val (0 : Int)) (.leaf (.one (.bool (.lit true)))) (.ite (cmpZ .gtr op.val (1073741824 : Int)) (.leaf (.one (.bool (.lit true)))) (.ite (cmpZ .neq op.kind (4 : Int)) (.ite (cmpZ .neq op.val (0 : Int)) (.leaf (.one (.bool (.lit true)))) (.leaf (.one (.bool (.lit false))))) (.leaf (.one (.bool (.lit false)))))))))))) (.ite (cmpZ .lss op.kind (4 : Int)) (.leaf (.one (.bool (.lit true)))) (.ite (cmpZ .gtr op.kind (5 : Int)) (.leaf (.one (.bool (.lit true)))) (.ite (cmpZ .neq op.key (0 : Int)) (.leaf (.one (.bool (.lit true)))) (.ite (cmpZ .neq op.tall (0 : Int)) (.leaf (.one (.bool (.lit true)))) (.ite (cmpZ .lss op.val (0 : Int)) (.leaf (.one (.bool (.lit true)))) (.ite (cmpZ .gtr op.val (1073741824 : Int)) (.leaf (.one (.bool (.lit true)))) (.ite (cmpZ .neq op.kind (4 : Int)) (.ite (cmpZ .neq op.val (0 : Int)) (.leaf (.one (.bool (.lit true)))) (.leaf (.one (.bool (.lit false))))) (.leaf (.one (.bool (.lit false))))))))))))) := by kernel_rfl
theorem law_true (t TR : TypeId) (R : List Reply) (op : Opn) : TrueT ((callN (El TR R) 100 40 3 [.agg op.sc, .one (.slc 2 none)] (h08 t TR R)).map (fun (v, _) => v)) := by
  rw [law_tree]
  repeat' (first | exact TrueT.leaf | refine TrueT.ite (fun _ => ?_) (fun _ => ?_))
  all_goals simp only [cmpZ, Bool.not_eq_true, Bool.not_eq_true', Bool.and_eq_true, beq_iff_eq, bne_iff_ne, decide_eq_true_eq, decide_eq_false_iff_not, Bool.and_eq_false_imp, bne_eq_false_iff_eq, beq_eq_false_iff_ne] at *
  all_goals first
    | (exfalso; omega)
    | (exfalso; rw [start8] at * <;> first | rfl | omega | (dsimp only; omega) | contradiction)
theorem nil_true (t : TypeId) (op : Opn) : TrueT ((callN E0 100 40 3 [.agg op.sc, .one .nslc] (h08n 2 t)).map (fun (v, _) => v)) := by
  rw [nil_tree]
  repeat' (first | exact TrueT.leaf | refine TrueT.ite (fun _ => ?_) (fun _ => ?_))
  all_goals simp only [cmpZ, Bool.not_eq_true, Bool.not_eq_true', Bool.and_eq_true, beq_iff_eq, bne_iff_ne, decide_eq_true_eq, decide_eq_false_iff_not, Bool.and_eq_false_imp, bne_eq_false_iff_eq, beq_eq_false_iff_ne] at *
  all_goals first
    | (exfalso; omega)
    | (exfalso; rw [start8] at * <;> first | rfl | omega | (dsimp only; omega) | contradiction)
theorem emp_true (t : TypeId) (op : Opn) : TrueT ((callN E0 100 40 3 [.agg op.sc, .one (.slc 2 (some (.lit 0)))] (h08n 3 t)).map (fun (v, _) => v)) := by
  rw [emp_tree]
  repeat' (first | exact TrueT.leaf | refine TrueT.ite (fun _ => ?_) (fun _ => ?_))
  all_goals simp only [cmpZ, Bool.not_eq_true, Bool.not_eq_true', Bool.and_eq_true, beq_iff_eq, bne_iff_ne, decide_eq_true_eq, decide_eq_false_iff_not, Bool.and_eq_false_imp, bne_eq_false_iff_eq, beq_eq_false_iff_ne] at *
  all_goals first
    | (exfalso; omega)
    | (exfalso; rw [start8] at * <;> first | rfl | omega | (dsimp only; omega) | contradiction)

theorem el_mix : Tryd.prog.follows .mixedOrders = true := by kernel_rfl

theorem noLoopOK {E : Env PS} (h : E.loop = fun _ _ => none) : LoopOK E := fun f fn c _ _ l _ sp hsp => by
  unfold loopSp at hsp
  rw [h] at hsp
  split at hsp <;> cases hsp
theorem specEb : SpecOK Eb := fun f sp h => by simp [Eb] at h
theorem callEb (lf m : Nat) : CallOK Eb (callN Eb lf m) := callN_ok (E := Eb) arS_ok el_mix specEb (noLoopOK (E := Eb) rfl) m

theorem spec_is {E : Env PS} (hP : E.P = Tryd.prog) (hg : E.glob = Eb.glob) (hs : E.spec = E0.spec) : SpecOK E := by
  intro f sp hsp args h h' v hh σ F w hG hr vals hv
  rw [hs] at hsp
  have hG' : GRep Eb σ := by
    intro g i hi; exact hG g i (by rw [hg]; exact hi)
  rw [hP]
  simp only [E0, withIs, Eb] at hsp
  split at hsp
  case isFalse => cases hsp
  rename_i hf
  have := Nat.eq_of_beq_eq_true hf; subst this
  cases hsp
  unfold isSpec at hh
  split at hh
  · rename_i t x u y
    split at hh
    · rename_i hu
      have := Nat.eq_of_beq_eq_true hu; subst this
      obtain ⟨v1, r1, h1, h2, rfl⟩ := denA_cons.1 hv
      obtain ⟨v2, r2, h3, h4, rfl⟩ := denA_cons.1 h2
      simp [denA] at h4; subst h4
      obtain ⟨z1, hz1, rfl⟩ := den_ifc (show (SC.ifc t x).den σ = some v1 from h1)
      obtain ⟨z2, hz2, rfl⟩ := den_ifc (show (SC.ifc 206 y).den σ = some v2 from h3)
      have := callEb 40 40 23 _ h h' v hh σ F w hG' hr [.iface t z1, .iface 206 z2, .bool true] (denA_cons.2 ⟨_, _, h1, denA_cons.2 ⟨_, _, h3, denA_cons.2 ⟨_, _, rfl, rfl, rfl⟩, rfl⟩, rfl⟩)
      refine is_via (R := fun e w' => ∃ σ' F' x, Post σ F h.n h.get w σ' F' h'.n h'.get w' ∧ e = .returned x ∧ v.den σ' = some x) ?_
      refine Calls.mono this ?_
      rintro e w' ⟨σ', F', x, hp, rfl, hx⟩
      exact ⟨x, rfl, σ', F', x, hp, rfl, hx⟩
    · simp [Out.eval] at hh
  · simp [Out.eval] at hh

theorem loops3 : loopsOf lawBody = [loopBody] := by kernel_rfl

theorem callE0 (lf m : Nat) : CallOK E0 (callN E0 lf m) := callN_ok (E := E0) arS_ok el_mix (spec_is (E := E0) rfl rfl rfl) (noLoopOK (E := E0) rfl) m

theorem loopEl (TR : TypeId) (R : List Reply) : LoopOK (El TR R) := by
  intro f fn c hfn hc l hl sp hsp
  simp only [loopSp, El] at hsp
  split at hsp
  case h_2 => cases hsp
  rename_i k hk
  split at hsp
  case isFalse => cases hsp
  rename_i hfk
  simp only [Bool.and_eq_true, decide_eq_true_eq] at hfk
  obtain ⟨rfl, rfl⟩ := hfk
  simp only [Option.some.injEq] at hsp
  subst hsp
  have hfn' : Tryd.prog.funcs[3]? = some fn := hfn
  rw [Tryd.func3] at hfn'
  cases hfn'
  have hb : c = lawBody := by unfold lawBody; rw [hc]
  subst hb
  rw [loops3] at hl
  simp only [List.mem_singleton] at hl
  subst hl
  have hn : Tryd.f3.ntmps = 62 := by kernel_rfl
  rw [hn]
  have hbody : RunOK E0 62 loopBody (execC E0 3 (callN E0 100 40) 62 100 loopBody) := exec_ok arS_ok el_mix (callE0 100 40) loopBody fun l _ sp hsp => by
    have : E0.loop = fun _ _ => none := rfl
    unfold loopSp at hsp
    rw [this] at hsp
    split at hsp <;> cases hsp
  have := invLoop_ok (E := E0) (gs := [0]) (ts := [1, 5, 7, 8]) (S := st8 TR R) (V := V8) (id := 0) arS_ok hbody μ8 (fun s hV => by
    obtain ⟨q, h1, h2⟩ := step8 TR R s hV
    unfold body8 at h1
    rw [eval_map] at h1
    cases hr : (run8 (st8 TR R s)).eval with
    | none => rw [hr] at h1; simp at h1
    | some p =>
      rw [hr] at h1
      obtain ⟨ex, tm', h'⟩ := p
      simp only [Option.map_some, Option.some.injEq] at h1
      subst h1
      refine ⟨ex, tm', h', hr, ?_⟩
      rcases h2 with h2 | ⟨h2, s', h3, h4, h5⟩
      · exact .inl h2
      · simp only at h2; subst h2
        exact .inr ⟨rfl, s', h3, h4, h5⟩)
  exact this

theorem callEl (TR : TypeId) (R : List Reply) (lf m : Nat) : CallOK (El TR R) (callN (El TR R) lf m) := callN_ok (E := El TR R) arS_ok el_mix (spec_is (E := El TR R) rfl rfl rfl) (loopEl TR R) m

theorem TrueT.of {t : Out PS (ST PS × Heap PS)} (h : TrueT (t.map fun (v, _) => v)) : ∃ h', t.eval = some (.one (.bool (.lit true)), h') := by
  unfold TrueT at h
  rw [eval_map] at h
  cases hr : t.eval with
  | none => rw [hr] at h; simp at h
  | some p =>
    rw [hr] at h
    obtain ⟨v, h'⟩ := p
    simp only [Option.map_some, Option.some.injEq] at h
    subst h
    exact ⟨h', rfl⟩

/-- THE CALL, where there are replies. -/
theorem walk_law (w : World) (op : Opn) (R : List Reply) (a : Addr) (ha : a.spot = none) (t TR : TypeId) (g off cap : Nat) (fr : Nat × Nat) (pre rest : List Value)
    (h0 : w.heap[0]? = some (.cells #[.iface 206 (.pointer (some a))] t (0, 0))) (hg : w.heap[g]? = some (.cells (pre ++ ((R.map Reply.vals).flatten ++ rest)).toArray TR fr)) (hpre : pre.length = off) (hcap : R.length ≤ cap) :
    Calls Tryd.prog 3 #[.agg op.vals.toArray, .slice (some ⟨g, off, none⟩) R.length cap] w fun e w' => e = .returned (.bool true) ∧ Keeps (fun _ => False) w w' := by
  let σ : Sg := fun i => match i with | 0 => some ⟨0, 0, 0, 0⟩ | 1 => some ⟨a.block, a.off, 0, 0⟩ | 2 => some ⟨g, off, R.length, cap⟩ | _ => none
  let F : Nat → Nat → Prop := fun i b => match i with | 0 => b = 0 | 2 => b = g | _ => False
  have hcase : ∀ i e, (h08 t TR R).get i = some e → (i = 0 ∧ e = .ccells [.ifc 206 (.ptr 1 [] 0)] t) ∨ (i = 2 ∧ e = .ro TR 6 (.opn (.replies R))) := fun i e he => by
    simp only [h08, Heap.get, look] at he
    split at he
    · rename_i h; exact .inl ⟨(Nat.eq_of_beq_eq_true h).symm, (Option.some.inj he).symm⟩
    · split at he
      · rename_i h; exact .inr ⟨(Nat.eq_of_beq_eq_true h).symm, (Option.some.inj he).symm⟩
      · cases he
  have hr : HRep σ F (h08 t TR R).n (h08 t TR R).get w := by
    refine ⟨fun i hi => ?_, fun i e he => ?_, fun i j e e' hij hi hj hs => ?_, fun i e he b hb => ?_⟩
    · have : 3 ≤ i := hi
      match i, this with
      | i + 3, _ => rfl
    · rcases hcase i e he with ⟨rfl, rfl⟩ | ⟨rfl, rfl⟩
      · refine ⟨_, rfl, rfl, ⟨[.iface 206 (.pointer (some a))], ?_, h0⟩, fun b => Iff.rfl⟩
        obtain ⟨ab, ao, asp⟩ := a
        simp only at ha; subst ha
        simp [denL, SC.den, σ, pathOff, pathOK]
      · exact ⟨_, rfl, pre, R.map Reply.vals, rest, fr, rfl, by simp [Reply.vals, Word.vals], by simp, hpre, hcap, hg, fun b => Iff.rfl⟩
    · exfalso
      rcases hcase i e hi with ⟨rfl, rfl⟩ | ⟨rfl, rfl⟩ <;> rcases hcase j e' hj with ⟨rfl, rfl⟩ | ⟨rfl, rfl⟩ <;> first | exact hij rfl | (simp [Ent.kd, Kd.shares] at hs)
    · rcases hcase i e he with ⟨rfl, rfl⟩ | ⟨rfl, rfl⟩
      · have : b = 0 := hb
        subst this; exact (Array.getElem?_eq_some_iff.1 h0).1
      · have : b = g := hb
        subst this; exact (Array.getElem?_eq_some_iff.1 hg).1
  have hG : GRep (El TR R) σ := fun g i hi => by
    have hi : look [(0, 0)] g = some i := hi
    simp only [look] at hi
    split at hi
    · rename_i h
      have := Nat.eq_of_beq_eq_true h; subst this
      cases hi
      exact ⟨_, rfl, rfl, rfl⟩
    · cases hi
  obtain ⟨h', hev⟩ := (law_true t TR R op).of
  refine Calls.mono (callEl TR R 100 40 3 _ _ h' _ hev σ F w hG hr [.agg op.vals.toArray, .slice (some ⟨g, off, none⟩) R.length cap] rfl) ?_
  rintro e w' ⟨σ', F', x, hp, rfl, hx⟩
  simp only [ST.den, SC.den, Bol.den, Option.some.injEq] at hx
  subst hx
  refine ⟨rfl, ⟨hp.keeps.os, hp.keeps.tape, hp.keeps.output, hp.keeps.size, fun b hb _ => hp.keeps.block b hb ?_⟩⟩
  rintro ⟨i, e, he, ho, _⟩
  rcases hcase i e he with ⟨rfl, rfl⟩ | ⟨rfl, rfl⟩ <;> cases ho

/-- THE CALL, where there are none. -/
theorem walk_none (w : World) (a : Addr) (ha : a.spot = none) (t : TypeId) (n : Nat) (hn : 2 ≤ n) (L2 : Loc) (args : List (ST PS)) (vals : List Value)
    (h0 : w.heap[0]? = some (.cells #[.iface 206 (.pointer (some a))] t (0, 0))) (htrue : TrueT ((callN E0 100 40 3 args (h08n n t)).map (fun (v, _) => v)))
    (hv : denA (fun i => match i with | 0 => some ⟨0, 0, 0, 0⟩ | 1 => some ⟨a.block, a.off, 0, 0⟩ | 2 => if n = 2 then none else some L2 | _ => none) args = some vals) :
    Calls Tryd.prog 3 vals.toArray w fun e w' => e = .returned (.bool true) ∧ Keeps (fun _ => False) w w' := by
  let σ : Sg := fun i => match i with | 0 => some ⟨0, 0, 0, 0⟩ | 1 => some ⟨a.block, a.off, 0, 0⟩ | 2 => if n = 2 then none else some L2 | _ => none
  let F : Nat → Nat → Prop := fun i b => match i with | 0 => b = 0 | _ => False
  have hcase : ∀ i e, (h08n n t).get i = some e → (i = 0 ∧ e = .ccells [.ifc 206 (.ptr 1 [] 0)] t) := fun i e he => by
    simp only [h08n, Heap.get, look] at he
    split at he
    · rename_i h; exact ⟨(Nat.eq_of_beq_eq_true h).symm, (Option.some.inj he).symm⟩
    · cases he
  have hr : HRep σ F (h08n n t).n (h08n n t).get w := by
    refine ⟨fun i hi => ?_, fun i e he => ?_, fun i j e e' hij hi hj hs => ?_, fun i e he b hb => ?_⟩
    · have hi : n ≤ i := hi
      match i, hi with
      | 0, hi => omega
      | 1, hi => omega
      | 2, hi => have : n = 2 := by omega
                 simp [σ, this]
      | i + 3, _ => rfl
    · obtain ⟨rfl, rfl⟩ := hcase i e he
      refine ⟨_, rfl, rfl, ⟨[.iface 206 (.pointer (some a))], ?_, h0⟩, fun b => Iff.rfl⟩
      obtain ⟨ab, ao, asp⟩ := a
      simp only at ha; subst ha
      simp [denL, SC.den, σ, pathOff, pathOK]
    · obtain ⟨rfl, rfl⟩ := hcase i e hi
      obtain ⟨rfl, rfl⟩ := hcase j e' hj
      exact absurd rfl hij
    · obtain ⟨rfl, rfl⟩ := hcase i e he
      have : b = 0 := hb
      subst this; exact (Array.getElem?_eq_some_iff.1 h0).1
  have hG : GRep E0 σ := fun g i hi => by
    have hi : look [(0, 0)] g = some i := hi
    simp only [look] at hi
    split at hi
    · rename_i h
      have := Nat.eq_of_beq_eq_true h; subst this
      cases hi
      exact ⟨_, rfl, rfl, rfl⟩
    · cases hi
  obtain ⟨h', hev⟩ := htrue.of
  refine Calls.mono (callE0 100 40 3 _ _ h' _ hev σ F w hG hr vals hv) ?_
  rintro e w' ⟨σ', F', x, hp, rfl, hx⟩
  simp only [ST.den, SC.den, Bol.den, Option.some.injEq] at hx
  subst hx
  refine ⟨rfl, ⟨hp.keeps.os, hp.keeps.tape, hp.keeps.output, hp.keeps.size, fun b hb _ => hp.keeps.block b hb ?_⟩⟩
  rintro ⟨i, e, he, ho, _⟩
  obtain ⟨rfl, rfl⟩ := hcase i e he
  cases ho
end Go.Vse
