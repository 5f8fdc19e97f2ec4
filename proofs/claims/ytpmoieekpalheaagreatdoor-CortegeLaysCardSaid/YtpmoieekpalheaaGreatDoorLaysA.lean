/- CortegeLays, first part: the environment in which the law is walked, and what a way through the tree of tests says. -/
import Derived.Test.YtpmoieekpalheaaGreatDoorVseW
import Derived.Test.YtpmoieekpalheaaGreatDoorProg
import Derived.KernelRfl
namespace Go.Vse
open Go Go.Proofs

/-- Which remainders are looked at: n of the slots, e of the engines. -/
def hintL (n e : Nat) : Nat → Option Nat := fun t => if Nat.beq t 20 then some n else if Nat.beq t 97 then some e else none
noncomputable def EbL (n e : Nat) : Env PS := ⟨Tryz.prog, arS, [(0, 0), (1, 1), (2, 2), (3, 3), (4, 4), (5, 5), (6, 6), (7, 7)], fun _ => none, fun _ _ => none, hintL n e⟩
noncomputable def EL (n e : Nat) : Env PS := withIs (EbL n e) 14 29 171
noncomputable def runL (n e : Nat) (t : Nat → TypeId) (slots engine : Int) : Out PS (ST PS × Heap PS) := callN (EL n e) 1000 40 3 [.one (.int .i64 (.opn slots)), .one (.int .i64 (.opn engine))] (sentH 171 8 t)

/-- The way on which each test holds, if it ends in 'true': its tests. -/
def pathT : Out PS (ST PS × Heap PS) → Option (List Bool)
  | .leaf (.one (.bool (.lit true)), _) => some []
  | .leaf _ => none
  | .ite b l _ => match pathT l with
    | some r => some (b :: r)
    | none => none
  | .fail _ => none

theorem pathT_ok : ∀ {t : Out PS (ST PS × Heap PS)} {l : List Bool}, pathT t = some l → (∀ b ∈ l, b = true) → ∃ h, t.eval = some (.one (.bool (.lit true)), h)
  | .leaf (v, h), l, hp, _ => by
    refine ⟨h, ?_⟩
    have : v = .one (.bool (.lit true)) := by
      unfold pathT at hp
      split at hp
      · rename_i heq; simp only [Out.leaf.injEq, Prod.mk.injEq] at heq; exact heq.1
      · cases hp
      · rename_i heq; cases heq
      · cases hp
    rw [this]; rfl
  | .ite b x y, l, hp, hb => by
    simp only [pathT] at hp
    split at hp
    · rename_i r hr
      cases hp
      obtain ⟨h, hh⟩ := pathT_ok hr fun c hc => hb c (List.mem_cons_of_mem _ hc)
      have : b = true := hb b (List.mem_cons_self ..)
      subst this
      exact ⟨h, hh⟩
    · cases hp
  | .fail s, l, hp, _ => by simp [pathT] at hp

/-- The remainder, as the code reckons it. -/
noncomputable def remL (x : Int) : Int := arithZ .rem .u64 (IntKind.wrap .u64 x) 5
end Go.Vse
