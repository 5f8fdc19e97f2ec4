/- Calls in a world of which only the errors that lie in package variables are known. -/
import Derived.Test.YtpmoieekpalheaaGreatDoorVseR
namespace Go.Vse
open Go Go.RowKit

section
variable {K : Kit}

/-- The variables, each of which holds an error: a pointer (of the type tE) whose object isn't looked at. n: how many there are. -/
def sentL {τ : Ty} (tE n : Nat) (t : Nat → TypeId) : Nat → Nat → List (Nat × Ent τ)
  | 0, _ => []
  | m + 1, i => (i, .ccells [.ifc tE (.ptr (n + i) [] 0)] (t i)) :: sentL tE n t m (i + 1)

def sentH {τ : Ty} (tE n : Nat) (t : Nat → TypeId) : Heap τ := ⟨n + n, sentL tE n t n 0⟩

theorem look_sentL {τ : Ty} (tE n : Nat) (t : Nat → TypeId) (j : Nat) : ∀ m i, look (sentL (τ := τ) tE n t m i) j = if i ≤ j ∧ j < i + m then some (.ccells [.ifc tE (.ptr (n + j) [] 0)] (t j)) else none
  | 0, i => by rw [if_neg (by omega)]; rfl
  | m + 1, i => by
    simp only [sentL, look_cons]
    by_cases h : Nat.beq i j = true
    · have := Nat.eq_of_beq_eq_true h; subst this
      simp
    · have hne : i ≠ j := fun e => h (by subst e; exact Nat.beq_refl i)
      simp only [h, Bool.false_eq_true, if_false, look_sentL tE n t j m (i + 1)]
      by_cases hc : i ≤ j ∧ j < i + (m + 1)
      · rw [if_pos hc, if_pos (by omega)]
      · rw [if_neg hc, if_neg (by omega)]

/-- In this world the variables hold such errors. -/
structure Sents (W : World) (tE n : Nat) (g : Nat → Nat) (t : Nat → TypeId) (a : Nat → Addr) : Prop where
  spot : ∀ i, i < n → (a i).spot = none
  heap : ∀ i, i < n → W.heap[g i]? = some (.cells #[.iface tE (.pointer (some (a i)))] (t i) (0, 0))
  inj : ∀ i j, i < n → j < n → g i = g j → i = j

def sentS (n : Nat) (g : Nat → Nat) (a : Nat → Addr) : Sg := fun i => if i < n then some ⟨g i, 0, 0, 0⟩ else if i < n + n then some ⟨(a (i - n)).block, (a (i - n)).off, 0, 0⟩ else none
def sentF (n : Nat) (g : Nat → Nat) : Nat → Nat → Prop := fun i b => i < n ∧ b = g i

theorem sent_get {τ : Ty} {tE n : Nat} {t : Nat → TypeId} {i : Nat} {e : Ent τ} (h : (sentH tE n t).get i = some e) : i < n ∧ e = .ccells [.ifc tE (.ptr (n + i) [] 0)] (t i) := by
  have h : look (sentL tE n t n 0) i = some e := h
  rw [look_sentL] at h
  split at h
  · rename_i hc; exact ⟨by omega, (Option.some.inj h).symm⟩
  · cases h

theorem sent_rep {W : World} {tE n : Nat} {g : Nat → Nat} {t : Nat → TypeId} {a : Nat → Addr} (h : Sents W tE n g t a) : HRep (K := K) (sentS n g a) (sentF n g) (sentH (τ := std K) tE n t).n (sentH (τ := std K) tE n t).get W := by
  refine ⟨fun i hi => ?_, fun i e he => ?_, fun i j e e' hij hi hj _ b hb hb' => ?_, fun i e he b hb => ?_⟩
  · have hi : n + n ≤ i := hi
    simp only [sentS]
    rw [if_neg (by omega), if_neg (by omega)]
  · obtain ⟨hi, rfl⟩ := sent_get he
    refine ⟨⟨g i, 0, 0, 0⟩, by simp [sentS, hi], rfl, ⟨[.iface tE (.pointer (some (a i)))], ?_, h.heap i hi⟩, fun b => by simp [sentF, hi]⟩
    have hs := h.spot i hi
    have hσ : sentS n g a (n + i) = some ⟨(a i).block, (a i).off, 0, 0⟩ := by
      simp only [sentS]
      rw [if_neg (by omega), if_pos (by omega), Nat.add_sub_cancel_left]
    have ha : (⟨(a i).block, (a i).off, none⟩ : Addr) = a i := by
      have : a i = ⟨(a i).block, (a i).off, (a i).spot⟩ := rfl
      rw [this, hs]
    simp only [denL, SC.den, hσ, pathOff, pathOK, if_true, Nat.zero_add, Nat.add_zero, ha]
  · obtain ⟨h1, _⟩ := sent_get hi
    obtain ⟨h2, _⟩ := sent_get hj
    exact hij (h.inj i j h1 h2 (hb.2.symm.trans hb'.2))
  · obtain ⟨h1, _⟩ := sent_get he
    rw [hb.2]
    exact (Array.getElem?_eq_some_iff.1 (h.heap i h1)).1

/-- A call that is walked over such a world, and answers 'true', writes nothing that was there. -/
theorem sent_call {E : Env (std K)} {f : FuncId} {args : List (ST (std K))} {vals : List Value} {W : World} {tE n : Nat} {g : Nat → Nat} {t : Nat → TypeId} {a : Nat → Addr} {call : FuncId → List (ST (std K)) → Heap (std K) → Res (std K)} (hC : CallOK E call) (h : Sents W tE n g t a)
    (hG : ∀ x i, look E.glob x = some i → i < n ∧ g i = x) (hv : denA (sentS n g a) args = some vals) {h' : Heap (std K)} (ht : (call f args (sentH tE n t)).eval = some (.one (.bool (.lit true)), h')) :
    Calls E.P f vals.toArray W fun e w' => e = .returned (.bool true) ∧ Keeps (fun _ => False) W w' := by
  refine Calls.mono (hC f _ _ h' _ ht (sentS n g a) (sentF n g) W (fun x i hi => ?_) (sent_rep h) vals hv) ?_
  · obtain ⟨h1, h2⟩ := hG x i hi
    exact ⟨⟨g i, 0, 0, 0⟩, by simp [sentS, h1], h2, rfl⟩
  · rintro e w' ⟨σ', F', x, hp, rfl, hx⟩
    simp only [ST.den, SC.den, Bol.den, Option.some.injEq] at hx
    subst hx
    refine ⟨rfl, ⟨hp.keeps.os, hp.keeps.tape, hp.keeps.output, hp.keeps.size, fun b hb _ => hp.keeps.block b hb ?_⟩⟩
    rintro ⟨i, e, he, ho, _⟩
    obtain ⟨_, rfl⟩ := sent_get he
    cases ho

/-- errors.Is by its summary. -/
theorem spec_withIs {E : Env (std K)} (hA : ArOK E.A) (hmix : E.P.follows .mixedOrders = true) (hS : SpecOK E) (hL : LoopOK E) {fIs fis tE : Nat}
    (hvia : ∀ (t : TypeId) (v x : Value) (w : World) (R : Ending → World → Prop), (Calls E.P fis #[.iface t v, .iface tE x, .bool true] w fun e w' => ∃ y, e = .returned y ∧ R e w') → Calls E.P fIs #[.iface t v, .iface tE x] w R) :
    SpecOK (withIs E fIs fis tE) := by
  intro f sp hsp args h h' v hh σ F w hG hr vals hv
  have hG' : GRep E σ := hG
  show Calls E.P f vals.toArray w _
  simp only [withIs] at hsp
  split at hsp
  case isFalse => exact hS f sp hsp args h h' v hh σ F w hG' hr vals hv
  rename_i hf
  have := Nat.eq_of_beq_eq_true hf; subst this
  cases hsp
  unfold isSpec at hh
  split at hh
  · exact callN_ok hA hmix hS hL 40 f _ h h' v hh σ F w hG' hr vals hv
  · rename_i t x u y
    split at hh
    · rename_i hu
      have := Nat.eq_of_beq_eq_true hu; subst this
      obtain ⟨v1, r1, h1, h2, rfl⟩ := denA_cons.1 hv
      obtain ⟨v2, r2, h3, h4, rfl⟩ := denA_cons.1 h2
      simp [denA] at h4; subst h4
      obtain ⟨z1, hz1, rfl⟩ := den_ifc (show (SC.ifc t x).den σ = some v1 from h1)
      obtain ⟨z2, hz2, rfl⟩ := den_ifc (show (SC.ifc u y).den σ = some v2 from h3)
      have := callN_ok hA hmix hS hL (lf := 40) 40 fis _ h h' v hh σ F w hG' hr [.iface t z1, .iface u z2, .bool true] (denA_cons.2 ⟨_, _, h1, denA_cons.2 ⟨_, _, h3, denA_cons.2 ⟨_, _, rfl, rfl, rfl⟩, rfl⟩, rfl⟩)
      refine hvia t z1 z2 w _ ?_
      refine Calls.mono this ?_
      rintro e w' ⟨σ', F', x, hp, rfl, hx⟩
      exact ⟨x, rfl, σ', F', x, hp, rfl, hx⟩
    · simp [Out.eval] at hh
  · simp [Out.eval] at hh

theorem noSpec {E : Env (std K)} (h : E.spec = fun _ => none) : SpecOK E := fun f sp hs => by rw [h] at hs; cases hs
theorem noLoop {E : Env (std K)} (h : E.loop = fun _ _ => none) : LoopOK E := fun f fn c _ _ l _ sp hsp => by
  unfold loopSp at hsp
  rw [h] at hsp
  split at hsp <;> cases hsp

end
end Go.Vse
