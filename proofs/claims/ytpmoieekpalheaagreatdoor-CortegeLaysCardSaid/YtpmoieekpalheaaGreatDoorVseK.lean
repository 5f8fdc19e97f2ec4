/- The frame rule: what a part of the heap comes to is what the whole comes to. -/
import Derived.Test.YtpmoieekpalheaaGreatDoorVseJ
namespace Go.Vse
open Go

section
variable {K : Kit}

def Sg.cut (σ : Sg) (n : Nat) : Sg := fun i => if i < n then σ i else none
theorem Sg.cut_le (σ : Sg) (n : Nat) : Sg.le (σ.cut n) σ := fun i L h => by
  unfold Sg.cut at h; split at h <;> first | exact h | cases h

theorem SC.cut {σ : Sg} {n : Nat} : ∀ (c : SC (std K)) (v : Value), c.under n = true → c.den σ = some v → c.den (σ.cut n) = some v := by
  intro c
  induction c with
  | ptr i p o => intro v hb hv; simp only [SC.under, Nat.blt_eq] at hb; simp only [SC.den, Sg.cut, hb, if_true] at hv ⊢; exact hv
  | slc i m => intro v hb hv; simp only [SC.under, Nat.blt_eq] at hb; simp only [SC.den, Sg.cut, hb, if_true] at hv ⊢; exact hv
  | eslc i => intro v hb hv; simp only [SC.under, Nat.blt_eq] at hb; simp only [SC.den, Sg.cut, hb, if_true] at hv ⊢; exact hv
  | mp i => intro v hb hv; simp only [SC.under, Nat.blt_eq] at hb; simp only [SC.den, Sg.cut, hb, if_true] at hv ⊢; exact hv
  | ifc t c ih =>
    intro v hb hv
    simp only [SC.under] at hb
    obtain ⟨x, hx, rfl⟩ := den_ifc hv
    simp [SC.den, ih x hb hx]
  | cap f x ihf ihx =>
    intro v hb hv
    simp only [SC.under, Bool.and_eq_true] at hb
    simp only [SC.den] at hv
    cases hs : f.den σ with
    | none => simp [hs] at hv
    | some y =>
      cases hx : x.den σ with
      | none => simp [hs, hx] at hv
      | some z => simp only [SC.den]; rw [ihf y hb.1 hs, ihx z hb.2 hx]; simpa [hs, hx] using hv
  | _ => intro v _ hv; exact hv

theorem allB_cons {α : Type} {p : α → Bool} {a : α} {r : List α} : allB p (a :: r) = true ↔ p a = true ∧ allB p r = true := by simp [allB_nil, allB_cons']
theorem allB_mem {α : Type} {p : α → Bool} : ∀ {l : List α}, allB p l = true → ∀ a ∈ l, p a = true
  | [], _, a, h => by simp at h
  | b :: l, hl, a, h => by
    obtain ⟨h1, h2⟩ := allB_cons.1 hl
    rcases List.mem_cons.1 h with rfl | h
    · exact h1
    · exact allB_mem h2 a h

theorem denL_cut {σ : Sg} {n : Nat} : ∀ (l : List (SC (std K))) (vs : List Value), allB (SC.under n) l = true → denL σ l = some vs → denL (σ.cut n) l = some vs
  | [], vs, _, h => h
  | c :: l, vs, hb, h => by
    obtain ⟨h1, h2⟩ := allB_cons.1 hb
    obtain ⟨v, us, h3, h4, rfl⟩ := denL_cons.1 h
    exact denL_cons.2 ⟨v, us, SC.cut c v h1 h3, denL_cut l us h2 h4, rfl⟩

theorem denR_cut {σ : Sg} {n : Nat} : ∀ (l : List (List (SC (std K)))) (vs : List (List Value)), allB (allB (SC.under n)) l = true → denR σ l = some vs → denR (σ.cut n) l = some vs
  | [], vs, _, h => h
  | c :: l, vs, hb, h => by
    obtain ⟨h1, h2⟩ := allB_cons.1 hb
    obtain ⟨v, us, h3, h4, rfl⟩ := denR_cons.1 h
    exact denR_cons.2 ⟨v, us, denL_cut c v h1 h3, denR_cut l us h2 h4, rfl⟩

theorem denT_cut {σ : Sg} {n : Nat} : ∀ (l : List (Bool × List (SC (std K)))) (vs : List Value), allB (fun x => allB (SC.under n) x.2) l = true → denT σ l = some vs → denT (σ.cut n) l = some vs
  | [], vs, _, h => h
  | c :: l, vs, hb, h => by
    obtain ⟨h1, h2⟩ := allB_cons.1 hb
    obtain ⟨v, us, h3, h4, rfl⟩ := denT_cons.1 h
    refine denT_cons.2 ⟨v, us, ?_, denT_cut l us h2 h4, rfl⟩
    simp only [compDen] at h3 ⊢
    split at h3
    · rename_i ws hws; rw [denL_cut _ _ h1 hws]; exact h3
    · cases h3

theorem ST.cut {σ : Sg} {n : Nat} (c : ST (std K)) (v : Value) (hb : c.under n = true) (h : c.den σ = some v) : c.den (σ.cut n) = some v := by
  cases c with
  | one c => exact SC.cut c v hb h
  | agg l =>
    simp only [ST.den] at h ⊢
    split at h
    · rename_i vs hvs; rw [denL_cut l vs hb hvs]; exact h
    · cases h
  | tup l =>
    simp only [ST.den] at h ⊢
    split at h
    · rename_i vs hvs; rw [denT_cut l vs hb hvs]; exact h
    · cases h

theorem denM_cut {σ : Sg} {n : Nat} {k : IntKind} : ∀ (l : List (Num (std K).I × SC (std K))) (vs : List (Value × Value)), allB (fun x => SC.under n x.2) l = true → denM σ k l = some vs → denM (σ.cut n) k l = some vs
  | [], vs, _, hv => hv
  | (m, c) :: r, vs, hb, hv => by
    obtain ⟨v, ws, h1, h2, rfl⟩ := denM_cons.1 hv
    simp only [allB_nil, allB_cons', Bool.and_eq_true] at hb
    exact denM_cons.2 ⟨v, ws, SC.cut c v hb.1 h1, denM_cut r ws hb.2 h2, rfl⟩

theorem Ent.sat_cut {σ : Sg} {n : Nat} {L : Loc} {F : Nat → Prop} {w : World} {e : Ent (std K)} (hb : e.under n = true) (hs : e.sat σ L F w) : e.sat (σ.cut n) L F w := by
  cases e with
  | cells l T => obtain ⟨h1, ⟨vs, h2, h3⟩, h4⟩ := hs; exact ⟨h1, ⟨vs, denL_cut l vs hb h2, h3⟩, h4⟩
  | ccells l T => obtain ⟨h1, ⟨vs, h2, h3⟩, h4⟩ := hs; exact ⟨h1, ⟨vs, denL_cut l vs hb h2, h3⟩, h4⟩
  | vec T sz c =>
    obtain ⟨p, r, q, h1, h2⟩ := hs
    refine ⟨p, r, q, ?_, h2⟩
    cases c with
    | lit l => exact denR_cut l r hb h1
    | opn v => exact h1
  | ro T sz c =>
    obtain ⟨p, r, q, f, h1, h2⟩ := hs
    refine ⟨p, r, q, f, ?_, h2⟩
    cases c with
    | lit l => exact denR_cut l r hb h1
    | opn v => exact h1
  | abs m => exact hs
  | av i o sz m =>
    obtain ⟨L₀, h1, h2⟩ := hs
    simp only [Ent.under, Nat.blt_eq] at hb
    exact ⟨L₀, by simp only [Sg.cut, hb, if_true]; exact h1, h2⟩
  | imap k l => obtain ⟨es, cl, h1, h2⟩ := hs; exact ⟨es, cl, denM_cut l _ hb h1, h2⟩

/-- The part of a heap that is looked at. -/
def part' (H : HF K) (u : Nat → Prop) [DecidablePred u] : HF K := fun i => if u i then H i else none

theorem HRep.part {σ F N} {H : HF K} {w : World} (hr : HRep σ F N H w) {base : Nat} {u : Nat → Prop} [DecidablePred u] (hu : ∀ i, u i → i < base) (hb : ∀ i e, u i → H i = some e → e.under base = true) :
    HRep (σ.cut base) F base (part' H u) w where
  fresh i hi := by simp [Sg.cut]; omega
  sat i e he := by
    unfold part' at he
    split at he
    · rename_i hui
      obtain ⟨L, h1, h2⟩ := hr.sat i e he
      exact ⟨L, by simp [Sg.cut, hu i hui, h1], Ent.sat_cut (hb i e hui he) h2⟩
    · cases he
  apart i j e e' hn hi hj := by
    unfold part' at hi hj
    split at hi <;> split at hj <;> first | exact hr.apart i j e e' hn hi hj | cases hi | cases hj
  inside i e he := by
    unfold part' at he
    split at he
    · exact hr.inside i e he
    · cases he

/-- THE FRAME RULE. -/
theorem lift {σ F N} {H : HF K} {w : World} (hr : HRep σ F N H w) {base top N' : Nat} {u : Nat → Prop} [DecidablePred u] (hN : N ≤ N') (htN : top ≤ N')
    (hfree : ∀ i, base ≤ i → i < top → σ i = none)
    {σ' F'} {H' : HF K} {w' : World} (hp : Post (σ.cut base) F base (part' H u) w σ' F' top H' w') {H₂ : HF K} (hH₂ : ∀ i, H₂ i = if u i ∨ (base ≤ i ∧ i < top) then H' i else H i) :
    ∃ σ₂ F₂, Sg.le σ σ₂ ∧ Sg.le σ' σ₂ ∧ (∀ i, i < base → σ₂ i = σ i) ∧ (∀ i, σ₂ i ≠ none → σ i ≠ none ∨ (base ≤ i ∧ i < top)) ∧ HRep σ₂ F₂ N' H₂ w' ∧ Keeps (foot F H) w w' ∧
      (∀ i e b, H₂ i = some e → F₂ i b → (∃ j e₀, H j = some e₀ ∧ F j b ∧ (e₀.kd = .own ∨ e₀.kd = e.kd)) ∨ w.heap.size ≤ b) := by
  let σ₂ : Sg := fun i => if base ≤ i ∧ i < top then σ' i else σ i
  let F₂ : Nat → Nat → Prop := fun i => if u i ∨ (base ≤ i ∧ i < top) then F' i else F i
  have hpart : ∀ i e, part' H u i = some e → u i ∧ H i = some e := fun i e he => by
    unfold part' at he; split at he
    · rename_i h; exact ⟨h, he⟩
    · cases he
  have hle : Sg.le σ σ₂ := fun i L hi => by
    by_cases h : base ≤ i ∧ i < top
    · rw [hfree i h.1 h.2] at hi; cases hi
    · simp [σ₂, h, hi]
  have hle' : Sg.le σ' σ₂ := fun i L hi => by
    by_cases h : base ≤ i ∧ i < top
    · simp [σ₂, h, hi]
    · rcases Nat.lt_or_ge i base with hb | hb
      · have := hp.ext i hb
        rw [this] at hi
        simp [Sg.cut, hb] at hi
        simp [σ₂, h, hi]
      · rw [hp.rep.fresh i (by omega)] at hi; cases hi
  have hfoot : ∀ b, foot F (part' H u) b → foot F H b := fun b ⟨i, e, h1, h2, h3⟩ => ⟨i, e, (hpart i e h1).2, h2, h3⟩
  -- the places that are new, or were looked at
  have hin : ∀ i e, u i ∨ (base ≤ i ∧ i < top) → H' i = some e → ∃ L, σ₂ i = some L ∧ e.sat σ₂ L (F₂ i) w' := fun i e hi he => by
    obtain ⟨L, h1, h2⟩ := hp.rep.sat i e he
    refine ⟨L, hle' i L h1, ?_⟩
    have : F₂ i = F' i := by simp only [F₂, hi, if_true]
    rw [this]
    exact Ent.sat_mono hle' h2
  have hout : ∀ i e, ¬ (u i ∨ (base ≤ i ∧ i < top)) → H i = some e → ∀ b, F i b → ¬ foot F (part' H u) b := fun i e hi he b hb ⟨j, e', h1, h2, h3⟩ => by
    obtain ⟨h4, h5⟩ := hpart j e' h1
    have hij : i ≠ j := fun h => hi (.inl (h ▸ h4))
    exact hr.apart i j e e' hij he h5 (by rw [h2]; exact Kd.own_right _) b hb h3
  have hkeep : ∀ i e, ¬ (u i ∨ (base ≤ i ∧ i < top)) → H i = some e → ∀ b, F i b → w'.heap[b]? = w.heap[b]? := fun i e hi he b hb =>
    hp.keeps.block b (hr.inside i e he b hb) (hout i e hi he b hb)
  have hmix : ∀ i j e e', ¬ (u i ∨ (base ≤ i ∧ i < top)) → (u j ∨ (base ≤ j ∧ j < top)) → H i = some e → H' j = some e' → e.kd.shares e'.kd = false → ∀ b, F i b → ¬ F' j b := fun i j e e' hi hj he he' hs b hb hb' => by
    rcases hp.foots j e' b he' hb' with ⟨k, e₀, h1, h2, h3⟩ | h
    · obtain ⟨h4, h5⟩ := hpart k e₀ h1
      have hik : i ≠ k := fun h => hi (.inl (h ▸ h4))
      refine hr.apart i k e e₀ hik he h5 ?_ b hb h2
      rcases h3 with h3 | h3
      · rw [h3]; exact Kd.own_right _
      · rw [h3]; exact hs
    · have := hr.inside i e he b hb; omega
  have hsym : ∀ a b : Kd, a.shares b = b.shares a := fun a b => by cases a <;> cases b <;> rfl
  refine ⟨σ₂, F₂, hle, hle', fun i hi => by simp [σ₂]; omega, fun i hi => ?_, ⟨?_, ?_, ?_, ?_⟩, ⟨hp.keeps.os, hp.keeps.tape, hp.keeps.output, hp.keeps.size, fun b hb hd => hp.keeps.block b hb fun hf => hd (hfoot b hf)⟩, ?_⟩
  · by_cases h : base ≤ i ∧ i < top
    · exact .inr h
    · simp [σ₂, h] at hi; exact .inl hi
  · intro i hi
    have : ¬ (base ≤ i ∧ i < top) := by omega
    simp [σ₂, this, hr.fresh i (by omega)]
  · intro i e he
    rw [hH₂] at he
    by_cases h : u i ∨ (base ≤ i ∧ i < top)
    · rw [if_pos h] at he; exact hin i e h he
    · rw [if_neg h] at he
      obtain ⟨L, h1, h2⟩ := hr.sat i e he
      refine ⟨L, hle i L h1, ?_⟩
      have : F₂ i = F i := by simp only [F₂, h, if_false]
      rw [this]
      exact Ent.sat_local (hkeep i e h he) (Ent.sat_mono hle h2)
  · intro i j e e' hn hi hj hs b hb hb'
    rw [hH₂] at hi hj
    by_cases h1 : u i ∨ (base ≤ i ∧ i < top) <;> by_cases h2 : u j ∨ (base ≤ j ∧ j < top)
    · rw [if_pos h1] at hi; rw [if_pos h2] at hj
      simp only [F₂, h1, h2, if_true] at hb hb'
      exact hp.rep.apart i j e e' hn hi hj hs b hb hb'
    · rw [if_pos h1] at hi; rw [if_neg h2] at hj
      simp only [F₂, h1, h2, if_true, if_false] at hb hb'
      exact hmix j i e' e h2 h1 hj hi (by rw [hsym]; exact hs) b hb' hb
    · rw [if_neg h1] at hi; rw [if_pos h2] at hj
      simp only [F₂, h1, h2, if_true, if_false] at hb hb'
      exact hmix i j e e' h1 h2 hi hj hs b hb hb'
    · rw [if_neg h1] at hi; rw [if_neg h2] at hj
      simp only [F₂, h1, h2, if_false] at hb hb'
      exact hr.apart i j e e' hn hi hj hs b hb hb'
  · intro i e he b hb
    rw [hH₂] at he
    by_cases h : u i ∨ (base ≤ i ∧ i < top)
    · rw [if_pos h] at he
      simp only [F₂, h, if_true] at hb
      exact hp.rep.inside i e he b hb
    · rw [if_neg h] at he
      simp only [F₂, h, if_false] at hb
      exact Nat.lt_of_lt_of_le (hr.inside i e he b hb) hp.keeps.size
  · intro i e b he hb
    rw [hH₂] at he
    by_cases h : u i ∨ (base ≤ i ∧ i < top)
    · rw [if_pos h] at he
      simp only [F₂, h, if_true] at hb
      rcases hp.foots i e b he hb with ⟨k, e₀, h1, h2, h3⟩ | h
      · exact .inl ⟨k, e₀, (hpart k e₀ h1).2, h2, h3⟩
      · exact .inr h
    · rw [if_neg h] at he
      simp only [F₂, h, if_false] at hb
      exact .inl ⟨i, e, he, hb, .inr rfl⟩

end
end Go.Vse
