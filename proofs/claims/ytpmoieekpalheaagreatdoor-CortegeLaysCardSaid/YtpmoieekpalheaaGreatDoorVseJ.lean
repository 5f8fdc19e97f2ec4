/- The symbolic executor is sound: a region in its text's order. -/
import Derived.Test.YtpmoieekpalheaaGreatDoorVseI
namespace Go.Vse
open Go

section
variable {K : Kit} {P : Program}

theorem putT_ok {n : Nat} {tm tm' : Tm (std K)} {d : Option Nat} {v : ST (std K)} (h : (putT n tm d v).eval = some tm') {σ : Sg} {a : Act} {x : Value} (ht : TRep σ tm a) (hn : a.tmps.size = n) (hv : v.den σ = some x) :
    TRep σ tm' (a.put d x) ∧ (a.put d x).tmps.size = n ∧ (a.put d x).defers = a.defers := by
  unfold putT at h
  cases d with
  | none => simp [Out.eval] at h; subst h; exact ⟨ht, hn, rfl⟩
  | some t =>
    simp only at h
    split at h
    · rename_i hlt
      simp [Out.eval] at h; subst h
      have hlt' : t < n := by simpa [Nat.blt_eq] using hlt
      refine ⟨fun k u hk => ?_, by simp [Act.put, hn], rfl⟩
      simp only [look_nil, look_cons] at hk
      by_cases he : t = k
      · subst he
        simp at hk; subst hk
        exact ⟨x, hv, by simp [Act.put, hn, hlt']⟩
      · have : Nat.beq t k = false := Bool.eq_false_iff.2 fun hb => he (Nat.eq_of_beq_eq_true hb)
        simp [this] at hk
        obtain ⟨y, h1, h2⟩ := ht k u hk
        exact ⟨y, h1, by simp [Act.put, Array.getElem?_setIfInBounds_ne he, h2]⟩
    · simp [Out.eval] at h

theorem TRep.learn {σ : Sg} {tm : Tm (std K)} {a : Act} (ht : TRep σ tm a) {t : Nat} {v : ST (std K)} {x : Value} (hv : v.den σ = some x) (hx : a.tmps[t]? = some x) : TRep σ ((t, v) :: tm) a := fun k u hk => by
  simp only [look_nil, look_cons] at hk
  by_cases he : t = k
  · subst he; simp at hk; subst hk; exact ⟨x, hv, hx⟩
  · have : Nat.beq t k = false := Bool.eq_false_iff.2 fun hb => he (Nat.eq_of_beq_eq_true hb)
    simp [this] at hk
    exact ht k u hk

theorem guardS_ok {ops : Array Oper} {o : Oper} {tm tm' : Tm (std K)} {g : Bool} (h : (guardS ops o tm).eval = some (g, tm')) {σ : Sg} {a : Act} (ht : TRep σ tm a) :
    Region.wanted o (yielded ops a.tmps) = g ∧ TRep σ tm' a := by
  unfold guardS at h
  split at h
  · rename_i ho
    simp [Out.eval] at h
    obtain ⟨rfl, rfl⟩ := h
    exact ⟨by simp [Region.wanted, ho], ht⟩
  · rename_i j want ho
    split at h
    · rename_i gd hg
      split at h
      · rename_i t hd
        split at h
        · rename_i b hb
          simp [Out.eval] at h
          obtain ⟨rfl, rfl⟩ := h
          obtain ⟨x, h1, h2⟩ := ht t _ hb
          simp [ST.den, SC.den, Bol.den] at h1; subst h1
          refine ⟨?_, ht⟩
          simp [Region.wanted, ho, yielded, hg, hd, h2]
        · rename_i b hb
          obtain ⟨x, h1, h2⟩ := ht t _ hb
          simp only [ST.den, SC.den, Option.some.injEq] at h1
          simp only [Out.eval] at h
          cases hbb : (show Bool from b) with
          | true =>
            have hb2 : (Bol.opn b : Bol (std K).B).den (K := K) = true := hbb
            rw [hb2] at h1; subst h1
            have h3 : (b : Bool) = true := hbb
            split at h
            · simp at h
              obtain ⟨rfl, rfl⟩ := h
              exact ⟨by simp [Region.wanted, ho, yielded, hg, hd, h2], ht.learn (by simp [ST.den, SC.den, Bol.den]) h2⟩
            · rename_i hf; cases hbb
          | false =>
            have hb2 : (Bol.opn b : Bol (std K).B).den (K := K) = false := hbb
            rw [hb2] at h1; subst h1
            split at h
            · rename_i hf; cases hbb
            · simp at h
              obtain ⟨rfl, rfl⟩ := h
              exact ⟨by simp [Region.wanted, ho, yielded, hg, hd, h2], ht.learn (by simp [ST.den, SC.den, Bol.den]) h2⟩
        · rename_i hb
          simp [Out.eval] at h
          obtain ⟨rfl, rfl⟩ := h
          obtain ⟨x, h1, h2⟩ := ht t _ hb
          simp [ST.den, denT] at h1; subst h1
          exact ⟨by simp [Region.wanted, ho, yielded, hg, hd, h2], ht⟩
        · simp [Out.eval] at h
      · simp [Out.eval] at h
    · simp [Out.eval] at h

theorem runOps_ok {E : Env (std K)} (hA : ArOK E.A) {call : FuncId → List (ST (std K)) → Heap (std K) → Res (std K)} (hcall : CallOK E call) {n : Nat} {ops : Array Oper} {tm' : Tm (std K)} {h' : Heap (std K)} {Q : Exit → Act → World → Prop} :
    ∀ (l : List Nat) (tm : Tm (std K)) (h : Heap (std K)), (runOps E call n ops (l.filterMap (ops[·]?)) tm h).eval = some (tm', h') → ∀ (σ F) (a : Act) (w : World), HRep σ F h.n h.get w → GRep E σ → TRep σ tm a → a.tmps.size = n →
      (∀ σ' F' a' w', Post σ F h.n h.get w σ' F' h'.n h'.get w' → TRep σ' tm' a' → a'.tmps.size = n → a'.defers = a.defers → Q .normal a' w') → wpOps E.P ops Q l a w
  | [], tm, h, hh, σ, F, a, w, hr, hG, ht, hn, hq => by
    simp [runOps_nil, runOps_cons, Out.eval] at hh
    obtain ⟨rfl, rfl⟩ := hh
    exact hq σ F a w (.refl hr) ht hn rfl
  | i :: l, tm, h, hh, σ, F, a, w, hr, hG, ht, hn, hq => by
    simp only [wpOps]
    cases ho : ops[i]? with
    | none =>
      simp only
      exact runOps_ok hA hcall l tm h (by simpa [List.filterMap_cons, ho] using hh) σ F a w hr hG ht hn hq
    | some o =>
      simp only
      rw [List.filterMap_cons, ho] at hh
      simp only [runOps_nil, runOps_cons] at hh
      obtain ⟨⟨g, tm1⟩, h1, h2⟩ := eval_bind_some hh
      obtain ⟨hw, ht1⟩ := guardS_ok h1 ht
      rw [hw]
      cases g with
      | true =>
        simp only [if_true] at h2 ⊢
        obtain ⟨⟨v, h3⟩, h4, h5⟩ := eval_bind_some h2
        obtain ⟨tm2, h6, h7⟩ := eval_bind_some h5
        refine .inl (step_ok hA hcall hr hG (opnd_den hG ht1) h4 _ _ ?_)
        intro σ' F' w' x hp hv
        have hle := hp.le hr
        obtain ⟨h8, h9, h10⟩ := putT_ok h6 (ht1.mono hle) hn hv
        exact runOps_ok hA hcall l tm2 h3 h7 σ' F' _ w' hp.rep (hG.mono hle) h8 h9 fun σ'' F'' a'' w'' hp2 ht2 hn2 hd2 => hq σ'' F'' a'' w'' (hp.trans hp2) ht2 hn2 (hd2.trans h10)
      | false =>
        simp only [Bool.false_eq_true, if_false] at h2 ⊢
        obtain ⟨tm2, h6, h7⟩ := eval_bind_some h2
        obtain ⟨h8, h9, h10⟩ := putT_ok (x := undef) h6 ht1 hn (by simp [undefS, ST.den, denT, undef])
        exact runOps_ok hA hcall l tm2 h h7 σ F _ w hr hG h8 h9 fun σ'' F'' a'' w'' hp2 ht2 hn2 hd2 => hq σ'' F'' a'' w'' hp2 ht2 hn2 (hd2.trans h10)

theorem filterMap_range {α : Type} (xs : Array α) : (List.range xs.size).filterMap (xs[·]?) = xs.toList := by
  apply List.ext_getElem?
  intro i
  have : ∀ (k : Nat) (l : List α), k = l.length → ∀ (f : Nat → Option α), (∀ j, j < k → f j = l[j]?) → (List.range k).filterMap f = l := by
    intro k
    induction k with
    | zero => intro l hl f _; simp at hl ⊢; exact (List.length_eq_zero_iff.1 hl.symm).symm ▸ rfl
    | succ k ih =>
      intro l hl f hf
      rw [List.range_succ, List.filterMap_append, ih (l.take k) (by simp; omega) f (fun j hj => by rw [hf j (by omega), List.getElem?_take_of_lt hj])]
      have h1 := hf k (by omega)
      have h2 : l[k]? = some (l[k]'(by omega)) := List.getElem?_eq_getElem (by omega)
      simp only [List.filterMap_cons, h1, h2, List.filterMap_nil]
      conv => rhs; rw [← List.take_append_drop k l]
      congr 1
      rw [List.drop_eq_getElem_cons (by omega), List.drop_of_length_le (by omega)]
  rw [this xs.size xs.toList (by simp) (xs[·]?) (fun j _ => by simp)]

end
end Go.Vse
