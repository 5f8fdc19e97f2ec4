/- The symbolic executor is sound: what a walk of a drawn region in the text's order tells of each operation. -/
import Derived.Test.YtpmoieekpalheaaGreatDoorVseL
namespace Go.Vse
open Go

section
variable {K : Kit}

theorem look_catL {α : Type} (i : Nat) : ∀ (a b : List (Nat × α)), look (catL a b) i = match look a i with | some x => some x | none => look b i
  | [], b => by simp [catL, look_nil, look_cons]
  | (k, e) :: r, b => by
    simp only [catL, look_nil, look_cons]
    by_cases h : Nat.beq k i = true
    · simp [h]
    · simp only [h, Bool.false_eq_true, if_false]; exact look_catL i r b

theorem look_restrictL {τ : Ty} (u : List Nat) (i : Nat) (l : List (Nat × Ent τ)) : look (restrictL u l) i = if memN i u then look l i else none := by
  induction u with
  | nil => simp [restrictL_nil, look_nil, memN_nil]
  | cons k u ih =>
    rw [restrictL_cons, memN_cons]
    by_cases hk : Nat.beq k i = true
    · have := Nat.eq_of_beq_eq_true hk; subst this
      simp only [hk, if_true]
      cases h : look l k with
      | some e => simp [look_cons]
      | none =>
        simp only [ih]
        cases memN k u <;> simp [h]
    · simp only [hk, Bool.false_eq_true, if_false]
      cases h : look l k with
      | some e => simp only [look_cons, hk, Bool.false_eq_true, if_false]; exact ih
      | none => exact ih

theorem look_keepL {τ : Ty} (u : List Nat) (lo hi i : Nat) : ∀ (l : List (Nat × Ent τ)), look (keepL u lo hi l) i = if inU u lo hi i then look l i else none
  | [] => by simp [keepL_nil, keepL_cons, look_nil, look_cons]
  | (k, e) :: r => by
    have ih := look_keepL u lo hi i r
    simp only [keepL_nil, keepL_cons]
    by_cases hk : Nat.beq k i = true
    · have := Nat.eq_of_beq_eq_true hk; subst this
      by_cases hm : inU u lo hi k = true
      · simp [hm, look_nil, look_cons]
      · simp only [hm, Bool.false_eq_true, if_false] at ih ⊢; exact ih
    · by_cases hm : inU u lo hi k = true
      · simp only [hm, if_true, look_nil, look_cons, hk, Bool.false_eq_true, if_false]; exact ih
      · simp only [hm, Bool.false_eq_true, if_false, look_nil, look_cons, hk]; exact ih

theorem look_dropL {τ : Ty} (u : List Nat) (lo hi i : Nat) : ∀ (l : List (Nat × Ent τ)), look (dropL u lo hi l) i = if inU u lo hi i then none else look l i
  | [] => by simp [dropL_nil, dropL_cons, look_nil, look_cons]
  | (k, e) :: r => by
    have ih := look_dropL u lo hi i r
    simp only [dropL_nil, dropL_cons]
    by_cases hk : Nat.beq k i = true
    · have := Nat.eq_of_beq_eq_true hk; subst this
      by_cases hm : inU u lo hi k = true
      · simp only [hm, if_true] at ih ⊢; exact ih
      · simp [hm, look_nil, look_cons]
    · by_cases hm : inU u lo hi k = true
      · simp only [hm, if_true, look_nil, look_cons, hk, Bool.false_eq_true, if_false] at ih ⊢; exact ih
      · simp only [hm, Bool.false_eq_true, if_false, look_nil, look_cons, hk] at ih ⊢; exact ih

theorem mergeH_get {τ : Ty} (h : Heap τ) (u : List Nat) (h1 : Heap τ) (i : Nat) : (mergeH h u h1).get i = if inU u h.n h1.n i then h1.get i else h.get i := by
  show look (catL _ _) i = _
  rw [look_catL, look_keepL, look_dropL]
  by_cases hm : inU u h.n h1.n i = true
  · simp only [hm, if_true]; unfold Heap.get; cases look h1.l i <;> rfl
  · simp only [hm, Bool.false_eq_true, if_false]; rfl

theorem look_restrictT {tm : Tm (std K)} {t : Nat} {v : ST (std K)} : ∀ {rd : List Nat}, look (restrictT tm rd) t = some v → t ∈ rd ∧ look tm t = some v
  | [], h => by simp [restrictT, look_nil, look_cons] at h
  | k :: r, h => by
    simp only [restrictT] at h
    split at h
    · rename_i x hx
      simp only [look_nil, look_cons] at h
      by_cases hk : Nat.beq k t = true
      · have := Nat.eq_of_beq_eq_true hk; subst this
        simp at h; subst h
        exact ⟨by simp, hx⟩
      · simp only [hk, Bool.false_eq_true, if_false] at h
        obtain ⟨h1, h2⟩ := look_restrictT h
        exact ⟨by simp [h1], h2⟩
    · obtain ⟨h1, h2⟩ := look_restrictT h
      exact ⟨by simp [h1], h2⟩

theorem restrictT_look {tm : Tm (std K)} {t : Nat} {v : ST (std K)} : ∀ {rd : List Nat}, t ∈ rd → look tm t = some v → (t, v) ∈ restrictT tm rd
  | [], h, _ => by simp at h
  | k :: r, h, hv => by
    simp only [restrictT]
    by_cases hk : k = t
    · subst hk; simp [hv]
    · rcases List.mem_cons.1 h with h | h
      · exact absurd h.symm hk
      · split
        · exact List.mem_cons_of_mem _ (restrictT_look h hv)
        · exact restrictT_look h hv

theorem look_mem {α : Type} {i : Nat} {a : α} : ∀ {l : List (Nat × α)}, look l i = some a → (i, a) ∈ l
  | [], h => by simp [look_nil, look_cons] at h
  | (k, b) :: r, h => by
    simp only [look_nil, look_cons] at h
    by_cases hk : Nat.beq k i = true
    · have := Nat.eq_of_beq_eq_true hk; subst this; simp at h; subst h; simp
    · simp only [hk, Bool.false_eq_true, if_false] at h
      exact List.mem_cons_of_mem _ (look_mem h)

theorem push_get {τ : Ty} (h : Heap τ) (e : Ent τ) (i : Nat) (hi : i < h.n) : (h.push e).get i = h.get i := by
  show look ((h.n, _) :: h.l) i = _
  have : Nat.beq h.n i = false := Bool.eq_false_iff.2 fun hb => by have := Nat.eq_of_beq_eq_true hb; omega
  simp [look_nil, look_cons, this, Heap.get]

set_option maxHeartbeats 400000 in
theorem step_nowr {E : Env (std K)} {call : FuncId → List (ST (std K)) → Heap (std K) → Res (std K)} {ρ : Operand → Option (ST (std K))} {op : Op} {h h' : Heap (std K)} {v : ST (std K)} (hw : wrOf op = false)
    (hs : (stepOp E call ρ op h).eval = some (v, h')) : ∀ i, i < h.n → h'.get i = h.get i := by
  intro i hi
  unfold stepOp at hs
  split at hs
  case h_8 => simp [wrOf] at hw
  case h_20 =>
    rename_i c
    split at hs
    · split at hs
      · rename_i g hg; simp [wrOf, hg] at hw
      · rename_i b hg
        simp only [wrOf, hg] at hw
        unfold builtinS at hs
        split at hs
        · split at hs
          · obtain ⟨_, rfl⟩ := same_bind hs; rfl
          · simp [Out.eval] at hs
        · simp [wrBuiltin] at hw
        · simp [wrBuiltin] at hw
        · simp [Out.eval] at hs
      · rename_i g hg; simp [wrOf, hg] at hw
    · simp [Out.eval] at hs
  case h_21 =>
    split at hs
    · have h1 := orFail_some hs
      unfold buildSliceS at h1
      repeat' (split at h1)
      all_goals first
        | (cases h1; done)
        | (simp only [Option.some.injEq, Prod.mk.injEq] at h1
           obtain ⟨_, rfl⟩ := h1
           rw [remake_get, if_neg (by omega)]; rfl)
    · simp [Out.eval] at hs
  case h_22 => simp [wrOf] at hw
  case h_23 => simp [wrOf] at hw
  case h_26 => simp [wrOf] at hw
  case h_27 =>
    split at hs
    · split at hs
      · unfold makeSliceS at hs
        repeat' (split at hs)
        all_goals first
          | (simp [Out.eval] at hs; done)
          | (rw [eval_branch] at hs
             repeat' (split at hs)
             all_goals first
               | (simp [Out.eval] at hs; done)
               | (simp only [Out.eval, Option.some.injEq, Prod.mk.injEq] at hs
                  obtain ⟨_, rfl⟩ := hs
                  rw [remake_get, if_neg (by omega)]; rfl))
      · simp [Out.eval] at hs
    · simp [Out.eval] at hs
  all_goals
    first
      | (obtain ⟨_, rfl⟩ := same_bind hs; rfl)
      | ((repeat' (split at hs)) <;> first
          | (obtain ⟨_, rfl⟩ := same_bind hs; rfl)
          | (simp [Out.eval] at hs; done)
          | (simp [Out.eval] at hs; obtain ⟨_, rfl⟩ := hs; exact push_get h _ i hi)
          | (simp [Out.eval] at hs; obtain ⟨_, rfl⟩ := hs; rfl))
      | (simp [Out.eval] at hs; done)

theorem look_freezeL {τ : Ty} (i : Nat) : ∀ (l : List (Nat × Ent τ)), look (freezeL l) i = (look l i).map Ent.freeze
  | [] => rfl
  | (k, e) :: r => by
    have ih := look_freezeL i r
    simp only [freezeL, List.map_cons, look_cons] at ih ⊢
    by_cases hk : Nat.beq k i = true
    · simp [hk]
    · simp only [hk, Bool.false_eq_true, if_false]; exact ih

theorem look_newL {τ : Ty} (n i : Nat) : ∀ (l : List (Nat × Ent τ)), look (newL n l) i = if n ≤ i then look l i else none
  | [] => by simp [newL, look_nil]
  | (k, e) :: r => by
    have ih := look_newL n i r
    simp only [newL]
    by_cases hk : Nat.beq k i = true
    · have := Nat.eq_of_beq_eq_true hk; subst this
      by_cases hn : n ≤ k
      · rw [if_pos (by simpa using hn), look_cons, if_pos hk, if_pos hn, look_cons, if_pos hk]
      · rw [if_neg (by simpa using hn), ih, if_neg hn, if_neg hn]
    · by_cases hn : n ≤ k
      · rw [if_pos (by simpa using hn), look_cons, if_neg hk, ih, look_cons, if_neg hk]
      · rw [if_neg (by simpa using hn), ih, look_cons, if_neg hk]

theorem okB_eval {α : Type} {p : α → Bool} : ∀ {t : Out (std K) α} {a : α}, t.okB p = true → t.eval = some a → p a = true
  | .leaf b, a, h, he => by simp [Out.eval] at he; subst he; exact h
  | .ite b l r, a, h, he => by
    simp only [Out.okB, Bool.and_eq_true] at h
    cases b with
    | true => exact okB_eval (t := l) h.1 he
    | false => exact okB_eval (t := r) h.2 he
  | .fail s, a, h, he => by simp [Out.eval] at he

theorem isOwnE_kd (e : Ent (std K)) : isOwnE e = true ↔ e.kd = .own := by cases e <;> simp [isOwnE, Ent.kd]

theorem Ent.freeze_sat {σ : Sg} {L : Loc} {F : Nat → Prop} {w : World} {e : Ent (std K)} (h : e.sat σ L F w) : e.freeze.sat σ L F w := by
  cases e with
  | vec T sz c =>
    obtain ⟨p, r, q, h1, h2, h3, h4, h5, h6, h9, h7, h8⟩ := h
    exact ⟨p, r, q, (0, 0), h1, h2, h3, h4, h6, h7, h8⟩
  | _ => exact h

theorem Ent.freeze_shares {e e' : Ent (std K)} (h : e.freeze.kd.shares e'.freeze.kd = false) : e.kd.shares e'.kd = false := by
  cases e <;> cases e' <;> simp_all [Ent.freeze, Ent.kd, Kd.shares]

theorem HRep.freeze {σ F} {h : Heap (std K)} {w : World} (hr : HRep σ F h.n h.get w) : HRep σ F h.n (⟨h.n, freezeL h.l⟩ : Heap (std K)).get w := by
  have hget : ∀ i e, (⟨h.n, freezeL h.l⟩ : Heap (std K)).get i = some e → ∃ e0, h.get i = some e0 ∧ e = e0.freeze := fun i e he => by
    have he : look (freezeL h.l) i = some e := he
    rw [look_freezeL] at he
    cases h0 : look h.l i with
    | none => rw [h0] at he; cases he
    | some e0 => rw [h0] at he; exact ⟨e0, h0, (Option.some.inj he).symm⟩
  refine ⟨hr.fresh, fun i e he => ?_, fun i j e e' hn hi hj hs => ?_, fun i e he => ?_⟩
  · obtain ⟨e0, h1, rfl⟩ := hget i e he
    obtain ⟨L, hL, hsat⟩ := hr.sat i e0 h1
    exact ⟨L, hL, Ent.freeze_sat hsat⟩
  · obtain ⟨e0, h1, rfl⟩ := hget i e hi
    obtain ⟨e1, h2, rfl⟩ := hget j e' hj
    exact hr.apart i j e0 e1 hn h1 h2 (Ent.freeze_shares hs)
  · obtain ⟨e0, h1, rfl⟩ := hget i e he
    exact hr.inside i e0 h1

theorem stepD_get {h : Heap (std K)} {h1 : Heap (std K)} (hm : ∀ i e, h.get i = some e → i < h.n) (i : Nat) : (⟨h1.n, catL (newL h.n h1.l) h.l⟩ : Heap (std K)).get i = if i < h.n then h.get i else h1.get i := by
  show look (catL _ _) i = _
  rw [look_catL, look_newL]
  by_cases hi : i < h.n
  · rw [if_neg (by omega), if_pos hi]; rfl
  · rw [if_pos (by omega), if_neg hi]
    have : look h.l i = none := by
      cases h0 : look h.l i with
      | none => rfl
      | some e => exact absurd (hm i e h0) hi
    rw [this]
    unfold Heap.get
    cases look h1.l i <;> rfl

theorem stepD_nowr {E : Env (std K)} {call : FuncId → List (ST (std K)) → Heap (std K) → Res (std K)} {ρ : Operand → Option (ST (std K))} {op : Op} {h h' : Heap (std K)} {v : ST (std K)} {wr : Bool}
    (hs : (stepD E call ρ op h).eval = some (v, h', wr)) (hw : wr = false) : ∀ i, i < h.n → h'.get i = h.get i := by
  unfold stepD at hs
  split at hs
  · obtain ⟨⟨v1, h1⟩, h2, h3⟩ := eval_bind_some hs
    simp only [Out.eval, Option.some.injEq, Prod.mk.injEq] at h3
    obtain ⟨rfl, rfl, _⟩ := h3
    intro i hi
    show look (catL _ _) i = _
    rw [look_catL, look_newL, if_neg (by omega)]
    rfl
  · obtain ⟨⟨v1, h1⟩, h2, h3⟩ := eval_bind_some hs
    simp only [Out.eval, Option.some.injEq, Prod.mk.injEq] at h3
    obtain ⟨rfl, rfl, h4⟩ := h3
    exact step_nowr (h4.trans hw) h2

theorem Post.thaw {σ F} {h h1 : Heap (std K)} {w w' : World} {σ' F'} (hr : HRep σ F h.n h.get w) (hc : ∀ i e, (⟨h.n, freezeL h.l⟩ : Heap (std K)).get i = some e → e.kd ≠ .own) (ho : ∀ i e, h.n ≤ i → h1.get i = some e → e.kd = .own)
    (p : Post σ F h.n (⟨h.n, freezeL h.l⟩ : Heap (std K)).get w σ' F' h1.n h1.get w') :
    Post σ F h.n h.get w σ' (fun i => if i < h.n then F i else F' i) h1.n (⟨h1.n, catL (newL h.n h1.l) h.l⟩ : Heap (std K)).get w' := by
  have hm : ∀ i e, h.get i = some e → i < h.n := fun i e he => by
    rcases Nat.lt_or_ge i h.n with hi | hi
    · exact hi
    · obtain ⟨L, hL, _⟩ := hr.sat i e he
      rw [hr.fresh i hi] at hL; cases hL
  have hget := stepD_get (h1 := h1) hm
  have hle := p.le hr.freeze
  have hall : ∀ b, b < w.heap.size → w'.heap[b]? = w.heap[b]? := fun b hb => p.keeps.block b hb (by
    rintro ⟨i, e, h2, h3, _⟩
    exact hc i e h2 h3)
  have hfar : ∀ i e b, h.n ≤ i → h1.get i = some e → F' i b → w.heap.size ≤ b := fun i e b hi he hb => by
    rcases p.foots i e b he hb with ⟨j, e0, h2, h3, h4⟩ | h
    · rcases h4 with h4 | h4
      · exact absurd h4 (hc j e0 h2)
      · exact absurd (h4.trans (ho i e hi he)) (hc j e0 h2)
    · exact h
  have hcase : ∀ i e, (⟨h1.n, catL (newL h.n h1.l) h.l⟩ : Heap (std K)).get i = some e → (i < h.n ∧ h.get i = some e) ∨ (h.n ≤ i ∧ h1.get i = some e) := fun i e he => by
    rw [hget] at he
    split at he
    · rename_i hi; exact .inl ⟨hi, he⟩
    · rename_i hi; exact .inr ⟨by omega, he⟩
  refine ⟨p.ext, p.mon, ⟨p.rep.fresh, ?_, ?_, ?_⟩, ⟨p.keeps.os, p.keeps.tape, p.keeps.output, p.keeps.size, fun b hb _ => hall b hb⟩, ?_⟩
  · intro i e he
    rcases hcase i e he with ⟨hi, h2⟩ | ⟨hi, h2⟩
    · obtain ⟨L, hL, hs⟩ := hr.sat i e h2
      exact ⟨L, hle i L hL, by simpa [hi] using Ent.sat_local (w := w) (fun b hb => hall b (hr.inside i e h2 b hb)) (Ent.sat_mono hle hs)⟩
    · obtain ⟨L, hL, hs⟩ := p.rep.sat i e h2
      exact ⟨L, hL, by simpa [show ¬ i < h.n by omega] using hs⟩
  · intro i j e e' hn hi hj hs b hb hb'
    rcases hcase i e hi with ⟨h2, h3⟩ | ⟨h2, h3⟩ <;> rcases hcase j e' hj with ⟨k2, k3⟩ | ⟨k2, k3⟩
    · simp [h2] at hb; simp [k2] at hb'
      exact hr.apart i j e e' hn h3 k3 hs b hb hb'
    · simp [h2] at hb; simp [show ¬ j < h.n by omega] at hb'
      have := hfar j e' b k2 k3 hb'
      have := hr.inside i e h3 b hb
      omega
    · simp [show ¬ i < h.n by omega] at hb; simp [k2] at hb'
      have := hfar i e b h2 h3 hb
      have := hr.inside j e' k3 b hb'
      omega
    · simp [show ¬ i < h.n by omega] at hb; simp [show ¬ j < h.n by omega] at hb'
      exact p.rep.apart i j e e' hn h3 k3 hs b hb hb'
  · intro i e he b hb
    rcases hcase i e he with ⟨h2, h3⟩ | ⟨h2, h3⟩
    · simp [h2] at hb
      exact Nat.lt_of_lt_of_le (hr.inside i e h3 b hb) p.keeps.size
    · simp [show ¬ i < h.n by omega] at hb
      exact p.rep.inside i e h3 b hb
  · intro i e b he hb
    rcases hcase i e he with ⟨h2, h3⟩ | ⟨h2, h3⟩
    · simp [h2] at hb
      exact .inl ⟨i, e, h3, hb, .inr rfl⟩
    · simp [show ¬ i < h.n by omega] at hb
      exact .inr (hfar i e b h2 h3 hb)

theorem stepD_ok {E : Env (std K)} (hA : ArOK E.A) {call : FuncId → List (ST (std K)) → Heap (std K) → Res (std K)} (hcall : CallOK E call) {o : Oper} {ρ : Operand → Option (ST (std K))} {a : Act} {σ : Sg} {F : Nat → Nat → Prop}
    {h h' : Heap (std K)} {w : World} {v : ST (std K)} {wr : Bool} (hr : HRep σ F h.n h.get w) (hG : GRep E σ) (hρ : ∀ x v, ρ x = some v → v.den σ = some (a.eval x))
    (hs : (stepD E call ρ o.op h).eval = some (v, h', wr)) : OpOK E.P o a σ F h w v h' := by
  unfold stepD at hs
  split at hs
  · rename_i hc
    simp only [Bool.and_eq_true] at hc
    obtain ⟨⟨_, hc1⟩, hc2⟩ := hc
    obtain ⟨⟨v1, h1⟩, h2, h3⟩ := eval_bind_some hs
    simp only [Out.eval, Option.some.injEq, Prod.mk.injEq] at h3
    obtain ⟨rfl, rfl, _⟩ := h3
    have hown := okB_eval hc2 h2
    intro next Q hnx
    refine step_ok hA hcall (h := ⟨h.n, freezeL h.l⟩) hr.freeze hG hρ h2 next Q ?_
    intro σ' F' w' x hp hv
    refine hnx σ' _ w' x (Post.thaw hr (fun i e he => ?_) (fun i e hi he => ?_) hp) hv
    · have := allB_mem hc1 (i, e) (look_mem he)
      simp only [Bool.not_eq_true'] at this
      intro hk
      rw [(isOwnE_kd e).2 hk] at this
      cases this
    · have hl : look (newL h.n h1.l) i = some e := by rw [look_newL, if_pos hi]; exact he
      exact (isOwnE_kd e).1 (allB_mem hown (i, e) (look_mem hl))
  · obtain ⟨⟨v1, h1⟩, h2, h3⟩ := eval_bind_some hs
    simp only [Out.eval, Option.some.injEq, Prod.mk.injEq] at h3
    obtain ⟨rfl, rfl, _⟩ := h3
    exact step_ok hA hcall hr hG hρ h2

/-- The same, or two truth values that are the same. -/
def SameO (a b : Option (ST (std K))) : Prop := a = b ∨ ∃ x y : Bol (std K).B, a = some (.one (.bool x)) ∧ b = some (.one (.bool y)) ∧ x.den (K := K) = y.den (K := K)

theorem SameO.get {a b : Option (ST (std K))} (h : SameO a b) {v : ST (std K)} (hv : a = some v) : ∃ v', b = some v' ∧ (∀ σ, v'.den σ = v.den σ) ∧ ∀ n, v'.under n = v.under n := by
  rcases h with h | ⟨x, y, h1, h2, h3⟩
  · exact ⟨v, by rw [← h]; exact hv, fun _ => rfl, fun _ => rfl⟩
  · rw [h1] at hv; cases hv
    exact ⟨_, h2, fun σ => by simp [ST.den, SC.den, h3], fun n => by simp [ST.under, SC.under]⟩
theorem SameO.symm {a b : Option (ST (std K))} (h : SameO a b) : SameO b a := by
  rcases h with h | ⟨x, y, h1, h2, h3⟩
  · exact .inl h.symm
  · exact .inr ⟨y, x, h2, h1, h3.symm⟩
theorem SameO.trans {a b c : Option (ST (std K))} (h : SameO a b) (k : SameO b c) : SameO a c := by
  rcases h with rfl | ⟨x, y, h1, h2, h3⟩
  · exact k
  · rcases k with rfl | ⟨x', y', k1, k2, k3⟩
    · exact .inr ⟨x, y, h1, h2, h3⟩
    · rw [h2] at k1; cases k1
      exact .inr ⟨x, y', h1, k2, h3.trans k3⟩

theorem guardD_ok {ops : Array Oper} {o : Oper} {tm tm' : Tm (std K)} {g : Bool} {gt : List Nat} (h : (guardD ops o tm).eval = some (g, gt, tm')) :
    (∀ t, SameO (look tm' t) (look tm t)) ∧ ∀ {σ : Sg} {a : Act}, (∀ t v, t ∈ gt → look tm t = some v → ∃ x, v.den σ = some x ∧ a.tmps[t]? = some x) → Region.wanted o (yielded ops a.tmps) = g := by
  unfold guardD at h
  split at h
  · rename_i ho
    simp [Out.eval] at h
    obtain ⟨rfl, rfl, rfl⟩ := h
    exact ⟨fun _ => .inl rfl, fun _ => by simp [Region.wanted, ho]⟩
  · rename_i j want ho
    split at h
    · rename_i gd hg
      split at h
      · rename_i t hd
        split at h
        · rename_i b hb
          simp [Out.eval] at h
          obtain ⟨rfl, rfl, rfl⟩ := h
          refine ⟨fun _ => .inl rfl, fun {σ a} ht => ?_⟩
          obtain ⟨x, h1, h2⟩ := ht t _ (by simp) hb
          simp only [ST.den, SC.den, Option.some.injEq, Bol.den] at h1
          subst h1
          simp [Region.wanted, ho, yielded, hg, hd, h2]
        · rename_i b hb
          have hs : ∀ (c : Bool), c = b → ∀ t', SameO (look ((t, ST.one (.bool (.lit c))) :: tm) t') (look tm t') := fun c hc t' => by
            simp only [look_nil, look_cons]
            by_cases hk : Nat.beq t t' = true
            · have := Nat.eq_of_beq_eq_true hk; subst this
              simp only [hk, if_true]
              exact .inr ⟨_, _, rfl, hb, by simp [Bol.den, hc]⟩
            · simp only [hk, Bool.false_eq_true, if_false]; exact .inl rfl
          cases b with
          | true =>
            simp [Out.eval] at h
            obtain ⟨rfl, rfl, rfl⟩ := h
            refine ⟨hs true rfl, fun {σ a} ht => ?_⟩
            obtain ⟨x, h1, h2⟩ := ht t _ (by simp) hb
            simp only [ST.den, SC.den, Option.some.injEq, Bol.den] at h1
            subst h1
            simp [Region.wanted, ho, yielded, hg, hd, h2]
          | false =>
            simp [Out.eval] at h
            obtain ⟨rfl, rfl, rfl⟩ := h
            refine ⟨hs false rfl, fun {σ a} ht => ?_⟩
            obtain ⟨x, h1, h2⟩ := ht t _ (by simp) hb
            simp only [ST.den, SC.den, Option.some.injEq, Bol.den] at h1
            subst h1
            simp [Region.wanted, ho, yielded, hg, hd, h2]
        · rename_i hb
          simp [Out.eval] at h
          obtain ⟨rfl, rfl, rfl⟩ := h
          refine ⟨fun _ => .inl rfl, fun {σ a} ht => ?_⟩
          obtain ⟨x, h1, h2⟩ := ht t _ (by simp) hb
          simp [ST.den, denT] at h1; subst h1
          simp [Region.wanted, ho, yielded, hg, hd, h2]
        · simp [Out.eval] at h
      · simp [Out.eval] at h
    · simp [Out.eval] at h

/-- What is known when the first operations are walked. -/
structure Good (E : Env (std K)) (ops : Array Oper) (preds : List (List Nat)) (n n0 : Nat) (T0 : Nat → Option (ST (std K))) (H0 : HF K) (recs : List (Rec (std K))) (tm : Tm (std K)) (h : Heap (std K)) : Prop where
  tmE : ∀ t, SameO (look tm t) (tAt allS 0 recs T0 t)
  hE : ∀ i, h.get i = hAt allS 0 recs H0 i
  ok : ∀ (k : Nat) (r : Rec (std K)), recs[k]? = some r → ∃ o, ops[k]? = some o ∧ RecOK E ops n o r (tAt allS 0 (recs.take k) T0) (hAt allS 0 (recs.take k) H0)
  ord : ∀ (j k : Nat) (q r : Rec (std K)), j < k → recs[j]? = some q → recs[k]? = some r → conf q r = true → j ∈ preds.getD k []
  apart : ∀ (j k : Nat) (q r : Rec (std K)), j < k → recs[j]? = some q → recs[k]? = some r → q.h1.n ≤ r.base
  low : ∀ (k : Nat) (r : Rec (std K)), recs[k]? = some r → n0 ≤ r.base ∧ r.h1.n ≤ h.n
  size : n0 ≤ h.n

theorem ordered_ok {r : Rec (std K)} {pr : List Nat} : ∀ {l : List (Rec (std K))} {j0 : Nat}, ordered r pr j0 l = true → ∀ j q, l[j]? = some q → conf q r = true → (j0 + j) ∈ pr
  | [], _, _, j, q, hq, _ => by simp at hq
  | p :: l, j0, h, j, q, hq, hc => by
    simp only [ordered, Bool.and_eq_true] at h
    cases j with
    | zero =>
      simp at hq; subst hq
      simp [hc] at h
      exact memN_iff.1 h.1
    | succ j =>
      have := ordered_ok h.2 j q (by simpa using hq) hc
      rwa [show j0 + 1 + j = j0 + (j + 1) by omega] at this

theorem putT_look {n : Nat} {tm tm' : Tm (std K)} {d : Option Nat} {v : ST (std K)} (h : (putT n tm d v).eval = some tm') : (∀ t, look tm' t = if d = some t then some v else look tm t) ∧ ∀ t, d = some t → t < n := by
  unfold putT at h
  cases d with
  | none => simp [Out.eval] at h; subst h; simp
  | some k =>
    simp only at h
    split at h
    · rename_i hlt
      simp [Out.eval] at h; subst h
      refine ⟨fun t => ?_, fun t ht => by cases ht; simpa [Nat.blt_eq] using hlt⟩
      simp only [look_nil, look_cons]
      by_cases hk : k = t
      · subst hk; simp
      · have : Nat.beq k t = false := Bool.eq_false_iff.2 fun hb => hk (Nat.eq_of_beq_eq_true hb)
        simp [this, hk]
    · simp [Out.eval] at h

theorem Good.snoc {E : Env (std K)} {ops : Array Oper} {preds : List (List Nat)} {n n0 : Nat} {T0 : Nat → Option (ST (std K))} {H0 : HF K} {recs : List (Rec (std K))} {tm tm' : Tm (std K)} {h h' : Heap (std K)} (g : Good E ops preds n n0 T0 H0 recs tm h)
    {o : Oper} {rc : Rec (std K)} (ho : ops[recs.length]? = some o) (hok : RecOK E ops n o rc (tAt allS 0 recs T0) (hAt allS 0 recs H0)) (hb : rc.base = h.n) (hn : h'.n = rc.h1.n)
    (hord : ordered rc (preds.getD recs.length []) 0 recs = true) (htm : ∀ t, look tm' t = if rc.dst = some t then some rc.v else look tm t) (hh : ∀ i, h'.get i = if touches rc i then rc.h1.get i else h.get i) :
    Good E ops preds n n0 T0 H0 (recs ++ [rc]) tm' h' := by
  have hget : ∀ k r, (recs ++ [rc])[k]? = some r → (k < recs.length ∧ recs[k]? = some r) ∨ (k = recs.length ∧ r = rc) := fun k r hk => by
    rcases Nat.lt_trichotomy k recs.length with hl | hl | hl
    · exact .inl ⟨hl, by rwa [List.getElem?_append_left hl] at hk⟩
    · subst hl; simp at hk; exact .inr ⟨rfl, hk.symm⟩
    · rw [List.getElem?_eq_none (by simp; omega)] at hk; cases hk
  have htake : ∀ k, k ≤ recs.length → (recs ++ [rc]).take k = recs.take k := fun k hk => by rw [List.take_append_of_le_length hk]
  refine ⟨fun t => ?_, fun i => ?_, fun k r hk => ?_, fun j k q r hjk hq hr hc => ?_, fun j k q r hjk hq hr => ?_, fun k r hk => ?_, ?_⟩
  · rw [htm, tAt_append]
    simp only [tAt, updT, allS, if_true]
    split
    · exact .inl rfl
    · exact g.tmE t
  · rw [hh, hAt_append]; simp [hAt, updH, g.hE]
  · rcases hget k r hk with ⟨h1, h2⟩ | ⟨rfl, rfl⟩
    · rw [htake k (by omega)]; exact g.ok k r h2
    · rw [htake _ (Nat.le_refl _), List.take_length]; exact ⟨o, ho, hok⟩
  · rcases hget k r hr with ⟨h1, h2⟩ | ⟨rfl, rfl⟩
    · rcases hget j q hq with ⟨h3, h4⟩ | ⟨rfl, rfl⟩
      · exact g.ord j k q r hjk h4 h2 hc
      · omega
    · rcases hget j q hq with ⟨h3, h4⟩ | ⟨h3, rfl⟩
      · have := ordered_ok hord j q h4 hc; rwa [Nat.zero_add] at this
      · omega
  · rcases hget k r hr with ⟨h1, h2⟩ | ⟨rfl, rfl⟩
    · rcases hget j q hq with ⟨h3, h4⟩ | ⟨rfl, rfl⟩
      · exact g.apart j k q r hjk h4 h2
      · omega
    · rcases hget j q hq with ⟨h3, h4⟩ | ⟨h3, rfl⟩
      · rw [hb]; exact (g.low j q h4).2
      · omega
  · have hmon := hok.mon
    rcases hget k r hk with ⟨h1, h2⟩ | ⟨rfl, rfl⟩
    · have := g.low k r h2; omega
    · have := g.size; omega
  · have hmon := hok.mon
    have := g.size; omega

theorem runDraw_ok {E : Env (std K)} (hA : ArOK E.A) {call : FuncId → List (ST (std K)) → Heap (std K) → Res (std K)} (hcall : CallOK E call) {n n0 : Nat} {ops : Array Oper} {preds : List (List Nat)} {T0 : Nat → Option (ST (std K))} {H0 : HF K}
    {tm' : Tm (std K)} {h' : Heap (std K)} {recs' : List (Rec (std K))} : ∀ (todo : List Oper) (i : Nat) (tm : Tm (std K)) (h : Heap (std K)) (recs : List (Rec (std K))),
    (runDraw E call n ops preds todo i tm h recs).eval = some (tm', h', recs') → recs.length = i → ops.toList.drop i = todo → Good E ops preds n n0 T0 H0 recs tm h → Good E ops preds n n0 T0 H0 recs' tm' h' ∧ recs'.length = i + todo.length
  | [], i, tm, h, recs, hh, hi, _, g => by
    simp [runDraw, Out.eval] at hh
    obtain ⟨rfl, rfl, rfl⟩ := hh
    exact ⟨g, by simp [hi]⟩
  | o :: r, i, tm, h, recs, hh, hi, htodo, g => by
    have ho : ops[i]? = some o := by
      have : ops.toList[i]? = some o := by
        have h1 : (ops.toList.drop i)[0]? = some o := by rw [htodo]; rfl
        rwa [List.getElem?_drop, Nat.add_zero] at h1
      simpa using this
    have hr : ops.toList.drop (i + 1) = r := by
      have h1 : (ops.toList.drop i).drop 1 = r := by rw [htodo]; rfl
      rwa [List.drop_drop] at h1
    simp only [runDraw] at hh
    obtain ⟨⟨gd, gt, tmq⟩, h1, h2⟩ := eval_bind_some hh
    obtain ⟨hsame, hguard⟩ := guardD_ok h1
    have g0 := g
    replace g : Good E ops preds n n0 T0 H0 recs tmq h := ⟨fun t => (hsame t).trans (g0.tmE t), g0.hE, g0.ok, g0.ord, g0.apart, g0.low, g0.size⟩
    have back : ∀ {σ : Sg} {a : Act} {rd : List Nat}, Holds σ rd (tAt allS 0 recs T0) a → ∀ t v, t ∈ rd → look tmq t = some v → ∃ x, v.den σ = some x ∧ a.tmps[t]? = some x := fun {σ a rd} hh t v ht hv => by
      obtain ⟨v', h5, h6, _⟩ := (g.tmE t).get hv
      rw [← h6]; exact hh t v' ht h5
    have back0 : ∀ {σ : Sg} {a : Act} {rd : List Nat}, Holds σ rd (tAt allS 0 recs T0) a → ∀ t v, t ∈ rd → look tm t = some v → ∃ x, v.den σ = some x ∧ a.tmps[t]? = some x := fun {σ a rd} hh t v ht hv => by
      obtain ⟨v', h5, h6, _⟩ := (g0.tmE t).get hv
      rw [← h6]; exact hh t v' ht h5
    cases gd with
    | true =>
      simp only [if_true] at h2
      split at h2
      · rename_i hchk
        simp only [Bool.and_eq_true] at hchk
        obtain ⟨⟨⟨hc1, hc2⟩, hc3⟩, hc4⟩ := hchk
        obtain ⟨⟨v, h3, wr⟩, h4, h5⟩ := eval_bind_some h2
        simp only at h5
        split at h5
        · rename_i hchk2
          simp only [Bool.and_eq_true, Nat.ble_eq] at hchk2
          obtain ⟨hmon, hord⟩ := hchk2
          obtain ⟨tm2, h6, h7⟩ := eval_bind_some h5
          obtain ⟨hlook, hslot⟩ := putT_look h6
          generalize hu : usesOf (mapS E.glob) (opnd E tmq) h o.op = u at *
          generalize hrd : catL gt (opTmps o.op) = rd at *
          have huu : ∀ j, j ∈ u → j < h.n := fun j hj => by have := allB_mem hc1 j hj; simpa [Nat.blt_eq] using this
          have hgetr : ∀ j, (⟨h.n, restrictL u h.l⟩ : Heap (std K)).get j = if j ∈ u then h.get j else none := fun j => by
            show look (restrictL u h.l) j = _
            rw [look_restrictL]
            by_cases hj : j ∈ u
            · simp [memN_iff.2 hj, hj, Heap.get]
            · have : memN j u = false := Bool.eq_false_iff.2 fun hm => hj (memN_iff.1 hm)
              simp [this, hj]
          have hpart : (⟨h.n, restrictL u h.l⟩ : Heap (std K)).get = part' (hAt allS 0 recs H0) (· ∈ u) := by
            funext j; rw [hgetr, part', g.hE]
          have hmemgt : ∀ t, t ∈ gt → t ∈ rd := fun t ht => by
            rw [← hrd]
            have : ∀ (a b : List Nat) t, t ∈ a → t ∈ catL a b := fun a b t => by
              induction a with
              | nil => simp
              | cons k a ih => simp only [catL, List.mem_cons]; rintro (h | h); exact .inl h; exact .inr (ih h)
            exact this _ _ t ht
          have hnw : wr = false → ∀ j, j ∈ u → h3.get j = hAt allS 0 recs H0 j := fun hw j hj => by
            rw [stepD_nowr h4 hw j (huu j hj), hgetr, if_pos hj, g.hE]
          have hok : RecOK E ops n o ⟨o.dst, rd, v, u, wr, h.n, h3⟩ (tAt allS 0 recs T0) (hAt allS 0 recs H0) := by
            refine ⟨rfl, hslot, hmon, huu, .inr ⟨?_, ?_, ?_, ?_, hnw, ?_⟩⟩
            · intro σ a hh
              exact hguard fun t v ht hv => back0 hh t v (hmemgt t ht) hv
            · intro j e hj he
              have h8 : (⟨h.n, restrictL u h.l⟩ : Heap (std K)).get j = some e := by rw [hgetr, if_pos hj, g.hE]; exact he
              exact allB_mem hc4 (j, e) (look_mem h8)
            · intro t v ht hv
              obtain ⟨v', h5', _, h7'⟩ := (g.tmE t).symm.get hv
              rw [← h7']
              exact allB_mem hc3 (t, v') (restrictT_look ht h5')
            · intro gg j hj
              have := allB_mem hc2 (gg, j) (look_mem hj)
              simpa [Nat.blt_eq] using this
            · intro σ F a w hrep hG hh next Q hnx
              have hT : TRep σ (restrictT tmq rd) a := fun t v hl => by
                obtain ⟨h8, h9⟩ := look_restrictT hl
                exact back hh t v h8 h9
              have hrep' : HRep σ F (⟨h.n, restrictL u h.l⟩ : Heap (std K)).n (⟨h.n, restrictL u h.l⟩ : Heap (std K)).get w := by rw [hpart]; exact hrep
              refine stepD_ok hA hcall hrep' hG (opnd_den hG hT) h4 next Q ?_
              intro σ' F' w' x hp hv
              rw [hpart] at hp
              exact hnx σ' F' w' x hp hv
          have hg2 := g.snoc (tm' := tm2) (h' := mergeH h u h3) (by rw [hi]; exact ho) hok rfl rfl (by rw [hi]; exact hord) hlook (fun j => by
            rw [mergeH_get]
            simp only [inU, touches]
            by_cases hj : memN j u = true
            · have hlt := huu j (memN_iff.1 hj)
              have hble : Nat.ble h.n j = false := Bool.eq_false_iff.2 fun hb => by have := Nat.le_of_ble_eq_true hb; omega
              cases hw : wr with
              | true => simp [hj]
              | false => simp [hj, hble, hnw hw j (memN_iff.1 hj), g.hE]
            · simp [hj])
          obtain ⟨g3, h8⟩ := runDraw_ok hA hcall r (i + 1) tm2 (mergeH h u h3) _ h7 (by simp [hi]) hr hg2
          exact ⟨g3, by rw [h8]; simp; omega⟩
        · simp [Out.eval] at h5
      · simp [Out.eval] at h2
    | false =>
      simp only [Bool.false_eq_true, if_false] at h2
      split at h2
      · rename_i hord
        obtain ⟨tm2, h6, h7⟩ := eval_bind_some h2
        obtain ⟨hlook, hslot⟩ := putT_look h6
        have hok : RecOK E ops n o ⟨o.dst, gt, undefS, [], false, h.n, ⟨h.n, []⟩⟩ (tAt allS 0 recs T0) (hAt allS 0 recs H0) := by
          refine ⟨rfl, hslot, Nat.le_refl _, by simp, .inl ⟨?_, rfl, rfl, rfl⟩⟩
          intro σ a hh
          exact hguard fun t v ht hv => back0 hh t v ht hv
        have hg2 := g.snoc (tm' := tm2) (h' := h) (by rw [hi]; exact ho) hok rfl rfl (by rw [hi]; exact hord) hlook (fun j => by
          have : touches (⟨o.dst, gt, undefS, [], false, h.n, ⟨h.n, []⟩⟩ : Rec (std K)) j = false := by
            simp only [touches, Bool.false_and, Bool.false_or]
            apply Bool.eq_false_iff.2
            intro hb
            simp [Nat.ble_eq, Nat.blt_eq] at hb
            omega
          simp [this])
        obtain ⟨g3, h8⟩ := runDraw_ok hA hcall r (i + 1) tm2 h _ h7 (by simp [hi]) hr hg2
        exact ⟨g3, by rw [h8]; simp; omega⟩
      · simp [Out.eval] at h2

end
end Go.Vse
