/- The symbolic executor is sound: what a walk of a drawn region in the text's order tells of each operation. -/
import Derived.Test.YtfpcokdecdnmdaaDoorVseL
namespace Go.Vse
open Go

section
variable {K : Kit}

theorem look_catL {α : Type} (i : Nat) : ∀ (a b : List (Nat × α)), look (catL a b) i = match look a i with | some x => some x | none => look b i
  | [], b => by simp [catL, look]
  | (k, e) :: r, b => by
    simp only [catL, look]
    by_cases h : Nat.beq k i = true
    · simp [h]
    · simp only [h, Bool.false_eq_true, if_false]; exact look_catL i r b

theorem look_restrictL {τ : Ty} (u : List Nat) (i : Nat) : ∀ (l : List (Nat × Ent τ)), look (restrictL u l) i = if memN i u then look l i else none
  | [] => by simp [restrictL, look]
  | (k, e) :: r => by
    have ih := look_restrictL u i r
    simp only [restrictL]
    by_cases hk : Nat.beq k i = true
    · have := Nat.eq_of_beq_eq_true hk; subst this
      by_cases hm : memN k u = true
      · simp [hm, look]
      · simp only [hm, Bool.false_eq_true, if_false] at ih ⊢; exact ih
    · by_cases hm : memN k u = true
      · simp only [hm, if_true, look, hk, Bool.false_eq_true, if_false]; exact ih
      · simp only [hm, Bool.false_eq_true, if_false, look, hk]; exact ih

theorem look_keepL {τ : Ty} (u : List Nat) (lo hi i : Nat) : ∀ (l : List (Nat × Ent τ)), look (keepL u lo hi l) i = if inU u lo hi i then look l i else none
  | [] => by simp [keepL, look]
  | (k, e) :: r => by
    have ih := look_keepL u lo hi i r
    simp only [keepL]
    by_cases hk : Nat.beq k i = true
    · have := Nat.eq_of_beq_eq_true hk; subst this
      by_cases hm : inU u lo hi k = true
      · simp [hm, look]
      · simp only [hm, Bool.false_eq_true, if_false] at ih ⊢; exact ih
    · by_cases hm : inU u lo hi k = true
      · simp only [hm, if_true, look, hk, Bool.false_eq_true, if_false]; exact ih
      · simp only [hm, Bool.false_eq_true, if_false, look, hk]; exact ih

theorem look_dropL {τ : Ty} (u : List Nat) (lo hi i : Nat) : ∀ (l : List (Nat × Ent τ)), look (dropL u lo hi l) i = if inU u lo hi i then none else look l i
  | [] => by simp [dropL, look]
  | (k, e) :: r => by
    have ih := look_dropL u lo hi i r
    simp only [dropL]
    by_cases hk : Nat.beq k i = true
    · have := Nat.eq_of_beq_eq_true hk; subst this
      by_cases hm : inU u lo hi k = true
      · simp only [hm, if_true] at ih ⊢; exact ih
      · simp [hm, look]
    · by_cases hm : inU u lo hi k = true
      · simp only [hm, if_true, look, hk, Bool.false_eq_true, if_false] at ih ⊢; exact ih
      · simp only [hm, Bool.false_eq_true, if_false, look, hk] at ih ⊢; exact ih

theorem mergeH_get {τ : Ty} (h : Heap τ) (u : List Nat) (h1 : Heap τ) (i : Nat) : (mergeH h u h1).get i = if inU u h.n h1.n i then h1.get i else h.get i := by
  show look (catL _ _) i = _
  rw [look_catL, look_keepL, look_dropL]
  by_cases hm : inU u h.n h1.n i = true
  · simp only [hm, if_true]; unfold Heap.get; cases look h1.l i <;> rfl
  · simp only [hm, Bool.false_eq_true, if_false]; rfl

theorem look_restrictT {tm : Tm (std K)} {t : Nat} {v : ST (std K)} : ∀ {rd : List Nat}, look (restrictT tm rd) t = some v → t ∈ rd ∧ look tm t = some v
  | [], h => by simp [restrictT, look] at h
  | k :: r, h => by
    simp only [restrictT] at h
    split at h
    · rename_i x hx
      simp only [look] at h
      by_cases hk : Nat.beq k t = true
      · have := Nat.eq_of_beq_eq_true hk; subst this
        simp at h; subst h
        exact ⟨by simp, hx⟩
      · simp only [hk, Bool.false_eq_true, if_false] at h
        obtain ⟨h1, h2⟩ := look_restrictT h
        exact ⟨by simp [h1], h2⟩
    · obtain ⟨h1, h2⟩ := look_restrictT h
      exact ⟨by simp [h1], h2⟩

theorem restrictT_look {tm : Tm (std K)} {t : Nat} {v : ST (std K)} : ∀ {rd : List Nat}, t ∈ rd → look tm t = some v → (t, v) ∈ restrictT tm rd
  | [], h, _ => by simp at h
  | k :: r, h, hv => by
    simp only [restrictT]
    by_cases hk : k = t
    · subst hk; simp [hv]
    · rcases List.mem_cons.1 h with h | h
      · exact absurd h.symm hk
      · split
        · exact List.mem_cons_of_mem _ (restrictT_look h hv)
        · exact restrictT_look h hv

theorem look_mem {α : Type} {i : Nat} {a : α} : ∀ {l : List (Nat × α)}, look l i = some a → (i, a) ∈ l
  | [], h => by simp [look] at h
  | (k, b) :: r, h => by
    simp only [look] at h
    by_cases hk : Nat.beq k i = true
    · have := Nat.eq_of_beq_eq_true hk; subst this; simp at h; subst h; simp
    · simp only [hk, Bool.false_eq_true, if_false] at h
      exact List.mem_cons_of_mem _ (look_mem h)

theorem push_get {τ : Ty} (h : Heap τ) (e : Ent τ) (i : Nat) (hi : i < h.n) : (h.push e).get i = h.get i := by
  show look ((h.n, _) :: h.l) i = _
  have : Nat.beq h.n i = false := Bool.eq_false_iff.2 fun hb => by have := Nat.eq_of_beq_eq_true hb; omega
  simp [look, this, Heap.get]

set_option maxHeartbeats 400000 in
theorem step_nowr {E : Env (std K)} {call : FuncId → List (ST (std K)) → Heap (std K) → Res (std K)} {ρ : Operand → Option (ST (std K))} {op : Op} {h h' : Heap (std K)} {v : ST (std K)} (hw : wrOf op = false)
    (hs : (stepOp E call ρ op h).eval = some (v, h')) : ∀ i, i < h.n → h'.get i = h.get i := by
  intro i hi
  unfold stepOp at hs
  split at hs
  case h_8 => simp [wrOf] at hw
  case h_20 =>
    rename_i c
    split at hs
    · split at hs
      · rename_i g hg; simp [wrOf, hg] at hw
      · rename_i b hg
        simp only [wrOf, hg] at hw
        unfold builtinS at hs
        split at hs
        · split at hs
          · obtain ⟨_, rfl⟩ := same_bind hs; rfl
          · simp [Out.eval] at hs
        · simp [Out.eval] at hs
      · rename_i g hg; simp [wrOf, hg] at hw
    · simp [Out.eval] at hs
  all_goals
    first
      | (obtain ⟨_, rfl⟩ := same_bind hs; rfl)
      | ((repeat' (split at hs)) <;> first
          | (obtain ⟨_, rfl⟩ := same_bind hs; rfl)
          | (simp [Out.eval] at hs; done)
          | (simp [Out.eval] at hs; obtain ⟨_, rfl⟩ := hs; exact push_get h _ i hi)
          | (simp [Out.eval] at hs; obtain ⟨_, rfl⟩ := hs; rfl))
      | (simp [Out.eval] at hs; done)

/-- The same, or two truth values that are the same. -/
def SameO (a b : Option (ST (std K))) : Prop := a = b ∨ ∃ x y : Bol (std K).B, a = some (.one (.bool x)) ∧ b = some (.one (.bool y)) ∧ x.den (K := K) = y.den (K := K)

theorem SameO.get {a b : Option (ST (std K))} (h : SameO a b) {v : ST (std K)} (hv : a = some v) : ∃ v', b = some v' ∧ (∀ σ, v'.den σ = v.den σ) ∧ ∀ n, v'.under n = v.under n := by
  rcases h with h | ⟨x, y, h1, h2, h3⟩
  · exact ⟨v, by rw [← h]; exact hv, fun _ => rfl, fun _ => rfl⟩
  · rw [h1] at hv; cases hv
    exact ⟨_, h2, fun σ => by simp [ST.den, SC.den, h3], fun n => by simp [ST.under, SC.under]⟩
theorem SameO.symm {a b : Option (ST (std K))} (h : SameO a b) : SameO b a := by
  rcases h with h | ⟨x, y, h1, h2, h3⟩
  · exact .inl h.symm
  · exact .inr ⟨y, x, h2, h1, h3.symm⟩
theorem SameO.trans {a b c : Option (ST (std K))} (h : SameO a b) (k : SameO b c) : SameO a c := by
  rcases h with rfl | ⟨x, y, h1, h2, h3⟩
  · exact k
  · rcases k with rfl | ⟨x', y', k1, k2, k3⟩
    · exact .inr ⟨x, y, h1, h2, h3⟩
    · rw [h2] at k1; cases k1
      exact .inr ⟨x, y', h1, k2, h3.trans k3⟩

theorem guardD_ok {ops : Array Oper} {o : Oper} {tm tm' : Tm (std K)} {g : Bool} {gt : List Nat} (h : (guardD ops o tm).eval = some (g, gt, tm')) :
    (∀ t, SameO (look tm' t) (look tm t)) ∧ ∀ {σ : Sg} {a : Act}, (∀ t v, t ∈ gt → look tm t = some v → ∃ x, v.den σ = some x ∧ a.tmps[t]? = some x) → Region.wanted o (yielded ops a.tmps) = g := by
  unfold guardD at h
  split at h
  · rename_i ho
    simp [Out.eval] at h
    obtain ⟨rfl, rfl, rfl⟩ := h
    exact ⟨fun _ => .inl rfl, fun _ => by simp [Region.wanted, ho]⟩
  · rename_i j want ho
    split at h
    · rename_i gd hg
      split at h
      · rename_i t hd
        split at h
        · rename_i b hb
          simp [Out.eval] at h
          obtain ⟨rfl, rfl, rfl⟩ := h
          refine ⟨fun _ => .inl rfl, fun {σ a} ht => ?_⟩
          obtain ⟨x, h1, h2⟩ := ht t _ (by simp) hb
          simp only [ST.den, SC.den, Option.some.injEq, Bol.den] at h1
          subst h1
          simp [Region.wanted, ho, yielded, hg, hd, h2]
        · rename_i b hb
          have hs : ∀ (c : Bool), c = b → ∀ t', SameO (look ((t, ST.one (.bool (.lit c))) :: tm) t') (look tm t') := fun c hc t' => by
            simp only [look]
            by_cases hk : Nat.beq t t' = true
            · have := Nat.eq_of_beq_eq_true hk; subst this
              simp only [hk, if_true]
              exact .inr ⟨_, _, rfl, hb, by simp [Bol.den, hc]⟩
            · simp only [hk, Bool.false_eq_true, if_false]; exact .inl rfl
          cases b with
          | true =>
            simp [Out.eval] at h
            obtain ⟨rfl, rfl, rfl⟩ := h
            refine ⟨hs true rfl, fun {σ a} ht => ?_⟩
            obtain ⟨x, h1, h2⟩ := ht t _ (by simp) hb
            simp only [ST.den, SC.den, Option.some.injEq, Bol.den] at h1
            subst h1
            simp [Region.wanted, ho, yielded, hg, hd, h2]
          | false =>
            simp [Out.eval] at h
            obtain ⟨rfl, rfl, rfl⟩ := h
            refine ⟨hs false rfl, fun {σ a} ht => ?_⟩
            obtain ⟨x, h1, h2⟩ := ht t _ (by simp) hb
            simp only [ST.den, SC.den, Option.some.injEq, Bol.den] at h1
            subst h1
            simp [Region.wanted, ho, yielded, hg, hd, h2]
        · rename_i hb
          simp [Out.eval] at h
          obtain ⟨rfl, rfl, rfl⟩ := h
          refine ⟨fun _ => .inl rfl, fun {σ a} ht => ?_⟩
          obtain ⟨x, h1, h2⟩ := ht t _ (by simp) hb
          simp [ST.den, denT] at h1; subst h1
          simp [Region.wanted, ho, yielded, hg, hd, h2]
        · simp [Out.eval] at h
      · simp [Out.eval] at h
    · simp [Out.eval] at h

/-- What is known when the first operations are walked. -/
structure Good (E : Env (std K)) (ops : Array Oper) (preds : List (List Nat)) (n n0 : Nat) (T0 : Nat → Option (ST (std K))) (H0 : HF K) (recs : List (Rec (std K))) (tm : Tm (std K)) (h : Heap (std K)) : Prop where
  tmE : ∀ t, SameO (look tm t) (tAt allS 0 recs T0 t)
  hE : ∀ i, h.get i = hAt allS 0 recs H0 i
  ok : ∀ (k : Nat) (r : Rec (std K)), recs[k]? = some r → ∃ o, ops[k]? = some o ∧ RecOK E ops n o r (tAt allS 0 (recs.take k) T0) (hAt allS 0 (recs.take k) H0)
  ord : ∀ (j k : Nat) (q r : Rec (std K)), j < k → recs[j]? = some q → recs[k]? = some r → conf q r = true → j ∈ preds.getD k []
  apart : ∀ (j k : Nat) (q r : Rec (std K)), j < k → recs[j]? = some q → recs[k]? = some r → q.h1.n ≤ r.base
  low : ∀ (k : Nat) (r : Rec (std K)), recs[k]? = some r → n0 ≤ r.base ∧ r.h1.n ≤ h.n
  size : n0 ≤ h.n

theorem ordered_ok {r : Rec (std K)} {pr : List Nat} : ∀ {l : List (Rec (std K))} {j0 : Nat}, ordered r pr j0 l = true → ∀ j q, l[j]? = some q → conf q r = true → (j0 + j) ∈ pr
  | [], _, _, j, q, hq, _ => by simp at hq
  | p :: l, j0, h, j, q, hq, hc => by
    simp only [ordered, Bool.and_eq_true] at h
    cases j with
    | zero =>
      simp at hq; subst hq
      simp [hc] at h
      exact memN_iff.1 h.1
    | succ j =>
      have := ordered_ok h.2 j q (by simpa using hq) hc
      rwa [show j0 + 1 + j = j0 + (j + 1) by omega] at this

theorem putT_look {n : Nat} {tm tm' : Tm (std K)} {d : Option Nat} {v : ST (std K)} (h : (putT n tm d v).eval = some tm') : (∀ t, look tm' t = if d = some t then some v else look tm t) ∧ ∀ t, d = some t → t < n := by
  unfold putT at h
  cases d with
  | none => simp [Out.eval] at h; subst h; simp
  | some k =>
    simp only at h
    split at h
    · rename_i hlt
      simp [Out.eval] at h; subst h
      refine ⟨fun t => ?_, fun t ht => by cases ht; simpa [Nat.blt_eq] using hlt⟩
      simp only [look]
      by_cases hk : k = t
      · subst hk; simp
      · have : Nat.beq k t = false := Bool.eq_false_iff.2 fun hb => hk (Nat.eq_of_beq_eq_true hb)
        simp [this, hk]
    · simp [Out.eval] at h

theorem Good.snoc {E : Env (std K)} {ops : Array Oper} {preds : List (List Nat)} {n n0 : Nat} {T0 : Nat → Option (ST (std K))} {H0 : HF K} {recs : List (Rec (std K))} {tm tm' : Tm (std K)} {h h' : Heap (std K)} (g : Good E ops preds n n0 T0 H0 recs tm h)
    {o : Oper} {rc : Rec (std K)} (ho : ops[recs.length]? = some o) (hok : RecOK E ops n o rc (tAt allS 0 recs T0) (hAt allS 0 recs H0)) (hb : rc.base = h.n) (hn : h'.n = rc.h1.n)
    (hord : ordered rc (preds.getD recs.length []) 0 recs = true) (htm : ∀ t, look tm' t = if rc.dst = some t then some rc.v else look tm t) (hh : ∀ i, h'.get i = if touches rc i then rc.h1.get i else h.get i) :
    Good E ops preds n n0 T0 H0 (recs ++ [rc]) tm' h' := by
  have hget : ∀ k r, (recs ++ [rc])[k]? = some r → (k < recs.length ∧ recs[k]? = some r) ∨ (k = recs.length ∧ r = rc) := fun k r hk => by
    rcases Nat.lt_trichotomy k recs.length with hl | hl | hl
    · exact .inl ⟨hl, by rwa [List.getElem?_append_left hl] at hk⟩
    · subst hl; simp at hk; exact .inr ⟨rfl, hk.symm⟩
    · rw [List.getElem?_eq_none (by simp; omega)] at hk; cases hk
  have htake : ∀ k, k ≤ recs.length → (recs ++ [rc]).take k = recs.take k := fun k hk => by rw [List.take_append_of_le_length hk]
  refine ⟨fun t => ?_, fun i => ?_, fun k r hk => ?_, fun j k q r hjk hq hr hc => ?_, fun j k q r hjk hq hr => ?_, fun k r hk => ?_, ?_⟩
  · rw [htm, tAt_append]
    simp only [tAt, updT, allS, if_true]
    split
    · exact .inl rfl
    · exact g.tmE t
  · rw [hh, hAt_append]; simp [hAt, updH, g.hE]
  · rcases hget k r hk with ⟨h1, h2⟩ | ⟨rfl, rfl⟩
    · rw [htake k (by omega)]; exact g.ok k r h2
    · rw [htake _ (Nat.le_refl _), List.take_length]; exact ⟨o, ho, hok⟩
  · rcases hget k r hr with ⟨h1, h2⟩ | ⟨rfl, rfl⟩
    · rcases hget j q hq with ⟨h3, h4⟩ | ⟨rfl, rfl⟩
      · exact g.ord j k q r hjk h4 h2 hc
      · omega
    · rcases hget j q hq with ⟨h3, h4⟩ | ⟨h3, rfl⟩
      · have := ordered_ok hord j q h4 hc; rwa [Nat.zero_add] at this
      · omega
  · rcases hget k r hr with ⟨h1, h2⟩ | ⟨rfl, rfl⟩
    · rcases hget j q hq with ⟨h3, h4⟩ | ⟨rfl, rfl⟩
      · exact g.apart j k q r hjk h4 h2
      · omega
    · rcases hget j q hq with ⟨h3, h4⟩ | ⟨h3, rfl⟩
      · rw [hb]; exact (g.low j q h4).2
      · omega
  · have hmon := hok.mon
    rcases hget k r hk with ⟨h1, h2⟩ | ⟨rfl, rfl⟩
    · have := g.low k r h2; omega
    · have := g.size; omega
  · have hmon := hok.mon
    have := g.size; omega

theorem runDraw_ok {E : Env (std K)} (hA : ArOK E.A) {call : FuncId → List (ST (std K)) → Heap (std K) → Res (std K)} (hcall : CallOK E call) {n n0 : Nat} {ops : Array Oper} {preds : List (List Nat)} {T0 : Nat → Option (ST (std K))} {H0 : HF K}
    {tm' : Tm (std K)} {h' : Heap (std K)} {recs' : List (Rec (std K))} : ∀ (todo : List Oper) (i : Nat) (tm : Tm (std K)) (h : Heap (std K)) (recs : List (Rec (std K))),
    (runDraw E call n ops preds todo i tm h recs).eval = some (tm', h', recs') → recs.length = i → ops.toList.drop i = todo → Good E ops preds n n0 T0 H0 recs tm h → Good E ops preds n n0 T0 H0 recs' tm' h' ∧ recs'.length = i + todo.length
  | [], i, tm, h, recs, hh, hi, _, g => by
    simp [runDraw, Out.eval] at hh
    obtain ⟨rfl, rfl, rfl⟩ := hh
    exact ⟨g, by simp [hi]⟩
  | o :: r, i, tm, h, recs, hh, hi, htodo, g => by
    have ho : ops[i]? = some o := by
      have : ops.toList[i]? = some o := by
        have h1 : (ops.toList.drop i)[0]? = some o := by rw [htodo]; rfl
        rwa [List.getElem?_drop, Nat.add_zero] at h1
      simpa using this
    have hr : ops.toList.drop (i + 1) = r := by
      have h1 : (ops.toList.drop i).drop 1 = r := by rw [htodo]; rfl
      rwa [List.drop_drop] at h1
    simp only [runDraw] at hh
    obtain ⟨⟨gd, gt, tmq⟩, h1, h2⟩ := eval_bind_some hh
    obtain ⟨hsame, hguard⟩ := guardD_ok h1
    have g0 := g
    replace g : Good E ops preds n n0 T0 H0 recs tmq h := ⟨fun t => (hsame t).trans (g0.tmE t), g0.hE, g0.ok, g0.ord, g0.apart, g0.low, g0.size⟩
    have back : ∀ {σ : Sg} {a : Act} {rd : List Nat}, Holds σ rd (tAt allS 0 recs T0) a → ∀ t v, t ∈ rd → look tmq t = some v → ∃ x, v.den σ = some x ∧ a.tmps[t]? = some x := fun {σ a rd} hh t v ht hv => by
      obtain ⟨v', h5, h6, _⟩ := (g.tmE t).get hv
      rw [← h6]; exact hh t v' ht h5
    have back0 : ∀ {σ : Sg} {a : Act} {rd : List Nat}, Holds σ rd (tAt allS 0 recs T0) a → ∀ t v, t ∈ rd → look tm t = some v → ∃ x, v.den σ = some x ∧ a.tmps[t]? = some x := fun {σ a rd} hh t v ht hv => by
      obtain ⟨v', h5, h6, _⟩ := (g0.tmE t).get hv
      rw [← h6]; exact hh t v' ht h5
    cases gd with
    | true =>
      simp only [if_true] at h2
      split at h2
      · rename_i hchk
        simp only [Bool.and_eq_true] at hchk
        obtain ⟨⟨⟨hc1, hc2⟩, hc3⟩, hc4⟩ := hchk
        obtain ⟨⟨v, h3⟩, h4, h5⟩ := eval_bind_some h2
        simp only at h5
        split at h5
        · rename_i hchk2
          simp only [Bool.and_eq_true, Nat.ble_eq] at hchk2
          obtain ⟨hmon, hord⟩ := hchk2
          obtain ⟨tm2, h6, h7⟩ := eval_bind_some h5
          obtain ⟨hlook, hslot⟩ := putT_look h6
          generalize hu : usesOf (opnd E tmq) h o.op = u at *
          generalize hrd : catL gt (opTmps o.op) = rd at *
          have huu : ∀ j, j ∈ u → j < h.n := fun j hj => by have := allB_mem hc1 j hj; simpa [Nat.blt_eq] using this
          have hgetr : ∀ j, (⟨h.n, restrictL u h.l⟩ : Heap (std K)).get j = if j ∈ u then h.get j else none := fun j => by
            show look (restrictL u h.l) j = _
            rw [look_restrictL]
            by_cases hj : j ∈ u
            · simp [memN_iff.2 hj, hj, Heap.get]
            · have : memN j u = false := Bool.eq_false_iff.2 fun hm => hj (memN_iff.1 hm)
              simp [this, hj]
          have hpart : (⟨h.n, restrictL u h.l⟩ : Heap (std K)).get = part' (hAt allS 0 recs H0) (· ∈ u) := by
            funext j; rw [hgetr, part', g.hE]
          have hmemgt : ∀ t, t ∈ gt → t ∈ rd := fun t ht => by
            rw [← hrd]
            have : ∀ (a b : List Nat) t, t ∈ a → t ∈ catL a b := fun a b t => by
              induction a with
              | nil => simp
              | cons k a ih => simp only [catL, List.mem_cons]; rintro (h | h); exact .inl h; exact .inr (ih h)
            exact this _ _ t ht
          have hnw : wrOf o.op = false → ∀ j, j ∈ u → h3.get j = hAt allS 0 recs H0 j := fun hw j hj => by
            rw [step_nowr hw h4 j (huu j hj), hgetr, if_pos hj, g.hE]
          have hok : RecOK E ops n o ⟨o.dst, rd, v, u, wrOf o.op, h.n, h3⟩ (tAt allS 0 recs T0) (hAt allS 0 recs H0) := by
            refine ⟨rfl, hslot, hmon, huu, .inr ⟨?_, ?_, ?_, ?_, hnw, ?_⟩⟩
            · intro σ a hh
              exact hguard fun t v ht hv => back0 hh t v (hmemgt t ht) hv
            · intro j e hj he
              have h8 : (⟨h.n, restrictL u h.l⟩ : Heap (std K)).get j = some e := by rw [hgetr, if_pos hj, g.hE]; exact he
              exact allB_mem hc4 (j, e) (look_mem h8)
            · intro t v ht hv
              obtain ⟨v', h5', _, h7'⟩ := (g.tmE t).symm.get hv
              rw [← h7']
              exact allB_mem hc3 (t, v') (restrictT_look ht h5')
            · intro gg j hj
              have := allB_mem hc2 (gg, j) (look_mem hj)
              simpa [Nat.blt_eq] using this
            · intro σ F a w hrep hG hh next Q hnx
              have hT : TRep σ (restrictT tmq rd) a := fun t v hl => by
                obtain ⟨h8, h9⟩ := look_restrictT hl
                exact back hh t v h8 h9
              have hrep' : HRep σ F (⟨h.n, restrictL u h.l⟩ : Heap (std K)).n (⟨h.n, restrictL u h.l⟩ : Heap (std K)).get w := by rw [hpart]; exact hrep
              refine step_ok hA hcall hrep' hG (opnd_den hG hT) h4 next Q ?_
              intro σ' F' w' x hp hv
              rw [hpart] at hp
              exact hnx σ' F' w' x hp hv
          have hg2 := g.snoc (tm' := tm2) (h' := mergeH h u h3) (by rw [hi]; exact ho) hok rfl rfl (by rw [hi]; exact hord) hlook (fun j => by
            rw [mergeH_get]
            simp only [inU, touches]
            by_cases hj : memN j u = true
            · have hlt := huu j (memN_iff.1 hj)
              have hble : Nat.ble h.n j = false := Bool.eq_false_iff.2 fun hb => by have := Nat.le_of_ble_eq_true hb; omega
              cases hw : wrOf o.op with
              | true => simp [hj]
              | false => simp [hj, hble, hnw hw j (memN_iff.1 hj), g.hE]
            · simp [hj])
          obtain ⟨g3, h8⟩ := runDraw_ok hA hcall r (i + 1) tm2 (mergeH h u h3) _ h7 (by simp [hi]) hr hg2
          exact ⟨g3, by rw [h8]; simp; omega⟩
        · simp [Out.eval] at h5
      · simp [Out.eval] at h2
    | false =>
      simp only [Bool.false_eq_true, if_false] at h2
      split at h2
      · rename_i hord
        obtain ⟨tm2, h6, h7⟩ := eval_bind_some h2
        obtain ⟨hlook, hslot⟩ := putT_look h6
        have hok : RecOK E ops n o ⟨o.dst, gt, undefS, [], false, h.n, ⟨h.n, []⟩⟩ (tAt allS 0 recs T0) (hAt allS 0 recs H0) := by
          refine ⟨rfl, hslot, Nat.le_refl _, by simp, .inl ⟨?_, rfl, rfl, rfl⟩⟩
          intro σ a hh
          exact hguard fun t v ht hv => back0 hh t v ht hv
        have hg2 := g.snoc (tm' := tm2) (h' := h) (by rw [hi]; exact ho) hok rfl rfl (by rw [hi]; exact hord) hlook (fun j => by
          have : touches (⟨o.dst, gt, undefS, [], false, h.n, ⟨h.n, []⟩⟩ : Rec (std K)) j = false := by
            simp only [touches, Bool.false_and, Bool.false_or]
            apply Bool.eq_false_iff.2
            intro hb
            simp [Nat.ble_eq, Nat.blt_eq] at hb
            omega
          simp [this])
        obtain ⟨g3, h8⟩ := runDraw_ok hA hcall r (i + 1) tm2 h _ h7 (by simp [hi]) hr hg2
        exact ⟨g3, by rw [h8]; simp; omega⟩
      · simp [Out.eval] at h2

end
end Go.Vse
