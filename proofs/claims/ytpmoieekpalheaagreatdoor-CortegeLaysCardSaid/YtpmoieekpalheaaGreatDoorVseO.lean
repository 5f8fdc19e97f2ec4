/- The symbolic executor is sound: code, and calls. -/
import Derived.Test.YtpmoieekpalheaaGreatDoorVseN
import Derived.LoopN
import Derived.Scope
namespace Go.Vse
open Go

section
variable {K : Kit}

def Ex.to : Ex → Exit
  | .normal => .normal
  | .exit id => .exit id
  | .ret => .ret

/-- What is known behind code. -/
def Behind (σ : Sg) (F : Nat → Nat → Prop) (h : Heap (std K)) (w : World) (n : Nat) (ds : List Deferred) (ex : Ex) (tm' : Tm (std K)) (h' : Heap (std K)) (e : Exit) (a' : Act) (w' : World) : Prop :=
  e = ex.to ∧ ∃ σ' F', Post σ F h.n h.get w σ' F' h'.n h'.get w' ∧ TRep σ' tm' a' ∧ a'.tmps.size = n ∧ a'.defers = ds

theorem Behind.trans {σ F} {h : Heap (std K)} {w : World} {n : Nat} {ds : List Deferred} {h₁ : Heap (std K)} {σ₁ F₁} {w₁ : World} (hp : Post σ F h.n h.get w σ₁ F₁ h₁.n h₁.get w₁)
    {ex : Ex} {tm' : Tm (std K)} {h' : Heap (std K)} {e : Exit} {a' : Act} {w' : World} (hb : Behind σ₁ F₁ h₁ w₁ n ds ex tm' h' e a' w') : Behind σ F h w n ds ex tm' h' e a' w' := by
  obtain ⟨h1, σ', F', h2, h3⟩ := hb
  exact ⟨h1, σ', F', hp.trans h2, h3⟩

def RunOK (E : Env (std K)) (n : Nat) (c : Code) (f : Tm (std K) → Heap (std K) → Ran (std K)) : Prop :=
  ∀ tm h ex tm' h', (f tm h).eval = some (ex, tm', h') → ∀ σ F a w, HRep σ F h.n h.get w → GRep E σ → TRep σ tm a → a.tmps.size = n → c.wp E.P (Behind σ F h w n a.defers ex tm' h') a w

theorem loopS_ok {E : Env (std K)} {n : Nat} {c : Code} {f : Tm (std K) → Heap (std K) → Ran (std K)} (hf : RunOK E n c f) : ∀ (m : Nat) (tm : Tm (std K)) (h : Heap (std K)) ex tm' h', (loopS f m tm h).eval = some (ex, tm', h') →
    ∀ σ F a w, HRep σ F h.n h.get w → GRep E σ → TRep σ tm a → a.tmps.size = n → Code.rounds E.P c (Behind σ F h w n a.defers ex tm' h') m a w
  | 0, tm, h, ex, tm', h', hh, _, _, _, _, _, _, _, _ => by simp [loopS, Out.eval] at hh
  | m + 1, tm, h, ex, tm', h', hh, σ, F, a, w, hr, hG, ht, hn => by
    simp only [loopS] at hh
    obtain ⟨⟨ex1, tm1, h1⟩, h2, h3⟩ := eval_bind_some hh
    rw [rounds_succ]
    refine wp_mono (hf tm h ex1 tm1 h1 h2 σ F a w hr hG ht hn) ?_
    rintro e a' w' ⟨rfl, σ', F', hp, ht', hn', hd'⟩
    cases ex1 with
    | normal =>
      simp only [Ex.to, Exit.then]
      have ih := loopS_ok hf m tm1 h1 ex tm' h' h3 σ' F' a' w' hp.rep (hG.mono (hp.le hr)) ht' hn'
      rw [hd'] at ih
      clear h3
      revert ih
      have : ∀ (Q Q' : Exit → Act → World → Prop), (∀ e a w, Q e a w → Q' e a w) → ∀ m a w, Code.rounds E.P c Q m a w → Code.rounds E.P c Q' m a w := by
        intro Q Q' hQ m
        induction m with
        | zero => intro a w h; exact h
        | succ m ih =>
          intro a w h
          rw [rounds_succ] at h ⊢
          refine wp_mono h ?_
          intro e a w
          cases e <;> simp only [Exit.then] <;> first | exact ih a w | exact hQ _ a w
      exact this _ _ (fun e a'' w'' hb => hb.trans hp) m a' w'
    | exit id =>
      simp only [Out.eval, Option.some.injEq, Prod.mk.injEq] at h3
      obtain ⟨rfl, rfl, rfl⟩ := h3
      exact ⟨rfl, σ', F', hp, ht', hn', hd'⟩
    | ret =>
      simp only [Out.eval, Option.some.injEq, Prod.mk.injEq] at h3
      obtain ⟨rfl, rfl, rfl⟩ := h3
      exact ⟨rfl, σ', F', hp, ht', hn', hd'⟩

theorem leaf_eval {α : Type} {a b : α} (h : (Out.leaf (τ := std K) a).eval = some b) : b = a := by simpa [Out.eval] using h.symm

theorem exec_ok {E : Env (std K)} (hA : ArOK E.A) (hmix : E.P.follows .mixedOrders = true) {call : FuncId → List (ST (std K)) → Heap (std K) → Res (std K)} (hcall : CallOK E call) {n lf : Nat} {fid : FuncId} : ∀ (c : Code), (∀ l, l ∈ loopsOf c → ∀ sp, loopSp E fid l = some sp → RunOK E n (.loop l) sp) → RunOK E n c (execC E fid call n lf c) := by
  intro c
  induction c with
  | skip =>
    intro _ tm h ex tm' h' hh σ F a w hr hG ht hn
    have := leaf_eval hh; cases this
    exact wp_skip ⟨rfl, σ, F, .refl hr, ht, hn, rfl⟩
  | label l =>
    intro _ tm h ex tm' h' hh σ F a w hr hG ht hn
    have := leaf_eval hh; cases this
    exact wp_label ⟨rfl, σ, F, .refl hr, ht, hn, rfl⟩
  | ret =>
    intro _ tm h ex tm' h' hh σ F a w hr hG ht hn
    have := leaf_eval hh; cases this
    exact wp_ret ⟨rfl, σ, F, .refl hr, ht, hn, rfl⟩
  | exit id =>
    intro _ tm h ex tm' h' hh σ F a w hr hG ht hn
    have := leaf_eval hh; cases this
    exact wp_exit ⟨rfl, σ, F, .refl hr, ht, hn, rfl⟩
  | region id ops draw =>
    intro _ tm h ex tm' h' hh σ F a w hr hG ht hn
    cases draw with
    | false =>
      simp only [execC] at hh
      obtain ⟨⟨tm1, h1⟩, h2, h3⟩ := eval_bind_some hh
      have := leaf_eval h3; cases this
      refine wp_region ?_
      rw [← filterMap_range] at h2
      exact runOps_ok hA hcall (List.range ops.size) tm h h2 σ F a w hr hG ht hn fun σ' F' a' w' hp ht' hn' hd' => ⟨rfl, σ', F', hp, ht', hn', hd'⟩
    | true =>
      simp only [execC] at hh
      split at hh
      · rename_i htext
        obtain ⟨⟨tm1, h1, recs⟩, h2, h3⟩ := eval_bind_some hh
        have := leaf_eval h3; cases this
        exact draw_ok hA hmix hcall htext h2 hr hG ht hn fun σ' F' a' w' hp ht' hn' hd' => ⟨rfl, σ', F', hp, ht', hn', hd'⟩
      · simp [Out.eval] at hh
  | seq x y ihx ihy =>
    intro hL tm h ex tm' h' hh σ F a w hr hG ht hn
    simp only [execC] at hh
    obtain ⟨⟨ex1, tm1, h1⟩, h2, h3⟩ := eval_bind_some hh
    refine wp_seq (wp_mono (ihx (fun l hl => hL l (List.mem_append.2 (.inl hl))) tm h ex1 tm1 h1 h2 σ F a w hr hG ht hn) ?_)
    rintro e a' w' ⟨rfl, σ', F', hp, ht', hn', hd'⟩
    cases ex1 with
    | normal =>
      refine wp_mono (ihy (fun l hl => hL l (List.mem_append.2 (.inr hl))) tm1 h1 ex tm' h' h3 σ' F' a' w' hp.rep (hG.mono (hp.le hr)) ht' hn') ?_
      intro e a'' w'' hb
      rw [hd'] at hb
      exact hb.trans hp
    | exit id => have := leaf_eval h3; cases this; exact ⟨rfl, σ', F', hp, ht', hn', hd'⟩
    | ret => have := leaf_eval h3; cases this; exact ⟨rfl, σ', F', hp, ht', hn', hd'⟩
  | cond c x y ihx ihy =>
    intro hL tm h ex tm' h' hh σ F a w hr hG ht hn
    simp only [execC] at hh
    have hl : ∀ (b : Bool), a.eval c = .bool b → TRep σ (learn c b tm) a := fun b hb => by
      cases c with
      | tmp t =>
        intro t' v hv
        simp only [learn, look_nil, look_cons] at hv
        by_cases hk : Nat.beq t t' = true
        · have := Nat.eq_of_beq_eq_true hk; subst this
          simp only [hk, if_true, Option.some.injEq] at hv; subst hv
          refine ⟨.bool b, by simp [ST.den, SC.den, Bol.den], ?_⟩
          simp only [Act.eval] at hb
          cases h9 : a.tmps[t]? with
          | none => simp [Array.getD_eq_getD_getElem?, h9, undef] at hb
          | some z => simp [Array.getD_eq_getD_getElem?, h9] at hb; rw [hb]
        · simp only [hk, Bool.false_eq_true, if_false] at hv; exact ht t' v hv
      | _ => exact ht
    split at hh
    · rename_i b hb
      have hd := opnd_den hG ht c _ hb
      simp only [ST.den, SC.den, Option.some.injEq, Bol.den] at hd
      rw [eval_branch] at hh
      refine wp_cond hd.symm ?_
      cases b with
      | true => exact ihx (fun l hl => hL l (List.mem_append.2 (.inl hl))) tm h ex tm' h' (by simpa [Bol.den] using hh) σ F a w hr hG ht hn
      | false => exact ihy (fun l hl => hL l (List.mem_append.2 (.inr hl))) tm h ex tm' h' (by simpa [Bol.den] using hh) σ F a w hr hG ht hn
    · rename_i b hb
      have hd := opnd_den hG ht c _ hb
      simp only [ST.den, SC.den, Option.some.injEq, Bol.den] at hd
      refine wp_cond hd.symm ?_
      cases b with
      | true => exact ihx (fun l hl => hL l (List.mem_append.2 (.inl hl))) _ h ex tm' h' (by simpa [Out.eval] using hh) σ F a w hr hG (hl true hd.symm) hn
      | false => exact ihy (fun l hl => hL l (List.mem_append.2 (.inr hl))) _ h ex tm' h' (by simpa [Out.eval] using hh) σ F a w hr hG (hl false hd.symm) hn
    · simp [Out.eval] at hh
  | block id c ih =>
    intro hL tm h ex tm' h' hh σ F a w hr hG ht hn
    simp only [execC] at hh
    obtain ⟨⟨ex1, tm1, h1⟩, h2, h3⟩ := eval_bind_some hh
    refine wp_block (wp_mono (ih hL tm h ex1 tm1 h1 h2 σ F a w hr hG ht hn) ?_)
    rintro e a' w' ⟨rfl, σ', F', hp, ht', hn', hd'⟩
    cases ex1 with
    | normal => have := leaf_eval h3; cases this; exact ⟨rfl, σ', F', hp, ht', hn', hd'⟩
    | exit k =>
      simp only [Ex.to, Exit.inBlock]
      simp only at h3
      by_cases hk : Nat.beq k id = true
      · have hke := Nat.eq_of_beq_eq_true hk
        rw [if_pos hk] at h3
        have := leaf_eval h3; cases this
        rw [if_pos hke]; exact ⟨rfl, σ', F', hp, ht', hn', hd'⟩
      · have hke : k ≠ id := fun e => hk (by subst e; exact Nat.beq_refl k)
        rw [if_neg hk] at h3
        have := leaf_eval h3; cases this
        rw [if_neg hke]; exact ⟨rfl, σ', F', hp, ht', hn', hd'⟩
    | ret => have := leaf_eval h3; cases this; exact ⟨rfl, σ', F', hp, ht', hn', hd'⟩
  | loop c ih =>
    intro hL tm h ex tm' h' hh σ F a w hr hG ht hn
    simp only [execC] at hh
    split at hh
    · rename_i sp hsp
      exact hL c (by simp [loopsOf]) sp hsp tm h ex tm' h' hh σ F a w hr hG ht hn
    · exact wp_loop_rounds lf (loopS_ok (ih (fun l hl => hL l (by simp [loopsOf, hl]))) lf tm h ex tm' h' hh σ F a w hr hG ht hn)
  | scope c ih =>
    intro hL tm h ex tm' h' hh σ F a w hr hG ht hn
    simp only [execC] at hh
    refine wp_scope_straight (wp_mono (ih hL tm h ex tm' h' hh σ F a w hr hG ht hn) ?_)
    intro e a' w' hb
    obtain ⟨rfl, h2⟩ := hb
    cases ex <;> exact ⟨rfl, h2⟩
  | rangeFunc f ps x y => intro _ tm h ex tm' h' hh; simp [execC, Out.eval] at hh
  | goto l => intro _ tm h ex tm' h' hh; simp [execC, Out.eval] at hh
  | refuse s => intro _ tm h ex tm' h' hh; simp [execC, Out.eval] at hh

theorem compS_den {σ : Sg} {v : ST (std K)} {c : Bool × List (SC (std K))} {x : Value} (h : compS v = some c) (hv : v.den σ = some x) : compDen σ c = some x := by
  cases v with
  | one s => simp [compS] at h; subst h; simp only [ST.den] at hv; simp [compDen, denL, hv]
  | agg l =>
    simp [compS] at h; subst h
    simp only [ST.den] at hv
    split at hv
    · rename_i vs hvs; simp [compDen, hvs]; simpa using hv
    · cases hv
  | tup l => simp [compS] at h

theorem mapO_comp {σ : Sg} : ∀ {l : List (ST (std K))} {cs : List (Bool × List (SC (std K)))} {vs : List Value}, mapO compS l = some cs → denA σ l = some vs → denT σ cs = some vs
  | [], cs, vs, h, hd => by simp [mapO_nil, mapO_cons] at h; subst h; simpa [denT, denA] using hd
  | v :: l, cs, vs, h, hd => by
    simp only [mapO_nil, mapO_cons] at h
    split at h
    · rename_i b s h1 h2
      simp at h; subst h
      obtain ⟨x, us, h3, h4, rfl⟩ := denA_cons.1 hd
      exact denT_cons.2 ⟨x, us, compS_den h1 h3, mapO_comp h2 h4, rfl⟩
    · cases h

theorem resS_ok {E : Env (std K)} (hA : ArOK E.A) {tm : Tm (std K)} {h : Heap (std K)} {σ F} {a : Act} {w : World} (hr : HRep σ F h.n h.get w) (ht : TRep σ tm a) {g : ResultVar → Sem Value} (hg1 : ∀ t, g (.tmp t) = pure (a.tmps.getD t undef)) (hg2 : ∀ ad t, g (.cell ad t) = (do loadVar t (← asAddr (a.tmps.getD ad undef)))) : ∀ (rs : List ResultVar) (l : List (ST (std K))), resS E tm h rs = some l →
    ∃ vs, denA σ l = some vs ∧ vs.length = rs.length ∧ (rs.mapM g).run E.P w = .ok vs w
  | [], l, hh => by simp [resS] at hh; subst hh; exact ⟨[], rfl, rfl, rfl⟩
  | .tmp t :: rs, l, hh => by
    simp only [resS] at hh
    split at hh
    · rename_i v s h1 h2
      simp at hh; subst hh
      obtain ⟨x, h3, h4⟩ := ht t v h1
      obtain ⟨vs, h5, h6, h7⟩ := resS_ok hA hr ht hg1 hg2 rs s h2
      refine ⟨x :: vs, denA_cons.2 ⟨x, vs, h3, h5, rfl⟩, by simp [h6], ?_⟩
      simp only [List.mapM_cons, hg1, Sem.run_bind, Sem.run_pure, Result.andThen_ok, h7]
      simp [Array.getD_eq_getD_getElem?, h4]
    · cases hh
  | .cell ad t :: rs, l, hh => by
    simp only [resS] at hh
    split at hh
    · rename_i p s h1 h2
      split at hh
      · rename_i v h8
        simp at hh; subst hh
        obtain ⟨x, h3, h4⟩ := ht ad p h1
        obtain ⟨y, h9, h10⟩ := loadS_ok hA hr h8 h3
        obtain ⟨vs, h5, h6, h7⟩ := resS_ok hA hr ht hg1 hg2 rs s h2
        refine ⟨y :: vs, denA_cons.2 ⟨y, vs, h10, h5, rfl⟩, by simp [h6], ?_⟩
        have hx : a.tmps.getD ad undef = x := by simp [Array.getD_eq_getD_getElem?, h4]
        have hl : (do loadVar t (← asAddr x) : Sem Value).run E.P w = .ok y w := by
          cases x with
          | pointer o => cases o with
            | none => simp [Instr.loadAt, Instr.sureAddr] at h9
            | some q => simpa [Instr.loadAt, Instr.sureAddr, asAddr] using h9
          | _ => simp [Instr.loadAt, Instr.sureAddr] at h9
        simp only [List.mapM_cons, hg2, Sem.run_bind, hx]
        simp only [Sem.run_bind] at hl
        rw [hl]
        simp only [Result.andThen_ok, h7, Sem.run_pure]
      · cases hh
    · cases hh

theorem result_ok {σ : Sg} {l : List (ST (std K))} {v : ST (std K)} {vs : List Value} (h : resultS l = some v) (hd : denA σ l = some vs) : v.den σ = some (if hs : vs.toArray.size = 1 then vs.toArray[0] else .tuple vs.toArray) := by
  unfold resultS at h
  split at h
  · rename_i u
    simp at h; subst h
    obtain ⟨x, us, h1, h2, rfl⟩ := denA_cons.1 hd
    simp [denA] at h2; subst h2
    simpa using h1
  · rename_i hne
    split at h
    · rename_i cs hcs
      simp at h; subst h
      have := mapO_comp hcs hd
      have hl := denA_length hd
      have hn : vs.length ≠ 1 := fun h1 => by
        rw [hl] at h1
        obtain ⟨x, rfl⟩ := List.length_eq_one_iff.1 h1
        exact hne x rfl
      simp [ST.den, this, hn]
    · cases h

theorem look_gcL {τ : Ty} (base : Nat) (keep : List Nat) (i : Nat) (e : Ent τ) : ∀ (l : List (Nat × Ent τ)), look (gcL base keep l) i = some e → look l i = some e
  | [], h => by simp [gcL_nil, gcL_cons, look_nil, look_cons] at h
  | (k, x) :: r, h => by
    simp only [gcL_nil, gcL_cons] at h
    by_cases hk : Nat.beq k i = true
    · have := Nat.eq_of_beq_eq_true hk; subst this
      split at h
      · simpa [look_nil, look_cons] using h
      · rename_i hc
        exfalso
        have : ∀ (l : List (Nat × Ent τ)), look (gcL base keep l) k ≠ some e := by
          intro l
          induction l with
          | nil => simp [gcL_nil, gcL_cons, look_nil, look_cons]
          | cons p l ih =>
            obtain ⟨k2, x2⟩ := p
            simp only [gcL_nil, gcL_cons]
            split
            · rename_i hc2
              simp only [look_nil, look_cons]
              by_cases hk2 : Nat.beq k2 k = true
              · have := Nat.eq_of_beq_eq_true hk2; subst this; exact absurd hc2 hc
              · simp only [hk2, Bool.false_eq_true, if_false]; exact ih
            · exact ih
        exact this r h
    · split at h
      · simp only [look_nil, look_cons, hk, Bool.false_eq_true, if_false] at h ⊢; exact look_gcL base keep i e r h
      · simp only [look_nil, look_cons, hk, Bool.false_eq_true, if_false]; exact look_gcL base keep i e r h

theorem Post.gc {σ F n} {H : HF K} {w σ' F'} {h' : Heap (std K)} {w'} (p : Post σ F n H w σ' F' h'.n h'.get w') (base : Nat) (keep : List Nat) : Post σ F n H w σ' F' h'.n (⟨h'.n, gcL base keep h'.l⟩ : Heap (std K)).get w' := by
  have hg : ∀ i e, (⟨h'.n, gcL base keep h'.l⟩ : Heap (std K)).get i = some e → h'.get i = some e := fun i e h => look_gcL base keep i e h'.l h
  exact ⟨p.ext, p.mon, p.rep.forget hg, p.keeps, fun i e b he hb => p.foots i e b (hg i e he) hb⟩

theorem numbered_look {a : Act} {σ : Sg} : ∀ (l : List (ST (std K))) (vs : List Value) (i : Nat), denA σ l = some vs → (∀ j x, vs[j]? = some x → a.tmps[i + j]? = some x) → TRep σ (numbered i l) a
  | [], vs, i, _, _ => fun t v h => by simp [numbered, look_nil, look_cons] at h
  | c :: l, vs, i, hd, ha => by
    obtain ⟨x, us, h1, h2, rfl⟩ := denA_cons.1 hd
    intro t v h
    simp only [numbered, look_nil, look_cons] at h
    by_cases hk : Nat.beq i t = true
    · have := Nat.eq_of_beq_eq_true hk; subst this
      simp at h; subst h
      exact ⟨x, h1, by simpa using ha 0 x rfl⟩
    · simp only [hk, Bool.false_eq_true, if_false] at h
      exact numbered_look l us (i + 1) h2 (fun j y hj => by have := ha (j + 1) y (by simpa using hj); rwa [show i + (j + 1) = i + 1 + j by omega] at this) t v h

/-- The summaries that are used are true. -/
def SpecOK (E : Env (std K)) : Prop := ∀ f sp, E.spec f = some sp → ∀ args (h h' : Heap (std K)) v, (sp args h).eval = some (v, h') → ∀ σ F w, GRep E σ → HRep σ F h.n h.get w → ∀ vals, denA σ args = some vals →
    Calls E.P f vals.toArray w fun e w' => ∃ σ' F' x, Post σ F h.n h.get w σ' F' h'.n h'.get w' ∧ e = .returned x ∧ v.den σ' = some x

/-- The summaries of loops that are used are true. -/
def LoopOK (E : Env (std K)) : Prop := ∀ f fn c, E.P.funcs[f]? = some fn → fn.body = some c → ∀ l, l ∈ loopsOf c → ∀ sp, loopSp E f l = some sp → RunOK E fn.ntmps (.loop l) sp

def readR (tmps : Array Value) : ResultVar → Sem Value
  | .tmp t => pure (tmps.getD t undef)
  | .cell ad t => do loadVar t (← asAddr (tmps.getD ad undef))

theorem results_eq (fn : Func) (tmps : Array Value) : results fn tmps = (do let vs ← fn.results.mapM (readR tmps); pure (if h : vs.size = 1 then vs[0] else .tuple vs)) := by
  unfold results
  congr 1

theorem callN_ok {E : Env (std K)} (hA : ArOK E.A) (hmix : E.P.follows .mixedOrders = true) (hS : SpecOK E) (hL : LoopOK E) {lf : Nat} : ∀ m, CallOK E (callN E lf m)
  | 0 => fun f args h h' v hh => by simp [callN, Out.eval] at hh
  | m + 1 => by
    intro f args h h' v hh σ F w hG hr vals hv
    simp only [callN] at hh
    split at hh
    · rename_i sp hsp
      exact hS f sp hsp args h h' v hh σ F w hG hr vals hv
    · split at hh
      · simp [Out.eval] at hh
      · rename_i fn hfn
        split at hh
        · simp [Out.eval] at hh
        · rename_i c hc
          split at hh
          case isFalse => simp [Out.eval] at hh
          rename_i hle
          have hle : args.length ≤ fn.ntmps := Nat.le_of_ble_eq_true hle
          obtain ⟨⟨ex, tm, h1⟩, h2, h3⟩ := eval_bind_some hh
          have hl := denA_length hv
          refine calls_of_wp hfn hc ?_
          have hn : (vals.toArray ++ Array.replicate (fn.ntmps - vals.toArray.size) undef).size = fn.ntmps := by simp [hl]; omega
          have ht : TRep σ (numbered 0 args) { tmps := vals.toArray ++ Array.replicate (fn.ntmps - vals.toArray.size) undef, defers := [] } := by
            refine numbered_look args vals 0 hv fun j x hj => ?_
            have hj' : j < vals.toArray.size := by have := (List.getElem?_eq_some_iff.1 hj).1; simpa using this
            simp only [Nat.zero_add]
            rw [Array.getElem?_append_left hj']
            simpa using hj
          refine wp_mono (exec_ok hA hmix (callN_ok hA hmix hS hL m) c (hL f fn c hfn hc) (numbered 0 args) h ex tm h1 h2 σ F _ w hr hG ht hn) ?_
          rintro e a' w' ⟨rfl, σ', F', hp, ht', hn', hd'⟩
          have fin : (finS E h args fn.results.toList tm h1).eval = some (v, h') →
              a'.defers = [] ∧ ∃ y, (results fn a'.tmps).run E.P w' = .ok y w' ∧ ∃ σ' F' x, Post σ F h.n h.get w σ' F' h'.n h'.get w' ∧ Ending.returned y = .returned x ∧ v.den σ' = some x := by
            intro h3
            unfold finS at h3
            refine ⟨hd', ?_⟩
            split at h3
            · simp [Out.eval] at h3
            · rename_i l hl
              split at h3
              · simp [Out.eval] at h3
              · rename_i u hu
                have := leaf_eval h3
                cases this
                obtain ⟨vs, h5, h6, h7⟩ := resS_ok hA hp.rep ht' (g := readR a'.tmps) (fun _ => rfl) (fun _ _ => rfl) _ _ hl
                refine ⟨_, ?_, σ', F', _, hp.gc _ _, rfl, result_ok hu h5⟩
                rw [results_eq, Sem.run_bind, Array.mapM_eq_mapM_toList]
                simp only [Sem.run_map]
                rw [h7]
                rfl
          cases ex with
          | normal => exact fin h3
          | exit id => simp [Out.eval] at h3
          | ret => exact fin h3

end
end Go.Vse
