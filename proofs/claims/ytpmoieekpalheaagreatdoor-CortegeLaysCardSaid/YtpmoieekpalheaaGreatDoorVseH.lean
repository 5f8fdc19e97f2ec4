/- The symbolic executor is sound: one operation. -/
import Derived.Test.YtpmoieekpalheaaGreatDoorVseG
namespace Go.Vse
open Go

section
variable {K : Kit} {P : Program}

def denA (σ : Sg) : List (ST (std K)) → Option (List Value)
  | [] => some []
  | c :: r => match c.den σ, denA σ r with
    | some v, some vs => some (v :: vs)
    | _, _ => none

theorem denA_cons {σ : Sg} {c : ST (std K)} {r : List (ST (std K))} {vs : List Value} : denA σ (c :: r) = some vs ↔ ∃ v ws, c.den σ = some v ∧ denA σ r = some ws ∧ vs = v :: ws := by
  simp only [denA]
  cases c.den σ <;> cases denA σ r <;> simp [eq_comm]

theorem denA_append {σ : Sg} : ∀ {l r : List (ST (std K))} {vs ws : List Value}, denA σ l = some vs → denA σ r = some ws → denA σ (l ++ r) = some (vs ++ ws)
  | [], r, vs, ws, h1, h2 => by simp [denA] at h1; subst h1; simpa using h2
  | c :: l, r, vs, ws, h1, h2 => by
    obtain ⟨v, us, h3, h4, rfl⟩ := denA_cons.1 h1
    exact denA_cons.2 ⟨v, us ++ ws, h3, denA_append h4 h2, rfl⟩

theorem denA_get {σ : Sg} : ∀ {l : List (ST (std K))} {vs : List Value} {i : Nat} {c : ST (std K)}, denA σ l = some vs → l[i]? = some c → ∃ v, c.den σ = some v ∧ vs[i]? = some v
  | [], vs, i, c, h, hi => by simp at hi
  | d :: l, vs, 0, c, h, hi => by
    obtain ⟨v, us, h3, h4, rfl⟩ := denA_cons.1 h
    simp at hi; subst hi
    exact ⟨v, h3, rfl⟩
  | d :: l, vs, i + 1, c, h, hi => by
    obtain ⟨v, us, h3, h4, rfl⟩ := denA_cons.1 h
    simpa using denA_get h4 (by simpa using hi)

theorem denA_length {σ : Sg} : ∀ {l : List (ST (std K))} {vs : List Value}, denA σ l = some vs → vs.length = l.length
  | [], vs, hv => by simp [denA] at hv; simp [hv]
  | c :: r, vs, hv => by
    obtain ⟨v, ws, h1, h2, rfl⟩ := denA_cons.1 hv
    simp [denA_length h2]

theorem denA_mono {σ σ' : Sg} (h : Sg.le σ σ') : ∀ (l : List (ST (std K))) (vs : List Value), denA σ l = some vs → denA σ' l = some vs
  | [], vs, hv => hv
  | c :: r, vs, hv => by
    obtain ⟨v, ws, h1, h2, rfl⟩ := denA_cons.1 hv
    exact denA_cons.2 ⟨v, ws, ST.mono h c v h1, denA_mono h r ws h2, rfl⟩

theorem mapO_den {σ : Sg} {ρ : Operand → Option (ST (std K))} {a : Act} (hρ : ∀ x v, ρ x = some v → v.den σ = some (a.eval x)) : ∀ {l : List Operand} {vs : List (ST (std K))}, mapO ρ l = some vs → denA σ vs = some (l.map a.eval)
  | [], vs, h => by simp [mapO_nil, mapO_cons] at h; subst h; rfl
  | x :: l, vs, h => by
    simp only [mapO_nil, mapO_cons] at h
    split at h
    · rename_i b s h1 h2
      simp at h; subst h
      exact denA_cons.2 ⟨_, _, hρ x b h1, mapO_den hρ h2, rfl⟩
    · cases h

/-- A call of a function comes to a value and a heap. -/
def CallOK (E : Env (std K)) (call : FuncId → List (ST (std K)) → Heap (std K) → Res (std K)) : Prop :=
  ∀ f args (h h' : Heap (std K)) v, (call f args h).eval = some (v, h') → ∀ σ F w, GRep E σ → HRep σ F h.n h.get w → ∀ vals, denA σ args = some vals →
    Calls E.P f vals.toArray w fun e w' => ∃ σ' F' x, Post σ F h.n h.get w σ' F' h'.n h'.get w' ∧ e = .returned x ∧ v.den σ' = some x

theorem capsOf_ok {σ : Sg} : ∀ (g : SC (std K)) {acc l : List (ST (std K))} {f : FuncId} {v : Value} {us : List Value}, capsOf g acc = some (f, l) → g.den σ = some v → denA σ acc = some us →
    ∃ cv, v = .func (.func f) #[] cv ∧ denA σ l = some (cv.toList ++ us) := by
  intro g
  induction g with
  | fn f' => intro acc l f v us h hv hu; simp [capsOf] at h; obtain ⟨rfl, rfl⟩ := h; cases hv; exact ⟨#[], rfl, by simpa using hu⟩
  | cap g x ihg ihx =>
    intro acc l f v us h hv hu
    simp only [capsOf] at h
    simp only [SC.den] at hv
    split at hv
    · rename_i q first caps y hg hx
      obtain ⟨cv, h1, h2⟩ := ihg h hg (denA_cons.2 ⟨y, us, hx, hu, rfl⟩)
      cases h1
      simp at hv; subst hv
      exact ⟨caps.push y, rfl, by rw [h2]; simp⟩
    · cases hv
  | _ => intro acc l f v us h; simp [capsOf] at h

theorem capFn_ok {σ : Sg} : ∀ (cs : List (SC (std K))) {vs : List Value} {g : SC (std K)} {f : FuncId} {cv : Array Value}, denL σ cs = some vs → g.den σ = some (.func (.func f) #[] cv) → (cs.foldl .cap g).den σ = some (.func (.func f) #[] (cv ++ vs.toArray))
  | [], vs, g, f, cv, h, hg => by simp [denL] at h; subst h; simpa using hg
  | c :: cs, vs, g, f, cv, h, hg => by
    obtain ⟨v, us, h1, h2, rfl⟩ := denL_cons.1 h
    simp only [List.foldl_cons]
    rw [capFn_ok cs h2 (g := .cap g c) (f := f) (cv := cv.push v) (by simp [SC.den, hg, h1])]
    simp

theorem mapOnes_ok {σ : Sg} : ∀ {l : List (ST (std K))} {cs : List (SC (std K))} {vs : List Value}, mapOnes l = some cs → denA σ l = some vs → denL σ cs = some vs
  | [], cs, vs, h, hd => by simp [mapOnes] at h; subst h; simpa [denL, denA] using hd
  | .one c :: l, cs, vs, h, hd => by
    simp only [mapOnes] at h
    split at h
    · rename_i s hs
      simp at h; subst h
      obtain ⟨v, us, h1, h2, rfl⟩ := denA_cons.1 hd
      exact denL_cons.2 ⟨v, us, h1, mapOnes_ok hs h2, rfl⟩
    · cases h
  | .agg _ :: l, cs, vs, h, hd => by simp [mapOnes] at h
  | .tup _ :: l, cs, vs, h, hd => by simp [mapOnes] at h

theorem fieldT_run {T : TypeId} {f : Nat} {fd : Field} (h : fieldT P T f = some fd) : ∃ fs, P.underlying T = some (.struct fs) ∧ fs[f]? = some fd := by
  unfold fieldT at h
  split at h
  · rename_i fs hu; exact ⟨fs, hu, h⟩
  · cases h

theorem asT_den {σ : Sg} {T : TypeId} {l : List (SC (std K))} {o : Nat} {v : ST (std K)} {vs : List Value} (h : asT P T l o = some v) (hl : denL σ l = some vs) (w : World) :
    ∃ x, (part T vs.toArray o).run P w = .ok x w ∧ v.den σ = some x := by
  rcases agg_of h with ⟨k, h1, h2, h3, rfl⟩ | ⟨c, h1, h2, rfl⟩
  · have := denL_length hl
    refine ⟨_, run_part h1 h2 (.inl rfl) (by omega) w, ?_⟩
    simp [ST.den, denL_take k (denL_drop o hl), asV]
  · obtain ⟨x, hx, hv⟩ := denL_get hl h2
    refine ⟨x, ?_, hx⟩
    unfold part
    rw [Sem.run_bind, aggT_run h1, Result.andThen_ok]
    simp [hv]

theorem inRange_ok {E : Env (std K)} (hA : ArOK E.A) {α : Type} {n m : Num (std K).I} {x : Out (std K) α} {r : α} (h : (inRange E n m x).eval = some r) : 0 ≤ n.den (K := K) ∧ n.den (K := K) < m.den (K := K) ∧ x.eval = some r := by
  unfold inRange at h
  rw [eval_branch] at h
  split at h
  · rename_i h1
    rw [eval_branch] at h
    split at h
    · rename_i h2
      rw [cmpN_den hA] at h1 h2
      exact ⟨of_decide_eq_true h1, of_decide_eq_true h2, h⟩
    · simp [Out.eval] at h
  · simp [Out.eval] at h

theorem denR_length {σ : Sg} : ∀ {l : List (List (SC (std K)))} {rows : List (List Value)}, denR σ l = some rows → rows.length = l.length
  | [], rows, h => by simp [denR] at h; simp [h]
  | r :: l, rows, h => by
    obtain ⟨v, us, h1, h2, rfl⟩ := denR_cons.1 h
    simp [denR_length h2]

theorem vecLen_ok {A : Ar (std K)} (hA : ArOK A) {σ : Sg} {c : Vec (std K)} {rows : List (List Value)} (h : c.den σ = some rows) : (vecLen A c).den (K := K) = (rows.length : Int) := by
  cases c with
  | lit l => simp [vecLen, Num.den, denR_length h]
  | opn v => simp [Vec.den] at h; simp [vecLen, Num.den, hA.vlen v, h]

theorem vec_block {σ F} {h : Heap (std K)} {w : World} (hr : HRep σ F h.n h.get w) {i : Nat} {T : TypeId} {sz : Nat} {c : Vec (std K)} (hi : h.get i = some (.vec T sz c) ∨ h.get i = some (.ro T sz c)) :
    ∃ L rows, σ i = some L ∧ c.den σ = some rows ∧ rows.length = L.len ∧ L.len ≤ L.cap := by
  rcases hi with hi | hi
  · obtain ⟨L, hL, pre, rows, rest, h1, h2, h3, h4, h5, h6, h9, h7, h8⟩ := hr.sat i _ hi
    exact ⟨L, rows, hL, h1, h3, h6⟩
  · obtain ⟨L, hL, pre, rows, rest, fr, h1, h2, h3, h4, h5, h6, h7⟩ := hr.sat i _ hi
    exact ⟨L, rows, hL, h1, h3, h5⟩

theorem indexAddrS_ok {E : Env (std K)} (hA : ArOK E.A) {h : Heap (std K)} {σ F} {w : World} (hr : HRep σ F h.n h.get w) {T : TypeId} {x ix v : ST (std K)} (hs : (indexAddrS E T x ix h).eval = some v) {vx vi : Value} (hx : x.den σ = some vx) (hi : ix.den σ = some vi) :
    ∃ r, (Instr.indexAt T vx vi).run E.P w = .ok r w ∧ v.den σ = some r := by
  unfold indexAddrS at hs
  split at hs
  · rename_i k n
    cases hi
    split at hs
    · rename_i len e i p o hu
      obtain ⟨ad, rfl⟩ := den_ptr hx
      have key : ∀ (j : Nat) (s : Nat), sizeT E.P e = some s → n.den (K := K) = (j : Int) → j < len → v = .one (.ptr i p (o + j * s)) →
          ∃ r, (Instr.indexAt T (.pointer (some ad)) (.int k (n.den (K := K)))).run E.P w = .ok r w ∧ v.den σ = some r := by
        rintro j s hsz hn hj rfl
        refine ⟨.pointer (some (ad.add (j * s))), ?_, ?_⟩
        · have h1 : (0 : Int) ≤ n.den (K := K) := by omega
          have h2 : n.den (K := K) < (len : Int) := by omega
          rw [hn] at h1 h2
          simp [Instr.indexAt, asIntOf, run_underlying hu, Instr.sureAddr, h1, sizeT_run hsz, hn, hj]
        · simp only [ST.den, SC.den] at hx ⊢
          split at hx
          · split at hx
            · rename_i L hL hp
              simp at hx; subst hx
              simp only [addr_add, hp, if_true]
              simp; omega
            · cases hx
          · cases hx
      split at hs
      · rename_i s kk hsz
        split at hs
        · rename_i hc
          simp [Out.eval] at hs
          exact key kk.toNat s hsz (by simp [Num.den]; omega) (by omega) hs.symm
        · simp [Out.eval] at hs
      · rename_i s vv hsz
        split at hs
        · obtain ⟨j, _, h2, h3, h4⟩ := among_ok hA _ _ hs
          simp [Out.eval] at h4
          exact key j s hsz h3 (by omega) h4.symm
        · simp [Out.eval] at hs
      · simp [Out.eval] at hs
    · rename_i e i m hu
      have key : ∀ s U c, sizeT E.P e = some s → (h.get i = some (.vec U s c) ∨ h.get i = some (.ro U s c)) → (inRange E n (m.getD (vecLen E.A c)) (.leaf (.one (.ptr i [(n, s)] 0)))).eval = some v →
          ∃ r, (Instr.indexAt T vx (.int k (n.den (K := K)))).run E.P w = .ok r w ∧ v.den σ = some r := by
        intro s U c hsz hi hs
        obtain ⟨L, rows, hL, hc, hlen, hcap⟩ := vec_block hr hi
        obtain ⟨h0, h1, h2⟩ := inRange_ok hA hs
        simp [Out.eval] at h2; subst h2
        obtain ⟨g, ml, hml, hmn, rfl⟩ : ∃ (g : Nat) (ml : Nat), ml ≤ L.len ∧ (m.getD (vecLen E.A c)).den (K := K) = (ml : Int) ∧ vx = .slice (some ⟨L.g, L.off, none⟩) ml L.cap := by
          simp only [ST.den, SC.den, hL] at hx
          cases m with
          | none => simp at hx; exact ⟨0, L.len, Nat.le_refl _, by simp [vecLen_ok hA hc, hlen], hx.symm⟩
          | some m =>
            simp only at hx
            split at hx
            · rename_i hm
              simp at hx
              exact ⟨0, (m.den (K := K)).toNat, by omega, by simp; omega, hx.symm⟩
            · cases hx
        rw [hmn] at h1
        refine ⟨.pointer (some ⟨L.g, L.off + (n.den (K := K)).toNat * s, none⟩), ?_, ?_⟩
        · simp [Instr.indexAt, asIntOf, run_underlying hu, h0, h1, sizeT_run hsz, addr_add]
        · have hp : pathOK (K := K) L [(n, s)] := ⟨h0, by omega⟩
          simp [ST.den, SC.den, hL, hp, pathOff]
      split at hs
      · rename_i s U s' c hsz hi
        split at hs
        · rename_i he; subst he; exact key _ U c hsz (.inl hi) hs
        · simp [Out.eval] at hs
      · rename_i s U s' c hsz hi
        split at hs
        · rename_i he; subst he; exact key _ U c hsz (.inr hi) hs
        · simp [Out.eval] at hs
      · rename_i s i' o s' len hsz hi
        split at hs
        case isFalse => simp [Out.eval] at hs
        rename_i he
        subst he
        have keyA : ∀ j : Nat, m = none → n.den (K := K) = (j : Int) → j < len → v = .one (.ptr i' [] (o + j * s)) →
            ∃ r, (Instr.indexAt T vx (.int k (n.den (K := K)))).run E.P w = .ok r w ∧ v.den σ = some r := by
          rintro j rfl hn hj rfl
          obtain ⟨L, hL, L₀, hL0, hg, hoff, hlen, hcap, _⟩ := hr.sat i _ hi
          simp only [ST.den, SC.den, hL, Option.some.injEq] at hx
          subst hx
          refine ⟨.pointer (some ⟨L.g, L.off + j * s, none⟩), ?_, ?_⟩
          · have h1 : (0 : Int) ≤ n.den (K := K) := by omega
            have h2 : n.den (K := K) < (L.len : Int) := by omega
            rw [hn] at h1 h2
            simp [Instr.indexAt, asIntOf, run_underlying hu, h1, h2, sizeT_run hsz, addr_add, hn]
            omega
          · simp [ST.den, SC.den, hL0, pathOK, pathOff, hg, hoff]
            omega
        split at hs
        · rename_i kk
          split at hs
          · rename_i hc
            simp [Out.eval] at hs
            exact keyA kk.toNat rfl (by simp [Num.den]; omega) (by omega) hs.symm
          · simp [Out.eval] at hs
        · rename_i vv
          obtain ⟨j, _, h2, h3, h4⟩ := among_ok hA _ _ hs
          simp [Out.eval] at h4
          exact keyA j rfl h3 (by omega) h4.symm
        · simp [Out.eval] at hs
      · simp [Out.eval] at hs
    · simp [Out.eval] at hs
  · simp [Out.eval] at hs

end
end Go.Vse
