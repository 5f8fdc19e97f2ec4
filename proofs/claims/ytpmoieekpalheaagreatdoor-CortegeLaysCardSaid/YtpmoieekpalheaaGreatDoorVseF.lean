/- The symbolic executor is sound: structs compared and laid. -/
import Derived.Test.YtpmoieekpalheaaGreatDoorVseE
namespace Go.Vse
open Go

section
variable {K : Kit} {P : Program}

/-- Cells as a value: of a struct or an array, or the one cell. -/
def asV (g : Bool) (vs : List Value) : Value := if g then .agg vs.toArray else vs.getD 0 undef

theorem run_part {T : TypeId} {g : Bool} {k o : Nat} {xs : List Value} (hg : aggT P T = some g) (hk : sizeT P T = some k) (h1 : g = true ∨ k = 1) (hl : o + k ≤ xs.length) (w : World) :
    (part T xs.toArray o).run P w = .ok (asV g ((xs.drop o).take k)) w := by
  unfold part
  rw [Sem.run_bind, aggT_run hg, Result.andThen_ok]
  cases g with
  | true =>
    simp only [if_true, Sem.run_bind, sizeT_run hk, Result.andThen_ok, Sem.run_pure, asV]
    congr 2
    simp
  | false =>
    have hk1 : k = 1 := by simpa using h1
    subst hk1
    have : xs.toArray[o]? = some (xs[o]'(by omega)) := by simp
    simp only [Bool.false_eq_true, if_false, this, asV, Sem.run_pure]
    congr 1
    rw [List.getD_eq_getElem?_getD, List.getElem?_take_of_lt (by omega), List.getElem?_drop]
    simp [List.getElem?_eq_getElem (show o < xs.length by omega)]

theorem eqFs_ok {E : Env (std K)} (hA : ArOK E.A) {σ : Sg} {w : World} {r : TypeId → List (SC (std K)) → List (SC (std K)) → Option (Bol (std K).B)} {D : Nat} {xs ys : List (SC (std K))} {vs us : List Value}
    (hx : denL σ xs = some vs) (hy : denL σ ys = some us)
    (hrec : ∀ T xs ys b vs us g, r T xs ys = some b → denL σ xs = some vs → denL σ ys = some us → aggT E.P T = some g → (Op.equalIn D T (asV g vs) (asV g us)).run E.P w = .ok (b.den (K := K)) w) :
    ∀ (fl : List Field) (b : Bol (std K).B), eqFs E r xs ys fl = some b → (Op.eqFields D vs.toArray us.toArray fl).run E.P w = .ok (b.den (K := K)) w
  | [], b, hb => by simp [eqFs] at hb; subst hb; simp [Op.eqFields, Bol.den]
  | f :: fl, b, hb => by
    simp only [eqFs] at hb
    split at hb
    · rename_i k gf hk hgf
      split at hb
      · rename_i hc
        obtain ⟨hn, h1, h2, h3⟩ := hc
        split at hb
        · rename_i a c ha hc
          simp at hb; subst hb
          have hxl := denL_length hx
          have hyl := denL_length hy
          have h4 := hrec f.type _ _ a _ _ gf ha (denL_take k (denL_drop f.offset hx)) (denL_take k (denL_drop f.offset hy)) hgf
          have ih := eqFs_ok hA hx hy hrec fl c hc
          simp only [Op.eqFields, hn, ne_eq, not_false_eq_true, if_true, Sem.run_bind, run_part hgf hk h3 (show f.offset + k ≤ vs.length by omega), run_part hgf hk h3 (show f.offset + k ≤ us.length by omega), Result.andThen_ok, h4, andB_den hA]
          cases a.den (K := K) with
          | true => simpa using ih
          | false => simp
        · cases hb
      · cases hb
    · cases hb

theorem eqOne_ok {E : Env (std K)} (hA : ArOK E.A) {h : Heap (std K)} {σ F} {w : World} (hr : HRep σ F h.n h.get w) {T : TypeId} {xs ys : List (SC (std K))} {b : Bol (std K).B} {vs us : List Value}
    (hb : eqOne E h T xs ys = some b) (hx : denL σ xs = some vs) (hy : denL σ ys = some us) (D : Nat) (hD : 0 < D) : (Op.equalIn (D + 1) T (asV false vs) (asV false us)).run E.P w = .ok (b.den (K := K)) w := by
  rcases xs with _ | ⟨x, _ | ⟨x2, xs⟩⟩ <;> rcases ys with _ | ⟨y, _ | ⟨y2, ys⟩⟩ <;> first | (cases hb; done) | skip
  obtain ⟨v, _, hv, h0, rfl⟩ := denL_cons.1 hx
  obtain ⟨u, _, hu', h0', rfl⟩ := denL_cons.1 hy
  simp [denL] at h0 h0'; subst h0 h0'
  simpa [asV] using eqC_ok hA hr hb hv hu' D hD

theorem eqT_ok {E : Env (std K)} (hA : ArOK E.A) {h : Heap (std K)} {σ F} {w : World} (hr : HRep σ F h.n h.get w) : ∀ (d : Nat) (D : Nat), d ≤ D → ∀ (T : TypeId) (xs ys : List (SC (std K))) (b : Bol (std K).B) (vs us : List Value) (g : Bool),
    eqT E h d T xs ys = some b → denL σ xs = some vs → denL σ ys = some us → aggT E.P T = some g → (Op.equalIn (D + 1) T (asV g vs) (asV g us)).run E.P w = .ok (b.den (K := K)) w
  | 0, _, _, _, _, _, _, _, _, _, h, _, _, _ => by simp [eqT] at h
  | d + 1, D, hD, T, xs, ys, b, vs, us, g, hb, hx, hy, hg => by
    simp only [eqT] at hb
    unfold aggT at hg
    split at hb
    · rename_i fields hu
      rw [hu] at hg
      have hgt : g = true := by cases g <;> simp_all
      subst hgt
      split at hb
      · cases hb
      · rename_i hst
        have hst' : E.P.stoodInHeld T = false := by simpa using hst
        have hf : E.P.underlying T = some (.struct (E.P.fieldsOf T)) := by simp [Program.fieldsOf, hu]
        simp only [asV, if_true]
        rw [run_equalIn_struct w D T vs.toArray us.toArray hf hst']
        have : E.P.fieldsOf T = fields := by simp [Program.fieldsOf, hu]
        rw [this]
        obtain ⟨D', rfl⟩ : ∃ D', D = D' + 1 := ⟨D - 1, by omega⟩
        exact eqFs_ok hA hx hy (eqT_ok hA hr d D' (by omega)) _ b hb
    · cases hb
    · rename_i desc h1 h2 hu
      rw [hu] at hg
      have hgf : g = false := by
        cases desc <;> first | exact absurd rfl (h1 _) | exact absurd rfl (h2 _ _) | (cases g <;> simp_all)
      subst hgf
      exact eqOne_ok hA hr hb hx hy D (by omega)
    · cases hb

theorem eqGuard_agg {op : BinOp} {T : TypeId} {xo yo : Operand} {a b : Array Value} {w : World} (h : P.eqGuardType P.depth T = false) : (eqGuard op T xo yo (.agg a) (.agg b)).run P w = .ok () w := by
  cases op <;> simp [eqGuard, h]

theorem eqGuard_const {op : BinOp} {T : TypeId} {xo yo : Operand} {w : World} (h : (isConstO xo || isConstO yo) = true) : (eqGuard op T xo yo .nilIface .nilIface).run P w = .ok () w := by
  rcases Bool.or_eq_true_iff.1 h with h | h
  · cases xo <;> simp [isConstO] at h
    cases op <;> simp [eqGuard]
  · cases yo <;> simp [isConstO] at h
    cases op <;> simp [eqGuard]

theorem eqGuard_else {op : BinOp} {T : TypeId} {xo yo : Operand} {a b : Value} {w : World} (h1 : a.oneCell' = true) (h2 : a = .nilIface → b ≠ .nilIface) : (eqGuard op T xo yo a b).run P w = .ok () w := by
  cases a with
  | agg cs => simp [Value.oneCell'] at h1
  | nilIface =>
    cases b with
    | nilIface => exact absurd rfl (h2 rfl)
    | _ => cases op <;> simp [eqGuard]
  | _ => cases op <;> simp [eqGuard]

theorem den_nif {σ : Sg} {x : SC (std K)} (h : x.den σ = some .nilIface) : x = .nif := by
  cases x with
  | nif => rfl
  | ptr i p o => obtain ⟨a, h⟩ := den_ptr h; cases h
  | slc i n => obtain ⟨_, _, _, h⟩ := den_slc h; cases h
  | eslc i => obtain ⟨_, h⟩ := den_eslc h; cases h
  | mp i => obtain ⟨_, _, h⟩ := den_mp h; cases h
  | ifc t v => obtain ⟨_, _, h⟩ := den_ifc h; cases h
  | cap f x =>
    simp only [SC.den] at h
    split at h <;> simp at h
  | _ => simp [SC.den] at h

theorem eqS_ok {E : Env (std K)} (hA : ArOK E.A) {h : Heap (std K)} {σ F} {w : World} (hr : HRep σ F h.n h.get w) {T : TypeId} {xo yo : Operand} {x y : ST (std K)} {b : Bol (std K).B} (hb : eqS E h T xo yo x y = some b)
    {vx vy : Value} (hx : x.den σ = some vx) (hy : y.den σ = some vy) (op : BinOp) :
    (eqGuard op T xo yo vx vy).run E.P w = .ok () w ∧ (Op.equal T vx vy).run E.P w = .ok (b.den (K := K)) w := by
  unfold eqS at hb
  split at hb
  · rename_i xs ys
    split at hb
    · cases hb
    · rename_i hgd
      have hgd' : E.P.eqGuardType E.P.depth T = false := by simpa using hgd
      split at hb
      · rename_i fs hu
        simp only [ST.den] at hx hy
        split at hx
        · rename_i vs hvs
          split at hy
          · rename_i us hus
            simp at hx hy; subst hx hy
            refine ⟨eqGuard_agg hgd', ?_⟩
            have hg : aggT E.P T = some true := by simp [aggT, hu]
            have := eqT_ok hA hr 20 9999 (by omega) _ _ _ _ _ _ _ hb hvs hus hg
            simpa only [Op.equal, Op.maxDepth, asV, if_true] using this
          · cases hy
        · cases hx
      · cases hb
  · split at hb
    · rename_i hc
      cases hx; cases hy
      exact ⟨eqGuard_const hc, eqC_ok hA hr hb rfl rfl 9999 (by omega)⟩
    · cases hb
  · rename_i x y hne
    refine ⟨eqGuard_else (SC.one x _ hx).1 ?_, eqC_ok hA hr hb hx hy 9999 (by omega)⟩
    rintro rfl rfl
    have h1 := den_nif hx
    have h2 := den_nif hy
    subst h1 h2
    exact hne rfl rfl
  · cases hb

theorem binOp_eql {T : TypeId} {vx vy : Value} {b : Bool} {w : World} (h : (Op.equal T vx vy).run P w = .ok b w) (hi : ∀ k a k' c, ¬ (vx = .int k a ∧ vy = .int k' c)) (hs : ∀ a c, ¬ (vx = .string a ∧ vy = .string c)) (hf : ∀ k a k' c, ¬ (vx = .float k a ∧ vy = .float k' c)) (hc : ∀ k a c k' a' c', ¬ (vx = .complex k a c ∧ vy = .complex k' a' c')) :
    (binOp .eql T vx vy).run P w = .ok (.bool b) w ∧ (binOp .neq T vx vy).run P w = .ok (.bool (!b)) w := by
  constructor
  all_goals
    unfold binOp
    split <;> first | exact absurd ⟨rfl, rfl⟩ (hi _ _ _ _) | exact absurd ⟨rfl, rfl⟩ (hs _ _) | exact absurd ⟨rfl, rfl⟩ (hf _ _ _ _) | exact absurd ⟨rfl, rfl⟩ (hc _ _ _ _ _ _) | (simp [h]; done) | (simp at *; done)

end
end Go.Vse
