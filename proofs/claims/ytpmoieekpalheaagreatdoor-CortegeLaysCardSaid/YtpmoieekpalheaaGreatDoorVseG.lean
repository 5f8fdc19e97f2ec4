/- The symbolic executor is sound: arithmetic, struct literals, the small operations. -/
import Derived.Test.YtpmoieekpalheaaGreatDoorVseF
namespace Go.Vse
open Go

section
variable {K : Kit} {P : Program}

theorem SC.kind {σ : Sg} (c : SC (std K)) (v : Value) (h : c.den σ = some v) :
    (∀ k a, v = .int k a → ∃ n, c = .int k n ∧ a = n.den (K := K)) ∧ (∀ s, v = .string s → ∃ n, c = .str n) ∧ (∀ k a, v ≠ .float k a) ∧ (∀ k a b, v ≠ .complex k a b) ∧ (∀ b, v = .bool b → ∃ n, c = .bool n) := by
  cases c with
  | ptr i p o => obtain ⟨a, rfl⟩ := den_ptr h; simp
  | slc i n => obtain ⟨_, _, _, rfl⟩ := den_slc h; simp
  | eslc i => obtain ⟨_, rfl⟩ := den_eslc h; simp
  | mp i => obtain ⟨_, _, rfl⟩ := den_mp h; simp
  | ifc t v => obtain ⟨_, _, rfl⟩ := den_ifc h; simp
  | cap f x =>
    simp only [SC.den] at h
    split at h
    · simp at h; subst h; simp
    · cases h
  | int k n => cases h; refine ⟨fun k a h => ?_, by simp, by simp, by simp, by simp⟩; cases h; exact ⟨n, rfl, rfl⟩
  | str s => cases h; refine ⟨by simp, fun k h => ?_, by simp, by simp, by simp⟩; exact ⟨s, rfl⟩
  | bool b => cases h; refine ⟨by simp, by simp, by simp, by simp, fun k h => ?_⟩; exact ⟨b, rfl⟩
  | _ => cases h; simp

theorem ST.not_one {σ : Sg} {x : ST (std K)} {v : Value} (h : x.den σ = some v) (hv : v.oneCell' = true) : ∃ c, x = .one c := by
  cases x with
  | one c => exact ⟨c, rfl⟩
  | agg l => simp only [ST.den] at h; split at h <;> simp at h; subst h; simp [Value.oneCell'] at hv
  | tup l => simp only [ST.den] at h; split at h <;> simp at h; subst h; simp [Value.oneCell'] at hv

theorem among_ok {E : Env (std K)} (hA : ArOK E.A) {α : Type} {v : Int} {f : Nat → Out (std K) α} {r : α} : ∀ (m i : Nat), (among E v f i m).eval = some r → ∃ j, i ≤ j ∧ j < i + m ∧ v = (j : Int) ∧ (f j).eval = some r
  | 0, i, h => by simp [among, Out.eval] at h
  | m + 1, i, h => by
    simp only [among, Out.eval] at h
    split at h
    · rename_i hc
      have : v = (i : Int) := by
        have h1 := hA.cmp .eql v (E.A.int i)
        have h2 := hA.int i
        rw [hc] at h1
        rw [h2] at h1
        simpa [cmpZ] using h1.symm
      exact ⟨i, Nat.le_refl _, by omega, this, h⟩
    · obtain ⟨j, h1, h2, h3, h4⟩ := among_ok hA m (i + 1) h
      exact ⟨j, by omega, by omega, h3, h4⟩

theorem splitR_ok {E : Env (std K)} (hA : ArOK E.A) {op : BinOp} {k : IntKind} {xo : Operand} {b n : Num (std K).I} {v : ST (std K)} (h : (splitR E op k xo b n).eval = some v) (σ : Sg) : v.den σ = some (.int k (n.den (K := K))) := by
  unfold splitR at h
  split at h
  · split at h
    · rename_i u _
      split at h
      · rename_i j _
        simp only [Out.eval] at h
        split at h
        · rename_i hc
          have h3 : u = (j : Int) := by
            have h1 := hA.cmp .eql u (E.A.int j)
            have h2 := hA.int j
            rw [hc] at h1
            rw [h2] at h1
            simpa [cmpZ] using h1.symm
          simp [Out.eval] at h; subst h
          simp [ST.den, SC.den, Num.den, h3]
        · simp at h
      · obtain ⟨j, _, _, h3, h4⟩ := among_ok hA _ _ h
        simp [Out.eval] at h4; subst h4
        simp [ST.den, SC.den, Num.den, h3]
    · simp [Out.eval] at h; subst h; rfl
  · simp [Out.eval] at h; subst h; rfl

theorem binS_ok {E : Env (std K)} (hA : ArOK E.A) {h : Heap (std K)} {σ F} {w : World} (hr : HRep σ F h.n h.get w) {op : BinOp} {T : TypeId} {xo yo : Operand} {x y v : ST (std K)} (hb : (binS E h op T xo yo x y).eval = some v)
    {vx vy : Value} (hx : x.den σ = some vx) (hy : y.den σ = some vy) :
    ∃ r, (eqGuard op T xo yo vx vy).run E.P w = .ok () w ∧ (binOp op T vx vy).run E.P w = .ok r w ∧ v.den σ = some r := by
  unfold binS at hb
  split at hb
  · rename_i k a k' b
    cases hx; cases hy
    split at hb
    · rename_i hk
      subst hk
      have hgd : (eqGuard op T xo yo (.int k (a.den (K := K))) (.int k (b.den (K := K)))).run E.P w = .ok () w := eqGuard_else rfl (by simp)
      split at hb
      · rename_i hc
        simp [Out.eval] at hb; subst hb
        refine ⟨_, hgd, ?_, rfl⟩
        rw [cmpN_den hA]
        cases op <;> simp [isCmp] at hc <;> simp [binOp, Op.intCmp, cmpZ]
      · split at hb
        · rename_i hc
          simp [Out.eval] at hb; subst hb
          refine ⟨_, hgd, ?_, rfl⟩
          rw [arithN_den hA]
          cases op <;> simp [isArith] at hc <;> simp [binOp, Op.intArith, Op.intBits, arithZ]
        · split at hb
          · rename_i hc
            rw [eval_branch] at hb
            split at hb
            · simp [Out.eval] at hb
            · rename_i hz
              rw [cmpN_den hA] at hz
              have hz' : b.den (K := K) ≠ 0 := by simpa [cmpZ, Num.den] using hz
              refine ⟨_, hgd, ?_, splitR_ok hA hb σ⟩
              rw [arithN_den hA]
              cases op <;> simp [isDiv] at hc <;> simp [binOp, Op.intDiv, arithZ, hz']
          · simp [Out.eval] at hb
    · simp [Out.eval] at hb
  · rename_i a b
    cases hx; cases hy
    split at hb
    · simp [Out.eval] at hb; subst hb
      refine ⟨_, eqGuard_else rfl (by simp), ?_, rfl⟩
      rw [eqSS_den hA]; simp [binOp, Op.stringOp]
    · simp [Out.eval] at hb; subst hb
      refine ⟨_, eqGuard_else rfl (by simp), ?_, rfl⟩
      rw [notB_den hA, eqSS_den hA]; simp [binOp, Op.stringOp]
    · simp [Out.eval] at hb
  · rename_i x y hni hns
    have hi : ∀ k a k' c, ¬ (vx = .int k a ∧ vy = .int k' c) := by
      rintro k a k' c ⟨rfl, rfl⟩
      obtain ⟨cx, rfl⟩ := ST.not_one hx rfl
      obtain ⟨cy, rfl⟩ := ST.not_one hy rfl
      obtain ⟨n, rfl, _⟩ := (SC.kind cx _ hx).1 k a rfl
      obtain ⟨m, rfl, _⟩ := (SC.kind cy _ hy).1 k' c rfl
      exact hni _ _ _ _ rfl rfl
    have hs : ∀ a c, ¬ (vx = .string a ∧ vy = .string c) := by
      rintro a c ⟨rfl, rfl⟩
      obtain ⟨cx, rfl⟩ := ST.not_one hx rfl
      obtain ⟨cy, rfl⟩ := ST.not_one hy rfl
      obtain ⟨n, rfl⟩ := (SC.kind cx _ hx).2.1 a rfl
      obtain ⟨m, rfl⟩ := (SC.kind cy _ hy).2.1 c rfl
      exact hns _ _ rfl rfl
    have hf : ∀ k a k' c, ¬ (vx = .float k a ∧ vy = .float k' c) := by
      rintro k a k' c ⟨rfl, rfl⟩
      obtain ⟨cx, rfl⟩ := ST.not_one hx rfl
      exact (SC.kind cx _ hx).2.2.1 k a rfl
    have hc : ∀ k a c k' a' c', ¬ (vx = .complex k a c ∧ vy = .complex k' a' c') := by
      rintro k a c k' a' c' ⟨rfl, rfl⟩
      obtain ⟨cx, rfl⟩ := ST.not_one hx rfl
      exact (SC.kind cx _ hx).2.2.2.1 k a c rfl
    split at hb
    · split at hb
      · rename_i b he
        simp [Out.eval] at hb; subst hb
        obtain ⟨h1, h2⟩ := eqS_ok hA hr he hx hy .eql
        exact ⟨_, h1, (binOp_eql h2 hi hs hf hc).1, rfl⟩
      · simp [Out.eval] at hb
    · split at hb
      · rename_i b he
        simp [Out.eval] at hb; subst hb
        obtain ⟨h1, h2⟩ := eqS_ok hA hr he hx hy .neq
        exact ⟨_, h1, (binOp_eql h2 hi hs hf hc).2, by simp [boolS, ST.den, SC.den, notB_den hA]⟩
      · simp [Out.eval] at hb
    · simp [Out.eval] at hb

theorem partsS_ok {σ : Sg} {ρ : Operand → Option (ST (std K))} {a : Act} (hρ : ∀ x v, ρ x = some v → v.den σ = some (a.eval x)) : ∀ {l : List (Nat × Operand)} {ps : List (Nat × ST (std K))}, partsS ρ l = some ps →
    (ps.map (·.1)) = l.map (·.1) ∧ ∀ (i : Nat) (p : Nat × ST (std K)) (q : Nat × Operand), ps[i]? = some p → l[i]? = some q → p.2.den σ = some (a.eval q.2)
  | [], ps, h => by simp [partsS] at h; subst h; simp
  | (i, x) :: l, ps, h => by
    simp only [partsS] at h
    split at h
    · rename_i v s h1 h2
      simp at h; subst h
      obtain ⟨h3, h4⟩ := partsS_ok hρ h2
      refine ⟨by simp [h3], fun j p q hp hq => ?_⟩
      cases j with
      | zero => simp at hp hq; subst hp hq; exact hρ x v h1
      | succ j => exact h4 j p q (by simpa using hp) (by simpa using hq)
    · cases h

theorem foldl_zip (o : Nat) : ∀ (vs : List Value) (j : Nat) (cs : Array Value), o + j + vs.length ≤ cs.size →
    (vs.zipIdx j).foldl (fun (cs : Array Value) (c : Value × Nat) => cs.setIfInBounds (o + c.2) c.1) cs = (cs.toList.take (o + j) ++ (vs ++ cs.toList.drop (o + j + vs.length))).toArray
  | [], j, cs, h => by simp
  | v :: vs, j, cs, h => by
    simp at h
    simp only [List.zipIdx_cons, List.foldl_cons]
    rw [foldl_zip o vs (j + 1) _ (by simp; omega)]
    apply Array.ext'
    simp only [Array.toList_setIfInBounds]
    apply List.ext_getElem?
    intro k
    simp only [List.getElem?_append, List.length_take, List.length_set, Array.length_toList, List.getElem?_take, List.getElem?_drop, List.length_cons]
    by_cases hk : k < o + j
    · simp [hk, show k < o + (j + 1) by omega, show min (o + (j + 1)) cs.size = o + (j + 1) by omega, show min (o + j) cs.size = o + j by omega, show o + j ≠ k by omega]
    · by_cases hk2 : k = o + j
      · subst hk2
        rw [show min (o + (j + 1)) cs.size = o + (j + 1) by omega, show min (o + j) cs.size = o + j by omega]
        have h3 : o + j < cs.toList.length := by simp; omega
        simp [show o + j < o + (j + 1) by omega, List.getElem?_set_self h3]
      · rw [show min (o + (j + 1)) cs.size = o + (j + 1) by omega, show min (o + j) cs.size = o + j by omega]
        simp only [hk, if_false, show ¬ k < o + (j + 1) by omega]
        rw [show k - (o + j) = (k - (o + (j + 1))) + 1 by omega]
        by_cases hr : k - (o + (j + 1)) < vs.length
        · simp [hr]
        · simp only [hr, if_false, show ¬ (k - (o + (j + 1)) + 1 < vs.length + 1) by omega]
          rw [List.getElem?_set_ne (by omega)]
          congr 1
          omega

theorem fillS_ok {σ : Sg} {place : Nat → Option (Nat × Nat)} : ∀ {ps : List (Nat × ST (std K))} {l l' : List (SC (std K))} {qs : List (Nat × Value)} {vs : List Value}, fillS place l ps = some l' → denL σ l = some vs →
    ps.map (·.1) = qs.map (·.1) → (∀ (i : Nat) (p : Nat × ST (std K)) (q : Nat × Value), ps[i]? = some p → qs[i]? = some q → p.2.den σ = some q.2) → ∃ vs', Instr.fill place vs.toArray qs = some vs'.toArray ∧ denL σ l' = some vs'
  | [], l, l', qs, vs, h, hl, hm, _ => by
    simp [fillS] at h; subst h
    have : qs = [] := by simpa using hm.symm
    subst this
    exact ⟨vs, rfl, hl⟩
  | (i, x) :: ps, l, l', qs, vs, h, hl, hm, hd => by
    cases qs with
    | nil => simp at hm
    | cons q qs =>
      obtain ⟨qi, qv⟩ := q
      simp at hm
      obtain ⟨rfl, hm⟩ := hm
      simp only [fillS] at h
      split at h
      · rename_i o k v hp hv
        split at h
        · rename_i hc
          obtain ⟨hvk, hlen⟩ := hc
          rw [stCells_eq] at hv
          have hden := hd 0 (i, x) (i, qv) rfl rfl
          obtain ⟨xs, hxs, hxc⟩ := ST.cells_den hden hv
          have hxl := denL_length hxs
          have hll := denL_length hl
          obtain ⟨vs', h1, h2⟩ := fillS_ok (qs := qs) h (putL_den hl hxs) hm (fun j p q hp hq => hd (j + 1) p q (by simpa using hp) (by simpa using hq))
          refine ⟨vs', ?_, h2⟩
          have hc : qv.cells = xs.toArray := hxc
          simp only [Instr.fill, hp, hc, List.size_toArray, hxl, hvk]
          rw [if_neg (by simp; omega)]
          rw [← h1]
          congr 1
          have := foldl_zip o xs 0 vs.toArray (by simp; omega)
          simp only [Nat.add_zero] at this
          rw [← this]
          rw [← Array.foldl_toList]
          simp
        · cases h
      · cases h

theorem buildS_ok {E : Env (std K)} {σ : Sg} {T : TypeId} {ps : List (Nat × ST (std K))} {v : ST (std K)} (hb : buildS E T ps = some v) {qs : List (Nat × Value)} (hm : ps.map (·.1) = qs.map (·.1))
    (hd : ∀ (i : Nat) (p : Nat × ST (std K)) (q : Nat × Value), ps[i]? = some p → qs[i]? = some q → p.2.den σ = some q.2) (w : World) : ∃ x, (Instr.build T qs.toArray).run E.P w = .ok x w ∧ v.den σ = some x := by
  unfold buildS at hb
  cases hz : zeroT (τ := std K) E.P T with
  | none => simp [hz] at hb
  | some z =>
    unfold zeroT at hz
    cases hi : E.P.info? T with
    | none => simp [hi] at hz
    | some it =>
      simp only [hi] at hz
      cases hzz : it.zero with
      | none => simp [hzz] at hz
      | some zv =>
        simp only [hzz] at hz
        have hzd := mapO_constSC (K := K) (σ := σ) hz
        have hz' : zeroT (τ := std K) E.P T = some z := by simp [zeroT, hi, hzz, hz]
        cases hu : E.P.underlying T with
        | none => simp [hz', hu] at hb
        | some d =>
          cases d with
          | struct fields =>
            simp only [hz', hu] at hb
            split at hb
            · rename_i places hp
              split at hb
              · rename_i l hf
                simp at hb; subst hb
                obtain ⟨vs', h1, h2⟩ := fillS_ok hf hzd hm hd
                refine ⟨_, run_build w T qs.toArray vs'.toArray ?_, by simp [ST.den, h2]⟩
                simp only [Program.built, hi, hu, hzz, hp]
                simpa using h1
              · cases hb
            · cases hb
          | array n e =>
            simp only [hz', hu] at hb
            split at hb
            · rename_i s hs
              split at hb
              · rename_i l hf
                simp at hb; subst hb
                obtain ⟨vs', h1, h2⟩ := fillS_ok hf hzd hm hd
                refine ⟨_, run_build w T qs.toArray vs'.toArray ?_, by simp [ST.den, h2]⟩
                unfold sizeT at hs
                cases hie : E.P.info? e with
                | none => simp [hie] at hs
                | some ie =>
                  simp [hie] at hs
                  simp only [Program.built, hi, hu, hzz, hie, hs]
                  simpa using h1
              · cases hb
            · cases hb
          | _ => simp [hz', hu] at hb

end
end Go.Vse
