/- The symbolic executor is sound: comparisons, struct literals. -/
import Derived.Test.YtpmoieekpalheaaGreatDoorVseD
namespace Go.Vse
open Go

section
variable {K : Kit} {P : Program}

theorem run_sameAddr_cells {g g' o o' : Nat} {v v' : Value} {vs vs' : List Value} {T T' : TypeId} {w : World}
    (h : w.heap[g]? = some (.cells (v :: vs).toArray T (0, 0))) (h' : w.heap[g']? = some (.cells (v' :: vs').toArray T' (0, 0))) :
    (sameAddr ⟨g, o, none⟩ ⟨g', o', none⟩).run P w = .ok (Nat.beq g g' && Nat.beq o o') w := by
  have hf : ∀ k, w.frozen? ⟨g, k, none⟩ = false := fun k => by simp [World.frozen?, h]
  have hf' : ∀ k, w.frozen? ⟨g', k, none⟩ = false := fun k => by simp [World.frozen?, h']
  have hs : w.shape? g = some (T, vs.length + 1) := by simp [World.shape?, h]
  have hs' : w.shape? g' = some (T', vs'.length + 1) := by simp [World.shape?, h']
  unfold sameAddr
  by_cases he : g = g'
  · subst he
    have hb : Nat.beq g g = true := Nat.beq_refl g
    simp only [BEq.rfl, if_true, hb, Bool.true_and]
    simp only [Sem.run_pure]
    congr 1
    by_cases ho : o = o'
    · subst ho; simp
    · have : Nat.beq o o' = false := Bool.eq_false_iff.2 fun hb => ho (Nat.eq_of_beq_eq_true hb)
      rw [this]
      rw [beq_eq_false_iff_ne]
      intro hh; injection hh; omega
  · have hb : Nat.beq g g' = false := Bool.eq_false_iff.2 fun hb => he (Nat.eq_of_beq_eq_true hb)
    have hb' : (g == g') = false := by simpa using he
    simp [hb, hb', hf, hf', noView, viewAt, hs, hs', mayBeOne, stringish]

/-- Two places of the heap are two blocks. -/
theorem two_blocks {σ F} {h : Heap (std K)} {w : World} (hr : HRep σ F h.n h.get w) {i j : Nat} {l l' : List (SC (std K))} {U U' : TypeId}
    (hi : h.get i = some (.cells l U) ∨ h.get i = some (.ccells l U)) (hj : h.get j = some (.cells l' U') ∨ h.get j = some (.ccells l' U')) (hn : i ≠ j)
    {L M : Loc} (hL : σ i = some L) (hM : σ j = some M) : L.g ≠ M.g := by
  obtain ⟨L', vs, h1, _, _, _, hF⟩ := cells_block hr hi
  obtain ⟨M', vs', h2, _, _, _, hF'⟩ := cells_block hr hj
  rw [hL] at h1; cases h1
  rw [hM] at h2; cases h2
  intro he
  rcases hi with hi | hi <;> rcases hj with hj | hj <;> exact hr.apart i j _ _ hn hi hj rfl L.g ((hF _).2 rfl) ((hF' _).2 he)

theorem ptr_eq {σ F} {h : Heap (std K)} {w : World} (hr : HRep σ F h.n h.get w) {i j o o' : Nat} {c c' : SC (std K)} {l l' : List (SC (std K))} {U U' : TypeId}
    (hi : h.get i = some (.cells (c :: l) U) ∨ h.get i = some (.ccells (c :: l) U)) (hj : h.get j = some (.cells (c' :: l') U') ∨ h.get j = some (.ccells (c' :: l') U'))
    {x y : Value} (hx : (SC.ptr (τ := std K) i [] o).den σ = some x) (hy : (SC.ptr (τ := std K) j [] o').den σ = some y) :
    ∃ a b, x = .pointer (some a) ∧ y = .pointer (some b) ∧ (sameAddr a b).run P w = .ok (Nat.beq i j && Nat.beq o o') w := by
  obtain ⟨L, vs, hL, ho, hv, hb, _⟩ := cells_block hr hi
  obtain ⟨M, vs', hM, ho', hv', hb', _⟩ := cells_block hr hj
  obtain ⟨v, ws, _, _, rfl⟩ := denL_cons.1 hv
  obtain ⟨v', ws', _, _, rfl⟩ := denL_cons.1 hv'
  simp [SC.den, hL, ho, pathOff, pathOK] at hx
  simp [SC.den, hM, ho', pathOff, pathOK] at hy
  subst hx hy
  refine ⟨_, _, rfl, rfl, ?_⟩
  rw [run_sameAddr_cells hb hb']
  congr 2
  by_cases he : i = j
  · subst he; rw [hL] at hM; cases hM; simp
  · have := two_blocks hr hi hj he hL hM
    rw [Bool.eq_false_iff.2 fun hb => he (Nat.eq_of_beq_eq_true hb), Bool.eq_false_iff.2 fun hb => this (Nat.eq_of_beq_eq_true hb)]

theorem ptr_cases {E : Env (std K)} {h : Heap (std K)} {e : TypeId} {i j o o' : Nat} {b : Bol (std K).B}
    (hh : ptrEqS E h e i j o o' = some b) :
    ∃ k, sizeT E.P e = some (k + 1) ∧ b = .lit (Nat.beq i j && Nat.beq o o') ∧ (i = j ∨ ∃ c l U c' l' U', (h.get i = some (.cells (c :: l) U) ∨ h.get i = some (.ccells (c :: l) U)) ∧ (h.get j = some (.cells (c' :: l') U') ∨ h.get j = some (.ccells (c' :: l') U'))) := by
  have hne : ∀ (e e' : Ent (std K)), h.get i = some e → h.get j = some e' → e ≠ e' → Nat.beq i j = false := fun e e' h1 h2 h3 =>
    Bool.eq_false_iff.2 fun hb => h3 (by have := Nat.eq_of_beq_eq_true hb; subst this; rw [h1] at h2; exact Option.some.inj h2)
  unfold ptrEqS at hh
  split at hh
  · rename_i hb
    split at hh
    · rename_i k h1; simp at hh; exact ⟨k, h1, by rw [hb, ← hh]; simp, .inl (Nat.eq_of_beq_eq_true hb)⟩
    · simp at hh
  · split at hh
    · rename_i k c l U c' l' U' h1 h2 h3; simp at hh; exact ⟨k, h1, by simp [← hh], .inr ⟨c, l, U, c', l', U', .inl h2, .inl h3⟩⟩
    · rename_i k c l U c' l' U' h1 h2 h3; simp at hh; exact ⟨k, h1, by simp [← hh], .inr ⟨c, l, U, c', l', U', .inr h2, .inr h3⟩⟩
    · rename_i k c l U c' l' U' h1 h2 h3; simp at hh; exact ⟨k, h1, by rw [← hh, hne _ _ h2 h3 (by simp)]; rfl, .inr ⟨c, l, U, c', l', U', .inl h2, .inr h3⟩⟩
    · rename_i k c l U c' l' U' h1 h2 h3; simp at hh; exact ⟨k, h1, by rw [← hh, hne _ _ h2 h3 (by simp)]; rfl, .inr ⟨c, l, U, c', l', U', .inr h2, .inl h3⟩⟩
    · simp at hh

theorem ptr_same {σ : Sg} {i o o' : Nat} {w : World} {x y : Value} (hx : (SC.ptr (τ := std K) i [] o).den σ = some x) (hy : (SC.ptr (τ := std K) i [] o').den σ = some y) :
    ∃ a b, x = .pointer (some a) ∧ y = .pointer (some b) ∧ (sameAddr a b).run P w = .ok (Nat.beq o o') w := by
  cases hL : σ i with
  | none => simp [SC.den, hL] at hx
  | some L =>
    simp [SC.den, hL, pathOff, pathOK] at hx hy
    subst hx hy
    refine ⟨_, _, rfl, rfl, ?_⟩
    unfold sameAddr
    simp only [BEq.rfl, if_true, Sem.run_pure]
    congr 1
    by_cases ho : o = o'
    · subst ho; simp
    · have : Nat.beq o o' = false := Bool.eq_false_iff.2 fun hb => ho (Nat.eq_of_beq_eq_true hb)
      rw [this, beq_eq_false_iff_ne]
      intro hh; injection hh; omega

section
variable (d : Nat) (w : World) {T : TypeId}
theorem eqI_int {k' k : IntKind} {a b : Int} (hu : P.underlying T = some (.int k')) : (Op.equalIn (d + 1) T (.int k a) (.int k b)).run P w = .ok (a == b) w := by
  simp only [Op.equalIn, Sem.run_bind, run_underlying hu, Result.andThen_ok, if_true, Sem.run_pure]
theorem eqI_bool {a b : Bool} (hu : P.underlying T = some .bool) : (Op.equalIn (d + 1) T (.bool a) (.bool b)).run P w = .ok (a == b) w := by
  simp only [Op.equalIn, Sem.run_bind, run_underlying hu, Result.andThen_ok, Sem.run_pure]
theorem eqI_string {a b : ByteArray} (hu : P.underlying T = some .string) : (Op.equalIn (d + 1) T (.string a) (.string b)).run P w = .ok (a == b) w := by
  simp only [Op.equalIn, Sem.run_bind, run_underlying hu, Result.andThen_ok, Sem.run_pure]
theorem eqI_nilp {e : TypeId} {b : Option Addr} (hu : P.underlying T = some (.pointer e)) : (Op.equalIn (d + 1) T (.pointer none) (.pointer b)).run P w = .ok b.isNone w := by
  simp only [Op.equalIn, Sem.run_bind, run_underlying hu, Result.andThen_ok, Sem.run_pure]
theorem eqI_pnil {e : TypeId} {a : Addr} (hu : P.underlying T = some (.pointer e)) : (Op.equalIn (d + 1) T (.pointer (some a)) (.pointer none)).run P w = .ok false w := by
  simp only [Op.equalIn, Sem.run_bind, run_underlying hu, Result.andThen_ok, Sem.run_pure]
theorem eqI_pp {e k : Nat} {a b : Addr} {r : Bool} (hu : P.underlying T = some (.pointer e)) (hs : sizeT P e = some (k + 1)) (h : (sameAddr a b).run P w = .ok r w) : (Op.equalIn (d + 1) T (.pointer (some a)) (.pointer (some b))).run P w = .ok r w := by
  simp only [Op.equalIn, Sem.run_bind, run_underlying hu, Result.andThen_ok, sizeT_run hs, ne_eq, Nat.succ_ne_zero, not_false_eq_true, if_true, h]
theorem eqI_nn {ms} (hu : P.underlying T = some (.interface ms)) : (Op.equalIn (d + 1) T .nilIface .nilIface).run P w = .ok true w := by
  simp only [Op.equalIn, Sem.run_bind, run_underlying hu, Result.andThen_ok, Sem.run_pure]
theorem eqI_ni {ms t v} (hu : P.underlying T = some (.interface ms)) : (Op.equalIn (d + 1) T .nilIface (.iface t v)).run P w = .ok false w := by
  simp only [Op.equalIn, Sem.run_bind, run_underlying hu, Result.andThen_ok, Sem.run_pure]
theorem eqI_in {ms t v} (hu : P.underlying T = some (.interface ms)) : (Op.equalIn (d + 1) T (.iface t v) .nilIface).run P w = .ok false w := by
  simp only [Op.equalIn, Sem.run_bind, run_underlying hu, Result.andThen_ok, Sem.run_pure]
theorem eqI_ne {ms t u v x} (hu : P.underlying T = some (.interface ms)) (h : t ≠ u) : (Op.equalIn (d + 1) T (.iface t v) (.iface u x)).run P w = .ok false w := by
  simp only [Op.equalIn, Sem.run_bind, run_underlying hu, Result.andThen_ok, ne_eq, h, not_false_eq_true, if_true, Sem.run_pure]
theorem eqI_ii {ms t v x i r} (hu : P.underlying T = some (.interface ms)) (hi : P.info? t = some i) (hc : i.comparable = true) (h : (Op.equalIn d t v x).run P w = .ok r w) : (Op.equalIn (d + 1) T (.iface t v) (.iface t x)).run P w = .ok r w := by
  have ht : (typeInfo t).run P w = .ok i w := by simp [typeInfo, hi]
  simp only [Op.equalIn, Sem.run_bind, run_underlying hu, Result.andThen_ok, ne_eq, not_true_eq_false, if_false, ht, hc, Bool.not_true, Bool.false_eq_true, h]
theorem eqI_sn {e n c b n' c'} (hu : P.underlying T = some (.slice e)) : (Op.equalIn (d + 1) T (.slice none n c) (.slice b n' c')).run P w = .ok b.isNone w := by
  simp only [Op.equalIn, Sem.run_bind, run_underlying hu, Result.andThen_ok, Sem.run_pure]
theorem eqI_ns {e n c b n' c'} (hu : P.underlying T = some (.slice e)) : (Op.equalIn (d + 1) T (.slice (some b) n c) (.slice none n' c')).run P w = .ok false w := by
  simp only [Op.equalIn, Sem.run_bind, run_underlying hu, Result.andThen_ok, Sem.run_pure]
theorem eqI_ff {a b c} (hu : P.underlying T = some (.func a b c)) : (Op.equalIn (d + 1) T .nilFunc .nilFunc).run P w = .ok true w := by
  simp only [Op.equalIn, Sem.run_bind, run_underlying hu, Result.andThen_ok, Sem.run_pure]
theorem eqI_fn {a b c q x y} (hu : P.underlying T = some (.func a b c)) : (Op.equalIn (d + 1) T .nilFunc (.func q x y)).run P w = .ok false w := by
  simp only [Op.equalIn, Sem.run_bind, run_underlying hu, Result.andThen_ok, Sem.run_pure]
theorem eqI_nf {a b c q x y} (hu : P.underlying T = some (.func a b c)) : (Op.equalIn (d + 1) T (.func q x y) .nilFunc).run P w = .ok false w := by
  simp only [Op.equalIn, Sem.run_bind, run_underlying hu, Result.andThen_ok, Sem.run_pure]
end

theorem den_ptr {σ : Sg} {i : Nat} {p : List (Num (std K).I × Nat)} {o : Nat} {v : Value} (h : (SC.ptr (τ := std K) i p o).den σ = some v) : ∃ a, v = .pointer (some a) := by
  simp only [SC.den] at h
  split at h
  · split at h
    · simp at h; exact ⟨_, h.symm⟩
    · simp at h
  · simp at h

theorem den_slc {σ : Sg} {i : Nat} {p : Option (Num (std K).I)} {v : Value} (h : (SC.slc (τ := std K) i p).den σ = some v) : ∃ a n c, v = .slice (some a) n c := by
  simp only [SC.den] at h
  split at h
  · split at h
    · simp at h; exact ⟨_, _, _, h.symm⟩
    · split at h
      · simp at h; exact ⟨_, _, _, h.symm⟩
      · simp at h
  · simp at h

theorem den_eslc {σ : Sg} {i : Nat} {v : Value} (h : (SC.eslc (τ := std K) i).den σ = some v) : ∃ a, v = .slice (some a) 0 0 := by
  simp only [SC.den] at h
  split at h
  · simp at h; exact ⟨_, h.symm⟩
  · simp at h

theorem den_mp {σ : Sg} {i : Nat} {v : Value} (h : (SC.mp (τ := std K) i).den σ = some v) : ∃ L, σ i = some L ∧ v = .map (some L.g) := by
  simp only [SC.den] at h
  split at h
  · rename_i L hL; simp at h; exact ⟨L, hL, h.symm⟩
  · simp at h

theorem den_ifc {σ : Sg} {t : TypeId} {c : SC (std K)} {v : Value} (h : (SC.ifc t c).den σ = some v) : ∃ x, c.den σ = some x ∧ v = .iface t x := by
  simp only [SC.den] at h
  split at h
  · rename_i x hx; simp at h; exact ⟨x, hx, h.symm⟩
  · simp at h

theorem eqC_ok {E : Env (std K)} (hA : ArOK E.A) {h : Heap (std K)} {σ F} {w : World} (hr : HRep σ F h.n h.get w) {T : TypeId} {x y : SC (std K)} {b : Bol (std K).B} (hb : eqC E h T x y = some b)
    {vx vy : Value} (hx : x.den σ = some vx) (hy : y.den σ = some vy) (d : Nat) (hd : 0 < d) : (Op.equalIn (d + 1) T vx vy).run E.P w = .ok (b.den (K := K)) w := by
  have hptr : ∀ (e : TypeId) (i j o o' : Nat) (t : TypeId), E.P.underlying t = some (.pointer e) → ∀ vx vy, (SC.ptr (τ := std K) i [] o).den σ = some vx → (SC.ptr (τ := std K) j [] o').den σ = some vy →
      ptrEqS E h e i j o o' = some b → ∀ D, (Op.equalIn (D + 1) t vx vy).run E.P w = .ok (b.den (K := K)) w := by
    intro e i j o o' t hu vx vy hx hy hh D
    obtain ⟨k, hs, rfl, rfl | ⟨c, l, U, c', l', U', hi, hj⟩⟩ := ptr_cases hh
    · obtain ⟨a, b, rfl, rfl, hrun⟩ := ptr_same (P := E.P) (w := w) hx hy
      rw [show Nat.beq i i = true from Nat.beq_refl i]
      exact eqI_pp D w hu hs hrun
    · obtain ⟨a, b, rfl, rfl, hrun⟩ := ptr_eq (P := E.P) hr hi hj hx hy
      exact eqI_pp D w hu hs hrun
  unfold eqC at hb
  split at hb
  · rename_i k hu
    split at hb
    · rename_i k a k' c
      split at hb
      · rename_i hk
        subst hk
        cases hb
        cases hx; cases hy
        rw [eqI_int d w hu, cmpN_den hA]; rfl
      · cases hb
    · cases hb
  · rename_i hu
    split at hb
    · cases hb
      cases hx; cases hy
      rw [eqI_bool d w hu, eqBB_den hA]
    · cases hb
  · rename_i hu
    split at hb
    · cases hb
      cases hx; cases hy
      rw [eqI_string d w hu, eqSS_den hA, beq_toListBytes]
    · cases hb
  · rename_i e hu
    split at hb
    · cases hb; cases hx; cases hy
      rw [eqI_nilp d w hu]; rfl
    · cases hb; cases hx
      obtain ⟨a, rfl⟩ := den_ptr hy
      rw [eqI_nilp d w hu]; rfl
    · cases hb; cases hy
      obtain ⟨a, rfl⟩ := den_ptr hx
      rw [eqI_pnil d w hu]; rfl
    · exact hptr e _ _ _ _ T hu vx vy hx hy hb d
    · cases hb
  · rename_i ms hu
    split at hb
    · cases hb; cases hx; cases hy
      rw [eqI_nn d w hu]; rfl
    · cases hb; cases hx
      obtain ⟨a, _, rfl⟩ := den_ifc hy
      rw [eqI_ni d w hu]; rfl
    · cases hb; cases hy
      obtain ⟨a, _, rfl⟩ := den_ifc hx
      rw [eqI_in d w hu]; rfl
    · rename_i t a u c
      obtain ⟨x', hx', rfl⟩ := den_ifc hx
      obtain ⟨y', hy', rfl⟩ := den_ifc hy
      split at hb
      · rename_i htu
        subst htu
        split at hb
        · rename_i info hi
          split at hb
          · rename_i hc
            split at hb
            · rename_i e i o j o' hp
              obtain ⟨D, rfl⟩ : ∃ D, d = D + 1 := ⟨d - 1, by omega⟩
              exact eqI_ii (D + 1) w hu hi hc (hptr e i j o o' t hp x' y' hx' hy' hb D)
            · cases hb
          · cases hb
        · cases hb
      · rename_i htu
        cases hb
        rw [eqI_ne d w hu htu]; rfl
    · cases hb
  · rename_i e hu
    split at hb
    · cases hb; cases hx; cases hy
      rw [eqI_sn d w hu]; rfl
    · cases hb; cases hx
      obtain ⟨a, _, _, rfl⟩ := den_slc hy
      rw [eqI_sn d w hu]; rfl
    · cases hb; cases hy
      obtain ⟨a, _, _, rfl⟩ := den_slc hx
      rw [eqI_ns d w hu]; rfl
    · cases hb; cases hx
      obtain ⟨a, rfl⟩ := den_eslc hy
      rw [eqI_sn d w hu]; rfl
    · cases hb; cases hy
      obtain ⟨a, rfl⟩ := den_eslc hx
      rw [eqI_ns d w hu]; rfl
    · cases hb
  · rename_i hu
    split at hb
    · cases hb; cases hx; cases hy
      rw [eqI_ff d w hu]; rfl
    · cases hb; cases hx; cases hy
      rw [eqI_fn d w hu]; rfl
    · cases hb; cases hx; cases hy
      rw [eqI_nf d w hu]; rfl
    · cases hb
  · cases hb

end
end Go.Vse
