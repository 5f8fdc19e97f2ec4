/- The symbolic executor is sound: a slice of a slice: both are arrays that nobody writes any more. -/
import Derived.Test.YtpmoieekpalheaaGreatDoorVseT
import Derived.Laws.Slices
import Derived.Laws.OwnMore
namespace Go.Vse
open Go

section
variable {K : Kit}

theorem share_get {τ : Ty} (h : Heap τ) (i : Nat) (e0 e e' : Ent τ) (hi : h.get i = some e0) (k : Nat) : (h.share i e e').get k = if k = h.n then some e' else if k = i then some e else h.get k := by
  show look ((h.n, e') :: repl i e h.l) k = _
  simp only [look_nil, look_cons]
  by_cases hk : k = h.n
  · subst hk; simp
  · have : Nat.beq h.n k = false := Bool.eq_false_iff.2 fun hb => hk (Nat.eq_of_beq_eq_true hb).symm
    simp only [this, Bool.false_eq_true, if_false, hk]
    rw [look_repl]
    have : (look h.l i).isSome = true := by
      have : look h.l i = some e0 := hi
      simp [this]
    simp [this, Heap.get]

/-- A part of an array: both are read alone from now on. -/
theorem HRep.share {σ F} {h : Heap (std K)} {w : World} (hr : HRep σ F h.n h.get w) {i : Nat} {e0 : Ent (std K)} {U : TypeId} {sz : Nat} {c c' : Vec (std K)} {L L' : Loc} (hi : h.get i = some e0) (hk : e0.kd = .own ∨ e0.kd = .ro) (hL : σ i = some L)
    (hs : ∀ σ', Sg.le σ σ' → (Ent.ro (τ := std K) U sz c).sat σ' L (F i) w) (hs' : ∀ σ', Sg.le σ σ' → (Ent.ro (τ := std K) U sz c').sat σ' L' (F i) w) :
    ∃ σ', Post σ F h.n h.get w σ' (fun k => if k = h.n then F i else F k) (h.share i (.ro U sz c) (.ro U sz c')).n (h.share i (.ro U sz c) (.ro U sz c')).get w ∧ σ' h.n = some L' ∧ Sg.le σ σ' := by
  let σ' : Sg := fun k => if k = h.n then some L' else σ k
  have hin : i ≠ h.n := fun e => by rw [e, hr.fresh _ (Nat.le_refl _)] at hL; cases hL
  have hle : Sg.le σ σ' := fun k M hk => by
    by_cases he : k = h.n
    · subst he; rw [hr.fresh _ (Nat.le_refl _)] at hk; cases hk
    · simp [σ', he, hk]
  have hcase : ∀ k e1, (h.share i (.ro U sz c) (.ro U sz c')).get k = some e1 → (k = h.n ∧ e1 = .ro U sz c') ∨ (k = i ∧ k ≠ h.n ∧ e1 = .ro U sz c) ∨ (k ≠ h.n ∧ k ≠ i ∧ h.get k = some e1) := fun k e1 he => by
    rw [share_get h i e0 _ _ hi] at he
    split at he
    · rename_i hk; exact .inl ⟨hk, (Option.some.inj he).symm⟩
    · rename_i hk
      split at he
      · rename_i hki; exact .inr (.inl ⟨hki, hk, (Option.some.inj he).symm⟩)
      · rename_i hki; exact .inr (.inr ⟨hk, hki, he⟩)
  have hap : ∀ k e1, k ≠ i → h.get k = some e1 → e1.kd.shares .ro = false → ∀ b, F i b → ¬ F k b := fun k e1 hki he hsh b hb hb' => by
    refine hr.apart k i e1 e0 hki he hi ?_ b hb' hb
    rcases hk with hk | hk
    · rw [hk]; exact Kd.own_right _
    · rw [hk]; exact hsh
  have hsym : ∀ a b : Kd, a.shares b = b.shares a := fun a b => by cases a <;> cases b <;> rfl
  refine ⟨σ', ⟨fun k hk => by simp [σ', Nat.ne_of_lt hk], Nat.le_succ _, ⟨?_, ?_, ?_, ?_⟩, Keeps.refl _ _, ?_⟩, by simp [σ'], hle⟩
  · intro k hk
    have hk' : h.n + 1 ≤ k := hk
    simp [σ', show k ≠ h.n by omega, hr.fresh k (by omega)]
  · intro k e1 he
    rcases hcase k e1 he with ⟨rfl, rfl⟩ | ⟨rfl, h1, rfl⟩ | ⟨h1, h2, h3⟩
    · exact ⟨L', by simp [σ'], by simpa using hs' σ' hle⟩
    · exact ⟨L, hle _ _ hL, by simpa [h1] using hs σ' hle⟩
    · obtain ⟨M, hM, hsat⟩ := hr.sat k e1 h3
      exact ⟨M, hle _ _ hM, by simpa [h1] using Ent.sat_mono hle hsat⟩
  · intro a b e1 e2 hn ha hb hsh x hx hx'
    rcases hcase a e1 ha with ⟨rfl, rfl⟩ | ⟨rfl, h1, rfl⟩ | ⟨h1, h2, h3⟩ <;> rcases hcase b e2 hb with ⟨rfl, rfl⟩ | ⟨rfl, k1, rfl⟩ | ⟨k1, k2, k3⟩
    · exact hn rfl
    · simp [Ent.kd, Kd.shares] at hsh
    · simp at hx; simp [k1] at hx'
      exact hap b e2 k2 k3 (by rw [hsym]; exact hsh) x hx hx'
    · simp [Ent.kd, Kd.shares] at hsh
    · exact hn rfl
    · simp [h1] at hx; simp [k1] at hx'
      exact hap b e2 k2 k3 (by rw [hsym]; exact hsh) x hx hx'
    · simp [h1] at hx; simp at hx'
      exact hap a e1 h2 h3 hsh x hx' hx
    · simp [h1] at hx; simp [k1] at hx'
      exact hap a e1 h2 h3 hsh x hx' hx
    · simp [h1] at hx; simp [k1] at hx'
      exact hr.apart a b e1 e2 hn h3 k3 hsh x hx hx'
  · intro k e1 he b hb
    rcases hcase k e1 he with ⟨rfl, rfl⟩ | ⟨rfl, h1, rfl⟩ | ⟨h1, h2, h3⟩
    · simp at hb; exact hr.inside i e0 hi b hb
    · simp [h1] at hb; exact hr.inside _ e0 hi b hb
    · simp [h1] at hb; exact hr.inside k e1 h3 b hb
  · intro k e1 b he hb
    have h0 : e0.kd = .own ∨ e0.kd = .ro := hk
    rcases hcase k e1 he with ⟨rfl, rfl⟩ | ⟨rfl, h1, rfl⟩ | ⟨h1, h2, h3⟩
    · simp at hb; exact .inl ⟨i, e0, hi, hb, h0⟩
    · simp [h1] at hb; exact .inl ⟨_, e0, hi, hb, h0⟩
    · simp [h1] at hb; exact .inl ⟨k, e1, h3, hb, .inr rfl⟩

/-- A bound, and what it is. -/
def Bound (n : Option (Num (std K).I)) (v : Option Value) : Prop := (n = none ∧ v = none) ∨ ∃ k m, n = some m ∧ v = some (.int k (m.den (K := K)))

/-- A place that has no block of its own. -/
theorem HRep.view {σ F} {h : Heap (std K)} {w : World} (hr : HRep σ F h.n h.get w) {e : Ent (std K)} {L : Loc} (hsat : ∀ σ', Sg.le σ σ' → e.sat σ' L (fun _ => False) w) :
    ∃ σ', Post σ F h.n h.get w σ' (fun k => if k = h.n then (fun _ => False) else F k) (h.push e).n (h.push e).get w ∧ σ' h.n = some L ∧ Sg.le σ σ' := by
  let σ' : Sg := fun k => if k = h.n then some L else σ k
  have hle : Sg.le σ σ' := fun k M hk => by
    by_cases he : k = h.n
    · subst he; rw [hr.fresh _ (Nat.le_refl _)] at hk; cases hk
    · simp [σ', he, hk]
  have hcase : ∀ k e1, (h.push e).get k = some e1 → (k = h.n ∧ e1 = e) ∨ (k ≠ h.n ∧ h.get k = some e1) := fun k e1 he => by
    have he : look ((h.n, e) :: h.l) k = some e1 := he
    simp only [look_nil, look_cons] at he
    by_cases hk : k = h.n
    · subst hk; simp at he; exact .inl ⟨rfl, he.symm⟩
    · have : Nat.beq h.n k = false := Bool.eq_false_iff.2 fun hb => hk (Nat.eq_of_beq_eq_true hb).symm
      simp [this] at he
      exact .inr ⟨hk, he⟩
  refine ⟨σ', ⟨fun k hk => by simp [σ', Nat.ne_of_lt hk], Nat.le_succ _, ⟨?_, ?_, ?_, ?_⟩, Keeps.refl _ _, ?_⟩, by simp [σ'], hle⟩
  · intro k hk
    have hk' : h.n + 1 ≤ k := hk
    simp [σ', show k ≠ h.n by omega, hr.fresh k (by omega)]
  · intro k e1 he
    rcases hcase k e1 he with ⟨rfl, rfl⟩ | ⟨h1, h3⟩
    · exact ⟨L, by simp [σ'], by simpa using hsat σ' hle⟩
    · obtain ⟨M, hM, hs⟩ := hr.sat k e1 h3
      exact ⟨M, hle _ _ hM, by simpa [h1] using Ent.sat_mono hle hs⟩
  · intro a b e1 e2 hn ha hb hsh x hx hx'
    rcases hcase a e1 ha with ⟨rfl, rfl⟩ | ⟨h1, h3⟩ <;> rcases hcase b e2 hb with ⟨rfl, rfl⟩ | ⟨k1, k3⟩
    · exact hn rfl
    · simp at hx
    · simp at hx'
    · simp [h1] at hx; simp [k1] at hx'
      exact hr.apart a b e1 e2 hn h3 k3 hsh x hx hx'
  · intro k e1 he b hb
    rcases hcase k e1 he with ⟨rfl, rfl⟩ | ⟨h1, h3⟩
    · simp at hb
    · simp [h1] at hb; exact hr.inside k e1 h3 b hb
  · intro k e1 b he hb
    rcases hcase k e1 he with ⟨rfl, rfl⟩ | ⟨h1, h3⟩
    · simp at hb
    · simp [h1] at hb; exact .inl ⟨k, e1, h3, hb, .inr rfl⟩

theorem sliceS_ok {E : Env (std K)} (hA : ArOK E.A) {T : TypeId} {x v : ST (std K)} {lo hi : Option (Num (std K).I)} {h h' : Heap (std K)} {σ F} {w : World} (hr : HRep σ F h.n h.get w) (hs : (sliceS E T x lo hi h).eval = some (v, h'))
    {vx : Value} {vlo vhi : Option Value} (hx : x.den σ = some vx) (hlo : Bound lo vlo) (hhi : Bound hi vhi) :
    ∃ y σ' F', (Instr.sliceAt T vx vlo vhi none).run E.P w = .ok y w ∧ Post σ F h.n h.get w σ' F' h'.n h'.get w ∧ v.den σ' = some y := by
  unfold sliceS at hs
  split at hs
  case h_3 => simp [Out.eval] at hs
  case h_2 =>
    rename_i len e i o hu
    split at hs
    case h_2 => simp [Out.eval] at hs
    rename_i s hsz
    simp only [Out.eval, Option.some.injEq, Prod.mk.injEq] at hs
    obtain ⟨rfl, rfl⟩ := hs
    rcases hlo with ⟨_, rfl⟩ | ⟨_, _, h1, _⟩
    case inr => cases h1
    rcases hhi with ⟨_, rfl⟩ | ⟨_, _, h1, _⟩
    case inr => cases h1
    simp only [ST.den, SC.den] at hx
    split at hx
    case h_2 => cases hx
    rename_i L hL
    simp only [pathOK, if_true, pathOff, Nat.zero_add, Option.some.injEq] at hx
    subst hx
    have hel : E.P.elem T = e := by simp [Program.elem, hu]
    have hal : E.P.arrayLen T = len := by simp [Program.arrayLen, hu]
    have hu' : E.P.underlying T = some (.array (E.P.arrayLen T) (E.P.elem T)) := by rw [hel, hal]; exact hu
    have hrun := run_sliceAt_array_all (P := E.P) w T ⟨L.g, L.off + o, none⟩ hu'
    rw [hel, sizeT_run hsz, hal] at hrun
    obtain ⟨σ', hp, hL', hle⟩ := hr.view (e := .av i o (s + 1) len) (L := ⟨L.g, L.off + o, len, len⟩) (fun σ' hle => ⟨L, hle _ _ hL, rfl, rfl, rfl, rfl, fun _ h => h⟩)
    refine ⟨_, σ', _, hrun, hp, ?_⟩
    simp only [ST.den, SC.den, hL', slicedAt]
    by_cases h0 : len = 0
    · simp [h0]
    · simp [h0, addr_add]
  rename_i e i m hu
  split at hs
  case h_2 => simp [Out.eval] at hs
  rename_i sz U s c hsz hro
  split at hs
  case isFalse => simp [Out.eval] at hs
  rename_i hss
  subst hss
  simp only at hs
  rw [eval_branch] at hs
  split at hs
  case isFalse => simp [Out.eval] at hs
  rename_i hcond
  simp only [andB_den hA, cmpN_den hA, Bool.and_eq_true] at hcond
  obtain ⟨b0, b1, b2⟩ := hcond
  have b0 : (0 : Int) ≤ (lo.getD (.lit 0)).den (K := K) := of_decide_eq_true b0
  have b1 : (lo.getD (.lit 0)).den (K := K) ≤ (hi.getD (m.getD (vecLen E.A c))).den (K := K) := of_decide_eq_true b1
  have b2 : (hi.getD (m.getD (vecLen E.A c))).den (K := K) ≤ (m.getD (vecLen E.A c)).den (K := K) := of_decide_eq_true b2
  -- the array
  have harr : ∃ e0 L pre rows rest fr, h.get i = some e0 ∧ (e0.kd = .own ∨ e0.kd = .ro) ∧ σ i = some L ∧ c.den σ = some rows ∧ (∀ r ∈ rows, r.length = s) ∧ rows.length = L.len ∧ pre.length = L.off ∧ L.len ≤ L.cap ∧
      w.heap[L.g]? = some (.cells (pre ++ (rows.flatten ++ rest)).toArray U fr) ∧ ∀ b, F i b ↔ b = L.g := by
    unfold sliceRo at hro
    split at hro
    · rename_i hg
      cases hro
      obtain ⟨L, hL, pre, rows, rest, h1, h2, h3, h4, h5, h6, h9, h7, h8⟩ := hr.sat i _ hg
      exact ⟨_, L, pre, rows, rest, _, hg, .inl rfl, hL, h1, h2, h3, h4, h6, h7, h8⟩
    · rename_i hg
      cases hro
      obtain ⟨L, hL, pre, rows, rest, fr, h1, h2, h3, h4, h5, h6, h7⟩ := hr.sat i _ hg
      exact ⟨_, L, pre, rows, rest, fr, hg, .inr rfl, hL, h1, h2, h3, h4, h5, h6, h7⟩
    · cases hro
  obtain ⟨e0, L, pre, rows, rest, fr, hg, hkd, hL, hc, hz, hlen, hpre, hcap, hblk, hF⟩ := harr
  obtain ⟨n, hn, hnL, hvx⟩ : ∃ n : Nat, (m.getD (vecLen E.A c)).den (K := K) = (n : Int) ∧ n ≤ L.len ∧ vx = .slice (some ⟨L.g, L.off, none⟩) n L.cap := by
    simp only [ST.den, SC.den, hL] at hx
    cases m with
    | none => simp at hx; exact ⟨L.len, by simp [vecLen_ok hA hc, hlen], Nat.le_refl _, hx.symm⟩
    | some k =>
      simp only at hx
      split at hx
      · rename_i hk; simp at hx; exact ⟨(k.den (K := K)).toNat, by simp; omega, by omega, hx.symm⟩
      · cases hx
  subst hvx
  rw [hn] at b2
  generalize hl : (lo.getD (.lit 0)).den (K := K) = l at *
  generalize hb : (hi.getD (m.getD (vecLen E.A c))).den (K := K) = b at *
  have hel : E.P.elem T = e := by simp [Program.elem, hu]
  have hu' : E.P.underlying T = some (.slice (E.P.elem T)) := by rw [hel]; exact hu
  have hsz' : (sizeOf (E.P.elem T)).run E.P w = .ok s w := by rw [hel]; exact sizeT_run hsz w
  have hrun : (Instr.sliceAt T (.slice (some ⟨L.g, L.off, none⟩) n L.cap) vlo vhi none).run E.P w = .ok (sliced (some ⟨L.g, L.off, none⟩) l.toNat b.toNat L.cap s) w := by
    rw [run_sliceAt_slice w T _ _ _ _ hu']
    rcases hlo with ⟨rfl, rfl⟩ | ⟨kl, ml, rfl, rfl⟩ <;> rcases hhi with ⟨rfl, rfl⟩ | ⟨kh, mh, rfl, rfl⟩
    · have hl0 : l = 0 := by rw [← hl]; rfl
      have hbl : b = n := by rw [← hb, ← hn]; rfl
      rw [run_slice_all w T _ _ _ hu', hsz']; simp [hl0, hbl]
    · have hl0 : l = 0 := by rw [← hl]; rfl
      have hbl : mh.den (K := K) = b := hb
      rw [hbl, run_slice_h w T _ _ _ hu' kh b (by omega) (by omega), hsz']; simp [hl0]
    · have hll : ml.den (K := K) = l := hl
      have hbl : b = n := by rw [← hb, ← hn]; rfl
      rw [hll, run_slice_l w T _ _ _ hu' kl l b0 (by omega), hsz']; simp [hbl]
    · have hll : ml.den (K := K) = l := hl
      have hbl : mh.den (K := K) = b := hb
      rw [hll, hbl, run_slice_lh w T _ _ _ hu' kl kh l b b0 b1 (by omega), hsz']; simp
  have hlb : l.toNat ≤ b.toNat := by omega
  have hbL : b.toNat ≤ L.len := by omega
  split at hs
  · rename_i hpre1
    simp only [Bool.and_eq_true, Option.isNone_iff_eq_none] at hpre1
    simp only [Out.eval, Option.some.injEq, Prod.mk.injEq] at hs
    obtain ⟨rfl, rfl⟩ := hs
    have hl0 : l = 0 := by rw [← hl, hpre1.1]; rfl
    refine ⟨_, σ, F, hrun, .refl hr, ?_⟩
    have hbb : (hi.getD (m.getD (vecLen E.A c))).den (K := K) = b := hb
    simp only [ST.den, SC.den, hL, hbb, sliced, hl0]
    rw [if_pos ⟨by omega, by omega⟩]
    by_cases hc0 : L.cap = 0
    · simp [hc0]
    · simp [hc0, addr_add]
  split at hs
  case h_2 => simp [Out.eval] at hs
  rename_i c' hsub
  simp only [Out.eval, Option.some.injEq, Prod.mk.injEq] at hs
  obtain ⟨rfl, rfl⟩ := hs
  have hc' := vecSub_ok hA hc hsub (by rw [hl]; exact b0) (by rw [hl, hb]; exact b1) (by rw [hlen, hb]; omega)
  rw [hl, hb] at hc'
  have hsplit : rows = rows.take l.toNat ++ ((rows.drop l.toNat).take (b.toNat - l.toNat) ++ rows.drop b.toNat) := by
    have : (rows.drop l.toNat).drop (b.toNat - l.toNat) = rows.drop b.toNat := by rw [List.drop_drop]; congr 1; omega
    rw [← this, List.take_append_drop, List.take_append_drop]
  obtain ⟨σ', hp, hL', hle⟩ := hr.share (i := i) (U := U) (sz := s) (c := c) (c' := c') (L := L) (L' := ⟨L.g, if L.cap = l.toNat then L.off else L.off + l.toNat * s, b.toNat - l.toNat, L.cap - l.toNat⟩) hg hkd hL
    (fun σ' hle => ⟨pre, rows, rest, fr, Vec.mono hle _ _ hc, hz, hlen, hpre, hcap, hblk, hF⟩)
    (fun σ' hle => by
      have hz' : ∀ r ∈ (rows.drop l.toNat).take (b.toNat - l.toNat), r.length = s := fun r hm => hz r (List.mem_of_mem_drop (List.mem_of_mem_take hm))
      have hlen' : ((rows.drop l.toNat).take (b.toNat - l.toNat)).length = b.toNat - l.toNat := by rw [List.length_take, List.length_drop, hlen]; omega
      by_cases hcl : L.cap = l.toNat
      · refine ⟨pre, _, rows.flatten ++ rest, fr, Vec.mono hle _ _ hc', hz', hlen', by simp [hcl, hpre], by simp only; omega, ?_, hF⟩
        have : b.toNat - l.toNat = 0 := by omega
        rw [this]; simpa using hblk
      · refine ⟨pre ++ (rows.take l.toNat).flatten, _, (rows.drop b.toNat).flatten ++ rest, fr, Vec.mono hle _ _ hc', hz', hlen', ?_, by simp only; omega, ?_, hF⟩
        · rw [List.length_append, flatten_length (fun r hm => hz r (List.mem_of_mem_take hm)), List.length_take, hlen, hpre, if_neg hcl, Nat.min_eq_left (by omega)]
        · rw [hblk]
          conv => lhs; rw [hsplit]
          simp)
  refine ⟨_, σ', _, hrun, hp, ?_⟩
  simp only [ST.den, SC.den, hL', sliced]
  by_cases hcl : L.cap = l.toNat
  · simp [hcl]
  · simp [hcl, addr_add]

theorem sliceZS_ok {E : Env (std K)} {T : TypeId} {x v : ST (std K)} {lo hi mx : Option (Num (std K).I)} {h h' : Heap (std K)} {σ F} {w : World} (hr : HRep σ F h.n h.get w) (hs : (sliceZS E T x lo hi mx h).eval = some (v, h'))
    {vx : Value} {vlo vhi vmx : Option Value} (hx : x.den σ = some vx) (hlo : Bound lo vlo) (hhi : Bound hi vhi) (hmx : Bound mx vmx) :
    ∃ y, (Instr.sliceAt T vx vlo vhi vmx).run E.P w = .ok y w ∧ Post σ F h.n h.get w σ F h'.n h'.get w ∧ v.den σ = some y := by
  unfold sliceZS at hs
  split at hs
  case h_2 => simp [Out.eval] at hs
  rename_i e hu
  split at hs
  case isTrue => simp [Out.eval] at hs
  rename_i hne
  rcases hlo with ⟨_, rfl⟩ | ⟨_, _, h1, _⟩
  case inr => cases h1
  rcases hhi with ⟨h1, _⟩ | ⟨kh, mh, h1, rfl⟩
  case inl => cases h1
  rcases hmx with ⟨h2, _⟩ | ⟨km, mm, h2, rfl⟩
  case inl => cases h2
  cases h1; cases h2
  have hel : E.P.elem T = e := by simp [Program.elem, hu]
  have hu' : E.P.underlying T = some (.slice (E.P.elem T)) := by rw [hel]; exact hu
  have hinfo : ∃ s, (sizeOf (E.P.elem T)).run E.P w = .ok s w := by
    rw [hel]
    cases h1 : sizeT E.P e with
    | none => simp [h1] at hne
    | some s => exact ⟨s, sizeT_run h1 w⟩
  obtain ⟨s, hsz⟩ := hinfo
  have hrun : ∀ a n c, (Instr.sliceAt T (.slice a n c) none (some (.int kh 0)) (some (.int km 0))).run E.P w = .ok (sliced a 0 0 0 s) w := fun a n c => by
    rw [run_sliceAt_slice w T _ _ _ _ hu', run_slice_hm w T _ _ _ hu' kh km 0 0 (by omega) (by omega) (by omega), hsz]; rfl
  split at hs
  · simp only [Out.eval, Option.some.injEq, Prod.mk.injEq] at hs
    obtain ⟨rfl, rfl⟩ := hs
    cases hx
    exact ⟨_, hrun _ _ _, .refl hr, by simp [ST.den, SC.den, sliced]⟩
  · rename_i i n
    simp only [Out.eval, Option.some.injEq, Prod.mk.injEq] at hs
    obtain ⟨rfl, rfl⟩ := hs
    simp only [ST.den, SC.den] at hx
    split at hx
    case h_2 => cases hx
    rename_i L hL
    refine ⟨sliced (some ⟨L.g, L.off, none⟩) 0 0 0 s, ?_, .refl hr, by simp [ST.den, SC.den, sliced, hL]⟩
    split at hx
    · cases hx; exact hrun _ _ _
    · split at hx
      · cases hx; exact hrun _ _ _
      · cases hx
  · rename_i i
    simp only [Out.eval, Option.some.injEq, Prod.mk.injEq] at hs
    obtain ⟨rfl, rfl⟩ := hs
    simp only [ST.den, SC.den] at hx
    split at hx
    case h_2 => cases hx
    rename_i L hL
    cases hx
    exact ⟨_, hrun _ _ _, .refl hr, by simp [ST.den, SC.den, sliced, hL]⟩
  · simp [Out.eval] at hs

theorem reps_flatten {α : Type} (l : List α) : ∀ n, reps n l = (List.replicate n l).flatten
  | 0 => rfl
  | n + 1 => by simp [reps, List.replicate_succ, reps_flatten l n]

theorem denR_replicate {σ : Sg} {z : List (SC (std K))} {r : List Value} (h : denL σ z = some r) : ∀ n, denR σ (List.replicate n z) = some (List.replicate n r)
  | 0 => rfl
  | n + 1 => denR_cons.2 ⟨r, _, h, denR_replicate h n, rfl⟩

theorem vecRep_ok {A : Ar (std K)} (hA : ArOK A) {σ : Sg} {z : List (SC (std K))} {n : Num (std K).I} {c : Vec (std K)} {r : List Value} (hz : denL σ z = some r) (h : vecRep A z n = some c) (h0 : 0 ≤ n.den (K := K)) : c.den σ = some (List.replicate (n.den (K := K)).toNat r) := by
  unfold vecRep at h
  split at h
  · cases h; exact denR_replicate hz _
  · rename_i v
    split at h
    · rename_i v' hv
      cases h
      simp only [Vec.den, Option.some.injEq]
      exact hA.vrep z v v' σ r hv h0 hz
    · cases h

theorem makeSliceS_ok {E : Env (std K)} (hA : ArOK E.A) {T : TypeId} {len v : ST (std K)} {h h' : Heap (std K)} {σ F} {w : World} (hr : HRep σ F h.n h.get w) (hs : (makeSliceS E T len h).eval = some (v, h')) {vl vc : Value} (hl : len.den σ = some vl)
    (hc : vc = vl ∨ ∃ k k' n, vl = .int k n ∧ vc = .int k' n) :
    ∃ y w' σ' F', (Instr.makeSlice T vl vc).run E.P w = .ok y w' ∧ Post σ F h.n h.get w σ' F' h'.n h'.get w' ∧ v.den σ' = some y := by
  unfold makeSliceS at hs
  split at hs
  case h_2 => simp [Out.eval] at hs
  rename_i e k n hu
  split at hs
  case h_2 => simp [Out.eval] at hs
  rename_i sz by' z hsz hby hz
  split at hs
  case isFalse => simp [Out.eval] at hs
  rename_i hcc
  obtain ⟨hsz0, hby0, hzl⟩ := hcc
  rw [eval_branch] at hs
  split at hs
  case isFalse => simp [Out.eval] at hs
  rename_i hcond
  simp only [andB_den hA, cmpN_den hA, Bool.and_eq_true] at hcond
  have b0 : (0 : Int) ≤ n.den (K := K) := of_decide_eq_true hcond.1
  have b1 : n.den (K := K) ≤ (1048576 : Int) := of_decide_eq_true hcond.2
  split at hs
  case h_2 => simp [Out.eval] at hs
  rename_i c hrep
  simp only [Out.eval, Option.some.injEq, Prod.mk.injEq] at hs
  obtain ⟨rfl, rfl⟩ := hs
  unfold sizeT at hsz
  unfold bytesT at hby
  unfold zeroT at hz
  cases hi : E.P.info? e with
  | none => simp [hi] at hz
  | some it =>
  simp only [hi, Option.some.injEq] at hsz hby hz
  subst hsz hby
  cases hzz : it.zero with
  | none => simp [hzz] at hz
  | some zv =>
  simp only [hzz] at hz
  have hzd := mapO_constSC (K := K) (σ := σ) hz
  have hzs : zv.cells.size = it.size := by have := denL_length hzd; simp at this; omega
  have hcd := vecRep_ok hA hzd hrep b0
  simp only [ST.den, SC.den, Option.some.injEq] at hl
  subst hl
  obtain ⟨m, hm⟩ : ∃ m : Nat, n.den (K := K) = (m : Int) := ⟨_, (Int.toNat_of_nonneg b0).symm⟩
  rw [hm] at hcd hc ⊢
  have hvc : ∃ kc, vc = .int kc (m : Int) := by
    rcases hc with rfl | ⟨k1, k2, n1, h1, rfl⟩
    · exact ⟨k, rfl⟩
    · injection h1 with _ h1; subst h1; exact ⟨k2, rfl⟩
  obtain ⟨kc, rfl⟩ := hvc
  have hm2 : m ≤ 1048576 := by omega
  obtain ⟨w', hrun, hown, hgrown⟩ := run_make_full (P := E.P) w 0 T e it zv it.size hu hi hzz rfl k kc m (by have := Nat.mul_le_mul hby0 hm2; omega) (by simp only [maxLen]; omega) (Nat.zero_le _)
  obtain ⟨hlen, hown⟩ := hown
  rcases hown with ⟨h1, _⟩ | ⟨g, cap, cur, h1, _, hg, hle, hml, hcs, htake⟩
  · cases h1
  simp only [Value.slice.injEq, Option.some.injEq, Addr.mk.injEq, true_and, and_true] at h1
  obtain ⟨rfl, rfl⟩ := h1
  have hflat : cur.toList = (List.replicate m zv.cells.toList).flatten := by
    have h2 : (madeCells zv.cells (m * it.size)) = (reps m zv.cells.toList).toArray := by
      have := zeros_reps zv.cells m (by omega)
      rw [hzs] at this
      unfold madeCells; rw [hzs]; exact this
    rw [List.take_of_length_le (by rw [Array.length_toList, hcs]; exact Nat.le_refl _)] at htake
    rw [htake, h2, ← reps_flatten]
  obtain ⟨σ', F', hp, hL', hle'⟩ := hr.remake (w' := w') (drop := none) (e := .vec e it.size c) (L := ⟨w.heap.size, 0, m, m⟩)
    (fun i h => by cases h) hgrown.os hgrown.tape hgrown.output hgrown.size (fun b hb _ => hgrown.block b hb (by simp)) (.inl (Nat.le_refl _)) (Array.getElem?_eq_some_iff.1 hg).1 rfl (fun σ' hle2 hL2 => by
      refine ⟨[], List.replicate m zv.cells.toList, [], by simpa using Vec.mono hle2 _ _ hcd, fun r hr' => by rw [List.eq_of_mem_replicate hr', Array.length_toList, hzs], by simp, rfl, by simp, Nat.le_refl _, ⟨rfl, hml⟩, ?_, fun b => Iff.rfl⟩
      rw [hg, List.nil_append, List.append_nil, ← hflat])
  exact ⟨_, w', σ', F', hrun, hp, by simp [ST.den, SC.den, hL']⟩

end
end Go.Vse
