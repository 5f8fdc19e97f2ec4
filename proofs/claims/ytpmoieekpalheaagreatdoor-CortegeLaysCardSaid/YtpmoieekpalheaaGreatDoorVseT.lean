/- The symbolic executor is sound: arrays of one's own: a slice that is written out, append, a store into an element. -/
import Derived.Test.YtpmoieekpalheaaGreatDoorVseH
import Derived.Test.YtpmoieekpalheaaGreatDoorVseG
import Derived.Great.BuildSlice
import Derived.Laws.AppendOwn
namespace Go.Vse
open Go

section
variable {K : Kit}

theorem look_rmL {τ : Ty} (i k : Nat) : ∀ (l : List (Nat × Ent τ)), look (rmL i l) k = if k = i then none else look l k
  | [] => by simp [rmL, look_nil, look_cons]
  | (j, e) :: r => by
    have ih := look_rmL i k r
    simp only [rmL]
    by_cases hj : Nat.beq j i = true
    · have := Nat.eq_of_beq_eq_true hj; subst this
      simp only [hj, if_true, look_nil, look_cons]
      by_cases hk : k = j
      · subst hk; simp at ih ⊢; exact ih
      · have : Nat.beq j k = false := Bool.eq_false_iff.2 fun h => hk (Nat.eq_of_beq_eq_true h).symm
        simp [hk] at ih
        simp [this, hk, ih]
    · simp only [hj, Bool.false_eq_true, if_false, look_nil, look_cons]
      by_cases hk : Nat.beq j k = true
      · have := Nat.eq_of_beq_eq_true hk; subst this
        have : j ≠ i := fun e => hj (by subst e; exact Nat.beq_refl j)
        simp [this]
      · simp only [hk, Bool.false_eq_true, if_false]; exact ih

theorem remake_get {τ : Ty} (h : Heap τ) (drop : Option Nat) (e : Ent τ) (k : Nat) : (h.remake drop e).get k = if k = h.n then some e else if drop = some k then none else h.get k := by
  show look ((h.n, e) :: _) k = _
  simp only [look_nil, look_cons]
  by_cases hk : k = h.n
  · subst hk; simp
  · have : Nat.beq h.n k = false := Bool.eq_false_iff.2 fun hb => hk (Nat.eq_of_beq_eq_true hb).symm
    simp only [this, Bool.false_eq_true, if_false, hk]
    cases drop with
    | none => simp [Heap.get]
    | some i =>
      simp only [look_rmL, Heap.get, Option.some.injEq]
      by_cases hki : k = i
      · subst hki; simp
      · simp only [hki, if_false]
        split
        · rename_i hik; exact absurd hik.symm hki
        · rfl

theorem HRep.remake {σ F} {h : Heap (std K)} {w w' : World} (hr : HRep σ F h.n h.get w) {drop : Option Nat} {e : Ent (std K)} {L : Loc}
    (hdrop : ∀ i, drop = some i → ∃ e0, h.get i = some e0 ∧ e0.kd = .own)
    (hos : w'.os = w.os) (htp : w'.tape = w.tape) (hout : w'.output = w.output) (hsz : w.heap.size ≤ w'.heap.size)
    (hkeep : ∀ b, b < w.heap.size → (∀ i, drop = some i → ¬ F i b) → w'.heap[b]? = w.heap[b]?)
    (hg : w.heap.size ≤ L.g ∨ ∃ i, drop = some i ∧ F i L.g) (hlt : L.g < w'.heap.size) (hown : e.kd = .own)
    (hsat : ∀ σ', Sg.le σ σ' → σ' h.n = some L → e.sat σ' L (fun b => b = L.g) w') :
    ∃ σ' F', Post σ F h.n h.get w σ' F' (h.remake drop e).n (h.remake drop e).get w' ∧ σ' h.n = some L ∧ Sg.le σ σ' := by
  let σ' : Sg := fun i => if i = h.n then some L else σ i
  let F' : Nat → Nat → Prop := fun i b => if i = h.n then b = L.g else F i b
  have hle : Sg.le σ σ' := fun i M hi => by
    by_cases he : i = h.n
    · subst he; rw [hr.fresh _ (Nat.le_refl _)] at hi; cases hi
    · simp [σ', he, hi]
  have hold : ∀ i e1, h.get i = some e1 → drop ≠ some i → ∀ b, F i b → w'.heap[b]? = w.heap[b]? := fun i e1 he hd b hb => by
    refine hkeep b (hr.inside i e1 he b hb) fun k hk hkb => ?_
    obtain ⟨e0, h1, h2⟩ := hdrop k hk
    exact hr.apart i k e1 e0 (fun hik => hd (by rw [hik]; exact hk)) he h1 (by rw [h2]; exact Kd.own_right _) b hb hkb
  have hnew : ∀ i e1, h.get i = some e1 → drop ≠ some i → ¬ F i L.g := fun i e1 he hd hb => by
    rcases hg with hg | ⟨k, hk, hkb⟩
    · have := hr.inside i e1 he _ hb; omega
    · obtain ⟨e0, h1, h2⟩ := hdrop k hk
      exact hr.apart i k e1 e0 (fun hik => hd (by rw [hik]; exact hk)) he h1 (by rw [h2]; exact Kd.own_right _) _ hb hkb
  have hcase : ∀ i e1, (h.remake drop e).get i = some e1 → (i = h.n ∧ e1 = e) ∨ (i ≠ h.n ∧ drop ≠ some i ∧ h.get i = some e1) := fun i e1 he => by
    rw [remake_get] at he
    split at he
    · rename_i hi; exact .inl ⟨hi, (Option.some.inj he).symm⟩
    · rename_i hi
      split at he
      · cases he
      · rename_i hd; exact .inr ⟨hi, hd, he⟩
  refine ⟨σ', F', ⟨fun i hi => by simp [σ', Nat.ne_of_lt hi], Nat.le_succ _, ⟨?_, ?_, ?_, ?_⟩, ⟨hos, htp, hout, hsz, fun b hb hd => hkeep b hb fun i hi hib => ?_⟩, ?_⟩, by simp [σ'], hle⟩
  · intro i hi
    have hi' : h.n + 1 ≤ i := hi
    simp [σ', show i ≠ h.n by omega, hr.fresh i (by omega)]
  · intro i e1 he
    rcases hcase i e1 he with ⟨rfl, rfl⟩ | ⟨h1, h2, h3⟩
    · refine ⟨L, by simp [σ'], ?_⟩
      have : F' h.n = fun b => b = L.g := by funext b; simp [F']
      rw [this]
      exact hsat σ' hle (by simp [σ'])
    · obtain ⟨M, hM, hs⟩ := hr.sat i e1 h3
      refine ⟨M, hle i M hM, ?_⟩
      have : F' i = F i := by funext b; simp [F', h1]
      rw [this]
      exact Ent.sat_local (w := w) (fun b hb => hold i e1 h3 h2 b hb) (Ent.sat_mono hle hs)
  · intro i j e1 e2 hn hi hj hs b hb hb'
    rcases hcase i e1 hi with ⟨rfl, rfl⟩ | ⟨h1, h2, h3⟩ <;> rcases hcase j e2 hj with ⟨rfl, rfl⟩ | ⟨k1, k2, k3⟩
    · exact hn rfl
    · simp [F'] at hb; simp [F', k1] at hb'
      subst hb; exact hnew j e2 k3 k2 hb'
    · simp [F'] at hb'; simp [F', h1] at hb
      subst hb'; exact hnew i e1 h3 h2 hb
    · simp [F', h1] at hb; simp [F', k1] at hb'
      exact hr.apart i j e1 e2 hn h3 k3 hs b hb hb'
  · intro i e1 he b hb
    rcases hcase i e1 he with ⟨rfl, rfl⟩ | ⟨h1, h2, h3⟩
    · simp [F'] at hb; subst hb; exact hlt
    · simp [F', h1] at hb
      exact Nat.lt_of_lt_of_le (hr.inside i e1 h3 b hb) hsz
  · obtain ⟨e0, h1, h2⟩ := hdrop i hi
    exact hd ⟨i, e0, h1, h2, hib⟩
  · intro i e1 b he hb
    rcases hcase i e1 he with ⟨rfl, rfl⟩ | ⟨h1, h2, h3⟩
    · simp [F'] at hb; subst hb
      rcases hg with hg | ⟨k, hk, hkb⟩
      · exact .inr hg
      · obtain ⟨e0, h1, h2⟩ := hdrop k hk
        exact .inl ⟨k, e0, h1, hkb, .inl h2⟩
    · simp [F', h1] at hb
      exact .inl ⟨i, e1, h3, hb, .inr rfl⟩

theorem denR_chunk {σ : Sg} (sz : Nat) : ∀ (n : Nat) (l : List (SC (std K))) (vs : List Value), denL σ l = some vs → l.length = n * sz → ∃ rows, denR σ (chunk sz n l) = some rows ∧ (∀ r ∈ rows, r.length = sz) ∧ rows.length = n ∧ rows.flatten = vs
  | 0, l, vs, h, hl => by
    have : l = [] := by simpa using hl
    subst this
    simp [denL] at h; subst h
    exact ⟨[], rfl, by simp, rfl, rfl⟩
  | n + 1, l, vs, h, hl => by
    have hlen := denL_length h
    rw [Nat.succ_mul] at hl
    obtain ⟨rows, h1, h2, h3, h4⟩ := denR_chunk sz n (l.drop sz) (vs.drop sz) (denL_drop sz h) (by simp; omega)
    refine ⟨vs.take sz :: rows, denR_cons.2 ⟨_, _, denL_take sz h, h1, rfl⟩, ?_, by simp [h3], by simp [h4]⟩
    intro r hr
    rcases List.mem_cons.1 hr with rfl | hr
    · simp; omega
    · exact h2 r hr

theorem reps_length {α : Type} (l : List α) : ∀ n, (reps n l).length = n * l.length
  | 0 => by simp [reps]
  | n + 1 => by simp [reps, reps_length l n, Nat.succ_mul, Nat.add_comm]

theorem reps_get {α : Type} (l : List α) : ∀ (n k : Nat), k < n * l.length → (reps n l)[k]? = l[k % l.length]?
  | 0, k, h => by simp at h
  | n + 1, k, h => by
    simp only [reps]
    rcases Nat.lt_or_ge k l.length with hk | hk
    · rw [List.getElem?_append_left hk, Nat.mod_eq_of_lt hk]
    · rw [List.getElem?_append_right hk, reps_get l n (k - l.length) (by rw [Nat.succ_mul] at h; omega), ← Nat.mod_eq_sub_mod hk]

theorem zeros_reps (z : Array Value) (len : Nat) (hz : 0 < z.size) : (Array.range (len * z.size)).map (z[· % z.size]!) = (reps len z.toList).toArray := by
  apply Array.ext'
  apply List.ext_getElem?
  intro k
  simp only [Array.toList_map, Array.toList_range, List.getElem?_map]
  rcases Nat.lt_or_ge k (len * z.size) with hk | hk
  · rw [reps_get z.toList len k (by simpa using hk)]
    have hm : k % z.size < z.size := Nat.mod_lt _ hz
    simp [List.getElem?_range hk, hm]
  · rw [List.getElem?_eq_none (by simpa using hk), List.getElem?_eq_none (by rw [reps_length]; simpa using hk)]
    rfl

theorem denL_reps {σ : Sg} {l : List (SC (std K))} {vs : List Value} (h : denL σ l = some vs) : ∀ n, denL σ (reps n l) = some (reps n vs)
  | 0 => rfl
  | n + 1 => denL_append h (denL_reps h n)

theorem buildSliceS_ok {E : Env (std K)} {T : TypeId} {len : Nat} {ps : List (Nat × ST (std K))} {h h' : Heap (std K)} {v : ST (std K)} {σ F} {w : World} (hr : HRep σ F h.n h.get w) (hb : buildSliceS E T len ps h = some (v, h'))
    {qs : List (Nat × Value)} (hm : ps.map (·.1) = qs.map (·.1)) (hd : ∀ (i : Nat) (p : Nat × ST (std K)) (q : Nat × Value), ps[i]? = some p → qs[i]? = some q → p.2.den σ = some q.2) :
    ∃ x w' σ' F', (Instr.buildSlice T len qs.toArray).run E.P w = .ok x w' ∧ Post σ F h.n h.get w σ' F' h'.n h'.get w' ∧ v.den σ' = some x := by
  unfold buildSliceS at hb
  split at hb
  case h_2 => cases hb
  rename_i e hu
  split at hb
  case h_2 => cases hb
  rename_i sz z hsz hz
  split at hb
  case isFalse =>
    split at hb
    case isFalse => cases hb
    rename_i hc0
    obtain ⟨rfl, hpe⟩ := hc0
    have hps : ps = [] := List.isEmpty_iff.1 hpe
    subst hps
    have hqs : qs = [] := by simpa using hm.symm
    subst hqs
    simp only [Option.some.injEq, Prod.mk.injEq] at hb
    obtain ⟨rfl, rfl⟩ := hb
    unfold sizeT at hsz
    cases hi : E.P.info? e with
    | none => simp [hi] at hsz
    | some it =>
      have hrun : (Instr.buildSlice T 0 ([] : List (Nat × Value)).toArray).run E.P w = .ok (.slice (some ⟨w.heap.size, 0, none⟩) 0 0) (w.alloc (.cells #[] e)) := by
        have h0 : (Array.range 0).map (fun _ => (default : Value)) = #[] := by apply Array.ext'; simp
        simp [Instr.buildSlice, run_underlying hu, sizeOf, typeInfo, hi, Instr.fill, newRow, h0]
      obtain ⟨σ', F', hp, hL, hle⟩ := hr.remake (w' := w.alloc (.cells #[] e)) (drop := none) (e := .vec e sz (.lit [])) (L := ⟨w.heap.size, 0, 0, 0⟩)
        (fun i h => by cases h) rfl rfl rfl (by simp) (fun b hb _ => RowKit.Below.heap_alloc _ _ _ hb) (.inl (Nat.le_refl _)) (by simp) rfl (fun σ' hle hL => by
          refine ⟨[], [], [], rfl, by simp, rfl, rfl, by simp, Nat.le_refl _, ⟨rfl, by simp [maxLen]⟩, ?_, fun b => Iff.rfl⟩
          show (w.heap.push _)[w.heap.size]? = _
          simp)
      exact ⟨_, _, σ', F', hrun, hp, by simp [ST.den, SC.den, hL]⟩
  rename_i hc
  obtain ⟨hlen, hsz0, hsmall, hzl⟩ := hc
  split at hb
  case h_2 => cases hb
  rename_i l hl
  simp only [Option.some.injEq, Prod.mk.injEq] at hb
  obtain ⟨rfl, rfl⟩ := hb
  unfold zeroT at hz
  unfold sizeT at hsz
  cases hi : E.P.info? e with
  | none => simp [hi] at hz
  | some it =>
    simp only [hi, Option.some.injEq] at hsz hz
    subst hsz
    cases hzz : it.zero with
    | none => simp [hzz] at hz
    | some zv =>
      simp only [hzz] at hz
      have hzd := mapO_constSC (K := K) (σ := σ) hz
      have hzs : zv.cells.size = it.size := by have := denL_length hzd; simp at this; omega
      have hrep := denL_reps hzd len
      obtain ⟨vs', hf, hv'⟩ := fillS_ok hl hrep hm hd
      have hf' : Instr.fill (fun i => some (i * it.size, it.size)) ((Array.range (len * it.size)).map (zv.cells[· % zv.cells.size]!)) qs.toArray.toList = some vs'.toArray := by
        have := zeros_reps zv.cells len (by omega)
        rw [hzs] at this
        rw [hzs, this]; exact hf
      have hpos : ¬ len * it.size = 0 := by have := Nat.mul_pos hlen hsz0; omega
      have hrun := run_buildSlice (P := E.P) w T e len qs.toArray vs'.toArray it zv hu hi hzz (by omega) hpos hf'
      have hll : l.length = len * it.size := by
        have h1 := denL_length hv'
        have : ∀ (ps : List (Nat × ST (std K))) (l0 l1 : List (SC (std K))), fillS (fun i => some (i * it.size, it.size)) l0 ps = some l1 → l1.length = l0.length := by
          intro ps
          induction ps with
          | nil => intro l0 l1 h; simp [fillS] at h; rw [h]
          | cons p r ih =>
            obtain ⟨i, x⟩ := p
            intro l0 l1 h
            simp only [fillS] at h
            split at h
            · split at h
              · rename_i hle
                rw [ih _ _ h]
                simp [putL]; omega
              · cases h
            · cases h
        rw [this _ _ _ hl, reps_length, hzl]
      obtain ⟨rows, hc1, hc2, hc3, hc4⟩ := denR_chunk it.size len l vs' hv' hll
      obtain ⟨σ', F', hp, hL, hle⟩ := hr.remake (w' := w.alloc (.cells vs'.toArray e)) (drop := none) (e := .vec e it.size (.lit (chunk it.size len l))) (L := ⟨w.heap.size, 0, len, len⟩)
        (fun i h => by cases h) rfl rfl rfl (by simp) (fun b hb _ => RowKit.Below.heap_alloc _ _ _ hb) (.inl (Nat.le_refl _)) (by simp) rfl (fun σ' hle hL => by
          refine ⟨[], rows, [], denR_mono hle _ _ hc1, hc2, hc3, rfl, by simp, Nat.le_refl _, ⟨rfl, by simp only [maxLen]; have := Nat.le_mul_of_pos_right len hsz0; omega⟩, ?_, fun b => Iff.rfl⟩
          show (w.heap.push _)[w.heap.size]? = _
          simp [hc4])
      exact ⟨_, _, σ', F', hrun, hp, by simp [ST.den, SC.den, hL]⟩

theorem denR_append {σ : Sg} : ∀ {l r : List (List (SC (std K)))} {vs ws : List (List Value)}, denR σ l = some vs → denR σ r = some ws → denR σ (catL' l r) = some (vs ++ ws)
  | [], r, vs, ws, h, h2 => by simp [denR] at h; subst h; exact h2
  | c :: l, r, vs, ws, h, h2 => by
    obtain ⟨v, us, h3, h4, rfl⟩ := denR_cons.1 h
    exact denR_cons.2 ⟨v, us ++ ws, h3, denR_append h4 h2, rfl⟩

theorem vecCat_ok {A : Ar (std K)} (hA : ArOK A) {σ : Sg} {a b c : Vec (std K)} (h : vecCat A a b = some c) {ra rb : List (List Value)} (ha : a.den σ = some ra) (hb : b.den σ = some rb) : c.den σ = some (ra ++ rb) := by
  unfold vecCat at h
  split at h
  · cases h; exact denR_append ha hb
  · rename_i v r
    split at h
    · rename_i v' hv
      cases h
      simp only [Vec.den, Option.some.injEq] at ha; subst ha
      simp only [Vec.den]
      rw [hA.vapp v r v' σ rb hv hb]
    · cases h
  · rename_i v u
    split at h
    · rename_i v' hv
      cases h
      simp only [Vec.den, Option.some.injEq] at ha hb; subst ha hb
      simp only [Vec.den]
      rw [hA.vcat v u v' hv]
    · cases h
  · cases h
    simp [Vec.den, denR] at ha; subst ha
    simpa using hb
  · cases h

theorem smallB_ok {A : Ar (std K)} (hA : ArOK A) {σ : Sg} {c : Vec (std K)} {rows : List (List Value)} (hc : c.den σ = some rows) (h : (smallB A c).den (K := K) = true) : rows.length ≤ 1048576 := by
  cases c with
  | lit l =>
    have hl : rows.length = l.length := by
      simp only [Vec.den] at hc
      clear h
      induction l generalizing rows with
      | nil => simp [denR] at hc; subst hc; rfl
      | cons r l ih =>
        obtain ⟨v, ws, h1, h2, rfl⟩ := denR_cons.1 hc
        simp [ih h2]
    simp only [smallB, Bol.den, Nat.ble_eq] at h
    omega
  | opn v =>
    simp only [smallB, cmpN_den hA, cmpZ, Num.den] at h
    simp only [Vec.den, Option.some.injEq] at hc; subst hc
    have h1 : (A.vlen v : Int) ≤ 1048576 := of_decide_eq_true h
    have h2 : ((K.vden v).length : Int) ≤ 1048576 := by have := hA.vlen v; rw [← this]; exact h1
    omega

theorem emptyB_ok {A : Ar (std K)} (hA : ArOK A) {σ : Sg} {c : Vec (std K)} {rows : List (List Value)} (hc : c.den σ = some rows) : ((emptyB A c).den (K := K) = true ↔ rows.length = 0) := by
  cases c with
  | lit l =>
    cases l with
    | nil => simp [Vec.den, denR] at hc; subst hc; simp [emptyB, Bol.den]
    | cons r l =>
      obtain ⟨v, ws, h1, h2, rfl⟩ := denR_cons.1 hc
      simp [emptyB, Bol.den]
  | opn v =>
    simp only [emptyB, cmpN_den hA, cmpZ, Num.den, beq_iff_eq]
    simp only [Vec.den, Option.some.injEq] at hc; subst hc
    rw [hA.vlen]
    omega

theorem denR_one {σ : Sg} : ∀ {l : List (List (SC (std K)))} {rows : List (List Value)}, denR σ l = some rows → ∀ r ∈ rows, ∀ u ∈ r, u.oneCell' = true
  | [], rows, h => by simp [denR] at h; subst h; simp
  | c :: l, rows, h => by
    obtain ⟨v, ws, h1, h2, rfl⟩ := denR_cons.1 h
    intro r hr
    rcases List.mem_cons.1 hr with rfl | hr
    · exact denL_one h1
    · exact denR_one h2 r hr

theorem Vec.one {A : Ar (std K)} (hA : ArOK A) {σ : Sg} {c : Vec (std K)} {rows : List (List Value)} (hc : c.den σ = some rows) : ∀ r ∈ rows, ∀ u ∈ r, u.oneCell' = true := by
  cases c with
  | lit l => exact denR_one hc
  | opn v => simp only [Vec.den, Option.some.injEq] at hc; subst hc; exact hA.vone v

theorem flatten_length {sz : Nat} : ∀ {rows : List (List Value)}, (∀ r ∈ rows, r.length = sz) → rows.flatten.length = rows.length * sz
  | [], _ => by simp
  | r :: rows, h => by
    rw [List.flatten_cons, List.length_append, h r (by simp), flatten_length fun x hx => h x (by simp [hx]), List.length_cons, Nat.succ_mul, Nat.add_comm]

theorem denR_drop {σ : Sg} : ∀ {l : List (List (SC (std K)))} {rows : List (List Value)} (n : Nat), denR σ l = some rows → denR σ (l.drop n) = some (rows.drop n)
  | l, rows, 0, h => by simpa using h
  | [], rows, n + 1, h => by simp [denR] at h; subst h; simp [denR]
  | c :: l, rows, n + 1, h => by
    obtain ⟨v, ws, h1, h2, rfl⟩ := denR_cons.1 h
    simpa using denR_drop n h2
theorem denR_take {σ : Sg} : ∀ {l : List (List (SC (std K)))} {rows : List (List Value)} (n : Nat), denR σ l = some rows → denR σ (l.take n) = some (rows.take n)
  | l, rows, 0, h => by simp [denR]
  | [], rows, n + 1, h => by simp [denR] at h; subst h; simp [denR]
  | c :: l, rows, n + 1, h => by
    obtain ⟨v, ws, h1, h2, rfl⟩ := denR_cons.1 h
    exact denR_cons.2 ⟨v, ws.take n, h1, denR_take n h2, rfl⟩

theorem vecSub_ok {A : Ar (std K)} (hA : ArOK A) {σ : Sg} {c c' : Vec (std K)} {l b : Num (std K).I} {rows : List (List Value)} (hc : c.den σ = some rows) (h : vecSub A c l b = some c')
    (h0 : 0 ≤ l.den (K := K)) (h1 : l.den (K := K) ≤ b.den (K := K)) (h2 : b.den (K := K) ≤ rows.length) : c'.den σ = some ((rows.drop (l.den (K := K)).toNat).take ((b.den (K := K)).toNat - (l.den (K := K)).toNat)) := by
  unfold vecSub at h
  split at h
  · cases h
    exact denR_take _ (denR_drop _ hc)
  · cases h
  · rename_i v
    split at h
    · rename_i v' hv
      cases h
      simp only [Vec.den, Option.some.injEq] at hc ⊢; subst hc
      rw [up_num hA, up_num hA] at hv
      exact hA.vsub v _ _ v' hv h0 h1 h2
    · cases h

def preN (m : Option (Num (std K).I)) (d : Nat) : Nat :=
  match m with
  | none => d
  | some k => (k.den (K := K)).toNat

theorem vecPre_ok {A : Ar (std K)} (hA : ArOK A) {σ : Sg} {c c' : Vec (std K)} {m : Option (Num (std K).I)} {rows : List (List Value)} (hc : c.den σ = some rows) (h : vecPre A c m = some c') (hm : ∀ k, m = some k → 0 ≤ k.den (K := K) ∧ k.den (K := K) ≤ rows.length) :
    c'.den σ = some (rows.take (preN (K := K) m rows.length)) := by
  cases m with
  | none => simp only [vecPre, Option.some.injEq] at h; subst h; simpa [preN] using hc
  | some k =>
    obtain ⟨h0, h1⟩ := hm k rfl
    have := vecSub_ok hA hc h (Int.le_refl 0) h0 h1
    simpa [Num.den, preN] using this

/-- What is known of a slice's rows. -/
theorem rowsS_ok {A : Ar (std K)} (hA : ArOK A) {h : Heap (std K)} {σ F} {w : World} (hr : HRep σ F h.n h.get w) {sz : Nat} {x : ST (std K)} {p : Option Nat} {c : Vec (std K)} (hs : rowsS A h sz x = some (p, c)) {vx : Value} (hx : x.den σ = some vx) :
    (p = none ∧ c = .lit [] ∧ ∃ b, vx = .slice b 0 0) ∨
    ∃ i L n rows, p = some i ∧ σ i = some L ∧ vx = .slice (some ⟨L.g, L.off, none⟩) n L.cap ∧ n ≤ L.len ∧ L.len ≤ L.cap ∧ c.den σ = some rows ∧ rows.length = n ∧ (∀ r ∈ rows, r.length = sz) ∧
      (∀ j u, rows.flatten[j]? = some u → w.cell? ((⟨L.g, L.off, none⟩ : Addr).add j) = some u) ∧
      (∀ T sz' c', h.get i = some (.vec T sz' c') → sz' = sz ∧ ∃ rest, rest.length + n * sz = L.cap * sz ∧ L.off = 0 ∧ L.cap ≤ maxLen ∧ w.heap[L.g]? = some (.cells (rows.flatten ++ rest).toArray T (0, 0)) ∧ ∀ b, F i b ↔ b = L.g) := by
  have key : ∀ i m (c0 : Vec (std K)) L rows0 pre rest T fr, σ i = some L → x = .one (.slc i m) → vecPre A c0 m = some c → c0.den σ = some rows0 → rows0.length = L.len → (∀ r ∈ rows0, r.length = sz) → pre.length = L.off → L.len ≤ L.cap → w.heap[L.g]? = some (.cells (pre ++ (rows0.flatten ++ rest)).toArray T fr) → p = some i →
      (∀ T' sz' c', h.get i = some (.vec T' sz' c') → sz' = sz ∧ T' = T ∧ fr = (0, 0) ∧ L.off = 0 ∧ L.cap ≤ maxLen ∧ rest.length + L.len * sz = L.cap * sz ∧ ∀ b, F i b ↔ b = L.g) →
      ∃ i L n rows, p = some i ∧ σ i = some L ∧ vx = .slice (some ⟨L.g, L.off, none⟩) n L.cap ∧ n ≤ L.len ∧ L.len ≤ L.cap ∧ c.den σ = some rows ∧ rows.length = n ∧ (∀ r ∈ rows, r.length = sz) ∧
      (∀ j u, rows.flatten[j]? = some u → w.cell? ((⟨L.g, L.off, none⟩ : Addr).add j) = some u) ∧
      (∀ T sz' c', h.get i = some (.vec T sz' c') → sz' = sz ∧ ∃ rest, rest.length + n * sz = L.cap * sz ∧ L.off = 0 ∧ L.cap ≤ maxLen ∧ w.heap[L.g]? = some (.cells (rows.flatten ++ rest).toArray T (0, 0)) ∧ ∀ b, F i b ↔ b = L.g) := by
    rintro i m c0 L rows0 pre rest T fr hL rfl hpre0 hc hl hsz hpre hcap hb rfl hown
    obtain ⟨n, hn, hnm, hv⟩ : ∃ n, n ≤ L.len ∧ n = preN (K := K) m rows0.length ∧ vx = .slice (some ⟨L.g, L.off, none⟩) n L.cap := by
      simp only [ST.den, SC.den, hL] at hx
      cases m with
      | none => simp at hx; exact ⟨L.len, Nat.le_refl _, hl.symm, hx.symm⟩
      | some k =>
        simp only at hx
        split at hx
        · rename_i hk; simp at hx; exact ⟨(k.den (K := K)).toNat, by omega, rfl, hx.symm⟩
        · cases hx
    have hc' := vecPre_ok hA hc hpre0 (fun k hk => by
      subst hk
      simp only [ST.den, SC.den, hL] at hx
      split at hx
      · rename_i hk; rw [hl]; exact hk
      · cases hx)
    rw [← hnm] at hc'
    have hz : ∀ r ∈ rows0.take n, r.length = sz := fun r hr => hsz r (List.mem_of_mem_take hr)
    have hln : (rows0.take n).length = n := by rw [List.length_take, hl]; omega
    have hsplit : rows0.flatten = (rows0.take n).flatten ++ (rows0.drop n).flatten := by rw [← List.flatten_append, List.take_append_drop]
    refine ⟨i, L, n, rows0.take n, rfl, hL, hv, hn, hcap, hc', hln, hz, fun j u hu => ?_, fun T' sz' c' hg => ?_⟩
    · rw [addr_add]
      simp only [World.cell?, hb, List.getElem?_toArray]
      simp only [Option.isSome_none, Bool.false_eq_true, if_false]
      rw [hsplit, List.append_assoc, ← hpre, List.getElem?_append_right (by omega), Nat.add_sub_cancel_left, List.getElem?_append_left (List.getElem?_eq_some_iff.1 hu).1]
      exact hu
    · obtain ⟨rfl, rfl, rfl, h3, h4, h5, h6⟩ := hown T' sz' c' hg
      refine ⟨rfl, (rows0.drop n).flatten ++ rest, ?_, h3, h4, ?_, h6⟩
      · rw [List.length_append, flatten_length (fun r hr => hsz r (List.mem_of_mem_drop hr)), List.length_drop, hl, ← h5]
        have : (L.len - n) * sz' + n * sz' = L.len * sz' := by rw [← Nat.add_mul]; congr 1; omega
        omega
      · have : pre = [] := List.eq_nil_of_length_eq_zero (by omega)
        subst this
        rw [hb, hsplit]; simp
  unfold rowsS at hs
  split at hs
  · simp at hs; obtain ⟨rfl, rfl⟩ := hs
    simp [ST.den, SC.den] at hx
    exact .inl ⟨rfl, rfl, none, hx.symm⟩
  · simp at hs; obtain ⟨rfl, rfl⟩ := hs
    obtain ⟨a, rfl⟩ := den_eslc (K := K) hx
    exact .inl ⟨rfl, rfl, _, rfl⟩
  · rename_i i m
    right
    split at hs
    · rename_i T s c0 hi
      split at hs
      · rename_i he; subst he
        split at hs
        · rename_i c' hp
          simp at hs; obtain ⟨rfl, rfl⟩ := hs
          obtain ⟨L, hL, pre, rows, rest, h1, h2, h3, h4, h5, h6, ⟨h9, h10⟩, h7, h8⟩ := hr.sat i _ hi
          exact key i m c0 L rows pre rest _ _ hL rfl hp h1 h3 h2 h4 h6 h7 rfl (fun T' sz' c'' hg => by rw [hi] at hg; cases hg; exact ⟨rfl, rfl, rfl, h9, h10, h5, h8⟩)
        · cases hs
      · cases hs
    · rename_i T s c0 hi
      split at hs
      · rename_i he; subst he
        split at hs
        · rename_i c' hp
          simp at hs; obtain ⟨rfl, rfl⟩ := hs
          obtain ⟨L, hL, pre, rows, rest, fr, h1, h2, h3, h4, h5, h6, h7⟩ := hr.sat i _ hi
          exact key i m c0 L rows pre rest _ _ hL rfl hp h1 h3 h2 h4 h5 h6 rfl (fun T' sz' c'' hg => by rw [hi] at hg; cases hg)
        · cases hs
      · cases hs
    · cases hs
  · cases hs

theorem zeroCells_size (z : Array Value) (n : Nat) : (Builtin.zeroCells z n).size = n * z.size := by simp [Builtin.zeroCells]

theorem appendS_ok {E : Env (std K)} (hA : ArOK E.A) {T ty : TypeId} {s x v : ST (std K)} {h h' : Heap (std K)} {σ F} {w : World} (hr : HRep σ F h.n h.get w) (hs : (appendS E T s x h).eval = some (v, h')) {vs vx : Value} (hds : s.den σ = some vs) (hdx : x.den σ = some vx) :
    ∃ y w' σ' F', (Builtin.append_ #[T, T] ty #[vs, vx]).run E.P w = .ok y w' ∧ Post σ F h.n h.get w σ' F' h'.n h'.get w' ∧ v.den σ' = some y := by
  unfold appendS at hs
  split at hs
  case h_2 => simp [Out.eval] at hs
  rename_i e hu
  split at hs
  case h_2 => simp [Out.eval] at hs
  rename_i sz by' z hsz hby hz
  split at hs
  case isFalse => simp [Out.eval] at hs
  rename_i hc
  obtain ⟨hsz0, hby0, hzl⟩ := hc
  unfold sizeT at hsz
  unfold bytesT at hby
  unfold zeroT at hz
  cases hi : E.P.info? e with
  | none => simp [hi] at hz
  | some it =>
  simp only [hi, Option.some.injEq] at hsz hby hz
  subst hsz hby
  cases hzz : it.zero with
  | none => simp [hzz] at hz
  | some zv =>
  simp only [hzz] at hz
  have hzs : zv.cells.size = it.size := by have := denL_length (mapO_constSC (K := K) (σ := σ) hz); simp at this; omega
  split at hs
  case h_2 => simp [Out.eval] at hs
  rename_i p c1 q c2 hrs hrx
  have hS := rowsS_ok hA hr hrs hds
  have hX := rowsS_ok hA hr hrx hdx
  split at hs
  · -- nothing comes
    simp only [Out.eval, Option.some.injEq, Prod.mk.injEq] at hs
    obtain ⟨rfl, rfl⟩ := hs
    rcases hX with ⟨_, _, b, rfl⟩ | ⟨_, _, _, _, h1, _⟩
    case inr => cases h1
    refine ⟨vs, w, σ, F, ?_, .refl hr, hds⟩
    rcases hS with ⟨_, _, a, rfl⟩ | ⟨i, L, n, rows, _, hL, rfl, hn, hcap, _⟩
    · cases a <;> cases b <;> simp [Builtin.append_, run_underlying hu, sizeOf, typeInfo, hi, Builtin.lenOf, Builtin.firstCells, storeCells, loadCells, loadCellsFrom]
    · have hLc : n ≤ L.cap := Nat.le_trans hn hcap
      cases b <;> simp [Builtin.append_, run_underlying hu, sizeOf, typeInfo, hi, Builtin.lenOf, Builtin.firstCells, hLc, storeCells, loadCells, loadCellsFrom]
  · rename_i k
    rcases hX with ⟨h1, _⟩ | ⟨k', M, mlen, rows2, h1, hM, rfl, hmM, hMc, hc2, hl2, hz2, hn2, _⟩
    · cases h1
    cases h1
    rw [eval_branch] at hs
    split at hs
    case isFalse => simp [Out.eval] at hs
    rename_i hsm2
    have hs2 := smallB_ok hA hc2 hsm2
    have hnl : rows2.flatten.length = mlen * it.size := by rw [flatten_length hz2, hl2]
    have hone2 : ∀ u ∈ rows2.flatten, u.oneCell' = true := fun u hu => by
      obtain ⟨r, h1, h2⟩ := List.mem_flatten.1 hu
      exact Vec.one hA hc2 r h1 u h2
    have hbb : ∀ n : Nat, n ≤ 2097152 → n * it.bytes ≤ 140737488355328 := fun n hn => by
      have := Nat.mul_le_mul hn hby0
      omega
    split at hs
    · -- onto nothing
      rcases hS with ⟨_, rfl, a, rfl⟩ | ⟨_, _, _, _, h1, _⟩
      case inr => cases h1
      rw [eval_branch] at hs
      split at hs
      · rename_i hem
        have h0 := (emptyB_ok hA hc2).1 hem
        simp only [Out.eval, Option.some.injEq, Prod.mk.injEq] at hs
        obtain ⟨rfl, rfl⟩ := hs
        have hM0 : mlen = 0 := by omega
        refine ⟨.slice a 0 0, w, σ, F, ?_, .refl hr, hds⟩
        have hf := run_firstCells_some (P := E.P) w it.size mlen ⟨M.g, M.off, none⟩ mlen M.cap rows2.flatten hnl hn2
        have hr0 : rows2 = [] := List.eq_nil_of_length_eq_zero (by omega)
        rw [hM0] at hf
        cases a <;> simp [Builtin.append_, run_underlying hu, sizeOf, typeInfo, hi, Builtin.lenOf, hM0, hf, hr0, storeCells]
      · rename_i hem
        have h0 : 0 < mlen := by
          rcases Nat.eq_zero_or_pos mlen with h | h
          · exact absurd ((emptyB_ok hA hc2).2 (by omega)) hem
          · exact h
        simp only [Out.eval, Option.some.injEq, Prod.mk.injEq] at hs
        obtain ⟨rfl, rfl⟩ := hs
        have hrun : (Builtin.append_ #[T, T] ty #[.slice a 0 0, .slice (some ⟨M.g, M.off, none⟩) mlen M.cap]).run E.P w = .ok (.slice (some ⟨w.heap.size, 0, none⟩) mlen (grownCap w mlen 0 e)) (w.drew.alloc (.cells (rows2.flatten.toArray ++ Builtin.zeroCells zv.cells (grownCap w mlen 0 e - mlen)) e)) := by
          cases a with
          | none => exact run_append_nil (P := E.P) w T ty e it zv hu hi hzz ⟨M.g, M.off, none⟩ mlen M.cap rows2.flatten hnl hn2 h0 (by omega) (by have := hbb mlen (by omega); omega)
          | some a =>
            have := run_append_grow (P := E.P) w T ty e it zv hu hi hzz a 0 0 [] (by simp) (by simp) ⟨M.g, M.off, none⟩ mlen M.cap rows2.flatten hnl hn2 (by omega) (by omega) (growslice_fits (by omega) (hbb _ (by omega)))
            simpa using this
        have hge := grownCap_ge w mlen 0 e
        have hle := grownCap_le_maxLen w mlen 0 e (by simp only [maxLen]; omega)
        obtain ⟨σ', F', hp, hL', hle'⟩ := hr.remake (w' := w.drew.alloc (.cells (rows2.flatten.toArray ++ Builtin.zeroCells zv.cells (grownCap w mlen 0 e - mlen)) e)) (drop := none) (e := .vec e it.size c2) (L := ⟨w.heap.size, 0, mlen, grownCap w mlen 0 e⟩)
          (fun i h => by cases h) rfl rfl rfl (by simp) (fun b hb _ => RowKit.Below.heap_alloc _ _ _ hb) (.inl (Nat.le_refl _)) (by simp) rfl (fun σ' hle2 hL2 => by
            refine ⟨[], rows2, (Builtin.zeroCells zv.cells (grownCap w mlen 0 e - mlen)).toList, Vec.mono hle2 _ _ hc2, hz2, hl2, rfl, ?_, hge, ⟨rfl, hle⟩, ?_, fun b => Iff.rfl⟩
            · rw [Array.length_toList, zeroCells_size, hzs, ← Nat.add_mul]; congr 1; simp only; omega
            · show (w.heap.push _)[w.heap.size]? = _
              simp)
        exact ⟨_, _, σ', F', hrun, hp, by simp [ST.den, SC.den, hL']⟩
    · rename_i i
      rcases hS with ⟨h1, _⟩ | ⟨i', L, n, rows1, h1, hL, rfl, hnL, hLc, hc1, hl1, hz1, hn1, hvec⟩
      · cases h1
      cases h1
      split at hs
      case isFalse => simp [Out.eval] at hs
      rename_i hown
      rw [eval_branch] at hs
      split at hs
      case isFalse => simp [Out.eval] at hs
      rename_i hsm1
      have hs1 := smallB_ok hA hc1 hsm1
      split at hs
      case h_2 => simp [Out.eval] at hs
      rename_i c hcat
      simp only [Out.eval, Option.some.injEq, Prod.mk.injEq] at hs
      obtain ⟨rfl, rfl⟩ := hs
      have hcd := vecCat_ok hA hcat hc1 hc2
      have hol : rows1.flatten.length = n * it.size := by rw [flatten_length hz1, hl1]
      -- the array
      unfold isOwnVec at hown
      split at hown
      case h_2 => cases hown
      rename_i T1 s1 c1' hg
      have hT1 := (Nat.eq_of_beq_eq_true hown).symm
      subst hT1
      obtain ⟨rfl, rest, k5, k9, k10, k7, k8⟩ := hvec _ _ _ hg
      have hrows : ∀ r ∈ rows1 ++ rows2, r.length = it.size := fun r hr' => by
        rcases List.mem_append.1 hr' with h | h
        · exact hz1 r h
        · exact hz2 r h
      have hlt : L.g < w.heap.size := (Array.getElem?_eq_some_iff.1 k7).1
      have hFi : F i L.g := (k8 L.g).2 rfl
      rcases Nat.lt_or_ge L.cap (n + mlen) with hroom | hroom
      · -- a new block
        have hrun := run_append_grow (P := E.P) w T ty e it zv hu hi hzz ⟨L.g, L.off, none⟩ n L.cap rows1.flatten hol hn1 ⟨M.g, M.off, none⟩ mlen M.cap rows2.flatten hnl hn2 hroom (by omega) (growslice_fits hroom (hbb _ (by omega)))
        have hge := grownCap_ge w (n + mlen) L.cap e
        have hle := grownCap_le_maxLen w (n + mlen) L.cap e (by simp only [maxLen]; omega)
        obtain ⟨σ', F', hp, hL', hle'⟩ := hr.remake (w' := w.drew.alloc (.cells (rows1.flatten.toArray ++ rows2.flatten.toArray ++ Builtin.zeroCells zv.cells (grownCap w (n + mlen) L.cap e - (n + mlen))) e)) (drop := some i) (e := .vec e it.size c) (L := ⟨w.heap.size, 0, n + mlen, grownCap w (n + mlen) L.cap e⟩)
          (fun j h => by cases h; exact ⟨_, hg, rfl⟩) rfl rfl rfl (by simp) (fun b hb _ => RowKit.Below.heap_alloc _ _ _ hb) (.inl (Nat.le_refl _)) (by simp) rfl (fun σ' hle2 hL2 => by
            refine ⟨[], rows1 ++ rows2, (Builtin.zeroCells zv.cells (grownCap w (n + mlen) L.cap e - (n + mlen))).toList, Vec.mono hle2 _ _ hcd, hrows, by simp [hl1, hl2], rfl, ?_, hge, ⟨rfl, hle⟩, ?_, fun b => Iff.rfl⟩
            · rw [Array.length_toList, zeroCells_size, hzs, ← Nat.add_mul]; congr 1; simp only; omega
            · show (w.heap.push _)[w.heap.size]? = _
              simp)
        exact ⟨_, _, σ', F', hrun, hp, by simp [ST.den, SC.den, hL']⟩
      · -- room enough
        have hm1 : (n + mlen) * it.size ≤ L.cap * it.size := Nat.mul_le_mul_right _ hroom
        rw [Nat.add_mul] at hm1
        have hrun := run_append_room (P := E.P) w T ty e it hu hi L.g n L.cap (rows1.flatten ++ rest).toArray (by simpa using k7) ⟨M.g, M.off, none⟩ mlen M.cap rows2.flatten hnl hn2 hone2 hroom (by rw [List.size_toArray, List.length_append, hol, hnl]; omega)
        have hcells : ((rows1.flatten ++ rest).toArray.toList.take (n * it.size) ++ rows2.flatten ++ (rows1.flatten ++ rest).toArray.toList.drop (n * it.size + rows2.flatten.length)) = (rows1 ++ rows2).flatten ++ rest.drop rows2.flatten.length := by
          rw [← hol]
          simp [List.drop_append, List.flatten_append]
        have hoff : (⟨L.g, L.off, none⟩ : Addr) = ⟨L.g, 0, none⟩ := by rw [k9]
        rw [hcells] at hrun
        obtain ⟨σ', F', hp, hL', hle'⟩ := hr.remake (w' := w.setRow L.g ((rows1 ++ rows2).flatten ++ rest.drop rows2.flatten.length).toArray) (drop := some i) (e := .vec e it.size c) (L := ⟨L.g, 0, n + mlen, L.cap⟩)
          (fun j h => by cases h; exact ⟨_, hg, rfl⟩) rfl rfl rfl (by simp) (fun b hb hd => setRow_other w L.g b _ (fun hbg => hd i rfl (hbg ▸ hFi))) (.inr ⟨i, rfl, hFi⟩) (by simpa using hlt) rfl (fun σ' hle2 hL2 => by
            refine ⟨[], rows1 ++ rows2, rest.drop rows2.flatten.length, Vec.mono hle2 _ _ hcd, hrows, by simp [hl1, hl2], rfl, ?_, hroom, ⟨rfl, k10⟩, ?_, fun b => Iff.rfl⟩
            · rw [List.length_drop, hnl, Nat.add_mul]; simp only; omega
            · rw [List.nil_append]; exact setRow_heap w L.g _ _ _ _ k7)
        exact ⟨_, _, σ', F', by rw [hoff]; exact hrun, hp, by simp [ST.den, SC.den, hL']⟩

/-- A place of one's own is written anew. -/
theorem HRep.rewrite {σ F} {h : Heap (std K)} {w w' : World} (hr : HRep σ F h.n h.get w) {i : Nat} {e e' : Ent (std K)} {L : Loc} (hi : h.get i = some e) (hown : e.kd = .own) (hown' : e'.kd = .own) (hL : σ i = some L) (hF : ∀ b, F i b ↔ b = L.g)
    (hos : w'.os = w.os) (htp : w'.tape = w.tape) (hout : w'.output = w.output) (hsz : w'.heap.size = w.heap.size) (hkeep : ∀ b, b ≠ L.g → w'.heap[b]? = w.heap[b]?) (hsat : e'.sat σ L (F i) w') :
    Post σ F h.n h.get w σ F (h.set i e').n (h.set i e').get w' := by
  have hget : ∀ j, (h.set i e').get j = if j = i then some e' else h.get j := fun j => by
    show look (repl i _ h.l) j = _
    rw [look_repl]
    have : (look h.l i).isSome = true := by
      have : look h.l i = some e := hi
      simp [this]
    simp [this, Heap.get]
  refine ⟨fun _ _ => rfl, Nat.le_refl _, ⟨hr.fresh, ?_, ?_, ?_⟩, ⟨hos, htp, hout, by omega, fun b hb hd => hkeep b fun hbg => hd ⟨i, e, hi, hown, (hF b).2 hbg⟩⟩, ?_⟩
  · intro j e1 he
    rw [hget] at he
    by_cases hj : j = i
    · subst hj
      simp at he; subst he
      exact ⟨L, hL, hsat⟩
    · simp [hj] at he
      obtain ⟨M, hM, hs⟩ := hr.sat j e1 he
      refine ⟨M, hM, Ent.sat_local (w := w) (fun b hb => hkeep b fun hbg => ?_) hs⟩
      exact hr.apart j i e1 _ hj he hi (by rw [hown]; exact Kd.own_right _) b hb ((hF b).2 hbg)
  · intro a b e1 e2 hn ha hb hs x hx hx'
    rw [hget] at ha hb
    by_cases h1 : a = i <;> by_cases h2 : b = i
    · omega
    · simp [h2] at hb; subst h1
      exact hr.apart a b _ e2 hn hi hb (by rw [hown]; exact Kd.own_left _) x hx hx'
    · simp [h1] at ha; subst h2
      exact hr.apart a b e1 _ hn ha hi (by rw [hown]; exact Kd.own_right _) x hx hx'
    · simp [h1] at ha; simp [h2] at hb
      exact hr.apart a b e1 e2 hn ha hb hs x hx hx'
  · intro j e1 he b hb
    rw [hget] at he
    by_cases hj : j = i
    · subst hj; rw [hsz]; exact hr.inside j _ hi b hb
    · simp [hj] at he; rw [hsz]; exact hr.inside j e1 he b hb
  · intro j e1 b he hb
    rw [hget] at he
    by_cases hj : j = i
    · subst hj; exact .inl ⟨j, _, hi, hb, .inl hown⟩
    · simp [hj] at he; exact .inl ⟨j, e1, he, hb, .inr rfl⟩

theorem denR_set {σ : Sg} : ∀ {l : List (List (SC (std K)))} {rows : List (List Value)} {r : List (SC (std K))} {v : List Value} (i : Nat), denR σ l = some rows → denL σ r = some v → denR σ (l.set i r) = some (rows.set i v)
  | [], rows, r, v, i, h, hv => by simp [denR] at h; subst h; simp [denR]
  | c :: l, rows, r, v, i, h, hv => by
    obtain ⟨u, ws, h1, h2, rfl⟩ := denR_cons.1 h
    cases i with
    | zero => exact denR_cons.2 ⟨v, ws, hv, h2, rfl⟩
    | succ i => exact denR_cons.2 ⟨u, ws.set i v, h1, denR_set i h2 hv, rfl⟩

theorem vecSet_ok {A : Ar (std K)} (hA : ArOK A) {σ : Sg} {c c' : Vec (std K)} {n : Num (std K).I} {r : List (SC (std K))} {rows : List (List Value)} {v : List Value} (hc : c.den σ = some rows) (hr : denL σ r = some v) (h : vecSet A c n r = some c')
    (h0 : 0 ≤ n.den (K := K)) (h1 : n.den (K := K) < rows.length) : c'.den σ = some (rows.set (n.den (K := K)).toNat v) := by
  cases c with
  | lit l =>
    cases n with
    | opn u => simp [vecSet] at h
    | lit k =>
      simp only [vecSet] at h
      split at h
      · cases h
        exact denR_set _ hc hr
      · cases h
  | opn u =>
    simp only [vecSet] at h
    split at h
    · rename_i v' hv
      cases h
      simp only [Vec.den, Option.some.injEq] at hc ⊢; subst hc
      rw [up_num hA] at hv
      exact hA.vset u _ r v' σ v hv h0 h1 hr
    · cases h

theorem rows_put {rows : List (List Value)} {sz : Nat} (hs : ∀ r ∈ rows, r.length = sz) {i : Nat} {r : List Value} (hi : rows[i]? = some r) (r' : List Value) :
    ∃ p q, rows.flatten = p ++ (r ++ q) ∧ p.length = i * sz ∧ (rows.set i r').flatten = p ++ (r' ++ q) := by
  induction rows generalizing i with
  | nil => simp at hi
  | cons x rows ih =>
    cases i with
    | zero => simp at hi; subst hi; exact ⟨[], rows.flatten, by simp, by simp, by simp⟩
    | succ i =>
      obtain ⟨p, q, h1, h2, h3⟩ := ih (fun r hr => hs r (by simp [hr])) (i := i) (by simpa using hi)
      refine ⟨x ++ p, q, by simp [h1], ?_, by simp [h3]⟩
      rw [List.length_append, h2, hs x (by simp), Nat.succ_mul]; omega

theorem storeV_ok {E : Env (std K)} (hA : ArOK E.A) {T : TypeId} {a x : ST (std K)} {h h' : Heap (std K)} {σ F} {w : World} (hr : HRep σ F h.n h.get w) (hs : storeV E T a x h = some h') {va vx : Value} (ha : a.den σ = some va) (hx : x.den σ = some vx) :
    ∃ w', (Instr.storeAt T va vx).run E.P w = .ok () w' ∧ Post σ F h.n h.get w σ F h'.n h'.get w' := by
  unfold storeV at hs
  split at hs
  case h_2 => cases hs
  rename_i i n s o v k hv hk
  split at hs
  case isFalse => cases hs
  rename_i hvk
  split at hs
  case h_2 => cases hs
  rename_i U sz c hi
  split at hs
  case isFalse => cases hs
  rename_i hss
  subst hss
  split at hs
  case h_2 => cases hs
  rename_i r hg
  split at hs
  case isFalse => cases hs
  rename_i hb
  obtain ⟨hrl, hov⟩ := hb
  split at hs
  case h_2 => cases hs
  rename_i c' hset
  simp at hs; subst hs
  obtain ⟨L, hL, pre, rows, rest, h1, h2, h3, h4, h5, h6, ⟨h9, h10⟩, h7, h8⟩ := hr.sat i _ hi
  rw [stCells_eq] at hv
  obtain ⟨xs, hxs, hxc⟩ := ST.cells_den hx hv
  have hxl := denL_length hxs
  simp only [ST.den, SC.den, hL] at ha
  split at ha
  case isFalse => cases ha
  rename_i hp
  obtain ⟨hp0, hp1⟩ := hp
  simp only [Option.some.injEq] at ha; subst ha
  obtain ⟨y, hy, hyd⟩ := vecGet_ok hA h1 hg hp0 (by rw [h3]; exact hp1)
  have hput := putL_den (o := o) hyd hxs
  have hyl : y.length = s := h2 y (List.mem_of_getElem? hy)
  have hc' := vecSet_ok hA h1 hput hset hp0 (by rw [h3]; exact hp1)
  obtain ⟨p, q, hpq, hpl, hpq'⟩ := rows_put h2 hy (y.take o ++ (xs ++ y.drop (o + xs.length)))
  have hpre : pre = [] := List.eq_nil_of_length_eq_zero (by omega)
  subst hpre
  have hoff : L.off + (pathOff (K := K) [(n, s)] + o) = p.length + o := by simp [pathOff, h9, hpl]
  have hblk : w.heap[L.g]? = some (.cells (p ++ (y ++ (q ++ rest))).toArray U (0, 0)) := by
    rw [h7, hpq]; simp
  have hrun := run_storeCells_mid (P := E.P) L.g U xs (p.length + o) (p ++ (y ++ (q ++ rest))).toArray w hblk (by simp; omega) (denL_one hxs)
  have hcells : ((p ++ (y ++ (q ++ rest))).toArray.toList.take (p.length + o) ++ (xs ++ (p ++ (y ++ (q ++ rest))).toArray.toList.drop (p.length + o + xs.length))) = ([] ++ ((rows.set (n.den (K := K)).toNat (y.take o ++ (xs ++ y.drop (o + xs.length)))).flatten ++ rest)) := by
    rw [hpq']
    have e1 : (p ++ (y ++ (q ++ rest))).take (p.length + o) = p ++ y.take o := by
      rw [List.take_append, List.take_of_length_le (by omega), Nat.add_sub_cancel_left, List.take_append_of_le_length (by omega)]
    have e2 : (p ++ (y ++ (q ++ rest))).drop (p.length + o + xs.length) = y.drop (o + xs.length) ++ (q ++ rest) := by
      rw [List.drop_append, List.drop_of_length_le (by omega), Nat.add_assoc, Nat.add_sub_cancel_left, List.drop_append_of_le_length (by omega), List.nil_append]
    simp only [List.nil_append]
    rw [e1, e2]
    simp
  rw [hcells] at hrun
  refine ⟨w.setRow L.g ([] ++ ((rows.set (n.den (K := K)).toNat (y.take o ++ (xs ++ y.drop (o + xs.length)))).flatten ++ rest)).toArray, ?_, hr.rewrite hi rfl rfl hL h8 rfl rfl rfl (by simp) (fun b hb => setRow_other w L.g b _ hb) ?_⟩
  · have h2' : vx.cells.size = k := by rw [hxc]; simp; omega
    simp only [Instr.storeAt, Instr.sureAddr, storeVar, Sem.run_bind, Sem.run_pure, Result.andThen_ok, sizeT_run hk, h2', ne_eq, not_true_eq_false, if_false]
    rw [hxc, storeCells_shift, hoff]
    simpa using hrun
  · refine ⟨[], _, rest, hc', ?_, by simp [h3], by simp [h9], h5, h6, ⟨h9, h10⟩, setRow_heap w L.g _ _ _ _ hblk, h8⟩
    intro r' hr'
    rcases List.mem_or_eq_of_mem_set hr' with hm | rfl
    · exact h2 r' hm
    · simp; omega

end
end Go.Vse
