/- Loops: states are brought to one form (what a slot can't reach is forgotten; places are numbered anew; known numbers count as any others); a loop is told by what its states are. -/
import Derived.Test.YtpmoieekpalheaaGreatDoorVseP
namespace Go.Vse
open Go
noncomputable section

section
variable {τ : Ty}
def posOf : List Nat → Nat → Nat → Nat
  | [], _, k => k
  | r :: rs, i, k => if Nat.beq r i then k else posOf rs i (k + 1)
def SC.ren (f : Nat → Nat) : SC τ → SC τ
  | .ptr i p o => .ptr (f i) p o
  | .slc i n => .slc (f i) n
  | .eslc i => .eslc (f i)
  | .mp i => .mp (f i)
  | .ifc t v => .ifc t (v.ren f)
  | .cap g x => .cap (g.ren f) (x.ren f)
  | c => c
def mapL {α β : Type} (f : α → β) : List α → List β
  | [] => []
  | a :: r => f a :: mapL f r
def ST.ren (f : Nat → Nat) : ST τ → ST τ
  | .one c => .one (c.ren f)
  | .agg l => .agg (mapL (SC.ren f) l)
  | .tup l => .tup (mapL (fun x => (x.1, mapL (SC.ren f) x.2)) l)
def Vec.ren (f : Nat → Nat) : Vec τ → Vec τ
  | .lit l => .lit (mapL (mapL (SC.ren f)) l)
  | .opn v => .opn v
def Ent.ren (f : Nat → Nat) : Ent τ → Ent τ
  | .cells l T => .cells (mapL (SC.ren f) l) T
  | .ccells l T => .ccells (mapL (SC.ren f) l) T
  | .vec T s c => .vec T s (c.ren f)
  | .ro T s c => .ro T s (c.ren f)
  | .abs m => .abs m
  | .av i o s m => .av (f i) o s m
  | .imap k l => .imap k (mapL (fun x => (x.1, SC.ren f x.2)) l)
def addO : List Nat → List Nat → List Nat
  | [], acc => acc
  | i :: r, acc => if memN i acc then addO r acc else addO r (catL acc [i])
def reachO (h : Heap τ) : Nat → List Nat → List Nat → List Nat
  | 0, _, acc => acc
  | n + 1, todo, acc => reachO h n (catMap (fun i => match h.get i with | some e => e.idxs | none => []) todo) (addO todo acc)
def nodupB : List Nat → Bool
  | [] => true
  | i :: r => !memN i r && nodupB r
/-- Known numbers count as any others. -/
def Num.open' (A : Ar τ) (n : Num τ.I) : Num τ.I := .opn (n.up A)
def Bol.open' (A : Ar τ) (n : Bol τ.B) : Bol τ.B := .opn (n.up A)
def SC.open' (A : Ar τ) : SC τ → SC τ
  | .int k n => .int k (n.open' A)
  | .bool b => .bool (b.open' A)
  | c => c
def Ent.open' (A : Ar τ) : Ent τ → Ent τ
  | .cells l T => .cells (mapL (SC.open' A) l) T
  | e => e
def ST.open' (A : Ar τ) : ST τ → ST τ
  | .one c => .one (c.open' A)
  | .agg l => .agg (mapL (SC.open' A) l)
  | v => v
def openS (A : Ar τ) (x : List (Nat × ST τ) × Heap τ) : List (Nat × ST τ) × Heap τ := (mapL (fun p => (p.1, p.2.open' A)) x.1, ⟨x.2.n, mapL (fun p => (p.1, p.2.open' A)) x.2.l⟩)

def pickT (tm : List (Nat × ST τ)) : List Nat → List (Nat × ST τ)
  | [] => []
  | t :: r => match look tm t with
    | some v => (t, v) :: pickT tm r
    | none => pickT tm r
/-- The places of some indices, numbered from k on. -/
def enumL (h : Heap τ) (f : Nat → Nat) (gs : List Nat) : Nat → List Nat → List (Nat × Ent τ)
  | _, [] => []
  | k, i :: r => if memN i gs then enumL h f gs (k + 1) r else match h.get i with
    | some e => (k, e.ren f) :: enumL h f gs (k + 1) r
    | none => enumL h f gs (k + 1) r
def canonO (E : Env τ) (gs ts : List Nat) (tm : List (Nat × ST τ)) (h : Heap τ) : Option (List (Nat × ST τ) × Heap τ) :=
  let vs := pickT tm ts
  let rs := reachO h 4 (catMap (fun p => p.2.idxs) vs) gs
  let f := fun i => posOf rs i 0
  if nodupB rs && allB (fun p => Nat.beq (rs.getD p.2 (p.2 + 1)) p.2) E.glob && allB (fun p => allB (fun i => memN i rs) p.2.idxs) vs && allB (fun i => memN i gs || match h.get i with | some e => allB (fun j => memN j rs) e.idxs | none => true) rs
  then some (openS E.A (mapL (fun p => (p.1, p.2.ren f)) vs, ⟨rs.length, enumL h f gs 0 rs⟩)) else none
end

section
variable {K : Kit}

theorem posOf_ok : ∀ (rs : List Nat) (i k : Nat), i ∈ rs → k ≤ posOf rs i k ∧ rs[posOf rs i k - k]? = some i
  | [], i, k, h => by simp at h
  | r :: rs, i, k, h => by
    simp only [posOf]
    by_cases hr : Nat.beq r i = true
    · have := Nat.eq_of_beq_eq_true hr; subst this
      simp
    · rw [if_neg hr]
      have hne : i ≠ r := fun e => hr (by subst e; exact Nat.beq_refl i)
      obtain ⟨h1, h2⟩ := posOf_ok rs i (k + 1) (by simpa [hne] using h)
      refine ⟨by omega, ?_⟩
      rw [show posOf rs i (k + 1) - k = (posOf rs i (k + 1) - (k + 1)) + 1 by omega]
      simpa using h2

theorem posOf_get {rs : List Nat} {i : Nat} (h : i ∈ rs) : rs[posOf rs i 0]? = some i := by
  have := (posOf_ok rs i 0 h).2; simpa using this

theorem nodupB_ok : ∀ {rs : List Nat}, nodupB rs = true → rs.Nodup
  | [], _ => List.nodup_nil
  | i :: r, h => by
    simp only [nodupB, Bool.and_eq_true, Bool.not_eq_true'] at h
    refine List.nodup_cons.2 ⟨fun hm => ?_, nodupB_ok h.2⟩
    rw [memN_iff.2 hm] at h; simp at h

/-- The numbering. -/
def Sg.num (σ : Sg) (rs : List Nat) : Sg := fun i => match rs[i]? with
  | some j => σ j
  | none => none

theorem Sg.num_pos {σ : Sg} {rs : List Nat} {i : Nat} (h : i ∈ rs) : σ.num rs (posOf rs i 0) = σ i := by
  simp [Sg.num, posOf_get h]

theorem SC.ren_den {σ : Sg} {rs : List Nat} : ∀ (c : SC (std K)) (v : Value), (∀ i ∈ c.idxs, i ∈ rs) → c.den σ = some v → (c.ren fun i => posOf rs i 0).den (σ.num rs) = some v
  | .int k n, v, _, h => h
  | .bool b, v, _, h => h
  | .str s, v, _, h => h
  | .nil, v, _, h => h
  | .ptr i p o, v, hi, h => by
    have := Sg.num_pos (σ := σ) (hi i (by simp [SC.idxs]))
    simp only [SC.ren, SC.den, this] at h ⊢; exact h
  | .slc i n, v, hi, h => by
    have := Sg.num_pos (σ := σ) (hi i (by simp [SC.idxs]))
    simp only [SC.ren, SC.den, this] at h ⊢; exact h
  | .eslc i, v, hi, h => by
    have := Sg.num_pos (σ := σ) (hi i (by simp [SC.idxs]))
    simp only [SC.ren, SC.den, this] at h ⊢; exact h
  | .mp i, v, hi, h => by
    have := Sg.num_pos (σ := σ) (hi i (by simp [SC.idxs]))
    simp only [SC.ren, SC.den, this] at h ⊢; exact h
  | .nslc, v, _, h => h
  | .nif, v, _, h => h
  | .ifc t x, v, hi, h => by
    simp only [SC.ren, SC.den] at h ⊢
    split at h
    · rename_i y hy
      rw [SC.ren_den x y (fun i h => hi i (by simpa [SC.idxs] using h)) hy]; exact h
    · cases h
  | .nfn, v, _, h => h
  | .fn f, v, _, h => h
  | .cap f x, v, hi, h => by
    simp only [SC.ren, SC.den] at h ⊢
    split at h
    · rename_i q first caps y h1 h2
      rw [SC.ren_den f _ (fun i h => hi i (by simp [SC.idxs, h])) h1, SC.ren_den x _ (fun i h => hi i (by simp [SC.idxs, h])) h2]; exact h
    · cases h
  | .nmap, v, _, h => h

theorem denL_ren {σ : Sg} {rs : List Nat} : ∀ (l : List (SC (std K))) (vs : List Value), (∀ i ∈ catMap SC.idxs l, i ∈ rs) → denL σ l = some vs → denL (σ.num rs) (mapL (SC.ren fun i => posOf rs i 0) l) = some vs
  | [], vs, _, h => h
  | c :: r, vs, hi, h => by
    obtain ⟨v, ws, h1, h2, rfl⟩ := denL_cons.1 h
    exact denL_cons.2 ⟨v, ws, SC.ren_den c v (fun i h => hi i (by simp [catMap_nil, catMap_cons, h])) h1, denL_ren r ws (fun i h => hi i (by simp [catMap_nil, catMap_cons, h])) h2, rfl⟩

theorem denR_ren {σ : Sg} {rs : List Nat} : ∀ (l : List (List (SC (std K)))) (vs : List (List Value)), (∀ i ∈ catMap (catMap SC.idxs) l, i ∈ rs) → denR σ l = some vs → denR (σ.num rs) (mapL (mapL (SC.ren fun i => posOf rs i 0)) l) = some vs
  | [], vs, _, h => h
  | c :: r, vs, hi, h => by
    obtain ⟨v, ws, h1, h2, rfl⟩ := denR_cons.1 h
    exact denR_cons.2 ⟨v, ws, denL_ren c v (fun i h => hi i (by rw [catMap_cons]; exact List.mem_append.2 (.inl h))) h1, denR_ren r ws (fun i h => hi i (by rw [catMap_cons]; exact List.mem_append.2 (.inr h))) h2, rfl⟩

theorem denM_ren {σ : Sg} {rs : List Nat} {k : IntKind} : ∀ (l : List (Num (std K).I × SC (std K))) (vs : List (Value × Value)), (∀ i ∈ catMap (fun x => SC.idxs x.2) l, i ∈ rs) → denM σ k l = some vs → denM (σ.num rs) k (mapL (fun x => (x.1, SC.ren (fun i => posOf rs i 0) x.2)) l) = some vs
  | [], vs, _, h => h
  | (m, c) :: r, vs, hi, h => by
    obtain ⟨v, ws, h1, h2, rfl⟩ := denM_cons.1 h
    exact denM_cons.2 ⟨v, ws, SC.ren_den c v (fun i h => hi i (by simp [catMap_nil, catMap_cons, h])) h1, denM_ren r ws (fun i h => hi i (by simp [catMap_nil, catMap_cons, h])) h2, rfl⟩

theorem denT_ren {σ : Sg} {rs : List Nat} : ∀ (l : List (Bool × List (SC (std K)))) (vs : List Value), (∀ i ∈ catMap (fun x => catMap SC.idxs x.2) l, i ∈ rs) → denT σ l = some vs → denT (σ.num rs) (mapL (fun x => (x.1, mapL (SC.ren fun i => posOf rs i 0) x.2)) l) = some vs
  | [], vs, _, h => h
  | c :: r, vs, hi, h => by
    obtain ⟨v, ws, h1, h2, rfl⟩ := denT_cons.1 h
    refine denT_cons.2 ⟨v, ws, ?_, denT_ren r ws (fun i h => hi i (by rw [catMap_cons]; exact List.mem_append.2 (.inr h))) h2, rfl⟩
    unfold compDen at h1 ⊢
    split at h1
    · rename_i vs hvs
      simp only [denL_ren c.2 vs (fun i h => hi i (by rw [catMap_cons]; exact List.mem_append.2 (.inl h))) hvs]
      exact h1
    all_goals first | (cases h1; done) | skip

theorem ST.ren_den {σ : Sg} {rs : List Nat} (v : ST (std K)) (x : Value) (hi : ∀ i ∈ v.idxs, i ∈ rs) (h : v.den σ = some x) : (v.ren fun i => posOf rs i 0).den (σ.num rs) = some x := by
  cases v with
  | one c => exact SC.ren_den c x hi h
  | agg l =>
    simp only [ST.den, ST.ren] at h ⊢
    split at h
    · rename_i vs hvs; rw [denL_ren l vs hi hvs]; exact h
    · cases h
  | tup l =>
    simp only [ST.den, ST.ren] at h ⊢
    split at h
    · rename_i vs hvs; rw [denT_ren l vs hi hvs]; exact h
    · cases h

theorem Ent.ren_sat {σ : Sg} {rs : List Nat} {L : Loc} {F : Nat → Prop} {w : World} (e : Ent (std K)) (hi : ∀ i ∈ e.idxs, i ∈ rs) (h : e.sat σ L F w) : (e.ren fun i => posOf rs i 0).sat (σ.num rs) L F w := by
  have hv : ∀ (c : Vec (std K)) r, (∀ l, c = .lit l → ∀ i ∈ catMap (catMap SC.idxs) l, i ∈ rs) → c.den σ = some r → (c.ren fun i => posOf rs i 0).den (σ.num rs) = some r := fun c r hc hr => by
    cases c with
    | lit l => exact denR_ren l r (hc l rfl) hr
    | opn v => exact hr
  cases e with
  | cells l T => obtain ⟨h1, ⟨vs, h2, h3⟩, h4⟩ := h; exact ⟨h1, ⟨vs, denL_ren l vs hi h2, h3⟩, h4⟩
  | ccells l T => obtain ⟨h1, ⟨vs, h2, h3⟩, h4⟩ := h; exact ⟨h1, ⟨vs, denL_ren l vs hi h2, h3⟩, h4⟩
  | vec T sz c => obtain ⟨p, r, q, h1, h2⟩ := h; exact ⟨p, r, q, hv c r (fun l hl i h => hi i (by subst hl; exact h)) h1, h2⟩
  | ro T sz c => obtain ⟨p, r, q, f, h1, h2⟩ := h; exact ⟨p, r, q, f, hv c r (fun l hl i h => hi i (by subst hl; exact h)) h1, h2⟩
  | abs m => exact h
  | av i o sz m =>
    obtain ⟨L₀, h1, h2⟩ := h
    exact ⟨L₀, by rw [Sg.num_pos (hi i (by simp [Ent.idxs]))]; exact h1, h2⟩
  | imap k l => obtain ⟨es, cl, h1, h2⟩ := h; exact ⟨es, cl, denM_ren l _ hi h1, h2⟩

variable {A : Ar (std K)}
theorem SC.open_den (hA : ArOK A) (σ : Sg) (c : SC (std K)) : (c.open' A).den σ = c.den σ := by
  cases c <;> simp [SC.open', SC.den, Num.open', Bol.open', Num.den, Bol.den, up_num hA, up_bol hA]
theorem denL_open (hA : ArOK A) (σ : Sg) : ∀ (l : List (SC (std K))), denL σ (mapL (SC.open' A) l) = denL σ l
  | [] => rfl
  | c :: r => by simp only [mapL, denL, SC.open_den hA, denL_open hA σ r]
theorem ST.open_den (hA : ArOK A) (σ : Sg) (v : ST (std K)) : (v.open' A).den σ = v.den σ := by
  cases v with
  | one c => exact SC.open_den hA σ c
  | agg l => simp only [ST.open', ST.den, denL_open hA]
  | tup l => rfl
theorem Ent.open_sat (hA : ArOK A) {σ : Sg} {L : Loc} {F : Nat → Prop} {w : World} (e : Ent (std K)) : (e.open' A).sat σ L F w ↔ e.sat σ L F w := by
  cases e <;> simp [Ent.open', Ent.sat, denL_open hA]

theorem Ent.open_kd (e : Ent (std K)) : (e.open' A).kd = e.kd := by cases e <;> rfl
theorem Ent.ren_kd (f : Nat → Nat) (e : Ent (std K)) : (e.ren f).kd = e.kd := by cases e <;> rfl

theorem look_mapL {α β : Type} (f : α → β) : ∀ (l : List (Nat × α)) (i : Nat), look (mapL (fun p => (p.1, f p.2)) l) i = (look l i).map f
  | [], i => rfl
  | (k, a) :: r, i => by
    simp only [mapL, look_nil, look_cons]
    by_cases h : Nat.beq k i = true
    · simp [h]
    · simp only [h, Bool.false_eq_true, if_false]; exact look_mapL f r i

theorem look_pickT {tm : Tm (std K)} {t : Nat} {v : ST (std K)} : ∀ {ts : List Nat}, look (pickT tm ts) t = some v → look tm t = some v
  | [], h => by simp [pickT, look_nil, look_cons] at h
  | k :: r, h => by
    simp only [pickT] at h
    split at h
    · rename_i x hx
      simp only [look_nil, look_cons] at h
      by_cases hk : Nat.beq k t = true
      · have := Nat.eq_of_beq_eq_true hk; subst this
        simp at h; subst h; exact hx
      · simp only [hk, Bool.false_eq_true, if_false] at h; exact look_pickT h
    · exact look_pickT h

theorem look_enumL {h : Heap (std K)} {f : Nat → Nat} {gs : List Nat} {i : Nat} {e : Ent (std K)} : ∀ {rs : List Nat} {k : Nat}, look (enumL h f gs k rs) i = some e → k ≤ i ∧ ∃ j e₀, rs[i - k]? = some j ∧ j ∉ gs ∧ h.get j = some e₀ ∧ e = e₀.ren f
  | [], k, hl => by simp [enumL, look_nil, look_cons] at hl
  | r :: rs, k, hl => by
    have next : look (enumL h f gs (k + 1) rs) i = some e → k ≤ i ∧ ∃ j e₀, (r :: rs)[i - k]? = some j ∧ j ∉ gs ∧ h.get j = some e₀ ∧ e = e₀.ren f := fun hl => by
      obtain ⟨h1, j, e₀, h2, h3⟩ := look_enumL hl
      refine ⟨by omega, j, e₀, ?_, h3⟩
      rw [show i - k = (i - (k + 1)) + 1 by omega]; simpa using h2
    simp only [enumL] at hl
    split at hl
    · exact next hl
    · rename_i hm
      split at hl
      · rename_i e₀ he
        simp only [look_nil, look_cons] at hl
        by_cases hk : Nat.beq k i = true
        · have := Nat.eq_of_beq_eq_true hk; subst this
          simp at hl; subst hl
          exact ⟨Nat.le_refl _, r, e₀, by simp, fun h => hm (memN_iff.2 h), he, rfl⟩
        · simp only [hk, Bool.false_eq_true, if_false] at hl; exact next hl
      · exact next hl

/-- What is told in one form is told in the other. -/
structure Canon (E : Env (std K)) (F : Nat → Nat → Prop) (H : HF K) (a : Act) (w : World) (σ' : Sg) (F' : Nat → Nat → Prop) (tm' : Tm (std K)) (h' : Heap (std K)) : Prop where
  rep : HRep σ' F' h'.n h'.get w
  glob : GRep E σ'
  tms : TRep σ' tm' a
  foots : ∀ i e b, h'.get i = some e → F' i b → ∃ j e₀, H j = some e₀ ∧ F j b ∧ e₀.kd = e.kd

theorem canonO_ok {E : Env (std K)} (hA : ArOK E.A) {gs ts : List Nat} {tm tm' : Tm (std K)} {h h' : Heap (std K)} (hc : canonO E gs ts tm h = some (tm', h')) {σ F} {a : Act} {w : World} (hr : HRep σ F h.n h.get w) (hG : GRep E σ) (ht : TRep σ tm a) :
    ∃ σ' F', Canon E F h.get a w σ' F' tm' h' := by
  unfold canonO at hc
  simp only at hc
  generalize hrs : reachO h 4 (catMap (fun p => p.2.idxs) (pickT tm ts)) gs = rs at hc
  split at hc
  case isFalse => cases hc
  rename_i hchk
  simp only [Bool.and_eq_true] at hchk
  obtain ⟨⟨⟨c1, c2⟩, c3⟩, c4⟩ := hchk
  simp only [openS, Option.some.injEq, Prod.mk.injEq] at hc
  obtain ⟨rfl, rfl⟩ := hc
  have hnd := nodupB_ok c1
  have hget : ∀ i e, (⟨rs.length, mapL (fun p => (p.1, Ent.open' E.A p.2)) (enumL h (fun i => posOf rs i 0) gs 0 rs)⟩ : Heap (std K)).get i = some e → ∃ j e₀, rs[i]? = some j ∧ h.get j = some e₀ ∧ e = (e₀.ren fun i => posOf rs i 0).open' E.A ∧ ∀ k ∈ e₀.idxs, k ∈ rs := fun i e he => by
    have he : look (mapL (fun p => (p.1, Ent.open' E.A p.2)) (enumL h (fun i => posOf rs i 0) gs 0 rs)) i = some e := he
    rw [look_mapL] at he
    cases hl : look (enumL h (fun i => posOf rs i 0) gs 0 rs) i with
    | none => rw [hl] at he; simp at he
    | some e1 =>
      rw [hl] at he; simp at he; subst he
      obtain ⟨_, j, e₀, h1, h2, h3, rfl⟩ := look_enumL hl
      rw [Nat.sub_zero] at h1
      refine ⟨j, e₀, h1, h3, rfl, fun k hk => ?_⟩
      have := allB_mem c4 j (List.mem_of_getElem? h1)
      simp only [h3, Bool.or_eq_true, memN_iff, h2, false_or] at this
      exact memN_iff.1 (allB_mem this k hk)
  refine ⟨σ.num rs, fun i => match rs[i]? with | some j => F j | none => fun _ => False, ⟨?_, ?_, ?_, ?_⟩, ?_, ?_, ?_⟩
  · intro i hi
    have : rs[i]? = none := List.getElem?_eq_none hi
    simp [Sg.num, this]
  · intro i e he
    obtain ⟨j, e₀, h1, h2, rfl, h4⟩ := hget i e he
    obtain ⟨L, h5, h6⟩ := hr.sat j e₀ h2
    refine ⟨L, by simp [Sg.num, h1, h5], ?_⟩
    rw [Ent.open_sat hA, h1]
    exact Ent.ren_sat e₀ h4 h6
  · intro i j e e' hij hi hj hs b hb hb'
    obtain ⟨i', e₀, h1, h2, rfl, _⟩ := hget i e hi
    obtain ⟨j', e₁, k1, k2, rfl, _⟩ := hget j e' hj
    rw [h1] at hb; rw [k1] at hb'
    refine hr.apart i' j' e₀ e₁ (fun heq => ?_) h2 k2 (by simpa [Ent.open_kd, Ent.ren_kd] using hs) b hb hb'
    subst heq
    obtain ⟨l1, l2⟩ := List.getElem?_eq_some_iff.1 h1
    obtain ⟨m1, m2⟩ := List.getElem?_eq_some_iff.1 k1
    have hpw := List.pairwise_iff_getElem.1 hnd
    rcases Nat.lt_trichotomy i j with hlt | hlt | hlt
    · exact hpw i j l1 m1 hlt (l2.trans m2.symm)
    · exact hij hlt
    · exact hpw j i m1 l1 hlt (m2.trans l2.symm)
  · intro i e he b hb
    obtain ⟨j, e₀, h1, h2, rfl, _⟩ := hget i e he
    rw [h1] at hb
    exact hr.inside j e₀ h2 b hb
  · intro g i hg
    have := allB_mem c2 (g, i) (look_mem hg)
    have := Nat.eq_of_beq_eq_true this
    have hi : rs[i]? = some i := by
      cases h9 : rs[i]? with
      | none => simp [List.getD_eq_getElem?_getD, h9] at this
      | some z => simp [List.getD_eq_getElem?_getD, h9] at this; rw [this]
    obtain ⟨L, h1, h2⟩ := hG g i hg
    exact ⟨L, by simp [Sg.num, hi, h1], h2⟩
  · intro t v hv
    rw [look_mapL, look_mapL] at hv
    cases hl : look (pickT tm ts) t with
    | none => rw [hl] at hv; simp at hv
    | some u =>
      rw [hl] at hv; simp at hv; subst hv
      obtain ⟨x, h1, h2⟩ := ht t u (look_pickT hl)
      refine ⟨x, ?_, h2⟩
      rw [ST.open_den hA]
      exact ST.ren_den u x (fun i hi => memN_iff.1 (allB_mem (allB_mem c3 (t, u) (look_mem hl)) i hi)) h1
  · intro i e b he hb
    obtain ⟨j, e₀, h1, h2, rfl, _⟩ := hget i e he
    rw [h1] at hb
    exact ⟨j, e₀, h2, hb, by simp [Ent.open_kd, Ent.ren_kd]⟩

/-- A state, with known numbers as such again. -/
theorem Canon.unopen {E : Env (std K)} (hA : ArOK E.A) {F : Nat → Nat → Prop} {H : HF K} {a : Act} {w : World} {σ' F'} {S : Tm (std K) × Heap (std K)} (c : Canon E F H a w σ' F' (openS E.A S).1 (openS E.A S).2) : Canon E F H a w σ' F' S.1 S.2 := by
  have hl : ∀ i e, S.2.get i = some e → (openS E.A S).2.get i = some (e.open' E.A) := fun i e he => by
    show look (mapL (fun p => (p.1, Ent.open' E.A p.2)) S.2.l) i = _
    rw [look_mapL]
    have he : look S.2.l i = some e := he
    rw [he]; rfl
  refine ⟨⟨c.rep.fresh, fun i e he => ?_, fun i j e e' hij hi hj hs => ?_, fun i e he => c.rep.inside i _ (hl i e he)⟩, c.glob, fun t v hv => ?_, fun i e b he hb => ?_⟩
  · obtain ⟨L, h1, h2⟩ := c.rep.sat i _ (hl i e he)
    exact ⟨L, h1, (Ent.open_sat hA e).1 h2⟩
  · exact c.rep.apart i j _ _ hij (hl i e hi) (hl j e' hj) (by simpa [Ent.open_kd] using hs)
  · obtain ⟨x, h1, h2⟩ := c.tms t (v.open' E.A) (by
      show look (mapL (fun p => (p.1, ST.open' E.A p.2)) S.1) t = _
      rw [look_mapL, hv]; rfl)
    exact ⟨x, by rwa [ST.open_den hA] at h1, h2⟩
  · obtain ⟨j, e₀, h1, h2, h3⟩ := c.foots i _ b (hl i e he) hb
    exact ⟨j, e₀, h1, h2, by rw [h3, Ent.open_kd]⟩

theorem constL_ok {h : Heap (std K)} {i : Nat} {e : Ent (std K)} : ∀ {l : List (Nat × Ent (std K))}, look (constL h l) i = some e → look l i = some e ∧ isC (h.get i) = true
  | [], hl => by simp [constL, look_nil, look_cons] at hl
  | (k, x) :: r, hl => by
    simp only [constL] at hl
    by_cases hk : Nat.beq k i = true
    · have := Nat.eq_of_beq_eq_true hk; subst this
      split at hl
      · rename_i hc
        exact ⟨by simpa [look_nil, look_cons] using hl, hc⟩
      · rename_i hc; exact absurd (constL_ok hl).2 hc
    · split at hl
      · simp only [look_nil, look_cons, hk, Bool.false_eq_true, if_false] at hl ⊢; exact constL_ok hl
      · simp only [look_nil, look_cons, hk, Bool.false_eq_true, if_false]; exact constL_ok hl

theorem constOnly_get {h : Heap (std K)} {i : Nat} {e : Ent (std K)} (he : (constOnly h).get i = some e) : h.get i = some e ∧ e.kd ≠ .own := by
  obtain ⟨h1, h2⟩ := constL_ok he
  refine ⟨h1, ?_⟩
  have h3 : h.get i = some e := h1
  rw [h3] at h2
  cases e <;> simp [isC] at h2 <;> simp [Ent.kd]

/-- What nobody writes is there still. -/
theorem consts_post {σ F} {h : Heap (std K)} {w w' : World} (hr : HRep σ F h.n h.get w) (hk : Keeps (foot F h.get) w w') : Post σ F h.n h.get w σ F (constOnly h).n (constOnly h).get w' := by
  have hb : ∀ i e, (constOnly h).get i = some e → ∀ b, F i b → w'.heap[b]? = w.heap[b]? := fun i e he b hb => by
    obtain ⟨h1, h2⟩ := constOnly_get he
    refine hk.block b (hr.inside i e h1 b hb) ?_
    rintro ⟨j, e', h3, h4, h5⟩
    by_cases hij : i = j
    · subst hij; rw [h1] at h3; cases h3; exact h2 h4
    · exact hr.apart i j e e' hij h1 h3 (by rw [h4]; exact Kd.own_right _) b hb h5
  refine ⟨fun _ _ => rfl, Nat.le_refl _, ⟨hr.fresh, fun i e he => ?_, fun i j e e' hij hi hj => hr.apart i j e e' hij (constOnly_get hi).1 (constOnly_get hj).1, fun i e he b hb => Nat.lt_of_lt_of_le (hr.inside i e (constOnly_get he).1 b hb) hk.size⟩, hk, fun i e b he hb => .inl ⟨i, e, (constOnly_get he).1, hb, .inr rfl⟩⟩
  obtain ⟨L, h1, h2⟩ := hr.sat i e (constOnly_get he).1
  exact ⟨L, h1, Ent.sat_local (hb i e he) h2⟩

theorem Keeps.trans' {D D' : Nat → Prop} {w w₁ w₂ : World} (p : Keeps D w w₁) (h : ∀ b, D' b → D b ∨ w.heap.size ≤ b) (q : Keeps D' w₁ w₂) : Keeps D w w₂ where
  os := q.os.trans p.os
  tape := q.tape.trans p.tape
  output := q.output.trans p.output
  size := Nat.le_trans p.size q.size
  block b hb hd := by
    rw [q.block b (Nat.lt_of_lt_of_le hb p.size) (fun hf => ?_), p.block b hb hd]
    rcases h b hf with h | h
    · exact hd h
    · omega

/-- A loop's start: its state is one of those that are told. -/
noncomputable def startB (E : Env (std K)) {X : Type} (S : X → Tm (std K) × Heap (std K)) (V : X → Prop) (c : Option (Tm (std K) × Heap (std K))) : Bool := @decide (∃ s, V s ∧ c = some (openS E.A (S s))) (Classical.propDecidable _)

/-- A loop that is left by its block's end, and of which nothing is told but that what nobody writes is there still. -/
noncomputable def invLoop (E : Env (std K)) {X : Type} (gs ts : List Nat) (S : X → Tm (std K) × Heap (std K)) (V : X → Prop) (id : Nat) (tm : Tm (std K)) (h : Heap (std K)) : Ran (std K) :=
  .ite (startB E S V (canonO E gs ts tm h)) (.leaf (.exit id, [], constOnly h)) (.fail "start")

theorem invLoop_ok {E : Env (std K)} (hA : ArOK E.A) {n id : Nat} {c : Code} {f : Tm (std K) → Heap (std K) → Ran (std K)} (hf : RunOK E n c f) {X : Type} {gs ts : List Nat} {S : X → Tm (std K) × Heap (std K)} {V : X → Prop} (μ : X → Nat)
    (step : ∀ s, V s → ∃ ex tm' h', (f (S s).1 (S s).2).eval = some (ex, tm', h') ∧ (ex = .exit id ∨ ex = .normal ∧ ∃ s', V s' ∧ μ s' < μ s ∧ canonO E gs ts tm' h' = some (openS E.A (S s')))) :
    RunOK E n (.loop c) (invLoop E gs ts S V id) := by
  intro tm h ex tm' h' hh σ F a w hr hG ht hn
  simp only [invLoop, Out.eval] at hh
  split at hh
  case h_2 => cases hh
  rename_i hb
  simp only [Option.some.injEq, Prod.mk.injEq] at hh
  obtain ⟨rfl, rfl, rfl⟩ := hh
  simp only [startB, decide_eq_true_eq] at hb
  obtain ⟨s, hV, hc⟩ := hb
  generalize hds : a.defers = ds
  have key : ∀ (m : Nat) (s : X) (a' : Act) (w' : World) (σ' : Sg) (F' : Nat → Nat → Prop), V s → μ s ≤ m → HRep σ' F' (S s).2.n (S s).2.get w' → GRep E σ' → TRep σ' (S s).1 a' → Keeps (foot F h.get) w w' → a'.tmps.size = n → a'.defers = ds →
      (∀ b, foot F' (S s).2.get b → foot F h.get b ∨ w.heap.size ≤ b) →
      Code.rounds E.P c (Behind σ F h w n ds (.exit id) [] (constOnly h)) (m + 1) a' w' := by
    intro m
    induction m with
    | zero =>
      intro s a' w' σ' F' hV hμ h1 h2 h3 h4 h5 h6 h7
      obtain ⟨ex, tm1, hp1, hev, hres⟩ := step s hV
      rcases hres with rfl | ⟨rfl, s', hV', hlt, _⟩
      · rw [rounds_succ]
        refine wp_mono (hf _ _ _ _ _ hev σ' F' a' w' h1 h2 h3 h5) ?_
        rintro e a2 w2 ⟨rfl, σ1, F1, hp, ht1, hn1, hd1⟩
        simp only [Ex.to, Exit.then]
        exact ⟨rfl, σ, F, consts_post hr (h4.trans' h7 hp.keeps), fun t v hv => by simp [look_nil, look_cons] at hv, hn1, hd1.trans h6⟩
      · omega
    | succ m ih =>
      intro s a' w' σ' F' hV hμ h1 h2 h3 h4 h5 h6 h7
      obtain ⟨ex, tm1, hp1, hev, hres⟩ := step s hV
      rw [rounds_succ]
      refine wp_mono (hf _ _ _ _ _ hev σ' F' a' w' h1 h2 h3 h5) ?_
      rintro e a2 w2 ⟨rfl, σ1, F1, hp, ht1, hn1, hd1⟩
      rcases hres with rfl | ⟨rfl, s', hV', hlt, hcan⟩
      · simp only [Ex.to, Exit.then]
        exact ⟨rfl, σ, F, consts_post hr (h4.trans' h7 hp.keeps), fun t v hv => by simp [look_nil, look_cons] at hv, hn1, hd1.trans h6⟩
      · simp only [Ex.to, Exit.then]
        obtain ⟨σ2, F2, hcn⟩ := canonO_ok hA hcan hp.rep (h2.mono (hp.le h1)) ht1
        have hcu := hcn.unopen hA
        refine ih s' a2 w2 σ2 F2 hV' (by omega) hcu.rep hcu.glob hcu.tms (h4.trans' h7 hp.keeps) hn1 (hd1.trans h6) fun b hb => ?_
        obtain ⟨i, e, he, ho, hb⟩ := hb
        obtain ⟨j, e₀, k1, k2, k3⟩ := hcu.foots i e b he hb
        rcases hp.foot ⟨j, e₀, k1, k3.trans ho, k2⟩ with hq | hq
        · exact h7 b hq
        · exact .inr (Nat.le_trans h4.size hq)
  obtain ⟨σ1, F1, hcn⟩ := canonO_ok hA hc hr hG ht
  have hcu := hcn.unopen hA
  refine wp_loop_rounds (μ s + 1) (key (μ s) s a w σ1 F1 hV (Nat.le_refl _) hcu.rep hcu.glob hcu.tms (Keeps.refl _ _) hn hds fun b hb => ?_)
  obtain ⟨i, e, he, ho, hb⟩ := hb
  obtain ⟨j, e₀, k1, k2, k3⟩ := hcu.foots i e b he hb
  exact .inl ⟨j, e₀, k1, k3.trans ho, k2⟩
end
end
end Go.Vse
