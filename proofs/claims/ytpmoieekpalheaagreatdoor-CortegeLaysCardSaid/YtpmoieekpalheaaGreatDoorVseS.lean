/- The symbolic executor's data, read as the model's values and memory. -/
import Derived.Test.YtpmoieekpalheaaGreatDoorVseA
namespace Go.Vse
open Go

/-- Where a place of the heap lies: the block, the first cell, how many elements, how many there is room for. -/
structure Loc where
  g : Nat
  off : Nat
  len : Nat
  cap : Nat

abbrev Sg := Nat → Option Loc
def Sg.le (σ σ' : Sg) : Prop := ∀ i L, σ i = some L → σ' i = some L
theorem Sg.le_refl (σ : Sg) : σ.le σ := fun _ _ h => h
theorem Sg.le_trans {a b c : Sg} (h : a.le b) (k : b.le c) : a.le c := fun i L x => k i L (h i L x)

/-- What a program's own contents and objects mean. -/
structure Kit where
  V : Type
  M : Type
  vden : V → List (List Value)
  msat : M → Loc → (Nat → Prop) → World → Prop
  mlocal : ∀ m L F w w', (∀ b, F b → w'.heap[b]? = w.heap[b]?) → msat m L F w → msat m L F w'

abbrev std (K : Kit) : Ty := ⟨Int, Bool, ByteArray, K.V, K.M⟩

def Out.eval {K : Kit} {α : Type} : Out (std K) α → Option α
  | .leaf a => some a
  | .ite b l r => match b with | true => l.eval | false => r.eval
  | .fail _ => none

theorem eval_bind {K : Kit} {α β : Type} (t : Out (std K) α) (f : α → Out (std K) β) : (t.bind f).eval = t.eval.bind fun a => (f a).eval := by
  induction t with
  | leaf a => rfl
  | ite b l r hl hr => cases b <;> simp [Out.bind_leaf, Out.bind_ite, Out.bind_fail, Out.eval, hl, hr]
  | fail s => rfl

theorem eval_bind_some {K : Kit} {α β : Type} {t : Out (std K) α} {f : α → Out (std K) β} {b : β} (h : (t.bind f).eval = some b) : ∃ a, t.eval = some a ∧ (f a).eval = some b := by
  rw [eval_bind] at h
  cases ht : t.eval with
  | none => simp [ht] at h
  | some a => exact ⟨a, rfl, by simpa [ht] using h⟩

theorem orFail_some {K : Kit} {α : Type} {why : String} {o : Option α} {a : α} (h : (orFail (τ := std K) why o).eval = some a) : o = some a := by
  cases o <;> simp_all [orFail, Out.eval]

def Num.den {K : Kit} : Num (std K).I → Int | .lit n => n | .opn v => v
def Bol.den {K : Kit} : Bol (std K).B → Bool | .lit b => b | .opn v => v
def Str.den {K : Kit} : Str (std K).S → ByteArray | .lit s => s | .opn v => v

theorem eval_branch {K : Kit} {α : Type} (b : Bol (std K).B) (l r : Out (std K) α) : (branch b l r).eval = if b.den (K := K) then l.eval else r.eval := by
  cases b with
  | lit b => cases b <;> rfl
  | opn v => cases v <;> rfl

def pathOff {K : Kit} : List (Num (std K).I × Nat) → Nat
  | [] => 0
  | (n, s) :: r => (n.den (K := K)).toNat * s + pathOff r

/-- An address' way in an array: one index, and it is one of the array's. -/
def pathOK {K : Kit} (L : Loc) : List (Num (std K).I × Nat) → Prop
  | [] => True
  | [(n, _)] => 0 ≤ n.den (K := K) ∧ n.den (K := K) < L.len
  | _ => False

instance {K : Kit} (L : Loc) (p : List (Num (std K).I × Nat)) : Decidable (pathOK (K := K) L p) :=
  match p with
  | [] => isTrue trivial
  | [(n, _)] => inferInstanceAs (Decidable (0 ≤ n.den (K := K) ∧ n.den (K := K) < L.len))
  | _ :: _ :: _ => isFalse id

section
variable {K : Kit}

def SC.den (σ : Sg) : SC (std K) → Option Value
  | .int k n => some (.int k (n.den (K := K)))
  | .bool b => some (.bool (b.den (K := K)))
  | .str s => some (.string (s.den (K := K)))
  | .nil => some (.pointer none)
  | .ptr i p o => match σ i with
    | some L => if pathOK (K := K) L p then some (.pointer (some ⟨L.g, L.off + (pathOff (K := K) p + o), none⟩)) else none
    | none => none
  | .slc i n => match σ i with
    | some L => match n with
      | none => some (.slice (some ⟨L.g, L.off, none⟩) L.len L.cap)
      | some m => if 0 ≤ m.den (K := K) ∧ m.den (K := K) ≤ L.len then some (.slice (some ⟨L.g, L.off, none⟩) (m.den (K := K)).toNat L.cap) else none
    | none => none
  | .nslc => some (.slice none 0 0)
  | .eslc i => match σ i with
    | some L => some (.slice (some ⟨L.g, L.off, none⟩) 0 0)
    | none => none
  | .mp i => match σ i with
    | some L => some (.map (some L.g))
    | none => none
  | .nif => some .nilIface
  | .ifc t v => match v.den σ with
    | some x => some (.iface t x)
    | none => none
  | .nfn => some .nilFunc
  | .fn f => some (.func (.func f) #[] #[])
  | .cap f x => match f.den σ, x.den σ with
    | some (.func q first caps), some y => some (.func q first (caps.push y))
    | _, _ => none
  | .nmap => some (.map none)

theorem SC.mono {σ σ' : Sg} (h : Sg.le σ σ') : ∀ (c : SC (std K)) (v : Value), c.den σ = some v → c.den σ' = some v := by
  intro c
  induction c with
  | ptr i p o =>
    intro v hv
    simp only [SC.den] at hv ⊢
    cases hs : σ i with
    | none => simp [hs] at hv
    | some L => rw [hs] at hv; rw [h i L hs]; exact hv
  | slc i n =>
    intro v hv
    simp only [SC.den] at hv ⊢
    cases hs : σ i with
    | none => simp [hs] at hv
    | some L => rw [hs] at hv; rw [h i L hs]; exact hv
  | eslc i =>
    intro v hv
    simp only [SC.den] at hv ⊢
    cases hs : σ i with
    | none => simp [hs] at hv
    | some L => rw [hs] at hv; rw [h i L hs]; exact hv
  | mp i =>
    intro v hv
    simp only [SC.den] at hv ⊢
    cases hs : σ i with
    | none => simp [hs] at hv
    | some L => rw [hs] at hv; rw [h i L hs]; exact hv
  | ifc t c ih =>
    intro v hv
    simp only [SC.den] at hv ⊢
    cases hs : c.den σ with
    | none => simp [hs] at hv
    | some x => rw [ih x hs]; simpa [hs] using hv
  | cap f x ihf ihx =>
    intro v hv
    simp only [SC.den] at hv ⊢
    cases hs : f.den σ with
    | none => simp [hs] at hv
    | some y =>
      cases hx : x.den σ with
      | none => simp [hs, hx] at hv
      | some z => rw [ihf y hs, ihx z hx]; simpa [hs, hx] using hv
  | _ => intro v hv; exact hv

theorem SC.one {σ : Sg} : ∀ (c : SC (std K)) (v : Value), c.den σ = some v → v.oneCell' = true ∧ v.cells = #[v] := by
  intro c v hv
  cases c <;> simp only [SC.den] at hv
  all_goals
    ((repeat' (split at hv)) <;> first | (cases hv; done) | (cases hv; exact ⟨rfl, rfl⟩))

def denL (σ : Sg) : List (SC (std K)) → Option (List Value)
  | [] => some []
  | c :: r => match c.den σ, denL σ r with
    | some v, some vs => some (v :: vs)
    | _, _ => none

theorem denL_cons {σ : Sg} {c : SC (std K)} {r : List (SC (std K))} {vs : List Value} : denL σ (c :: r) = some vs ↔ ∃ v ws, c.den σ = some v ∧ denL σ r = some ws ∧ vs = v :: ws := by
  simp only [denL]
  cases c.den σ <;> cases denL σ r <;> simp [eq_comm]

theorem denL_mono {σ σ' : Sg} (h : Sg.le σ σ') : ∀ (l : List (SC (std K))) (vs : List Value), denL σ l = some vs → denL σ' l = some vs
  | [], vs, hv => hv
  | c :: r, vs, hv => by
    obtain ⟨v, ws, h1, h2, rfl⟩ := denL_cons.1 hv
    exact denL_cons.2 ⟨v, ws, SC.mono h c v h1, denL_mono h r ws h2, rfl⟩

theorem denL_length {σ : Sg} : ∀ {l : List (SC (std K))} {vs : List Value}, denL σ l = some vs → vs.length = l.length
  | [], vs, hv => by simp [denL] at hv; simp [hv]
  | c :: r, vs, hv => by
    obtain ⟨v, ws, h1, h2, rfl⟩ := denL_cons.1 hv
    simp [denL_length h2]

theorem denL_append {σ : Sg} : ∀ {l r : List (SC (std K))} {vs ws : List Value}, denL σ l = some vs → denL σ r = some ws → denL σ (l ++ r) = some (vs ++ ws)
  | [], r, vs, ws, h1, h2 => by simp [denL] at h1; subst h1; simpa using h2
  | c :: l, r, vs, ws, h1, h2 => by
    obtain ⟨v, us, h3, h4, rfl⟩ := denL_cons.1 h1
    exact denL_cons.2 ⟨v, us ++ ws, h3, denL_append h4 h2, rfl⟩

theorem denL_drop {σ : Sg} : ∀ {l : List (SC (std K))} {vs : List Value} (n : Nat), denL σ l = some vs → denL σ (l.drop n) = some (vs.drop n)
  | l, vs, 0, h => by simpa using h
  | [], vs, n + 1, h => by simp [denL] at h; subst h; rfl
  | c :: l, vs, n + 1, h => by
    obtain ⟨v, us, h3, h4, rfl⟩ := denL_cons.1 h
    simpa using denL_drop n h4

theorem denL_take {σ : Sg} : ∀ {l : List (SC (std K))} {vs : List Value} (n : Nat), denL σ l = some vs → denL σ (l.take n) = some (vs.take n)
  | l, vs, 0, h => by simp [denL]
  | [], vs, n + 1, h => by simp [denL] at h; subst h; rfl
  | c :: l, vs, n + 1, h => by
    obtain ⟨v, us, h3, h4, rfl⟩ := denL_cons.1 h
    simp only [List.take_succ_cons]
    exact denL_cons.2 ⟨v, us.take n, h3, denL_take n h4, rfl⟩

theorem denL_get {σ : Sg} : ∀ {l : List (SC (std K))} {vs : List Value} {i : Nat} {c : SC (std K)}, denL σ l = some vs → l[i]? = some c → ∃ v, c.den σ = some v ∧ vs[i]? = some v
  | [], vs, i, c, h, hi => by simp at hi
  | d :: l, vs, 0, c, h, hi => by
    obtain ⟨v, us, h3, h4, rfl⟩ := denL_cons.1 h
    simp at hi; subst hi
    exact ⟨v, h3, rfl⟩
  | d :: l, vs, i + 1, c, h, hi => by
    obtain ⟨v, us, h3, h4, rfl⟩ := denL_cons.1 h
    simpa using denL_get h4 (by simpa using hi)

theorem denL_one {σ : Sg} : ∀ {l : List (SC (std K))} {vs : List Value}, denL σ l = some vs → ∀ v ∈ vs, v.oneCell' = true
  | [], vs, h => by simp [denL] at h; subst h; simp
  | c :: l, vs, h => by
    obtain ⟨v, us, h3, h4, rfl⟩ := denL_cons.1 h
    intro x hx
    rcases List.mem_cons.1 hx with rfl | hx
    · exact (SC.one c _ h3).1
    · exact denL_one h4 x hx

def compDen (σ : Sg) (x : Bool × List (SC (std K))) : Option Value :=
  match denL σ x.2 with
  | some vs => if x.1 then some (.agg vs.toArray) else match vs with
    | [v] => some v
    | _ => none
  | none => none

def denT (σ : Sg) : List (Bool × List (SC (std K))) → Option (List Value)
  | [] => some []
  | c :: r => match compDen σ c, denT σ r with
    | some v, some vs => some (v :: vs)
    | _, _ => none

theorem denT_cons {σ : Sg} {c : Bool × List (SC (std K))} {r : List (Bool × List (SC (std K)))} {vs : List Value} : denT σ (c :: r) = some vs ↔ ∃ v ws, compDen σ c = some v ∧ denT σ r = some ws ∧ vs = v :: ws := by
  simp only [denT]
  cases compDen σ c <;> cases denT σ r <;> simp [eq_comm]

theorem compDen_mono {σ σ' : Sg} (h : Sg.le σ σ') (x : Bool × List (SC (std K))) (v : Value) (hv : compDen σ x = some v) : compDen σ' x = some v := by
  unfold compDen at hv ⊢
  cases hd : denL σ x.2 with
  | none => simp [hd] at hv
  | some vs => rw [denL_mono h _ _ hd]; simpa [hd] using hv

theorem denT_mono {σ σ' : Sg} (h : Sg.le σ σ') : ∀ (l : List (Bool × List (SC (std K)))) (vs : List Value), denT σ l = some vs → denT σ' l = some vs
  | [], vs, hv => hv
  | c :: r, vs, hv => by
    obtain ⟨v, ws, h1, h2, rfl⟩ := denT_cons.1 hv
    exact denT_cons.2 ⟨v, ws, compDen_mono h c v h1, denT_mono h r ws h2, rfl⟩

theorem denT_get {σ : Sg} : ∀ {l : List (Bool × List (SC (std K)))} {vs : List Value} {i : Nat} {c : Bool × List (SC (std K))}, denT σ l = some vs → l[i]? = some c → ∃ v, compDen σ c = some v ∧ vs[i]? = some v
  | [], vs, i, c, h, hi => by simp at hi
  | d :: l, vs, 0, c, h, hi => by
    obtain ⟨v, us, h3, h4, rfl⟩ := denT_cons.1 h
    simp at hi; subst hi
    exact ⟨v, h3, rfl⟩
  | d :: l, vs, i + 1, c, h, hi => by
    obtain ⟨v, us, h3, h4, rfl⟩ := denT_cons.1 h
    simpa using denT_get h4 (by simpa using hi)

def ST.den (σ : Sg) : ST (std K) → Option Value
  | .one c => c.den σ
  | .agg l => match denL σ l with
    | some vs => some (.agg vs.toArray)
    | none => none
  | .tup l => match denT σ l with
    | some vs => some (.tuple vs.toArray)
    | none => none

theorem ST.mono {σ σ' : Sg} (h : Sg.le σ σ') (c : ST (std K)) (v : Value) (hv : c.den σ = some v) : c.den σ' = some v := by
  cases c with
  | one c => exact SC.mono h c v hv
  | agg l =>
    simp only [ST.den] at hv ⊢
    cases hd : denL σ l with
    | none => simp [hd] at hv
    | some vs => rw [denL_mono h _ _ hd]; simpa [hd] using hv
  | tup l =>
    simp only [ST.den] at hv ⊢
    cases hd : denT σ l with
    | none => simp [hd] at hv
    | some vs => rw [denT_mono h _ _ hd]; simpa [hd] using hv

def ST.cells {τ : Ty} : ST τ → Option (List (SC τ))
  | .one c => some [c]
  | .agg l => some l
  | .tup _ => none

theorem ST.cells_den {σ : Sg} {v : ST (std K)} {x : Value} {l : List (SC (std K))} (hv : v.den σ = some x) (hl : v.cells = some l) : ∃ vs, denL σ l = some vs ∧ x.cells = vs.toArray := by
  cases v with
  | one c =>
    simp [ST.cells] at hl; subst hl
    exact ⟨[x], denL_cons.2 ⟨x, [], hv, rfl, rfl⟩, by rw [(SC.one c x hv).2]⟩
  | agg l' =>
    simp [ST.cells] at hl; subst hl
    simp only [ST.den] at hv
    cases hd : denL σ l' with
    | none => simp [hd] at hv
    | some vs => simp [hd] at hv; subst hv; exact ⟨vs, rfl, rfl⟩
  | tup l' => simp [ST.cells] at hl

/-- The contents of an array, row by row. -/
def denR (σ : Sg) : List (List (SC (std K))) → Option (List (List Value))
  | [] => some []
  | c :: r => match denL σ c, denR σ r with
    | some v, some vs => some (v :: vs)
    | _, _ => none

theorem denR_cons {σ : Sg} {c : List (SC (std K))} {r : List (List (SC (std K)))} {vs : List (List Value)} : denR σ (c :: r) = some vs ↔ ∃ v ws, denL σ c = some v ∧ denR σ r = some ws ∧ vs = v :: ws := by
  simp only [denR]
  cases denL σ c <;> cases denR σ r <;> simp [eq_comm]

theorem denR_mono {σ σ' : Sg} (h : Sg.le σ σ') : ∀ (l : List (List (SC (std K)))) (vs : List (List Value)), denR σ l = some vs → denR σ' l = some vs
  | [], vs, hv => hv
  | c :: r, vs, hv => by
    obtain ⟨v, ws, h1, h2, rfl⟩ := denR_cons.1 hv
    exact denR_cons.2 ⟨v, ws, denL_mono h c v h1, denR_mono h r ws h2, rfl⟩

def Vec.den (σ : Sg) : Vec (std K) → Option (List (List Value))
  | .lit l => denR σ l
  | .opn v => some (K.vden v)

theorem Vec.mono {σ σ' : Sg} (h : Sg.le σ σ') (c : Vec (std K)) (r : List (List Value)) (hr : c.den σ = some r) : c.den σ' = some r := by
  cases c with
  | lit l => exact denR_mono h l r hr
  | opn v => exact hr

/-- What a map has: each key with its value. -/
def denM (σ : Sg) (k : IntKind) : List (Num (std K).I × SC (std K)) → Option (List (Value × Value))
  | [] => some []
  | (n, c) :: r => match c.den σ, denM σ k r with
    | some v, some vs => some ((.int k (n.den (K := K)), v) :: vs)
    | _, _ => none

theorem denM_cons {σ : Sg} {k : IntKind} {n : Num (std K).I} {c : SC (std K)} {r : List (Num (std K).I × SC (std K))} {vs : List (Value × Value)} : denM σ k ((n, c) :: r) = some vs ↔ ∃ v ws, c.den σ = some v ∧ denM σ k r = some ws ∧ vs = (.int k (n.den (K := K)), v) :: ws := by
  simp only [denM]
  cases c.den σ <;> cases denM σ k r <;> simp [eq_comm]

theorem denM_mono {σ σ' : Sg} (h : Sg.le σ σ') (k : IntKind) : ∀ (l : List (Num (std K).I × SC (std K))) (vs : List (Value × Value)), denM σ k l = some vs → denM σ' k l = some vs
  | [], vs, hv => hv
  | (n, c) :: r, vs, hv => by
    obtain ⟨v, ws, h1, h2, rfl⟩ := denM_cons.1 hv
    exact denM_cons.2 ⟨v, ws, SC.mono h c v h1, denM_mono h k r ws h2, rfl⟩

/-- What is told of a place of the heap. -/
def Ent.sat (σ : Sg) (L : Loc) (F : Nat → Prop) (w : World) : Ent (std K) → Prop
  | .cells l T | .ccells l T => L.off = 0 ∧ (∃ vs, denL σ l = some vs ∧ w.heap[L.g]? = some (.cells vs.toArray T (0, 0))) ∧ ∀ b, F b ↔ b = L.g
  | .vec T sz c => ∃ pre rows rest, c.den σ = some rows ∧ (∀ r ∈ rows, r.length = sz) ∧ rows.length = L.len ∧ pre.length = L.off ∧ rest.length + L.len * sz = L.cap * sz ∧ L.len ≤ L.cap ∧ (L.off = 0 ∧ L.cap ≤ maxLen) ∧
      w.heap[L.g]? = some (.cells (pre ++ (rows.flatten ++ rest)).toArray T (0, 0)) ∧ ∀ b, F b ↔ b = L.g
  | .ro T sz c => ∃ pre rows rest fr, c.den σ = some rows ∧ (∀ r ∈ rows, r.length = sz) ∧ rows.length = L.len ∧ pre.length = L.off ∧ L.len ≤ L.cap ∧
      w.heap[L.g]? = some (.cells (pre ++ (rows.flatten ++ rest)).toArray T fr) ∧ ∀ b, F b ↔ b = L.g
  | .abs m => K.msat m L F w
  | .av i o sz m => ∃ L₀, σ i = some L₀ ∧ L.g = L₀.g ∧ L.off = L₀.off + o ∧ L.len = m ∧ L.cap = m ∧ ∀ b, ¬ F b
  | .imap k l => ∃ (es : Array MapEntry) (clock : Nat), denM σ k l = some (es.toList.map fun e => (e.key, e.val)) ∧ w.heap[L.g]? = some (.map es clock) ∧ ∀ b, F b ↔ b = L.g

theorem Ent.sat_mono {σ σ' : Sg} (h : Sg.le σ σ') {L : Loc} {F : Nat → Prop} {w : World} {e : Ent (std K)} (hs : e.sat σ L F w) : e.sat σ' L F w := by
  cases e with
  | cells l T => obtain ⟨h1, ⟨vs, h2, h3⟩, h4⟩ := hs; exact ⟨h1, ⟨vs, denL_mono h _ _ h2, h3⟩, h4⟩
  | ccells l T => obtain ⟨h1, ⟨vs, h2, h3⟩, h4⟩ := hs; exact ⟨h1, ⟨vs, denL_mono h _ _ h2, h3⟩, h4⟩
  | vec T sz c => obtain ⟨p, r, q, h1, h2⟩ := hs; exact ⟨p, r, q, Vec.mono h c r h1, h2⟩
  | ro T sz c => obtain ⟨p, r, q, f, h1, h2⟩ := hs; exact ⟨p, r, q, f, Vec.mono h c r h1, h2⟩
  | abs m => exact hs
  | av i o sz m => obtain ⟨L₀, h1, h2⟩ := hs; exact ⟨L₀, h i L₀ h1, h2⟩
  | imap k l => obtain ⟨es, cl, h1, h2⟩ := hs; exact ⟨es, cl, denM_mono h k l _ h1, h2⟩

theorem Ent.sat_local {σ : Sg} {L : Loc} {F : Nat → Prop} {w w' : World} (h : ∀ b, F b → w'.heap[b]? = w.heap[b]?) {e : Ent (std K)} (hs : e.sat σ L F w) : e.sat σ L F w' := by
  cases e with
  | cells l T => obtain ⟨h1, ⟨vs, h2, h3⟩, h4⟩ := hs; exact ⟨h1, ⟨vs, h2, by rw [h _ ((h4 _).2 rfl)]; exact h3⟩, h4⟩
  | ccells l T => obtain ⟨h1, ⟨vs, h2, h3⟩, h4⟩ := hs; exact ⟨h1, ⟨vs, h2, by rw [h _ ((h4 _).2 rfl)]; exact h3⟩, h4⟩
  | vec T sz c => obtain ⟨p, r, q, h1, h2, h3, h4, h5, h6, h9, h7, h8⟩ := hs; exact ⟨p, r, q, h1, h2, h3, h4, h5, h6, h9, by rw [h _ ((h8 _).2 rfl)]; exact h7, h8⟩
  | ro T sz c => obtain ⟨p, r, q, f, h1, h2, h3, h4, h5, h6, h7⟩ := hs; exact ⟨p, r, q, f, h1, h2, h3, h4, h5, by rw [h _ ((h7 _).2 rfl)]; exact h6, h7⟩
  | abs m => exact K.mlocal m L F w w' h hs
  | av i o sz m => exact hs
  | imap k l => obtain ⟨es, cl, h1, h2, h3⟩ := hs; exact ⟨es, cl, h1, by rw [h _ ((h3 _).2 rfl)]; exact h2, h3⟩

/-- Of what kind a place is: one's own; one that nobody writes; an array that nobody writes, and that may be shared. -/
inductive Kd | own | const | ro
  deriving DecidableEq

def Ent.kd {τ : Ty} : Ent τ → Kd
  | .ccells .. => .const
  | .ro .. => .ro
  | .av .. => .const
  | _ => .own

/-- Two that nobody writes may share blocks, if one is an array that came in. -/
def Kd.shares : Kd → Kd → Bool
  | .ro, .ro | .ro, .const | .const, .ro => true
  | _, _ => false

theorem Kd.own_left (k : Kd) : Kd.own.shares k = false := by cases k <;> rfl
theorem Kd.own_right (k : Kd) : k.shares .own = false := by cases k <;> rfl

abbrev HF (K : Kit) := Nat → Option (Ent (std K))

structure HRep (σ : Sg) (F : Nat → Nat → Prop) (n : Nat) (H : HF K) (w : World) : Prop where
  fresh : ∀ i, n ≤ i → σ i = none
  sat : ∀ i e, H i = some e → ∃ L, σ i = some L ∧ e.sat σ L (F i) w
  apart : ∀ i j e e', i ≠ j → H i = some e → H j = some e' → e.kd.shares e'.kd = false → ∀ b, F i b → ¬ F j b
  inside : ∀ i e, H i = some e → ∀ b, F i b → b < w.heap.size

def foot (F : Nat → Nat → Prop) (H : HF K) (b : Nat) : Prop := ∃ i e, H i = some e ∧ e.kd = .own ∧ F i b

/-- What isn't in D, and was there, is as it was. -/
structure Keeps (D : Nat → Prop) (w w' : World) : Prop where
  os : w'.os = w.os
  tape : w'.tape = w.tape
  output : w'.output = w.output
  size : w.heap.size ≤ w'.heap.size
  block : ∀ b, b < w.heap.size → ¬ D b → w'.heap[b]? = w.heap[b]?

theorem Keeps.refl (D : Nat → Prop) (w : World) : Keeps D w w := ⟨rfl, rfl, rfl, Nat.le_refl _, fun _ _ _ => rfl⟩

structure Post (σ : Sg) (F : Nat → Nat → Prop) (n : Nat) (H : HF K) (w : World) (σ' : Sg) (F' : Nat → Nat → Prop) (n' : Nat) (H' : HF K) (w' : World) : Prop where
  ext : ∀ i, i < n → σ' i = σ i
  mon : n ≤ n'
  rep : HRep σ' F' n' H' w'
  keeps : Keeps (foot F H) w w'
  foots : ∀ i e b, H' i = some e → F' i b → (∃ j e₀, H j = some e₀ ∧ F j b ∧ (e₀.kd = .own ∨ e₀.kd = e.kd)) ∨ w.heap.size ≤ b

theorem Post.le {σ F n} {H : HF K} {w σ' F' n'} {H' : HF K} {w'} (h : HRep σ F n H w) (p : Post σ F n H w σ' F' n' H' w') : Sg.le σ σ' := by
  intro i L hi
  rcases Nat.lt_or_ge i n with hn | hn
  · rw [p.ext i hn]; exact hi
  · rw [h.fresh i hn] at hi; cases hi

theorem Post.foot {σ F n} {H : HF K} {w σ' F' n'} {H' : HF K} {w'} (p : Post σ F n H w σ' F' n' H' w') {b : Nat} (hb : foot F' H' b) : foot F H b ∨ w.heap.size ≤ b := by
  obtain ⟨i, e, h1, h2, h3⟩ := hb
  rcases p.foots i e b h1 h3 with ⟨j, e₀, h4, h5, h6⟩ | h
  · exact .inl ⟨j, e₀, h4, by rcases h6 with h | h; exact h; rw [h, h2], h5⟩
  · exact .inr h

theorem Post.refl {σ F n} {H : HF K} {w} (h : HRep σ F n H w) : Post σ F n H w σ F n H w := ⟨fun _ _ => rfl, Nat.le_refl _, h, Keeps.refl _ _, fun i e _ he hb => .inl ⟨i, e, he, hb, .inr rfl⟩⟩

theorem Post.trans {σ F n} {H : HF K} {w σ₁ F₁ n₁} {H₁ : HF K} {w₁ σ₂ F₂ n₂} {H₂ : HF K} {w₂} (p : Post σ F n H w σ₁ F₁ n₁ H₁ w₁) (q : Post σ₁ F₁ n₁ H₁ w₁ σ₂ F₂ n₂ H₂ w₂) : Post σ F n H w σ₂ F₂ n₂ H₂ w₂ where
  ext i hi := (q.ext i (Nat.lt_of_lt_of_le hi p.mon)).trans (p.ext i hi)
  mon := Nat.le_trans p.mon q.mon
  rep := q.rep
  keeps := {
    os := q.keeps.os.trans p.keeps.os
    tape := q.keeps.tape.trans p.keeps.tape
    output := q.keeps.output.trans p.keeps.output
    size := Nat.le_trans p.keeps.size q.keeps.size
    block := fun b hb hd => by
      rw [q.keeps.block b (Nat.lt_of_lt_of_le hb p.keeps.size) (fun hf => ?_), p.keeps.block b hb hd]
      rcases p.foot hf with h | h
      · exact hd h
      · omega }
  foots i e b he hb := by
    rcases q.foots i e b he hb with ⟨j, e₀, h4, h5, h6⟩ | h
    · rcases p.foots j e₀ b h4 h5 with ⟨k, e₁, h7, h8, h9⟩ | h
      · refine .inl ⟨k, e₁, h7, h8, ?_⟩
        rcases h9 with h | h
        · exact .inl h
        · rcases h6 with h' | h'
          · exact .inl (h.trans h')
          · exact .inr (h.trans h')
      · exact .inr h
    · exact .inr (Nat.le_trans p.keeps.size h)

/-- A draw turns nothing that is told. -/
theorem HRep.draw {σ F n} {H : HF K} {w : World} (h : HRep σ F n H w) (k : Nat) : HRep σ F n H { w with drawn := k } :=
  ⟨h.fresh, fun i e he => let ⟨L, h1, h2⟩ := h.sat i e he; ⟨L, h1, Ent.sat_local (w := w) (w' := { w with drawn := k }) (fun _ _ => rfl) h2⟩, h.apart, h.inside⟩

theorem Post.draw {σ F n} {H : HF K} {w : World} (h : HRep σ F n H w) (k : Nat) : Post σ F n H w σ F n H { w with drawn := k } :=
  ⟨fun _ _ => rfl, Nat.le_refl _, h.draw k, ⟨rfl, rfl, rfl, Nat.le_refl _, fun _ _ _ => rfl⟩, fun i e _ he hb => .inl ⟨i, e, he, hb, .inr rfl⟩⟩

/-- What is told may be forgotten. -/
theorem HRep.forget {σ F n} {H H' : HF K} {w : World} (h : HRep σ F n H w) (hs : ∀ i e, H' i = some e → H i = some e) : HRep σ F n H' w :=
  ⟨h.fresh, fun i e he => h.sat i e (hs i e he), fun i j e e' hn h1 h2 => h.apart i j e e' hn (hs i e h1) (hs j e' h2), fun i e he => h.inside i e (hs i e he)⟩

/-- The slots of a frame. -/
abbrev Tm (τ : Ty) := List (Nat × ST τ)
def TRep (σ : Sg) (tm : Tm (std K)) (a : Act) : Prop := ∀ t v, look tm t = some v → ∃ x, v.den σ = some x ∧ a.tmps[t]? = some x

theorem TRep.mono {σ σ' : Sg} {tm : Tm (std K)} {a : Act} (h : TRep σ tm a) (hle : Sg.le σ σ') : TRep σ' tm a :=
  fun t v hl => let ⟨x, h1, h2⟩ := h t v hl; ⟨x, ST.mono hle v x h1, h2⟩

theorem look_repl {α : Type} (i j : Nat) (a : α) : ∀ (l : List (Nat × α)), look (repl i a l) j = if j = i then (if (look l i).isSome then some a else none) else look l j
  | [] => by simp [repl, look_nil, look_cons]
  | (k, b) :: r => by
    simp only [repl]
    by_cases hk : Nat.beq k i = true
    · have := Nat.eq_of_beq_eq_true hk
      subst this
      simp only [hk, if_true, look_nil, look_cons]
      by_cases hj : j = k
      · subst hj; simp
      · have : Nat.beq k j = false := Bool.eq_false_iff.2 fun h => hj (Nat.eq_of_beq_eq_true h).symm
        simp [this, hj]
    · have hk' : Nat.beq k i = false := Bool.eq_false_iff.2 hk
      have hne : k ≠ i := fun h => by subst h; simp at hk'
      simp only [hk', Bool.false_eq_true, if_false, look_nil, look_cons, look_repl i j a r]
      by_cases hj : j = i
      · subst hj; simp [hk']
      · simp [hj]

end
end Go.Vse
