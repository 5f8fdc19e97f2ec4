/- The symbolic executor is sound: a region that draws its order. -/
import Derived.Test.YtpmoieekpalheaaGreatDoorVseK
namespace Go.Vse
open Go

section
variable {K : Kit}

theorem memN_iff {i : Nat} : ∀ {l : List Nat}, memN i l = true ↔ i ∈ l
  | [] => by simp [memN_nil, memN_cons]
  | k :: r => by
    simp only [memN_nil, memN_cons]
    by_cases h : Nat.beq k i = true
    · have := Nat.eq_of_beq_eq_true h; subst this; simp
    · have hne : i ≠ k := fun e => h (by subst e; exact Nat.beq_refl i)
      simp only [h, Bool.false_eq_true, if_false, List.mem_cons, hne, false_or]
      exact memN_iff

theorem meets_iff {a b : List Nat} : meets a b = true ↔ ∃ i, i ∈ a ∧ i ∈ b := by
  induction a with
  | nil => simp [meets]
  | cons k r ih =>
    simp only [meets]
    by_cases h : memN k b = true
    · simp only [h, if_true, true_iff]; exact ⟨k, by simp, memN_iff.1 h⟩
    · have hk : k ∉ b := fun e => h (memN_iff.2 e)
      simp only [h, Bool.false_eq_true, if_false, ih]
      constructor
      · rintro ⟨i, h1, h2⟩; exact ⟨i, by simp [h1], h2⟩
      · rintro ⟨i, h1, h2⟩
        rcases List.mem_cons.1 h1 with rfl | h1
        · exact absurd h2 hk
        · exact ⟨i, h1, h2⟩

theorem mem_catMap {α β : Type} {f : α → List β} {b : β} : ∀ {l : List α}, b ∈ catMap f l ↔ ∃ a, a ∈ l ∧ b ∈ f a
  | [] => by simp [catMap_nil, catMap_cons]
  | a :: r => by simp [catMap_nil, catMap_cons, mem_catMap (l := r)]

noncomputable def touches (r : Rec (std K)) (i : Nat) : Bool := (r.wr && memN i r.u) || (Nat.ble r.base i && Nat.blt i r.h1.n)

noncomputable def updH (r : Rec (std K)) (H : HF K) : HF K := fun i => if touches r i then r.h1.get i else H i
def updT (r : Rec (std K)) (T : Nat → Option (ST (std K))) : Nat → Option (ST (std K)) := fun t => if r.dst = some t then some r.v else T t

noncomputable def hAt (S : Nat → Bool) : Nat → List (Rec (std K)) → HF K → HF K
  | _, [], H => H
  | k, r :: rs, H => hAt S (k + 1) rs (if S k then updH r H else H)
def tAt (S : Nat → Bool) : Nat → List (Rec (std K)) → (Nat → Option (ST (std K))) → Nat → Option (ST (std K))
  | _, [], T => T
  | k, r :: rs, T => tAt S (k + 1) rs (if S k then updT r T else T)

theorem hAt_congr {S S' : Nat → Bool} {i : Nat} : ∀ (rs : List (Rec (std K))) (k : Nat) (H H' : HF K), H i = H' i → (∀ j r, rs[j]? = some r → touches r i = true → S (k + j) = S' (k + j)) → hAt S k rs H i = hAt S' k rs H' i
  | [], _, H, H', h, _ => h
  | r :: rs, k, H, H', h, hs => by
    simp only [hAt]
    apply hAt_congr rs (k + 1)
    · by_cases ht : touches r i = true
      · have := hs 0 r rfl ht
        simp only [Nat.add_zero] at this
        rw [this]; cases S' k <;> simp [updH, ht, h]
      · cases S k <;> cases S' k <;> simp [updH, ht, h]
    · intro j q hq ht
      have := hs (j + 1) q (by simpa using hq) ht
      rwa [show k + (j + 1) = k + 1 + j by omega] at this

theorem tAt_congr {S S' : Nat → Bool} {t : Nat} : ∀ (rs : List (Rec (std K))) (k : Nat) (T T' : Nat → Option (ST (std K))), T t = T' t → (∀ j r, rs[j]? = some r → r.dst = some t → S (k + j) = S' (k + j)) → tAt S k rs T t = tAt S' k rs T' t
  | [], _, T, T', h, _ => h
  | r :: rs, k, T, T', h, hs => by
    simp only [tAt]
    apply tAt_congr rs (k + 1)
    · by_cases ht : r.dst = some t
      · have := hs 0 r rfl ht
        simp only [Nat.add_zero] at this
        rw [this]; cases S' k <;> simp [updT, ht, h]
      · cases S k <;> cases S' k <;> simp [updT, ht, h]
    · intro j q hq ht
      have := hs (j + 1) q (by simpa using hq) ht
      rwa [show k + (j + 1) = k + 1 + j by omega] at this

theorem hAt_append (S : Nat → Bool) : ∀ (rs qs : List (Rec (std K))) (k : Nat) (H : HF K), hAt S k (rs ++ qs) H = hAt S (k + rs.length) qs (hAt S k rs H)
  | [], qs, k, H => by simp [hAt]
  | r :: rs, qs, k, H => by simp only [List.cons_append, hAt, hAt_append S rs qs, List.length_cons]; congr 1; omega
theorem tAt_append (S : Nat → Bool) : ∀ (rs qs : List (Rec (std K))) (k : Nat) (T), tAt S k (rs ++ qs) T = tAt S (k + rs.length) qs (tAt S k rs T)
  | [], qs, k, T => by simp [tAt]
  | r :: rs, qs, k, T => by simp only [List.cons_append, tAt, tAt_append S rs qs, List.length_cons]; congr 1; omega

/-- Nothing of a list takes place. -/
theorem hAt_none {S : Nat → Bool} {i : Nat} : ∀ (rs : List (Rec (std K))) (k : Nat) (H : HF K), (∀ j r, rs[j]? = some r → touches r i = true → S (k + j) = false) → hAt S k rs H i = H i
  | [], _, H, _ => rfl
  | r :: rs, k, H, hs => by
    simp only [hAt]
    rw [hAt_none rs (k + 1) _ (fun j q hq ht => by have := hs (j + 1) q (by simpa using hq) ht; rwa [show k + (j + 1) = k + 1 + j by omega] at this)]
    by_cases ht : touches r i = true
    · have := hs 0 r rfl ht
      simp only [Nat.add_zero] at this; simp [this]
    · cases S k <;> simp [updH, ht]
theorem tAt_none {S : Nat → Bool} {t : Nat} : ∀ (rs : List (Rec (std K))) (k : Nat) (T), (∀ j r, rs[j]? = some r → r.dst = some t → S (k + j) = false) → tAt S k rs T t = T t
  | [], _, T, _ => rfl
  | r :: rs, k, T, hs => by
    simp only [tAt]
    rw [tAt_none rs (k + 1) _ (fun j q hq ht => by have := hs (j + 1) q (by simpa using hq) ht; rwa [show k + (j + 1) = k + 1 + j by omega] at this)]
    by_cases ht : r.dst = some t
    · have := hs 0 r rfl ht
      simp only [Nat.add_zero] at this; simp [this]
    · cases S k <;> simp [updT, ht]

abbrev allS : Nat → Bool := fun _ => true

/-- A list, cut at one of its records. -/
theorem cut_at {α : Type} {l : List α} {k : Nat} {r : α} (h : l[k]? = some r) : l = l.take k ++ r :: l.drop (k + 1) ∧ (l.take k).length = k := by
  obtain ⟨hk, he⟩ := List.getElem?_eq_some_iff.1 h
  refine ⟨?_, by simp; omega⟩
  conv => lhs; rw [← List.take_append_drop k l]
  rw [List.drop_eq_getElem_cons hk, he]

/-- What one more record does. -/
theorem hAt_add {S S' : Nat → Bool} {rs : List (Rec (std K))} {H : HF K} {k : Nat} {r : Rec (std K)} (hk : rs[k]? = some r) (hS : S k = false) (hS' : ∀ j, S' j = if j = k then true else S j)
    (hlate : ∀ j q, k < j → rs[j]? = some q → S j = true → ∀ i, touches r i = true → touches q i = false) (i : Nat) : hAt S' 0 rs H i = if touches r i then r.h1.get i else hAt S 0 rs H i := by
  by_cases ht : touches r i = true
  · rw [if_pos ht]
    obtain ⟨h1, h2⟩ := cut_at hk
    rw [h1, hAt_append, h2]
    simp only [hAt, Nat.zero_add]
    rw [hAt_none]
    · rw [hS' k]; simp [updH, ht]
    · intro j q hq htq
      rw [List.getElem?_drop] at hq
      rw [hS', if_neg (by omega)]
      cases hs : S (k + 1 + j) with
      | false => rfl
      | true =>
        have := hlate (k + 1 + j) q (by omega) hq hs i ht
        rw [htq] at this; cases this
  · rw [if_neg ht]
    apply hAt_congr rs 0 H H rfl
    intro j q hq htq
    rw [Nat.zero_add, hS']
    by_cases hj : j = k
    · subst hj; rw [hk] at hq; cases hq; exact absurd htq ht
    · simp [hj]
theorem tAt_add {S S' : Nat → Bool} {rs : List (Rec (std K))} {T} {k : Nat} {r : Rec (std K)} (hk : rs[k]? = some r) (hS : S k = false) (hS' : ∀ j, S' j = if j = k then true else S j)
    (hlate : ∀ j q, k < j → rs[j]? = some q → S j = true → ∀ t, r.dst = some t → q.dst ≠ some t) (t : Nat) : tAt S' 0 rs T t = if r.dst = some t then some r.v else tAt S 0 rs T t := by
  by_cases ht : r.dst = some t
  · rw [if_pos ht]
    obtain ⟨h1, h2⟩ := cut_at hk
    rw [h1, tAt_append, h2]
    simp only [tAt, Nat.zero_add]
    rw [tAt_none]
    · rw [hS' k]; simp [updT, ht]
    · intro j q hq htq
      rw [List.getElem?_drop] at hq
      rw [hS', if_neg (by omega)]
      cases hs : S (k + 1 + j) with
      | false => rfl
      | true => exact absurd htq (hlate (k + 1 + j) q (by omega) hq hs t ht)
  · rw [if_neg ht]
    apply tAt_congr rs 0 T T rfl
    intro j q hq htq
    rw [Nat.zero_add, hS']
    by_cases hj : j = k
    · subst hj; rw [hk] at hq; cases hq; exact absurd htq ht
    · simp [hj]

/-- What stood there ahead of a record, as the text has it. -/
theorem hAt_before {S : Nat → Bool} {rs : List (Rec (std K))} {H : HF K} {k : Nat} {r : Rec (std K)} (hk : rs[k]? = some r) {i : Nat}
    (he : ∀ j q, j < k → rs[j]? = some q → touches q i = true → S j = true) (hl : ∀ j q, k ≤ j → rs[j]? = some q → touches q i = true → S j = false) : hAt S 0 rs H i = hAt allS 0 (rs.take k) H i := by
  obtain ⟨h1, h2⟩ := cut_at hk
  conv => lhs; rw [← List.take_append_drop k rs]
  rw [hAt_append, h2, Nat.zero_add, hAt_none]
  · apply hAt_congr _ _ _ _ rfl
    intro j q hq ht
    have hj : j < k := by have := (List.getElem?_eq_some_iff.1 hq).1; omega
    rw [Nat.zero_add]
    exact he j q hj (by rwa [List.getElem?_take_of_lt hj] at hq) ht
  · intro j q hq ht
    rw [List.getElem?_drop] at hq
    exact hl (k + j) q (by omega) hq ht
theorem tAt_before {S : Nat → Bool} {rs : List (Rec (std K))} {T} {k : Nat} {r : Rec (std K)} (hk : rs[k]? = some r) {t : Nat}
    (he : ∀ j q, j < k → rs[j]? = some q → q.dst = some t → S j = true) (hl : ∀ j q, k ≤ j → rs[j]? = some q → q.dst = some t → S j = false) : tAt S 0 rs T t = tAt allS 0 (rs.take k) T t := by
  obtain ⟨h1, h2⟩ := cut_at hk
  conv => lhs; rw [← List.take_append_drop k rs]
  rw [tAt_append, h2, Nat.zero_add, tAt_none]
  · apply tAt_congr _ _ _ _ rfl
    intro j q hq ht
    have hj : j < k := by have := (List.getElem?_eq_some_iff.1 hq).1; omega
    rw [Nat.zero_add]
    exact he j q hj (by rwa [List.getElem?_take_of_lt hj] at hq) ht
  · intro j q hq ht
    rw [List.getElem?_drop] at hq
    exact hl (k + j) q (by omega) hq ht

/-- The slots that an operation reads hold what is told. -/
def Holds (σ : Sg) (rd : List Nat) (T : Nat → Option (ST (std K))) (a : Act) : Prop := ∀ t v, t ∈ rd → T t = some v → ∃ x, v.den σ = some x ∧ a.tmps[t]? = some x

/-- What a record says of its operation, whenever that takes place. -/
structure RecOK (E : Env (std K)) (ops : Array Oper) (n : Nat) (o : Oper) (r : Rec (std K)) (T : Nat → Option (ST (std K))) (H : HF K) : Prop where
  dst : r.dst = o.dst
  slot : ∀ t, o.dst = some t → t < n
  mon : r.base ≤ r.h1.n
  uu : ∀ i, i ∈ r.u → i < r.base
  run : (∀ σ a, Holds σ r.rd T a → Region.wanted o (yielded ops a.tmps) = false) ∧ r.v = undefS ∧ r.u = [] ∧ r.h1.n = r.base ∨
    (∀ σ a, Holds σ r.rd T a → Region.wanted o (yielded ops a.tmps) = true) ∧
    (∀ i e, i ∈ r.u → H i = some e → e.under r.base = true) ∧ (∀ t v, t ∈ r.rd → T t = some v → v.under r.base = true) ∧ (∀ g i, look E.glob g = some i → i < r.base) ∧
    (r.wr = false → ∀ i, i ∈ r.u → r.h1.get i = H i) ∧
    ∀ σ F a w, HRep σ F r.base (part' H (· ∈ r.u)) w → GRep E σ → Holds σ r.rd T a → ∀ next Q,
      (∀ σ' F' w' x, Post σ F r.base (part' H (· ∈ r.u)) w σ' F' r.h1.n r.h1.get w' → r.v.den σ' = some x → next (a.put o.dst x) w') → o.wp E.P a w next Q

end
end Go.Vse
