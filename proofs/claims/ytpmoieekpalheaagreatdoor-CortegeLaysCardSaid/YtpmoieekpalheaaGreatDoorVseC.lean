/- The symbolic executor is sound: what each operation does. -/
import Derived.Test.YtpmoieekpalheaaGreatDoorVseS
import Derived.Test.YtpmoieekpalheaaGreatDoorVseB
namespace Go.Vse
open Go

section
variable {K : Kit}

/-- The operations on payloads are the model's. -/
structure ArOK (A : Ar (std K)) : Prop where
  int : ∀ n, A.int n = n
  bool : ∀ b, A.bool b = b
  str : ∀ s, A.str s = s
  arith : ∀ op k a b, A.arith op k a b = arithZ op k a b
  cmp : ∀ op a b, A.cmp op a b = cmpZ op a b
  conv : ∀ k a, A.conv k a = k.wrap a
  and : ∀ a b, A.and a b = (a && b)
  not : ∀ a, A.not a = !a
  eqB : ∀ a b, A.eqB a b = (a == b)
  eqS : ∀ a b : ByteArray, A.eqS a b = (a.toList == b.toList)
  vlen : ∀ v, A.vlen v = ((K.vden v).length : Int)
  vget : ∀ v σ (i : Int), 0 ≤ i → i < (K.vden v).length → ∃ r, (K.vden v)[i.toNat]? = some r ∧ denL (K := K) σ (A.vget v i) = some r
  vone : ∀ v, ∀ r ∈ K.vden v, ∀ u ∈ r, u.oneCell' = true
  vapp : ∀ v l v' σ r, A.vapp v l = some v' → denR (K := K) σ l = some r → K.vden v' = K.vden v ++ r
  vcat : ∀ v u v', A.vcat v u = some v' → K.vden v' = K.vden v ++ K.vden u
  vset : ∀ v (i : Int) l v' σ r, A.vset v i l = some v' → 0 ≤ i → i < (K.vden v).length → denL (K := K) σ l = some r → K.vden v' = (K.vden v).set i.toNat r
  vrep : ∀ l (n : Int) v' σ r, A.vrep l n = some v' → 0 ≤ n → denL (K := K) σ l = some r → K.vden v' = List.replicate n.toNat r
  vsub : ∀ v (i j : Int) v', A.vsub v i j = some v' → 0 ≤ i → i ≤ j → j ≤ (K.vden v).length → K.vden v' = ((K.vden v).drop i.toNat).take (j.toNat - i.toNat)

section
variable {A : Ar (std K)}
theorem up_num (hA : ArOK A) (n : Num (std K).I) : (n.up A : Int) = n.den (K := K) := by cases n <;> simp [Num.up, Num.den, hA.int]
theorem up_bol (hA : ArOK A) (n : Bol (std K).B) : (n.up A : Bool) = n.den (K := K) := by cases n <;> simp [Bol.up, Bol.den, hA.bool]
theorem up_str (hA : ArOK A) (n : Str (std K).S) : (n.up A : ByteArray) = n.den (K := K) := by cases n <;> simp [Str.up, Str.den, hA.str]
theorem cmpN_den (hA : ArOK A) (op : BinOp) (a b : Num (std K).I) : (cmpN A op a b).den (K := K) = cmpZ op (a.den (K := K)) (b.den (K := K)) := by
  cases a <;> cases b <;> simp [cmpN, Bol.den, Num.den, Num.up, hA.cmp, hA.int]
theorem arithN_den (hA : ArOK A) (op : BinOp) (k : IntKind) (a b : Num (std K).I) : (arithN A op k a b).den (K := K) = arithZ op k (a.den (K := K)) (b.den (K := K)) := by
  cases a <;> cases b <;> simp [arithN, Num.den, Num.up, hA.arith, hA.int]
theorem convN_den (hA : ArOK A) (k : IntKind) (a : Num (std K).I) : (convN A k a).den (K := K) = k.wrap (a.den (K := K)) := by
  cases a <;> simp [convN, Num.den, hA.conv]
theorem andB_den (hA : ArOK A) (a b : Bol (std K).B) : (andB A a b).den (K := K) = (a.den (K := K) && b.den (K := K)) := by
  cases a with
  | lit a => cases a <;> simp [andB, Bol.den]
  | opn a => cases b with
    | lit b => cases b <;> simp [andB, Bol.den]
    | opn b => simp [andB, Bol.den, hA.and]
theorem notB_den (hA : ArOK A) (a : Bol (std K).B) : (notB A a).den (K := K) = !(a.den (K := K)) := by cases a <;> simp [notB, Bol.den, hA.not]
theorem eqBB_den (hA : ArOK A) (a b : Bol (std K).B) : (eqBB A a b).den (K := K) = (a.den (K := K) == b.den (K := K)) := by
  cases a with
  | lit a => cases b with
    | lit b => simp [eqBB, Bol.den]
    | opn b => cases a <;> simp [eqBB, Bol.den, Bol.up, hA.eqB, hA.bool]
  | opn a => cases b with
    | lit b => cases b <;> simp [eqBB, Bol.den, Bol.up, hA.eqB, hA.bool]
    | opn b => simp [eqBB, Bol.den, Bol.up, hA.eqB]
theorem eqSS_den (hA : ArOK A) (a b : Str (std K).S) : (eqSS A a b).den (K := K) = ((a.den (K := K)).toList == (b.den (K := K)).toList) := by
  cases a <;> cases b <;> simp [eqSS, Bol.den, Str.den, Str.up, hA.eqS, hA.str]
end

theorem constSC_den {σ : Sg} {v : Value} {c : SC (std K)} (h : constSC v = some c) : c.den σ = some v := by
  unfold constSC at h
  split at h <;> simp at h <;> subst h <;> rfl

theorem mapO_constSC {σ : Sg} : ∀ {l : List Value} {cs : List (SC (std K))}, mapO constSC l = some cs → denL σ cs = some l
  | [], cs, h => by simp [mapO_nil, mapO_cons] at h; subst h; rfl
  | v :: l, cs, h => by
    simp only [mapO_nil, mapO_cons] at h
    cases h1 : constSC (τ := std K) v with
    | none => simp [h1] at h
    | some c =>
      cases h2 : mapO (constSC (τ := std K)) l with
      | none => simp [h1, h2] at h
      | some r => simp [h1, h2] at h; subst h; exact denL_cons.2 ⟨v, l, constSC_den h1, mapO_constSC h2, rfl⟩

theorem constST_den {σ : Sg} {v : Value} {c : ST (std K)} (h : constST v = some c) : c.den σ = some v := by
  unfold constST at h
  split at h
  · rename_i cs
    cases h2 : mapO (constSC (τ := std K)) cs.toList with
    | none => simp [h2] at h
    | some r => simp [h2] at h; subst h; simp [ST.den, mapO_constSC h2]
  · rename_i cs
    split at h
    · simp at h; subst h
      rename_i h0
      have : cs = #[] := Array.eq_empty_of_size_eq_zero h0
      simp [ST.den, denT, this]
    · simp at h
  · split at h
    · rename_i c' h1; simp at h; subst h; exact constSC_den h1
    · simp at h

/-- The variables of the program lie where the heap says. -/
def GRep (E : Env (std K)) (σ : Sg) : Prop := ∀ g i, look E.glob g = some i → ∃ L, σ i = some L ∧ L.g = g ∧ L.off = 0

theorem GRep.mono {E : Env (std K)} {σ σ' : Sg} (h : GRep E σ) (hle : Sg.le σ σ') : GRep E σ' := fun g i hg => let ⟨L, h1, h2⟩ := h g i hg; ⟨L, hle i L h1, h2⟩

theorem opnd_den {E : Env (std K)} {σ : Sg} {tm : Tm (std K)} {a : Act} (hg : GRep E σ) (ht : TRep σ tm a) (x : Operand) (v : ST (std K)) (h : opnd E tm x = some v) : v.den σ = some (a.eval x) := by
  cases x with
  | tmp t =>
    obtain ⟨y, h1, h2⟩ := ht t v h
    simp [Act.eval, h1, h2]
  | const c => exact constST_den h
  | global g =>
    simp only [opnd] at h
    cases hl : look E.glob g with
    | none => simp [hl] at h
    | some i =>
      simp [hl] at h; subst h
      obtain ⟨L, h1, h2, h3⟩ := hg g i hl
      simp [ST.den, SC.den, h1, h2, h3, Act.eval, pathOff, pathOK]
  | func f => simp [opnd] at h; subst h; simp [ST.den, SC.den, Act.eval]

/-- An operation comes to a value and a heap. -/
def OpOK (P : Program) (o : Oper) (a : Act) (σ : Sg) (F : Nat → Nat → Prop) (h : Heap (std K)) (w : World) (v : ST (std K)) (h' : Heap (std K)) : Prop :=
  ∀ next Q, (∀ σ' F' w' x, Post σ F h.n h.get w σ' F' h'.n h'.get w' → v.den σ' = some x → next (a.put o.dst x) w') → o.wp P a w next Q

theorem OpOK.same {P : Program} {o : Oper} {a : Act} {σ F} {h : Heap (std K)} {w : World} {v : ST (std K)} {x : Value} (hr : HRep σ F h.n h.get w)
    (hrun : (execOp a.eval o).run P w = .ok (.value x) w) (hv : v.den σ = some x) : OpOK P o a σ F h w v h := by
  intro next Q hn
  unfold Oper.wp
  rw [hrun]
  exact hn σ F w x (.refl hr) hv

/-- A new block of cells. -/
theorem HRep.push {σ F} {h : Heap (std K)} {w : World} (hr : HRep σ F h.n h.get w) {l : List (SC (std K))} {vs : List Value} {T : TypeId} (hl : denL σ l = some vs) :
    ∃ σ' F', Post σ F h.n h.get w σ' F' (h.push (.cells l T)).n (h.push (.cells l T)).get (w.alloc (.cells vs.toArray T)) ∧ σ' h.n = some ⟨w.heap.size, 0, 0, 0⟩ := by
  let σ' : Sg := fun i => if i = h.n then some ⟨w.heap.size, 0, 0, 0⟩ else σ i
  let F' : Nat → Nat → Prop := fun i b => if i = h.n then b = w.heap.size else F i b
  have hle : Sg.le σ σ' := fun i L hi => by
    by_cases he : i = h.n
    · subst he; rw [hr.fresh _ (Nat.le_refl _)] at hi; cases hi
    · simp [σ', he, hi]
  have hget : ∀ i, (h.push (.cells l T)).get i = if i = h.n then some (.cells l T) else h.get i := fun i => by
    show look ((h.n, _) :: h.l) i = _
    simp only [look_nil, look_cons]
    by_cases he : i = h.n
    · subst he; simp
    · have : Nat.beq h.n i = false := Bool.eq_false_iff.2 fun hb => he (Nat.eq_of_beq_eq_true hb).symm
      simp [this, he, Heap.get]
  have hold : ∀ i e, h.get i = some e → i ≠ h.n := fun i e he hi => by
    obtain ⟨L, hL, _⟩ := hr.sat i e he
    rw [hr.fresh i (by omega)] at hL; cases hL
  refine ⟨σ', F', ⟨fun i hi => by simp [σ', Nat.ne_of_lt hi], Nat.le_succ _, ⟨?_, ?_, ?_, ?_⟩, ⟨rfl, rfl, rfl, by simp, fun b hb _ => RowKit.Below.heap_alloc _ _ _ hb⟩, ?_⟩, by simp [σ']⟩
  · intro i hi
    have hi' : h.n + 1 ≤ i := hi
    simp [σ', show i ≠ h.n by omega, hr.fresh i (by omega)]
  · intro i e he
    rw [hget] at he
    by_cases hi : i = h.n
    · subst hi
      simp at he; subst he
      refine ⟨⟨w.heap.size, 0, 0, 0⟩, by simp [σ'], rfl, ⟨vs, denL_mono hle _ _ hl, ?_⟩, fun b => by simp [F']⟩
      show (w.heap.push _)[w.heap.size]? = _
      simp
    · simp [hi] at he
      obtain ⟨L, hL, hs⟩ := hr.sat i e he
      refine ⟨L, hle i L hL, ?_⟩
      have : F' i = F i := by funext b; simp [F', hi]
      rw [this]
      exact Ent.sat_local (w := w) (fun b hb => RowKit.Below.heap_alloc _ _ _ (hr.inside i e he b hb)) (Ent.sat_mono hle hs)
  · intro i j e e' hn hi hj hs b hb hb'
    rw [hget] at hi hj
    by_cases h1 : i = h.n <;> by_cases h2 : j = h.n
    · omega
    · simp [h2] at hj
      simp [F', h1] at hb; simp [F', h2] at hb'
      have := hr.inside j e' hj b hb'; omega
    · simp [h1] at hi
      simp [F', h1] at hb; simp [F', h2] at hb'
      have := hr.inside i e hi b hb; omega
    · simp [h1] at hi; simp [h2] at hj
      simp [F', h1] at hb; simp [F', h2] at hb'
      exact hr.apart i j e e' hn hi hj hs b hb hb'
  · intro i e he b hb
    rw [hget] at he
    by_cases hi : i = h.n
    · simp [F', hi] at hb; simp; omega
    · simp [hi] at he; simp [F', hi] at hb
      have := hr.inside i e he b hb
      simp; omega
  · intro i e b he hb
    rw [hget] at he
    by_cases hi : i = h.n
    · simp [F', hi] at hb; exact .inr (by omega)
    · simp [hi] at he; simp [F', hi] at hb
      exact .inl ⟨i, e, he, hb, .inr rfl⟩

end
end Go.Vse
