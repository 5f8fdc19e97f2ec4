/- The symbolic executor is sound: a drawn region, in whatever order. -/
import Derived.Test.YtpmoieekpalheaaGreatDoorVseM
namespace Go.Vse
open Go

section
variable {K : Kit}

/-- A list of marks that has, with an operation, all that must come ahead of it. -/
def Closed (ops : Array Oper) (S : Nat → Prop) : Prop := ∀ k o, ops[k]? = some o → S k → ∀ e ∈ o.after.toList, Region.binds .any e = true → S e.on

theorem predsOf_ok {ops : Array Oper} : ∀ (todo : List Oper) (acc : List (List Nat)), ops.toList.drop acc.length = todo →
    (∀ i j, j ∈ acc.getD i [] → ∀ S, Closed ops S → (∀ o, ops[i]? = some o → ∀ e ∈ o.after.toList, Region.binds .any e = true → S e.on) → S j) →
    ∀ i j, j ∈ (predsOf ops todo acc).getD i [] → ∀ S, Closed ops S → (∀ o, ops[i]? = some o → ∀ e ∈ o.after.toList, Region.binds .any e = true → S e.on) → S j
  | [], acc, _, h => h
  | o :: r, acc, hd, h => by
    simp only [predsOf]
    apply predsOf_ok r
    · have h1 : (ops.toList.drop acc.length).drop 1 = r := by rw [hd]; rfl
      rw [List.drop_drop] at h1
      simpa using h1
    · intro i j hj S hS hr
      rcases Nat.lt_trichotomy i acc.length with hl | hl | hl
      · rw [List.getD_eq_getElem?_getD, List.getElem?_append_left hl, ← List.getD_eq_getElem?_getD] at hj
        exact h i j hj S hS hr
      · subst hl
        have ho : ops[acc.length]? = some o := by
          have h1 : (ops.toList.drop acc.length)[0]? = some o := by rw [hd]; rfl
          rw [List.getElem?_drop, Nat.add_zero] at h1
          simpa using h1
        simp only [List.getD_eq_getElem?_getD, List.getElem?_append_right (Nat.le_refl _), Nat.sub_self, List.getElem?_cons_zero, Option.getD_some] at hj
        obtain ⟨e, he, hj⟩ := mem_catMap.1 hj
        split at hj
        · rename_i hb
          have hse := hr o ho e he hb
          rcases List.mem_cons.1 hj with rfl | hj
          · exact hse
          · exact h e.on j (by simpa [List.getD_eq_getElem?_getD] using hj) S hS (fun o' ho' e' he' hb' => hS e.on o' ho' hse e' he' hb')
        · simp at hj
      · rw [List.getD_eq_getElem?_getD, List.getElem?_eq_none (by simp; omega)] at hj
        simp at hj

def unl : List Bool → Nat
  | [] => 0
  | b :: r => (if b then 0 else 1) + unl r

theorem unl_set : ∀ (l : List Bool) (i : Nat), l[i]? = some false → unl (l.set i true) + 1 = unl l
  | [], i, h => by simp at h
  | b :: r, 0, h => by simp at h; subst h; simp [unl]; omega
  | b :: r, i + 1, h => by
    have := unl_set r i (by simpa using h)
    simp only [List.set_cons_succ, unl]; omega

theorem unl_zero : ∀ (l : List Bool), unl l = 0 → ∀ i, i < l.length → l[i]? = some true
  | [], _, i, h => by simp at h
  | b :: r, h, 0, _ => by cases b <;> simp [unl] at h ⊢
  | b :: r, h, i + 1, hi => by
    simp only [unl] at h
    simpa using unl_zero r (by omega) i (by simpa using hi)

theorem unl_replicate : ∀ n, unl (List.replicate n false) = n
  | 0 => rfl
  | n + 1 => by simp [List.replicate_succ, unl, unl_replicate n]; omega

theorem textOK_ok : ∀ {l : List Oper} {i : Nat}, textOK i l = true → ∀ (k : Nat) (o : Oper), l[k]? = some o → ∀ e ∈ o.after.toList, Region.binds .any e = true → e.on < i + k
  | [], _, _, k, o, h => by simp at h
  | p :: l, i, h, k, o, hk => by
    simp only [textOK, Bool.and_eq_true] at h
    cases k with
    | zero =>
      simp at hk; subst hk
      intro e he hb
      have := allB_mem h.1 e he
      simp [hb, Nat.blt_eq] at this
      omega
    | succ k =>
      intro e he hb
      have := textOK_ok h.2 k o (by simpa using hk) e he hb
      omega

/-- What holds when some operations of a drawn region have taken place. -/
structure DInv (E : Env (std K)) (recs : List (Rec (std K))) (n n0 N : Nat) (T0 : Nat → Option (ST (std K))) (H0 : HF K) (σ0 : Sg) (F0 : Nat → Nat → Prop) (w0 : World) (ds : List Deferred) (S : Nat → Bool) (a : Act) (w : World) (σ : Sg) (F : Nat → Nat → Prop) : Prop where
  post : Post σ0 F0 n0 H0 w0 σ F N (hAt S 0 recs H0) w
  le : Sg.le σ0 σ
  dom : ∀ i, σ i ≠ none → i < n0 ∨ ∃ (k : Nat) (r : Rec (std K)), recs[k]? = some r ∧ S k = true ∧ r.base ≤ i ∧ i < r.h1.n
  tms : ∀ t v, tAt S 0 recs T0 t = some v → ∃ x, v.den σ = some x ∧ a.tmps[t]? = some x
  size : a.tmps.size = n
  defers : a.defers = ds

theorem conf_dst {a b : Rec (std K)} {t : Nat} (h : a.dst = some t) (h' : t ∈ b.rd ∨ b.dst = some t) : conf a b = true := by
  rcases h' with h' | h'
  · simp [conf, h, memN_iff.2 h']
  · simp [conf, h, h', Nat.beq_refl]
theorem conf_rd {a b : Rec (std K)} {t : Nat} (h : b.dst = some t) (h' : t ∈ a.rd) : conf a b = true := by
  simp [conf, h, memN_iff.2 h']
theorem conf_u {a b : Rec (std K)} {i : Nat} (hw : a.wr = true ∨ b.wr = true) (h : i ∈ a.u) (h' : i ∈ b.u) : conf a b = true := by
  have : meets a.u b.u = true := meets_iff.2 ⟨i, h, h'⟩
  have h2 : (a.wr || b.wr) = true := by rcases hw with h | h <;> simp [h]
  simp [conf, this, h2]
theorem conf_new {a b : Rec (std K)} {i : Nat} (h1 : a.base ≤ i) (h2 : i < a.h1.n) (h' : i ∈ b.u) : conf a b = true := by
  have : allB (fun i => Nat.blt i a.base || Nat.ble a.h1.n i) b.u = false := Bool.eq_false_iff.2 fun h => by
    have := allB_mem h i h'
    simp [Nat.blt_eq, Nat.ble_eq] at this
    omega
  simp [conf, this]

theorem touches_iff {r : Rec (std K)} {i : Nat} : touches r i = true ↔ (r.wr = true ∧ i ∈ r.u) ∨ (r.base ≤ i ∧ i < r.h1.n) := by
  simp only [touches, Bool.or_eq_true, Bool.and_eq_true, memN_iff, Nat.ble_eq, Nat.blt_eq]

theorem DInv.step {E : Env (std K)} {ops : Array Oper} {preds : List (List Nat)} {n n0 : Nat} {T0 : Nat → Option (ST (std K))} {H0 : HF K} {recs : List (Rec (std K))} {tm' : Tm (std K)} {h' : Heap (std K)}
    (g : Good E ops preds n n0 T0 H0 recs tm' h') {σ0 F0} {w0 : World} {ds : List Deferred} (hG : GRep E σ0) {S S' : Nat → Bool} {a : Act} {w : World} {σ F} (inv : DInv E recs n n0 h'.n T0 H0 σ0 F0 w0 ds S a w σ F)
    {k : Nat} {o : Oper} (ho : ops[k]? = some o) (hlen : recs.length = ops.size) (hS : S k = false) (hS' : ∀ j, S' j = if j = k then true else S j)
    (hearly : ∀ j, j ∈ preds.getD k [] → S j = true) (hlate : ∀ j, k ∈ preds.getD j [] → S j = true → S k = true) {Q : Exit → Act → World → Prop} {next : Act → World → Prop}
    (hn : ∀ a' w' σ' F', DInv E recs n n0 h'.n T0 H0 σ0 F0 w0 ds S' a' w' σ' F' → next a' w') : wpOp E.P ops Q k next a w := by
  have hkl : k < ops.size := (Array.getElem?_eq_some_iff.1 ho).1
  obtain ⟨r, hr⟩ : ∃ r, recs[k]? = some r := ⟨recs[k], List.getElem?_eq_getElem (by omega)⟩
  obtain ⟨o', ho', ok⟩ := g.ok k r hr
  rw [ho] at ho'; cases ho'
  have low := g.low k r hr
  have hlate' : ∀ (j : Nat) (q : Rec (std K)), k < j → recs[j]? = some q → conf r q = true → S j = false := fun j q hj hq hc => by
    cases hs : S j with
    | false => rfl
    | true => have := hlate j (g.ord k j r q hj hr hq hc) hs; rw [hS] at this; cases this
  have hearly' : ∀ (j : Nat) (q : Rec (std K)), j < k → recs[j]? = some q → conf q r = true → S j = true := fun j q hj hq hc => hearly j (g.ord j k q r hj hq hr hc)
  have hbefore : ∀ i, i ∈ r.u → hAt S 0 recs H0 i = hAt allS 0 (recs.take k) H0 i := fun i hi => by
    refine hAt_before hr (fun j q hj hq ht => ?_) (fun j q hj hq ht => ?_)
    · refine hearly' j q hj hq ?_
      rcases touches_iff.1 ht with ⟨h1, h2⟩ | ⟨h1, h2⟩
      · exact conf_u (.inl h1) h2 hi
      · exact conf_new h1 h2 hi
    · rcases Nat.lt_or_ge k j with hlt | hge
      · rcases touches_iff.1 ht with ⟨h1, h2⟩ | ⟨h1, h2⟩
        · exact hlate' j q hlt hq (conf_u (.inr h1) hi h2)
        · have h3 := g.apart k j r q hlt hr hq
          have h4 := ok.uu i hi
          have h5 := ok.mon
          omega
      · have : j = k := by omega
        subst this; exact hS
  have hbeforeT : ∀ t, t ∈ r.rd → tAt S 0 recs T0 t = tAt allS 0 (recs.take k) T0 t := fun t ht => by
    refine tAt_before hr (fun j q hj hq hd => hearly' j q hj hq (conf_dst hd (.inl ht))) (fun j q hj hq hd => ?_)
    rcases Nat.lt_or_ge k j with hlt | hge
    · exact hlate' j q hlt hq (conf_rd hd ht)
    · have : j = k := by omega
      subst this; exact hS
  have hholds : Holds σ r.rd (tAt allS 0 (recs.take k) T0) a := fun t v ht hv => inv.tms t v (by rw [hbeforeT t ht]; exact hv)
  have htl : ∀ j q, k < j → recs[j]? = some q → S j = true → ∀ t, r.dst = some t → q.dst ≠ some t := fun j q hj hq hs t hd hd' => by
    have := hlate' j q hj hq (conf_dst hd (.inr hd')); rw [hs] at this; cases this
  have hhl : ∀ j q, k < j → recs[j]? = some q → S j = true → ∀ i, touches r i = true → touches q i = false := fun j q hj hq hs i ht => by
    apply Bool.eq_false_iff.2
    intro ht'
    have h3 := g.apart k j r q hj hr hq
    have h5 := ok.mon
    have hc : conf r q = true := by
      rcases touches_iff.1 ht with ⟨h1, h2⟩ | ⟨h1, h2⟩ <;> rcases touches_iff.1 ht' with ⟨h6, h7⟩ | ⟨h6, h7⟩
      · exact conf_u (.inl h1) h2 h7
      · have h4 := ok.uu i h2; omega
      · exact conf_new h1 h2 h7
      · omega
    have := hlate' j q hj hq hc; rw [hs] at this; cases this
  have hT' := tAt_add (T := T0) hr hS hS' htl
  have hH' := hAt_add (H := H0) hr hS hS' hhl
  unfold wpOp
  rw [ho]
  simp only
  rcases ok.run with ⟨hw, hv, hu, hnn⟩ | ⟨hw, hund, hundT, hglob, hnw, hrun⟩
  · -- it does not run
    rw [hw σ a hholds]
    simp only [Bool.false_eq_true, if_false]
    have hHeq : hAt S' 0 recs H0 = hAt S 0 recs H0 := by
      funext i
      rw [hH', if_neg]
      rw [touches_iff]
      rintro (⟨_, h⟩ | ⟨h1, h2⟩)
      · rw [hu] at h; simp at h
      · omega
    refine hn _ _ σ F ⟨by rw [hHeq]; exact inv.post, inv.le, fun i hi => ?_, fun t v hv' => ?_, ?_, ?_⟩
    · rcases inv.dom i hi with h | ⟨j, q, h1, h2, h3⟩
      · exact .inl h
      · refine .inr ⟨j, q, h1, ?_, h3⟩
        rw [hS']; split <;> simp [h2]
    · rw [hT'] at hv'
      split at hv'
      · rename_i hd
        simp at hv'; subst hv'
        have hd' : o.dst = some t := by rw [← ok.dst]; exact hd
        rw [hv]
        exact ⟨undef, by simp [undefS, ST.den, denT, undef], by simp [Act.put, hd', inv.size, ok.slot t hd']⟩
      · rename_i hd
        obtain ⟨x, h1, h2⟩ := inv.tms t v hv'
        refine ⟨x, h1, ?_⟩
        cases hdd : o.dst with
        | none => simp [Act.put, h2]
        | some d =>
          have : d ≠ t := fun e => hd (by rw [ok.dst, hdd, e])
          simp [Act.put, Array.getElem?_setIfInBounds_ne this, h2]
    · cases o.dst <;> simp [Act.put, inv.size]
    · cases o.dst <;> simp [Act.put, inv.defers]
  · rw [hw σ a hholds]
    simp only [if_true]
    refine .inl ?_
    have hrep := inv.post.rep
    have hpart : part' (hAt S 0 recs H0) (· ∈ r.u) = part' (hAt allS 0 (recs.take k) H0) (· ∈ r.u) := by
      funext i
      unfold part'
      split
      · rename_i hi; exact hbefore i hi
      · rfl
    have hcut := hrep.part (base := r.base) (u := (· ∈ r.u)) ok.uu (fun i e hi he => hund i e hi (by rw [← hbefore i hi]; exact he))
    rw [hpart] at hcut
    have hG' : GRep E (σ.cut r.base) := fun gg i hi => by
      obtain ⟨L, h1, h2⟩ := (hG.mono inv.le) gg i hi
      exact ⟨L, by simp [Sg.cut, hglob gg i hi, h1], h2⟩
    have hholds' : Holds (σ.cut r.base) r.rd (tAt allS 0 (recs.take k) T0) a := fun t v ht hv => by
      obtain ⟨x, h1, h2⟩ := hholds t v ht hv
      exact ⟨x, ST.cut v x (hundT t v ht hv) h1, h2⟩
    refine hrun (σ.cut r.base) F a w hcut hG' hholds' next Q ?_
    intro σ' F' w' x hp hx
    have hfree : ∀ i, r.base ≤ i → i < r.h1.n → σ i = none := fun i h1 h2 => by
      cases hs : σ i with
      | none => rfl
      | some L =>
        exfalso
        rcases inv.dom i (by rw [hs]; simp) with h | ⟨j, q, h3, h4, h5, h6⟩
        · omega
        · rcases Nat.lt_trichotomy j k with hl | hl | hl
          · have := g.apart j k q r hl h3 hr; omega
          · subst hl; rw [hS] at h4; cases h4
          · have := g.apart k j r q hl hr h3; omega
    have hH₂ : ∀ i, hAt S' 0 recs H0 i = if i ∈ r.u ∨ (r.base ≤ i ∧ i < r.h1.n) then r.h1.get i else hAt S 0 recs H0 i := fun i => by
      rw [hH']
      by_cases ht : touches r i = true
      · rw [if_pos ht, if_pos]
        rcases touches_iff.1 ht with ⟨_, h2⟩ | h
        · exact .inl h2
        · exact .inr h
      · rw [if_neg ht]
        split
        · rename_i h
          rcases h with h | h
          · cases hwr : r.wr with
            | true => exact absurd (touches_iff.2 (.inl ⟨hwr, h⟩)) ht
            | false => rw [hnw hwr i h]; exact hbefore i h
          · exact absurd (touches_iff.2 (.inr h)) ht
        · rfl
    have hp2 : Post (σ.cut r.base) F r.base (part' (hAt S 0 recs H0) (· ∈ r.u)) w σ' F' r.h1.n r.h1.get w' := by rw [hpart]; exact hp
    obtain ⟨σ₂, F₂, h1, h2, h3, h4, h5, h6, h7⟩ := lift hrep (u := (· ∈ r.u)) (Nat.le_refl h'.n) low.2 hfree hp2 hH₂
    refine hn _ _ σ₂ F₂ ⟨⟨fun i hi => ?_, inv.post.mon, h5, ?_, ?_⟩, Sg.le_trans inv.le h1, fun i hi => ?_, fun t v hv' => ?_, ?_, ?_⟩
    · rw [h3 i (by omega)]; exact inv.post.ext i hi
    · exact {
        os := h6.os.trans inv.post.keeps.os
        tape := h6.tape.trans inv.post.keeps.tape
        output := h6.output.trans inv.post.keeps.output
        size := Nat.le_trans inv.post.keeps.size h6.size
        block := fun b hb hd => by
          rw [h6.block b (Nat.lt_of_lt_of_le hb inv.post.keeps.size) (fun hf => ?_), inv.post.keeps.block b hb hd]
          rcases inv.post.foot hf with h | h
          · exact hd h
          · omega }
    · intro i e b he hb
      rcases h7 i e b he hb with ⟨j, e₀, h8, h9, h10⟩ | h
      · rcases inv.post.foots j e₀ b h8 h9 with ⟨m, e₁, h11, h12, h13⟩ | h
        · refine .inl ⟨m, e₁, h11, h12, ?_⟩
          rcases h13 with h | h
          · exact .inl h
          · rcases h10 with h' | h'
            · exact .inl (h.trans h')
            · exact .inr (h.trans h')
        · exact .inr h
      · exact .inr (Nat.le_trans inv.post.keeps.size h)
    · rcases h4 i hi with h | h
      · rcases inv.dom i h with h | ⟨j, q, h8, h9, h10⟩
        · exact .inl h
        · refine .inr ⟨j, q, h8, ?_, h10⟩
          rw [hS']; split <;> simp [h9]
      · exact .inr ⟨k, r, hr, by rw [hS']; simp, h⟩
    · rw [hT'] at hv'
      split at hv'
      · rename_i hd
        simp at hv'; subst hv'
        have hd' : o.dst = some t := by rw [← ok.dst]; exact hd
        exact ⟨x, ST.mono h2 r.v x hx, by simp [Act.put, hd', inv.size, ok.slot t hd']⟩
      · rename_i hd
        obtain ⟨y, h8, h9⟩ := inv.tms t v hv'
        refine ⟨y, ST.mono h1 v y h8, ?_⟩
        cases hdd : o.dst with
        | none => simp [Act.put, h9]
        | some d =>
          have : d ≠ t := fun e => hd (by rw [ok.dst, hdd, e])
          simp [Act.put, Array.getElem?_setIfInBounds_ne this, h9]
    · cases o.dst <;> simp [Act.put, inv.size]
    · cases o.dst <;> simp [Act.put, inv.defers]

theorem draw_ok {E : Env (std K)} (hA : ArOK E.A) (hmix : E.P.follows .mixedOrders = true) {call : FuncId → List (ST (std K)) → Heap (std K) → Res (std K)} (hcall : CallOK E call) {n : Nat} {ops : Array Oper} {tm tm' : Tm (std K)} {h h' : Heap (std K)} {recs : List (Rec (std K))}
    (htext : textOK 0 ops.toList = true) (hd : (runDraw E call n ops (predsOf ops ops.toList []) ops.toList 0 tm h []).eval = some (tm', h', recs)) {σ F} {a : Act} {w : World} (hr : HRep σ F h.n h.get w) (hG : GRep E σ) (ht : TRep σ tm a) (hn : a.tmps.size = n)
    {Q : Exit → Act → World → Prop} {id : Nat} (hq : ∀ σ' F' a' w', Post σ F h.n h.get w σ' F' h'.n h'.get w' → TRep σ' tm' a' → a'.tmps.size = n → a'.defers = a.defers → Q .normal a' w') : (Code.region id ops true).wp E.P Q a w := by
  have g0 : Good E ops (predsOf ops ops.toList []) n h.n (look tm) h.get [] tm h := ⟨fun _ => .inl rfl, fun _ => rfl, by simp, by simp, by simp, by simp, Nat.le_refl _⟩
  obtain ⟨g, hlen⟩ := runDraw_ok hA hcall ops.toList 0 tm h [] hd rfl (by simp) g0
  have hlen' : recs.length = ops.size := by simpa using hlen
  refine wp_region_any hmix ?_
  generalize hds : a.defers = ds at hq
  have key : ∀ (fuel : Nat) (listed : Array Bool) (a' : Act) (w' : World) (σ' F'), listed.size = ops.size → unl listed.toList = fuel → Closed ops (fun i => listed.getD i false = true) →
      DInv E recs n h.n h'.n (look tm) h.get σ F w ds (fun i => listed.getD i false) a' w' σ' F' → wpAny E.P .any ops Q fuel listed a' w' := by
    intro fuel
    induction fuel with
    | zero =>
      intro listed a' w' σ' F' hsz hu hcl inv
      have hall : ∀ i, i < ops.size → listed[i]? = some true := fun i hi => by
        have := unl_zero _ hu i (by simp; omega)
        simpa using this
      refine ⟨?_, ?_⟩
      · rw [Region.ready, List.filter_eq_nil_iff]
        intro i hi
        have := hall i (by simpa using hi)
        simp [Array.getD_eq_getD_getElem?, this]
      · have hS : ∀ j r, recs[j]? = some r → listed.getD j false = true := fun j r hj => by
          have hjl := (List.getElem?_eq_some_iff.1 hj).1
          have := hall j (by omega)
          simp [Array.getD_eq_getD_getElem?, this]
        have hH : hAt (fun i => listed.getD i false) 0 recs h.get = h'.get := by
          funext i; rw [g.hE i]
          exact hAt_congr recs 0 _ _ rfl (fun j r hj _ => by rw [Nat.zero_add]; exact hS j r hj)
        have hT : ∀ t, tAt (fun i => listed.getD i false) 0 recs (look tm) t = tAt allS 0 recs (look tm) t := fun t => by
          exact tAt_congr recs 0 _ _ rfl (fun j r hj _ => by rw [Nat.zero_add]; exact hS j r hj)
        have hp := inv.post
        rw [hH] at hp
        exact hq σ' F' a' w' hp (fun t v hv => by
          obtain ⟨v', h5, h6, _⟩ := (g.tmE t).get hv
          rw [← h6]; exact inv.tms t v' (by rw [hT]; exact h5)) inv.size inv.defers
    | succ fuel ih =>
      intro listed a' w' σ' F' hsz hu hcl inv
      refine ⟨fun hready => ?_, fun i hi => ?_⟩
      · -- some operation is ready
        exfalso
        have hall : ∀ i, i < ops.size → listed[i]? = some true := by
          intro i
          induction i using Nat.strongRecOn with
          | _ i ihi =>
            intro hi
            have hb : ∃ b, listed[i]? = some b := ⟨_, Array.getElem?_eq_getElem (by omega)⟩
            obtain ⟨b, hb⟩ := hb
            cases b with
            | true => exact hb
            | false =>
              exfalso
              rw [Region.ready, List.filter_eq_nil_iff] at hready
              apply hready i (by simpa using hi)
              have ho : ops[i]? = some ops[i] := Array.getElem?_eq_getElem hi
              simp only [Array.getD_eq_getD_getElem?, hb, Option.getD_some, Bool.not_false, Bool.true_and, ho, Option.map_some]
              rw [Array.all_eq_true_iff_forall_mem]
              intro e he
              cases hbe : Region.binds .any e with
              | false => simp
              | true =>
                have := textOK_ok htext i ops[i] (by simp [ho]) e (by simpa using he) hbe
                have h2 := ihi e.on (by omega) (by omega)
                simp [h2]
        have : unl listed.toList = 0 := by
          have : ∀ (l : List Bool), (∀ i, i < l.length → l[i]? = some true) → unl l = 0 := by
            intro l
            induction l with
            | nil => intro _; rfl
            | cons b r ihl =>
              intro h
              have h0 := h 0 (by simp)
              simp at h0; subst h0
              simp only [unl, if_true, Nat.zero_add]
              exact ihl (fun i hi => by have := h (i + 1) (by simpa using hi); simpa using this)
          exact this _ (fun i hi => by have := hall i (by simpa [hsz] using hi); simpa using this)
        omega
      · rw [Region.ready, List.mem_filter] at hi
        obtain ⟨hi1, hi2⟩ := hi
        simp at hi1
        simp only [Bool.and_eq_true, Bool.not_eq_true'] at hi2
        obtain ⟨hi2, hi3⟩ := hi2
        have ho : ops[i]? = some ops[i] := Array.getElem?_eq_getElem hi1
        simp only [ho, Option.map_some, Option.getD_some, Array.all_eq_true_iff_forall_mem] at hi3
        have hli : listed[i]? = some false := by
          have : listed[i]? = some listed[i] := Array.getElem?_eq_getElem (by omega)
          simp [Array.getD_eq_getD_getElem?, this] at hi2
          rw [this, hi2]
        have hrdy : ∀ o, ops[i]? = some o → ∀ e ∈ o.after.toList, Region.binds .any e = true → listed.getD e.on false = true := fun o hoo e he hb => by
          rw [ho] at hoo; cases hoo
          have := hi3 e (by simpa using he)
          simpa [hb] using this
        have hpr := predsOf_ok (ops := ops) ops.toList [] rfl (by simp)
        have hset : ∀ j, (listed.setIfInBounds i true).getD j false = if j = i then true else listed.getD j false := fun j => by
          simp only [Array.getD_eq_getD_getElem?]
          by_cases hj : j = i
          · subst hj
            have : j < listed.size := by omega
            simp [this]
          · rw [Array.getElem?_setIfInBounds_ne (fun h => hj h.symm)]; simp [hj]
        refine inv.step g hG (S' := fun j => (listed.setIfInBounds i true).getD j false) ho hlen' (by simp [Array.getD_eq_getD_getElem?, hli]) hset ?_ ?_ ?_
        · intro j hj
          exact hpr i j hj (fun i => listed.getD i false = true) hcl hrdy
        · intro j hj hs
          exact hpr j i hj (fun i => listed.getD i false = true) hcl (fun o hoo e he hb => hcl j o hoo hs e he hb)
        · intro a2 w2 σ2 F2 inv2
          refine ih _ a2 w2 σ2 F2 (by simp [hsz]) ?_ ?_ inv2
          · have := unl_set listed.toList i (by simpa using hli)
            simp only [Array.toList_setIfInBounds]; omega
          · intro k o hk hs e he hb
            show (listed.setIfInBounds i true).getD e.on false = true
            rw [hset]
            split
            · rfl
            · have hs' : (listed.setIfInBounds i true).getD k false = true := hs
              rw [hset] at hs'
              split at hs'
              · rename_i hki; subst hki; exact hrdy o hk e he hb
              · exact hcl k o hk hs' e he hb
  refine key ops.size (Array.replicate ops.size false) a _ σ F (by simp) ?_ ?_ ?_
  · rw [Array.toList_replicate]; exact unl_replicate _
  · intro k o _ hs
    exfalso
    simp [Array.getD_eq_getD_getElem?, Array.getElem?_replicate] at hs
    split at hs <;> simp at hs
  · have hS : ∀ (i : Nat), (Array.replicate ops.size false).getD i false = false := fun i => by
      simp [Array.getD_eq_getD_getElem?, Array.getElem?_replicate]
      split <;> rfl
    have hH : hAt (fun i => (Array.replicate ops.size false).getD i false) 0 recs h.get = h.get := by
      funext i; exact hAt_none recs 0 h.get (fun j r _ _ => hS _)
    have hT : ∀ t, tAt (fun i => (Array.replicate ops.size false).getD i false) 0 recs (look tm) t = look tm t := fun t => tAt_none recs 0 (look tm) (fun j r _ _ => hS _)
    refine ⟨?_, Sg.le_refl σ, fun i hi => ?_, fun t v hv => ht t v (by rw [← hT]; exact hv), hn, hds⟩
    · rw [hH]
      have hmon := g.size
      exact ⟨fun _ _ => rfl, hmon, ⟨fun i hi => hr.fresh i (by omega), (hr.draw _).sat, hr.apart, (hr.draw _).inside⟩, ⟨rfl, rfl, rfl, Nat.le_refl _, fun _ _ _ => rfl⟩, fun i e _ he hb => .inl ⟨i, e, he, hb, .inr rfl⟩⟩
    · refine .inl ?_
      rcases Nat.lt_or_ge i h.n with hl | hl
      · exact hl
      · exact absurd (hr.fresh i hl) hi

end
end Go.Vse
