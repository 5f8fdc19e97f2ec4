/- The symbolic executor is sound: maps whose keys are numbers. -/
import Derived.Test.YtpmoieekpalheaaGreatDoorVseU
namespace Go.Vse
open Go

section
variable {K : Kit}

theorem run_getObj' {P : Program} {w : World} {g : Nat} {o : Obj} (h : w.heap[g]? = some o) (hc : ∀ c T f, o ≠ .cells c T f) : (getObj g).run P w = .ok o w := by
  cases o <;> first | exact absurd rfl (hc _ _ _) | simp only [getObj, Sem.run, h]

theorem run_setObj' {P : Program} {w : World} {g : Nat} {es : Array MapEntry} {cl : Nat} (h : w.heap[g]? = some (.map es cl)) (o : Obj) : (setObj g o).run P w = .ok () { w with heap := w.heap.setIfInBounds g o } := by
  simp only [setObj, Sem.run, h]

theorem findM_ok {A : Ar (std K)} (hA : ArOK A) {σ : Sg} {q : IntKind} {n : Num (std K).I} : ∀ {l : List (Num (std K).I × SC (std K))} {es : List MapEntry} {i : Nat} {r : Option (Nat × SC (std K))},
    denM σ q l = some (es.map fun e => (e.key, e.val)) → (findM A n l i).eval = some r →
    (r = none ∧ Instr.findNow (.int q) (.int q (n.den (K := K))) es i = some none) ∨
    ∃ j v e, r = some (i + j, v) ∧ es[j]? = some e ∧ v.den σ = some e.val ∧ e.key = .int q (n.den (K := K)) ∧ Instr.findNow (.int q) (.int q (n.den (K := K))) es i = some (some (i + j, e.val))
  | [], es, i, r, hd, hf => by
    simp [denM] at hd
    subst hd
    simp [findM, Out.eval] at hf
    exact .inl ⟨hf.symm, rfl⟩
  | (m, c) :: l, es, i, r, hd, hf => by
    obtain ⟨v, ws, h1, h2, h3⟩ := denM_cons.1 hd
    cases es with
    | nil => simp at h3
    | cons e es =>
      simp only [List.map_cons, List.cons.injEq, Prod.mk.injEq] at h3
      obtain ⟨⟨hk, hv⟩, rfl⟩ := h3
      simp only [findM] at hf
      rw [eval_branch, cmpN_den hA] at hf
      have hnow : Instr.sameNow (.int q) (.int q (n.den (K := K))) e.key = some (n.den (K := K) == m.den (K := K)) := by simp [Instr.sameNow, hk]
      split at hf
      · rename_i hc
        have hc' : (n.den (K := K) == m.den (K := K)) = true := hc
        simp [Out.eval] at hf
        refine .inr ⟨0, c, e, by simp [hf], rfl, by rw [h1, hv], ?_, ?_⟩
        · rw [hk, eq_of_beq hc']
        · simp [Instr.findNow, hnow, hc']
      · rename_i hc
        have hc' : (n.den (K := K) == m.den (K := K)) = false := by
          have := Bool.eq_false_iff.2 hc
          exact this
        rcases findM_ok hA (i := i + 1) h2 hf with ⟨h4, h5⟩ | ⟨j, v', e', h4, h5, h6, h7, h8⟩
        · exact .inl ⟨h4, by simp [Instr.findNow, hnow, hc', h5]⟩
        · refine .inr ⟨j + 1, v', e', by rw [h4]; congr 2; omega, by simpa using h5, h6, h7, ?_⟩
          simp only [Instr.findNow, hnow, hc']
          rw [h8]; congr 3; omega

theorem intMapT_ok {P : Program} {T : TypeId} {q : IntKind} {e : TypeId} (h : intMapT P T = some (q, e)) : ∃ k, P.underlying T = some (.map k e) ∧ P.underlying k = some (.int q) := by
  unfold intMapT at h
  split at h
  · rename_i k e' hu
    split at h
    · rename_i q' hk
      cases h
      exact ⟨k, hu, hk⟩
    · cases h
  · cases h

theorem run_findKey {P : Program} {w : World} {k : TypeId} {q : IntKind} (hk : P.underlying k = some (.int q)) {v : Value} {es : List MapEntry} {r : Option (Nat × Value)} (h : Instr.findNow (.int q) v es 0 = some r) : (Instr.findKey k v es).run P w = .ok r w := by
  simp [Instr.findKey, run_underlying hk, h]

theorem run_checkKey {P : Program} {w : World} {k : TypeId} {q : IntKind} (hk : P.underlying k = some (.int q)) (b : Bool) (q' : IntKind) (n : Int) : (Instr.checkKey b 10000 k (.int q' n)).run P w = .ok () w := by
  have h1 : ∀ m, (Instr.checkKey b (m + 1) k (.int q' n)).run P w = .ok () w := fun m => by
    simp [Instr.checkKey, run_underlying hk]
  exact h1 9999

theorem imap_sat {σ F} {h : Heap (std K)} {w : World} (hr : HRep σ F h.n h.get w) {i : Nat} {q : IntKind} {l : List (Num (std K).I × SC (std K))} (hi : h.get i = some (.imap q l)) :
    ∃ L es cl, σ i = some L ∧ denM σ q l = some (es.toList.map fun e : MapEntry => (e.key, e.val)) ∧ w.heap[L.g]? = some (.map es cl) ∧ ∀ b, F i b ↔ b = L.g := by
  obtain ⟨L, hL, es, cl, h1, h2, h3⟩ := hr.sat i _ hi
  exact ⟨L, es, cl, hL, h1, h2, h3⟩

theorem lookupS_ok {E : Env (std K)} (hA : ArOK E.A) {T : TypeId} {x ix v : ST (std K)} {ok : Bool} {h : Heap (std K)} {σ F} {w : World} (hr : HRep σ F h.n h.get w) (hs : (lookupS E T x ix ok h).eval = some v) {vx vi : Value} (hx : x.den σ = some vx) (hi : ix.den σ = some vi) :
    ∃ y, (Instr.lookup T vx vi ok).run E.P w = .ok y w ∧ v.den σ = some y := by
  unfold lookupS at hs
  split at hs
  case h_2 => simp [Out.eval] at hs
  rename_i q e i q' n hT
  obtain ⟨kt, hu, hk⟩ := intMapT_ok hT
  split at hs
  case h_2 => simp [Out.eval] at hs
  rename_i k l z hg hz
  split at hs
  case isFalse => simp [Out.eval] at hs
  rename_i hq
  obtain ⟨rfl, rfl⟩ := hq
  obtain ⟨r, hf, hs⟩ := eval_bind_some hs
  obtain ⟨L, es, cl, hL, hd, hb, hF⟩ := imap_sat hr hg
  simp only [ST.den, SC.den, hL, Option.some.injEq] at hx hi
  subst hx hi
  have hget := run_getObj' (P := E.P) hb (by intros; simp)
  have hz' : ∃ zv, (zeroValue e).run E.P w = .ok zv w ∧ z.den σ = some zv := by
    unfold zeroC at hz
    cases hi : E.P.info? e with
    | none => simp [hi] at hz
    | some it =>
      simp only [hi] at hz
      cases hzz : it.zero with
      | none => simp [hzz] at hz
      | some zv =>
        simp only [hzz] at hz
        exact ⟨zv, by simp [zeroValue, typeInfo, hi, hzz], constSC_den hz⟩
  obtain ⟨zv, hzr, hzd⟩ := hz'
  rcases findM_ok hA hd hf with ⟨rfl, hn⟩ | ⟨j, c, e0, rfl, _, hv, _, hn⟩
  · simp only [Out.eval, Option.some.injEq] at hs
    have hrun : (Instr.lookup T (.map (some L.g)) (.int q' (n.den (K := K))) ok).run E.P w = .ok (if ok then .tuple #[zv, .bool false] else zv) w := by
      simp [Instr.lookup, run_underlying hu, hget, run_checkKey hk, run_findKey hk hn, hzr]
    refine ⟨_, hrun, ?_⟩
    cases ok <;> simp at hs <;> subst hs <;> simp [ST.den, denT, compDen, denL, hzd, SC.den, Bol.den]
  · simp only [Out.eval, Option.some.injEq] at hs
    have hrun : (Instr.lookup T (.map (some L.g)) (.int q' (n.den (K := K))) ok).run E.P w = .ok (if ok then .tuple #[e0.val, .bool true] else e0.val) w := by
      simp [Instr.lookup, run_underlying hu, hget, run_checkKey hk, run_findKey hk hn]
    refine ⟨_, hrun, ?_⟩
    cases ok <;> simp at hs <;> subst hs <;> simp [ST.den, denT, compDen, denL, hv, SC.den, Bol.den]

theorem denM_append {σ : Sg} {q : IntKind} {n : Num (std K).I} {c : SC (std K)} {v : Value} (hc : c.den σ = some v) : ∀ {l : List (Num (std K).I × SC (std K))} {vs : List (Value × Value)}, denM σ q l = some vs → denM σ q (catL' l [(n, c)]) = some (vs ++ [(.int q (n.den (K := K)), v)])
  | [], vs, h => by
    simp [denM] at h; subst h
    exact denM_cons.2 ⟨v, [], hc, rfl, rfl⟩
  | (m, d) :: l, vs, h => by
    obtain ⟨u, ws, h1, h2, rfl⟩ := denM_cons.1 h
    exact denM_cons.2 ⟨u, _, h1, denM_append hc h2, rfl⟩

theorem denM_set {σ : Sg} {q : IntKind} {c : SC (std K)} {v : Value} (hc : c.den σ = some v) : ∀ {l : List (Num (std K).I × SC (std K))} {vs : List (Value × Value)} {j : Nat} {x : Value × Value}, denM σ q l = some vs → vs[j]? = some x → denM σ q (setM c j l) = some (vs.set j (x.1, v))
  | [], vs, j, x, h, hj => by simp [denM] at h; subst h; simp at hj
  | (m, d) :: l, vs, 0, x, h, hj => by
    obtain ⟨u, ws, h1, h2, rfl⟩ := denM_cons.1 h
    simp at hj; subst hj
    exact denM_cons.2 ⟨v, ws, hc, h2, rfl⟩
  | (m, d) :: l, vs, j + 1, x, h, hj => by
    obtain ⟨u, ws, h1, h2, rfl⟩ := denM_cons.1 h
    exact denM_cons.2 ⟨u, _, h1, denM_set hc h2 (by simpa using hj), rfl⟩

theorem map_eraseIdx' {α β : Type} (f : α → β) : ∀ (l : List α) (j : Nat), (l.map f).eraseIdx j = (l.eraseIdx j).map f
  | [], j => by cases j <;> rfl
  | a :: l, 0 => rfl
  | a :: l, j + 1 => by simp [map_eraseIdx' f l j]

theorem denM_del {σ : Sg} {q : IntKind} : ∀ {l : List (Num (std K).I × SC (std K))} {vs : List (Value × Value)} (j : Nat), denM σ q l = some vs → denM σ q (delM j l) = some (vs.eraseIdx j)
  | [], vs, j, h => by simp [denM] at h; subst h; cases j <;> rfl
  | (m, d) :: l, vs, 0, h => by
    obtain ⟨u, ws, h1, h2, rfl⟩ := denM_cons.1 h
    exact h2
  | (m, d) :: l, vs, j + 1, h => by
    obtain ⟨u, ws, h1, h2, rfl⟩ := denM_cons.1 h
    exact denM_cons.2 ⟨u, _, h1, denM_del j h2, rfl⟩

/-- A map is written anew. -/
theorem imap_rewrite {σ F} {h : Heap (std K)} {w : World} (hr : HRep σ F h.n h.get w) {i : Nat} {q : IntKind} {l l' : List (Num (std K).I × SC (std K))} {L : Loc} {es es' : Array MapEntry} {cl cl' : Nat} (hi : h.get i = some (.imap q l)) (hL : σ i = some L)
    (hb : w.heap[L.g]? = some (.map es cl)) (hF : ∀ b, F i b ↔ b = L.g) (hd : denM σ q l' = some (es'.toList.map fun e : MapEntry => (e.key, e.val))) :
    Post σ F h.n h.get w σ F (h.set i (.imap q l')).n (h.set i (.imap q l')).get { w with heap := w.heap.setIfInBounds L.g (.map es' cl') } := by
  have hlt : L.g < w.heap.size := (Array.getElem?_eq_some_iff.1 hb).1
  refine hr.rewrite hi rfl rfl hL hF rfl rfl rfl (by simp) (fun b hbg => by simp [Array.getElem?_setIfInBounds, Ne.symm hbg]) ⟨es', cl', hd, by simp [hlt], hF⟩

theorem mapUpdateS_ok {E : Env (std K)} (hA : ArOK E.A) {T : TypeId} {x ix c v : ST (std K)} {h h' : Heap (std K)} {σ F} {w : World} (hr : HRep σ F h.n h.get w) (hs : (mapUpdateS E T x ix c h).eval = some (v, h')) {vx vi vc : Value} (hx : x.den σ = some vx) (hi : ix.den σ = some vi) (hc : c.den σ = some vc) :
    ∃ w', (Instr.mapUpdate T vx vi vc).run E.P w = .ok () w' ∧ Post σ F h.n h.get w σ F h'.n h'.get w' ∧ v = undefS := by
  unfold mapUpdateS at hs
  split at hs
  case h_2 => simp [Out.eval] at hs
  rename_i q e i q' n c hT
  obtain ⟨kt, hu, hk⟩ := intMapT_ok hT
  split at hs
  case h_2 => simp [Out.eval] at hs
  rename_i k l hg
  split at hs
  case isFalse => simp [Out.eval] at hs
  rename_i hq
  obtain ⟨rfl, rfl⟩ := hq
  obtain ⟨r, hf, hs⟩ := eval_bind_some hs
  obtain ⟨L, es, cl, hL, hd, hb, hF⟩ := imap_sat hr hg
  simp only [ST.den, SC.den, hL, Option.some.injEq] at hx hi
  subst hx hi
  simp only [ST.den] at hc
  have hget := run_getObj' (P := E.P) hb (by intros; simp)
  rcases findM_ok hA hd hf with ⟨rfl, hn⟩ | ⟨j, c0, e0, rfl, hj, hv, hke, hn⟩
  · simp only [Out.eval, Option.some.injEq, Prod.mk.injEq] at hs
    obtain ⟨rfl, rfl⟩ := hs
    refine ⟨_, ?_, imap_rewrite hr (es' := es.push { key := .int q' (n.den (K := K)), val := vc, born := cl }) (cl' := cl + 1) hg hL hb hF ?_, rfl⟩
    · simp [Instr.mapUpdate, run_underlying hu, hget, run_checkKey hk, run_findKey hk hn, run_setObj' hb]
    · simpa using denM_append (n := n) hc hd
  · simp only [Out.eval, Option.some.injEq, Prod.mk.injEq, Nat.zero_add] at hs hn
    obtain ⟨rfl, rfl⟩ := hs
    have hje : es[j]? = some e0 := by simpa using hj
    refine ⟨_, ?_, imap_rewrite hr (es' := es.modify j fun e => { e with key := .int q' (n.den (K := K)), val := vc }) (cl' := cl) hg hL hb hF ?_, rfl⟩
    · simp [Instr.mapUpdate, run_underlying hu, hget, run_checkKey hk, run_findKey hk hn, run_setObj' hb, Instr.keyThatStays, hje, hke, Instr.sameBits]
    · have h1 := denM_set (j := j) (x := (e0.key, e0.val)) hc hd (by simp [hje])
      rw [h1]
      congr 1
      apply List.ext_getElem?
      intro m
      simp only [Array.toList_modify, List.getElem?_map, List.getElem?_modify, List.getElem?_set, List.length_map, Array.length_toList]
      by_cases hm : j = m
      · subst hm
        have hlt : j < es.size := (Array.getElem?_eq_some_iff.1 hje).1
        simp [hj, hke, hlt]
      · simp [hm]

theorem deleteS_ok {E : Env (std K)} (hA : ArOK E.A) {T ty : TypeId} {x ix v : ST (std K)} {ts : Array TypeId} {h h' : Heap (std K)} {σ F} {w : World} (hr : HRep σ F h.n h.get w) (hts : ts[0]? = some T) (hs : (deleteS E T x ix h).eval = some (v, h')) {vx vi : Value} (hx : x.den σ = some vx) (hi : ix.den σ = some vi) :
    ∃ w', (Builtin.delete_ ts ty #[vx, vi]).run E.P w = .ok (.tuple #[]) w' ∧ Post σ F h.n h.get w σ F h'.n h'.get w' ∧ v = undefS := by
  unfold deleteS at hs
  split at hs
  case h_2 => simp [Out.eval] at hs
  rename_i q e i q' n hT
  obtain ⟨kt, hu, hk⟩ := intMapT_ok hT
  split at hs
  case h_2 => simp [Out.eval] at hs
  rename_i k l hg
  split at hs
  case isFalse => simp [Out.eval] at hs
  rename_i hq
  obtain ⟨rfl, rfl⟩ := hq
  obtain ⟨r, hf, hs⟩ := eval_bind_some hs
  obtain ⟨L, es, cl, hL, hd, hb, hF⟩ := imap_sat hr hg
  simp only [ST.den, SC.den, hL, Option.some.injEq] at hx hi
  subst hx hi
  have hget := run_getObj' (P := E.P) hb (by intros; simp)
  rcases findM_ok hA hd hf with ⟨rfl, hn⟩ | ⟨j, c0, e0, rfl, hj, hv, hke, hn⟩
  · simp only [Out.eval, Option.some.injEq, Prod.mk.injEq] at hs
    obtain ⟨rfl, rfl⟩ := hs
    have hsame : { w with heap := w.heap.setIfInBounds L.g (.map es cl) } = w := by
      have : w.heap.setIfInBounds L.g (.map es cl) = w.heap := by
        apply Array.ext_getElem?
        intro m
        rw [Array.getElem?_setIfInBounds]
        split
        · rename_i hm; subst hm
          split
          · exact hb.symm
          · rename_i hlt; exact absurd (Array.getElem?_eq_some_iff.1 hb).1 hlt
        · rfl
      rw [this]
    refine ⟨w, ?_, .refl hr, rfl⟩
    simp [Builtin.delete_, hts, run_underlying hu, hget, run_checkKey hk, run_findKey hk hn, run_setObj' hb, hsame]
  · simp only [Out.eval, Option.some.injEq, Prod.mk.injEq, Nat.zero_add] at hs hn
    obtain ⟨rfl, rfl⟩ := hs
    have hje : es[j]? = some e0 := by simpa using hj
    have hlt : j < es.size := (Array.getElem?_eq_some_iff.1 hje).1
    refine ⟨_, ?_, imap_rewrite hr (es' := es.eraseIdxIfInBounds j) (cl' := cl) hg hL hb hF ?_, rfl⟩
    · simp [Builtin.delete_, hts, run_underlying hu, hget, run_checkKey hk, run_findKey hk hn, run_setObj' hb]
    · rw [denM_del j hd]
      congr 1
      have hsub : (es.eraseIdxIfInBounds j).toList = es.toList.eraseIdx j := by
        unfold Array.eraseIdxIfInBounds
        rw [dif_pos hlt]
        simp
      rw [hsub]
      exact map_eraseIdx' _ _ _

theorem makeMap_ok {E : Env (std K)} {T : TypeId} {q : IntKind} {h : Heap (std K)} {σ F} {w : World} (hr : HRep σ F h.n h.get w) :
    ∃ w' σ' F', (Instr.makeMap T none).run E.P w = .ok (.map (some w.heap.size)) w' ∧ Post σ F h.n h.get w σ' F' (h.push (.imap q [])).n (h.push (.imap q [])).get w' ∧ (ST.one (.mp h.n)).den (K := K) σ' = some (.map (some w.heap.size)) := by
  obtain ⟨σ', F', hp, hL, hle⟩ := hr.remake (w' := w.alloc (.map #[] 0)) (drop := none) (e := .imap q []) (L := ⟨w.heap.size, 0, 0, 0⟩)
    (fun i h => by cases h) rfl rfl rfl (by simp) (fun b hb _ => RowKit.Below.heap_alloc _ _ _ hb) (.inl (Nat.le_refl _)) (by simp) rfl (fun σ' hle hL => ⟨#[], 0, rfl, by
      show (w.heap.push _)[w.heap.size]? = _
      simp, fun b => Iff.rfl⟩)
  exact ⟨_, σ', F', rfl, hp, by simp [ST.den, SC.den, hL]⟩

end
end Go.Vse
