/- The symbolic executor is sound: loads, stores, comparisons. -/
import Derived.Test.YtpmoieekpalheaaGreatDoorVseC
namespace Go.Vse
open Go

section
variable {K : Kit} {P : Program}

theorem addr_add (g x j : Nat) : (⟨g, x, none⟩ : Addr).add j = ⟨g, x + j, none⟩ := by
  unfold Addr.add; split <;> simp_all

theorem sizeT_run {T : TypeId} {k : Nat} (h : sizeT P T = some k) (w : World) : (sizeOf T).run P w = .ok k w := by
  unfold sizeT at h
  cases hi : P.info? T with
  | none => simp [hi] at h
  | some i => simp [hi] at h; simp [sizeOf, typeInfo, hi, h]

theorem aggT_run {T : TypeId} {g : Bool} (h : aggT P T = some g) (w : World) : (isAgg T).run P w = .ok g w := by
  unfold aggT at h
  cases hu : P.underlying T with
  | none => simp [hu] at h
  | some d =>
    simp only [hu] at h
    unfold isAgg
    rw [Sem.run_bind, run_underlying hu]
    cases d <;> simp_all

theorem agg_of {T : TypeId} {l : List (SC (std K))} {o : Nat} {v : ST (std K)} (h : asT P T l o = some v) :
    (∃ k, aggT P T = some true ∧ sizeT P T = some k ∧ o + k ≤ l.length ∧ v = .agg ((l.drop o).take k)) ∨ (∃ c, aggT P T = some false ∧ l[o]? = some c ∧ v = .one c) := by
  unfold asT at h
  split at h
  · rename_i k h1 h2
    split at h
    · rename_i h3; simp at h; exact .inl ⟨k, h1, h2, h3, h.symm⟩
    · simp at h
  · rename_i h1
    split at h
    · rename_i c h3; simp at h; exact .inr ⟨c, h1, h3, h.symm⟩
    · simp at h
  · simp at h

theorem run_loadVar_at {σ : Sg} {T U : TypeId} {l : List (SC (std K))} {o : Nat} {v : ST (std K)} {g : Nat} {pre vs rest : List Value} {fr : Nat × Nat} {w : World}
    (hb : w.heap[g]? = some (.cells (pre ++ (vs ++ rest)).toArray U fr)) (hl : denL σ l = some vs) (h : asT P T l o = some v) :
    ∃ x, (loadVar T ⟨g, pre.length + o, none⟩).run P w = .ok x w ∧ v.den σ = some x := by
  have hcell : ∀ j x, vs[j]? = some x → w.cell? ⟨g, pre.length + j, none⟩ = some x := fun j x hx => by
    simp only [World.cell?, hb, Option.isSome_none, Bool.false_eq_true, if_false]
    rw [List.getElem?_toArray, List.getElem?_append_right (by omega), Nat.add_sub_cancel_left]
    have hj := (List.getElem?_eq_some_iff.1 hx).1
    rw [List.getElem?_append_left hj]; exact hx
  rcases agg_of h with ⟨k, h1, h2, h3, rfl⟩ | ⟨c, h1, h2, rfl⟩
  · have hd := denL_take k (denL_drop o hl)
    refine ⟨.agg ((vs.drop o).take k).toArray, ?_, by simp [ST.den, hd]⟩
    have hlen : ((vs.drop o).take k).length = k := by
      have := denL_length hl; simp; omega
    have := run_loadCells_list (P := P) w ⟨g, pre.length + o, none⟩ ((vs.drop o).take k) (fun j x hx => by
      rw [addr_add, Nat.add_assoc]
      apply hcell
      have hj : j < k := by have := (List.getElem?_eq_some_iff.1 hx).1; omega
      rw [List.getElem?_take_of_lt hj, List.getElem?_drop] at hx
      exact hx)
    rw [hlen] at this
    simp [loadVar, aggT_run h1, sizeT_run h2, this]
  · obtain ⟨x, hx, hv⟩ := denL_get hl h2
    exact ⟨x, by simp [loadVar, aggT_run h1, hcell o x hv], hx⟩

theorem run_storeCells_mid (g : Nat) (t : TypeId) : ∀ (vs : List Value) (i : Nat) (cur : Array Value) (w : World), w.heap[g]? = some (.cells cur t (0, 0)) → i + vs.length ≤ cur.size → (∀ v ∈ vs, v.oneCell' = true) →
    (storeCells ⟨g, 0, none⟩ vs i).run P w = .ok () (w.setRow g (cur.toList.take i ++ (vs ++ cur.toList.drop (i + vs.length))).toArray)
  | [], i, cur, w, hg, hl, _ => by
    have hlt : g < w.heap.size := (Array.getElem?_eq_some_iff.1 hg).1
    have hv : w.heap[g] = .cells cur t (0, 0) := (Array.getElem?_eq_some_iff.1 hg).2
    have : (cur.toList.take i ++ ([] ++ cur.toList.drop (i + ([] : List Value).length))).toArray = cur := by simp
    rw [this]
    simp only [storeCells]
    show Result.ok () w = _
    congr 1
    unfold World.setRow
    cases w with
    | mk heap tape drawn os output =>
      congr 1
      apply Array.ext
      · simp
      · intro k h1 h2
        simp only [Array.getElem_modify]
        split
        · rename_i hk; subst hk; simp at hv; simp [hv]
        · rfl
  | v :: rest, i, cur, w, hg, hl, h1 => by
    have hi : i < cur.size := by simp at hl; omega
    have hcell : w.cell? ⟨g, i, none⟩ = some cur[i] := by simp [World.cell?, hg, hi]
    have hfro : w.frozen? ⟨g, i, none⟩ = false := by simp [World.frozen?, hg]
    have hst : (store ((⟨g, 0, none⟩ : Addr).add i) v).run P w = .ok () (w.setRow g (cur.setIfInBounds i v)) := by
      rw [addr_add, Nat.zero_add, run_store P w _ v _ (h1 v (by simp)), hcell]
      simp [hfro, setCell_eq_setRow w g i cur t (0, 0) v hg]
    have ih := run_storeCells_mid g t rest (i + 1) (cur.setIfInBounds i v) (w.setRow g (cur.setIfInBounds i v)) (setRow_heap w g cur _ t _ hg) (by simp at hl ⊢; omega) (fun x hx => h1 x (by simp [hx]))
    simp only [storeCells, Sem.run_bind, hst, Result.andThen_ok, ih, setRow_setRow]
    congr 3
    apply List.ext_getElem?
    intro k
    simp at hl
    simp only [Array.toList_setIfInBounds, List.getElem?_append, List.length_take, List.length_set, Array.length_toList, List.getElem?_drop, List.getElem?_take, List.length_cons]
    by_cases hk : k < i
    · simp [hk, show k < i + 1 by omega, show min (i + 1) cur.size = i + 1 by omega, show min i cur.size = i by omega, show i ≠ k by omega]
    · by_cases hk2 : k = i
      · subst hk2
        simp [show min (k + 1) cur.size = k + 1 by omega, show min k cur.size = k by omega]
        simp [hi]
      · rw [show min (i + 1) cur.size = i + 1 by omega, show min i cur.size = i by omega]
        simp only [hk, if_false, show ¬ k < i + 1 by omega]
        rw [show k - i = (k - (i + 1)) + 1 by omega]
        by_cases hr : k - (i + 1) < rest.length
        · simp [hr]
        · simp only [hr, if_false, show ¬ (k - (i + 1) + 1 < rest.length + 1) by omega]
          rw [List.getElem?_set_ne (by omega)]
          congr 1
          omega

theorem storeCells_shift (g o : Nat) : ∀ (vs : List Value) (i : Nat), storeCells ⟨g, o, none⟩ vs i = storeCells ⟨g, 0, none⟩ vs (o + i)
  | [], _ => rfl
  | v :: r, i => by
    simp only [storeCells, addr_add, Nat.zero_add]
    rw [storeCells_shift g o r (i + 1)]
    rfl

theorem HRep.write {σ F} {h : Heap (std K)} {w : World} (hr : HRep σ F h.n h.get w) {i : Nat} {l l' : List (SC (std K))} {U : TypeId} {L : Loc} {vs' : List Value}
    (hi : h.get i = some (.cells l U)) (hL : σ i = some L) (hl' : denL σ l' = some vs') :
    Post σ F h.n h.get w σ F (h.set i (.cells l' U)).n (h.set i (.cells l' U)).get (w.setRow L.g vs'.toArray) := by
  have hget : ∀ j, (h.set i (.cells l' U)).get j = if j = i then some (.cells l' U) else h.get j := fun j => by
    show look (repl i _ h.l) j = _
    rw [look_repl]
    have : (look h.l i).isSome = true := by
      have : look h.l i = some (.cells l U) := hi
      simp [this]
    simp [this, Heap.get]
  obtain ⟨L', hL', hoff, ⟨vs, hvs, hblk⟩, hF⟩ := hr.sat i _ hi
  rw [hL] at hL'; cases hL'
  have hfoot : ∀ b, F i b → foot F h.get b := fun b hb => ⟨i, _, hi, rfl, hb⟩
  refine ⟨fun _ _ => rfl, Nat.le_refl _, ⟨hr.fresh, ?_, ?_, ?_⟩, ⟨rfl, rfl, rfl, by simp, fun b hb hd => ?_⟩, ?_⟩
  · intro j e he
    rw [hget] at he
    by_cases hj : j = i
    · subst hj
      simp at he; subst he
      exact ⟨L, hL, hoff, ⟨vs', hl', setRow_heap w L.g _ _ _ _ hblk⟩, hF⟩
    · simp [hj] at he
      obtain ⟨M, hM, hs⟩ := hr.sat j e he
      refine ⟨M, hM, Ent.sat_local (w := w) (fun b hb => setRow_other w L.g b _ (fun hbg => ?_)) hs⟩
      exact hr.apart j i e _ hj he hi (Kd.own_right _) b hb ((hF b).2 hbg)
  · intro a b e e' hn ha hb hs x hx hx'
    rw [hget] at ha hb
    by_cases h1 : a = i <;> by_cases h2 : b = i
    · omega
    · simp [h2] at hb; subst h1
      exact hr.apart a b _ e' hn hi hb (Kd.own_left _) x hx hx'
    · simp [h1] at ha; subst h2
      exact hr.apart a b e _ hn ha hi (Kd.own_right _) x hx hx'
    · simp [h1] at ha; simp [h2] at hb
      exact hr.apart a b e e' hn ha hb hs x hx hx'
  · intro j e he b hb
    rw [hget] at he
    by_cases hj : j = i
    · subst hj; simpa using hr.inside j _ hi b hb
    · simp [hj] at he; simpa using hr.inside j e he b hb
  · exact setRow_other w L.g b _ (fun hbg => hd (hfoot b ((hF b).2 hbg)))
  · intro j e b he hb
    rw [hget] at he
    by_cases hj : j = i
    · subst hj; exact .inl ⟨j, _, hi, hb, .inl rfl⟩
    · simp [hj] at he; exact .inl ⟨j, e, he, hb, .inr rfl⟩

theorem cells_block {σ F} {h : Heap (std K)} {w : World} (hr : HRep σ F h.n h.get w) {i : Nat} {l : List (SC (std K))} {U : TypeId} (hi : h.get i = some (.cells l U) ∨ h.get i = some (.ccells l U)) :
    ∃ L vs, σ i = some L ∧ L.off = 0 ∧ denL σ l = some vs ∧ w.heap[L.g]? = some (.cells vs.toArray U (0, 0)) ∧ ∀ b, F i b ↔ b = L.g := by
  rcases hi with hi | hi <;>
  · obtain ⟨L, hL, hoff, ⟨vs, hvs, hblk⟩, hF⟩ := hr.sat i _ hi
    exact ⟨L, vs, hL, hoff, hvs, hblk, hF⟩

theorem putL_den {σ : Sg} {l v : List (SC (std K))} {vs xs : List Value} {o : Nat} (hl : denL σ l = some vs) (hv : denL σ v = some xs) : denL σ (putL l o v) = some (vs.take o ++ (xs ++ vs.drop (o + xs.length))) := by
  unfold putL
  rw [← denL_length hv]
  exact denL_append (denL_take _ hl) (denL_append hv (denL_drop _ hl))

theorem stCells_eq {τ : Ty} (v : ST τ) : stCells v = v.cells := by cases v <;> rfl

theorem storeS_ok {E : Env (std K)} {T : TypeId} {a x : ST (std K)} {h h' : Heap (std K)} {σ F} {w : World} (hr : HRep σ F h.n h.get w) (hs : storeS E T a x h = some h') {va vx : Value} (ha : a.den σ = some va) (hx : x.den σ = some vx) :
    ∃ w', (Instr.storeAt T va vx).run E.P w = .ok () w' ∧ Post σ F h.n h.get w σ F h'.n h'.get w' := by
  unfold storeS at hs
  split at hs
  · rename_i i o v k hv hk
    split at hs
    · rename_i hvk
      split at hs
      · rename_i l U hi
        split at hs
        · rename_i hlen
          simp at hs; subst hs
          obtain ⟨L, vs, hL, hoff, hvs, hblk, hF⟩ := cells_block hr (.inl hi)
          rw [stCells_eq] at hv
          obtain ⟨xs, hxs, hxc⟩ := ST.cells_den hx hv
          have hxl := denL_length hxs
          have hva : va = .pointer (some ⟨L.g, o, none⟩) := by simp [ST.den, SC.den, hL, pathOff, hoff, pathOK] at ha; exact ha.symm
          subst hva
          refine ⟨_, ?_, HRep.write hr hi hL (putL_den (o := o) hvs hxs)⟩
          have hrun := run_storeCells_mid (P := E.P) L.g U xs o vs.toArray w hblk (by have := denL_length hvs; simp; omega) (denL_one hxs)
          have h2 : vx.cells.size = k := by rw [hxc]; simp; omega
          simp only [Instr.storeAt, Instr.sureAddr, storeVar, Sem.run_bind, Sem.run_pure, Result.andThen_ok, sizeT_run hk, h2, ne_eq, not_true_eq_false, if_false]
          rw [hxc, storeCells_shift]
          simpa using hrun
        · simp at hs
      · simp at hs
    · simp at hs
  · simp at hs

theorem rows_at {rows : List (List Value)} {sz : Nat} (hs : ∀ r ∈ rows, r.length = sz) {i : Nat} {r : List Value} (hi : rows[i]? = some r) :
    ∃ p q, rows.flatten = p ++ (r ++ q) ∧ p.length = i * sz := by
  induction rows generalizing i with
  | nil => simp at hi
  | cons x rows ih =>
    cases i with
    | zero => simp at hi; subst hi; exact ⟨[], rows.flatten, by simp, by simp⟩
    | succ i =>
      obtain ⟨p, q, h1, h2⟩ := ih (fun r hr => hs r (by simp [hr])) (i := i) (by simpa using hi)
      refine ⟨x ++ p, q, by simp [h1], ?_⟩
      rw [List.length_append, h2, hs x (by simp), Nat.succ_mul]; omega

theorem vecGet_ok {A : Ar (std K)} (hA : ArOK A) {σ : Sg} {c : Vec (std K)} {n : Num (std K).I} {r : List (SC (std K))} {rows : List (List Value)} (hc : c.den σ = some rows)
    (hg : vecGet A c n = some r) (h0 : 0 ≤ n.den (K := K)) (h1 : n.den (K := K) < rows.length) : ∃ x, rows[(n.den (K := K)).toNat]? = some x ∧ denL σ r = some x := by
  cases c with
  | lit l =>
    cases n with
    | opn v => simp [vecGet] at hg
    | lit k =>
      simp only [vecGet] at hg
      split at hg
      · rename_i hk
        clear h0 h1 hk
        simp only [Vec.den] at hc
        simp only [Num.den]
        generalize k.toNat = i at *
        induction l generalizing rows i with
        | nil => simp at hg
        | cons y l ih =>
          obtain ⟨v, ws, h2, h3, rfl⟩ := denR_cons.1 hc
          cases i with
          | zero => simp at hg; subst hg; exact ⟨v, rfl, h2⟩
          | succ i => simpa using ih h3 i (by simpa using hg)
      · simp at hg
  | opn v =>
    simp [vecGet] at hg; subst hg
    simp [Vec.den] at hc; subst hc
    obtain ⟨x, h2, h3⟩ := hA.vget v σ (n.den (K := K)) h0 h1
    exact ⟨x, h2, by rw [up_num hA]; exact h3⟩

theorem loadS_ok {E : Env (std K)} (hA : ArOK E.A) {T : TypeId} {a v : ST (std K)} {h : Heap (std K)} {σ F} {w : World} (hr : HRep σ F h.n h.get w) (hs : loadS E T a h = some v) {va : Value} (ha : a.den σ = some va) :
    ∃ x, (Instr.loadAt T va).run E.P w = .ok x w ∧ v.den σ = some x := by
  unfold loadS at hs
  split at hs
  · rename_i i p o
    have hcells : ∀ l U, (h.get i = some (.cells l U) ∨ h.get i = some (.ccells l U)) → p = [] → asT E.P T l o = some v → ∃ x, (Instr.loadAt T va).run E.P w = .ok x w ∧ v.den σ = some x := by
      intro l U hi hp hv
      subst hp
      obtain ⟨L, vs, hL, hoff, hvs, hblk, hF⟩ := cells_block hr hi
      have hva : va = .pointer (some ⟨L.g, o, none⟩) := by simp [ST.den, SC.den, hL, pathOff, hoff, pathOK] at ha; exact ha.symm
      subst hva
      have := run_loadVar_at (P := E.P) (pre := []) (rest := []) (by simpa using hblk) hvs hv
      simpa [Instr.loadAt, Instr.sureAddr] using this
    have hvec : ∀ sz c, (∃ pre rows rest fr U L, σ i = some L ∧ c.den σ = some rows ∧ (∀ r ∈ rows, r.length = sz) ∧ rows.length = L.len ∧ pre.length = L.off ∧ w.heap[L.g]? = some (.cells (pre ++ (rows.flatten ++ rest)).toArray U fr)) →
        ∀ n r, p = [(n, sz)] → vecGet E.A c n = some r → r.length = sz → asT E.P T r o = some v → ∃ x, (Instr.loadAt T va).run E.P w = .ok x w ∧ v.den σ = some x := by
      rintro sz c ⟨pre, rows, rest, fr, U, L, hL, hc, hsz, hlen, hpre, hblk⟩ n r rfl hg hrl hv
      simp only [ST.den, SC.den, hL] at ha
      split at ha
      · rename_i hp
        simp at ha; subst ha
        obtain ⟨h0, h1⟩ := hp
        obtain ⟨x, hx, hd⟩ := vecGet_ok hA hc hg h0 (by rw [hlen]; exact h1)
        obtain ⟨p, q, hpq, hpl⟩ := rows_at hsz hx
        have hb2 : w.heap[L.g]? = some (.cells ((pre ++ p) ++ (x ++ (q ++ rest))).toArray U fr) := by
          rw [hblk, hpq]; simp only [List.append_assoc]
        have := run_loadVar_at (P := E.P) hb2 hd hv
        have he : (pre ++ p).length + o = L.off + (pathOff (K := K) [(n, sz)] + o) := by
          have hp1 : pathOff (K := K) [(n, sz)] = (n.den (K := K)).toNat * sz := by simp [pathOff]
          rw [List.length_append, hpl, hpre, hp1]; omega
        rw [he] at this
        simpa [Instr.loadAt, Instr.sureAddr] using this
      · simp at ha
    split at hs
    · rename_i hi; exact hcells _ _ (.inl hi) rfl hs
    · rename_i hi; exact hcells _ _ (.inr hi) rfl hs
    · rename_i U sz c n s hi
      split at hs
      · rename_i he
        split at hs
        · rename_i r hg
          split at hs
          · rename_i hl
            obtain ⟨L, hL, pre, rows, rest, h1, h2, h3, h4, h5, h6, h9, h7, h8⟩ := hr.sat i _ hi
            exact hvec sz c ⟨pre, rows, rest, _, _, L, hL, h1, h2, h3, h4, h7⟩ n r (by rw [he]) hg hl hs
          · simp at hs
        · simp at hs
      · simp at hs
    · rename_i U sz c n s hi
      split at hs
      · rename_i he
        split at hs
        · rename_i r hg
          split at hs
          · rename_i hl
            obtain ⟨L, hL, pre, rows, rest, fr, h1, h2, h3, h4, h5, h6, h7⟩ := hr.sat i _ hi
            exact hvec sz c ⟨pre, rows, rest, _, _, L, hL, h1, h2, h3, h4, h6⟩ n r (by rw [he]) hg hl hs
          · simp at hs
        · simp at hs
      · simp at hs
    · simp at hs
  · simp at hs

end
end Go.Vse
