/- Arguments of plain data (whole numbers, truth values, structs of such, slices of such structs), as a row reads them: what their cells are. -/
import Derived.Test.YtpmoieekpalheaaGreatDoorVseQ
import Derived.Deep.Slices
import Derived.ChangeArms
import Derived.Carry
import Derived.WideShapes
namespace Go.Vse
open Go

section
variable (P : Program)
def flatF (rec : TypeId → Option (List (Option IntKind))) : Nat → List Field → Option (List (Option IntKind))
  | _, [] => some []
  | off, f :: r => if f.offset = off then match rec f.type with
    | some ks => if P.cellsOf f.type = ks.length then match flatF rec (off + ks.length) r with
      | some l => some (ks ++ l)
      | none => none else none
    | none => none else none
/-- The cells of a type of plain data: whole numbers (of a kind), truth values. -/
def flatT : Nat → TypeId → Option (List (Option IntKind))
  | 0, _ => none
  | d + 1, t => match P.underlying t with
    | some (.int k) => some [some k]
    | some .bool => some [none]
    | some (.struct fs) => match flatF P (flatT d) 0 fs.toList with
      | some ks => if P.cellsOf t = ks.length then some ks else none
      | none => none
    | _ => none
end

def isFlat : List (Option IntKind) → List Value → Prop
  | [], [] => True
  | some k :: ks, v :: vs => (∃ n, v = .int k n) ∧ isFlat ks vs
  | none :: ks, v :: vs => (∃ b, v = .bool b) ∧ isFlat ks vs
  | _, _ => False

theorem isFlat_length : ∀ {ks : List (Option IntKind)} {vs : List Value}, isFlat ks vs → vs.length = ks.length
  | [], [], _ => rfl
  | some k :: ks, v :: vs, h => by simp [isFlat_length h.2]
  | none :: ks, v :: vs, h => by simp [isFlat_length h.2]
  | [], _ :: _, h => by simp [isFlat] at h
  | some _ :: _, [], h => by simp [isFlat] at h
  | none :: _, [], h => by simp [isFlat] at h

theorem isFlat_append : ∀ {ks ls : List (Option IntKind)} {vs ws : List Value}, isFlat ks vs → isFlat ls ws → isFlat (ks ++ ls) (vs ++ ws)
  | [], ls, [], ws, _, h => h
  | some k :: ks, ls, v :: vs, ws, h, g => ⟨h.1, isFlat_append h.2 g⟩
  | none :: ks, ls, v :: vs, ws, h, g => ⟨h.1, isFlat_append h.2 g⟩
  | [], _, _ :: _, _, h, _ => by simp [isFlat] at h
  | some _ :: _, _, [], _, h, _ => by simp [isFlat] at h
  | none :: _, _, [], _, h, _ => by simp [isFlat] at h

section
variable {H : Type} {enc : TypeId × Value → H} {P : Program} {w : World} {base : Nat} {spare : Nat → Bool} {held : Bool}

theorem flatF_ok {rec : TypeId → Option (List (Option IntKind))} {n : Nat} (hrec : ∀ t ks, rec t = some ks → ∀ cs (x : DataW H × List MemPlace), DataW.trod enc P w base spare held n t cs = some x → isFlat ks cs) {cs : List Value} :
    ∀ (r : List Field) (off : Nat) (ks : List (Option IntKind)), flatF P rec off r = some ks → (∀ f ∈ r, ∃ y : DataW H × List MemPlace, DataW.trod enc P w base spare held n f.type ((cs.drop f.offset).take (P.cellsOf f.type)) = some y) →
      isFlat ks ((cs.drop off).take ks.length)
  | [], off, ks, h, _ => by simp [flatF] at h; subst h; simp [isFlat]
  | f :: r, off, ks, h, ht => by
    simp only [flatF] at h
    split at h
    · rename_i ho
      split at h
      · rename_i ks0 h0
        split at h
        · rename_i hc
          split at h
          · rename_i l hl
            simp at h; subst h
            obtain ⟨y, hy⟩ := ht f (by simp)
            have h1 := hrec f.type ks0 h0 _ y hy
            have h2 := flatF_ok hrec r (off + ks0.length) l hl fun f hf => ht f (by simp [hf])
            rw [hc, ho] at h1
            have := isFlat_append h1 h2
            rw [List.length_append, List.take_add, List.drop_drop]
            exact this
          · cases h
        · cases h
      · cases h
    · cases h

theorem flat_trod : ∀ (d : Nat) (t : TypeId) (ks : List (Option IntKind)), flatT P d t = some ks → ∀ (n : Nat) (cs : List Value) (x : DataW H × List MemPlace), DataW.trod enc P w base spare held n t cs = some x → isFlat ks cs
  | 0, _, _, h, _, _, _, _ => by simp [flatT] at h
  | d + 1, t, ks, h, n, cs, x, hx => by
    simp only [flatT] at h
    split at h
    · rename_i k hu
      simp at h; subst h
      obtain ⟨m, rfl, _⟩ := DataW.trod_int hu hx
      exact ⟨⟨m, rfl⟩, trivial⟩
    · rename_i hu
      simp at h; subst h
      obtain ⟨m, rfl, _⟩ := DataW.trod_bool hu hx
      exact ⟨⟨m, rfl⟩, trivial⟩
    · rename_i fs hu
      split at h
      · rename_i ks' hf
        split at h
        · rename_i hc
          simp at h; subst h
          obtain ⟨xs, m, rfl, _, hlen, hxl, hfs⟩ := DataW.trod_struct hu hx
          have := flatF_ok (cs := cs) (rec := flatT P d) (n := m) (fun t ks h cs x hx => flat_trod d t ks h m cs x hx) fs.toList 0 ks' hf fun f hf => by
            obtain ⟨i, hi⟩ := List.mem_iff_getElem?.1 hf
            have hil : i < xs.length := by
              have := (List.getElem?_eq_some_iff.1 hi).1
              simp at this; omega
            refine ⟨xs[i], ?_⟩
            rw [hfs i f (by simpa using hi), List.getElem?_eq_getElem hil]
          rw [List.drop_zero, List.take_of_length_le (by omega)] at this
          exact this
        · cases h
      · cases h
    · cases h

end

/-- Rows that lie one behind the other. -/
theorem rows_flat {cs : List Value} {off sz : Nat} {f : Nat → List Value} : ∀ (len : Nat), (∀ i, i < len → (f i).length = sz ∧ ∀ j, j < sz → cs[off + (i * sz + j)]? = (f i)[j]?) →
    (cs.drop off).take (len * sz) = ((List.range len).map f).flatten
  | 0, _ => by simp
  | len + 1, h => by
    rw [Nat.succ_mul, List.take_add, rows_flat len fun i hi => h i (by omega), List.range_succ, List.map_append, List.flatten_append]
    congr 1
    simp only [List.map_cons, List.map_nil, List.flatten_cons, List.flatten_nil, List.append_nil]
    obtain ⟨h1, h2⟩ := h len (by omega)
    apply List.ext_getElem?
    intro j
    rcases Nat.lt_or_ge j sz with hj | hj
    · rw [List.getElem?_take_of_lt hj, List.getElem?_drop, List.getElem?_drop, h2 j hj]
    · rw [List.getElem?_eq_none (by simp; omega), List.getElem?_eq_none (by omega)]

theorem rows_split {cs : List Value} {off sz len : Nat} {f : Nat → List Value} (hl : 0 < len) (hs : 0 < sz) (h : ∀ i, i < len → (f i).length = sz ∧ ∀ j, j < sz → cs[off + (i * sz + j)]? = (f i)[j]?) :
    ∃ pre rest, pre.length = off ∧ cs = pre ++ (((List.range len).map f).flatten ++ rest) := by
  refine ⟨cs.take off, (cs.drop off).drop (len * sz), ?_, ?_⟩
  · obtain ⟨h1, h2⟩ := h 0 hl
    have := h2 0 hs
    rw [Nat.zero_mul, Nat.zero_add, Nat.add_zero, List.getElem?_eq_getElem (l := f 0) (by omega)] at this
    have := (List.getElem?_eq_some_iff.1 this).1
    rw [List.length_take]; omega
  · rw [← rows_flat len h, List.take_append_drop, List.take_append_drop]

section
variable {H : Type} {enc : TypeId × Value → H} {P : Program} {w : World} {base : Nat} {spare : Nat → Bool} {held : Bool}

/-- A SLICE OF PLAIN DATA, AS A ROW READS IT: none; empty; or its elements' cells. -/
theorem open_flats {t e : TypeId} {v : Value} {d : DataW H} {ps : List MemPlace} {ks : List (Option IntKind)} {dd : Nat} {r : Reach} {b0 : Nat} (ht : P.underlying t = some (.slice e)) (hk : flatT P dd e = some ks) (hc : P.cellsOf e = ks.length) (hpos : 0 < ks.length)
    (hv : Value.okWide P w r b0 t v) (h : DataW.Trod enc P w base spare held t v d ps) :
    v = .slice none 0 0 ∨ (∃ g off cap, v = .slice (some ⟨g, off, none⟩) 0 cap) ∨
    ∃ g off len cap T fr pre rest f, v = .slice (some ⟨g, off, none⟩) len cap ∧ 0 < len ∧ len ≤ cap ∧ w.heap[g]? = some (.cells (pre ++ (((List.range len).map f).flatten ++ rest)).toArray T fr) ∧ pre.length = off ∧ ∀ i, i < len → isFlat ks (f i) := by
  obtain ⟨a, len, cap, rfl⟩ := WideShapes.okWide_slice ht hv
  obtain ⟨fuel, hf⟩ := h
  rcases Go.Deep.open_slice ht hf with ⟨h0, _⟩ | ⟨a', len', cap', m, n, D, Pl, h0, hb, hl, hm, hmm, hx, hel⟩
  · simp [Value.cells] at h0
    obtain ⟨rfl, rfl, rfl⟩ := h0
    exact .inl rfl
  · simp [Value.cells] at h0
    obtain ⟨rfl, rfl, rfl⟩ := h0
    have hsp : a'.spot = none := by
      simp only [Value.okWide, ht, Cell.okWide, Cell.ok, World.has] at hv
      exact hv.2.2.2.1
    obtain ⟨g, off, sp⟩ := a'
    simp only at hsp; subst hsp
    rcases Nat.eq_zero_or_pos len with hz | hz
    · subst hz
      exact .inr (.inl ⟨g, off, cap, rfl⟩)
    · have hlm : len ≤ m := by rw [hmm]; split <;> omega
      have hcells : ∀ i, i < len → ∃ cs', isFlat ks cs' ∧ cs'.length = ks.length ∧ ∀ j, j < ks.length → w.cell? ⟨g, off + (i * ks.length + j), none⟩ = cs'[j]? := fun i hi => by
        obtain ⟨cs', h1, h2⟩ := hel i (by omega)
        obtain ⟨_, h3, h4⟩ := World.cells?_some h1
        rw [hc] at h3 h4
        refine ⟨cs', flat_trod dd e ks hk n cs' _ h2, h3, fun j hj => ?_⟩
        rw [← h4 j hj]
        rw [addr_add, addr_add, Nat.add_assoc]
      obtain ⟨cs0, _, h0l, h00⟩ := hcells 0 hz
      have h00' := h00 0 hpos
      rw [List.getElem?_eq_getElem (by omega)] at h00'
      cases hg : w.heap[g]? with
      | none => simp [World.cell?, hg] at h00'
      | some o =>
        cases o with
        | cells cs T fr =>
          obtain ⟨f, hf⟩ : ∃ f : Nat → List Value, ∀ i, i < len → isFlat ks (f i) ∧ (f i).length = ks.length ∧ ∀ j, j < ks.length → w.cell? ⟨g, off + (i * ks.length + j), none⟩ = (f i)[j]? := by
            refine ⟨fun i => if hi : i < len then Classical.choose (hcells i hi) else [], fun i hi => ?_⟩
            simp only [hi, dif_pos]
            exact Classical.choose_spec (hcells i hi)
          obtain ⟨pre, rest, h5, h6⟩ := rows_split (cs := cs.toList) (off := off) (f := f) hz hpos fun i hi => ⟨(hf i hi).2.1, fun j hj => by
            rw [← (hf i hi).2.2 j hj]
            simp [World.cell?, hg]⟩
          refine .inr (.inr ⟨g, off, len, cap, T, fr, pre, rest, f, rfl, hz, hl, ?_, h5, fun i hi => (hf i hi).1⟩)
          rw [← h6]; simpa using hg
        | map es c => simp [World.cell?, hg] at h00'
        | _ => simp [World.cell?, hg] at h00'

/-- A STRUCT OF PLAIN DATA, AS A ROW READS IT. -/
theorem open_flat {t : TypeId} {fs : Array Field} {v : Value} {d : DataW H} {ps : List MemPlace} {ks : List (Option IntKind)} {dd : Nat} {r : Reach} {b0 : Nat} (ht : P.underlying t = some (.struct fs)) (hk : flatT P dd t = some ks)
    (hv : Value.okWide P w r b0 t v) (h : DataW.Trod enc P w base spare held t v d ps) : ∃ cs : List Value, v = .agg cs.toArray ∧ isFlat ks cs := by
  obtain ⟨fuel, hf⟩ := h
  simp only [Value.okWide, ht] at hv
  obtain ⟨cs, rfl, _, _⟩ := hv
  exact ⟨cs.toList, by simp, flat_trod dd t ks hk fuel _ _ (by simpa [Value.cells] using hf)⟩
end
end Go.Vse
