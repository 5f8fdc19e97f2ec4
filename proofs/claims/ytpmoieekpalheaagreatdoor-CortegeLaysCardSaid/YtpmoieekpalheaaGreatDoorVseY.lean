/- What a row's list of laid errors gives: where they lie. -/
import Derived.Test.YtpmoieekpalheaaGreatDoorVseW
import Derived.Lib.LaidTab
import Derived.Stop.LaidErr
namespace Go.Vse
open Go Go.RowKit

section
variable {P : Program} {W : World}

/-- Each listed variable holds an error of its own text. -/
def laidL (nm : String) (l : List (String × List UInt8)) : List (String × DataW Unit) := l.map fun x => (x.1, .iface nm (.ptr (.agg [.lit (.string x.2)])))

theorem sent_of_laid {nm : String} {ti tp te ts : TypeId} {ms : Array (String × TypeId)} {f : Field}
    (hi : P.underlying ti = some (.interface ms)) (hrow : ∀ u, P.typeName? 3 u = some nm → u = tp)
    (hp : P.underlying tp = some (.pointer te)) (he : P.underlying te = some (.struct #[f])) (hft : f.type = ts) (hfo : f.offset = 0) (hs : P.underlying ts = some .string) (hc : P.cellsOf te = 1) (hcs : P.cellsOf ts = 1) :
    ∀ (l : List (String × List UInt8)) (ps : List MemPlace), DataW.LaidVars P W (laidL nm l) ps →
      (∀ b off, MemPlace.cell b off ∈ ps → (∃ c t, W.heap[b]? = some (.cells c t (0, 0))) ∧ ∀ u v, W.cell? ⟨b, off, none⟩ = some (.iface u v) → Value.okWide P W .any 0 u v) →
      ∀ x ∈ l, ∀ g, P.globalNamed x.1 = some g → (P.globals[g]?).map (·.type) = some ti → ∃ (a : Addr) (t : TypeId), a.spot = none ∧ W.heap[g]? = some (.cells #[.iface tp (.pointer (some a))] t (0, 0))
  | [], _, _, _, x, hx, _, _, _ => by cases hx
  | y :: l, ps, h, hrows, x, hx, g, hg, ht => by
    obtain ⟨g0, t0, cs0, f0, p0, q0, hg0, ht0, hv0, hd0, hr0, e0⟩ := h
    subst e0
    rcases List.mem_cons.1 hx with rfl | hx
    · obtain rfl := Option.some.inj (hg.symm.trans hg0)
      obtain rfl := Option.some.inj (ht.symm.trans ht0)
      obtain ⟨l0⟩ := cs0
      have ok0 : ∀ u v, l0 = [.iface u v] → Value.okWide P W .any 0 u v := fun u v e => by
        subst e
        exact (hrows g 0 (by simp [MemPlace.row])).2 u v (by simpa using World.var?_cell hg0 hv0 0)
      obtain ⟨a0, s0, rfl, hc0, _, _, rfl⟩ := errorString_of_trod hi hrow hp he hft hfo hs hc hcs hd0 ok0
      obtain ⟨⟨c, t, hcells⟩, _⟩ := hrows g 0 (by simp [MemPlace.row])
      refine ⟨a0, t, ?_, ?_⟩
      · cases hsp : a0.spot with
        | none => rfl
        | some z =>
          unfold World.cell? at hc0
          split at hc0 <;> simp [hsp] at hc0
      · unfold World.var? at hv0
        rw [hg0] at hv0
        simp only [Option.bind_some, hcells, Option.some.injEq] at hv0
        rw [hcells, hv0]
    · exact sent_of_laid hi hrow hp he hft hfo hs hc hcs l q0 hr0 (fun b off hb => hrows b off (by simp [hb])) x hx g hg ht

/-- The variables 0 to n-1 are listed: the world holds such errors. -/
theorem sents_of_laid {nm : String} {ti tp te ts : TypeId} {ms : Array (String × TypeId)} {f : Field}
    (hi : P.underlying ti = some (.interface ms)) (hrow : ∀ u, P.typeName? 3 u = some nm → u = tp)
    (hp : P.underlying tp = some (.pointer te)) (he : P.underlying te = some (.struct #[f])) (hft : f.type = ts) (hfo : f.offset = 0) (hs : P.underlying ts = some .string) (hc : P.cellsOf te = 1) (hcs : P.cellsOf ts = 1)
    {l : List (String × List UInt8)} {n : Nat} (h : laidMet P (laidL nm l) W) (hn : ∀ i, i < n → ∃ x ∈ l, P.globalNamed x.1 = some i ∧ (P.globals[i]?).map (·.type) = some ti) :
    ∃ (t : Nat → TypeId) (a : Nat → Addr), Sents W tp n (fun i => i) t a := by
  obtain ⟨ps, hl, _, hrows⟩ := h
  have key : ∀ i, ∃ z : TypeId × Addr, i < n → z.2.spot = none ∧ W.heap[i]? = some (.cells #[.iface tp (.pointer (some z.2))] z.1 (0, 0)) := fun i => by
    by_cases hin : i < n
    · obtain ⟨x, hx, hg, ht⟩ := hn i hin
      obtain ⟨a, t, h1, h2⟩ := sent_of_laid hi hrow hp he hft hfo hs hc hcs l ps hl hrows x hx i hg ht
      exact ⟨(t, a), fun _ => ⟨h1, h2⟩⟩
    · exact ⟨default, fun h => absurd h hin⟩
  obtain ⟨z, hz⟩ := Classical.axiomOfChoice key
  exact ⟨fun i => (z i).1, fun i => (z i).2, fun i hi => (hz i hi).1, fun i hi => (hz i hi).2, fun i j _ _ h => h⟩

end
end Go.Vse
