/- Proved: the tied card of sextonlaw08.CortegeExact: for every operation and every slice of replies the call returns true and its arguments read as before. Conditions: the package variable api.ErrArg holds what the program's text lays (the card ties it). -/
import Derived.Test.YtfpcokdecdnmdaaDoorCortegeB
import Derived.Test.YtfpcokdecdnmdaaDoorVseR
import Derived.Test.YtfpcokdecdnmdaaDoorCards
import Derived.Test.YtfpcokdecdnmdaaDoorTie
import Derived.WalkKit
import Derived.ProofKit
import Derived.OpenShut
import Derived.Deep.DeepHandedRow
import Derived.Lib.LaidTab
import Derived.Stop.LaidErr
namespace Go.Vse
open Go Go.ChangeShapes Go.WideShapes Go.ChangeAt Go.RowKit Go.Proofs Go.Proofs.YtfpcokdecdnmdaaDoor

theorem own8 : ownKnob Tryd.prog.godebug = none := by kernel_rfl
theorem laidOut8 : laidOutB Tryd.prog = true := by kernel_rfl
theorem flatOp : flatT Tryd.prog 5 23 = some [some .i64, some .i64, some .i64, some .i64] := by kernel_rfl
theorem flatReply : flatT Tryd.prog 5 44 = some [some .i64, some .i64, some .i64, some .i64, none, none] := by kernel_rfl
theorem cells44 : Tryd.prog.cellsOf 44 = 6 := by kernel_rfl

theorem opOf {cs : List Value} (h : isFlat [some .i64, some .i64, some .i64, some .i64] cs) : ∃ o : Opn, cs = o.vals := by
  match cs, h with
  | [_, _, _, _], ⟨⟨a, rfl⟩, ⟨b, rfl⟩, ⟨c, rfl⟩, ⟨d, rfl⟩, _⟩ => exact ⟨⟨a, b, c, d⟩, rfl⟩
theorem replyOf {cs : List Value} (h : isFlat [some .i64, some .i64, some .i64, some .i64, none, none] cs) : ∃ o : Reply, cs = o.vals := by
  match cs, h with
  | [_, _, _, _, _, _], ⟨⟨a, rfl⟩, ⟨b, rfl⟩, ⟨c, rfl⟩, ⟨d, rfl⟩, ⟨e, rfl⟩, ⟨f, rfl⟩, _⟩ => exact ⟨⟨⟨a, b, c, d, e⟩, f⟩, rfl⟩

theorem global0 : Tryd.prog.globalNamed "sexton/api.ErrArg" = some 0 := by kernel_rfl
theorem star206 : "*" ++ "errors.errorString" = "*errors.errorString" := by decide
theorem row206 (u : TypeId) (h : Tryd.prog.typeName? 3 u = some "*errors.errorString") : u = 206 :=
  typeName_ptr_named (nm := "errors.errorString") (by rw [star206]; kernel_rfl) (by kernel_rfl) (by decide) u (by rw [star206]; exact h)

/-- WHAT THE ROW's LIST GIVES: where the sentinel lies. -/
theorem sentinel8 {W : World} (h : laidMet Tryd.prog Rows.cortegeExactRow.laid W) : ∃ (a : Addr) (t : TypeId), a.spot = none ∧ W.heap[0]? = some (.cells #[.iface 206 (.pointer (some a))] t (0, 0)) := by
  obtain ⟨a, s, h1, h2, _, _⟩ := laid_sentinel h global0 (by kernel_rfl) Tryd.underlying28 row206 Tryd.underlying206 Tryd.underlying242 rfl rfl (by kernel_rfl) (by kernel_rfl) (by kernel_rfl)
  obtain ⟨ps, ⟨g0, t0, cs0, f0, p0, q0, hg0, ht0, hv0, hd0, _, e0⟩, _, hrows⟩ := h
  obtain rfl := Option.some.inj (global0.symm.trans hg0)
  obtain rfl := Option.some.inj (h1.symm.trans hv0)
  subst e0
  obtain ⟨⟨c, t, hc⟩, _⟩ := hrows 0 0 (by simp [MemPlace.row])
  refine ⟨a, t, ?_, ?_⟩
  · cases hs : a.spot with
    | none => rfl
    | some x =>
      unfold World.cell? at h2
      split at h2 <;> simp [hs] at h2
  · unfold World.var? at h1
    rw [global0] at h1
    simp only [Option.bind_some, hc, Option.some.injEq] at h1
    rw [hc, h1]

theorem replies_rows : ∀ (n : Nat) (f : Nat → List Value), (∀ i, i < n → isFlat [some .i64, some .i64, some .i64, some .i64, none, none] (f i)) → ∃ R : List Reply, R.length = n ∧ (List.range n).map f = R.map Reply.vals
  | 0, _, _ => ⟨[], rfl, rfl⟩
  | n + 1, f, h => by
    obtain ⟨R, h1, h2⟩ := replies_rows n f fun i hi => h i (by omega)
    obtain ⟨r, hr⟩ := replyOf (h n (by omega))
    exact ⟨R ++ [r], by simp [h1], by rw [List.range_succ, List.map_append, List.map_append, h2]; simp [hr]⟩

set_option maxRecDepth 100000 in
/-- THE CALL, FOR EVERY ARGUMENT. -/
theorem walk8 {W : World} (hL : laidMet Tryd.prog Rows.cortegeExactRow.laid W) {H : Type} {enc : TypeId × Value → H} {v0 v1 : Value} {d0 d1 : DataW H} {p0 p1 : List MemPlace}
    (hv0 : Value.okWide Tryd.prog W .any 0 23 v0) (h0 : DataW.Trod enc Tryd.prog W 0 (fun _ => true) true 23 v0 d0 p0) (hv1 : Value.okWide Tryd.prog W .any 0 24 v1) (h1 : DataW.Trod enc Tryd.prog W 0 (fun _ => true) true 24 v1 d1 p1) :
    Calls Tryd.prog 3 #[v0, v1] W fun e w' => e = .returned (.bool true) ∧ Keeps (fun _ => False) W w' := by
  obtain ⟨a, t, hs, h00⟩ := sentinel8 hL
  obtain ⟨cs, rfl, hcs⟩ := open_flat Tryd.underlying23 flatOp hv0 h0
  obtain ⟨op, rfl⟩ := opOf hcs
  rcases open_flats Tryd.underlying24 flatReply cells44 (by decide) hv1 h1 with rfl | ⟨g, off, cap, rfl⟩ | ⟨g, off, len, cap, T, fr, pre, rest, f, rfl, hz, hlc, hg, hpre, hf⟩
  · exact walk_none W a hs t 2 (by omega) ⟨0, 0, 0, 0⟩ _ [.agg op.vals.toArray, .slice none 0 0] h00 (nil_true t op) rfl
  · exact walk_none W a hs t 3 (by omega) ⟨g, off, 0, cap⟩ _ [.agg op.vals.toArray, .slice (some ⟨g, off, none⟩) 0 cap] h00 (emp_true t op) rfl
  · obtain ⟨R, rfl, hR⟩ := replies_rows len f hf
    rw [hR] at hg
    exact walk_law W op R a hs t T g off cap fr pre rest h00 hg hpre hlc

theorem below_of {W W' : World} (h : Keeps (fun _ => False) W W') : Below W.heap.size W W' := ⟨h.os, h.tape, h.output, h.size, fun k hk => h.block k hk id⟩

set_option maxRecDepth 100000 in
/-- WHAT THE WALK GIVES, FOR EVERY ARGUMENT AND EVERY WORLD THAT HOLDS THE SENTINEL. -/
theorem contract8 (H : Type) (enc : TypeId × Value → H) (W : World) (args : Array Value) (ds gs : List (DataW H)) (before : List MemPlace)
    (hval : ∀ (j : Nat) t v, Tryd.f3.params[j]? = some t → args[j]? = some v → Value.okWide Tryd.prog W .any 0 t v)
    (hW : DataW.Whole enc Tryd.prog Tryd.f3.params.toList Rows.cortegeExactSpec.vars false W args.toList ds gs before) (hL : laidMet Tryd.prog Rows.cortegeExactRow.laid W) :
    Calls Tryd.prog 3 args W fun e W' => ∃ v, e = .returned v ∧ Rows.cortegeExactSpec.post enc Tryd.prog Tryd.f3 false true false false W args v W' := by
  have hW' := hW
  obtain ⟨p, q, hA0, hV, rfl, hfz, hnd⟩ := hW
  have hA : DataW.TrodAll enc Tryd.prog W 0 (fun _ => true) true Tryd.f3.params.toList args.toList ds p := hA0
  rw [Tryd.params3] at hA hval
  obtain ⟨v0, vs0, d0, ds0, p0, q0, hargs, rfl, rfl, h0, r0⟩ := trodAll_cons hA
  obtain ⟨v1, vs1, d1, ds1, p1, q1, rfl, rfl, rfl, h1, r1⟩ := trodAll_cons r0
  obtain ⟨rfl, rfl, rfl⟩ := trodAll_nil r1
  obtain rfl : args = #[v0, v1] := by cases args; simp_all
  obtain ⟨rfl, rfl⟩ := trodVars_none hV
  have lt0 : ∀ x ∈ p0, x.block < W.heap.size := by obtain ⟨m, hm⟩ := h0; exact DataW.trod_lt m _ _ _ hm
  have lt1 : ∀ x ∈ p1, x.block < W.heap.size := by obtain ⟨m, hm⟩ := h1; exact DataW.trod_lt m _ _ _ hm
  refine (walk8 hL (hval 0 23 v0 rfl rfl) h0 (hval 1 24 v1 rfl rfl) h1).mono fun e W' ⟨he, hk⟩ => ?_
  have bel := below_of hk
  subst he
  exact ⟨_, rfl, _, _, _, [], _, [], hW', trodAll_mk1 (shut_bool Tryd.underlying4 _), (trodAll_cons_mk (Below.trod laidOut8 (by kernel_rfl) (of_decide_eq_true (by kernel_rfl)) h0 bel lt0) (trodAll_cons_mk (Below.trod laidOut8 (by kernel_rfl) (of_decide_eq_true (by kernel_rfl)) h1 bel lt1) trodAll_mk0)), rfl, bel.frame _, fun h => by cases h⟩

/-- A WORLD FOR THE WITNESS: the settled one, the sentinel laid. -/
noncomputable def low8 : Nat := (World.holding Tryd.prog default ⟨#[], #[], []⟩).heap.size
def text8 : ByteArray := { data := #[97, 110, 32, 97, 114, 103, 117, 109, 101, 110, 116, 32, 116, 104, 97, 116, 32, 99, 97, 110, 39, 116, 32, 98, 101] }
noncomputable def laidWorld8 (os : Os) : World :=
  let w0 := World.holding Tryd.prog os ⟨#[.cells #[.string text8] 242], #[], []⟩
  { w0 with heap := w0.heap.modify 0 fun
      | .cells _ t frozen => .cells #[.iface 206 (.pointer (some ⟨low8, 0, none⟩))] t frozen
      | o => o }
noncomputable def args8 : Array Value := #[.agg #[.int .i64 0, .int .i64 0, .int .i64 0, .int .i64 0], .slice none 0 0]
theorem laid_met8 (os : Os) : laidMet Tryd.prog Rows.cortegeExactRow.laid ((laidWorld8 os).forCall (fun _ _ => 0) ⟨#[], args8, []⟩).memory :=
  laidMet_of_run (ps := [.cell 0 0, .cell low8 0]) 8 (by kernel_rfl) (by kernel_rfl) (by kernel_rfl)
theorem reads8 (os : Os) {H : Type} (enc : TypeId × Value → H) : ∃ places, DataW.whole enc Tryd.prog ((laidWorld8 os).forCall (fun _ _ => 0) ⟨#[], args8, []⟩).memory Tryd.f3.params.toList Rows.cortegeExactSpec.vars false args8.toList 8 = some ([.agg [.lit (.int .i64 0), .lit (.int .i64 0), .lit (.int .i64 0), .lit (.int .i64 0)], .nil], [], places) :=
  ⟨[], by kernel_rfl⟩

set_option maxRecDepth 100000 in
theorem lifted8 (os : Os) (started : os.Started) (H : Type) (enc : TypeId × Value → H) (F : Stop.Interp) :
    ReturnsInHanded {} Tryd.checked os 3 .any ((OpenSpec.ofChange Rows.cortegeExactSpec).preRow enc Tryd.prog Tryd.f3 Rows.cortegeExactRow.domain false Rows.cortegeExactRow.laid) (((OpenSpec.ofChange Rows.cortegeExactSpec).at F).post enc Tryd.prog Tryd.f3 false true false false) := by
  obtain ⟨places, hx⟩ := reads8 os enc
  refine returnsInHanded_of_row (C := Tryd.checked) (s := OpenSpec.ofChange Rows.cortegeExactSpec) own8 started (by kernel_rfl) Tryd.func3
    (witness_row_at (enc := enc) (C := Tryd.checked) false (laidWorld8 os) args8 rfl (by kernel_rfl) (by kernel_rfl) (by kernel_rfl)
      (OpenSpec.preRow_of_cond 8 hx (by kernel_rfl) (fun k hk => by cases hk) (by kernel_rfl) (laid_met8 os))) ?_
  intro W base args ds gs before hval hW _ _ _ hL _ _
  exact contract8 H enc W args ds gs before (fun j t v h1 h2 => hval j t v h1 h2) hW hL

theorem said8 : Rows.CortegeExactSaid :=
  OpenClaim.holds_of_cond 3 Tryd.f3 rfl rfl rfl rfl rfl rfl rfl ⟨rfl, rfl, rfl, rfl, rfl⟩ rfl rfl rfl rfl rfl (by kernel_rfl) Tryd.func3 (by kernel_rfl)
    (of_decide_eq_true (by kernel_rfl)) (by unfold Func.isWrapper; first | (rw [if_pos (by decide +kernel)]; kernel_rfl) | (rw [if_neg (by decide +kernel)]; exact ⟨rfl, rfl⟩))
    (fun os started H enc _ F => by rw [OpenClaim.pre_eq_preRow]; exact lifted8 os started H enc F)

/-- No parameter wants a stand-in; the program's own looks are off: what the card asks. -/
theorem plain8 (f : FuncId) (fn : Func) (hf : Tryd.pinned.checked.prog.funcNamed "sexton/sextonlaw08.CortegeExact" = some f) (hfn : Tryd.pinned.checked.prog.funcs[f]? = some fn) :
    true = Tryd.pinned.checked.prog.looks [] ∧ ∀ (j : Nat) t, fn.params[j]? = some t → Tryd.pinned.checked.prog.wantsStandIn t = false := by
  obtain rfl : f = 3 := Option.some.inj ((show Tryd.prog.funcNamed "sexton/sextonlaw08.CortegeExact" = some 3 by kernel_rfl).symm.trans hf) |>.symm
  obtain rfl : fn = Tryd.f3 := (Option.some.inj (Tryd.func3.symm.trans hfn)).symm
  refine ⟨by kernel_rfl, fun j t ht => ?_⟩
  rw [Tryd.params3] at ht
  have hm := Array.mem_of_getElem? ht
  simp only [List.mem_toArray, List.mem_cons, List.not_mem_nil, or_false] at hm
  rcases hm with rfl | rfl
  · exact (show Tryd.prog.wantsStandIn 23 = false by kernel_rfl)
  · exact (show Tryd.prog.wantsStandIn 24 = false by kernel_rfl)

/-- THE CARD. -/
theorem card8 : Rows.CortegeExactCardSaid :=
  Claim7.holds_tied_plain_at .later [] _ _ _ _ said8 (fun _ h => by cases h) (by kernel_rfl) (fun _ h => by cases h) cortegeExact_row_tie rfl ⟨rfl, rfl⟩ (by kernel_rfl) rfl plain8 (by kernel_rfl)
end Go.Vse
namespace Go.Proofs.YtfpcokdecdnmdaaDoor
/-- The card, under the seat's name. -/
theorem cortegeExact_card : Rows.CortegeExactCardSaid := Go.Vse.card8
end Go.Proofs.YtfpcokdecdnmdaaDoor
#print axioms Go.Proofs.YtfpcokdecdnmdaaDoor.cortegeExact_card
