/- Proved: the tied card of sextonlaw08.CortegeLays: for every two numbers the call returns true and its arguments read as before. Conditions: the eight package variables api.ErrArg, ErrNil, ErrFull, ErrState, ErrFreed, ErrStale, ErrTwice, ErrLeft hold what the program text lays (the card ties them). -/
import Derived.Test.YtpmoieekpalheaaGreatDoorLaysB1
import Derived.Test.YtpmoieekpalheaaGreatDoorLaysB2
import Derived.Test.YtpmoieekpalheaaGreatDoorLaysB3
import Derived.Test.YtpmoieekpalheaaGreatDoorLaysB4
import Derived.Test.YtpmoieekpalheaaGreatDoorLaysB5
import Derived.Test.YtpmoieekpalheaaGreatDoorLaysB6
import Derived.Test.YtpmoieekpalheaaGreatDoorLaysB7
import Derived.Test.YtpmoieekpalheaaGreatDoorLaysB8
import Derived.Test.YtpmoieekpalheaaGreatDoorLaysB9
import Derived.Test.YtpmoieekpalheaaGreatDoorLaysB10
import Derived.Test.YtpmoieekpalheaaGreatDoorLaysB11
import Derived.Test.YtpmoieekpalheaaGreatDoorLaysI
import Derived.Test.YtpmoieekpalheaaGreatDoorCards
import Derived.Test.YtpmoieekpalheaaGreatDoorTie
import Derived.ProofKit
import Derived.OpenShut
import Derived.Deep.DeepHandedRow
namespace Go.Vse
open Go Go.ChangeShapes Go.WideShapes Go.ChangeAt Go.RowKit Go.Proofs Go.Proofs.YtpmoieekpalheaaGreatDoor

theorem wrap_nonneg (x : Int) : 0 ≤ IntKind.wrap .u64 x := by
  rw [IntKind.wrap_u64]
  omega
theorem remL_range (x : Int) : 0 ≤ remL x ∧ remL x < 5 := by
  unfold remL arithZ
  have h := wrap_nonneg x
  constructor
  · exact Int.tmod_nonneg _ h
  · exact Int.tmod_lt_of_pos _ (by decide)

theorem lit_true {a : Int} {n : Int} (h : a = n) : cmpZ .eql a n = true := by subst h; simp [cmpZ]

/-- For every pair of numbers there is a way on which the call answers 'true'. -/
def TrueL (n e : Nat) (t : Nat → TypeId) (slots engine : Int) : Prop := ∃ h', (runL n e t slots engine).eval = some (.one (.bool (.lit true)), h')
theorem one_way {n e : Nat} {t : Nat → TypeId} {slots engine : Int} {c : Bool} (h : pathT (runL n e t slots engine) = some [c]) (hc : c = true) : TrueL n e t slots engine :=
  pathT_ok h (by intro b hb; simp only [List.mem_singleton] at hb; subst hb; exact hc)
theorem two_way {n e : Nat} {t : Nat → TypeId} {slots engine : Int} {c d : Bool} (h : pathT (runL n e t slots engine) = some [c, d]) (hc : c = true) (hd : d = true) : TrueL n e t slots engine :=
  pathT_ok h (by
    intro b hb
    simp only [List.mem_cons, List.not_mem_nil, or_false] at hb
    rcases hb with rfl | rfl
    · exact hc
    · exact hd)
theorem five {x : Int} (h : 0 ≤ x ∧ x < 5) : x = 0 ∨ x = 1 ∨ x = 2 ∨ x = 3 ∨ x = 4 := by omega
theorem lays_true (t : Nat → TypeId) (slots engine : Int) : ∃ n e, TrueL n e t slots engine := by
  rcases five (remL_range slots) with hs | hs | hs | hs | hs
  · exact ⟨0, 0, one_way (lay_0 t slots engine) (lit_true hs)⟩
  · rcases five (remL_range engine) with he | he | he | he | he
    · exact ⟨1, 0, two_way (lay_1_0 t slots engine) (lit_true hs) (lit_true he)⟩
    · exact ⟨1, 1, two_way (lay_1_1 t slots engine) (lit_true hs) (lit_true he)⟩
    · exact ⟨1, 2, two_way (lay_1_2 t slots engine) (lit_true hs) (lit_true he)⟩
    · exact ⟨1, 3, two_way (lay_1_3 t slots engine) (lit_true hs) (lit_true he)⟩
    · exact ⟨1, 4, two_way (lay_1_4 t slots engine) (lit_true hs) (lit_true he)⟩
  · rcases five (remL_range engine) with he | he | he | he | he
    · exact ⟨2, 0, two_way (lay_2_0 t slots engine) (lit_true hs) (lit_true he)⟩
    · exact ⟨2, 1, two_way (lay_2_1 t slots engine) (lit_true hs) (lit_true he)⟩
    · exact ⟨2, 2, two_way (lay_2_2 t slots engine) (lit_true hs) (lit_true he)⟩
    · exact ⟨2, 3, two_way (lay_2_3 t slots engine) (lit_true hs) (lit_true he)⟩
    · exact ⟨2, 4, two_way (lay_2_4 t slots engine) (lit_true hs) (lit_true he)⟩
  · rcases five (remL_range engine) with he | he | he | he | he
    · exact ⟨3, 0, two_way (lay_3_0 t slots engine) (lit_true hs) (lit_true he)⟩
    · exact ⟨3, 1, two_way (lay_3_1 t slots engine) (lit_true hs) (lit_true he)⟩
    · exact ⟨3, 2, two_way (lay_3_2 t slots engine) (lit_true hs) (lit_true he)⟩
    · exact ⟨3, 3, two_way (lay_3_3 t slots engine) (lit_true hs) (lit_true he)⟩
    · exact ⟨3, 4, two_way (lay_3_4 t slots engine) (lit_true hs) (lit_true he)⟩
  · rcases five (remL_range engine) with he | he | he | he | he
    · exact ⟨4, 0, two_way (lay_4_0 t slots engine) (lit_true hs) (lit_true he)⟩
    · exact ⟨4, 1, two_way (lay_4_1 t slots engine) (lit_true hs) (lit_true he)⟩
    · exact ⟨4, 2, two_way (lay_4_2 t slots engine) (lit_true hs) (lit_true he)⟩
    · exact ⟨4, 3, two_way (lay_4_3 t slots engine) (lit_true hs) (lit_true he)⟩
    · exact ⟨4, 4, two_way (lay_4_4 t slots engine) (lit_true hs) (lit_true he)⟩

theorem ownL : ownKnob Tryz.prog.godebug = none := by kernel_rfl
theorem laidOutL : laidOutB Tryz.prog = true := by kernel_rfl
theorem star171 : "*" ++ "errors.errorString" = "*errors.errorString" := by decide
theorem row171 (u : TypeId) (h : Tryz.prog.typeName? 3 u = some "*errors.errorString") : u = 171 :=
  typeName_ptr_named (nm := "errors.errorString") (by rw [star171]; kernel_rfl) (by kernel_rfl) (by decide) u (by rw [star171]; exact h)

def laidTextsL : List (String × List UInt8) := [("sexton/api.ErrArg", [97, 110, 32, 97, 114, 103, 117, 109, 101, 110, 116, 32, 116, 104, 97, 116, 32, 99, 97, 110, 39, 116, 32, 98, 101]), ("sexton/api.ErrNil", [97, 32, 110, 105, 108, 32, 116, 104, 105, 110, 103]), ("sexton/api.ErrFull", [110, 111, 32, 114, 111, 111, 109]), ("sexton/api.ErrState", [110, 111, 116, 32, 110, 111, 119]), ("sexton/api.ErrFreed", [97, 32, 115, 108, 111, 116, 32, 116, 104, 97, 116, 32, 105, 115, 32, 102, 114, 101, 101]), ("sexton/api.ErrStale", [97, 32, 115, 108, 111, 116, 32, 116, 104, 97, 116, 32, 105, 115, 32, 97, 110, 111, 116, 104, 101, 114, 32, 111, 110, 101, 32, 110, 111, 119]), ("sexton/api.ErrTwice", [100, 111, 110, 101, 32, 97, 108, 114, 101, 97, 100, 121]), ("sexton/api.ErrLeft", [97, 32, 102, 114, 101, 101, 32, 115, 108, 111, 116, 32, 116, 104, 97, 116, 32, 99, 97, 110, 32, 98, 101, 32, 114, 101, 97, 99, 104, 101, 100])]
theorem laidRowL : Rows.cortegeLaysRow.laid = laidL "*errors.errorString" laidTextsL := rfl

/-- WHAT THE ROW's LIST GIVES: where the errors lie. -/
theorem sentsL {W : World} (h : laidMet Tryz.prog Rows.cortegeLaysRow.laid W) : ∃ (t : Nat → TypeId) (a : Nat → Addr), Sents W 171 8 (fun i => i) t a := by
  rw [laidRowL] at h
  refine sents_of_laid (ti := 26) (te := 196) Tryz.underlying26 row171 Tryz.underlying171 Tryz.underlying196 rfl rfl (by kernel_rfl) (by kernel_rfl) (by kernel_rfl) h ?_
  intro i hi
  match i, hi with
  | 0, _ => exact ⟨("sexton/api.ErrArg", [97, 110, 32, 97, 114, 103, 117, 109, 101, 110, 116, 32, 116, 104, 97, 116, 32, 99, 97, 110, 39, 116, 32, 98, 101]), by simp [laidTextsL], by kernel_rfl, by kernel_rfl⟩
  | 1, _ => exact ⟨("sexton/api.ErrFull", [110, 111, 32, 114, 111, 111, 109]), by simp [laidTextsL], by kernel_rfl, by kernel_rfl⟩
  | 2, _ => exact ⟨("sexton/api.ErrNil", [97, 32, 110, 105, 108, 32, 116, 104, 105, 110, 103]), by simp [laidTextsL], by kernel_rfl, by kernel_rfl⟩
  | 3, _ => exact ⟨("sexton/api.ErrLeft", [97, 32, 102, 114, 101, 101, 32, 115, 108, 111, 116, 32, 116, 104, 97, 116, 32, 99, 97, 110, 32, 98, 101, 32, 114, 101, 97, 99, 104, 101, 100]), by simp [laidTextsL], by kernel_rfl, by kernel_rfl⟩
  | 4, _ => exact ⟨("sexton/api.ErrFreed", [97, 32, 115, 108, 111, 116, 32, 116, 104, 97, 116, 32, 105, 115, 32, 102, 114, 101, 101]), by simp [laidTextsL], by kernel_rfl, by kernel_rfl⟩
  | 5, _ => exact ⟨("sexton/api.ErrTwice", [100, 111, 110, 101, 32, 97, 108, 114, 101, 97, 100, 121]), by simp [laidTextsL], by kernel_rfl, by kernel_rfl⟩
  | 6, _ => exact ⟨("sexton/api.ErrStale", [97, 32, 115, 108, 111, 116, 32, 116, 104, 97, 116, 32, 105, 115, 32, 97, 110, 111, 116, 104, 101, 114, 32, 111, 110, 101, 32, 110, 111, 119]), by simp [laidTextsL], by kernel_rfl, by kernel_rfl⟩
  | 7, _ => exact ⟨("sexton/api.ErrState", [110, 111, 116, 32, 110, 111, 119]), by simp [laidTextsL], by kernel_rfl, by kernel_rfl⟩
  | i + 8, hi => omega

/-- THE CALL, FOR EVERY ARGUMENT. -/
theorem walkL {W : World} (hL : laidMet Tryz.prog Rows.cortegeLaysRow.laid W) (slots engine : Int) : Calls Tryz.prog 3 #[.int .i64 slots, .int .i64 engine] W fun e w' => e = .returned (.bool true) ∧ Keeps (fun _ => False) W w' := by
  obtain ⟨t, a, hs⟩ := sentsL hL
  obtain ⟨n, e, h', hh⟩ := lays_true t slots engine
  unfold runL at hh
  refine sent_call (E := EL n e) (callL n e 1000 40) hs (fun x i hi => ?_) (vals := [.int .i64 slots, .int .i64 engine]) rfl hh
  have hi : look [(0, 0), (1, 1), (2, 2), (3, 3), (4, 4), (5, 5), (6, 6), (7, 7)] x = some i := hi
  have := look_mem hi
  simp only [List.mem_cons, List.not_mem_nil, or_false, Prod.mk.injEq] at this
  rcases this with ⟨rfl, rfl⟩ | ⟨rfl, rfl⟩ | ⟨rfl, rfl⟩ | ⟨rfl, rfl⟩ | ⟨rfl, rfl⟩ | ⟨rfl, rfl⟩ | ⟨rfl, rfl⟩ | ⟨rfl, rfl⟩ <;> exact ⟨by omega, rfl⟩

theorem below_ofL {W W' : World} (h : Keeps (fun _ => False) W W') : Below W.heap.size W W' := ⟨h.os, h.tape, h.output, h.size, fun k hk => h.block k hk id⟩

set_option maxRecDepth 100000 in
/-- WHAT THE WALK GIVES, FOR EVERY ARGUMENT AND EVERY WORLD THAT HOLDS THE ERRORS. -/
theorem contractL (H : Type) (enc : TypeId × Value → H) (W : World) (args : Array Value) (ds gs : List (DataW H)) (before : List MemPlace)
    (hval : ∀ (j : Nat) t v, Tryz.f3.params[j]? = some t → args[j]? = some v → Value.okWide Tryz.prog W .any 0 t v)
    (hW : DataW.Whole enc Tryz.prog Tryz.f3.params.toList Rows.cortegeLaysSpec.vars false W args.toList ds gs before) (hL : laidMet Tryz.prog Rows.cortegeLaysRow.laid W) :
    Calls Tryz.prog 3 args W fun e W' => ∃ v, e = .returned v ∧ Rows.cortegeLaysSpec.post enc Tryz.prog Tryz.f3 false true false false W args v W' := by
  have hW' := hW
  obtain ⟨p, q, hA0, hV, rfl, hfz, hnd⟩ := hW
  have hA : DataW.TrodAll enc Tryz.prog W 0 (fun _ => true) true Tryz.f3.params.toList args.toList ds p := hA0
  rw [Tryz.params3] at hA hval
  obtain ⟨v0, vs0, d0, ds0, p0, q0, hargs, rfl, rfl, h0, r0⟩ := trodAll_cons hA
  obtain ⟨v1, vs1, d1, ds1, p1, q1, rfl, rfl, rfl, h1, r1⟩ := trodAll_cons r0
  obtain ⟨rfl, rfl, rfl⟩ := trodAll_nil r1
  obtain rfl : args = #[v0, v1] := by cases args; simp_all
  obtain ⟨rfl, rfl⟩ := trodVars_none hV
  have lt0 : ∀ x ∈ p0, x.block < W.heap.size := by obtain ⟨m, hm⟩ := h0; exact DataW.trod_lt m _ _ _ hm
  have lt1 : ∀ x ∈ p1, x.block < W.heap.size := by obtain ⟨m, hm⟩ := h1; exact DataW.trod_lt m _ _ _ hm
  obtain ⟨slots, rfl, _, _, _⟩ := open_int Tryz.underlying3 (hval 0 3 v0 rfl rfl) h0
  obtain ⟨engine, rfl, _, _, _⟩ := open_int Tryz.underlying3 (hval 1 3 v1 rfl rfl) h1
  refine (walkL hL slots engine).mono fun e W' ⟨he, hk⟩ => ?_
  have bel := below_ofL hk
  subst he
  exact ⟨_, rfl, _, _, _, [], _, [], hW', trodAll_mk1 (shut_bool Tryz.underlying4 _), (trodAll_cons_mk (Below.trod laidOutL (by kernel_rfl) (of_decide_eq_true (by kernel_rfl)) h0 bel lt0) (trodAll_cons_mk (Below.trod laidOutL (by kernel_rfl) (of_decide_eq_true (by kernel_rfl)) h1 bel lt1) trodAll_mk0)), rfl, bel.frame _, fun h => by cases h⟩

/-- A WORLD FOR THE WITNESS: the settled one, the errors laid. -/
noncomputable def lowL : Nat := (World.holding Tryz.prog default ⟨#[], #[], []⟩).heap.size
noncomputable def laidWorldL (os : Os) : World :=
  let w0 := World.holding Tryz.prog os ⟨#[.cells #[.string { data := #[97, 110, 32, 97, 114, 103, 117, 109, 101, 110, 116, 32, 116, 104, 97, 116, 32, 99, 97, 110, 39, 116, 32, 98, 101] }] 196, .cells #[.string { data := #[110, 111, 32, 114, 111, 111, 109] }] 196, .cells #[.string { data := #[97, 32, 110, 105, 108, 32, 116, 104, 105, 110, 103] }] 196, .cells #[.string { data := #[97, 32, 102, 114, 101, 101, 32, 115, 108, 111, 116, 32, 116, 104, 97, 116, 32, 99, 97, 110, 32, 98, 101, 32, 114, 101, 97, 99, 104, 101, 100] }] 196, .cells #[.string { data := #[97, 32, 115, 108, 111, 116, 32, 116, 104, 97, 116, 32, 105, 115, 32, 102, 114, 101, 101] }] 196, .cells #[.string { data := #[100, 111, 110, 101, 32, 97, 108, 114, 101, 97, 100, 121] }] 196, .cells #[.string { data := #[97, 32, 115, 108, 111, 116, 32, 116, 104, 97, 116, 32, 105, 115, 32, 97, 110, 111, 116, 104, 101, 114, 32, 111, 110, 101, 32, 110, 111, 119] }] 196, .cells #[.string { data := #[110, 111, 116, 32, 110, 111, 119] }] 196], #[], []⟩
  let w1 := { w0 with heap := w0.heap.modify 0 fun
      | .cells _ t frozen => .cells #[.iface 171 (.pointer (some ⟨lowL + 0, 0, none⟩))] t frozen
      | o => o }
  let w2 := { w1 with heap := w1.heap.modify 1 fun
      | .cells _ t frozen => .cells #[.iface 171 (.pointer (some ⟨lowL + 1, 0, none⟩))] t frozen
      | o => o }
  let w3 := { w2 with heap := w2.heap.modify 2 fun
      | .cells _ t frozen => .cells #[.iface 171 (.pointer (some ⟨lowL + 2, 0, none⟩))] t frozen
      | o => o }
  let w4 := { w3 with heap := w3.heap.modify 3 fun
      | .cells _ t frozen => .cells #[.iface 171 (.pointer (some ⟨lowL + 3, 0, none⟩))] t frozen
      | o => o }
  let w5 := { w4 with heap := w4.heap.modify 4 fun
      | .cells _ t frozen => .cells #[.iface 171 (.pointer (some ⟨lowL + 4, 0, none⟩))] t frozen
      | o => o }
  let w6 := { w5 with heap := w5.heap.modify 5 fun
      | .cells _ t frozen => .cells #[.iface 171 (.pointer (some ⟨lowL + 5, 0, none⟩))] t frozen
      | o => o }
  let w7 := { w6 with heap := w6.heap.modify 6 fun
      | .cells _ t frozen => .cells #[.iface 171 (.pointer (some ⟨lowL + 6, 0, none⟩))] t frozen
      | o => o }
  let w8 := { w7 with heap := w7.heap.modify 7 fun
      | .cells _ t frozen => .cells #[.iface 171 (.pointer (some ⟨lowL + 7, 0, none⟩))] t frozen
      | o => o }
  w8
noncomputable def argsL : Array Value := #[.int .i64 0, .int .i64 0]
theorem laid_metL (os : Os) : laidMet Tryz.prog Rows.cortegeLaysRow.laid ((laidWorldL os).forCall (fun _ _ => 0) ⟨#[], argsL, []⟩).memory :=
  laidMet_of_run (ps := [.cell 0 0, .cell (lowL + 0) 0, .cell 2 0, .cell (lowL + 2) 0, .cell 1 0, .cell (lowL + 1) 0, .cell 7 0, .cell (lowL + 7) 0, .cell 4 0, .cell (lowL + 4) 0, .cell 6 0, .cell (lowL + 6) 0, .cell 5 0, .cell (lowL + 5) 0, .cell 3 0, .cell (lowL + 3) 0]) 8 (by kernel_rfl) (by kernel_rfl) (by kernel_rfl)
theorem readsL (os : Os) {H : Type} (enc : TypeId × Value → H) : ∃ places, DataW.whole enc Tryz.prog ((laidWorldL os).forCall (fun _ _ => 0) ⟨#[], argsL, []⟩).memory Tryz.f3.params.toList Rows.cortegeLaysSpec.vars false argsL.toList 8 = some ([.lit (.int .i64 0), .lit (.int .i64 0)], [], places) :=
  ⟨[], by kernel_rfl⟩

set_option maxRecDepth 100000 in
theorem liftedL (os : Os) (started : os.Started) (H : Type) (enc : TypeId × Value → H) (F : Stop.Interp) :
    ReturnsInHanded {} Tryz.checked os 3 .any ((OpenSpec.ofChange Rows.cortegeLaysSpec).preRow enc Tryz.prog Tryz.f3 Rows.cortegeLaysRow.domain false Rows.cortegeLaysRow.laid) (((OpenSpec.ofChange Rows.cortegeLaysSpec).at F).post enc Tryz.prog Tryz.f3 false true false false) := by
  obtain ⟨places, hx⟩ := readsL os enc
  refine returnsInHanded_of_row (C := Tryz.checked) (s := OpenSpec.ofChange Rows.cortegeLaysSpec) ownL started (by kernel_rfl) Tryz.func3
    (witness_row_at (enc := enc) (C := Tryz.checked) false (laidWorldL os) argsL rfl (by kernel_rfl) (by kernel_rfl) (by kernel_rfl)
      (OpenSpec.preRow_of_cond 8 hx (by kernel_rfl) (fun k hk => by cases hk) (by kernel_rfl) (laid_metL os))) ?_
  intro W base args ds gs before hval hW _ _ _ hL _ _
  exact contractL H enc W args ds gs before (fun j t v h1 h2 => hval j t v h1 h2) hW hL

theorem saidL : Rows.CortegeLaysSaid :=
  OpenClaim.holds_of_cond 3 Tryz.f3 rfl rfl rfl rfl rfl rfl rfl ⟨rfl, rfl, rfl, rfl, rfl⟩ rfl rfl rfl rfl rfl (by kernel_rfl) Tryz.func3 (by kernel_rfl)
    (of_decide_eq_true (by kernel_rfl)) (by unfold Func.isWrapper; first | (rw [if_pos (by decide +kernel)]; kernel_rfl) | (rw [if_neg (by decide +kernel)]; exact ⟨rfl, rfl⟩))
    (fun os started H enc _ F => by rw [OpenClaim.pre_eq_preRow]; exact liftedL os started H enc F)

/-- No parameter wants a stand-in; the program's own looks are off: what the card asks. -/
theorem plainL (f : FuncId) (fn : Func) (hf : Tryz.pinned.checked.prog.funcNamed "sexton/sextonlaw08.CortegeLays" = some f) (hfn : Tryz.pinned.checked.prog.funcs[f]? = some fn) :
    true = Tryz.pinned.checked.prog.looks [] ∧ ∀ (j : Nat) t, fn.params[j]? = some t → Tryz.pinned.checked.prog.wantsStandIn t = false := by
  obtain rfl : f = 3 := Option.some.inj ((show Tryz.prog.funcNamed "sexton/sextonlaw08.CortegeLays" = some 3 by kernel_rfl).symm.trans hf) |>.symm
  obtain rfl : fn = Tryz.f3 := (Option.some.inj (Tryz.func3.symm.trans hfn)).symm
  refine ⟨by kernel_rfl, fun j t ht => ?_⟩
  rw [Tryz.params3] at ht
  have hm := Array.mem_of_getElem? ht
  simp only [List.mem_toArray, List.mem_cons, List.not_mem_nil, or_false] at hm
  rcases hm with rfl | rfl <;> exact (show Tryz.prog.wantsStandIn 3 = false by kernel_rfl)

/-- THE CARD. -/
theorem cardL : Rows.CortegeLaysCardSaid :=
  Claim7.holds_tied_plain_at .later [] _ _ _ _ saidL (fun _ h => by cases h) (by kernel_rfl) (fun _ h => by cases h) cortegeLays_row_tie rfl ⟨rfl, rfl⟩ (by kernel_rfl) rfl plainL (by kernel_rfl)
end Go.Vse
namespace Go.Proofs.YtpmoieekpalheaaGreatDoor
/-- The card, under the seat's name. -/
theorem cortegeLays_card : Rows.CortegeLaysCardSaid := Go.Vse.cardL
end Go.Proofs.YtpmoieekpalheaaGreatDoor
#print axioms Go.Proofs.YtpmoieekpalheaaGreatDoor.cortegeLays_card
