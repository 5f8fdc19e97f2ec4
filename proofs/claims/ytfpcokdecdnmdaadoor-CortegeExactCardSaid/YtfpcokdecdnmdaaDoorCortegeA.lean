/- CortegeExact, first part: each round of its loop brings the queue's job and the document's job from one pair of states that belong together to another, and their calls are the same. -/
import Derived.Test.YtfpcokdecdnmdaaDoorVseQ
import Derived.Test.YtfpcokdecdnmdaaDoorProg
import Derived.KernelRfl
namespace Go.Vse
open Go Go.Proofs

theorem eval_ite {K : Kit} {α : Type} (b : Bool) (l r : Out (std K) α) : (Out.ite (τ := std K) b l r).eval = if b = true then l.eval else r.eval := by cases b <;> rfl
theorem eval_leaf {K : Kit} {α : Type} (a : α) : (Out.leaf (τ := std K) a).eval = some a := rfl
theorem eval_fail {K : Kit} {α : Type} (s : String) : (Out.fail (τ := std K) (α := α) s).eval = none := rfl
theorem eval_map {K : Kit} {α β : Type} (f : α → β) : ∀ (t : Out (std K) α), (t.map f).eval = t.eval.map f
  | .leaf a => rfl
  | .ite b l r => by cases b <;> simp [Out.map, Out.eval, eval_map f]
  | .fail s => rfl

def theLoop : Code → Option Code
 | .loop c => some c
 | .seq a b => (theLoop a).orElse fun _ => theLoop b
 | .block _ c => theLoop c
 | .scope c => theLoop c
 | _ => none

structure S8 where
  k : Int
  key : Int
  val : Int
  tall : Int
  pc : Int
  line : Int
  O : Word
  H : Word
  T : Word
  N : Word
  num : Int
  i : Int
  fin : Option Ans

def li (n : Int) : SC PS := .int .i64 (.lit n)
def zCall : List (SC PS) := [li 0, li 0, li 0, li 0, li 0, li 0, li 0, li 0, .bool (.lit false), li 0, li 0, li 0, li 0, .bool (.lit false), li 0, li 0, li 0, li 0]
def eCall (a : Ans) : List (SC PS) := [li 12, li 0, li 0, li 0, li 0, li 0, li 0, li 0, .bool (.lit false), li 0, li 0, li 0, li 0, .bool (.lit false), li 0, li 0, ci a.code, ci a.val]
def st8 (TR : TypeId) (R : List Reply) (s : S8) : List (Nat × ST PS) × Heap PS :=
  ([(1, .one (.slc 1 none)), (5, .one (.ptr 2 [] 0)), (7, .one (.ptr 3 [] 0)), (8, .one (ci s.i))],
   ⟨(match s.fin with | none => 4 | some _ => 5),
    [(1, .ro TR 6 (.opn (.replies R))),
     (2, .cells (s.H.sc ++ s.T.sc ++ s.N.sc ++ [li s.k, ci s.key, ci s.val, ci s.tall, li s.pc] ++ s.O.sc ++ [ci s.num, match s.fin with | none => .nil | some _ => .ptr 4 [] 0]) 73),
     (3, .cells ([li s.k, ci s.key, ci s.val, ci s.tall, li s.line] ++ s.O.sc ++ s.H.sc ++ s.T.sc ++ s.N.sc ++ [ci s.num] ++ (match s.fin with | none => zCall | some a => eCall a)) 75)] ++
     (match s.fin with | none => [] | some a => [(4, .cells (eCall a) 41)])⟩)

noncomputable def Eb : Env PS := ⟨Tryd.prog, arS, [(0, 0)], fun _ => none, fun _ _ => none⟩
noncomputable def E0 : Env PS := withIs Eb 11 23 206
noncomputable def lawBody : Code := match Tryd.f3.body with
  | some c => c
  | none => .skip
noncomputable def loopBody : Code := match theLoop lawBody with
  | some c => c
  | none => .skip
noncomputable def run8 (x : List (Nat × ST PS) × Heap PS) : Ran PS := execC E0 3 (callN E0 100 40) 62 100 loopBody x.1 x.2
noncomputable def body8 (TR : TypeId) (R : List Reply) (s : S8) : Out PS (Ex × Option (List (Nat × ST PS) × Heap PS)) := (run8 (st8 TR R s)).map fun (ex, tm, h) => (ex, match ex with | .normal => canonO E0 [0] [1, 5, 7, 8] tm h | _ => none)

def pairs8 : List (Int × Int × Int) := [(4,0,0),(4,1,1),(4,2,2),(4,3,3),(4,5,4),(4,6,5),(4,7,7),(4,8,6),(4,9,8),(5,0,0),(5,3,1),(5,4,2),(5,5,3),(5,6,4),(5,8,5),(5,10,6),(5,11,7),(5,12,8)]
def V8 (s : S8) : Prop := 0 ≤ s.i ∧ s.i ≤ 100 ∧ ((s.fin = none ∧ (s.k, s.pc, s.line) ∈ pairs8) ∨ (∃ a, s.fin = some a) ∧ s.line = 9)
def μ8 (s : S8) : Nat := (100 - s.i).toNat
def GoodT (TR : TypeId) (R : List Reply) (s : S8) (t : Out PS (Ex × Option (List (Nat × ST PS) × Heap PS))) : Prop := ∃ q, t.eval = some q ∧ (q.1 = .exit 0 ∨ q.1 = .normal ∧ ∃ s', V8 s' ∧ μ8 s' < μ8 s ∧ q.2 = some (openS arS (st8 TR R s')))
def Good8 (TR : TypeId) (R : List Reply) (s : S8) : Prop := GoodT TR R s (body8 TR R s)
theorem GoodT.ite {TR : TypeId} {R : List Reply} {s : S8} {b : Bool} {l r : Out PS (Ex × Option (List (Nat × ST PS) × Heap PS))} (hl : b = true → GoodT TR R s l) (hr : b = false → GoodT TR R s r) : GoodT TR R s (.ite b l r) := by
  cases b with
  | true => exact hl rfl
  | false => exact hr rfl
theorem GoodT.exit {TR : TypeId} {R : List Reply} {s : S8} {o : Option (List (Nat × ST PS) × Heap PS)} : GoodT TR R s (.leaf (.exit 0, o)) := ⟨_, rfl, .inl rfl⟩

theorem add_one {i : Int} (h0 : 0 ≤ i) (h1 : i < 100) : arithZ .add .i64 i 1 = i + 1 := by
  simp only [arithZ, IntKind.wrap]
  simp [IntKind.bits, IntKind.signed]
  omega

theorem GoodT.on {TR : TypeId} {R : List Reply} {s s' : S8} (h0 : 0 ≤ s.i) (h1 : s.i < 100) (hi : s'.i = arithZ .add .i64 s.i 1) (hf : (s'.fin = none ∧ (s'.k, s'.pc, s'.line) ∈ pairs8) ∨ (∃ a, s'.fin = some a) ∧ s'.line = 9) : GoodT TR R s (.leaf (.normal, some (openS arS (st8 TR R s')))) := by
  rw [add_one h0 h1] at hi
  exact ⟨_, rfl, .inr ⟨rfl, s', ⟨by omega, by omega, hf⟩, by simp only [μ8]; omega, rfl⟩⟩

theorem tree_4_0_0 (TR : TypeId) (R : List Reply) (key val tall num i : Int) (H T N O : Word) : body8 TR R ⟨4, key, val, tall, 0, 0, O, H, T, N, num, i, none⟩ = (.ite (cmpZ .lss i (R.length : Int)) (.ite (cmpZ .lss i (100 : Int)) (.ite (cmpZ .leq (0 : Int) i) (.ite (cmpZ .lss i (R.length : Int)) (.ite (cmpZ .leq (0 : Int) i) (.ite (cmpZ .lss i (R.length : Int)) (.leaf (.normal, some (openS arS (st8 TR R ⟨(4 : Int), key, val, tall, (1 : Int), (1 : Int), ⟨O.slot, O.gen, O.tag, O.num, O.mark⟩, ⟨H.slot, H.gen, H.tag, H.num, H.mark⟩, ⟨T.slot, T.gen, T.tag, T.num, T.mark⟩, ⟨N.slot, N.gen, N.tag, N.num, N.mark⟩, num, (arithZ .add .i64 i (1 : Int)), none⟩)))) (.fail "index out of range")) (.fail "index out of range")) (.fail "index out of range")) (.fail "index out of range")) (.leaf ((.exit 0), none))) (.leaf ((.exit 0), none))) := by kernel_rfl
theorem step_4_0_0 (TR : TypeId) (R : List Reply) (key val tall num i : Int) (H T N O : Word) (h0 : 0 ≤ i) (h1 : i ≤ 100) : Good8 TR R ⟨4, key, val, tall, 0, 0, O, H, T, N, num, i, none⟩ := by
  rw [Good8, tree_4_0_0]
  repeat' (first | exact GoodT.exit | refine GoodT.ite (fun _ => ?_) (fun _ => ?_))
  all_goals simp only [cmpZ, Bool.not_eq_true, Bool.not_eq_true', Bool.and_eq_true, beq_iff_eq, bne_iff_ne, decide_eq_true_eq, decide_eq_false_iff_not, Bool.and_eq_false_imp, bne_eq_false_iff_eq] at *
  all_goals first
    | (refine GoodT.on (by assumption) (by assumption) rfl ?_; first | exact .inl ⟨rfl, by simp [pairs8]⟩ | exact .inr ⟨⟨_, rfl⟩, rfl⟩)
    | (exfalso; first | omega | (simp_all; done) | grind)

theorem tree_4_1_1 (TR : TypeId) (R : List Reply) (key val tall num i : Int) (H T N O : Word) : body8 TR R ⟨4, key, val, tall, 1, 1, O, H, T, N, num, i, none⟩ = (.ite (cmpZ .lss i (R.length : Int)) (.ite (cmpZ .lss i (100 : Int)) (.ite (cmpZ .leq (0 : Int) i) (.ite (cmpZ .lss i (R.length : Int)) (.ite (!(R.getD i.toNat default).ok) (.ite (cmpZ .leq (0 : Int) i) (.ite (cmpZ .lss i (R.length : Int)) (.ite (!(R.getD i.toNat default).ok) (.leaf (.normal, some (openS arS (st8 TR R ⟨(4 : Int), key, val, tall, (1 : Int), (9 : Int), ⟨O.slot, O.gen, O.tag, O.num, O.mark⟩, ⟨H.slot, H.gen, H.tag, H.num, H.mark⟩, ⟨T.slot, T.gen, T.tag, T.num, T.mark⟩, ⟨N.slot, N.gen, N.tag, N.num, N.mark⟩, num, (arithZ .add .i64 i (1 : Int)), (some ⟨(4 : Int), (0 : Int)⟩)⟩)))) (.leaf (.ret, none))) (.fail "index out of range")) (.fail "index out of range")) (.ite (cmpZ .leq (0 : Int) i) (.ite (cmpZ .lss i (R.length : Int)) (.ite (!(R.getD i.toNat default).ok) (.leaf (.ret, none)) (.ite (!(((cmpZ .eql (R.getD i.toNat default).word.slot (R.getD i.toNat default).word.slot) && (cmpZ .eql (R.getD i.toNat default).word.gen (R.getD i.toNat default).word.gen)) && (cmpZ .eql val val))) (.leaf (.ret, none)) (.leaf (.normal, some (openS arS (st8 TR R ⟨(4 : Int), key, val, tall, (2 : Int), (2 : Int), ⟨(R.getD i.toNat default).word.slot, (R.getD i.toNat default).word.gen, (R.getD i.toNat default).word.tag, (R.getD i.toNat default).word.num, (R.getD i.toNat default).word.mark⟩, ⟨H.slot, H.gen, H.tag, H.num, H.mark⟩, ⟨T.slot, T.gen, T.tag, T.num, T.mark⟩, ⟨N.slot, N.gen, N.tag, N.num, N.mark⟩, num, (arithZ .add .i64 i (1 : Int)), none⟩)))))) (.fail "index out of range")) (.fail "index out of range"))) (.fail "index out of range")) (.fail "index out of range")) (.leaf ((.exit 0), none))) (.leaf ((.exit 0), none))) := by kernel_rfl
theorem step_4_1_1 (TR : TypeId) (R : List Reply) (key val tall num i : Int) (H T N O : Word) (h0 : 0 ≤ i) (h1 : i ≤ 100) : Good8 TR R ⟨4, key, val, tall, 1, 1, O, H, T, N, num, i, none⟩ := by
  rw [Good8, tree_4_1_1]
  repeat' (first | exact GoodT.exit | refine GoodT.ite (fun _ => ?_) (fun _ => ?_))
  all_goals simp only [cmpZ, Bool.not_eq_true, Bool.not_eq_true', Bool.and_eq_true, beq_iff_eq, bne_iff_ne, decide_eq_true_eq, decide_eq_false_iff_not, Bool.and_eq_false_imp, bne_eq_false_iff_eq] at *
  all_goals first
    | (refine GoodT.on (by assumption) (by assumption) rfl ?_; first | exact .inl ⟨rfl, by simp [pairs8]⟩ | exact .inr ⟨⟨_, rfl⟩, rfl⟩)
    | (exfalso; first | omega | (simp_all; done) | grind)

theorem tree_4_2_2 (TR : TypeId) (R : List Reply) (key val tall num i : Int) (H T N O : Word) : body8 TR R ⟨4, key, val, tall, 2, 2, O, H, T, N, num, i, none⟩ = (.ite (cmpZ .lss i (R.length : Int)) (.ite (cmpZ .lss i (100 : Int)) (.ite (cmpZ .leq (0 : Int) i) (.ite (cmpZ .lss i (R.length : Int)) (.ite (cmpZ .leq (0 : Int) i) (.ite (cmpZ .lss i (R.length : Int)) (.leaf (.normal, some (openS arS (st8 TR R ⟨(4 : Int), key, val, tall, (3 : Int), (3 : Int), ⟨O.slot, O.gen, O.tag, O.num, O.mark⟩, ⟨H.slot, H.gen, H.tag, H.num, H.mark⟩, ⟨T.slot, T.gen, T.tag, T.num, T.mark⟩, ⟨N.slot, N.gen, N.tag, N.num, N.mark⟩, num, (arithZ .add .i64 i (1 : Int)), none⟩)))) (.fail "index out of range")) (.fail "index out of range")) (.fail "index out of range")) (.fail "index out of range")) (.leaf ((.exit 0), none))) (.leaf ((.exit 0), none))) := by kernel_rfl
theorem step_4_2_2 (TR : TypeId) (R : List Reply) (key val tall num i : Int) (H T N O : Word) (h0 : 0 ≤ i) (h1 : i ≤ 100) : Good8 TR R ⟨4, key, val, tall, 2, 2, O, H, T, N, num, i, none⟩ := by
  rw [Good8, tree_4_2_2]
  repeat' (first | exact GoodT.exit | refine GoodT.ite (fun _ => ?_) (fun _ => ?_))
  all_goals simp only [cmpZ, Bool.not_eq_true, Bool.not_eq_true', Bool.and_eq_true, beq_iff_eq, bne_iff_ne, decide_eq_true_eq, decide_eq_false_iff_not, Bool.and_eq_false_imp, bne_eq_false_iff_eq] at *
  all_goals first
    | (refine GoodT.on (by assumption) (by assumption) rfl ?_; first | exact .inl ⟨rfl, by simp [pairs8]⟩ | exact .inr ⟨⟨_, rfl⟩, rfl⟩)
    | (exfalso; first | omega | (simp_all; done) | grind)

theorem tree_4_3_3 (TR : TypeId) (R : List Reply) (key val tall num i : Int) (H T N O : Word) : body8 TR R ⟨4, key, val, tall, 3, 3, O, H, T, N, num, i, none⟩ = (.ite (cmpZ .lss i (R.length : Int)) (.ite (cmpZ .lss i (100 : Int)) (.ite (cmpZ .leq (0 : Int) i) (.ite (cmpZ .lss i (R.length : Int)) (.ite (cmpZ .leq (0 : Int) i) (.ite (cmpZ .lss i (R.length : Int)) (.ite (!((cmpZ .eql (R.getD i.toNat default).word.slot (R.getD i.toNat default).word.slot) && (cmpZ .eql (R.getD i.toNat default).word.gen (R.getD i.toNat default).word.gen))) (.leaf (.ret, none)) (.leaf (.normal, some (openS arS (st8 TR R ⟨(4 : Int), key, val, tall, (5 : Int), (4 : Int), ⟨O.slot, O.gen, O.tag, O.num, O.mark⟩, ⟨H.slot, H.gen, H.tag, H.num, H.mark⟩, ⟨(R.getD i.toNat default).word.slot, (R.getD i.toNat default).word.gen, (R.getD i.toNat default).word.tag, (R.getD i.toNat default).word.num, (R.getD i.toNat default).word.mark⟩, ⟨N.slot, N.gen, N.tag, N.num, N.mark⟩, num, (arithZ .add .i64 i (1 : Int)), none⟩))))) (.fail "index out of range")) (.fail "index out of range")) (.fail "index out of range")) (.fail "index out of range")) (.leaf ((.exit 0), none))) (.leaf ((.exit 0), none))) := by kernel_rfl
theorem step_4_3_3 (TR : TypeId) (R : List Reply) (key val tall num i : Int) (H T N O : Word) (h0 : 0 ≤ i) (h1 : i ≤ 100) : Good8 TR R ⟨4, key, val, tall, 3, 3, O, H, T, N, num, i, none⟩ := by
  rw [Good8, tree_4_3_3]
  repeat' (first | exact GoodT.exit | refine GoodT.ite (fun _ => ?_) (fun _ => ?_))
  all_goals simp only [cmpZ, Bool.not_eq_true, Bool.not_eq_true', Bool.and_eq_true, beq_iff_eq, bne_iff_ne, decide_eq_true_eq, decide_eq_false_iff_not, Bool.and_eq_false_imp, bne_eq_false_iff_eq] at *
  all_goals first
    | (refine GoodT.on (by assumption) (by assumption) rfl ?_; first | exact .inl ⟨rfl, by simp [pairs8]⟩ | exact .inr ⟨⟨_, rfl⟩, rfl⟩)
    | (exfalso; first | omega | (simp_all; done) | grind)

theorem tree_4_5_4 (TR : TypeId) (R : List Reply) (key val tall num i : Int) (H T N O : Word) : body8 TR R ⟨4, key, val, tall, 5, 4, O, H, T, N, num, i, none⟩ = (.ite (cmpZ .lss i (R.length : Int)) (.ite (cmpZ .lss i (100 : Int)) (.ite (cmpZ .leq (0 : Int) i) (.ite (cmpZ .lss i (R.length : Int)) (.ite (cmpZ .leq (0 : Int) i) (.ite (cmpZ .lss i (R.length : Int)) (.leaf (.normal, some (openS arS (st8 TR R ⟨(4 : Int), key, val, tall, (6 : Int), (5 : Int), ⟨O.slot, O.gen, O.tag, O.num, O.mark⟩, ⟨H.slot, H.gen, H.tag, H.num, H.mark⟩, ⟨T.slot, T.gen, T.tag, T.num, T.mark⟩, ⟨(R.getD i.toNat default).word.slot, (R.getD i.toNat default).word.gen, (R.getD i.toNat default).word.tag, (R.getD i.toNat default).word.num, (R.getD i.toNat default).word.mark⟩, num, (arithZ .add .i64 i (1 : Int)), none⟩)))) (.fail "index out of range")) (.fail "index out of range")) (.fail "index out of range")) (.fail "index out of range")) (.leaf ((.exit 0), none))) (.leaf ((.exit 0), none))) := by kernel_rfl
theorem step_4_5_4 (TR : TypeId) (R : List Reply) (key val tall num i : Int) (H T N O : Word) (h0 : 0 ≤ i) (h1 : i ≤ 100) : Good8 TR R ⟨4, key, val, tall, 5, 4, O, H, T, N, num, i, none⟩ := by
  rw [Good8, tree_4_5_4]
  repeat' (first | exact GoodT.exit | refine GoodT.ite (fun _ => ?_) (fun _ => ?_))
  all_goals simp only [cmpZ, Bool.not_eq_true, Bool.not_eq_true', Bool.and_eq_true, beq_iff_eq, bne_iff_ne, decide_eq_true_eq, decide_eq_false_iff_not, Bool.and_eq_false_imp, bne_eq_false_iff_eq] at *
  all_goals first
    | (refine GoodT.on (by assumption) (by assumption) rfl ?_; first | exact .inl ⟨rfl, by simp [pairs8]⟩ | exact .inr ⟨⟨_, rfl⟩, rfl⟩)
    | (exfalso; first | omega | (simp_all; done) | grind)

theorem tree_4_6_5 (TR : TypeId) (R : List Reply) (key val tall num i : Int) (H T N O : Word) : body8 TR R ⟨4, key, val, tall, 6, 5, O, H, T, N, num, i, none⟩ = (.ite (cmpZ .lss i (R.length : Int)) (.ite (cmpZ .lss i (100 : Int)) (.ite (cmpZ .leq (0 : Int) i) (.ite (cmpZ .lss i (R.length : Int)) (.ite (!((cmpZ .eql (R.getD i.toNat default).word.slot T.slot) && ((cmpZ .eql (R.getD i.toNat default).word.gen (R.getD i.toNat default).word.gen) && ((cmpZ .eql (R.getD i.toNat default).word.tag T.tag) && ((cmpZ .eql (R.getD i.toNat default).word.num T.num) && ((R.getD i.toNat default).word.mark == T.mark)))))) (.ite (cmpZ .leq (0 : Int) i) (.ite (cmpZ .lss i (R.length : Int)) (.ite ((cmpZ .eql (R.getD i.toNat default).word.slot T.slot) && ((cmpZ .eql (R.getD i.toNat default).word.tag T.tag) && ((cmpZ .eql (R.getD i.toNat default).word.num T.num) && ((R.getD i.toNat default).word.mark == T.mark)))) (.ite (cmpZ .neq N.slot (0 : Int)) (.leaf (.ret, none)) (.ite ((cmpZ .eql (R.getD i.toNat default).word.slot T.slot) && ((cmpZ .eql (R.getD i.toNat default).word.tag T.tag) && ((cmpZ .eql (R.getD i.toNat default).word.num T.num) && ((R.getD i.toNat default).word.mark == T.mark)))) (.leaf (.ret, none)) (.leaf (.normal, some (openS arS (st8 TR R ⟨(4 : Int), key, val, tall, (3 : Int), (3 : Int), ⟨O.slot, O.gen, O.tag, O.num, O.mark⟩, ⟨H.slot, H.gen, H.tag, H.num, H.mark⟩, ⟨T.slot, T.gen, T.tag, T.num, T.mark⟩, ⟨N.slot, N.gen, N.tag, N.num, N.mark⟩, num, (arithZ .add .i64 i (1 : Int)), none⟩)))))) (.ite ((cmpZ .eql (R.getD i.toNat default).word.slot T.slot) && ((cmpZ .eql (R.getD i.toNat default).word.tag T.tag) && ((cmpZ .eql (R.getD i.toNat default).word.num T.num) && ((R.getD i.toNat default).word.mark == T.mark)))) (.leaf (.ret, none)) (.leaf (.normal, some (openS arS (st8 TR R ⟨(4 : Int), key, val, tall, (3 : Int), (3 : Int), ⟨O.slot, O.gen, O.tag, O.num, O.mark⟩, ⟨H.slot, H.gen, H.tag, H.num, H.mark⟩, ⟨T.slot, T.gen, T.tag, T.num, T.mark⟩, ⟨N.slot, N.gen, N.tag, N.num, N.mark⟩, num, (arithZ .add .i64 i (1 : Int)), none⟩)))))) (.fail "index out of range")) (.fail "index out of range")) (.ite (cmpZ .eql N.slot (0 : Int)) (.ite (cmpZ .leq (0 : Int) i) (.ite (cmpZ .lss i (R.length : Int)) (.ite ((cmpZ .eql (R.getD i.toNat default).word.slot T.slot) && ((cmpZ .eql (R.getD i.toNat default).word.tag T.tag) && ((cmpZ .eql (R.getD i.toNat default).word.num T.num) && ((R.getD i.toNat default).word.mark == T.mark)))) (.ite (cmpZ .neq N.slot (0 : Int)) (.leaf (.ret, none)) (.ite ((cmpZ .eql (R.getD i.toNat default).word.slot T.slot) && ((cmpZ .eql (R.getD i.toNat default).word.tag T.tag) && ((cmpZ .eql (R.getD i.toNat default).word.num T.num) && ((R.getD i.toNat default).word.mark == T.mark)))) (.ite (!(((cmpZ .eql T.slot T.slot) && (cmpZ .eql T.gen T.gen)) && (((cmpZ .eql N.slot N.slot) && ((cmpZ .eql N.gen N.gen) && ((cmpZ .eql N.tag N.tag) && ((cmpZ .eql N.num N.num) && (N.mark == N.mark))))) && ((cmpZ .eql O.slot O.slot) && ((cmpZ .eql O.gen O.gen) && (cmpZ .eql (arithZ .add .i64 N.tag (1 : Int)) (arithZ .add .i64 N.tag (1 : Int)))))))) (.leaf (.ret, none)) (.leaf (.normal, some (openS arS (st8 TR R ⟨(4 : Int), key, val, tall, (7 : Int), (7 : Int), ⟨O.slot, O.gen, O.tag, O.num, O.mark⟩, ⟨H.slot, H.gen, H.tag, H.num, H.mark⟩, ⟨T.slot, T.gen, T.tag, T.num, T.mark⟩, ⟨N.slot, N.gen, N.tag, N.num, N.mark⟩, num, (arithZ .add .i64 i (1 : Int)), none⟩))))) (.leaf (.ret, none)))) (.ite ((cmpZ .eql (R.getD i.toNat default).word.slot T.slot) && ((cmpZ .eql (R.getD i.toNat default).word.tag T.tag) && ((cmpZ .eql (R.getD i.toNat default).word.num T.num) && ((R.getD i.toNat default).word.mark == T.mark)))) (.ite (!(((cmpZ .eql T.slot T.slot) && (cmpZ .eql T.gen T.gen)) && (((cmpZ .eql N.slot N.slot) && ((cmpZ .eql N.gen N.gen) && ((cmpZ .eql N.tag N.tag) && ((cmpZ .eql N.num N.num) && (N.mark == N.mark))))) && ((cmpZ .eql O.slot O.slot) && ((cmpZ .eql O.gen O.gen) && (cmpZ .eql (arithZ .add .i64 N.tag (1 : Int)) (arithZ .add .i64 N.tag (1 : Int)))))))) (.leaf (.ret, none)) (.leaf (.normal, some (openS arS (st8 TR R ⟨(4 : Int), key, val, tall, (7 : Int), (7 : Int), ⟨O.slot, O.gen, O.tag, O.num, O.mark⟩, ⟨H.slot, H.gen, H.tag, H.num, H.mark⟩, ⟨T.slot, T.gen, T.tag, T.num, T.mark⟩, ⟨N.slot, N.gen, N.tag, N.num, N.mark⟩, num, (arithZ .add .i64 i (1 : Int)), none⟩))))) (.leaf (.ret, none)))) (.fail "index out of range")) (.fail "index out of range")) (.ite (cmpZ .leq (0 : Int) i) (.ite (cmpZ .lss i (R.length : Int)) (.ite ((cmpZ .eql (R.getD i.toNat default).word.slot T.slot) && ((cmpZ .eql (R.getD i.toNat default).word.tag T.tag) && ((cmpZ .eql (R.getD i.toNat default).word.num T.num) && ((R.getD i.toNat default).word.mark == T.mark)))) (.ite (cmpZ .neq N.slot (0 : Int)) (.ite (!(((cmpZ .eql T.slot T.slot) && ((cmpZ .eql T.gen T.gen) && ((cmpZ .eql T.tag T.tag) && ((cmpZ .eql T.num T.num) && (T.mark == T.mark))))) && ((cmpZ .eql N.slot N.slot) && ((cmpZ .eql N.gen N.gen) && (cmpZ .eql (arithZ .add .i64 T.tag (1 : Int)) (arithZ .add .i64 T.tag (1 : Int))))))) (.leaf (.ret, none)) (.leaf (.normal, some (openS arS (st8 TR R ⟨(4 : Int), key, val, tall, (8 : Int), (6 : Int), ⟨O.slot, O.gen, O.tag, O.num, O.mark⟩, ⟨H.slot, H.gen, H.tag, H.num, H.mark⟩, ⟨T.slot, T.gen, T.tag, T.num, T.mark⟩, ⟨N.slot, N.gen, N.tag, N.num, N.mark⟩, num, (arithZ .add .i64 i (1 : Int)), none⟩))))) (.ite ((cmpZ .eql (R.getD i.toNat default).word.slot T.slot) && ((cmpZ .eql (R.getD i.toNat default).word.tag T.tag) && ((cmpZ .eql (R.getD i.toNat default).word.num T.num) && ((R.getD i.toNat default).word.mark == T.mark)))) (.leaf (.ret, none)) (.leaf (.ret, none)))) (.ite ((cmpZ .eql (R.getD i.toNat default).word.slot T.slot) && ((cmpZ .eql (R.getD i.toNat default).word.tag T.tag) && ((cmpZ .eql (R.getD i.toNat default).word.num T.num) && ((R.getD i.toNat default).word.mark == T.mark)))) (.leaf (.ret, none)) (.leaf (.ret, none)))) (.fail "index out of range")) (.fail "index out of range")))) (.fail "index out of range")) (.fail "index out of range")) (.leaf ((.exit 0), none))) (.leaf ((.exit 0), none))) := by kernel_rfl
theorem step_4_6_5 (TR : TypeId) (R : List Reply) (key val tall num i : Int) (H T N O : Word) (h0 : 0 ≤ i) (h1 : i ≤ 100) : Good8 TR R ⟨4, key, val, tall, 6, 5, O, H, T, N, num, i, none⟩ := by
  rw [Good8, tree_4_6_5]
  repeat' (first | exact GoodT.exit | refine GoodT.ite (fun _ => ?_) (fun _ => ?_))
  all_goals simp only [cmpZ, Bool.not_eq_true, Bool.not_eq_true', Bool.and_eq_true, beq_iff_eq, bne_iff_ne, decide_eq_true_eq, decide_eq_false_iff_not, Bool.and_eq_false_imp, bne_eq_false_iff_eq] at *
  all_goals first
    | (refine GoodT.on (by assumption) (by assumption) rfl ?_; first | exact .inl ⟨rfl, by simp [pairs8]⟩ | exact .inr ⟨⟨_, rfl⟩, rfl⟩)
    | (exfalso; first | omega | (simp_all; done) | grind)

theorem tree_4_7_7 (TR : TypeId) (R : List Reply) (key val tall num i : Int) (H T N O : Word) : body8 TR R ⟨4, key, val, tall, 7, 7, O, H, T, N, num, i, none⟩ = (.ite (cmpZ .lss i (R.length : Int)) (.ite (cmpZ .lss i (100 : Int)) (.ite (cmpZ .leq (0 : Int) i) (.ite (cmpZ .lss i (R.length : Int)) (.ite (R.getD i.toNat default).ok (.ite (cmpZ .leq (0 : Int) i) (.ite (cmpZ .lss i (R.length : Int)) (.ite (R.getD i.toNat default).ok (.ite (!(((cmpZ .eql T.slot T.slot) && ((cmpZ .eql T.gen T.gen) && ((cmpZ .eql T.tag T.tag) && ((cmpZ .eql T.num T.num) && (T.mark == T.mark))))) && ((cmpZ .eql O.slot O.slot) && ((cmpZ .eql O.gen O.gen) && (cmpZ .eql (arithZ .add .i64 T.tag (1 : Int)) (arithZ .add .i64 T.tag (1 : Int))))))) (.leaf (.ret, none)) (.leaf (.normal, some (openS arS (st8 TR R ⟨(4 : Int), key, val, tall, (9 : Int), (8 : Int), ⟨O.slot, O.gen, O.tag, O.num, O.mark⟩, ⟨H.slot, H.gen, H.tag, H.num, H.mark⟩, ⟨T.slot, T.gen, T.tag, T.num, T.mark⟩, ⟨N.slot, N.gen, N.tag, N.num, N.mark⟩, num, (arithZ .add .i64 i (1 : Int)), none⟩))))) (.leaf (.ret, none))) (.fail "index out of range")) (.fail "index out of range")) (.ite (cmpZ .leq (0 : Int) i) (.ite (cmpZ .lss i (R.length : Int)) (.ite (R.getD i.toNat default).ok (.leaf (.ret, none)) (.leaf (.normal, some (openS arS (st8 TR R ⟨(4 : Int), key, val, tall, (3 : Int), (3 : Int), ⟨O.slot, O.gen, O.tag, O.num, O.mark⟩, ⟨H.slot, H.gen, H.tag, H.num, H.mark⟩, ⟨T.slot, T.gen, T.tag, T.num, T.mark⟩, ⟨N.slot, N.gen, N.tag, N.num, N.mark⟩, num, (arithZ .add .i64 i (1 : Int)), none⟩))))) (.fail "index out of range")) (.fail "index out of range"))) (.fail "index out of range")) (.fail "index out of range")) (.leaf ((.exit 0), none))) (.leaf ((.exit 0), none))) := by kernel_rfl
theorem step_4_7_7 (TR : TypeId) (R : List Reply) (key val tall num i : Int) (H T N O : Word) (h0 : 0 ≤ i) (h1 : i ≤ 100) : Good8 TR R ⟨4, key, val, tall, 7, 7, O, H, T, N, num, i, none⟩ := by
  rw [Good8, tree_4_7_7]
  repeat' (first | exact GoodT.exit | refine GoodT.ite (fun _ => ?_) (fun _ => ?_))
  all_goals simp only [cmpZ, Bool.not_eq_true, Bool.not_eq_true', Bool.and_eq_true, beq_iff_eq, bne_iff_ne, decide_eq_true_eq, decide_eq_false_iff_not, Bool.and_eq_false_imp, bne_eq_false_iff_eq] at *
  all_goals first
    | (refine GoodT.on (by assumption) (by assumption) rfl ?_; first | exact .inl ⟨rfl, by simp [pairs8]⟩ | exact .inr ⟨⟨_, rfl⟩, rfl⟩)
    | (exfalso; first | omega | (simp_all; done) | grind)

theorem tree_4_8_6 (TR : TypeId) (R : List Reply) (key val tall num i : Int) (H T N O : Word) : body8 TR R ⟨4, key, val, tall, 8, 6, O, H, T, N, num, i, none⟩ = (.ite (cmpZ .lss i (R.length : Int)) (.ite (cmpZ .lss i (100 : Int)) (.ite (cmpZ .leq (0 : Int) i) (.ite (cmpZ .lss i (R.length : Int)) (.ite (cmpZ .leq (0 : Int) i) (.ite (cmpZ .lss i (R.length : Int)) (.leaf (.normal, some (openS arS (st8 TR R ⟨(4 : Int), key, val, tall, (3 : Int), (3 : Int), ⟨O.slot, O.gen, O.tag, O.num, O.mark⟩, ⟨H.slot, H.gen, H.tag, H.num, H.mark⟩, ⟨T.slot, T.gen, T.tag, T.num, T.mark⟩, ⟨N.slot, N.gen, N.tag, N.num, N.mark⟩, num, (arithZ .add .i64 i (1 : Int)), none⟩)))) (.fail "index out of range")) (.fail "index out of range")) (.fail "index out of range")) (.fail "index out of range")) (.leaf ((.exit 0), none))) (.leaf ((.exit 0), none))) := by kernel_rfl
theorem step_4_8_6 (TR : TypeId) (R : List Reply) (key val tall num i : Int) (H T N O : Word) (h0 : 0 ≤ i) (h1 : i ≤ 100) : Good8 TR R ⟨4, key, val, tall, 8, 6, O, H, T, N, num, i, none⟩ := by
  rw [Good8, tree_4_8_6]
  repeat' (first | exact GoodT.exit | refine GoodT.ite (fun _ => ?_) (fun _ => ?_))
  all_goals simp only [cmpZ, Bool.not_eq_true, Bool.not_eq_true', Bool.and_eq_true, beq_iff_eq, bne_iff_ne, decide_eq_true_eq, decide_eq_false_iff_not, Bool.and_eq_false_imp, bne_eq_false_iff_eq] at *
  all_goals first
    | (refine GoodT.on (by assumption) (by assumption) rfl ?_; first | exact .inl ⟨rfl, by simp [pairs8]⟩ | exact .inr ⟨⟨_, rfl⟩, rfl⟩)
    | (exfalso; first | omega | (simp_all; done) | grind)

theorem tree_4_9_8 (TR : TypeId) (R : List Reply) (key val tall num i : Int) (H T N O : Word) : body8 TR R ⟨4, key, val, tall, 9, 8, O, H, T, N, num, i, none⟩ = (.ite (cmpZ .lss i (R.length : Int)) (.ite (cmpZ .lss i (100 : Int)) (.ite (cmpZ .leq (0 : Int) i) (.ite (cmpZ .lss i (R.length : Int)) (.ite (cmpZ .leq (0 : Int) i) (.ite (cmpZ .lss i (R.length : Int)) (.leaf (.normal, some (openS arS (st8 TR R ⟨(4 : Int), key, val, tall, (9 : Int), (9 : Int), ⟨O.slot, O.gen, O.tag, O.num, O.mark⟩, ⟨H.slot, H.gen, H.tag, H.num, H.mark⟩, ⟨T.slot, T.gen, T.tag, T.num, T.mark⟩, ⟨N.slot, N.gen, N.tag, N.num, N.mark⟩, num, (arithZ .add .i64 i (1 : Int)), (some ⟨(1 : Int), (0 : Int)⟩)⟩)))) (.fail "index out of range")) (.fail "index out of range")) (.fail "index out of range")) (.fail "index out of range")) (.leaf ((.exit 0), none))) (.leaf ((.exit 0), none))) := by kernel_rfl
theorem step_4_9_8 (TR : TypeId) (R : List Reply) (key val tall num i : Int) (H T N O : Word) (h0 : 0 ≤ i) (h1 : i ≤ 100) : Good8 TR R ⟨4, key, val, tall, 9, 8, O, H, T, N, num, i, none⟩ := by
  rw [Good8, tree_4_9_8]
  repeat' (first | exact GoodT.exit | refine GoodT.ite (fun _ => ?_) (fun _ => ?_))
  all_goals simp only [cmpZ, Bool.not_eq_true, Bool.not_eq_true', Bool.and_eq_true, beq_iff_eq, bne_iff_ne, decide_eq_true_eq, decide_eq_false_iff_not, Bool.and_eq_false_imp, bne_eq_false_iff_eq] at *
  all_goals first
    | (refine GoodT.on (by assumption) (by assumption) rfl ?_; first | exact .inl ⟨rfl, by simp [pairs8]⟩ | exact .inr ⟨⟨_, rfl⟩, rfl⟩)
    | (exfalso; first | omega | (simp_all; done) | grind)

theorem tree_5_0_0 (TR : TypeId) (R : List Reply) (key val tall num i : Int) (H T N O : Word) : body8 TR R ⟨5, key, val, tall, 0, 0, O, H, T, N, num, i, none⟩ = (.ite (cmpZ .lss i (R.length : Int)) (.ite (cmpZ .lss i (100 : Int)) (.ite (cmpZ .leq (0 : Int) i) (.ite (cmpZ .lss i (R.length : Int)) (.ite (cmpZ .leq (0 : Int) i) (.ite (cmpZ .lss i (R.length : Int)) (.leaf (.normal, some (openS arS (st8 TR R ⟨(5 : Int), key, val, tall, (3 : Int), (1 : Int), ⟨O.slot, O.gen, O.tag, O.num, O.mark⟩, ⟨H.slot, H.gen, H.tag, H.num, H.mark⟩, ⟨T.slot, T.gen, T.tag, T.num, T.mark⟩, ⟨N.slot, N.gen, N.tag, N.num, N.mark⟩, num, (arithZ .add .i64 i (1 : Int)), none⟩)))) (.fail "index out of range")) (.fail "index out of range")) (.fail "index out of range")) (.fail "index out of range")) (.leaf ((.exit 0), none))) (.leaf ((.exit 0), none))) := by kernel_rfl
theorem step_5_0_0 (TR : TypeId) (R : List Reply) (key val tall num i : Int) (H T N O : Word) (h0 : 0 ≤ i) (h1 : i ≤ 100) : Good8 TR R ⟨5, key, val, tall, 0, 0, O, H, T, N, num, i, none⟩ := by
  rw [Good8, tree_5_0_0]
  repeat' (first | exact GoodT.exit | refine GoodT.ite (fun _ => ?_) (fun _ => ?_))
  all_goals simp only [cmpZ, Bool.not_eq_true, Bool.not_eq_true', Bool.and_eq_true, beq_iff_eq, bne_iff_ne, decide_eq_true_eq, decide_eq_false_iff_not, Bool.and_eq_false_imp, bne_eq_false_iff_eq] at *
  all_goals first
    | (refine GoodT.on (by assumption) (by assumption) rfl ?_; first | exact .inl ⟨rfl, by simp [pairs8]⟩ | exact .inr ⟨⟨_, rfl⟩, rfl⟩)
    | (exfalso; first | omega | (simp_all; done) | grind)

theorem tree_5_3_1 (TR : TypeId) (R : List Reply) (key val tall num i : Int) (H T N O : Word) : body8 TR R ⟨5, key, val, tall, 3, 1, O, H, T, N, num, i, none⟩ = (.ite (cmpZ .lss i (R.length : Int)) (.ite (cmpZ .lss i (100 : Int)) (.ite (cmpZ .leq (0 : Int) i) (.ite (cmpZ .lss i (R.length : Int)) (.ite (cmpZ .leq (0 : Int) i) (.ite (cmpZ .lss i (R.length : Int)) (.leaf (.normal, some (openS arS (st8 TR R ⟨(5 : Int), key, val, tall, (4 : Int), (2 : Int), ⟨O.slot, O.gen, O.tag, O.num, O.mark⟩, ⟨(R.getD i.toNat default).word.slot, (R.getD i.toNat default).word.gen, (R.getD i.toNat default).word.tag, (R.getD i.toNat default).word.num, (R.getD i.toNat default).word.mark⟩, ⟨T.slot, T.gen, T.tag, T.num, T.mark⟩, ⟨N.slot, N.gen, N.tag, N.num, N.mark⟩, num, (arithZ .add .i64 i (1 : Int)), none⟩)))) (.fail "index out of range")) (.fail "index out of range")) (.fail "index out of range")) (.fail "index out of range")) (.leaf ((.exit 0), none))) (.leaf ((.exit 0), none))) := by kernel_rfl
theorem step_5_3_1 (TR : TypeId) (R : List Reply) (key val tall num i : Int) (H T N O : Word) (h0 : 0 ≤ i) (h1 : i ≤ 100) : Good8 TR R ⟨5, key, val, tall, 3, 1, O, H, T, N, num, i, none⟩ := by
  rw [Good8, tree_5_3_1]
  repeat' (first | exact GoodT.exit | refine GoodT.ite (fun _ => ?_) (fun _ => ?_))
  all_goals simp only [cmpZ, Bool.not_eq_true, Bool.not_eq_true', Bool.and_eq_true, beq_iff_eq, bne_iff_ne, decide_eq_true_eq, decide_eq_false_iff_not, Bool.and_eq_false_imp, bne_eq_false_iff_eq] at *
  all_goals first
    | (refine GoodT.on (by assumption) (by assumption) rfl ?_; first | exact .inl ⟨rfl, by simp [pairs8]⟩ | exact .inr ⟨⟨_, rfl⟩, rfl⟩)
    | (exfalso; first | omega | (simp_all; done) | grind)

theorem tree_5_4_2 (TR : TypeId) (R : List Reply) (key val tall num i : Int) (H T N O : Word) : body8 TR R ⟨5, key, val, tall, 4, 2, O, H, T, N, num, i, none⟩ = (.ite (cmpZ .lss i (R.length : Int)) (.ite (cmpZ .lss i (100 : Int)) (.ite (cmpZ .leq (0 : Int) i) (.ite (cmpZ .lss i (R.length : Int)) (.ite (cmpZ .leq (0 : Int) i) (.ite (cmpZ .lss i (R.length : Int)) (.ite (!((cmpZ .eql H.slot H.slot) && (cmpZ .eql H.gen H.gen))) (.leaf (.ret, none)) (.leaf (.normal, some (openS arS (st8 TR R ⟨(5 : Int), key, val, tall, (5 : Int), (3 : Int), ⟨O.slot, O.gen, O.tag, O.num, O.mark⟩, ⟨H.slot, H.gen, H.tag, H.num, H.mark⟩, ⟨(R.getD i.toNat default).word.slot, (R.getD i.toNat default).word.gen, (R.getD i.toNat default).word.tag, (R.getD i.toNat default).word.num, (R.getD i.toNat default).word.mark⟩, ⟨N.slot, N.gen, N.tag, N.num, N.mark⟩, num, (arithZ .add .i64 i (1 : Int)), none⟩))))) (.fail "index out of range")) (.fail "index out of range")) (.fail "index out of range")) (.fail "index out of range")) (.leaf ((.exit 0), none))) (.leaf ((.exit 0), none))) := by kernel_rfl
theorem step_5_4_2 (TR : TypeId) (R : List Reply) (key val tall num i : Int) (H T N O : Word) (h0 : 0 ≤ i) (h1 : i ≤ 100) : Good8 TR R ⟨5, key, val, tall, 4, 2, O, H, T, N, num, i, none⟩ := by
  rw [Good8, tree_5_4_2]
  repeat' (first | exact GoodT.exit | refine GoodT.ite (fun _ => ?_) (fun _ => ?_))
  all_goals simp only [cmpZ, Bool.not_eq_true, Bool.not_eq_true', Bool.and_eq_true, beq_iff_eq, bne_iff_ne, decide_eq_true_eq, decide_eq_false_iff_not, Bool.and_eq_false_imp, bne_eq_false_iff_eq] at *
  all_goals first
    | (refine GoodT.on (by assumption) (by assumption) rfl ?_; first | exact .inl ⟨rfl, by simp [pairs8]⟩ | exact .inr ⟨⟨_, rfl⟩, rfl⟩)
    | (exfalso; first | omega | (simp_all; done) | grind)

theorem tree_5_5_3 (TR : TypeId) (R : List Reply) (key val tall num i : Int) (H T N O : Word) : body8 TR R ⟨5, key, val, tall, 5, 3, O, H, T, N, num, i, none⟩ = (.ite (cmpZ .lss i (R.length : Int)) (.ite (cmpZ .lss i (100 : Int)) (.ite (cmpZ .leq (0 : Int) i) (.ite (cmpZ .lss i (R.length : Int)) (.ite (cmpZ .leq (0 : Int) i) (.ite (cmpZ .lss i (R.length : Int)) (.leaf (.normal, some (openS arS (st8 TR R ⟨(5 : Int), key, val, tall, (6 : Int), (4 : Int), ⟨O.slot, O.gen, O.tag, O.num, O.mark⟩, ⟨H.slot, H.gen, H.tag, H.num, H.mark⟩, ⟨T.slot, T.gen, T.tag, T.num, T.mark⟩, ⟨(R.getD i.toNat default).word.slot, (R.getD i.toNat default).word.gen, (R.getD i.toNat default).word.tag, (R.getD i.toNat default).word.num, (R.getD i.toNat default).word.mark⟩, num, (arithZ .add .i64 i (1 : Int)), none⟩)))) (.fail "index out of range")) (.fail "index out of range")) (.fail "index out of range")) (.fail "index out of range")) (.leaf ((.exit 0), none))) (.leaf ((.exit 0), none))) := by kernel_rfl
theorem step_5_5_3 (TR : TypeId) (R : List Reply) (key val tall num i : Int) (H T N O : Word) (h0 : 0 ≤ i) (h1 : i ≤ 100) : Good8 TR R ⟨5, key, val, tall, 5, 3, O, H, T, N, num, i, none⟩ := by
  rw [Good8, tree_5_5_3]
  repeat' (first | exact GoodT.exit | refine GoodT.ite (fun _ => ?_) (fun _ => ?_))
  all_goals simp only [cmpZ, Bool.not_eq_true, Bool.not_eq_true', Bool.and_eq_true, beq_iff_eq, bne_iff_ne, decide_eq_true_eq, decide_eq_false_iff_not, Bool.and_eq_false_imp, bne_eq_false_iff_eq] at *
  all_goals first
    | (refine GoodT.on (by assumption) (by assumption) rfl ?_; first | exact .inl ⟨rfl, by simp [pairs8]⟩ | exact .inr ⟨⟨_, rfl⟩, rfl⟩)
    | (exfalso; first | omega | (simp_all; done) | grind)

theorem tree_5_6_4 (TR : TypeId) (R : List Reply) (key val tall num i : Int) (H T N O : Word) : body8 TR R ⟨5, key, val, tall, 6, 4, O, H, T, N, num, i, none⟩ = (.ite (cmpZ .lss i (R.length : Int)) (.ite (cmpZ .lss i (100 : Int)) (.ite (cmpZ .leq (0 : Int) i) (.ite (cmpZ .lss i (R.length : Int)) (.ite (!((cmpZ .eql (R.getD i.toNat default).word.slot H.slot) && ((cmpZ .eql (R.getD i.toNat default).word.gen (R.getD i.toNat default).word.gen) && ((cmpZ .eql (R.getD i.toNat default).word.tag H.tag) && ((cmpZ .eql (R.getD i.toNat default).word.num H.num) && ((R.getD i.toNat default).word.mark == H.mark)))))) (.ite (cmpZ .leq (0 : Int) i) (.ite (cmpZ .lss i (R.length : Int)) (.ite ((cmpZ .eql (R.getD i.toNat default).word.slot H.slot) && ((cmpZ .eql (R.getD i.toNat default).word.tag H.tag) && ((cmpZ .eql (R.getD i.toNat default).word.num H.num) && ((R.getD i.toNat default).word.mark == H.mark)))) (.ite (cmpZ .eql N.slot (0 : Int)) (.leaf (.ret, none)) (.ite (cmpZ .eql H.slot T.slot) (.leaf (.ret, none)) (.leaf (.ret, none)))) (.leaf (.normal, some (openS arS (st8 TR R ⟨(5 : Int), key, val, tall, (3 : Int), (1 : Int), ⟨O.slot, O.gen, O.tag, O.num, O.mark⟩, ⟨H.slot, H.gen, H.tag, H.num, H.mark⟩, ⟨T.slot, T.gen, T.tag, T.num, T.mark⟩, ⟨N.slot, N.gen, N.tag, N.num, N.mark⟩, num, (arithZ .add .i64 i (1 : Int)), none⟩))))) (.fail "index out of range")) (.fail "index out of range")) (.ite (cmpZ .eql N.slot (0 : Int)) (.ite (cmpZ .leq (0 : Int) i) (.ite (cmpZ .lss i (R.length : Int)) (.ite ((cmpZ .eql (R.getD i.toNat default).word.slot H.slot) && ((cmpZ .eql (R.getD i.toNat default).word.tag H.tag) && ((cmpZ .eql (R.getD i.toNat default).word.num H.num) && ((R.getD i.toNat default).word.mark == H.mark)))) (.ite (cmpZ .eql N.slot (0 : Int)) (.leaf (.normal, some (openS arS (st8 TR R ⟨(5 : Int), key, val, tall, (6 : Int), (9 : Int), ⟨O.slot, O.gen, O.tag, O.num, O.mark⟩, ⟨H.slot, H.gen, H.tag, H.num, H.mark⟩, ⟨T.slot, T.gen, T.tag, T.num, T.mark⟩, ⟨N.slot, N.gen, N.tag, N.num, N.mark⟩, num, (arithZ .add .i64 i (1 : Int)), (some ⟨(2 : Int), (0 : Int)⟩)⟩)))) (.ite (cmpZ .eql H.slot T.slot) (.leaf (.ret, none)) (.leaf (.ret, none)))) (.leaf (.ret, none))) (.fail "index out of range")) (.fail "index out of range")) (.ite (cmpZ .eql H.slot T.slot) (.ite (cmpZ .leq (0 : Int) i) (.ite (cmpZ .lss i (R.length : Int)) (.ite ((cmpZ .eql (R.getD i.toNat default).word.slot H.slot) && ((cmpZ .eql (R.getD i.toNat default).word.tag H.tag) && ((cmpZ .eql (R.getD i.toNat default).word.num H.num) && ((R.getD i.toNat default).word.mark == H.mark)))) (.ite (cmpZ .eql N.slot (0 : Int)) (.leaf (.ret, none)) (.ite (cmpZ .eql H.slot T.slot) (.ite (!(((cmpZ .eql T.slot T.slot) && ((cmpZ .eql T.gen T.gen) && ((cmpZ .eql T.tag T.tag) && ((cmpZ .eql T.num T.num) && (T.mark == T.mark))))) && ((cmpZ .eql N.slot N.slot) && ((cmpZ .eql N.gen N.gen) && (cmpZ .eql (arithZ .add .i64 T.tag (1 : Int)) (arithZ .add .i64 T.tag (1 : Int))))))) (.leaf (.ret, none)) (.leaf (.normal, some (openS arS (st8 TR R ⟨(5 : Int), key, val, tall, (8 : Int), (5 : Int), ⟨O.slot, O.gen, O.tag, O.num, O.mark⟩, ⟨H.slot, H.gen, H.tag, H.num, H.mark⟩, ⟨T.slot, T.gen, T.tag, T.num, T.mark⟩, ⟨N.slot, N.gen, N.tag, N.num, N.mark⟩, num, (arithZ .add .i64 i (1 : Int)), none⟩))))) (.leaf (.ret, none)))) (.leaf (.ret, none))) (.fail "index out of range")) (.fail "index out of range")) (.ite (cmpZ .leq (0 : Int) i) (.ite (cmpZ .lss i (R.length : Int)) (.ite ((cmpZ .eql (R.getD i.toNat default).word.slot H.slot) && ((cmpZ .eql (R.getD i.toNat default).word.tag H.tag) && ((cmpZ .eql (R.getD i.toNat default).word.num H.num) && ((R.getD i.toNat default).word.mark == H.mark)))) (.ite (cmpZ .eql N.slot (0 : Int)) (.leaf (.ret, none)) (.ite (cmpZ .eql H.slot T.slot) (.leaf (.ret, none)) (.ite (!((cmpZ .eql N.slot N.slot) && (cmpZ .eql N.gen N.gen))) (.leaf (.ret, none)) (.leaf (.normal, some (openS arS (st8 TR R ⟨(5 : Int), key, val, tall, (10 : Int), (6 : Int), ⟨O.slot, O.gen, O.tag, O.num, O.mark⟩, ⟨H.slot, H.gen, H.tag, H.num, H.mark⟩, ⟨T.slot, T.gen, T.tag, T.num, T.mark⟩, ⟨N.slot, N.gen, N.tag, N.num, N.mark⟩, num, (arithZ .add .i64 i (1 : Int)), none⟩))))))) (.leaf (.ret, none))) (.fail "index out of range")) (.fail "index out of range"))))) (.fail "index out of range")) (.fail "index out of range")) (.leaf ((.exit 0), none))) (.leaf ((.exit 0), none))) := by kernel_rfl
theorem step_5_6_4 (TR : TypeId) (R : List Reply) (key val tall num i : Int) (H T N O : Word) (h0 : 0 ≤ i) (h1 : i ≤ 100) : Good8 TR R ⟨5, key, val, tall, 6, 4, O, H, T, N, num, i, none⟩ := by
  rw [Good8, tree_5_6_4]
  repeat' (first | exact GoodT.exit | refine GoodT.ite (fun _ => ?_) (fun _ => ?_))
  all_goals simp only [cmpZ, Bool.not_eq_true, Bool.not_eq_true', Bool.and_eq_true, beq_iff_eq, bne_iff_ne, decide_eq_true_eq, decide_eq_false_iff_not, Bool.and_eq_false_imp, bne_eq_false_iff_eq] at *
  all_goals first
    | (refine GoodT.on (by assumption) (by assumption) rfl ?_; first | exact .inl ⟨rfl, by simp [pairs8]⟩ | exact .inr ⟨⟨_, rfl⟩, rfl⟩)
    | (exfalso; first | omega | (simp_all; done) | grind)

theorem tree_5_8_5 (TR : TypeId) (R : List Reply) (key val tall num i : Int) (H T N O : Word) : body8 TR R ⟨5, key, val, tall, 8, 5, O, H, T, N, num, i, none⟩ = (.ite (cmpZ .lss i (R.length : Int)) (.ite (cmpZ .lss i (100 : Int)) (.ite (cmpZ .leq (0 : Int) i) (.ite (cmpZ .lss i (R.length : Int)) (.ite (cmpZ .leq (0 : Int) i) (.ite (cmpZ .lss i (R.length : Int)) (.leaf (.normal, some (openS arS (st8 TR R ⟨(5 : Int), key, val, tall, (3 : Int), (1 : Int), ⟨O.slot, O.gen, O.tag, O.num, O.mark⟩, ⟨H.slot, H.gen, H.tag, H.num, H.mark⟩, ⟨T.slot, T.gen, T.tag, T.num, T.mark⟩, ⟨N.slot, N.gen, N.tag, N.num, N.mark⟩, num, (arithZ .add .i64 i (1 : Int)), none⟩)))) (.fail "index out of range")) (.fail "index out of range")) (.fail "index out of range")) (.fail "index out of range")) (.leaf ((.exit 0), none))) (.leaf ((.exit 0), none))) := by kernel_rfl
theorem step_5_8_5 (TR : TypeId) (R : List Reply) (key val tall num i : Int) (H T N O : Word) (h0 : 0 ≤ i) (h1 : i ≤ 100) : Good8 TR R ⟨5, key, val, tall, 8, 5, O, H, T, N, num, i, none⟩ := by
  rw [Good8, tree_5_8_5]
  repeat' (first | exact GoodT.exit | refine GoodT.ite (fun _ => ?_) (fun _ => ?_))
  all_goals simp only [cmpZ, Bool.not_eq_true, Bool.not_eq_true', Bool.and_eq_true, beq_iff_eq, bne_iff_ne, decide_eq_true_eq, decide_eq_false_iff_not, Bool.and_eq_false_imp, bne_eq_false_iff_eq] at *
  all_goals first
    | (refine GoodT.on (by assumption) (by assumption) rfl ?_; first | exact .inl ⟨rfl, by simp [pairs8]⟩ | exact .inr ⟨⟨_, rfl⟩, rfl⟩)
    | (exfalso; first | omega | (simp_all; done) | grind)

theorem tree_5_10_6 (TR : TypeId) (R : List Reply) (key val tall num i : Int) (H T N O : Word) : body8 TR R ⟨5, key, val, tall, 10, 6, O, H, T, N, num, i, none⟩ = (.ite (cmpZ .lss i (R.length : Int)) (.ite (cmpZ .lss i (100 : Int)) (.ite (cmpZ .leq (0 : Int) i) (.ite (cmpZ .lss i (R.length : Int)) (.ite (cmpZ .leq (0 : Int) i) (.ite (cmpZ .lss i (R.length : Int)) (.ite (!(((cmpZ .eql H.slot H.slot) && ((cmpZ .eql H.gen H.gen) && ((cmpZ .eql H.tag H.tag) && ((cmpZ .eql H.num H.num) && (H.mark == H.mark))))) && ((cmpZ .eql N.slot N.slot) && ((cmpZ .eql N.gen N.gen) && (cmpZ .eql (arithZ .add .i64 H.tag (1 : Int)) (arithZ .add .i64 H.tag (1 : Int))))))) (.leaf (.ret, none)) (.leaf (.normal, some (openS arS (st8 TR R ⟨(5 : Int), key, val, tall, (11 : Int), (7 : Int), ⟨O.slot, O.gen, O.tag, O.num, O.mark⟩, ⟨H.slot, H.gen, H.tag, H.num, H.mark⟩, ⟨T.slot, T.gen, T.tag, T.num, T.mark⟩, ⟨N.slot, N.gen, N.tag, N.num, N.mark⟩, (R.getD i.toNat default).word.num, (arithZ .add .i64 i (1 : Int)), none⟩))))) (.fail "index out of range")) (.fail "index out of range")) (.fail "index out of range")) (.fail "index out of range")) (.leaf ((.exit 0), none))) (.leaf ((.exit 0), none))) := by kernel_rfl
theorem step_5_10_6 (TR : TypeId) (R : List Reply) (key val tall num i : Int) (H T N O : Word) (h0 : 0 ≤ i) (h1 : i ≤ 100) : Good8 TR R ⟨5, key, val, tall, 10, 6, O, H, T, N, num, i, none⟩ := by
  rw [Good8, tree_5_10_6]
  repeat' (first | exact GoodT.exit | refine GoodT.ite (fun _ => ?_) (fun _ => ?_))
  all_goals simp only [cmpZ, Bool.not_eq_true, Bool.not_eq_true', Bool.and_eq_true, beq_iff_eq, bne_iff_ne, decide_eq_true_eq, decide_eq_false_iff_not, Bool.and_eq_false_imp, bne_eq_false_iff_eq] at *
  all_goals first
    | (refine GoodT.on (by assumption) (by assumption) rfl ?_; first | exact .inl ⟨rfl, by simp [pairs8]⟩ | exact .inr ⟨⟨_, rfl⟩, rfl⟩)
    | (exfalso; first | omega | (simp_all; done) | grind)

theorem tree_5_11_7 (TR : TypeId) (R : List Reply) (key val tall num i : Int) (H T N O : Word) : body8 TR R ⟨5, key, val, tall, 11, 7, O, H, T, N, num, i, none⟩ = (.ite (cmpZ .lss i (R.length : Int)) (.ite (cmpZ .lss i (100 : Int)) (.ite (cmpZ .leq (0 : Int) i) (.ite (cmpZ .lss i (R.length : Int)) (.ite (R.getD i.toNat default).ok (.ite (cmpZ .leq (0 : Int) i) (.ite (cmpZ .lss i (R.length : Int)) (.ite (R.getD i.toNat default).ok (.ite (!((cmpZ .eql H.slot H.slot) && ((cmpZ .eql H.gen H.gen) && ((cmpZ .eql H.tag H.tag) && ((cmpZ .eql H.num H.num) && (H.mark == H.mark)))))) (.leaf (.ret, none)) (.leaf (.normal, some (openS arS (st8 TR R ⟨(5 : Int), key, val, tall, (12 : Int), (8 : Int), ⟨O.slot, O.gen, O.tag, O.num, O.mark⟩, ⟨H.slot, H.gen, H.tag, H.num, H.mark⟩, ⟨T.slot, T.gen, T.tag, T.num, T.mark⟩, ⟨N.slot, N.gen, N.tag, N.num, N.mark⟩, num, (arithZ .add .i64 i (1 : Int)), none⟩))))) (.leaf (.ret, none))) (.fail "index out of range")) (.fail "index out of range")) (.ite (cmpZ .leq (0 : Int) i) (.ite (cmpZ .lss i (R.length : Int)) (.ite (R.getD i.toNat default).ok (.leaf (.ret, none)) (.leaf (.normal, some (openS arS (st8 TR R ⟨(5 : Int), key, val, tall, (3 : Int), (1 : Int), ⟨O.slot, O.gen, O.tag, O.num, O.mark⟩, ⟨H.slot, H.gen, H.tag, H.num, H.mark⟩, ⟨T.slot, T.gen, T.tag, T.num, T.mark⟩, ⟨N.slot, N.gen, N.tag, N.num, N.mark⟩, num, (arithZ .add .i64 i (1 : Int)), none⟩))))) (.fail "index out of range")) (.fail "index out of range"))) (.fail "index out of range")) (.fail "index out of range")) (.leaf ((.exit 0), none))) (.leaf ((.exit 0), none))) := by kernel_rfl
theorem step_5_11_7 (TR : TypeId) (R : List Reply) (key val tall num i : Int) (H T N O : Word) (h0 : 0 ≤ i) (h1 : i ≤ 100) : Good8 TR R ⟨5, key, val, tall, 11, 7, O, H, T, N, num, i, none⟩ := by
  rw [Good8, tree_5_11_7]
  repeat' (first | exact GoodT.exit | refine GoodT.ite (fun _ => ?_) (fun _ => ?_))
  all_goals simp only [cmpZ, Bool.not_eq_true, Bool.not_eq_true', Bool.and_eq_true, beq_iff_eq, bne_iff_ne, decide_eq_true_eq, decide_eq_false_iff_not, Bool.and_eq_false_imp, bne_eq_false_iff_eq] at *
  all_goals first
    | (refine GoodT.on (by assumption) (by assumption) rfl ?_; first | exact .inl ⟨rfl, by simp [pairs8]⟩ | exact .inr ⟨⟨_, rfl⟩, rfl⟩)
    | (exfalso; first | omega | (simp_all; done) | grind)

theorem tree_5_12_8 (TR : TypeId) (R : List Reply) (key val tall num i : Int) (H T N O : Word) : body8 TR R ⟨5, key, val, tall, 12, 8, O, H, T, N, num, i, none⟩ = (.ite (cmpZ .lss i (R.length : Int)) (.ite (cmpZ .lss i (100 : Int)) (.ite (cmpZ .leq (0 : Int) i) (.ite (cmpZ .lss i (R.length : Int)) (.ite (cmpZ .leq (0 : Int) i) (.ite (cmpZ .lss i (R.length : Int)) (.ite (!(cmpZ .eql num num)) (.leaf (.ret, none)) (.leaf (.normal, some (openS arS (st8 TR R ⟨(5 : Int), key, val, tall, (12 : Int), (9 : Int), ⟨O.slot, O.gen, O.tag, O.num, O.mark⟩, ⟨H.slot, H.gen, H.tag, H.num, H.mark⟩, ⟨T.slot, T.gen, T.tag, T.num, T.mark⟩, ⟨N.slot, N.gen, N.tag, N.num, N.mark⟩, num, (arithZ .add .i64 i (1 : Int)), (some ⟨(1 : Int), num⟩)⟩))))) (.fail "index out of range")) (.fail "index out of range")) (.fail "index out of range")) (.fail "index out of range")) (.leaf ((.exit 0), none))) (.leaf ((.exit 0), none))) := by kernel_rfl
theorem step_5_12_8 (TR : TypeId) (R : List Reply) (key val tall num i : Int) (H T N O : Word) (h0 : 0 ≤ i) (h1 : i ≤ 100) : Good8 TR R ⟨5, key, val, tall, 12, 8, O, H, T, N, num, i, none⟩ := by
  rw [Good8, tree_5_12_8]
  repeat' (first | exact GoodT.exit | refine GoodT.ite (fun _ => ?_) (fun _ => ?_))
  all_goals simp only [cmpZ, Bool.not_eq_true, Bool.not_eq_true', Bool.and_eq_true, beq_iff_eq, bne_iff_ne, decide_eq_true_eq, decide_eq_false_iff_not, Bool.and_eq_false_imp, bne_eq_false_iff_eq] at *
  all_goals first
    | (refine GoodT.on (by assumption) (by assumption) rfl ?_; first | exact .inl ⟨rfl, by simp [pairs8]⟩ | exact .inr ⟨⟨_, rfl⟩, rfl⟩)
    | (exfalso; first | omega | (simp_all; done) | grind)

theorem tree_end (TR : TypeId) (R : List Reply) (k key val tall pc num i : Int) (H T N O : Word) (a : Ans) : body8 TR R ⟨k, key, val, tall, pc, 9, O, H, T, N, num, i, some a⟩ = (.ite (cmpZ .lss i (R.length : Int)) (.ite (cmpZ .lss i (100 : Int)) (.ite (cmpZ .leq (0 : Int) i) (.ite (cmpZ .lss i (R.length : Int)) (.ite (cmpZ .leq (0 : Int) i) (.ite (cmpZ .lss i (R.length : Int)) (.ite (!((cmpZ .eql a.code a.code) && (cmpZ .eql a.val a.val))) (.leaf (.ret, none)) (.leaf (.normal, some (openS arS (st8 TR R ⟨k, key, val, tall, pc, (9 : Int), ⟨O.slot, O.gen, O.tag, O.num, O.mark⟩, ⟨H.slot, H.gen, H.tag, H.num, H.mark⟩, ⟨T.slot, T.gen, T.tag, T.num, T.mark⟩, ⟨N.slot, N.gen, N.tag, N.num, N.mark⟩, num, (arithZ .add .i64 i (1 : Int)), (some ⟨a.code, a.val⟩)⟩))))) (.fail "index out of range")) (.fail "index out of range")) (.fail "index out of range")) (.fail "index out of range")) (.leaf ((.exit 0), none))) (.leaf ((.exit 0), none))) := by kernel_rfl
theorem step_end (TR : TypeId) (R : List Reply) (k key val tall pc num i : Int) (H T N O : Word) (a : Ans) (h0 : 0 ≤ i) (h1 : i ≤ 100) : Good8 TR R ⟨k, key, val, tall, pc, 9, O, H, T, N, num, i, some a⟩ := by
  rw [Good8, tree_end]
  repeat' (first | exact GoodT.exit | refine GoodT.ite (fun _ => ?_) (fun _ => ?_))
  all_goals simp only [cmpZ, Bool.not_eq_true, Bool.not_eq_true', Bool.and_eq_true, beq_iff_eq, bne_iff_ne, decide_eq_true_eq, decide_eq_false_iff_not, Bool.and_eq_false_imp, bne_eq_false_iff_eq] at *
  all_goals first
    | (refine GoodT.on (by assumption) (by assumption) rfl ?_; first | exact .inl ⟨rfl, by simp [pairs8]⟩ | exact .inr ⟨⟨_, rfl⟩, rfl⟩)
    | (exfalso; first | omega | (simp_all; done) | grind)

theorem step8 (TR : TypeId) (R : List Reply) (s : S8) (h : V8 s) : Good8 TR R s := by
  obtain ⟨h0, h1, h2⟩ := h
  obtain ⟨k, key, val, tall, pc, line, O, H, T, N, num, i, fin⟩ := s
  simp only at h0 h1 h2
  rcases h2 with ⟨rfl, h2⟩ | ⟨⟨a, rfl⟩, rfl⟩
  · simp only [pairs8, List.mem_cons, Prod.mk.injEq, List.not_mem_nil, or_false] at h2
    rcases h2 with ⟨rfl, rfl, rfl⟩ | ⟨rfl, rfl, rfl⟩ | ⟨rfl, rfl, rfl⟩ | ⟨rfl, rfl, rfl⟩ | ⟨rfl, rfl, rfl⟩ | ⟨rfl, rfl, rfl⟩ | ⟨rfl, rfl, rfl⟩ | ⟨rfl, rfl, rfl⟩ | ⟨rfl, rfl, rfl⟩ | ⟨rfl, rfl, rfl⟩ | ⟨rfl, rfl, rfl⟩ | ⟨rfl, rfl, rfl⟩ | ⟨rfl, rfl, rfl⟩ | ⟨rfl, rfl, rfl⟩ | ⟨rfl, rfl, rfl⟩ | ⟨rfl, rfl, rfl⟩ | ⟨rfl, rfl, rfl⟩ | ⟨rfl, rfl, rfl⟩
    · exact step_4_0_0 TR R key val tall num i H T N O h0 h1
    · exact step_4_1_1 TR R key val tall num i H T N O h0 h1
    · exact step_4_2_2 TR R key val tall num i H T N O h0 h1
    · exact step_4_3_3 TR R key val tall num i H T N O h0 h1
    · exact step_4_5_4 TR R key val tall num i H T N O h0 h1
    · exact step_4_6_5 TR R key val tall num i H T N O h0 h1
    · exact step_4_7_7 TR R key val tall num i H T N O h0 h1
    · exact step_4_8_6 TR R key val tall num i H T N O h0 h1
    · exact step_4_9_8 TR R key val tall num i H T N O h0 h1
    · exact step_5_0_0 TR R key val tall num i H T N O h0 h1
    · exact step_5_3_1 TR R key val tall num i H T N O h0 h1
    · exact step_5_4_2 TR R key val tall num i H T N O h0 h1
    · exact step_5_5_3 TR R key val tall num i H T N O h0 h1
    · exact step_5_6_4 TR R key val tall num i H T N O h0 h1
    · exact step_5_8_5 TR R key val tall num i H T N O h0 h1
    · exact step_5_10_6 TR R key val tall num i H T N O h0 h1
    · exact step_5_11_7 TR R key val tall num i H T N O h0 h1
    · exact step_5_12_8 TR R key val tall num i H T N O h0 h1
  · exact step_end TR R k key val tall pc num i H T N O a h0 h1

end Go.Vse
