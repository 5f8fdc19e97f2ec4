/- A symbolic executor for the model's code: its data. Payload numbers and truth values stay Lean terms; control, memory's shape and pointers are data. -/
import Derived.Orders
import Derived.Below
import Derived.Laws.StructEq
import Derived.Laws.Tables
import Derived.Laws.Cells
import Derived.Stop.Asserts
namespace Go.Vse
open Go
noncomputable section

/-- What the payloads are: whole numbers, truth values, strings, contents of slices, opaque objects. -/
structure Ty where
  I : Type
  B : Type
  S : Type
  V : Type
  M : Type

inductive Num (I : Type) | lit (n : Int) | opn (v : I)
inductive Bol (B : Type) | lit (b : Bool) | opn (v : B)
inductive Str (S : Type) | lit (s : ByteArray) | opn (v : S)

/-- A cell's value. -/
inductive SC (τ : Ty) where
  | int (k : IntKind) (n : Num τ.I)
  | bool (b : Bol τ.B)
  | str (s : Str τ.S)
  | nil
  | ptr (i : Nat) (p : List (Num τ.I × Nat)) (o : Nat)
  | slc (i : Nat) (n : Option (Num τ.I))
  | nslc
  | eslc (i : Nat)
  | mp (i : Nat)
  | nif
  | ifc (t : TypeId) (v : SC τ)
  | nfn
  | fn (f : FuncId)
  | cap (f x : SC τ)
  | nmap

/-- A slot's value. -/
inductive ST (τ : Ty) where
  | one (c : SC τ)
  | agg (l : List (SC τ))
  | tup (l : List (Bool × List (SC τ)))

inductive Vec (τ : Ty) where
  | lit (l : List (List (SC τ)))
  | opn (v : τ.V)

/-- What lies at a place of the heap. own: a block of cells; const: one that nobody writes; vec: an array of one's own; ro: an array that nobody writes, and that may be shared; abs: an object that is known by its word alone; av: an array inside of cells, seen as a slice (which place, from which cell on, so many elements of a size); imap: a map whose keys are numbers of a kind. -/
inductive Ent (τ : Ty) where
  | cells (l : List (SC τ)) (T : TypeId)
  | ccells (l : List (SC τ)) (T : TypeId)
  | vec (T : TypeId) (sz : Nat) (c : Vec τ)
  | ro (T : TypeId) (sz : Nat) (c : Vec τ)
  | abs (m : τ.M)
  | av (i o sz m : Nat)
  | imap (k : IntKind) (l : List (Num τ.I × SC τ))

structure Heap (τ : Ty) where
  n : Nat
  l : List (Nat × Ent τ)

def look {α : Type} (l : List (Nat × α)) (i : Nat) : Option α := List.rec (motive := fun _ => Option α) none (fun x _ ih => Bool.rec (motive := fun _ => Option α) ih (some x.2) (Nat.beq x.1 i)) l
theorem look_nil {α : Type} (i : Nat) : look ([] : List (Nat × α)) i = none := rfl
theorem look_cons {α : Type} (k : Nat) (a : α) (r : List (Nat × α)) (i : Nat) : look ((k, a) :: r) i = if Nat.beq k i then some a else look r i := by
  cases h : Nat.beq k i <;> simp [look, h]

def Heap.get {τ : Ty} (h : Heap τ) (i : Nat) : Option (Ent τ) := look h.l i

def repl {α : Type} (i : Nat) (a : α) : List (Nat × α) → List (Nat × α)
  | [] => []
  | (k, b) :: r => if Nat.beq k i then (k, a) :: r else (k, b) :: repl i a r

def Heap.set {τ : Ty} (h : Heap τ) (i : Nat) (e : Ent τ) : Heap τ := ⟨h.n, repl i e h.l⟩
def Heap.push {τ : Ty} (h : Heap τ) (e : Ent τ) : Heap τ := ⟨h.n + 1, (h.n, e) :: h.l⟩

/-- An outcome: a leaf; a test on a payload; no answer. -/
inductive Out (τ : Ty) (α : Type) where
  | leaf (a : α)
  | ite (b : τ.B) (l r : Out τ α)
  | fail (why : String)

def Out.bind {τ : Ty} {α β : Type} (t : Out τ α) (f : α → Out τ β) : Out τ β := Out.rec (motive := fun _ => Out τ β) (fun a => f a) (fun b _ _ l r => .ite b l r) (fun s => .fail s) t
theorem Out.bind_leaf {τ : Ty} {α β : Type} (a : α) (f : α → Out τ β) : (Out.leaf a).bind f = f a := rfl
theorem Out.bind_ite {τ : Ty} {α β : Type} (b : τ.B) (l r : Out τ α) (f : α → Out τ β) : (Out.ite b l r).bind f = .ite b (l.bind f) (r.bind f) := rfl
theorem Out.bind_fail {τ : Ty} {α β : Type} (s : String) (f : α → Out τ β) : (Out.fail s : Out τ α).bind f = .fail s := rfl

/-- A test, which is decided here if its truth is known. -/
def branch {τ : Ty} {α : Type} (b : Bol τ.B) (l r : Out τ α) : Out τ α :=
  match b with
  | .lit true => l
  | .lit false => r
  | .opn v => .ite v l r

def orFail {τ : Ty} {α : Type} (why : String) : Option α → Out τ α
  | some a => .leaf a
  | none => .fail why

/-- The operations on payloads. -/
structure Ar (τ : Ty) where
  int : Int → τ.I
  bool : Bool → τ.B
  str : ByteArray → τ.S
  arith : BinOp → IntKind → τ.I → τ.I → τ.I
  cmp : BinOp → τ.I → τ.I → τ.B
  conv : IntKind → τ.I → τ.I
  and : τ.B → τ.B → τ.B
  not : τ.B → τ.B
  eqB : τ.B → τ.B → τ.B
  pickB : τ.B → τ.B → τ.B → τ.B
  pickI : τ.B → τ.I → τ.I → τ.I
  eqS : τ.S → τ.S → τ.B
  catS : τ.S → τ.S → τ.S
  lenS : τ.S → τ.I
  vlen : τ.V → τ.I
  vget : τ.V → τ.I → List (SC τ)
  vapp : τ.V → List (List (SC τ)) → Option τ.V
  vcat : τ.V → τ.V → Option τ.V
  vset : τ.V → τ.I → List (SC τ) → Option τ.V
  vsub : τ.V → τ.I → τ.I → Option τ.V
  vrep : List (SC τ) → τ.I → Option τ.V

/-- What the model's own arithmetic gives at known numbers (the operations that a walk meets). -/
def arithZ (op : BinOp) (k : IntKind) (a b : Int) : Int :=
  match op with
  | .add => k.wrap (a + b)
  | .sub => k.wrap (a - b)
  | .mul => k.wrap (a * b)
  | .quo => k.wrap (a.tdiv b)
  | .rem => a.tmod b
  | .and => k.wrap (BitVec.ofInt k.bits a &&& BitVec.ofInt k.bits b).toNat
  | .or => k.wrap (BitVec.ofInt k.bits a ||| BitVec.ofInt k.bits b).toNat
  | .xor => k.wrap (BitVec.ofInt k.bits a ^^^ BitVec.ofInt k.bits b).toNat
  | .andNot => k.wrap (BitVec.ofInt k.bits a &&& ~~~ BitVec.ofInt k.bits b).toNat
  | _ => 0

def cmpZ (op : BinOp) (a b : Int) : Bool :=
  match op with
  | .eql => a == b
  | .neq => a != b
  | .lss => a < b
  | .leq => a ≤ b
  | .gtr => a > b
  | .geq => a ≥ b
  | _ => false

def isCmp : BinOp → Bool
  | .eql | .neq | .lss | .leq | .gtr | .geq => true
  | _ => false
def isArith : BinOp → Bool
  | .add | .sub | .mul | .and | .or | .xor | .andNot => true
  | _ => false
def isDiv : BinOp → Bool
  | .quo | .rem => true
  | _ => false

section
variable {τ : Ty} (A : Ar τ)
def Num.up : Num τ.I → τ.I | .lit n => A.int n | .opn v => v
def Bol.up : Bol τ.B → τ.B | .lit b => A.bool b | .opn v => v
def Str.up : Str τ.S → τ.S | .lit s => A.str s | .opn v => v
def arithN (op : BinOp) (k : IntKind) (a b : Num τ.I) : Num τ.I :=
  match a, b with
  | .lit x, .lit y => .lit (arithZ op k x y)
  | a, b => .opn (A.arith op k (a.up A) (b.up A))
def cmpN (op : BinOp) (a b : Num τ.I) : Bol τ.B :=
  match a, b with
  | .lit x, .lit y => .lit (cmpZ op x y)
  | a, b => .opn (A.cmp op (a.up A) (b.up A))
def convN (k : IntKind) (a : Num τ.I) : Num τ.I :=
  match a with
  | .lit x => .lit (k.wrap x)
  | .opn v => .opn (A.conv k v)
def andB (a b : Bol τ.B) : Bol τ.B :=
  match a, b with
  | .lit true, b => b
  | .lit false, _ => .lit false
  | a, .lit true => a
  | _, .lit false => .lit false
  | .opn a, .opn b => .opn (A.and a b)
def notB (a : Bol τ.B) : Bol τ.B :=
  match a with
  | .lit b => .lit (!b)
  | .opn v => .opn (A.not v)
def eqBB (a b : Bol τ.B) : Bol τ.B :=
  match a, b with
  | .lit x, .lit y => .lit (x == y)
  | .lit true, b => b
  | a, .lit true => a
  | a, b => .opn (A.eqB (a.up A) (b.up A))
def eqSS (a b : Str τ.S) : Bol τ.B :=
  match a, b with
  | .lit x, .lit y => .lit (x.toList == y.toList)
  | a, b => .opn (A.eqS (a.up A) (b.up A))
end

end
end Go.Vse
