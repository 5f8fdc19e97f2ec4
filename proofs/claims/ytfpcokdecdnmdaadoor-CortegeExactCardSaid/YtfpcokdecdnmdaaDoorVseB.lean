/- The symbolic executor: one operation, a region, code, a call. -/
import Derived.Test.YtfpcokdecdnmdaaDoorVseA
namespace Go.Vse
open Go

section
variable {τ : Ty}

/-- How code ends. -/
inductive Ex | normal | exit (id : Nat) | ret

abbrev Ran (τ : Ty) := Out τ (Ex × List (Nat × ST τ) × Heap τ)

/-- What a walk is made with: the program; the arithmetic; where its variables lie; summaries of functions; summaries of loops (a function's, by the number of the loop's first region). -/
structure Env (τ : Ty) where
  P : Program
  A : Ar τ
  glob : List (Nat × Nat)
  spec : FuncId → Option (List (ST τ) → Heap τ → Out τ (ST τ × Heap τ))
  loop : FuncId → Nat → Option (List (Nat × ST τ) → Heap τ → Ran τ)

abbrev Tm' (τ : Ty) := List (Nat × ST τ)
abbrev Res (τ : Ty) := Out τ (ST τ × Heap τ)

def constSC : Value → Option (SC τ)
  | .bool b => some (.bool (.lit b))
  | .int k n => some (.int k (.lit n))
  | .string s => some (.str (.lit s))
  | .pointer none => some .nil
  | .slice none 0 0 => some .nslc
  | .nilIface => some .nif
  | .nilFunc => some .nfn
  | .map none => some .nmap
  | _ => none

def mapO {α β : Type} (f : α → Option β) : List α → Option (List β)
  | [] => some []
  | a :: r => match f a, mapO f r with
    | some b, some s => some (b :: s)
    | _, _ => none

def constST : Value → Option (ST τ)
  | .agg cs => match mapO constSC cs.toList with
    | some l => some (.agg l)
    | none => none
  | .tuple cs => if cs.size = 0 then some (.tup []) else none
  | v => match constSC v with
    | some c => some (.one c)
    | none => none

def undefS : ST τ := .tup []

def opnd (E : Env τ) (tm : List (Nat × ST τ)) : Operand → Option (ST τ)
  | .tmp t => look tm t
  | .const v => constST v
  | .global g => match look E.glob g with
    | some i => some (.one (.ptr i [] 0))
    | none => none
  | .func f => some (.one (.fn f))

def stCells : ST τ → Option (List (SC τ))
  | .one c => some [c]
  | .agg l => some l
  | .tup _ => none

def zeroT (P : Program) (T : TypeId) : Option (List (SC τ)) :=
  match P.info? T with
  | some i => match i.zero with
    | some z => mapO constSC z.cells.toList
    | none => none
  | none => none

def sizeT (P : Program) (T : TypeId) : Option Nat :=
  match P.info? T with
  | some i => some i.size
  | none => none

def aggT (P : Program) (T : TypeId) : Option Bool :=
  match P.underlying T with
  | some (.struct _) => some true
  | some (.array _ _) => some true
  | some _ => some false
  | none => none

def fieldT (P : Program) (T : TypeId) (f : Nat) : Option Field :=
  match P.underlying T with
  | some (.struct fs) => fs[f]?
  | _ => none

/-- Some cells, as a value of a type. -/
def asT (P : Program) (T : TypeId) (l : List (SC τ)) (o : Nat) : Option (ST τ) :=
  match aggT P T, sizeT P T with
  | some true, some k => if o + k ≤ l.length then some (.agg ((l.drop o).take k)) else none
  | some false, _ => match l[o]? with
    | some c => some (.one c)
    | none => none
  | _, _ => none

def vecGet (A : Ar τ) (c : Vec τ) (n : Num τ.I) : Option (List (SC τ)) :=
  match c, n with
  | .lit l, .lit k => if 0 ≤ k then l[k.toNat]? else none
  | .lit _, .opn _ => none
  | .opn v, n => some (A.vget v (n.up A))

def vecLen (A : Ar τ) : Vec τ → Num τ.I
  | .lit l => .lit l.length
  | .opn v => .opn (A.vlen v)

def loadS (E : Env τ) (T : TypeId) (a : ST τ) (h : Heap τ) : Option (ST τ) :=
  match a with
  | .one (.ptr i p o) =>
    match h.get i, p with
    | some (.cells l _), [] => asT E.P T l o
    | some (.ccells l _), [] => asT E.P T l o
    | some (.vec _ sz c), [(n, s)] => if s = sz then (match vecGet E.A c n with | some r => if r.length = sz then asT E.P T r o else none | none => none) else none
    | some (.ro _ sz c), [(n, s)] => if s = sz then (match vecGet E.A c n with | some r => if r.length = sz then asT E.P T r o else none | none => none) else none
    | _, _ => none
  | _ => none

def putL (l : List (SC τ)) (o : Nat) (v : List (SC τ)) : List (SC τ) := l.take o ++ (v ++ l.drop (o + v.length))

def storeS (E : Env τ) (T : TypeId) (a x : ST τ) (h : Heap τ) : Option (Heap τ) :=
  match a, stCells x, sizeT E.P T with
  | .one (.ptr i [] o), some v, some k =>
    if v.length = k then
      match h.get i with
      | some (.cells l U) => if o + v.length ≤ l.length then some (h.set i (.cells (putL l o v) U)) else none
      | _ => none
    else none
  | _, _, _ => none

def fillS (place : Nat → Option (Nat × Nat)) : List (SC τ) → List (Nat × ST τ) → Option (List (SC τ))
  | l, [] => some l
  | l, (i, x) :: r => match place i, stCells x with
    | some (o, k), some v => if v.length = k ∧ o + v.length ≤ l.length then fillS place (putL l o v) r else none
    | _, _ => none

def buildS (E : Env τ) (T : TypeId) (parts : List (Nat × ST τ)) : Option (ST τ) :=
  match zeroT E.P T, E.P.underlying T with
  | some z, some (.array _ e) => match sizeT E.P e with
    | some s => match fillS (fun i => some (i * s, s)) z parts with
      | some l => some (.agg l)
      | none => none
    | none => none
  | some z, some (.struct fields) => match fields.toList.mapM (fun f => (E.P.info? f.type).map fun i => (f.offset, i.size)) with
    | some places => match fillS (places.toArray[·]?) z parts with
      | some l => some (.agg l)
      | none => none
    | none => none
  | _, _ => none

def partsS (ρ : Operand → Option (ST τ)) : List (Nat × Operand) → Option (List (Nat × ST τ))
  | [] => some []
  | (i, x) :: r => match ρ x, partsS ρ r with
    | some v, some s => some ((i, v) :: s)
    | _, _ => none

/-- Whether two pointers to places of the heap are one. -/
def ptrEqS (E : Env τ) (h : Heap τ) (e : TypeId) (i j o o' : Nat) : Option (Bol τ.B) :=
  if Nat.beq i j then (match sizeT E.P e with
    | some (_ + 1) => some (.lit (Nat.beq o o'))
    | _ => none) else
  match sizeT E.P e, h.get i, h.get j with
  | some (_ + 1), some (.cells (_ :: _) _), some (.cells (_ :: _) _) => some (.lit (Nat.beq i j && Nat.beq o o'))
  | some (_ + 1), some (.ccells (_ :: _) _), some (.ccells (_ :: _) _) => some (.lit (Nat.beq i j && Nat.beq o o'))
  | some (_ + 1), some (.cells (_ :: _) _), some (.ccells (_ :: _) _) => some (.lit false)
  | some (_ + 1), some (.ccells (_ :: _) _), some (.cells (_ :: _) _) => some (.lit false)
  | _, _, _ => none

/-- '==' of two cells of a type; h: what is there tells pointers apart. -/
def eqC (E : Env τ) (h : Heap τ) (T : TypeId) (x y : SC τ) : Option (Bol τ.B) :=
  match E.P.underlying T with
  | some (.int _) => match x, y with
    | .int k a, .int k' b => if k = k' then some (cmpN E.A .eql a b) else none
    | _, _ => none
  | some .bool => match x, y with
    | .bool a, .bool b => some (eqBB E.A a b)
    | _, _ => none
  | some .string => match x, y with
    | .str a, .str b => some (eqSS E.A a b)
    | _, _ => none
  | some (.pointer e) => match x, y with
    | .nil, .nil => some (.lit true)
    | .nil, .ptr .. => some (.lit false)
    | .ptr .., .nil => some (.lit false)
    | .ptr i [] o, .ptr j [] o' => ptrEqS E h e i j o o'
    | _, _ => none
  | some (.interface _) => match x, y with
    | .nif, .nif => some (.lit true)
    | .nif, .ifc .. => some (.lit false)
    | .ifc .., .nif => some (.lit false)
    | .ifc t a, .ifc u b => if t = u then (match E.P.info? t with
      | some i => if i.comparable then (match E.P.underlying t, a, b with
        | some (.pointer e), .ptr i [] o, .ptr j [] o' => ptrEqS E h e i j o o'
        | _, _, _ => none) else none
      | none => none) else some (.lit false)
    | _, _ => none
  | some (.slice _) => match x, y with
    | .nslc, .nslc => some (.lit true)
    | .nslc, .slc .. => some (.lit false)
    | .slc .., .nslc => some (.lit false)
    | _, _ => none
  | some (.func _ _ _) => match x, y with
    | .nfn, .nfn => some (.lit true)
    | .nfn, .fn _ => some (.lit false)
    | .fn _, .nfn => some (.lit false)
    | _, _ => none
  | _ => none

def eqFs (E : Env τ) (eqT : TypeId → List (SC τ) → List (SC τ) → Option (Bol τ.B)) (xs ys : List (SC τ)) : List Field → Option (Bol τ.B)
  | [] => some (.lit true)
  | f :: fs =>
    match sizeT E.P f.type, aggT E.P f.type with
    | some k, some g =>
      if f.name ≠ "_" ∧ f.offset + k ≤ xs.length ∧ f.offset + k ≤ ys.length ∧ (g = true ∨ k = 1) then
        match eqT f.type ((xs.drop f.offset).take k) ((ys.drop f.offset).take k), eqFs E eqT xs ys fs with
        | some a, some b => some (andB E.A a b)
        | _, _ => none
      else none
    | _, _ => none

def eqOne (E : Env τ) (h : Heap τ) (T : TypeId) (xs ys : List (SC τ)) : Option (Bol τ.B) :=
  match xs, ys with
  | [x], [y] => eqC E h T x y
  | _, _ => none

def eqT (E : Env τ) (h : Heap τ) : Nat → TypeId → List (SC τ) → List (SC τ) → Option (Bol τ.B)
  | 0, _, _, _ => none
  | d + 1, T, xs, ys =>
    match E.P.underlying T with
    | some (.struct fs) => if E.P.stoodInHeld T then none else eqFs E (eqT E h d) xs ys fs.toList
    | some (.array _ _) => none
    | some _ => eqOne E h T xs ys
    | none => none

def isConstO : Operand → Bool
  | .const _ => true
  | _ => false

def eqS (E : Env τ) (h : Heap τ) (T : TypeId) (xo yo : Operand) (x y : ST τ) : Option (Bol τ.B) :=
  match x, y with
  | .agg xs, .agg ys => if E.P.eqGuardType E.P.depth T then none else
    match E.P.underlying T with
    | some (.struct _) => eqT E h 20 T xs ys
    | _ => none
  | .one .nif, .one .nif => if isConstO xo || isConstO yo then eqC E h T .nif .nif else none
  | .one x, .one y => eqC E h T x y
  | _, _ => none

def boolS (b : Bol τ.B) : ST τ := .one (.bool b)

def binS (E : Env τ) (h : Heap τ) (op : BinOp) (T : TypeId) (xo yo : Operand) (x y : ST τ) : Out τ (ST τ) :=
  match x, y with
  | .one (.int k a), .one (.int k' b) =>
    if k = k' then
      if isCmp op then .leaf (boolS (cmpN E.A op a b))
      else if isArith op then .leaf (.one (.int k (arithN E.A op k a b)))
      else if isDiv op then branch (cmpN E.A .eql b (.lit 0)) (.fail "division by zero") (.leaf (.one (.int k (arithN E.A op k a b))))
      else .fail "an operation on numbers"
    else .fail "kinds"
  | .one (.str a), .one (.str b) => match op with
    | .eql => .leaf (boolS (eqSS E.A a b))
    | .neq => .leaf (boolS (notB E.A (eqSS E.A a b)))
    | _ => .fail "an operation on strings"
  | x, y => match op with
    | .eql => match eqS E h T xo yo x y with
      | some b => .leaf (boolS b)
      | none => .fail "=="
    | .neq => match eqS E h T xo yo x y with
      | some b => .leaf (boolS (notB E.A b))
      | none => .fail "!="
    | _ => .fail "an operation"

def pickS (c : Bol τ.B) (a b : Option (ST τ)) : Out τ (ST τ) :=
  branch c (orFail "pick" a) (orFail "pick" b)

/-- One of the first n indices: the test goes through them. -/
def among (E : Env τ) {α : Type} (v : τ.I) (f : Nat → Out τ α) : Nat → Nat → Out τ α
  | _, 0 => .fail "index out of range"
  | i, m + 1 => .ite (E.A.cmp .eql v (E.A.int i)) (f i) (among E v f (i + 1) m)

def inRange (E : Env τ) {α : Type} (n m : Num τ.I) (x : Out τ α) : Out τ α :=
  branch (cmpN E.A .leq (.lit 0) n) (branch (cmpN E.A .lss n m) x (.fail "index out of range")) (.fail "index out of range")

def indexAddrS (E : Env τ) (T : TypeId) (x ix : ST τ) (h : Heap τ) : Out τ (ST τ) :=
  match ix with
  | .one (.int _ n) =>
    match E.P.underlying T, x with
    | some (.array len e), .one (.ptr i p o) =>
      match sizeT E.P e, n with
      | some s, .lit k => if 0 ≤ k ∧ k < len then .leaf (.one (.ptr i p (o + k.toNat * s))) else .fail "index out of range"
      | some s, .opn v => match p with
        | [] => among E v (fun j => .leaf (.one (.ptr i p (o + j * s)))) 0 len
        | _ => .fail "an index into an array in an array"
      | none, _ => .fail "size"
    | some (.slice e), .one (.slc i m) =>
      match sizeT E.P e, h.get i with
      | some s, some (.vec _ s' c) => if s = s' then inRange E n (m.getD (vecLen E.A c)) (.leaf (.one (.ptr i [(n, s)] 0))) else .fail "size"
      | some s, some (.ro _ s' c) => if s = s' then inRange E n (m.getD (vecLen E.A c)) (.leaf (.one (.ptr i [(n, s)] 0))) else .fail "size"
      | _, _ => .fail "a slice of what"
    | _, _ => .fail "an index into what"
  | _ => .fail "index"

def nilS (x : Option (ST τ)) : Out τ (ST τ) :=
  match x with
  | some (.one (.ptr i p o)) => .leaf (.one (.ptr i p o))
  | some (.one (.fn f)) => .leaf (.one (.fn f))
  | some (.one (.ifc t v)) => .leaf (.one (.ifc t v))
  | some (.one (.nil)) => .fail "nil"
  | _ => .fail "nilCheck"

def convS (E : Env τ) (src dst : TypeId) (x : Option (ST τ)) : Out τ (ST τ) :=
  match E.P.underlying src, E.P.underlying dst, x with
  | some _, some (.int k), some (.one (.int _ n)) => .leaf (.one (.int k (convN E.A k n)))
  | _, _, _ => .fail "a conversion"

def fieldAddrS (E : Env τ) (T : TypeId) (f : Nat) (x : Option (ST τ)) : Out τ (ST τ) :=
  match fieldT E.P T f, x with
  | some fd, some (.one (.ptr i p o)) => match sizeT E.P fd.type with
    | some (_ + 1) => .leaf (.one (.ptr i p (o + fd.offset)))
    | _ => .fail "a field without a size"
  | _, _ => .fail "fieldAddr"

def fieldS (E : Env τ) (T : TypeId) (f : Nat) (x : Option (ST τ)) : Out τ (ST τ) :=
  match fieldT E.P T f, x with
  | some fd, some (.agg l) => orFail "field" (asT E.P fd.type l fd.offset)
  | _, _ => .fail "field"

def extractS (x : Option (ST τ)) (ix : Nat) : Out τ (ST τ) :=
  match x with
  | some (.tup l) => match l[ix]? with
    | some (true, c) => .leaf (.agg c)
    | some (false, [c]) => .leaf (.one c)
    | _ => .fail "extract"
  | _ => .fail "extract"

def ifaceS (E : Env τ) (T : TypeId) (x : Option (ST τ)) : Out τ (ST τ) :=
  match E.P.underlying T, x with
  | some (.interface _), _ => .fail "makeInterface"
  | some _, some (.one c) => .leaf (.one (.ifc T c))
  | _, _ => .fail "makeInterface"

def capsOf : SC τ → List (ST τ) → Option (FuncId × List (ST τ))
  | .fn f, l => some (f, l)
  | .cap f x, l => capsOf f (.one x :: l)
  | _, _ => none

def callS (E : Env τ) (call : FuncId → List (ST τ) → Heap τ → Res τ) (f : FuncId) (args : List (ST τ)) (h : Heap τ) : Res τ :=
  match E.P.funcs[f]? with
  | some fn => if fn.name == "runtime.NumGoroutine" then .fail "NumGoroutine" else if fn.body.isNone then .fail "no body" else call f args h
  | none => .fail "no function"

def lenS (E : Env τ) (T : TypeId) (x : ST τ) (h : Heap τ) : Out τ (ST τ) :=
  match E.P.underlying T, x with
  | some (.slice _), .one .nslc => .leaf (.one (.int .i64 (.lit 0)))
  | some (.slice _), .one (.slc i none) => match h.get i with
    | some (.vec _ _ c) => .leaf (.one (.int .i64 (vecLen E.A c)))
    | some (.ro _ _ c) => .leaf (.one (.int .i64 (vecLen E.A c)))
    | _ => .fail "len"
  | some (.slice _), .one (.slc _ (some m)) => .leaf (.one (.int .i64 m))
  | _, _ => .fail "len"

def lackS (P : Program) (t : TypeId) (want : Array (String × TypeId)) : Option Bool :=
  match P.info? t with
  | some i => some (lacking want i.methods).isEmpty
  | none => none

def zeroNif (P : Program) (t : TypeId) : Bool :=
  match P.info? t with
  | some i => match i.zero with
    | some .nilIface => true
    | _ => false
  | none => false

def typeAssertS (E : Env τ) (asserted : TypeId) (ok : Bool) (x : Option (ST τ)) : Out τ (ST τ) :=
  match E.P.underlying asserted, x with
  | some (.interface want), some (.one (.ifc t v)) => match lackS E.P t want with
    | some true => .leaf (if ok then .tup [(false, [.ifc t v]), (false, [.bool (.lit true)])] else .one (.ifc t v))
    | some false => if ok && zeroNif E.P asserted then .leaf (.tup [(false, [.nif]), (false, [.bool (.lit false)])]) else .fail "typeAssert"
    | none => .fail "typeAssert"
  | _, _ => .fail "typeAssert"

def methodS (E : Env τ) (t : TypeId) (name : String) : Option FuncId :=
  match E.P.info? t, E.P.underlying t with
  | some i, some (.pointer _) => match i.methods.find? (·.name == name) with
    | some m => match m.func with
      | some (f, true) => if m.path.isEmpty then some f else none
      | _ => none
    | none => none
  | _, _ => none

def capFn (f : FuncId) (caps : List (SC τ)) : SC τ := caps.foldl .cap (.fn f)

def mapOnes : List (ST τ) → Option (List (SC τ))
  | [] => some []
  | .one c :: r => match mapOnes r with
    | some s => some (c :: s)
    | none => none
  | _ :: _ => none

def unS (E : Env τ) (op : UnOp) (x : Option (ST τ)) : Out τ (ST τ) :=
  match op, x with
  | .not, some (.one (.bool b)) => .leaf (boolS (notB E.A b))
  | _, _ => .fail "an operation of one"

def makeFuncS (fn : Fn) (n : Nat) (caps : Option (List (ST τ))) : Out τ (ST τ) :=
  match fn, n, caps with
  | .func f, 0, some l => match mapOnes l with
    | some cs => .leaf (.one (capFn f cs))
    | none => .fail "makeFunc"
  | _, _, _ => .fail "makeFunc"

def builtinS (E : Env τ) (b : Builtin) (ts : Array TypeId) (args : List (ST τ)) (h : Heap τ) : Res τ :=
  match b with
  | .len => match ts[0]?, args with
    | some T, [x] => (lenS E T x h).bind fun v => .leaf (v, h)
    | _, _ => .fail "len"
  | _ => .fail "a built-in"

def stepOp (E : Env τ) (call : FuncId → List (ST τ) → Heap τ → Res τ) (ρ : Operand → Option (ST τ)) (op : Op) (h : Heap τ) : Res τ :=
  let same (x : Out τ (ST τ)) : Res τ := x.bind fun v => .leaf (v, h)
  match op with
  | .move x | .assign x => same (orFail "operand" (ρ x))
  | .pick c a b => match ρ c with
    | some (.one (.bool c)) => same (pickS c (ρ a) (ρ b))
    | _ => .fail "pick"
  | .alloc T => match zeroT E.P T with
    | some l => .leaf (.one (.ptr h.n [] 0), h.push (.cells l T))
    | none => .fail "alloc"
  | .box T x => match ρ x with
    | some v => match stCells v with
      | some l => .leaf (.one (.ptr h.n [] 0), h.push (.cells l T))
      | none => .fail "box"
    | none => .fail "box"
  | .build T parts => match partsS ρ parts.toList with
    | some ps => same (orFail "build" (buildS E T ps))
    | none => .fail "build"
  | .load T a => match ρ a with
    | some a => same (orFail "load" (loadS E T a h))
    | none => .fail "load"
  | .store T a x => match ρ a, ρ x with
    | some a, some x => match storeS E T a x h with
      | some h' => .leaf (undefS, h')
      | none => .fail "store"
    | _, _ => .fail "store"
  | .nilCheck x => same (nilS (ρ x))
  | .binOp op T x y _ => match ρ x, ρ y with
    | some a, some b => same (binS E h op T x y a b)
    | _, _ => .fail "binOp"
  | .unOp op _ x => same (unS E op (ρ x))
  | .convert s d x => same (convS E s d (ρ x))
  | .makeInterface T x => same (ifaceS E T (ρ x))
  | .fieldAddr T x f => same (fieldAddrS E T f (ρ x))
  | .field T x f => same (fieldS E T f (ρ x))
  | .indexAddr T x ix => match ρ x, ρ ix with
    | some a, some b => same (indexAddrS E T a b h)
    | _, _ => .fail "indexAddr"
  | .extract x ix => same (extractS (ρ x) ix)
  | .typeAssert x _ t ok => same (typeAssertS E t ok (ρ x))
  | .makeFunc fn first caps => same (makeFuncS fn first.size (mapO ρ caps.toList))
  | .call c => match mapO ρ c.args.toList with
    | some args => match c.callee with
      | .value g => match ρ g with
        | some (.one g) => match capsOf g [] with
          | some (f, caps) => callS E call f (args ++ caps) h
          | none => .fail "a call of what"
        | _ => .fail "a call of what"
      | .builtin b => builtinS E b c.argTypes args h
      | .invoke r name => match ρ r with
        | some (.one (.ifc t v)) => match methodS E t name with
          | some f => callS E call f (.one v :: args) h
          | none => .fail "invoke"
        | _ => .fail "invoke"
    | none => .fail "an argument of a call"
  | _ => .fail "an operation of a kind"

/-- A slot is written, if it is one of the frame's n. -/
def putT (n : Nat) (tm : List (Nat × ST τ)) (d : Option Nat) (v : ST τ) : Out τ (List (Nat × ST τ)) :=
  match d with
  | none => .leaf tm
  | some t => if Nat.blt t n then .leaf ((t, v) :: tm) else .fail "slot"

/-- Whether an operation's guard lets it run; what is learned of the guard's slot. -/
def guardS (ops : Array Oper) (o : Oper) (tm : List (Nat × ST τ)) : Out τ (Bool × List (Nat × ST τ)) :=
  match o.guard with
  | none => .leaf (true, tm)
  | some (j, want) =>
    match ops[j]? with
    | some g => match g.dst with
      | some t => match look tm t with
        | some (.one (.bool (.lit b))) => .leaf (b == want, tm)
        | some (.one (.bool (.opn b))) => .ite b (.leaf (want, (t, .one (.bool (.lit true))) :: tm)) (.leaf (!want, (t, .one (.bool (.lit false))) :: tm))
        | some (.tup []) => .leaf (false, tm)
        | _ => .fail "guard"
      | none => .fail "guard"
    | none => .fail "guard"

def runOps (E : Env τ) (call : FuncId → List (ST τ) → Heap τ → Res τ) (n : Nat) (ops : Array Oper) : List Oper → List (Nat × ST τ) → Heap τ → Out τ (List (Nat × ST τ) × Heap τ)
  | [], tm, h => .leaf (tm, h)
  | o :: r, tm, h =>
    (guardS ops o tm).bind fun (w, tm) =>
      if w then (stepOp E call (opnd E tm) o.op h).bind fun (v, h) => (putT n tm o.dst v).bind fun tm => runOps E call n ops r tm h
      else (putT n tm o.dst undefS).bind fun tm => runOps E call n ops r tm h

def SC.under (n : Nat) : SC τ → Bool
  | .ptr i _ _ => Nat.blt i n
  | .slc i _ => Nat.blt i n
  | .ifc _ v => v.under n
  | .cap f x => f.under n && x.under n
  | _ => true

def allB {α : Type} (p : α → Bool) : List α → Bool
  | [] => true
  | a :: r => p a && allB p r

def ST.under (n : Nat) : ST τ → Bool
  | .one c => c.under n
  | .agg l => allB (SC.under n) l
  | .tup l => allB (fun x => allB (SC.under n) x.2) l

def Ent.under (n : Nat) : Ent τ → Bool
  | .cells l _ | .ccells l _ => allB (SC.under n) l
  | .vec _ _ (.lit l) | .ro _ _ (.lit l) => allB (allB (SC.under n)) l
  | _ => true


/-- An operation of a drawn region: what it put where; which places it looked at; whether it may write them; the heap behind it. -/
structure Rec (τ : Ty) where
  dst : Option Nat
  rd : List Nat
  v : ST τ
  u : List Nat
  wr : Bool
  base : Nat
  h1 : Heap τ

def memN (i : Nat) : List Nat → Bool
  | [] => false
  | k :: r => if Nat.beq k i then true else memN i r

def meets (a b : List Nat) : Bool :=
  match a with
  | [] => false
  | i :: r => if memN i b then true else meets r b

def SC.idxs : SC τ → List Nat
  | .ptr i _ _ => [i]
  | .slc i _ => [i]
  | .ifc _ v => v.idxs
  | .cap f x => f.idxs ++ x.idxs
  | _ => []

def catMap {α β : Type} (f : α → List β) : List α → List β
  | [] => []
  | a :: r => f a ++ catMap f r

def ST.idxs : ST τ → List Nat
  | .one c => c.idxs
  | .agg l => catMap SC.idxs l
  | .tup l => catMap (fun x => catMap SC.idxs x.2) l

def Ent.idxs : Ent τ → List Nat
  | .cells l _ | .ccells l _ => catMap SC.idxs l
  | .vec _ _ (.lit l) | .ro _ _ (.lit l) => catMap (catMap SC.idxs) l
  | _ => []

def addAll : List Nat → List Nat → List Nat
  | [], acc => acc
  | i :: r, acc => if memN i acc then addAll r acc else addAll r (i :: acc)

/-- What can be reached from some places. -/
def reach (h : Heap τ) : Nat → List Nat → List Nat → List Nat
  | 0, _, acc => acc
  | _ + 1, [], acc => acc
  | n + 1, todo, acc =>
    let new := (addAll todo []).filter fun i => !memN i acc
    reach h n (catMap (fun i => match h.get i with | some e => e.idxs | none => []) new) (addAll new acc)

def opTmps (o : Op) : List Nat := catMap (fun x => match x with | .tmp t => [t] | _ => []) o.operands.toList

def usesOf (ρ : Operand → Option (ST τ)) (h : Heap τ) (o : Op) : List Nat :=
  match o with
  | .load _ a | .store _ a _ => match ρ a with | some v => addAll v.idxs [] | none => []
  | .indexAddr _ a _ => match ρ a with | some v => addAll v.idxs [] | none => []
  | .binOp _ _ x y _ => addAll (match ρ x with | some v => v.idxs | none => []) (addAll (match ρ y with | some v => v.idxs | none => []) [])
  | .call c => match c.callee with
    | .value g => reach h 5 (catMap (fun x => match ρ x with | some v => v.idxs | none => []) (g :: c.args.toList)) []
    | .invoke g _ => reach h 5 (catMap (fun x => match ρ x with | some v => v.idxs | none => []) (g :: c.args.toList)) []
    | _ => addAll (catMap (fun x => match ρ x with | some v => v.idxs | none => []) c.args.toList) []
  | _ => []

/-- Whether an operation may write what it looks at. -/
def wrBuiltin : Builtin → Bool
  | .len => false
  | _ => true

def wrOf : Op → Bool
  | .store .. => true
  | .call c => match c.callee with
    | .builtin b => wrBuiltin b
    | _ => true
  | _ => false

def restrictL (u : List Nat) : List (Nat × Ent τ) → List (Nat × Ent τ)
  | [] => []
  | (k, e) :: r => if memN k u then (k, e) :: restrictL u r else restrictL u r

def inU (u : List Nat) (lo hi k : Nat) : Bool := memN k u || (Nat.ble lo k && Nat.blt k hi)

def keepL (u : List Nat) (lo hi : Nat) : List (Nat × Ent τ) → List (Nat × Ent τ)
  | [] => []
  | (k, e) :: r => if inU u lo hi k then (k, e) :: keepL u lo hi r else keepL u lo hi r

def dropL (u : List Nat) (lo hi : Nat) : List (Nat × Ent τ) → List (Nat × Ent τ)
  | [] => []
  | (k, e) :: r => if inU u lo hi k then dropL u lo hi r else (k, e) :: dropL u lo hi r

def catL {α : Type} : List α → List α → List α
  | [], b => b
  | a :: r, b => a :: catL r b

def mergeH (h : Heap τ) (u : List Nat) (h1 : Heap τ) : Heap τ := ⟨h1.n, catL (keepL u h.n h1.n h1.l) (dropL u h.n h1.n h.l)⟩

def restrictT (tm : List (Nat × ST τ)) : List Nat → List (Nat × ST τ)
  | [] => []
  | t :: r => match look tm t with
    | some v => (t, v) :: restrictT tm r
    | none => restrictT tm r

/-- The operations that must come ahead of each. -/
def predsOf (ops : Array Oper) : List Oper → List (List Nat) → List (List Nat)
  | [], acc => acc
  | o :: r, acc => predsOf ops r (acc ++ [catMap (fun e => if Region.binds .any e then e.on :: (acc.getD e.on []) else []) o.after.toList])

/-- Whether two operations (the first one ahead in the text) must keep their order. -/
def conf (a b : Rec τ) : Bool :=
  (match a.dst with | some d => memN d b.rd || (match b.dst with | some d' => Nat.beq d d' | none => false) | none => false) ||
  (match b.dst with | some d => memN d a.rd | none => false) ||
  ((a.wr || b.wr) && meets a.u b.u) ||
  !allB (fun i => Nat.blt i a.base || Nat.ble a.h1.n i) b.u

def ordered (r : Rec τ) (pr : List Nat) : Nat → List (Rec τ) → Bool
  | _, [] => true
  | j, q :: rest => (!conf q r || memN j pr) && ordered r pr (j + 1) rest

def guardD (ops : Array Oper) (o : Oper) (tm : List (Nat × ST τ)) : Out τ (Bool × List Nat × List (Nat × ST τ)) :=
  match o.guard with
  | none => .leaf (true, [], tm)
  | some (j, want) =>
    match ops[j]? with
    | some g => match g.dst with
      | some t => match look tm t with
        | some (.one (.bool (.lit b))) => .leaf (b == want, [t], tm)
        | some (.one (.bool (.opn b))) => .ite b (.leaf (want, [t], (t, .one (.bool (.lit true))) :: tm)) (.leaf (!want, [t], (t, .one (.bool (.lit false))) :: tm))
        | some (.tup []) => .leaf (false, [t], tm)
        | _ => .fail "guard"
      | none => .fail "guard"
    | none => .fail "guard"

def globOK (E : Env τ) (n : Nat) : Bool := allB (fun x => Nat.blt x.2 n) E.glob

/-- Whether the text's own order is one that may come. -/
def textOK : Nat → List Oper → Bool
  | _, [] => true
  | i, o :: r => allB (fun e => !Region.binds .any e || Nat.blt e.on i) o.after.toList && textOK (i + 1) r

/-- A region that draws its order: walked in the text's order; what may come otherwise is held apart. -/
def runDraw (E : Env τ) (call : FuncId → List (ST τ) → Heap τ → Res τ) (n : Nat) (ops : Array Oper) (preds : List (List Nat)) : List Oper → Nat → List (Nat × ST τ) → Heap τ → List (Rec τ) → Out τ (List (Nat × ST τ) × Heap τ × List (Rec τ))
  | [], _, tm, h, recs => .leaf (tm, h, recs)
  | o :: r, i, tm, h, recs =>
    (guardD ops o tm).bind fun (g, gt, tm) =>
      if g then
        let rd := catL gt (opTmps o.op)
        let u := usesOf (opnd E tm) h o.op
        let tmr := restrictT tm rd
        let hr : Heap τ := ⟨h.n, restrictL u h.l⟩
        if allB (fun i => Nat.blt i h.n) u && globOK E h.n && allB (fun x => x.2.under h.n) tmr && allB (fun x => x.2.under h.n) hr.l then
          (stepOp E call (opnd E tmr) o.op hr).bind fun (v, h1) =>
            let rc : Rec τ := ⟨o.dst, rd, v, u, wrOf o.op, h.n, h1⟩
            if Nat.ble h.n h1.n && ordered rc (preds.getD i []) 0 recs then
              (putT n tm o.dst v).bind fun tm => runDraw E call n ops preds r (i + 1) tm (mergeH h u h1) (recs ++ [rc])
            else .fail "an order that matters"
        else .fail "a drawn region's operation"
      else
        let rc : Rec τ := ⟨o.dst, gt, undefS, [], false, h.n, ⟨h.n, []⟩⟩
        if ordered rc (preds.getD i []) 0 recs then
          (putT n tm o.dst undefS).bind fun tm => runDraw E call n ops preds r (i + 1) tm h (recs ++ [rc])
        else .fail "an order that matters"

def firstId : Code → Option Nat
  | .region id _ _ => some id
  | .seq a b => match firstId a with
    | some k => some k
    | none => firstId b
  | .cond _ a b => match firstId a with
    | some k => some k
    | none => firstId b
  | .block _ c | .scope c | .loop c => firstId c
  | _ => none

def loopsOf : Code → List Code
  | .seq a b => loopsOf a ++ loopsOf b
  | .cond _ a b => loopsOf a ++ loopsOf b
  | .block _ c | .scope c => loopsOf c
  | .loop c => c :: loopsOf c
  | _ => []

def loopSp (E : Env τ) (fid : FuncId) (c : Code) : Option (List (Nat × ST τ) → Heap τ → Ran τ) :=
  match firstId c with
  | some k => E.loop fid k
  | none => none

def loopS (f : List (Nat × ST τ) → Heap τ → Ran τ) : Nat → List (Nat × ST τ) → Heap τ → Ran τ
  | 0, _, _ => .fail "rounds"
  | m + 1, tm, h => (f tm h).bind fun (ex, tm, h) => match ex with
    | .normal => loopS f m tm h
    | ex => .leaf (ex, tm, h)

/-- What a test tells of its slot. -/
def learn (c : Operand) (b : Bool) (tm : List (Nat × ST τ)) : List (Nat × ST τ) :=
  match c with
  | .tmp t => (t, .one (.bool (.lit b))) :: tm
  | _ => tm

def execC (E : Env τ) (fid : FuncId) (call : FuncId → List (ST τ) → Heap τ → Res τ) (n lf : Nat) : Code → List (Nat × ST τ) → Heap τ → Ran τ
  | .skip, tm, h => .leaf (.normal, tm, h)
  | .label _, tm, h => .leaf (.normal, tm, h)
  | .ret, tm, h => .leaf (.ret, tm, h)
  | .exit id, tm, h => .leaf (.exit id, tm, h)
  | .region _ ops false, tm, h => (runOps E call n ops ops.toList tm h).bind fun (tm, h) => .leaf (.normal, tm, h)
  | .region _ ops true, tm, h =>
    if textOK 0 ops.toList then (runDraw E call n ops (predsOf ops ops.toList []) ops.toList 0 tm h []).bind fun (tm, h, _) => .leaf (.normal, tm, h)
    else .fail "a drawn region's text"
  | .seq a b, tm, h => (execC E fid call n lf a tm h).bind fun (ex, tm, h) => match ex with
    | .normal => execC E fid call n lf b tm h
    | ex => .leaf (ex, tm, h)
  | .cond c x y, tm, h => match opnd E tm c with
    | some (.one (.bool (.lit b))) => branch (.lit b) (execC E fid call n lf x tm h) (execC E fid call n lf y tm h)
    | some (.one (.bool (.opn b))) => .ite b (execC E fid call n lf x (learn c true tm) h) (execC E fid call n lf y (learn c false tm) h)
    | _ => .fail "a test"
  | .block id c, tm, h => (execC E fid call n lf c tm h).bind fun (ex, tm, h) => match ex with
    | .exit k => if Nat.beq k id then .leaf (.normal, tm, h) else .leaf (.exit k, tm, h)
    | ex => .leaf (ex, tm, h)
  | .scope c, tm, h => execC E fid call n lf c tm h
  | .loop c, tm, h => match loopSp E fid c with
    | some sp => sp tm h
    | none => loopS (execC E fid call n lf c) lf tm h
  | _, _, _ => .fail "code of a kind"

def numbered : Nat → List (ST τ) → List (Nat × ST τ)
  | _, [] => []
  | i, v :: r => (i, v) :: numbered (i + 1) r

def compS : ST τ → Option (Bool × List (SC τ))
  | .one c => some (false, [c])
  | .agg l => some (true, l)
  | .tup _ => none

def resS (E : Env τ) (tm : List (Nat × ST τ)) (h : Heap τ) : List ResultVar → Option (List (ST τ))
  | [] => some []
  | .tmp t :: r => match look tm t, resS E tm h r with
    | some v, some s => some (v :: s)
    | _, _ => none
  | .cell a t :: r => match look tm a, resS E tm h r with
    | some p, some s => match loadS E t p h with
      | some v => some (v :: s)
      | none => none
    | _, _ => none

def resultS : List (ST τ) → Option (ST τ)
  | [v] => some v
  | l => match mapO compS l with
    | some cs => some (.tup cs)
    | none => none

def gcL (base : Nat) (keep : List Nat) : List (Nat × Ent τ) → List (Nat × Ent τ)
  | [] => []
  | (k, e) :: r => if Nat.blt k base || memN k keep then (k, e) :: gcL base keep r else gcL base keep r

def finS (E : Env τ) (h : Heap τ) (args : List (ST τ)) (rs : List ResultVar) (tm : List (Nat × ST τ)) (h1 : Heap τ) : Res τ :=
  match resS E tm h1 rs with
  | none => .fail "results"
  | some l => match resultS l with
    | none => .fail "result"
    | some v => .leaf (v, ⟨h1.n, gcL h.n (reach h1 12 (v.idxs ++ catMap ST.idxs args) []) h1.l⟩)

def callN (E : Env τ) (lf : Nat) : Nat → FuncId → List (ST τ) → Heap τ → Res τ
  | 0, _, _, _ => .fail "depth"
  | m + 1, f, args, h =>
    match E.spec f with
    | some sp => sp args h
    | none =>
      match E.P.funcs[f]? with
      | none => .fail "no function"
      | some fn => match fn.body with
        | none => .fail "no body"
        | some c =>
          if Nat.ble args.length fn.ntmps then
            (execC E f (callN E lf m) fn.ntmps lf c (numbered 0 args) h).bind fun (ex, tm, h1) =>
              match ex with
              | .exit _ => .fail "exit"
              | _ => finS E h args fn.results.toList tm h1
          else .fail "slots"

/-- What nobody writes. -/
def isC : Option (Ent τ) → Bool
  | some (.ccells ..) => true
  | some (.ro ..) => true
  | _ => false
def constL (h : Heap τ) : List (Nat × Ent τ) → List (Nat × Ent τ)
  | [] => []
  | (k, e) :: r => if isC (h.get k) then (k, e) :: constL h r else constL h r
def constOnly (h : Heap τ) : Heap τ := ⟨h.n, constL h h.l⟩

/-- A loop that is left by its block's end, and of which nothing is told but that what nobody writes is there still. -/
def quietLoop (id : Nat) (_ : List (Nat × ST τ)) (h : Heap τ) : Ran τ := .leaf (.exit id, [], constOnly h)

/-- An outcome, by a part of it. -/
def Out.map {α β : Type} (f : α → β) : Out τ α → Out τ β
  | .leaf a => .leaf (f a)
  | .ite b l r => .ite b (l.map f) (r.map f)
  | .fail s => .fail s

/-- errors.Is of a sentinel (its pointer's type: tE), by errors.is (the function fis). -/
def isSpec (E : Env τ) (fis tE : Nat) (args : List (ST τ)) (h : Heap τ) : Res τ :=
  match args with
  | [.one (.ifc t v), .one (.ifc u x)] => if Nat.beq u tE then callN E 40 40 fis [.one (.ifc t v), .one (.ifc u x), .one (.bool (.lit true))] h else .fail "Is"
  | _ => .fail "Is"

def withIs (E : Env τ) (fIs fis tE : Nat) : Env τ := { E with spec := fun f => if Nat.beq f fIs then some (isSpec E fis tE) else E.spec f }

end
end Go.Vse
