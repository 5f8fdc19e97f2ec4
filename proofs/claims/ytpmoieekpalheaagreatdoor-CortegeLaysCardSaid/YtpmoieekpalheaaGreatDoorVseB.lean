/- The symbolic executor: one operation, a region, code, a call. -/
import Derived.Test.YtpmoieekpalheaaGreatDoorVseA
namespace Go.Vse
open Go
noncomputable section

section
variable {τ : Ty}

/-- How code ends. -/
inductive Ex | normal | exit (id : Nat) | ret

abbrev Ran (τ : Ty) := Out τ (Ex × List (Nat × ST τ) × Heap τ)

/-- What a walk is made with: the program; the arithmetic; where its variables lie; summaries of functions; summaries of loops (a function's, by the number of the loop's first region); which remainder of a slot's number is looked at (none: all). -/
structure Env (τ : Ty) where
  P : Program
  A : Ar τ
  glob : List (Nat × Nat)
  spec : FuncId → Option (List (ST τ) → Heap τ → Out τ (ST τ × Heap τ))
  loop : FuncId → Nat → Option (List (Nat × ST τ) → Heap τ → Ran τ)
  hint : Nat → Option Nat

abbrev Tm' (τ : Ty) := List (Nat × ST τ)
abbrev Res (τ : Ty) := Out τ (ST τ × Heap τ)

def constSC : Value → Option (SC τ)
  | .bool b => some (.bool (.lit b))
  | .int k n => some (.int k (.lit n))
  | .string s => some (.str (.lit s))
  | .pointer none => some .nil
  | .slice none 0 0 => some .nslc
  | .nilIface => some .nif
  | .nilFunc => some .nfn
  | .map none => some .nmap
  | _ => none

def mapO {α β : Type} (f : α → Option β) (l : List α) : Option (List β) := List.rec (motive := fun _ => Option (List β)) (some []) (fun a _ ih => match f a, ih with
    | some b, some s => some (b :: s)
    | _, _ => none) l
theorem mapO_nil {α β : Type} (f : α → Option β) : mapO f [] = some [] := rfl
theorem mapO_cons {α β : Type} (f : α → Option β) (a : α) (r : List α) : mapO f (a :: r) = match f a, mapO f r with
    | some b, some s => some (b :: s)
    | _, _ => none := rfl

def constST : Value → Option (ST τ)
  | .agg cs => match mapO constSC cs.toList with
    | some l => some (.agg l)
    | none => none
  | .tuple cs => if cs.size = 0 then some (.tup []) else none
  | v => match constSC v with
    | some c => some (.one c)
    | none => none

def undefS : ST τ := .tup []

def opnd (E : Env τ) (tm : List (Nat × ST τ)) : Operand → Option (ST τ)
  | .tmp t => look tm t
  | .const v => constST v
  | .global g => match look E.glob g with
    | some i => some (.one (.ptr i [] 0))
    | none => none
  | .func f => some (.one (.fn f))

def stCells : ST τ → Option (List (SC τ))
  | .one c => some [c]
  | .agg l => some l
  | .tup _ => none

def zeroT (P : Program) (T : TypeId) : Option (List (SC τ)) :=
  match P.info? T with
  | some i => match i.zero with
    | some z => mapO constSC z.cells.toList
    | none => none
  | none => none

def sizeT (P : Program) (T : TypeId) : Option Nat :=
  match P.info? T with
  | some i => some i.size
  | none => none

def aggT (P : Program) (T : TypeId) : Option Bool :=
  match P.underlying T with
  | some (.struct _) => some true
  | some (.array _ _) => some true
  | some _ => some false
  | none => none

def fieldT (P : Program) (T : TypeId) (f : Nat) : Option Field :=
  match P.underlying T with
  | some (.struct fs) => fs[f]?
  | _ => none

/-- Some cells, as a value of a type. -/
def asT (P : Program) (T : TypeId) (l : List (SC τ)) (o : Nat) : Option (ST τ) :=
  match aggT P T, sizeT P T with
  | some true, some k => if o + k ≤ l.length then some (.agg ((l.drop o).take k)) else none
  | some false, _ => match l[o]? with
    | some c => some (.one c)
    | none => none
  | _, _ => none

def catL' {α : Type} : List α → List α → List α
  | [], b => b
  | a :: r, b => a :: catL' r b

def vecGet (A : Ar τ) (c : Vec τ) (n : Num τ.I) : Option (List (SC τ)) :=
  match c, n with
  | .lit l, .lit k => if 0 ≤ k then l[k.toNat]? else none
  | .lit _, .opn _ => none
  | .opn v, n => some (A.vget v (n.up A))

def vecLen (A : Ar τ) : Vec τ → Num τ.I
  | .lit l => .lit l.length
  | .opn v => .opn (A.vlen v)

def loadS (E : Env τ) (T : TypeId) (a : ST τ) (h : Heap τ) : Option (ST τ) :=
  match a with
  | .one (.ptr i p o) =>
    match h.get i, p with
    | some (.cells l _), [] => asT E.P T l o
    | some (.ccells l _), [] => asT E.P T l o
    | some (.vec _ sz c), [(n, s)] => if s = sz then (match vecGet E.A c n with | some r => if r.length = sz then asT E.P T r o else none | none => none) else none
    | some (.ro _ sz c), [(n, s)] => if s = sz then (match vecGet E.A c n with | some r => if r.length = sz then asT E.P T r o else none | none => none) else none
    | _, _ => none
  | _ => none

def putL (l : List (SC τ)) (o : Nat) (v : List (SC τ)) : List (SC τ) := l.take o ++ (v ++ l.drop (o + v.length))

def storeS (E : Env τ) (T : TypeId) (a x : ST τ) (h : Heap τ) : Option (Heap τ) :=
  match a, stCells x, sizeT E.P T with
  | .one (.ptr i [] o), some v, some k =>
    if v.length = k then
      match h.get i with
      | some (.cells l U) => if o + v.length ≤ l.length then some (h.set i (.cells (putL l o v) U)) else none
      | _ => none
    else none
  | _, _, _ => none

/-- A row of an array of one's own is written anew. -/
def vecSet (A : Ar τ) (c : Vec τ) (n : Num τ.I) (row : List (SC τ)) : Option (Vec τ) :=
  match c, n with
  | .lit l, .lit k => if 0 ≤ k ∧ k < l.length then some (.lit (l.set k.toNat row)) else none
  | .lit _, .opn _ => none
  | .opn v, n => match A.vset v (n.up A) row with
    | some v' => some (.opn v')
    | none => none

def vecCat (A : Ar τ) (a b : Vec τ) : Option (Vec τ) :=
  match a, b with
  | .lit l, .lit r => some (.lit (catL' l r))
  | .opn v, .lit r => match A.vapp v r with
    | some v' => some (.opn v')
    | none => none
  | .opn v, .opn u => match A.vcat v u with
    | some v' => some (.opn v')
    | none => none
  | .lit [], .opn u => some (.opn u)
  | .lit (_ :: _), .opn _ => none

def rmL (i : Nat) : List (Nat × Ent τ) → List (Nat × Ent τ)
  | [] => []
  | (k, e) :: r => if Nat.beq k i then rmL i r else (k, e) :: rmL i r

/-- A place is new; another one may be gone by it. -/
def Heap.remake (h : Heap τ) (drop : Option Nat) (e : Ent τ) : Heap τ :=
  ⟨h.n + 1, (h.n, e) :: match drop with
    | some i => rmL i h.l
    | none => h.l⟩

def chunk (sz : Nat) : Nat → List (SC τ) → List (List (SC τ))
  | 0, _ => []
  | n + 1, l => l.take sz :: chunk sz n (l.drop sz)

def reps {α : Type} : Nat → List α → List α
  | 0, _ => []
  | n + 1, l => l ++ reps n l

def fillS (place : Nat → Option (Nat × Nat)) : List (SC τ) → List (Nat × ST τ) → Option (List (SC τ))
  | l, [] => some l
  | l, (i, x) :: r => match place i, stCells x with
    | some (o, k), some v => if v.length = k ∧ o + v.length ≤ l.length then fillS place (putL l o v) r else none
    | _, _ => none

def buildS (E : Env τ) (T : TypeId) (parts : List (Nat × ST τ)) : Option (ST τ) :=
  match zeroT E.P T, E.P.underlying T with
  | some z, some (.array _ e) => match sizeT E.P e with
    | some s => match fillS (fun i => some (i * s, s)) z parts with
      | some l => some (.agg l)
      | none => none
    | none => none
  | some z, some (.struct fields) => match fields.toList.mapM (fun f => (E.P.info? f.type).map fun i => (f.offset, i.size)) with
    | some places => match fillS (places.toArray[·]?) z parts with
      | some l => some (.agg l)
      | none => none
    | none => none
  | _, _ => none

def partsS (ρ : Operand → Option (ST τ)) : List (Nat × Operand) → Option (List (Nat × ST τ))
  | [] => some []
  | (i, x) :: r => match ρ x, partsS ρ r with
    | some v, some s => some ((i, v) :: s)
    | _, _ => none

/-- A store into an element of an array of one's own. -/
def storeV (E : Env τ) (T : TypeId) (a x : ST τ) (h : Heap τ) : Option (Heap τ) :=
  match a, stCells x, sizeT E.P T with
  | .one (.ptr i [(n, s)] o), some v, some k =>
    if v.length = k then
      match h.get i with
      | some (.vec U sz c) => if s = sz then (match vecGet E.A c n with
        | some r => if r.length = sz ∧ o + v.length ≤ sz then (match vecSet E.A c n (putL r o v) with
          | some c' => some (h.set i (.vec U sz c'))
          | none => none) else none
        | none => none) else none
      | _ => none
    else none
  | _, _, _ => none

/-- A slice that is written out. -/
def buildSliceS (E : Env τ) (T : TypeId) (len : Nat) (parts : List (Nat × ST τ)) (h : Heap τ) : Option (ST τ × Heap τ) :=
  match E.P.underlying T with
  | some (.slice e) => match sizeT E.P e, zeroT E.P e with
    | some sz, some z => if 0 < len ∧ 0 < sz ∧ len * sz ≤ 16777216 ∧ z.length = sz then
        match fillS (fun i => some (i * sz, sz)) (reps len z) parts with
        | some l => some (.one (.slc h.n none), h.remake none (.vec e sz (.lit (chunk sz len l))))
        | none => none
      else if len = 0 ∧ parts.isEmpty then some (.one (.slc h.n none), h.remake none (.vec e sz (.lit []))) else none
    | _, _ => none
  | _ => none

def bytesT (P : Program) (T : TypeId) : Option Nat :=
  match P.info? T with
  | some i => some i.bytes
  | none => none

def vecSub (A : Ar τ) (c : Vec τ) (l h : Num τ.I) : Option (Vec τ) :=
  match c, l, h with
  | .lit r, .lit a, .lit b => some (.lit ((r.drop a.toNat).take (b.toNat - a.toNat)))
  | .lit _, _, _ => none
  | .opn v, a, b => match A.vsub v (a.up A) (b.up A) with
    | some v' => some (.opn v')
    | none => none

/-- The first elements of an array, or all. -/
def vecPre (A : Ar τ) (c : Vec τ) (m : Option (Num τ.I)) : Option (Vec τ) :=
  match m with
  | none => some c
  | some m => vecSub A c (.lit 0) m

/-- What a slice has, and where. -/
def rowsS (A : Ar τ) (h : Heap τ) (sz : Nat) : ST τ → Option (Option Nat × Vec τ)
  | .one .nslc => some (none, .lit [])
  | .one (.eslc _) => some (none, .lit [])
  | .one (.slc i m) => match h.get i with
    | some (.vec _ s c) => if s = sz then (match vecPre A c m with | some c' => some (some i, c') | none => none) else none
    | some (.ro _ s c) => if s = sz then (match vecPre A c m with | some c' => some (some i, c') | none => none) else none
    | _ => none
  | _ => none

def isOwnVec (h : Heap τ) (i : Nat) (e : TypeId) : Bool :=
  match h.get i with
  | some (.vec T _ _) => Nat.beq T e
  | _ => false

def smallB (A : Ar τ) : Vec τ → Bol τ.B
  | .lit l => .lit (Nat.ble l.length 1048576)
  | .opn v => cmpN A .leq (.opn (A.vlen v)) (.lit 1048576)

def emptyB (A : Ar τ) : Vec τ → Bol τ.B
  | .lit [] => .lit true
  | .lit (_ :: _) => .lit false
  | .opn v => cmpN A .eql (.opn (A.vlen v)) (.lit 0)

/-- append: onto nothing, or onto an array of one's own, which is gone by it. -/
def appendS (E : Env τ) (T : TypeId) (s x : ST τ) (h : Heap τ) : Out τ (ST τ × Heap τ) :=
  match E.P.underlying T with
  | some (.slice e) => match sizeT E.P e, bytesT E.P e, zeroT (τ := τ) E.P e with
    | some sz, some by', some z =>
      if 0 < sz ∧ by' ≤ 16777216 ∧ z.length = sz then
        match rowsS E.A h sz s, rowsS E.A h sz x with
        | some (p, c1), some (q, c2) => match q with
          | none => .leaf (s, h)
          | some _ => branch (smallB E.A c2) (match p with
            | none => branch (emptyB E.A c2) (.leaf (s, h)) (.leaf (.one (.slc h.n none), h.remake none (.vec e sz c2)))
            | some i => if isOwnVec h i e then
                branch (smallB E.A c1) (match vecCat E.A c1 c2 with
                  | some c => .leaf (.one (.slc h.n none), h.remake (some i) (.vec e sz c))
                  | none => .fail "append") (.fail "append: large")
              else .fail "append to what isn't one's own") (.fail "append: large")
        | _, _ => .fail "append of what"
      else .fail "append of a kind"
    | _, _, _ => .fail "append of a kind"
  | _ => .fail "append of a kind"

/-- Whether two pointers to places of the heap are one. -/
def ptrEqS (E : Env τ) (h : Heap τ) (e : TypeId) (i j o o' : Nat) : Option (Bol τ.B) :=
  if Nat.beq i j then (match sizeT E.P e with
    | some (_ + 1) => some (.lit (Nat.beq o o'))
    | _ => none) else
  match sizeT E.P e, h.get i, h.get j with
  | some (_ + 1), some (.cells (_ :: _) _), some (.cells (_ :: _) _) => some (.lit (Nat.beq i j && Nat.beq o o'))
  | some (_ + 1), some (.ccells (_ :: _) _), some (.ccells (_ :: _) _) => some (.lit (Nat.beq i j && Nat.beq o o'))
  | some (_ + 1), some (.cells (_ :: _) _), some (.ccells (_ :: _) _) => some (.lit false)
  | some (_ + 1), some (.ccells (_ :: _) _), some (.cells (_ :: _) _) => some (.lit false)
  | _, _, _ => none

/-- '==' of two cells of a type; h: what is there tells pointers apart. -/
def eqC (E : Env τ) (h : Heap τ) (T : TypeId) (x y : SC τ) : Option (Bol τ.B) :=
  match E.P.underlying T with
  | some (.int _) => match x, y with
    | .int k a, .int k' b => if k = k' then some (cmpN E.A .eql a b) else none
    | _, _ => none
  | some .bool => match x, y with
    | .bool a, .bool b => some (eqBB E.A a b)
    | _, _ => none
  | some .string => match x, y with
    | .str a, .str b => some (eqSS E.A a b)
    | _, _ => none
  | some (.pointer e) => match x, y with
    | .nil, .nil => some (.lit true)
    | .nil, .ptr .. => some (.lit false)
    | .ptr .., .nil => some (.lit false)
    | .ptr i [] o, .ptr j [] o' => ptrEqS E h e i j o o'
    | _, _ => none
  | some (.interface _) => match x, y with
    | .nif, .nif => some (.lit true)
    | .nif, .ifc .. => some (.lit false)
    | .ifc .., .nif => some (.lit false)
    | .ifc t a, .ifc u b => if t = u then (match E.P.info? t with
      | some i => if i.comparable then (match E.P.underlying t, a, b with
        | some (.pointer e), .ptr i [] o, .ptr j [] o' => ptrEqS E h e i j o o'
        | _, _, _ => none) else none
      | none => none) else some (.lit false)
    | _, _ => none
  | some (.slice _) => match x, y with
    | .nslc, .nslc => some (.lit true)
    | .nslc, .slc .. => some (.lit false)
    | .slc .., .nslc => some (.lit false)
    | .nslc, .eslc _ => some (.lit false)
    | .eslc _, .nslc => some (.lit false)
    | _, _ => none
  | some (.func _ _ _) => match x, y with
    | .nfn, .nfn => some (.lit true)
    | .nfn, .fn _ => some (.lit false)
    | .fn _, .nfn => some (.lit false)
    | _, _ => none
  | _ => none

def eqFs (E : Env τ) (eqT : TypeId → List (SC τ) → List (SC τ) → Option (Bol τ.B)) (xs ys : List (SC τ)) : List Field → Option (Bol τ.B)
  | [] => some (.lit true)
  | f :: fs =>
    match sizeT E.P f.type, aggT E.P f.type with
    | some k, some g =>
      if f.name ≠ "_" ∧ f.offset + k ≤ xs.length ∧ f.offset + k ≤ ys.length ∧ (g = true ∨ k = 1) then
        match eqT f.type ((xs.drop f.offset).take k) ((ys.drop f.offset).take k), eqFs E eqT xs ys fs with
        | some a, some b => some (andB E.A a b)
        | _, _ => none
      else none
    | _, _ => none

def eqOne (E : Env τ) (h : Heap τ) (T : TypeId) (xs ys : List (SC τ)) : Option (Bol τ.B) :=
  match xs, ys with
  | [x], [y] => eqC E h T x y
  | _, _ => none

def eqT (E : Env τ) (h : Heap τ) : Nat → TypeId → List (SC τ) → List (SC τ) → Option (Bol τ.B)
  | 0, _, _, _ => none
  | d + 1, T, xs, ys =>
    match E.P.underlying T with
    | some (.struct fs) => if E.P.stoodInHeld T then none else eqFs E (eqT E h d) xs ys fs.toList
    | some (.array _ _) => none
    | some _ => eqOne E h T xs ys
    | none => none

def isConstO : Operand → Bool
  | .const _ => true
  | _ => false

def eqS (E : Env τ) (h : Heap τ) (T : TypeId) (xo yo : Operand) (x y : ST τ) : Option (Bol τ.B) :=
  match x, y with
  | .agg xs, .agg ys => if E.P.eqGuardType E.P.depth T then none else
    match E.P.underlying T with
    | some (.struct _) => eqT E h 20 T xs ys
    | _ => none
  | .one .nif, .one .nif => if isConstO xo || isConstO yo then eqC E h T .nif .nif else none
  | .one x, .one y => eqC E h T x y
  | _, _ => none

def boolS (b : Bol τ.B) : ST τ := .one (.bool b)

/-- One of the first n indices: the test goes through them. -/
def among (E : Env τ) {α : Type} (v : τ.I) (f : Nat → Out τ α) : Nat → Nat → Out τ α
  | _, 0 => .fail "index out of range"
  | i, m + 1 => .ite (E.A.cmp .eql v (E.A.int i)) (f i) (among E v f (i + 1) m)

def hintO (E : Env τ) : Operand → Option Nat
  | .tmp t => E.hint t
  | _ => none

/-- A small remainder is split at once. -/
def splitR (E : Env τ) (op : BinOp) (k : IntKind) (xo : Operand) (b n : Num τ.I) : Out τ (ST τ) :=
  match op, k, b, n with
  | .rem, .u64, .lit d, .opn v => if 0 < d ∧ d ≤ 6 then (match hintO E xo with
    | some j => .ite (E.A.cmp .eql v (E.A.int j)) (.leaf (.one (.int k (.lit j)))) (.fail "another remainder")
    | none => among E v (fun j => .leaf (.one (.int k (.lit j)))) 0 d.toNat) else .leaf (.one (.int k n))
  | _, _, _, n => .leaf (.one (.int k n))

def binS (E : Env τ) (h : Heap τ) (op : BinOp) (T : TypeId) (xo yo : Operand) (x y : ST τ) : Out τ (ST τ) :=
  match x, y with
  | .one (.int k a), .one (.int k' b) =>
    if k = k' then
      if isCmp op then .leaf (boolS (cmpN E.A op a b))
      else if isArith op then .leaf (.one (.int k (arithN E.A op k a b)))
      else if isDiv op then branch (cmpN E.A .eql b (.lit 0)) (.fail "division by zero") (splitR E op k xo b (arithN E.A op k a b))
      else .fail "an operation on numbers"
    else .fail "kinds"
  | .one (.str a), .one (.str b) => match op with
    | .eql => .leaf (boolS (eqSS E.A a b))
    | .neq => .leaf (boolS (notB E.A (eqSS E.A a b)))
    | _ => .fail "an operation on strings"
  | x, y => match op with
    | .eql => match eqS E h T xo yo x y with
      | some b => .leaf (boolS b)
      | none => .fail "=="
    | .neq => match eqS E h T xo yo x y with
      | some b => .leaf (boolS (notB E.A b))
      | none => .fail "!="
    | _ => .fail "an operation"

def pickS (c : Bol τ.B) (a b : Option (ST τ)) : Out τ (ST τ) :=
  branch c (orFail "pick" a) (orFail "pick" b)

def inRange (E : Env τ) {α : Type} (n m : Num τ.I) (x : Out τ α) : Out τ α :=
  branch (cmpN E.A .leq (.lit 0) n) (branch (cmpN E.A .lss n m) x (.fail "index out of range")) (.fail "index out of range")

def indexAddrS (E : Env τ) (T : TypeId) (x ix : ST τ) (h : Heap τ) : Out τ (ST τ) :=
  match ix with
  | .one (.int _ n) =>
    match E.P.underlying T, x with
    | some (.array len e), .one (.ptr i p o) =>
      match sizeT E.P e, n with
      | some s, .lit k => if 0 ≤ k ∧ k < len then .leaf (.one (.ptr i p (o + k.toNat * s))) else .fail "index out of range"
      | some s, .opn v => match p with
        | [] => among E v (fun j => .leaf (.one (.ptr i p (o + j * s)))) 0 len
        | _ => .fail "an index into an array in an array"
      | none, _ => .fail "size"
    | some (.slice e), .one (.slc i m) =>
      match sizeT E.P e, h.get i with
      | some s, some (.vec _ s' c) => if s = s' then inRange E n (m.getD (vecLen E.A c)) (.leaf (.one (.ptr i [(n, s)] 0))) else .fail "size"
      | some s, some (.ro _ s' c) => if s = s' then inRange E n (m.getD (vecLen E.A c)) (.leaf (.one (.ptr i [(n, s)] 0))) else .fail "size"
      | some s, some (.av i' o s' len) => if s = s' then (match m, n with
        | none, .lit k => if 0 ≤ k ∧ k < len then .leaf (.one (.ptr i' [] (o + k.toNat * s))) else .fail "index out of range"
        | none, .opn v => among E v (fun j => .leaf (.one (.ptr i' [] (o + j * s)))) 0 len
        | _, _ => .fail "an index into a part of an array") else .fail "size"
      | _, _ => .fail "a slice of what"
    | _, _ => .fail "an index into what"
  | _ => .fail "index"

def nilS (x : Option (ST τ)) : Out τ (ST τ) :=
  match x with
  | some (.one (.ptr i p o)) => .leaf (.one (.ptr i p o))
  | some (.one (.fn f)) => .leaf (.one (.fn f))
  | some (.one (.ifc t v)) => .leaf (.one (.ifc t v))
  | some (.one (.nil)) => .fail "nil"
  | _ => .fail "nilCheck"

def convS (E : Env τ) (src dst : TypeId) (x : Option (ST τ)) : Out τ (ST τ) :=
  match E.P.underlying src, E.P.underlying dst, x with
  | some _, some (.int k), some (.one (.int _ n)) => .leaf (.one (.int k (convN E.A k n)))
  | _, _, _ => .fail "a conversion"

def fieldAddrS (E : Env τ) (T : TypeId) (f : Nat) (x : Option (ST τ)) : Out τ (ST τ) :=
  match fieldT E.P T f, x with
  | some fd, some (.one (.ptr i p o)) => match sizeT E.P fd.type with
    | some (_ + 1) => .leaf (.one (.ptr i p (o + fd.offset)))
    | _ => .fail "a field without a size"
  | _, _ => .fail "fieldAddr"

def fieldS (E : Env τ) (T : TypeId) (f : Nat) (x : Option (ST τ)) : Out τ (ST τ) :=
  match fieldT E.P T f, x with
  | some fd, some (.agg l) => orFail "field" (asT E.P fd.type l fd.offset)
  | _, _ => .fail "field"

def extractS (x : Option (ST τ)) (ix : Nat) : Out τ (ST τ) :=
  match x with
  | some (.tup l) => match l[ix]? with
    | some (true, c) => .leaf (.agg c)
    | some (false, [c]) => .leaf (.one c)
    | _ => .fail "extract"
  | _ => .fail "extract"

def ifaceS (E : Env τ) (T : TypeId) (x : Option (ST τ)) : Out τ (ST τ) :=
  match E.P.underlying T, x with
  | some (.interface _), _ => .fail "makeInterface"
  | some _, some (.one c) => .leaf (.one (.ifc T c))
  | _, _ => .fail "makeInterface"

def capsOf : SC τ → List (ST τ) → Option (FuncId × List (ST τ))
  | .fn f, l => some (f, l)
  | .cap f x, l => capsOf f (.one x :: l)
  | _, _ => none

def callS (E : Env τ) (call : FuncId → List (ST τ) → Heap τ → Res τ) (f : FuncId) (args : List (ST τ)) (h : Heap τ) : Res τ :=
  match E.P.funcs[f]? with
  | some fn => if fn.name == "runtime.NumGoroutine" then .fail "NumGoroutine" else if fn.body.isNone then .fail "no body" else call f args h
  | none => .fail "no function"

def lenS (E : Env τ) (T : TypeId) (x : ST τ) (h : Heap τ) : Out τ (ST τ) :=
  match E.P.underlying T, x with
  | some (.slice _), .one .nslc => .leaf (.one (.int .i64 (.lit 0)))
  | some (.slice _), .one (.slc i none) => match h.get i with
    | some (.vec _ _ c) => .leaf (.one (.int .i64 (vecLen E.A c)))
    | some (.ro _ _ c) => .leaf (.one (.int .i64 (vecLen E.A c)))
    | some (.av _ _ _ m) => .leaf (.one (.int .i64 (.lit m)))
    | _ => .fail "len"
  | some (.slice _), .one (.eslc _) => .leaf (.one (.int .i64 (.lit 0)))
  | some (.slice _), .one (.slc _ (some m)) => .leaf (.one (.int .i64 m))
  | _, _ => .fail "len"

def lackS (P : Program) (t : TypeId) (want : Array (String × TypeId)) : Option Bool :=
  match P.info? t with
  | some i => some (lacking want i.methods).isEmpty
  | none => none

def zeroNif (P : Program) (t : TypeId) : Bool :=
  match P.info? t with
  | some i => match i.zero with
    | some .nilIface => true
    | _ => false
  | none => false

def typeAssertS (E : Env τ) (asserted : TypeId) (ok : Bool) (x : Option (ST τ)) : Out τ (ST τ) :=
  match E.P.underlying asserted, x with
  | some (.interface want), some (.one (.ifc t v)) => match lackS E.P t want with
    | some true => .leaf (if ok then .tup [(false, [.ifc t v]), (false, [.bool (.lit true)])] else .one (.ifc t v))
    | some false => if ok && zeroNif E.P asserted then .leaf (.tup [(false, [.nif]), (false, [.bool (.lit false)])]) else .fail "typeAssert"
    | none => .fail "typeAssert"
  | _, _ => .fail "typeAssert"

def methodS (E : Env τ) (t : TypeId) (name : String) : Option FuncId :=
  match E.P.info? t, E.P.underlying t with
  | some i, some (.pointer _) => match i.methods.find? (·.name == name) with
    | some m => match m.func with
      | some (f, true) => if m.path.isEmpty then some f else none
      | _ => none
    | none => none
  | _, _ => none

def capFn (f : FuncId) (caps : List (SC τ)) : SC τ := caps.foldl .cap (.fn f)

def mapOnes : List (ST τ) → Option (List (SC τ))
  | [] => some []
  | .one c :: r => match mapOnes r with
    | some s => some (c :: s)
    | none => none
  | _ :: _ => none

def unS (E : Env τ) (op : UnOp) (x : Option (ST τ)) : Out τ (ST τ) :=
  match op, x with
  | .not, some (.one (.bool b)) => .leaf (boolS (notB E.A b))
  | _, _ => .fail "an operation of one"

def makeFuncS (fn : Fn) (n : Nat) (caps : Option (List (ST τ))) : Out τ (ST τ) :=
  match fn, n, caps with
  | .func f, 0, some l => match mapOnes l with
    | some cs => .leaf (.one (capFn f cs))
    | none => .fail "makeFunc"
  | _, _, _ => .fail "makeFunc"

def sliceRo : Option (Ent τ) → Option (TypeId × Nat × Vec τ)
  | some (.vec U s c) => some (U, s, c)
  | some (.ro U s c) => some (U, s, c)
  | _ => none

def Heap.share (h : Heap τ) (i : Nat) (e e' : Ent τ) : Heap τ := ⟨h.n + 1, (h.n, e') :: repl i e h.l⟩

def sliceS (E : Env τ) (T : TypeId) (x : ST τ) (lo hi : Option (Num τ.I)) (h : Heap τ) : Out τ (ST τ × Heap τ) :=
  match E.P.underlying T, x with
  | some (.slice e), .one (.slc i m) => match sizeT E.P e, sliceRo (h.get i) with
    | some sz, some (U, s, c) => if s = sz then
        let l := lo.getD (.lit 0)
        let n := m.getD (vecLen E.A c)
        let b := hi.getD n
        branch (andB E.A (cmpN E.A .leq (.lit 0) l) (andB E.A (cmpN E.A .leq l b) (cmpN E.A .leq b n)))
          (if lo.isNone && isOwnVec h i e then .leaf (.one (.slc i (some b)), h) else match vecSub E.A c l b with
            | some c' => .leaf (.one (.slc h.n none), h.share i (.ro U sz c) (.ro U sz c'))
            | none => .fail "slice") (.fail "slice bounds")
      else .fail "slice"
    | _, _ => .fail "slice"
  | some (.array len e), .one (.ptr i [] o) => match lo, hi, sizeT E.P e with
    | none, none, some (s + 1) => .leaf (.one (.slc h.n none), h.push (.av i o (s + 1) len))
    | _, _, _ => .fail "slice of an array"
  | _, _ => .fail "slice"

/-- x[:0:0]: nothing, and no room. -/
def sliceZS (E : Env τ) (T : TypeId) (x : ST τ) (lo hi mx : Option (Num τ.I)) (h : Heap τ) : Out τ (ST τ × Heap τ) :=
  match E.P.underlying T, lo, hi, mx with
  | some (.slice e), none, some (.lit 0), some (.lit 0) => if (sizeT E.P e).isNone then .fail "slice" else match x with
    | .one .nslc => .leaf (.one .nslc, h)
    | .one (.slc i _) => .leaf (.one (.eslc i), h)
    | .one (.eslc i) => .leaf (.one (.eslc i), h)
    | _ => .fail "slice"
  | _, _, _, _ => .fail "slice"
def vecRep (A : Ar τ) (z : List (SC τ)) (n : Num τ.I) : Option (Vec τ) :=
  match n with
  | .lit k => some (.lit (List.replicate k.toNat z))
  | .opn v => match A.vrep z v with
    | some v' => some (.opn v')
    | none => none

/-- make, of a slice with no more room than it has elements. -/
def makeSliceS (E : Env τ) (T : TypeId) (len : ST τ) (h : Heap τ) : Out τ (ST τ × Heap τ) :=
  match E.P.underlying T, len with
  | some (.slice e), .one (.int _ n) => match sizeT E.P e, bytesT E.P e, zeroT (τ := τ) E.P e with
    | some sz, some by', some z => if 0 < sz ∧ by' ≤ 16777216 ∧ z.length = sz then
        branch (andB E.A (cmpN E.A .leq (.lit 0) n) (cmpN E.A .leq n (.lit 1048576))) (match vecRep E.A z n with
          | some c => .leaf (.one (.slc h.n none), h.remake none (.vec e sz c))
          | none => .fail "make") (.fail "make: large")
      else .fail "make"
    | _, _, _ => .fail "make"
  | _, _ => .fail "make"

def intMapT (P : Program) (T : TypeId) : Option (IntKind × TypeId) :=
  match P.underlying T with
  | some (.map k e) => match P.underlying k with
    | some (.int q) => some (q, e)
    | _ => none
  | _ => none

def findM (A : Ar τ) (k : Num τ.I) : List (Num τ.I × SC τ) → Nat → Out τ (Option (Nat × SC τ))
  | [], _ => .leaf none
  | (n, v) :: r, i => branch (cmpN A .eql k n) (.leaf (some (i, v))) (findM A k r (i + 1))

def setM (v : SC τ) : Nat → List (Num τ.I × SC τ) → List (Num τ.I × SC τ)
  | _, [] => []
  | 0, (n, _) :: r => (n, v) :: r
  | i + 1, x :: r => x :: setM v i r

def delM : Nat → List (Num τ.I × SC τ) → List (Num τ.I × SC τ)
  | _, [] => []
  | 0, _ :: r => r
  | i + 1, x :: r => x :: delM i r

def zeroC (P : Program) (T : TypeId) : Option (SC τ) :=
  match P.info? T with
  | some i => match i.zero with
    | some z => constSC z
    | none => none
  | none => none

def lookupS (E : Env τ) (T : TypeId) (x ix : ST τ) (ok : Bool) (h : Heap τ) : Out τ (ST τ) :=
  match intMapT E.P T, x, ix with
  | some (q, e), .one (.mp i), .one (.int q' n) => match h.get i, zeroC (τ := τ) E.P e with
    | some (.imap k l), some z => if q = k ∧ q' = q then
        (findM E.A n l 0).bind fun r => match r with
          | some (_, v) => .leaf (if ok then .tup [(false, [v]), (false, [.bool (.lit true)])] else .one v)
          | none => .leaf (if ok then .tup [(false, [z]), (false, [.bool (.lit false)])] else .one z)
      else .fail "lookup"
    | _, _ => .fail "lookup"
  | _, _, _ => .fail "lookup"

def mapUpdateS (E : Env τ) (T : TypeId) (x ix v : ST τ) (h : Heap τ) : Out τ (ST τ × Heap τ) :=
  match intMapT E.P T, x, ix, v with
  | some (q, _), .one (.mp i), .one (.int q' n), .one v => match h.get i with
    | some (.imap k l) => if q = k ∧ q' = q then
        (findM E.A n l 0).bind fun r => match r with
          | some (j, _) => .leaf (undefS, h.set i (.imap k (setM v j l)))
          | none => .leaf (undefS, h.set i (.imap k (catL' l [(n, v)])))
      else .fail "mapUpdate"
    | _ => .fail "mapUpdate"
  | _, _, _, _ => .fail "mapUpdate"

def deleteS (E : Env τ) (T : TypeId) (x ix : ST τ) (h : Heap τ) : Out τ (ST τ × Heap τ) :=
  match intMapT E.P T, x, ix with
  | some (q, _), .one (.mp i), .one (.int q' n) => match h.get i with
    | some (.imap k l) => if q = k ∧ q' = q then
        (findM E.A n l 0).bind fun r => match r with
          | some (j, _) => .leaf (undefS, h.set i (.imap k (delM j l)))
          | none => .leaf (undefS, h)
      else .fail "delete"
    | _ => .fail "delete"
  | _, _, _ => .fail "delete"

def builtinS (E : Env τ) (b : Builtin) (ts : Array TypeId) (args : List (ST τ)) (h : Heap τ) : Res τ :=
  match b with
  | .len => match ts[0]?, args with
    | some T, [x] => (lenS E T x h).bind fun v => .leaf (v, h)
    | _, _ => .fail "len"
  | .append => match ts.toList, args with
    | [T, T'], [s, x] => if T = T' then appendS E T s x h else .fail "append"
    | _, _ => .fail "append"
  | .delete => match ts[0]?, args with
    | some T, [x, k] => deleteS E T x k h
    | _, _ => .fail "delete"
  | _ => .fail "a built-in"

def sameOp : Operand → Operand → Bool
  | .tmp a, .tmp b => Nat.beq a b
  | .const (.int _ a), .const (.int _ b) => a == b
  | _, _ => false

def boundO (ρ : Operand → Option (ST τ)) : Option Operand → Option (Option (Num τ.I))
  | none => some none
  | some o => match ρ o with
    | some (.one (.int _ n)) => some (some n)
    | _ => none

def stepOp (E : Env τ) (call : FuncId → List (ST τ) → Heap τ → Res τ) (ρ : Operand → Option (ST τ)) (op : Op) (h : Heap τ) : Res τ :=
  let same (x : Out τ (ST τ)) : Res τ := x.bind fun v => .leaf (v, h)
  match op with
  | .move x | .assign x => same (orFail "operand" (ρ x))
  | .pick c a b => match ρ c with
    | some (.one (.bool c)) => same (pickS c (ρ a) (ρ b))
    | _ => .fail "pick"
  | .alloc T => match zeroT E.P T with
    | some l => .leaf (.one (.ptr h.n [] 0), h.push (.cells l T))
    | none => .fail "alloc"
  | .box T x => match ρ x with
    | some v => match stCells v with
      | some l => .leaf (.one (.ptr h.n [] 0), h.push (.cells l T))
      | none => .fail "box"
    | none => .fail "box"
  | .build T parts => match partsS ρ parts.toList with
    | some ps => same (orFail "build" (buildS E T ps))
    | none => .fail "build"
  | .load T a => match ρ a with
    | some a => same (orFail "load" (loadS E T a h))
    | none => .fail "load"
  | .store T a x => match ρ a, ρ x with
    | some a, some x => match storeS E T a x h with
      | some h' => .leaf (undefS, h')
      | none => match storeV E T a x h with
        | some h' => .leaf (undefS, h')
        | none => .fail "store"
    | _, _ => .fail "store"
  | .nilCheck x => same (nilS (ρ x))
  | .binOp op T x y _ => match ρ x, ρ y with
    | some a, some b => same (binS E h op T x y a b)
    | _, _ => .fail "binOp"
  | .unOp op _ x => same (unS E op (ρ x))
  | .convert s d x => same (convS E s d (ρ x))
  | .makeInterface T x => same (ifaceS E T (ρ x))
  | .fieldAddr T x f => same (fieldAddrS E T f (ρ x))
  | .field T x f => same (fieldS E T f (ρ x))
  | .indexAddr T x ix => match ρ x, ρ ix with
    | some a, some b => same (indexAddrS E T a b h)
    | _, _ => .fail "indexAddr"
  | .extract x ix => same (extractS (ρ x) ix)
  | .typeAssert x _ t ok => same (typeAssertS E t ok (ρ x))
  | .makeFunc fn first caps => same (makeFuncS fn first.size (mapO ρ caps.toList))
  | .call c => match mapO ρ c.args.toList with
    | some args => match c.callee with
      | .value g => match ρ g with
        | some (.one g) => match capsOf g [] with
          | some (f, caps) => callS E call f (args ++ caps) h
          | none => .fail "a call of what"
        | _ => .fail "a call of what"
      | .builtin b => builtinS E b c.argTypes args h
      | .invoke r name => match ρ r with
        | some (.one (.ifc t v)) => match methodS E t name with
          | some f => callS E call f (.one v :: args) h
          | none => .fail "invoke"
        | _ => .fail "invoke"
    | none => .fail "an argument of a call"
  | .buildSlice T len parts => match partsS ρ parts.toList with
    | some ps => orFail "buildSlice" (buildSliceS E T len ps h)
    | none => .fail "buildSlice"
  | .slice T x lo hi none => match ρ x, boundO ρ lo, boundO ρ hi with
    | some a, some l, some b => sliceS E T a l b h
    | _, _, _ => .fail "slice"
  | .slice T x lo hi mx => match ρ x, boundO ρ lo, boundO ρ hi, boundO ρ mx with
    | some a, some l, some b, some m => sliceZS E T a l b m h
    | _, _, _, _ => .fail "slice"
  | .makeMap T none => match intMapT E.P T with
    | some (q, _) => .leaf (.one (.mp h.n), h.push (.imap q []))
    | none => .fail "makeMap"
  | .lookup T x ix ok => match ρ x, ρ ix with
    | some a, some b => same (lookupS E T a b ok h)
    | _, _ => .fail "lookup"
  | .mapUpdate T m k v => match ρ m, ρ k, ρ v with
    | some a, some b, some c => mapUpdateS E T a b c h
    | _, _, _ => .fail "mapUpdate"
  | .makeSlice T l c => if sameOp l c then (match ρ l with
    | some a => makeSliceS E T a h
    | none => .fail "make") else .fail "make"
  | _ => .fail "an operation of a kind"

/-- A slot is written, if it is one of the frame's n. -/
def putT (n : Nat) (tm : List (Nat × ST τ)) (d : Option Nat) (v : ST τ) : Out τ (List (Nat × ST τ)) :=
  match d with
  | none => .leaf tm
  | some t => if Nat.blt t n then .leaf ((t, v) :: tm) else .fail "slot"

/-- Whether an operation's guard lets it run; what is learned of the guard's slot. -/
def guardS (ops : Array Oper) (o : Oper) (tm : List (Nat × ST τ)) : Out τ (Bool × List (Nat × ST τ)) :=
  match o.guard with
  | none => .leaf (true, tm)
  | some (j, want) =>
    match ops[j]? with
    | some g => match g.dst with
      | some t => match look tm t with
        | some (.one (.bool (.lit b))) => .leaf (b == want, tm)
        | some (.one (.bool (.opn b))) => .ite b (.leaf (want, (t, .one (.bool (.lit true))) :: tm)) (.leaf (!want, (t, .one (.bool (.lit false))) :: tm))
        | some (.tup []) => .leaf (false, tm)
        | _ => .fail "guard"
      | none => .fail "guard"
    | none => .fail "guard"

def runOps (E : Env τ) (call : FuncId → List (ST τ) → Heap τ → Res τ) (n : Nat) (ops : Array Oper) (l : List Oper) (tm : List (Nat × ST τ)) (h : Heap τ) : Out τ (List (Nat × ST τ) × Heap τ) :=
  List.rec (motive := fun _ => List (Nat × ST τ) → Heap τ → Out τ (List (Nat × ST τ) × Heap τ)) (fun tm h => .leaf (tm, h)) (fun o _ ih tm h =>
    (guardS ops o tm).bind fun x =>
      Bool.rec (motive := fun _ => Out τ (List (Nat × ST τ) × Heap τ)) ((putT n x.2 o.dst undefS).bind fun tm => ih tm h) ((stepOp E call (opnd E x.2) o.op h).bind fun y => (putT n x.2 o.dst y.1).bind fun tm => ih tm y.2) x.1) l tm h
theorem runOps_nil (E : Env τ) (call : FuncId → List (ST τ) → Heap τ → Res τ) (n : Nat) (ops : Array Oper) (tm : List (Nat × ST τ)) (h : Heap τ) : runOps E call n ops [] tm h = .leaf (tm, h) := rfl
theorem runOps_cons (E : Env τ) (call : FuncId → List (ST τ) → Heap τ → Res τ) (n : Nat) (ops : Array Oper) (o : Oper) (r : List Oper) (tm : List (Nat × ST τ)) (h : Heap τ) : runOps E call n ops (o :: r) tm h = (guardS ops o tm).bind fun (w, tm) =>
      if w then (stepOp E call (opnd E tm) o.op h).bind fun (v, h) => (putT n tm o.dst v).bind fun tm => runOps E call n ops r tm h
      else (putT n tm o.dst undefS).bind fun tm => runOps E call n ops r tm h := by
  show (guardS ops o tm).bind _ = _
  congr 1
  funext x
  obtain ⟨w, tm⟩ := x
  cases w <;> rfl

def SC.under (n : Nat) : SC τ → Bool
  | .ptr i _ _ => Nat.blt i n
  | .slc i _ => Nat.blt i n
  | .eslc i => Nat.blt i n
  | .mp i => Nat.blt i n
  | .ifc _ v => v.under n
  | .cap f x => f.under n && x.under n
  | _ => true

def allB {α : Type} (p : α → Bool) (l : List α) : Bool := List.rec (motive := fun _ => Bool) true (fun a _ ih => Bool.rec (motive := fun _ => Bool) false ih (p a)) l
theorem allB_nil {α : Type} (p : α → Bool) : allB p [] = true := rfl
theorem allB_cons' {α : Type} (p : α → Bool) (a : α) (r : List α) : allB p (a :: r) = (p a && allB p r) := by
  cases h : p a <;> simp [allB, h]

def ST.under (n : Nat) : ST τ → Bool
  | .one c => c.under n
  | .agg l => allB (SC.under n) l
  | .tup l => allB (fun x => allB (SC.under n) x.2) l

def Ent.under (n : Nat) : Ent τ → Bool
  | .cells l _ | .ccells l _ => allB (SC.under n) l
  | .vec _ _ (.lit l) | .ro _ _ (.lit l) => allB (allB (SC.under n)) l
  | .av i _ _ _ => Nat.blt i n
  | .imap _ l => allB (fun x => SC.under n x.2) l
  | _ => true


/-- An operation of a drawn region: what it put where; which places it looked at; whether it may write them; the heap behind it. -/
structure Rec (τ : Ty) where
  dst : Option Nat
  rd : List Nat
  v : ST τ
  u : List Nat
  wr : Bool
  base : Nat
  h1 : Heap τ

def memN (i : Nat) (l : List Nat) : Bool := List.rec (motive := fun _ => Bool) false (fun k _ ih => Bool.rec (motive := fun _ => Bool) ih true (Nat.beq k i)) l
theorem memN_nil (i : Nat) : memN i [] = false := rfl
theorem memN_cons (i k : Nat) (r : List Nat) : memN i (k :: r) = if Nat.beq k i then true else memN i r := by
  cases h : Nat.beq k i <;> simp [memN, h]

def meets (a b : List Nat) : Bool :=
  match a with
  | [] => false
  | i :: r => if memN i b then true else meets r b

def SC.idxs : SC τ → List Nat
  | .ptr i _ _ => [i]
  | .slc i _ => [i]
  | .eslc i => [i]
  | .mp i => [i]
  | .ifc _ v => v.idxs
  | .cap f x => f.idxs ++ x.idxs
  | _ => []

def appR {α : Type} (a b : List α) : List α := List.rec (motive := fun _ => List α) b (fun x _ ih => x :: ih) a
theorem appR_eq {α : Type} (a b : List α) : appR a b = a ++ b := by
  induction a with
  | nil => rfl
  | cons x a ih => show x :: appR a b = _; rw [ih]; rfl
def catMap {α β : Type} (f : α → List β) (l : List α) : List β := List.rec (motive := fun _ => List β) [] (fun a _ ih => appR (f a) ih) l
theorem catMap_nil {α β : Type} (f : α → List β) : catMap f [] = [] := rfl
theorem catMap_cons {α β : Type} (f : α → List β) (a : α) (r : List α) : catMap f (a :: r) = f a ++ catMap f r := appR_eq _ _

def ST.idxs : ST τ → List Nat
  | .one c => c.idxs
  | .agg l => catMap SC.idxs l
  | .tup l => catMap (fun x => catMap SC.idxs x.2) l

def Ent.idxs : Ent τ → List Nat
  | .cells l _ | .ccells l _ => catMap SC.idxs l
  | .vec _ _ (.lit l) | .ro _ _ (.lit l) => catMap (catMap SC.idxs) l
  | .av i _ _ _ => [i]
  | .imap _ l => catMap (fun x => SC.idxs x.2) l
  | _ => []

def addAll (l acc : List Nat) : List Nat := List.rec (motive := fun _ => List Nat → List Nat) (fun acc => acc) (fun i _ ih acc => Bool.rec (motive := fun _ => List Nat) (ih (i :: acc)) (ih acc) (memN i acc)) l acc
theorem addAll_nil (acc : List Nat) : addAll [] acc = acc := rfl
theorem addAll_cons (i : Nat) (r acc : List Nat) : addAll (i :: r) acc = if memN i acc then addAll r acc else addAll r (i :: acc) := by
  cases h : memN i acc <;> simp [addAll, h]

/-- What can be reached from some places. -/
def reach (h : Heap τ) : Nat → List Nat → List Nat → List Nat
  | 0, _, acc => acc
  | _ + 1, [], acc => acc
  | n + 1, todo, acc =>
    let new := (addAll todo []).filter fun i => !memN i acc
    reach h n (catMap (fun i => match h.get i with | some e => e.idxs | none => []) new) (addAll new acc)

def opTmps (o : Op) : List Nat := catMap (fun x => match x with | .tmp t => [t] | _ => []) o.operands.toList

def catL {α : Type} : List α → List α → List α
  | [], b => b
  | a :: r, b => a :: catL r b

def mapS : List (Nat × Nat) → List Nat
  | [] => []
  | (_, i) :: r => i :: mapS r

def usesOf (gs : List Nat) (ρ : Operand → Option (ST τ)) (h : Heap τ) (o : Op) : List Nat :=
  match o with
  | .load _ a | .store _ a _ => match ρ a with | some v => addAll v.idxs [] | none => []
  | .indexAddr _ a _ => match ρ a with | some v => addAll v.idxs [] | none => []
  | .slice _ a _ _ _ => match ρ a with | some v => addAll v.idxs [] | none => []
  | .lookup _ a _ _ => match ρ a with | some v => addAll v.idxs [] | none => []
  | .mapUpdate _ a _ _ => match ρ a with | some v => addAll v.idxs [] | none => []
  | .binOp _ _ x y _ => addAll (match ρ x with | some v => v.idxs | none => []) (addAll (match ρ y with | some v => v.idxs | none => []) [])
  | .call c => match c.callee with
    | .value g => reach h 5 (catL gs (catMap (fun x => match ρ x with | some v => v.idxs | none => []) (g :: c.args.toList))) []
    | .invoke g _ => reach h 5 (catL gs (catMap (fun x => match ρ x with | some v => v.idxs | none => []) (g :: c.args.toList))) []
    | _ => addAll (catMap (fun x => match ρ x with | some v => v.idxs | none => []) c.args.toList) []
  | _ => []

/-- Whether an operation may write what it looks at. -/
def wrBuiltin : Builtin → Bool
  | .len => false
  | _ => true

def wrOf : Op → Bool
  | .store .. => true
  | .slice .. => true
  | .mapUpdate .. => true
  | .call c => match c.callee with
    | .builtin b => wrBuiltin b
    | _ => true
  | _ => false

def restrictL (u : List Nat) (l : List (Nat × Ent τ)) : List (Nat × Ent τ) := List.rec (motive := fun _ => List (Nat × Ent τ)) [] (fun i _ ih => match look l i with | some e => (i, e) :: ih | none => ih) u
theorem restrictL_nil (l : List (Nat × Ent τ)) : restrictL [] l = [] := rfl
theorem restrictL_cons (i : Nat) (u : List Nat) (l : List (Nat × Ent τ)) : restrictL (i :: u) l = match look l i with | some e => (i, e) :: restrictL u l | none => restrictL u l := rfl

def inU (u : List Nat) (lo hi k : Nat) : Bool := memN k u || (Nat.ble lo k && Nat.blt k hi)

def keepL (u : List Nat) (lo hi : Nat) (l : List (Nat × Ent τ)) : List (Nat × Ent τ) := List.rec (motive := fun _ => List (Nat × Ent τ)) [] (fun x _ ih => Bool.rec (motive := fun _ => List (Nat × Ent τ)) ih (x :: ih) (inU u lo hi x.1)) l
theorem keepL_nil (u : List Nat) (lo hi : Nat) : keepL u lo hi ([] : List (Nat × Ent τ)) = [] := rfl
theorem keepL_cons (u : List Nat) (lo hi k : Nat) (e : Ent τ) (r : List (Nat × Ent τ)) : keepL u lo hi ((k, e) :: r) = if inU u lo hi k then (k, e) :: keepL u lo hi r else keepL u lo hi r := by
  cases h : inU u lo hi k <;> simp [keepL, h]

def dropL (u : List Nat) (lo hi : Nat) (l : List (Nat × Ent τ)) : List (Nat × Ent τ) := List.rec (motive := fun _ => List (Nat × Ent τ)) [] (fun x _ ih => Bool.rec (motive := fun _ => List (Nat × Ent τ)) (x :: ih) ih (inU u lo hi x.1)) l
theorem dropL_nil (u : List Nat) (lo hi : Nat) : dropL u lo hi ([] : List (Nat × Ent τ)) = [] := rfl
theorem dropL_cons (u : List Nat) (lo hi k : Nat) (e : Ent τ) (r : List (Nat × Ent τ)) : dropL u lo hi ((k, e) :: r) = if inU u lo hi k then dropL u lo hi r else (k, e) :: dropL u lo hi r := by
  cases h : inU u lo hi k <;> simp [dropL, h]

def mergeH (h : Heap τ) (u : List Nat) (h1 : Heap τ) : Heap τ := ⟨h1.n, catL (keepL u h.n h1.n h1.l) (dropL u h.n h1.n h.l)⟩

/-- A place that may not be written. -/
def Ent.freeze : Ent τ → Ent τ
  | .cells l T => .ccells l T
  | .vec T sz c => .ro T sz c
  | e => e

def freezeL (l : List (Nat × Ent τ)) : List (Nat × Ent τ) := l.map fun x => (x.1, x.2.freeze)
def isOwnE : Ent τ → Bool
  | .ccells .. | .ro .. | .av .. => false
  | _ => true

def Out.okB {α : Type} (p : α → Bool) : Out τ α → Bool
  | .leaf a => p a
  | .ite _ l r => l.okB p && r.okB p
  | .fail _ => false

def newL (n : Nat) : List (Nat × Ent τ) → List (Nat × Ent τ)
  | [] => []
  | (k, e) :: r => if Nat.ble n k then (k, e) :: newL n r else newL n r

def isCallO : Op → Bool
  | .call c => match c.callee with
    | .builtin _ => false
    | _ => true
  | _ => false

/-- An operation of a drawn region; whether it may write. A call is tried where nothing may be written first: does it come through, then it writes nothing. -/
def stepD (E : Env τ) (call : FuncId → List (ST τ) → Heap τ → Res τ) (ρ : Operand → Option (ST τ)) (op : Op) (h : Heap τ) : Out τ (ST τ × Heap τ × Bool) :=
  if isCallO op && allB (fun x => !isOwnE x.2) (freezeL h.l) && (stepOp E call ρ op ⟨h.n, freezeL h.l⟩).okB (fun x => allB (fun y => isOwnE y.2) (newL h.n x.2.l)) then
    (stepOp E call ρ op ⟨h.n, freezeL h.l⟩).bind fun x => .leaf (x.1, ⟨x.2.n, catL (newL h.n x.2.l) h.l⟩, false)
  else (stepOp E call ρ op h).bind fun x => .leaf (x.1, x.2, wrOf op)

def restrictT (tm : List (Nat × ST τ)) : List Nat → List (Nat × ST τ)
  | [] => []
  | t :: r => match look tm t with
    | some v => (t, v) :: restrictT tm r
    | none => restrictT tm r

/-- The operations that must come ahead of each. -/
def predsOf (ops : Array Oper) : List Oper → List (List Nat) → List (List Nat)
  | [], acc => acc
  | o :: r, acc => predsOf ops r (acc ++ [catMap (fun e => if Region.binds .any e then e.on :: (acc.getD e.on []) else []) o.after.toList])

/-- Whether two operations (the first one ahead in the text) must keep their order. -/
def conf (a b : Rec τ) : Bool :=
  (match a.dst with | some d => memN d b.rd || (match b.dst with | some d' => Nat.beq d d' | none => false) | none => false) ||
  (match b.dst with | some d => memN d a.rd | none => false) ||
  ((a.wr || b.wr) && meets a.u b.u) ||
  !allB (fun i => Nat.blt i a.base || Nat.ble a.h1.n i) b.u

def ordered (r : Rec τ) (pr : List Nat) : Nat → List (Rec τ) → Bool
  | _, [] => true
  | j, q :: rest => (!conf q r || memN j pr) && ordered r pr (j + 1) rest

def guardD (ops : Array Oper) (o : Oper) (tm : List (Nat × ST τ)) : Out τ (Bool × List Nat × List (Nat × ST τ)) :=
  match o.guard with
  | none => .leaf (true, [], tm)
  | some (j, want) =>
    match ops[j]? with
    | some g => match g.dst with
      | some t => match look tm t with
        | some (.one (.bool (.lit b))) => .leaf (b == want, [t], tm)
        | some (.one (.bool (.opn b))) => .ite b (.leaf (want, [t], (t, .one (.bool (.lit true))) :: tm)) (.leaf (!want, [t], (t, .one (.bool (.lit false))) :: tm))
        | some (.tup []) => .leaf (false, [t], tm)
        | _ => .fail "guard"
      | none => .fail "guard"
    | none => .fail "guard"

def globOK (E : Env τ) (n : Nat) : Bool := allB (fun x => Nat.blt x.2 n) E.glob

/-- Whether the text's own order is one that may come. -/
def textOK : Nat → List Oper → Bool
  | _, [] => true
  | i, o :: r => allB (fun e => !Region.binds .any e || Nat.blt e.on i) o.after.toList && textOK (i + 1) r

/-- A region that draws its order: walked in the text's order; what may come otherwise is held apart. -/
def runDraw (E : Env τ) (call : FuncId → List (ST τ) → Heap τ → Res τ) (n : Nat) (ops : Array Oper) (preds : List (List Nat)) : List Oper → Nat → List (Nat × ST τ) → Heap τ → List (Rec τ) → Out τ (List (Nat × ST τ) × Heap τ × List (Rec τ))
  | [], _, tm, h, recs => .leaf (tm, h, recs)
  | o :: r, i, tm, h, recs =>
    (guardD ops o tm).bind fun (g, gt, tm) =>
      if g then
        let rd := catL gt (opTmps o.op)
        let u := usesOf (mapS E.glob) (opnd E tm) h o.op
        let tmr := restrictT tm rd
        let hr : Heap τ := ⟨h.n, restrictL u h.l⟩
        if allB (fun i => Nat.blt i h.n) u && globOK E h.n && allB (fun x => x.2.under h.n) tmr && allB (fun x => x.2.under h.n) hr.l then
          (stepD E call (opnd E tmr) o.op hr).bind fun (v, h1, wr) =>
            let rc : Rec τ := ⟨o.dst, rd, v, u, wr, h.n, h1⟩
            if Nat.ble h.n h1.n && ordered rc (preds.getD i []) 0 recs then
              (putT n tm o.dst v).bind fun tm => runDraw E call n ops preds r (i + 1) tm (mergeH h u h1) (recs ++ [rc])
            else .fail "an order that matters"
        else .fail "a drawn region's operation"
      else
        let rc : Rec τ := ⟨o.dst, gt, undefS, [], false, h.n, ⟨h.n, []⟩⟩
        if ordered rc (preds.getD i []) 0 recs then
          (putT n tm o.dst undefS).bind fun tm => runDraw E call n ops preds r (i + 1) tm h (recs ++ [rc])
        else .fail "an order that matters"

def firstId : Code → Option Nat
  | .region id _ _ => some id
  | .seq a b => match firstId a with
    | some k => some k
    | none => firstId b
  | .cond _ a b => match firstId a with
    | some k => some k
    | none => firstId b
  | .block _ c | .scope c | .loop c => firstId c
  | _ => none

def loopsOf : Code → List Code
  | .seq a b => loopsOf a ++ loopsOf b
  | .cond _ a b => loopsOf a ++ loopsOf b
  | .block _ c | .scope c => loopsOf c
  | .loop c => c :: loopsOf c
  | _ => []

def loopSp (E : Env τ) (fid : FuncId) (c : Code) : Option (List (Nat × ST τ) → Heap τ → Ran τ) :=
  match firstId c with
  | some k => E.loop fid k
  | none => none

def loopS (f : List (Nat × ST τ) → Heap τ → Ran τ) : Nat → List (Nat × ST τ) → Heap τ → Ran τ
  | 0, _, _ => .fail "rounds"
  | m + 1, tm, h => (f tm h).bind fun (ex, tm, h) => match ex with
    | .normal => loopS f m tm h
    | ex => .leaf (ex, tm, h)

/-- What a test tells of its slot. -/
def learn (c : Operand) (b : Bool) (tm : List (Nat × ST τ)) : List (Nat × ST τ) :=
  match c with
  | .tmp t => (t, .one (.bool (.lit b))) :: tm
  | _ => tm

def execC (E : Env τ) (fid : FuncId) (call : FuncId → List (ST τ) → Heap τ → Res τ) (n lf : Nat) : Code → List (Nat × ST τ) → Heap τ → Ran τ
  | .skip, tm, h => .leaf (.normal, tm, h)
  | .label _, tm, h => .leaf (.normal, tm, h)
  | .ret, tm, h => .leaf (.ret, tm, h)
  | .exit id, tm, h => .leaf (.exit id, tm, h)
  | .region _ ops false, tm, h => (runOps E call n ops ops.toList tm h).bind fun (tm, h) => .leaf (.normal, tm, h)
  | .region _ ops true, tm, h =>
    if textOK 0 ops.toList then (runDraw E call n ops (predsOf ops ops.toList []) ops.toList 0 tm h []).bind fun (tm, h, _) => .leaf (.normal, tm, h)
    else .fail "a drawn region's text"
  | .seq a b, tm, h => (execC E fid call n lf a tm h).bind fun (ex, tm, h) => match ex with
    | .normal => execC E fid call n lf b tm h
    | ex => .leaf (ex, tm, h)
  | .cond c x y, tm, h => match opnd E tm c with
    | some (.one (.bool (.lit b))) => branch (.lit b) (execC E fid call n lf x tm h) (execC E fid call n lf y tm h)
    | some (.one (.bool (.opn b))) => .ite b (execC E fid call n lf x (learn c true tm) h) (execC E fid call n lf y (learn c false tm) h)
    | _ => .fail "a test"
  | .block id c, tm, h => (execC E fid call n lf c tm h).bind fun (ex, tm, h) => match ex with
    | .exit k => if Nat.beq k id then .leaf (.normal, tm, h) else .leaf (.exit k, tm, h)
    | ex => .leaf (ex, tm, h)
  | .scope c, tm, h => execC E fid call n lf c tm h
  | .loop c, tm, h => match loopSp E fid c with
    | some sp => sp tm h
    | none => loopS (execC E fid call n lf c) lf tm h
  | _, _, _ => .fail "code of a kind"

def numbered : Nat → List (ST τ) → List (Nat × ST τ)
  | _, [] => []
  | i, v :: r => (i, v) :: numbered (i + 1) r

def compS : ST τ → Option (Bool × List (SC τ))
  | .one c => some (false, [c])
  | .agg l => some (true, l)
  | .tup _ => none

def resS (E : Env τ) (tm : List (Nat × ST τ)) (h : Heap τ) : List ResultVar → Option (List (ST τ))
  | [] => some []
  | .tmp t :: r => match look tm t, resS E tm h r with
    | some v, some s => some (v :: s)
    | _, _ => none
  | .cell a t :: r => match look tm a, resS E tm h r with
    | some p, some s => match loadS E t p h with
      | some v => some (v :: s)
      | none => none
    | _, _ => none

def resultS : List (ST τ) → Option (ST τ)
  | [v] => some v
  | l => match mapO compS l with
    | some cs => some (.tup cs)
    | none => none

def gcL (base : Nat) (keep : List Nat) (l : List (Nat × Ent τ)) : List (Nat × Ent τ) := List.rec (motive := fun _ => List (Nat × Ent τ)) [] (fun x _ ih => Bool.rec (motive := fun _ => List (Nat × Ent τ)) (Bool.rec (motive := fun _ => List (Nat × Ent τ)) ih (x :: ih) (memN x.1 keep)) (x :: ih) (Nat.blt x.1 base)) l
theorem gcL_nil (base : Nat) (keep : List Nat) : gcL base keep ([] : List (Nat × Ent τ)) = [] := rfl
theorem gcL_cons (base : Nat) (keep : List Nat) (k : Nat) (e : Ent τ) (r : List (Nat × Ent τ)) : gcL base keep ((k, e) :: r) = if Nat.blt k base || memN k keep then (k, e) :: gcL base keep r else gcL base keep r := by
  cases h : Nat.blt k base <;> cases h2 : memN k keep <;> simp [gcL, h, h2]

def finS (E : Env τ) (h : Heap τ) (args : List (ST τ)) (rs : List ResultVar) (tm : List (Nat × ST τ)) (h1 : Heap τ) : Res τ :=
  match resS E tm h1 rs with
  | none => .fail "results"
  | some l => match resultS l with
    | none => .fail "result"
    | some v => .leaf (v, ⟨h1.n, gcL h.n (reach h1 12 (v.idxs ++ catMap ST.idxs args) []) h1.l⟩)

def callN (E : Env τ) (lf : Nat) : Nat → FuncId → List (ST τ) → Heap τ → Res τ
  | 0, _, _, _ => .fail "depth"
  | m + 1, f, args, h =>
    match E.spec f with
    | some sp => sp args h
    | none =>
      match E.P.funcs[f]? with
      | none => .fail "no function"
      | some fn => match fn.body with
        | none => .fail "no body"
        | some c =>
          if Nat.ble args.length fn.ntmps then
            (execC E f (callN E lf m) fn.ntmps lf c (numbered 0 args) h).bind fun (ex, tm, h1) =>
              match ex with
              | .exit _ => .fail "exit"
              | _ => finS E h args fn.results.toList tm h1
          else .fail "slots"

/-- What nobody writes. -/
def isC : Option (Ent τ) → Bool
  | some (.ccells ..) => true
  | some (.ro ..) => true
  | _ => false
def constL (h : Heap τ) : List (Nat × Ent τ) → List (Nat × Ent τ)
  | [] => []
  | (k, e) :: r => if isC (h.get k) then (k, e) :: constL h r else constL h r
def constOnly (h : Heap τ) : Heap τ := ⟨h.n, constL h h.l⟩

/-- A loop that is left by its block's end, and of which nothing is told but that what nobody writes is there still. -/
def quietLoop (id : Nat) (_ : List (Nat × ST τ)) (h : Heap τ) : Ran τ := .leaf (.exit id, [], constOnly h)

/-- An outcome, by a part of it. -/
def Out.map {α β : Type} (f : α → β) : Out τ α → Out τ β
  | .leaf a => .leaf (f a)
  | .ite b l r => .ite b (l.map f) (r.map f)
  | .fail s => .fail s

/-- errors.Is (the function fIs) of a sentinel (its pointer's type: tE), by errors.is (the function fis); of nil: by its own text. -/
def isSpec (E : Env τ) (fIs fis tE : Nat) (args : List (ST τ)) (h : Heap τ) : Res τ :=
  match args with
  | [.one .nif, .one (.ifc u x)] => callN E 40 40 fIs [.one .nif, .one (.ifc u x)] h
  | [.one (.ifc t v), .one (.ifc u x)] => if Nat.beq u tE then callN E 40 40 fis [.one (.ifc t v), .one (.ifc u x), .one (.bool (.lit true))] h else .fail "Is"
  | _ => .fail "Is"

def withIs (E : Env τ) (fIs fis tE : Nat) : Env τ := { E with spec := fun f => if Nat.beq f fIs then some (isSpec E fIs fis tE) else E.spec f }

end
end
end Go.Vse
