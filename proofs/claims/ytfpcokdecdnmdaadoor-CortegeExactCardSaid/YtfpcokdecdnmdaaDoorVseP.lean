/- The program's data: words, addresses, calls, replies and their kin; the kit and the arithmetic that the symbolic executor is run with. -/
import Derived.Test.YtfpcokdecdnmdaaDoorVseO
namespace Go.Vse
open Go

structure Word where
  slot : Int
  gen : Int
  tag : Int
  num : Int
  mark : Bool
  deriving DecidableEq, Inhabited
structure Ad where
  slot : Int
  gen : Int
  field : Int
  deriving DecidableEq, Inhabited
structure Reply where
  word : Word
  ok : Bool
  deriving DecidableEq, Inhabited
structure Ans where
  code : Int
  val : Int
  deriving DecidableEq, Inhabited
structure Opn where
  kind : Int
  key : Int
  val : Int
  tall : Int
  deriving DecidableEq, Inhabited
structure Cal where
  kind : Int
  at_ : Ad
  old : Word
  new : Word
  i : Int
  j : Int
  ans : Ans
  deriving DecidableEq, Inhabited
structure Row where
  thread : Int
  op : Opn
  ans : Ans
  from_ : Int
  to : Int
  done : Bool
  deriving DecidableEq, Inhabited

def vi (n : Int) : Value := .int .i64 n
def vb (b : Bool) : Value := .bool b
def Word.vals (w : Word) : List Value := [vi w.slot, vi w.gen, vi w.tag, vi w.num, vb w.mark]
def Ad.vals (a : Ad) : List Value := [vi a.slot, vi a.gen, vi a.field]
def Reply.vals (r : Reply) : List Value := r.word.vals ++ [vb r.ok]
def Ans.vals (a : Ans) : List Value := [vi a.code, vi a.val]
def Opn.vals (o : Opn) : List Value := [vi o.kind, vi o.key, vi o.val, vi o.tall]
def Cal.vals (c : Cal) : List Value := [vi c.kind] ++ c.at_.vals ++ c.old.vals ++ c.new.vals ++ [vi c.i, vi c.j] ++ c.ans.vals
def Row.vals (r : Row) : List Value := [vi r.thread] ++ r.op.vals ++ r.ans.vals ++ [vi r.from_, vi r.to, vb r.done]

/-- Contents of slices. -/
inductive PV where
  | ints (l : List Int)
  | bools (l : List Bool)
  | replies (l : List Reply)
  | opns (l : List Opn)
  | anss (l : List Ans)
  | rows (l : List Row)

def PV.den : PV → List (List Value)
  | .ints l => l.map fun n => [vi n]
  | .bools l => l.map fun n => [vb n]
  | .replies l => l.map Reply.vals
  | .opns l => l.map Opn.vals
  | .anss l => l.map Ans.vals
  | .rows l => l.map Row.vals

def PK : Kit := ⟨PV, Empty, PV.den, fun m _ _ _ => m.elim, fun m => m.elim⟩
abbrev PS : Ty := std PK

def ci (n : Int) : SC PS := .int .i64 (.opn n)
def cb (b : Bool) : SC PS := .bool (.opn b)
def Word.sc (w : Word) : List (SC PS) := [ci w.slot, ci w.gen, ci w.tag, ci w.num, cb w.mark]
def Ad.sc (a : Ad) : List (SC PS) := [ci a.slot, ci a.gen, ci a.field]
def Reply.sc (r : Reply) : List (SC PS) := r.word.sc ++ [cb r.ok]
def Ans.sc (a : Ans) : List (SC PS) := [ci a.code, ci a.val]
def Opn.sc (o : Opn) : List (SC PS) := [ci o.kind, ci o.key, ci o.val, ci o.tall]
def Cal.sc (c : Cal) : List (SC PS) := [ci c.kind] ++ c.at_.sc ++ c.old.sc ++ c.new.sc ++ [ci c.i, ci c.j] ++ c.ans.sc
def Row.sc (r : Row) : List (SC PS) := [ci r.thread] ++ r.op.sc ++ r.ans.sc ++ [ci r.from_, ci r.to, cb r.done]

theorem Word.sc_den (σ : Sg) (w : Word) : denL σ w.sc = some w.vals := rfl
theorem Reply.sc_den (σ : Sg) (r : Reply) : denL σ r.sc = some r.vals := rfl
theorem Opn.sc_den (σ : Sg) (o : Opn) : denL σ o.sc = some o.vals := rfl
theorem Ans.sc_den (σ : Sg) (o : Ans) : denL σ o.sc = some o.vals := rfl
theorem Cal.sc_den (σ : Sg) (c : Cal) : denL σ c.sc = some c.vals := rfl
theorem Row.sc_den (σ : Sg) (c : Row) : denL σ c.sc = some c.vals := rfl

def PV.get (v : PV) (i : Int) : List (SC PS) :=
  match v with
  | .ints l => [ci (l.getD i.toNat 0)]
  | .bools l => [cb (l.getD i.toNat false)]
  | .replies l => (l.getD i.toNat default).sc
  | .opns l => (l.getD i.toNat default).sc
  | .anss l => (l.getD i.toNat default).sc
  | .rows l => (l.getD i.toNat default).sc
def PV.len : PV → Int
  | .ints l => l.length
  | .bools l => l.length
  | .replies l => l.length
  | .opns l => l.length
  | .anss l => l.length
  | .rows l => l.length

/-- The arithmetic. -/
def arS : Ar PS where
  int n := n
  bool b := b
  str s := s
  arith op k a b := arithZ op k a b
  cmp op a b := cmpZ op a b
  conv k a := k.wrap a
  and a b := a && b
  not a := !a
  eqB a b := a == b
  pickB c a b := if c then a else b
  pickI c a b := if c then a else b
  eqS a b := a.toList == b.toList
  catS a b := a ++ b
  lenS a := a.size
  vlen v := v.len
  vget v i := v.get i

theorem get_map {α : Type} (l : List α) (d : α) (f : α → List Value) (i : Int) (h0 : 0 ≤ i) (h1 : i < ((l.map f).length : Int)) : (l.map f)[i.toNat]? = some (f (l.getD i.toNat d)) := by
  have h2 : i.toNat < l.length := by simp at h1; omega
  simp [List.getD_eq_getElem?_getD, h2]

theorem arS_ok : ArOK arS where
  int _ := rfl
  bool _ := rfl
  str _ := rfl
  arith _ _ _ _ := rfl
  cmp _ _ _ := rfl
  conv _ _ := rfl
  and _ _ := rfl
  not _ := rfl
  eqB _ _ := rfl
  eqS _ _ := rfl
  vlen v := by cases v <;> simp [arS, PV.len, PK, PV.den]
  vget v σ i h0 h1 := by
    cases v with
    | ints l => exact ⟨_, get_map l 0 _ i h0 h1, rfl⟩
    | bools l => exact ⟨_, get_map l false _ i h0 h1, rfl⟩
    | replies l => exact ⟨_, get_map l default _ i h0 h1, rfl⟩
    | opns l => exact ⟨_, get_map l default _ i h0 h1, rfl⟩
    | anss l => exact ⟨_, get_map l default _ i h0 h1, rfl⟩
    | rows l => exact ⟨_, get_map l default _ i h0 h1, rfl⟩

end Go.Vse
