/- The program's data: words, addresses, calls, replies and their kin; the kit and the arithmetic that the symbolic executor is run with. -/
import Derived.Test.YtpmoieekpalheaaGreatDoorVseO
namespace Go.Vse
open Go

structure Word where
  slot : Int
  gen : Int
  tag : Int
  num : Int
  mark : Bool
  deriving DecidableEq, Inhabited
structure Ad where
  slot : Int
  gen : Int
  field : Int
  deriving DecidableEq, Inhabited
structure Reply where
  word : Word
  ok : Bool
  deriving DecidableEq, Inhabited
structure Ans where
  code : Int
  val : Int
  deriving DecidableEq, Inhabited
structure Opn where
  kind : Int
  key : Int
  val : Int
  tall : Int
  deriving DecidableEq, Inhabited
structure Cal where
  kind : Int
  at_ : Ad
  old : Word
  new : Word
  i : Int
  j : Int
  ans : Ans
  deriving DecidableEq, Inhabited
structure Row where
  thread : Int
  op : Opn
  ans : Ans
  from_ : Int
  to : Int
  done : Bool
  deriving DecidableEq, Inhabited

def vi (n : Int) : Value := .int .i64 n
def vb (b : Bool) : Value := .bool b
def Word.vals (w : Word) : List Value := [vi w.slot, vi w.gen, vi w.tag, vi w.num, vb w.mark]
def Ad.vals (a : Ad) : List Value := [vi a.slot, vi a.gen, vi a.field]
def Reply.vals (r : Reply) : List Value := r.word.vals ++ [vb r.ok]
def Ans.vals (a : Ans) : List Value := [vi a.code, vi a.val]
def Opn.vals (o : Opn) : List Value := [vi o.kind, vi o.key, vi o.val, vi o.tall]
def Cal.vals (c : Cal) : List Value := [vi c.kind] ++ c.at_.vals ++ c.old.vals ++ c.new.vals ++ [vi c.i, vi c.j] ++ c.ans.vals
def Row.vals (r : Row) : List Value := [vi r.thread] ++ r.op.vals ++ r.ans.vals ++ [vi r.from_, vi r.to, vb r.done]

/-- Contents of slices. -/
inductive PV where
  | ints (l : List Int)
  | bools (l : List Bool)
  | replies (l : List Reply)
  | opns (l : List Opn)
  | anss (l : List Ans)
  | rows (l : List Row)

def PV.den : PV → List (List Value)
  | .ints l => l.map fun n => [vi n]
  | .bools l => l.map fun n => [vb n]
  | .replies l => l.map Reply.vals
  | .opns l => l.map Opn.vals
  | .anss l => l.map Ans.vals
  | .rows l => l.map Row.vals

def PK : Kit := ⟨PV, Empty, PV.den, fun m _ _ _ => m.elim, fun m => m.elim⟩
abbrev PS : Ty := std PK

def ci (n : Int) : SC PS := .int .i64 (.opn n)
def cb (b : Bool) : SC PS := .bool (.opn b)
def Word.sc (w : Word) : List (SC PS) := [ci w.slot, ci w.gen, ci w.tag, ci w.num, cb w.mark]
def Ad.sc (a : Ad) : List (SC PS) := [ci a.slot, ci a.gen, ci a.field]
def Reply.sc (r : Reply) : List (SC PS) := r.word.sc ++ [cb r.ok]
def Ans.sc (a : Ans) : List (SC PS) := [ci a.code, ci a.val]
def Opn.sc (o : Opn) : List (SC PS) := [ci o.kind, ci o.key, ci o.val, ci o.tall]
def Cal.sc (c : Cal) : List (SC PS) := [ci c.kind] ++ c.at_.sc ++ c.old.sc ++ c.new.sc ++ [ci c.i, ci c.j] ++ c.ans.sc
def Row.sc (r : Row) : List (SC PS) := [ci r.thread] ++ r.op.sc ++ r.ans.sc ++ [ci r.from_, ci r.to, cb r.done]

theorem Word.sc_den (σ : Sg) (w : Word) : denL σ w.sc = some w.vals := rfl
theorem Reply.sc_den (σ : Sg) (r : Reply) : denL σ r.sc = some r.vals := rfl
theorem Opn.sc_den (σ : Sg) (o : Opn) : denL σ o.sc = some o.vals := rfl
theorem Ans.sc_den (σ : Sg) (o : Ans) : denL σ o.sc = some o.vals := rfl
theorem Cal.sc_den (σ : Sg) (c : Cal) : denL σ c.sc = some c.vals := rfl
theorem Row.sc_den (σ : Sg) (c : Row) : denL σ c.sc = some c.vals := rfl

def PV.get (v : PV) (i : Int) : List (SC PS) :=
  match v with
  | .ints l => [ci (l.getD i.toNat 0)]
  | .bools l => [cb (l.getD i.toNat false)]
  | .replies l => (l.getD i.toNat default).sc
  | .opns l => (l.getD i.toNat default).sc
  | .anss l => (l.getD i.toNat default).sc
  | .rows l => (l.getD i.toNat default).sc
def PV.len : PV → Int
  | .ints l => l.length
  | .bools l => l.length
  | .replies l => l.length
  | .opns l => l.length
  | .anss l => l.length
  | .rows l => l.length

def ofInt : List Value → Option Int
  | [.int .i64 a] => some a
  | _ => none
def ofBool : List Value → Option Bool
  | [.bool a] => some a
  | _ => none
def ofReply : List Value → Option Reply
  | [.int .i64 a, .int .i64 b, .int .i64 c, .int .i64 d, .bool e, .bool f] => some ⟨⟨a, b, c, d, e⟩, f⟩
  | _ => none
def ofOpn : List Value → Option Opn
  | [.int .i64 a, .int .i64 b, .int .i64 c, .int .i64 d] => some ⟨a, b, c, d⟩
  | _ => none
def ofAns : List Value → Option Ans
  | [.int .i64 a, .int .i64 b] => some ⟨a, b⟩
  | _ => none
def ofRow : List Value → Option Row
  | [.int .i64 t, .int .i64 a, .int .i64 b, .int .i64 c, .int .i64 d, .int .i64 x, .int .i64 y, .int .i64 f, .int .i64 g, .bool h] => some ⟨t, ⟨a, b, c, d⟩, ⟨x, y⟩, f, g, h⟩
  | _ => none
theorem ofInt_ok {vs : List Value} {a : Int} (h : ofInt vs = some a) : vs = [vi a] := by
  unfold ofInt at h; split at h <;> cases h; rfl
theorem ofBool_ok {vs : List Value} {a : Bool} (h : ofBool vs = some a) : vs = [vb a] := by
  unfold ofBool at h; split at h <;> cases h; rfl
theorem ofReply_ok {vs : List Value} {a : Reply} (h : ofReply vs = some a) : vs = a.vals := by
  unfold ofReply at h; split at h <;> cases h; rfl
theorem ofOpn_ok {vs : List Value} {a : Opn} (h : ofOpn vs = some a) : vs = a.vals := by
  unfold ofOpn at h; split at h <;> cases h; rfl
theorem ofAns_ok {vs : List Value} {a : Ans} (h : ofAns vs = some a) : vs = a.vals := by
  unfold ofAns at h; split at h <;> cases h; rfl
theorem ofRow_ok {vs : List Value} {a : Row} (h : ofRow vs = some a) : vs = a.vals := by
  unfold ofRow at h; split at h <;> cases h; rfl

/-- A row of cells without pointers, read. -/
def decR {α : Type} (f : List Value → Option α) (r : List (SC PS)) : Option α :=
  match denL (K := PK) (fun _ => none) r with
  | some vs => f vs
  | none => none

theorem decR_ok {α : Type} {f : List Value → Option α} {enc : α → List Value} (hf : ∀ vs a, f vs = some a → vs = enc a) {r : List (SC PS)} {a : α} (h : decR f r = some a) {σ : Sg} {vs : List Value} (hv : denL (K := PK) σ r = some vs) : vs = enc a := by
  unfold decR at h
  split at h
  · rename_i us hus
    have := denL_mono (K := PK) (σ := fun _ => none) (σ' := σ) (fun i L h => by cases h) r us hus
    rw [this] at hv; cases hv
    exact hf _ _ h
  · cases h

theorem decL_ok {α : Type} {f : List Value → Option α} {enc : α → List Value} (hf : ∀ vs a, f vs = some a → vs = enc a) {σ : Sg} : ∀ {l : List (List (SC PS))} {xs : List α} {rows : List (List Value)}, mapO (decR f) l = some xs → denR (K := PK) σ l = some rows → rows = xs.map enc
  | [], xs, rows, h, hd => by simp [mapO_nil, mapO_cons] at h; subst h; simp [denR] at hd; subst hd; rfl
  | r :: l, xs, rows, h, hd => by
    simp only [mapO_nil, mapO_cons] at h
    split at h
    · rename_i b s h1 h2
      cases h
      obtain ⟨v, ws, h3, h4, rfl⟩ := denR_cons.1 hd
      rw [decR_ok hf h1 h3, decL_ok hf h2 h4]; rfl
    · cases h

noncomputable def PV.app (v : PV) (l : List (List (SC PS))) : Option PV :=
  match v with
  | .ints a => (mapO (decR ofInt) l).map fun x => .ints (a ++ x)
  | .bools a => (mapO (decR ofBool) l).map fun x => .bools (a ++ x)
  | .replies a => (mapO (decR ofReply) l).map fun x => .replies (a ++ x)
  | .opns a => (mapO (decR ofOpn) l).map fun x => .opns (a ++ x)
  | .anss a => (mapO (decR ofAns) l).map fun x => .anss (a ++ x)
  | .rows a => (mapO (decR ofRow) l).map fun x => .rows (a ++ x)
def PV.cat (v u : PV) : Option PV :=
  match v, u with
  | .ints a, .ints b => some (.ints (a ++ b))
  | .bools a, .bools b => some (.bools (a ++ b))
  | .replies a, .replies b => some (.replies (a ++ b))
  | .opns a, .opns b => some (.opns (a ++ b))
  | .anss a, .anss b => some (.anss (a ++ b))
  | .rows a, .rows b => some (.rows (a ++ b))
  | _, _ => none
def PV.setAt (v : PV) (i : Int) (r : List (SC PS)) : Option PV :=
  match v with
  | .ints a => (decR ofInt r).map fun x => .ints (a.set i.toNat x)
  | .bools a => (decR ofBool r).map fun x => .bools (a.set i.toNat x)
  | .replies a => (decR ofReply r).map fun x => .replies (a.set i.toNat x)
  | .opns a => (decR ofOpn r).map fun x => .opns (a.set i.toNat x)
  | .anss a => (decR ofAns r).map fun x => .anss (a.set i.toNat x)
  | .rows a => (decR ofRow r).map fun x => .rows (a.set i.toNat x)
def PV.sub (v : PV) (i j : Int) : PV :=
  match v with
  | .ints a => .ints ((a.drop i.toNat).take (j.toNat - i.toNat))
  | .bools a => .bools ((a.drop i.toNat).take (j.toNat - i.toNat))
  | .replies a => .replies ((a.drop i.toNat).take (j.toNat - i.toNat))
  | .opns a => .opns ((a.drop i.toNat).take (j.toNat - i.toNat))
  | .anss a => .anss ((a.drop i.toNat).take (j.toNat - i.toNat))
  | .rows a => .rows ((a.drop i.toNat).take (j.toNat - i.toNat))

def PV.rep (l : List (SC PS)) (n : Int) : Option PV :=
  match decR ofInt l, decR ofBool l, decR ofReply l, decR ofOpn l, decR ofAns l, decR ofRow l with
  | some x, _, _, _, _, _ => some (.ints (List.replicate n.toNat x))
  | _, some x, _, _, _, _ => some (.bools (List.replicate n.toNat x))
  | _, _, some x, _, _, _ => some (.replies (List.replicate n.toNat x))
  | _, _, _, some x, _, _ => some (.opns (List.replicate n.toNat x))
  | _, _, _, _, some x, _ => some (.anss (List.replicate n.toNat x))
  | _, _, _, _, _, some x => some (.rows (List.replicate n.toNat x))
  | _, _, _, _, _, _ => none
theorem PV.rep_ok {l : List (SC PS)} {n : Int} {v : PV} {σ : Sg} {r : List Value} (h : PV.rep l n = some v) (hr : denL (K := PK) σ l = some r) : v.den = List.replicate n.toNat r := by
  unfold PV.rep at h
  split at h <;> cases h <;> rename_i x _ <;> simp only [PV.den, List.map_replicate]
  all_goals congr 1
  all_goals symm
  all_goals first
    | exact decR_ok (enc := fun n => [vi n]) (fun _ _ h => ofInt_ok h) (by assumption) hr
    | exact decR_ok (enc := fun n => [vb n]) (fun _ _ h => ofBool_ok h) (by assumption) hr
    | exact decR_ok (enc := Reply.vals) (fun _ _ h => ofReply_ok h) (by assumption) hr
    | exact decR_ok (enc := Opn.vals) (fun _ _ h => ofOpn_ok h) (by assumption) hr
    | exact decR_ok (enc := Ans.vals) (fun _ _ h => ofAns_ok h) (by assumption) hr
    | exact decR_ok (enc := Row.vals) (fun _ _ h => ofRow_ok h) (by assumption) hr
theorem PV.app_ok {v v' : PV} {l : List (List (SC PS))} {σ : Sg} {r : List (List Value)} (h : v.app l = some v') (hr : denR (K := PK) σ l = some r) : v'.den = v.den ++ r := by
  cases v <;> simp only [PV.app, Option.map_eq_some_iff] at h <;> obtain ⟨xs, h1, rfl⟩ := h
  · rw [decL_ok (enc := fun n => [vi n]) (fun _ _ h => ofInt_ok h) h1 hr]; simp [PV.den]
  · rw [decL_ok (enc := fun n => [vb n]) (fun _ _ h => ofBool_ok h) h1 hr]; simp [PV.den]
  · rw [decL_ok (enc := Reply.vals) (fun _ _ h => ofReply_ok h) h1 hr]; simp [PV.den]
  · rw [decL_ok (enc := Opn.vals) (fun _ _ h => ofOpn_ok h) h1 hr]; simp [PV.den]
  · rw [decL_ok (enc := Ans.vals) (fun _ _ h => ofAns_ok h) h1 hr]; simp [PV.den]
  · rw [decL_ok (enc := Row.vals) (fun _ _ h => ofRow_ok h) h1 hr]; simp [PV.den]
theorem PV.cat_ok {v u v' : PV} (h : v.cat u = some v') : v'.den = v.den ++ u.den := by
  cases v <;> cases u <;> simp only [PV.cat, reduceCtorEq, Option.some.injEq] at h <;> subst h <;> simp [PV.den]
theorem PV.setAt_ok {v v' : PV} {i : Int} {l : List (SC PS)} {σ : Sg} {r : List Value} (h : v.setAt i l = some v') (hr : denL (K := PK) σ l = some r) : v'.den = v.den.set i.toNat r := by
  cases v <;> simp only [PV.setAt, Option.map_eq_some_iff] at h <;> obtain ⟨xs, h1, rfl⟩ := h
  · rw [decR_ok (enc := fun n => [vi n]) (fun _ _ h => ofInt_ok h) h1 hr]; simp [PV.den, List.map_set]
  · rw [decR_ok (enc := fun n => [vb n]) (fun _ _ h => ofBool_ok h) h1 hr]; simp [PV.den, List.map_set]
  · rw [decR_ok (enc := Reply.vals) (fun _ _ h => ofReply_ok h) h1 hr]; simp [PV.den, List.map_set]
  · rw [decR_ok (enc := Opn.vals) (fun _ _ h => ofOpn_ok h) h1 hr]; simp [PV.den, List.map_set]
  · rw [decR_ok (enc := Ans.vals) (fun _ _ h => ofAns_ok h) h1 hr]; simp [PV.den, List.map_set]
  · rw [decR_ok (enc := Row.vals) (fun _ _ h => ofRow_ok h) h1 hr]; simp [PV.den, List.map_set]
theorem PV.sub_den (v : PV) (i j : Int) : (v.sub i j).den = (v.den.drop i.toNat).take (j.toNat - i.toNat) := by
  cases v <;> simp [PV.sub, PV.den]

/-- The arithmetic. -/
noncomputable def arS : Ar PS where
  int n := n
  bool b := b
  str s := s
  arith op k a b := arithZ op k a b
  cmp op a b := cmpZ op a b
  conv k a := k.wrap a
  and a b := a && b
  not a := !a
  eqB a b := a == b
  pickB c a b := if c then a else b
  pickI c a b := if c then a else b
  eqS a b := a.toList == b.toList
  catS a b := a ++ b
  lenS a := a.size
  vlen v := v.len
  vget v i := v.get i
  vapp v l := v.app l
  vcat v u := v.cat u
  vset v i r := v.setAt i r
  vsub v i j := some (v.sub i j)
  vrep l n := PV.rep l n

theorem get_map {α : Type} (l : List α) (d : α) (f : α → List Value) (i : Int) (h0 : 0 ≤ i) (h1 : i < ((l.map f).length : Int)) : (l.map f)[i.toNat]? = some (f (l.getD i.toNat d)) := by
  have h2 : i.toNat < l.length := by simp at h1; omega
  simp [List.getD_eq_getElem?_getD, h2]

theorem arS_ok : ArOK arS where
  int _ := rfl
  bool _ := rfl
  str _ := rfl
  arith _ _ _ _ := rfl
  cmp _ _ _ := rfl
  conv _ _ := rfl
  and _ _ := rfl
  not _ := rfl
  eqB _ _ := rfl
  eqS _ _ := rfl
  vlen v := by cases v <;> simp [arS, PV.len, PK, PV.den]
  vget v σ i h0 h1 := by
    cases v with
    | ints l => exact ⟨_, get_map l 0 _ i h0 h1, rfl⟩
    | bools l => exact ⟨_, get_map l false _ i h0 h1, rfl⟩
    | replies l => exact ⟨_, get_map l default _ i h0 h1, rfl⟩
    | opns l => exact ⟨_, get_map l default _ i h0 h1, rfl⟩
    | anss l => exact ⟨_, get_map l default _ i h0 h1, rfl⟩
    | rows l => exact ⟨_, get_map l default _ i h0 h1, rfl⟩
  vone v r hr u hu := by
    have key : ∀ (l : List Value), (l.all fun u => u.oneCell') = true → u ∈ l → u.oneCell' = true := fun l h hu => List.all_eq_true.1 h u hu
    cases v <;> simp only [PK, PV.den, List.mem_map] at hr <;> obtain ⟨x, _, rfl⟩ := hr <;> exact key _ rfl hu
  vapp _ _ _ _ _ h hr := PV.app_ok h hr
  vcat _ _ _ h := PV.cat_ok h
  vset _ _ _ _ _ _ h _ _ hr := PV.setAt_ok h hr
  vrep _ _ _ _ _ h _ hr := PV.rep_ok h hr
  vsub v i j v' h _ _ _ := by
    have : v' = v.sub i j := (Option.some.inj h).symm
    subst this
    exact PV.sub_den v i j

end Go.Vse
