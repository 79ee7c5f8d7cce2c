/-
  A computable evaluator of loaded code over values, and that what it answers is what the code does: this text proves no law of the program; it holds without conditions.
  By an AI agent. No person has read it.
-/
import Derived.Calls
import Derived.Orders
import Derived.Below
import Derived.Laws.AppendOwn
import Derived.Laws.OwnMore
import Derived.Deep.MidRow
import Derived.Laws.Slices
import Derived.Tactics
set_option linter.all false
namespace Am
open Go

/-- One cell of frozen data. 'sl nil e rows': a slice (nil: for certain), its elements of e cells each. 'ptr': a pointer to a frozen place. -/
inductive C where
  | v (x : Value)
  | sl (nil : Bool) (e : Nat) (rows : List (List C))
  | ptr (cs : List C)
  | clo (f : Nat) (caps : List C)

/-- One cell of a running call. 'ref': a slice of the call's own array k (in its version ver; its first part). 'loc': a pointer into the call's own variable k. 'eloc': into an element. -/
inductive A where
  | c (x : C)
  | ref (k ver : Nat) (win : Option Nat)
  | loc (k off : Nat)
  | eloc (k ver i off : Nat)
  | clo (f : Nat) (caps : List A)
  | nil0 (e : Nat)

inductive W where
  | one (a : A)
  | agg (as : List A)
  | tup (ws : List W)

inductive Ob where
  | box (cells : List A) (frz : Bool)
  | arr (e : Nat) (rows : List (List C)) (ver : Nat) (frz : Bool)
  | dead

structure St where
  fr : List (Nat × W)
  ob : List (Nat × Ob)

inductive R1 where
  | d (x : C)
  | own (e : Nat) (rows : List (List C))

inductive R where
  | one (x : R1)
  | agg (xs : List R1)
  | tup (xs : List R)

inductive Arg where
  | one (x : C)
  | agg (xs : List C)
  | mv (e : Nat) (rows : List (List C))
  | io (e : Nat) (rows : List (List C))

abbrev Outs := List (List (List C))

/-- What is asked of a type. -/
inductive Kd where
  | sc | bool | str | struct (offs : List (Nat × Nat)) | array (len elem : Nat) | slice (elem : Nat)
structure TI where
  kd : Kd
  size : Nat
  bytes : Nat
  zero : List C

inductive Ex where
  | normal | ret | exit (id : Nat)

structure Cfg where
  F : Nat → Option Func
  T : Nat → Option TI
  /-- how a function takes its arguments: 0 frozen, 1 moved, 2 in and out -/
  modes : Nat → List Nat
  /-- the slots that live at the head of the loop in a block of a function -/
  live : Nat → Nat → List Nat
  /-- structs of whole numbers alone, which '==' compares -/
  eqT : Nat → Option Nat
  /-- types of whole numbers -/
  ik : Nat → Option IntKind
  /-- the type of a field -/
  fty : Nat → Nat → Option Nat
  /-- what functions without a table entry give, shown apart -/
  X : Nat → List Arg → Option (R × Outs)

/-- numbers, by functions that a symbolic run leaves alone -/
structure Ar where
  wrap : IntKind → Int → Int
  lt : Int → Int → Bool
  le : Int → Int → Bool
  eq : Int → Int → Bool
  eqs : ByteArray → ByteArray → Bool
  nle : Nat → Nat → Bool
  tdiv : Int → Int → Int
  tmod : Int → Int → Int
  add : IntKind → Int → Int → Int
  sub : IntKind → Int → Int → Int
  mul : IntKind → Int → Int → Int
  /-- so many elements of so many bytes have room -/
  room : Nat → Nat → Bool

def eqN (a b : Nat) : Bool := decide (a = b)
def leN (a b : Nat) : Bool := decide (a ≤ b)
def ltN (a b : Nat) : Bool := decide (a < b)
/-! lookups -/
def find {α : Type} (k : Nat) : List (Nat × α) → Option α
  | [] => none
  | (j, x) :: r => match eqN j k with | true => some x | false => find k r
def del {α : Type} (k : Nat) : List (Nat × α) → List (Nat × α)
  | [] => []
  | (j, x) :: r => match eqN j k with | true => del k r | false => (j, x) :: del k r
def nth {α : Type} : List α → Nat → Option α
  | [], _ => none
  | x :: _, 0 => some x
  | _ :: r, n + 1 => nth r n
/-- rows from l up to h -/
def cutR (rows : List (List C)) (l h : Nat) : List (List C) := (rows.take h).drop l
/-- rows, by functions that a symbolic run leaves alone -/
class RowOps where
  rowAt : List (List C) → Nat → Option (List C)
  rowsLen : List (List C) → Nat
  rowAt_get : ∀ l i, rowAt l i = l[i]?
  rowsLen_eq : ∀ l, rowsLen l = l.length
  rowsCat : List (List C) → List (List C) → List (List C)
  rowsCat_eq : ∀ a b, rowsCat a b = a ++ b
  rowsCut : List (List C) → Nat → Nat → List (List C)
  rowsCut_eq : ∀ a l h, rowsCut a l h = cutR a l h
attribute [simp] RowOps.rowsLen_eq
open RowOps
variable [RowOps]
def memN (k : Nat) : List Nat → Bool
  | [] => false
  | j :: r => match eqN j k with | true => true | false => memN k r
def apartN : List Nat → List Nat → Bool
  | [], _ => true
  | j :: r, l => match memN j l with | true => false | false => apartN r l

def St.slot (s : St) (t : Nat) : Option W := find t s.fr
def St.obj (s : St) (k : Nat) : Option Ob := find k s.ob

/-- reading the objects, with a log -/
inductive Rd (α : Type) where
  | ret (a : α)
  | look (k : Nat) (f : Option Ob → Rd α)
  | fail
def Rd.bind {α β : Type} : Rd α → (α → Rd β) → Rd β
  | .ret a, g => g a
  | .look k f, g => .look k fun o => (f o).bind g
  | .fail, _ => .fail
def Rd.run {α : Type} (look : Nat → Option Ob) : Rd α → List Nat → Option (α × List Nat)
  | .ret a, l => some (a, l)
  | .look k f, l => (f (look k)).run look (k :: l)
  | .fail, _ => none
def Rd.of {α : Type} : Option α → Rd α
  | some a => .ret a
  | none => .fail
def Rd.map1 {α β : Type} (f : α → Rd β) : List α → Rd (List β)
  | [] => .ret []
  | x :: r => (f x).bind fun y => (Rd.map1 f r).bind fun ys => .ret (y :: ys)

/-- what an operation does: the value of its slot (or none: the slot is struck), and the objects that it writes -/
structure Eff where
  val : Option W
  upd : List (Nat × Ob)

def St.apply (s : St) (d : Option Nat) (e : Eff) : St :=
  ⟨match d with | some t => (match e.val with | some w => (t, w) :: s.fr | none => del t s.fr) | none => s.fr,
   e.upd ++ s.ob⟩

/-! scalars -/
def cellOf : Value → Option C
  | .bool b => some (.v (.bool b))
  | .int k n => some (.v (.int k n))
  | .string s => some (.v (.string s))
  | .pointer none => some (.v (.pointer none))
  | .slice none 0 0 => some (.sl true 0 [])
  | .nilFunc => some (.v .nilFunc)
  | .nilIface => some (.v .nilIface)
  | .map none => some (.v (.map none))
  | _ => none
def wOf (x : Value) : Option W := (cellOf x).bind fun c => some (.one (.c c))

def opnd (sl : Nat → Option W) : Operand → Option W
  | .tmp t => sl t
  | .const x => wOf x
  | .func f => some (.one (.clo f []))
  | .global _ => none
def opnds (sl : Nat → Option W) : List Operand → Option (List W)
  | [] => some []
  | x :: r => (opnd sl x).bind fun w => (opnds sl r).bind fun ws => some (w :: ws)

def winOf (rows : List (List C)) : Option Nat → List (List C)
  | none => rows
  | some n => rows.take n

/-- the rows of a slice, with the size of an element -/
def rowsOf : A → Rd (Nat × List (List C))
  | .c (.sl _ e rows) => .ret (e, rows)
  | .c (.v (.slice _ 0 _)) => .ret (0, [])
  | .nil0 e => .ret (e, [])
  | .ref k ver win => .look k fun o => match o with
    | some (.arr e rows ver' _) => bif eqN ver ver' then .ret (e, winOf rows win) else .fail
    | _ => .fail
  | _ => .fail

/-- a cell of the call as frozen data -/
def deNil : C → C
  | .sl true e [] => .sl false e []
  | x => x
def reify : Nat → A → Rd C
  | 0, _ => .fail
  | n + 1, a => match a with
    | .c x => .ret (deNil x)
    | .nil0 e => .ret (.sl false e [])
    | .ref k ver win => (rowsOf (.ref k ver win)).bind fun r => .ret (.sl false r.1 r.2)
    | .loc k off => .look k fun o => match o with
      | some (.box cells _) => (Rd.map1 (reify n) (cells.drop off)).bind fun cs => .ret (.ptr cs)
      | _ => .fail
    | .eloc .. => .fail
    | .clo f caps => (Rd.map1 (reify n) caps).bind fun cs => .ret (.clo f cs)
def depth : Nat := 6
def reifyAll (as : List A) : Rd (List C) := Rd.map1 (reify depth) as

def W.cells : W → Option (List A)
  | .one a => some [a]
  | .agg as => some as
  | .tup _ => none
def packW (agg : Bool) (as : List A) : Option W := bif agg then some (.agg as) else match as with | [a] => some (.one a) | _ => none
def TI.agg (t : TI) : Bool := match t.kd with | .struct _ | .array .. => true | _ => false
def splice {α : Type} (xs : List α) (o : Nat) (ys : List α) : List α := xs.take o ++ ys ++ xs.drop (o + ys.length)

def shrOp (k : IntKind) : Int → Int → Option Value
  | .ofNat m, .ofNat n => match leN n 8 with | true => some (.int k (.ofNat (m / 2 ^ n))) | false => none
  | _, _ => none
def scalarOp (N : Ar) (op : BinOp) (x y : Value) : Option Value :=
  match x, y with
  | .int k a, .int k' b => bif decide (k = k') then match op with
    | .add => some (.int k (N.add k a b))
    | .sub => some (.int k (N.sub k a b))
    | .mul => some (.int k (N.mul k a b))
    | .eql => some (.bool (N.eq a b))
    | .neq => some (.bool (!N.eq a b))
    | .lss => some (.bool (N.lt a b))
    | .leq => some (.bool (N.le a b))
    | .gtr => some (.bool (N.lt b a))
    | .geq => some (.bool (N.le b a))
    | .quo => bif N.eq b 0 then none else some (.int k (N.wrap k (N.tdiv a b)))
    | .rem => bif N.eq b 0 then none else some (.int k (N.tmod a b))
    | .shr => shrOp k a b
    | _ => none
    else none
  | .string a, .string b => match op with
    | .eql => some (.bool (N.eqs a b))
    | .neq => some (.bool (!N.eqs a b))
    | _ => none
  | _, _ => none

/-- whole numbers, cell by cell -/
def eqInts (N : Ar) : List A → List A → Option Bool
  | [], [] => some true
  | .c (.v (.int k a)) :: r, .c (.v (.int k' b)) :: r' => bif decide (k = k') then (eqInts N r r').bind fun t => some (N.eq a b && t) else none
  | _, _ => none

/-- is a slice nil? -/
def nilQ : A → Option Bool
  | .c (.sl true _ []) => some true
  | .nil0 _ => some true
  | .c (.v (.slice a 0 _)) => some a.isNone
  | .c (.sl false _ (_ :: _)) => some false
  | _ => none
def eqSize (n : Nat) : Option Nat → Bool
  | some m => eqN n m
  | none => false
def ebin (E : Cfg) (N : Ar) (op : BinOp) (ty : Nat) (x y : W) : Option W :=
  match x, y with
  | .one (.c (.v (.bool a))), .one (.c (.v (.bool b))) => match E.T ty with
    | some ⟨.bool, _, _, _⟩ => match op with
      | .eql => wOf (.bool (a == b))
      | .neq => wOf (.bool (!(a == b)))
      | _ => none
    | _ => none
  | .one (.c (.v a)), .one (.c (.v b)) => (scalarOp N op a b).bind wOf
  | .one a, .one (.c (.sl true _ [])) => match E.T ty with
    | some ⟨.slice _, _, _, _⟩ => (nilQ a).bind fun t => match op with
      | .eql => wOf (.bool t)
      | .neq => wOf (.bool !t)
      | _ => none
    | _ => none
  | .agg as, .agg bs => bif eqSize as.length (E.eqT ty) then (eqInts N as bs).bind fun t => match op with
    | .eql => wOf (.bool t)
    | .neq => wOf (.bool !t)
    | _ => none
    else none
  | _, _ => none

def eun (N : Ar) (op : UnOp) (x : W) : Option W :=
  match op, x with
  | .not, .one (.c (.v (.bool b))) => wOf (.bool !b)
  | .neg, .one (.c (.v (.int k n))) => wOf (.int k (N.sub k 0 n))
  | _, _ => none

def natOf : W → Option Nat
  | .one (.c (.v (.int _ n))) => match n with | .ofNat m => some m | .negSucc _ => none
  | _ => none

/-- n cells from a pointer on -/
def loadC (n : Nat) : A → Rd (List A)
  | .loc k off => .look k fun o => match o with
    | some (.box cells _) => bif leN (off + n) cells.length then .ret ((cells.drop off).take n) else .fail
    | _ => .fail
  | .c (.ptr cs) => bif leN n cs.length then .ret ((cs.take n).map A.c) else .fail
  | .eloc k ver i off => .look k fun o => match o with
    | some (.arr e rows ver' _) => bif eqN ver ver' then (match rowAt rows i with
        | some row => bif leN (off + n) e then .ret (((row.drop off).take n).map A.c) else .fail
        | none => .fail) else .fail
    | _ => .fail
  | _ => .fail

/-- the keys of the objects that a cell reaches -/
def keysOf : Nat → A → Rd (List Nat)
  | 0, _ => .fail
  | n + 1, a => match a with
    | .ref k _ _ => .look k fun o => match o with
      | some (.arr _ _ _ _) => .ret [k]
      | _ => .fail
    | .loc k off => .look k fun o => match o with
      | some (.box cells _) => (Rd.map1 (keysOf n) (cells.drop off)).bind fun rs => .ret (k :: rs.flatten)
      | _ => .fail
    | .eloc .. => .fail
    | .clo _ caps => (Rd.map1 (keysOf n) caps).bind fun rs => .ret rs.flatten
    | .c _ => .ret []
    | .nil0 _ => .ret []
def keysAll (as : List A) : Rd (List Nat) := (Rd.map1 (keysOf depth) as).bind fun rs => .ret rs.flatten

/-- frozen from now on -/
def frzAll : List Nat → Rd (List (Nat × Ob))
  | [] => .ret []
  | k :: ks => .look k fun o => match o with
    | some (.arr e rows ver _) => (frzAll ks).bind fun us => .ret ((k, .arr e rows ver true) :: us)
    | some (.box cells _) => (frzAll ks).bind fun us => .ret ((k, .box cells true) :: us)
    | _ => .fail

def storeC (xs : List A) : A → Rd (List (Nat × Ob))
  | .loc k off => .look k fun o => match o with
    | some (.box cells false) => bif leN (off + xs.length) cells.length then .ret [(k, .box (splice cells off xs) false)] else .fail
    | _ => .fail
  | .eloc k ver i off => (reifyAll xs).bind fun cs => (keysAll xs).bind fun ks => .look k fun o => match o with
    | some (.arr e rows ver' false) => bif eqN ver ver' && !memN k ks then (match rowAt rows i with
        | some row => bif leN (off + xs.length) e then (frzAll ks).bind fun us => .ret ((k, .arr e (rows.set i (splice row off cs)) ver false) :: us) else .fail
        | none => .fail) else .fail
    | _ => .fail
  | _ => .fail

def addOff (o : Nat) : A → Rd A
  | .loc k off => .look k fun ob => match ob with
    | some (.box _ _) => .ret (.loc k (off + o))
    | _ => .fail
  | .c (.ptr cs) => bif leN o cs.length then .ret (.c (.ptr (cs.drop o))) else .fail
  | .eloc k ver i off => .look k fun ob => match ob with
    | some (.arr _ _ ver' _) => bif eqN ver ver' then .ret (.eloc k ver i (off + o)) else .fail
    | _ => .fail
  | _ => .fail

/-- the address of element i, whose size is e -/
def idxAddr (e i : Nat) : A → Rd A
  | .c (.sl _ e' rows) => match rowAt rows i with
    | some row => bif eqN e e' then .ret (.c (.ptr row)) else .fail
    | none => .fail
  | .ref k ver win => .look k fun o => match o with
    | some (.arr e' rows ver' _) => bif eqN ver ver' then (bif eqN e e' then (match rowAt (winOf rows win) i with
      | some _ => .ret (.eloc k ver i 0)
      | none => .fail) else .fail) else .fail
    | _ => .fail
  | _ => .fail

def fillC (cells : List A) : List (Nat × List A) → List A
  | [] => cells
  | (o, xs) :: r => fillC (splice cells o xs) r

/-- a nil slice as a variable holds it -/
def varCell : C → A
  | .sl true e [] => .nil0 e
  | c => .c c

def partsOf (sl : Nat → Option W) (offs : List (Nat × Nat)) : List (Nat × Operand) → Option (List (Nat × List A))
  | [] => some []
  | (i, x) :: r => (nth offs i).bind fun o => (opnd sl x).bind fun w => w.cells.bind fun as =>
      bif eqN as.length o.2 then (partsOf sl offs r).bind fun ps => some ((o.1, as) :: ps) else none

def rowParts (sl : Nat → Option W) (e : Nat) (rows : List (List C)) : List (Nat × Operand) → Rd (List (List C) × List Nat)
  | [] => .ret (rows, [])
  | (i, x) :: r => match (opnd sl x).bind W.cells with
    | some as => bif eqN as.length e then (bif ltN i rows.length then (reifyAll as).bind fun cs => (keysAll as).bind fun ks =>
        (rowParts sl e (rows.set i cs) r).bind fun q => .ret (q.1, ks ++ q.2) else .fail) else .fail
    | none => .fail

def keyMax : Nat := 4096

/-- a new object must not be there yet -/
def fresh (k : Nat) : Rd Unit := .look k fun o => match o with | none => .ret () | some _ => .fail

/-- what comes out of a call, laid among the objects: the keys t, t + 4096, .. -/
def impCells (t : Nat) : Nat → List R1 → List A × Nat × List (Nat × Ob)
  | j, [] => ([], j, [])
  | j, .d x :: r => match impCells t j r with | (as, j', us) => (.c x :: as, j', us)
  | j, .own e rows :: r => match impCells t (j + 1) r with | (as, j', us) => (.ref (t + keyMax * j) 0 none :: as, j', (t + keyMax * j, .arr e rows 0 false) :: us)
def impW (t : Nat) : Nat → R → Option (W × Nat × List (Nat × Ob))
  | j, .one x => match impCells t j [x] with | ([a], j', us) => some (.one a, j', us) | _ => none
  | j, .agg xs => match impCells t j xs with | (as, j', us) => some (.agg as, j', us)
  | _, .tup _ => none
def impWs (t : Nat) : Nat → List R → Option (List W × Nat × List (Nat × Ob))
  | j, [] => some ([], j, [])
  | j, r :: rs => (impW t j r).bind fun x => (impWs t x.2.1 rs).bind fun y => some (x.1 :: y.1, y.2.1, x.2.2 ++ y.2.2)
def imp (t : Nat) (r : R) : Option (W × List (Nat × Ob)) :=
  match r with
  | .tup rs => (impWs t 0 rs).bind fun y => some (.tup y.1, y.2.2)
  | r => (impW t 0 r).bind fun x => some (x.1, x.2.2)
def freshAll : List (Nat × Ob) → Rd Unit
  | [] => .ret ()
  | (k, _) :: r => (fresh k).bind fun _ => freshAll r

/-- a nil slice of a known type -/
def retype (e : Nat) : W → W
  | .one (.c (.sl true _ [])) => .one (.c (.sl true e []))
  | w => w
def retypes (E : Cfg) : List Nat → List W → List W
  | t :: ts, w :: ws => (match E.T t with | some ⟨.slice e, _, _, _⟩ => (match E.T e with | some te => retype te.size w | none => w) | _ => w) :: retypes E ts ws
  | _, ws => ws

/-- keys that are reached by what is handed on frozen: arrays, and whether a variable is among them -/
def argOf (mode : Nat) (w : W) : Rd Arg :=
  match mode, w with
  | 0, .one (.c (.sl true e [])) => .ret (.one (.sl true e []))
  | 0, .one a => (reify depth a).bind fun c => .ret (.one c)
  | 0, .agg as => (reifyAll as).bind fun cs => .ret (.agg cs)
  | 1, .one (.ref k ver win) => .look k fun o => match o with
    | some (.arr e rows ver' false) => bif eqN ver ver' then .ret (.mv e (winOf rows win)) else .fail
    | _ => .fail
  | 2, .one (.ref k ver none) => .look k fun o => match o with
    | some (.arr e rows ver' false) => bif eqN ver ver' then .ret (.io e rows) else .fail
    | _ => .fail
  | _, _ => .fail
def argsOf : List Nat → List W → Rd (List Arg)
  | _, [] => .ret []
  | ms, w :: ws => (argOf (match ms with | [] => 0 | m :: _ => m) w).bind fun a => (argsOf ms.tail ws).bind fun as => .ret (a :: as)

def R1.flat : R1 → Nat
  | .d (.v _) => 0
  | .own _ _ => 1
  | .d (.sl ..) => 1
  | .d _ => 2
def R.flat : R → Nat
  | .one x => x.flat
  | .agg xs => xs.foldr (fun x n => max x.flat n) 0
  | .tup _ => 3
def R.flats : R → Nat
  | .tup rs => rs.foldr (fun x n => max x.flat n) 0
  | r => r.flat

def outsTo : List Nat → List W → Outs → Rd (List (Nat × Ob))
  | m :: ms, w :: ws, outs => match m, w, outs with
    | 1, .one (.ref k _ _), outs => (outsTo ms ws outs).bind fun us => .ret ((k, .dead) :: us)
    | 2, .one (.ref k _ _), rows :: outs => .look k fun o => match o with
      | some (.arr e _ ver _) => (outsTo ms ws outs).bind fun us => .ret ((k, .arr e rows ver false) :: us)
      | _ => .fail
    | 0, _, outs => outsTo ms ws outs
    | _, _, _ => .fail
  | _, _, _ => .ret []

abbrev Orc := Nat → List Arg → Option (R × Outs)

/-- the keys named by arguments that are moved, or handed in and out -/
def ioKeys : List Nat → List W → List Nat
  | m :: ms, w :: ws => match m, w with
    | 1, .one (.ref k _ _) => k :: ioKeys ms ws
    | 2, .one (.ref k _ _) => k :: ioKeys ms ws
    | _, _ => ioKeys ms ws
  | _, _ => []
def fzWs : List Nat → List W → List W
  | m :: ms, w :: ws => match m with
    | 0 => w :: fzWs ms ws
    | _ => fzWs ms ws
  | [], ws => ws
  | _, [] => []
def wsKeys : List W → Rd (List Nat)
  | [] => .ret []
  | w :: ws => match w.cells with
    | some as => (keysAll as).bind fun ks => (wsKeys ws).bind fun ks' => .ret (ks ++ ks')
    | none => .fail
def nodupN : List Nat → Bool
  | [] => true
  | k :: r => match memN k r with | true => false | false => nodupN r

def callW (E : Cfg) (call : Orc) (d : Option Nat) (f : Nat) (ws : List W) : Rd Eff :=
  (argsOf (E.modes f) ws).bind fun args => match call f args with
    | none => .fail
    | some (r, outs) => (wsKeys (fzWs (E.modes f) ws)).bind fun fk =>
      let io := ioKeys (E.modes f) ws
      bif nodupN io && apartN io fk then
        (match io, r.flats with
          | [], 0 => Rd.ret []
          | _, _ => frzAll fk).bind fun us1 =>
        (outsTo (E.modes f) ws outs).bind fun us2 =>
        match d with
        | none => .ret ⟨none, us2 ++ us1⟩
        | some t => match imp t r with
          | none => .fail
          | some (w, us3) => (freshAll us3).bind fun _ => Rd.ret ⟨some w, us3 ++ (us2 ++ us1)⟩
      else .fail

def lenW (E : Cfg) (ts : List Nat) (a : A) : Rd Eff :=
  match ts with
  | [t] => match E.T t with
    | some ⟨.str, _, _, _⟩ => match a with
      | .c (.v (.string x)) => .ret ⟨some (.one (.c (.v (.int .i64 x.size)))), []⟩
      | _ => .fail
    | some ⟨.slice _, _, _, _⟩ => (rowsOf a).bind fun r => .ret ⟨some (.one (.c (.v (.int .i64 (Int.ofNat (rowsLen r.2)))))), []⟩
    | _ => .fail
  | _ => .fail

def newArr' (t : Nat) (e : Nat) (rows : List (List C)) : Rd Eff := (fresh t).bind fun _ => .ret ⟨some (.one (.ref t 0 none)), [(t, .arr e rows 0 false)]⟩
def capW (E : Cfg) (ts : List Nat) (a : A) : Rd Eff :=
  match ts, a with
  | [t], .c (.sl true _ []) => match E.T t with
    | some ⟨.slice _, _, _, _⟩ => .ret ⟨some (.one (.c (.v (.int .i64 0)))), []⟩
    | _ => .fail
  | _, _ => .fail

def appendTo (N : Ar) (te : TI) (t : Nat) (ys : List (List C)) : A → Rd Eff
  | .ref k ver win => .look k fun o => match o with
    | some (.arr e' rows ver' false) => bif eqN ver ver' && eqN e' te.size then
        bif N.room (rowsLen (rowsCat (winOf rows win) ys)) te.bytes then
          .ret ⟨some (.one (.ref k (ver + 1) none)), [(k, .arr e' (rowsCat (winOf rows win) ys) (ver + 1) false)]⟩ else .fail
      else .fail
    | _ => .fail
  | .nil0 _ => bif N.room (rowsLen ys) te.bytes then (fresh t).bind fun _ => .ret ⟨some (.one (.ref t 0 none)), [(t, .arr te.size ys 0 false)]⟩ else .fail
  | .c (.sl true _ []) => bif N.room (rowsLen ys) te.bytes then (fresh t).bind fun _ => .ret ⟨some (.one (.ref t 0 none)), [(t, .arr te.size ys 0 false)]⟩ else .fail
  | _ => .fail

/-- append(nil, make(.., n)...) -/
def appendMake (E : Cfg) (N : Ar) (t t' t0 : Nat) : A → A → Rd Eff
  | .c (.sl true _ []), .c (.v (.int _ (.ofNat n))) => match E.T t, E.ik t' with
    | some ⟨.slice e, _, _, _⟩, some _ => match E.T e with
      | some te => bif N.nle 1 n && N.room n te.bytes then newArr' t0 te.size (List.replicate n te.zero) else .fail
      | none => .fail
    | _, _ => .fail
  | _, _ => .fail
def noRows : List (List C) → Bool
  | [] => true
  | _ => false
def appendW (E : Cfg) (N : Ar) (d : Option Nat) (ts : List Nat) (a b : A) : Rd Eff :=
  match ts, d with
  | [t, t'], some t0 => bif eqN t t' then (match E.T t with
    | some ⟨.slice e, _, _, _⟩ => match E.T e with
      | some te => (rowsOf b).bind fun ys => bif (bif eqN ys.1 te.size then true else noRows ys.2) then appendTo N te t0 ys.2 a else .fail
      | none => .fail
    | _ => .fail) else appendMake E N t t' t0 a b
  | _, _ => .fail

def builtinW (E : Cfg) (N : Ar) (d : Option Nat) (b : Builtin) (ts : List Nat) (ws : List W) : Rd Eff :=
  match b, ws with
  | .len, [.one a] => lenW E ts a
  | .append, [.one a, .one b] => appendW E N d ts a b
  | .cap, [.one a] => capW E ts a
  | .min, [.one (.c (.v (.int k x))), .one (.c (.v (.int _ y)))] => .ret ⟨some (.one (.c (.v (.int k (bif N.lt y x then y else x))))), []⟩
  | .max, [.one (.c (.v (.int k x))), .one (.c (.v (.int _ y)))] => .ret ⟨some (.one (.c (.v (.int k (bif N.lt x y then y else x))))), []⟩
  | _, _ => .fail

def lowB (sl : Nat → Option W) : Option Operand → Option Nat
  | none => some 0
  | some x => (opnd sl x).bind natOf
def highB (sl : Nat → Option W) : Option Operand → Option (Option Nat)
  | none => some none
  | some x => ((opnd sl x).bind natOf).map some
def highOf (hi : Option Nat) (n : Nat) : Nat := match hi with | none => n | some h => h
def cutS (b : ByteArray) (l h : Nat) : ByteArray := ⟨((b.data.toList.take h).drop l).toArray⟩
def sliceA (N : Ar) (es l : Nat) (hi : Option Nat) : A → Rd A
  | .c (.sl true e []) => bif N.nle l (highOf hi 0) && N.nle (highOf hi 0) 0 then .ret (.c (.sl true e [])) else .fail
  | .c (.sl _ e rows) => bif eqN e es && (N.nle l (highOf hi (rowsLen rows)) && N.nle (highOf hi (rowsLen rows)) (rowsLen rows)) then .ret (.c (.sl false e (rowsCut rows l (highOf hi (rowsLen rows))))) else .fail
  | .nil0 e => bif N.nle l (highOf hi 0) && N.nle (highOf hi 0) 0 then .ret (.nil0 e) else .fail
  | .ref k ver win => .look k fun o => match o with
    | some (.arr e rows ver' _) => bif eqN ver ver' && (eqN l 0 && N.nle (highOf hi (rowsLen (winOf rows win))) (rowsLen (winOf rows win))) then .ret (.ref k ver (some (highOf hi (rowsLen (winOf rows win))))) else .fail
    | _ => .fail
  | _ => .fail

def newBox (d : Option Nat) (cs : List A) : Rd Eff := match d with
  | some t => (fresh t).bind fun _ => .ret ⟨some (.one (.loc t 0)), [(t, .box cs false)]⟩
  | none => .fail
def newArr (d : Option Nat) (e : Nat) (rows : List (List C)) : Rd Eff := match d with
  | some t => (fresh t).bind fun _ => .ret ⟨some (.one (.ref t 0 none)), [(t, .arr e rows 0 false)]⟩
  | none => .fail
def val (w : Option W) : Rd Eff := match w with | some w => .ret ⟨some w, []⟩ | none => .fail
def fnCell : W → Option A
  | .one a => some a
  | _ => none
def fnCells : List W → Option (List A)
  | [] => some []
  | w :: r => (fnCell w).bind fun a => (fnCells r).bind fun as => some (a :: as)

def eop (E : Cfg) (N : Ar) (call : Orc) (sl : Nat → Option W) (d : Option Nat) (ty : Nat) (o : Op) : Rd Eff :=
  match o with
  | .move x => match opnd sl x with
    | some (.one (.c (.sl true _ []))) => (match E.T ty with
      | some ⟨.slice e, _, _, _⟩ => (match E.T e with | some te => .ret ⟨some (.one (.c (.sl true te.size []))), []⟩ | none => .fail)
      | _ => .fail)
    | w => val w
  | .assign x => match opnd sl x with
    | some (.one (.c (.sl true _ []))) => (match E.T ty with
      | some ⟨.slice e, _, _, _⟩ => (match E.T e with | some te => .ret ⟨some (.one (.nil0 te.size)), []⟩ | none => .fail)
      | _ => .fail)
    | w => val w
  | .pick c a b => match opnd sl c with
    | some (.one (.c (.v (.bool t)))) => bif t then val (opnd sl a) else val (opnd sl b)
    | _ => .fail
  | .alloc e => match E.T e with
    | some ti => newBox d (ti.zero.map varCell)
    | none => .fail
  | .box _ x => match (opnd sl x).bind W.cells with
    | some cs => newBox d cs
    | none => .fail
  | .build t ps => match E.T t with
    | some ⟨.struct offs, _, _, zero⟩ => match partsOf sl offs ps.toList with
      | some qs => .ret ⟨some (.agg (fillC (zero.map A.c) qs)), []⟩
      | none => .fail
    | _ => .fail
  | .buildSlice t n ps => match E.T t with
    | some ⟨.slice e, _, _, _⟩ => match E.T e with
      | some te => bif leN (n * te.size) 1000 then (rowParts sl te.size (List.replicate n te.zero) ps.toList).bind fun q => (frzAll q.2).bind fun us => (newArr d te.size q.1).bind fun f => .ret ⟨f.val, f.upd ++ us⟩ else .fail
      | none => .fail
    | _ => .fail
  | .load t a => match E.T t, opnd sl a with
    | some ti, some (.one p) => (loadC ti.size p).bind fun cs => val (packW ti.agg cs)
    | _, _ => .fail
  | .store t a x => match E.T t, opnd sl a, (opnd sl x).bind W.cells, d with
    | some ti, some (.one p), some cs, none => bif eqN cs.length ti.size then (storeC cs p).bind fun us => .ret ⟨none, us⟩ else .fail
    | _, _, _, _ => .fail
  | .nilCheck x => match opnd sl x with
    | some (.one (.loc k o)) => .look k fun ob => match ob with
      | some (.box _ _) => .ret ⟨some (.one (.loc k o)), []⟩
      | _ => .fail
    | some (.one (.c (.ptr cs))) => .ret ⟨some (.one (.c (.ptr cs))), []⟩
    | some (.one (.clo f cs)) => .ret ⟨some (.one (.clo f cs)), []⟩
    | some (.one (.c (.clo f cs))) => .ret ⟨some (.one (.c (.clo f cs))), []⟩
    | _ => .fail
  | .binOp op ty x y _ => match opnd sl x, opnd sl y with
    | some a, some b => val (ebin E N op ty a b)
    | _, _ => .fail
  | .unOp op _ x => match opnd sl x with
    | some a => val (eun N op a)
    | none => .fail
  | .fieldAddr t x f => match E.T t, opnd sl x with
    | some ⟨.struct offs, _, _, _⟩, some (.one p) => match nth offs f with
      | some o => (addOff o.1 p).bind fun q => .ret ⟨some (.one q), []⟩
      | none => .fail
    | _, _ => .fail
  | .indexAddr t x i => match E.T t, opnd sl x, (opnd sl i).bind natOf with
    | some ⟨.slice e, _, _, _⟩, some (.one p), some n => match E.T e with
      | some te => (idxAddr te.size n p).bind fun q => .ret ⟨some (.one q), []⟩
      | none => .fail
    | some ⟨.array m e, _, _, _⟩, some (.one p), some n => match E.T e with
      | some te => bif N.nle (n + 1) m then (addOff (n * te.size) p).bind fun q => .ret ⟨some (.one q), []⟩ else .fail
      | none => .fail
    | _, _, _ => .fail
  | .extract x i => match opnd sl x with
    | some (.tup ws) => val (nth ws i)
    | _ => .fail
  | .makeSlice t n m => match E.T t, (opnd sl n).bind natOf, (opnd sl m).bind natOf with
    | some ⟨.slice e, _, _, _⟩, some n, some m => match E.T e with
      | some te => bif eqN n m && N.room n te.bytes then newArr d te.size (List.replicate n te.zero) else .fail
      | none => .fail
    | _, _, _ => .fail
  | .slice t x lo hi mx => match E.T t, opnd sl x, lowB sl lo, highB sl hi, mx with
    | some ⟨.slice el, _, _, _⟩, some (.one p), some l, some h, none => match E.T el with
      | some te => (sliceA N te.size l h p).bind fun q => .ret ⟨some (.one q), []⟩
      | none => .fail
    | some ⟨.str, _, _, _⟩, some (.one (.c (.v (.string b)))), some l, some h, none => bif N.nle l (highOf h b.data.toList.length) && N.nle (highOf h b.data.toList.length) b.data.toList.length then val (some (.one (.c (.v (.string (cutS b l (highOf h b.data.toList.length))))))) else .fail
    | _, _, _, _, _ => .fail
  | .index t x i => match E.T t, opnd sl x, (opnd sl i).bind natOf with
    | some ⟨.str, _, _, _⟩, some (.one (.c (.v (.string b)))), some n => match nth b.data.toList n with
      | some u => val (some (.one (.c (.v (.int .u8 (Int.ofNat u.toNat))))))
      | none => .fail
    | _, _, _ => .fail
  | .field t x f => match E.T t, opnd sl x, E.fty t f with
    | some ⟨.struct offs, _, _, _⟩, some (.agg as), some ft => match nth offs f, E.T ft with
      | some o, some ti => bif eqN ti.size o.2 && leN (o.1 + o.2) as.length then val (packW ti.agg ((as.drop o.1).take o.2)) else .fail
      | _, _ => .fail
    | _, _, _ => .fail
  | .convert src dst x => match opnd sl x, E.ik src, E.ik dst with
    | some (.one (.c (.v (.int _ n)))), some _, some k => val (wOf (.int k (N.wrap k n)))
    | _, _, _ => .fail
  | .makeFunc (.func f) first caps => match first.toList, (opnds sl caps.toList).bind fnCells with
    | [], some as => .ret ⟨some (.one (.clo f as)), []⟩
    | _, _ => .fail
  | .call c => match opnds sl c.args.toList with
    | none => .fail
    | some ws => match c.callee with
      | .builtin b => builtinW E N d b c.argTypes.toList (retypes E c.argTypes.toList ws)
      | .value f => match opnd sl f with
        | some (.one (.clo g caps)) => callW E call d g (retypes E c.argTypes.toList ws ++ caps.map W.one)
        | some (.one (.c (.clo g caps))) => callW E call d g (retypes E c.argTypes.toList ws ++ caps.map fun (x : C) => W.one (.c x))
        | _ => .fail
      | .invoke .. => .fail
  | _ => .fail

/-! regions -/
/-- is the operation to be made? -/
def wantedA (all : Array Oper) (sl : Nat → Option W) (o : Oper) : Option Bool :=
  match o.guard with
  | none => some true
  | some (g, b) => match (all[g]?).bind (·.dst) with
    | some t => match sl t with
      | some (.one (.c (.v (.bool x)))) => some (bif x then b else !b)
      | some (.tup []) => some false
      | _ => none
    | none => none

/-- one operation, with its log -/
def stepA (E : Cfg) (N : Ar) (call : Orc) (all : Array Oper) (o : Oper) (s : St) : Option (St × List Nat × List Nat) :=
  match wantedA all s.slot o with
  | some true => match (eop E N call s.slot o.dst o.type o.op).run s.obj [] with
    | some (e, l) => some (s.apply o.dst e, l, e.upd.map (·.1))
    | none => none
  | some false => some (s.apply o.dst ⟨some (.tup []), []⟩, [], [])
  | none => none

def runOps {ρ : Type} (E : Cfg) (N : Ar) (call : Orc) (all : Array Oper) : List Oper → St → (St → Option ρ) → Option ρ
  | [], s, K => K s
  | o :: r, s, K => match wantedA all s.slot o with
    | some t => match t with
      | true => (match (eop E N call s.slot o.dst o.type o.op).run s.obj [] with
        | some (e, _) => runOps E N call all r (s.apply o.dst e) K
        | none => none)
      | false => runOps E N call all r (s.apply o.dst ⟨some (.tup []), []⟩) K
    | none => none

def bindsA (o : Oper) (j : Nat) : Bool := o.after.toList.any fun e => eqN e.on j && (match e.ground with | .textOnly _ | .gcOnly _ => false | _ => true)
def bindE (e : Edge) : Bool := match e.ground with | .textOnly _ | .gcOnly _ => false | _ => true
/-- bound through others -/
def bindsT (all : Array Oper) : Nat → Oper → Nat → Bool
  | 0, _, _ => false
  | n + 1, o, j => o.after.toList.any fun e => bindE e && (eqN e.on j || (leN j e.on && match all[e.on]? with | some o' => bindsT all n o' j | none => false))
def looksA (all : Array Oper) (o : Oper) : List Nat := o.looksAt all
def slotsApart (all : Array Oper) (x y : Oper) : Bool :=
  (match x.dst with | some d => !memN d (looksA all y) && (match y.dst with | some e => !eqN d e | none => true) | none => true) &&
  (match y.dst with | some d => !memN d (looksA all x) | none => true)

/-- the operations made so far, newest first: number, operation, keys read, keys written -/
def apartFrom (all : Array Oper) (o : Oper) (l wk : List Nat) : List (Nat × Oper × List Nat × List Nat) → Bool
  | [] => true
  | (j, x, l', wk') :: r => (match bindsA o j with | true => apartFrom all o l wk r | false => (match slotsApart all x o && apartN wk' l && apartN wk' wk && apartN wk l' with | true => apartFrom all o l wk r | false => (match bindsT all 16 o j with | true => apartFrom all o l wk r | false => false)))

def runDraw {ρ : Type} (E : Cfg) (N : Ar) (call : Orc) (all : Array Oper) : Nat → List (Nat × Oper × List Nat × List Nat) → List Oper → St → (St → Option ρ) → Option ρ
  | _, _, [], s, K => K s
  | i, done, o :: r, s, K => match wantedA all s.slot o with
    | some t => match t with
      | true => (match (eop E N call s.slot o.dst o.type o.op).run s.obj [] with
        | some (e, l) => (match apartFrom all o l (e.upd.map (·.1)) done with
            | true => runDraw E N call all (i + 1) ((i, o, l, e.upd.map (·.1)) :: done) r (s.apply o.dst e) K
            | false => none)
        | none => none)
      | false => (match apartFrom all o [] [] done with
          | true => runDraw E N call all (i + 1) ((i, o, [], []) :: done) r (s.apply o.dst ⟨some (.tup []), []⟩) K
          | false => none)
    | none => none

/-! the state at a loop's head -/
def slotsAt (s : St) : List Nat → List (Nat × W)
  | [] => []
  | t :: r => match s.slot t with | some w => (t, w) :: slotsAt s r | none => slotsAt s r
/-- the keys in a cell, in a value -/
def keysA : Nat → A → List Nat
  | 0, _ => []
  | n + 1, a => match a with
    | .ref k _ _ => [k]
    | .loc k _ => [k]
    | .eloc k _ _ _ => [k]
    | .clo _ caps => (caps.map (keysA n)).flatten
    | _ => []
def keysW : W → List Nat
  | .one a => keysA depth a
  | .agg as => (as.map (keysA depth)).flatten
  | .tup ws => (ws.map fun w => match w with | .one a => keysA depth a | .agg as => (as.map (keysA depth)).flatten | .tup _ => []).flatten
def keysO : Option Ob → List Nat
  | some (.box cells _) => (cells.map (keysA depth)).flatten
  | _ => []
def addN (l : List Nat) : List Nat → List Nat
  | [] => l
  | k :: r => match memN k l with | true => addN l r | false => addN (l ++ [k]) r
def reach (s : St) : Nat → List Nat → List Nat
  | 0, l => l
  | n + 1, l => reach s n (addN l ((l.map fun k => keysO (s.obj k)).flatten))
def obsAt (s : St) : List Nat → List (Nat × Ob)
  | [] => []
  | k :: r => match s.obj k with | some o => (k, o) :: obsAt s r | none => obsAt s r
/-- nil slices in variables become own arrays without elements -/
def proCells (b : Nat) : Nat → List A → List A × List (Nat × Ob)
  | _, [] => ([], [])
  | j, a :: r => match proCells b (j + 1) r with
    | (as, us) => match a with
      | .nil0 e => (.ref (b + keyMax * (j + 1)) 0 none :: as, (b + keyMax * (j + 1), .arr e [] 0 false) :: us)
      | a => (a :: as, us)
def proFr : List (Nat × W) → List (Nat × W) × List (Nat × Ob)
  | [] => ([], [])
  | (t, w) :: r => match proFr r with
    | (fr, us) => match w with
      | .one (.nil0 e) => ((t, .one (.ref (keyMax * 1000 + t) 0 none)) :: fr, (keyMax * 1000 + t, .arr e [] 0 false) :: us)
      | w => ((t, w) :: fr, us)
def proOb : List (Nat × Ob) → List (Nat × Ob) × List (Nat × Ob)
  | [] => ([], [])
  | (k, o) :: r => match proOb r with
    | (ob, us) => match o with
      | .box cells false => match proCells (keyMax * 2000 + k) 0 cells with | (cs, us') => ((k, .box cs false) :: ob, us' ++ us)
      | o => ((k, o) :: ob, us)
/-- every key that a cell names is there, in the version that it names -/
def okArr (ver : Nat) : Option Ob → Bool
  | some (.arr _ _ ver' _) => eqN ver ver'
  | _ => false
def okBox : Option Ob → Bool
  | some (.box _ _) => true
  | _ => false
def okA (ob : List (Nat × Ob)) : Nat → A → Bool
  | 0, _ => false
  | n + 1, a => match a with
    | .ref k ver _ => okArr ver (find k ob)
    | .loc k _ => okBox (find k ob)
    | .eloc k ver _ _ => okArr ver (find k ob)
    | .clo _ caps => caps.all (okA ob n)
    | _ => true
def closedA (ob : List (Nat × Ob)) (as : List A) : Bool := as.all (okA ob depth)
def closedW (ob : List (Nat × Ob)) : W → Bool
  | .one a => closedA ob [a]
  | .agg as => closedA ob as
  | .tup ws => ws.all fun w => match w with | .one a => closedA ob [a] | .agg as => closedA ob as | .tup _ => false
def closedO (ob : List (Nat × Ob)) : Ob → Bool
  | .box cells _ => closedA ob cells
  | _ => true
def closed (s : St) : Bool := (s.fr.all fun x => closedW s.ob x.2) && (s.ob.all fun x => closedO s.ob x.2)
def freshIn (ob : List (Nat × Ob)) : List (Nat × Ob) → Bool
  | [] => true
  | (k, _) :: r => match find k ob with | none => freshIn ob r | some _ => false
def ioBase : Nat := keyMax * 3000
/-- the objects that came in -/
def ioIn : List (Nat × Ob) → List Nat
  | [] => []
  | (k, _) :: r => bif leN ioBase k then k :: ioIn r else ioIn r
def keepsIo (ob : List (Nat × Ob)) : List Nat → Bool
  | [] => true
  | k :: r => match find k ob with | some _ => keepsIo ob r | none => false
/-- new names, in the order in which the objects are reached -/
def renBase : Nat := keyMax * 500
def renPairs : Nat → List Nat → List (Nat × Nat)
  | _, [] => []
  | i, k :: r => (k, bif leN ioBase k then k else renBase + i) :: renPairs (i + 1) r
def renOf (mp : List (Nat × Nat)) (k : Nat) : Nat := match find k mp with | some k' => k' | none => k
def renV (k ver : Nat) : Nat := bif leN ioBase k then ver else 0
def renA (mp : List (Nat × Nat)) : Nat → A → A
  | 0, a => a
  | n + 1, a => match a with
    | .ref k ver win => .ref (renOf mp k) (renV k ver) win
    | .loc k off => .loc (renOf mp k) off
    | .eloc k ver i off => .eloc (renOf mp k) (renV k ver) i off
    | .clo f caps => .clo f (caps.map (renA mp n))
    | a => a
def renW (mp : List (Nat × Nat)) : W → W
  | .one a => .one (renA mp depth a)
  | .agg as => .agg (as.map (renA mp depth))
  | .tup ws => .tup (ws.map fun w => match w with | .one a => .one (renA mp depth a) | .agg as => .agg (as.map (renA mp depth)) | .tup us => .tup us)
def renO (mp : List (Nat × Nat)) (k : Nat) : Ob → Ob
  | .box cells frz => .box (cells.map (renA mp depth)) frz
  | .arr e rows ver frz => .arr e rows (renV k ver) frz
  | .dead => .dead
def renFr (mp : List (Nat × Nat)) : List (Nat × W) → List (Nat × W)
  | [] => []
  | (t, w) :: r => (t, renW mp w) :: renFr mp r
def renObs (mp : List (Nat × Nat)) : List (Nat × Ob) → List (Nat × Ob)
  | [] => []
  | (k, o) :: r => (renOf mp k, renO mp k o) :: renObs mp r
/-- every object has a new name -/
def named (mp : List (Nat × Nat)) : List (Nat × Ob) → Bool
  | [] => true
  | (k, _) :: r => match find k mp with | some _ => named mp r | none => false
def rename (s : St) : Option St :=
  let io := ioIn s.ob
  let keys := reach s 4 (addN [] (io ++ (s.fr.map fun x => keysW x.2).flatten))
  let ob := obsAt s keys
  let mp := renPairs 0 keys
  bif closed ⟨s.fr, ob⟩ && (keepsIo ob io && (nodupN (mp.map (·.2)) && named mp ob)) then some ⟨renFr mp s.fr, renObs mp ob⟩ else none
def canon (live : List Nat) (s : St) : Option St :=
  let fr := slotsAt s live
  let io := ioIn s.ob
  let keys := reach s 4 (addN [] (io ++ (fr.map fun x => keysW x.2).flatten))
  let ob := obsAt s keys
  bif closed ⟨fr, ob⟩ && keepsIo ob io then (match proFr fr, proOb ob with
    | (fr', us), (ob', us') => bif freshIn ob (us ++ us') && nodupN ((us ++ us').map (·.1)) then rename ⟨fr', ob' ++ (us ++ us')⟩ else none) else none

def loopN {ρ : Type} (can : St → Option St) (body : St → (Ex → St → Option ρ) → Option ρ) : Nat → St → (Ex → St → Option ρ) → Option ρ
  | 0, _, _ => none
  | n + 1, s, K => match can s with
    | some s' => body s' fun e s' => match e with
      | .normal => loopN can body n s' K
      | .ret => K .ret s'
      | .exit id => K (.exit id) s'
    | none => none

/-- loops, by a function that a symbolic run leaves alone -/
class LoopOps where
  loop : {ρ : Type} → (St → Option St) → (St → (Ex → St → Option ρ) → Option ρ) → Nat → St → (Ex → St → Option ρ) → Option ρ
  loop_eq : ∀ {ρ : Type} (can : St → Option St) (body : St → (Ex → St → Option ρ) → Option ρ) (n : Nat) (s : St) (K : Ex → St → Option ρ), loop can body n s K = loopN can body n s K
open LoopOps
variable [LoopOps]

def evalC {ρ : Type} (E : Cfg) (N : Ar) (call : Orc) (fuel f : Nat) : Nat → Code → St → (Ex → St → Option ρ) → Option ρ
  | _, .skip, s, K => K .normal s
  | _, .region _ ops draw, s, K => (match draw with | true => runDraw E N call ops 0 [] ops.toList s (K .normal) | false => runOps E N call ops ops.toList s (K .normal))
  | b, .seq x y, s, K => evalC E N call fuel f b x s fun e s' => match e with
    | .normal => evalC E N call fuel f b y s' K
    | .ret => K .ret s'
    | .exit id => K (.exit id) s'
  | b, .cond c x y, s, K => match opnd s.slot c with
    | some (.one (.c (.v (.bool t)))) => (match t with | true => evalC E N call fuel f b x s K | false => evalC E N call fuel f b y s K)
    | _ => none
  | _, .block id x, s, K => evalC E N call fuel f id x s fun e s' => match e with
    | .normal => K .normal s'
    | .exit j => (match eqN j id with | true => K .normal s' | false => K (.exit j) s')
    | .ret => K .ret s'
  | b, .loop x, s, K => loop (canon (E.live f b)) (evalC E N call fuel f b x) fuel s K
  | _, .exit id, s, K => K (.exit id) s
  | _, .ret, s, K => K .ret s
  | _, _, _, _ => none

/-! results -/
/-- a cell as it leaves the call, the keys that leave as own arrays, and the keys that leave frozen -/
def expC : A → Rd (R1 × List Nat × List Nat)
  | .nil0 e => .ret (.own e [], [], [])
  | .c (.sl true e []) => .ret (.own e [], [], [])
  | .c x => .ret (.d x, [], [])
  | .ref k ver win => .look k fun o => match o with
    | some (.arr e rows ver' frz) => bif eqN ver ver' then (bif frz then .ret (.d (.sl false e (winOf rows win)), [], [k]) else .ret (.own e (winOf rows win), [k], [])) else .fail
    | _ => .fail
  | a => (reify depth a).bind fun c => (keysOf depth a).bind fun ks => .ret (.d c, [], ks)
def expW : W → Rd (R × List Nat × List Nat)
  | .one a => (expC a).bind fun x => .ret (.one x.1, x.2)
  | .agg as => (Rd.map1 expC as).bind fun xs => .ret (.agg (xs.map (·.1)), (xs.map (·.2.1)).flatten, (xs.map (·.2.2)).flatten)
  | .tup _ => .fail
def resOf (E : Cfg) (s : St) : ResultVar → Rd (R × List Nat × List Nat)
  | .tmp t => match s.slot t with
    | some w => expW w
    | none => .fail
  | .cell t ty => match s.slot t, E.T ty with
    | some (.one p), some ti => (loadC ti.size p).bind fun cs => match packW ti.agg cs with
      | some w => expW w
      | none => .fail
    | _, _ => .fail
def resultOf (E : Cfg) (s : St) (io : List Nat) (rs : List ResultVar) : Option R :=
  match ((Rd.map1 (resOf E s) rs).run s.obj []) with
  | some (xs, _) =>
    let own := (xs.map (·.2.1)).flatten
    let frz := (xs.map (·.2.2)).flatten
    bif nodupN own && (apartN own frz && (apartN own io && apartN io frz)) then
      (match xs with
      | [x] => some x.1
      | xs => some (.tup (xs.map (·.1)))) else none
  | none => none

def entry : Nat → List Arg → St → St
  | _, [], s => s
  | i, .one x :: r, s => entry (i + 1) r ⟨(i, .one (.c x)) :: s.fr, s.ob⟩
  | i, .agg xs :: r, s => entry (i + 1) r ⟨(i, .agg (xs.map A.c)) :: s.fr, s.ob⟩
  | i, .mv e rows :: r, s => entry (i + 1) r ⟨(i, .one (.ref (ioBase + i) 0 none)) :: s.fr, (ioBase + i, .arr e rows 0 false) :: s.ob⟩
  | i, .io e rows :: r, s => entry (i + 1) r ⟨(i, .one (.ref (ioBase + i) 0 none)) :: s.fr, (ioBase + i, .arr e rows 0 false) :: s.ob⟩
def ioArgs : Nat → List Arg → List Nat
  | _, [] => []
  | i, .io .. :: r => (ioBase + i) :: ioArgs (i + 1) r
  | i, _ :: r => ioArgs (i + 1) r
def outsOf (s : St) : Nat → List Arg → Option Outs
  | _, [] => some []
  | i, .io e rows0 :: r => match s.obj (ioBase + i) with
    | some (.arr e' rows ver false) => bif eqN ver 0 && (eqN (rowsLen rows) (rowsLen rows0) && eqN e' e) then (outsOf s (i + 1) r).bind fun o => some (rows :: o) else none
    | _ => none
  | i, _ :: r => outsOf s (i + 1) r

def evalF (E : Cfg) (N : Ar) (call : Orc) (fuel f : Nat) (fn : Func) (args : List Arg) : Option (R × Outs) :=
  match fn.body with
  | some c => evalC E N call fuel f 0 c (entry 0 args ⟨[], []⟩) fun e s => match e with
    | .exit _ => none
    | _ => match resultOf E s (ioArgs 0 args) fn.results.toList, outsOf s 0 args with
      | some r, some o => some (r, o)
      | _, _ => none
  | none => none

def evalFn (E : Cfg) (N : Ar) : Nat → Orc
  | 0, _, _ => none
  | n + 1, f, args => match E.F f with
    | some fn => evalF E N (evalFn E N n) n f fn args
    | none => E.X f args
end Am

namespace Am
open Go

def isSc : Value → Bool
  | .bool _ | .int _ _ | .string _ | .pointer none | .nilFunc | .nilIface | .map none | .slice _ 0 _ => true
  | _ => false

inductive RC (w : World) (K : Nat → Prop) : C → Value → Prop where
  | v {x : Value} (h : isSc x = true) : RC w K (.v x) x
  | nil {e : Nat} : RC w K (.sl true e []) (.slice none 0 0)
  | sl {e : Nat} {rows : List (List C)} {a : Option Addr} {cap : Nat} (g : Nat → Nat → Value) (hc : rows.length ≤ cap)
      (he : ∀ (i : Nat) (row : List C), rows[i]? = some row → row.length = e)
      (ha : rows ≠ [] → ∃ b o, a = some ⟨b, o, none⟩ ∧ K b ∧ ∀ (i : Nat) (row : List C) (j : Nat) (c : C), rows[i]? = some row → row[j]? = some c → w.cell? ⟨b, o + i * e + j, none⟩ = some (g i j))
      (hr : ∀ (i : Nat) (row : List C) (j : Nat) (c : C), rows[i]? = some row → row[j]? = some c → RC w K c (g i j)) : RC w K (.sl false e rows) (.slice a rows.length cap)
  | ptr {cs : List C} {b o : Nat} (g : Nat → Value) (hK : K b) (hc : ∀ (j : Nat) (c : C), cs[j]? = some c → w.cell? ⟨b, o + j, none⟩ = some (g j))
      (hr : ∀ (j : Nat) (c : C), cs[j]? = some c → RC w K c (g j)) : RC w K (.ptr cs) (.pointer (some ⟨b, o, none⟩))
  | clo {f : Nat} {caps : List C} {vs : Array Value} (h : caps.length = vs.size) (hr : ∀ (j : Nat) (c : C) (v : Value), caps[j]? = some c → vs[j]? = some v → RC w K c v) :
      RC w K (.clo f caps) (.func (.func f) #[] vs)

theorem cell_of_heap {w w' : World} {a : Addr} (h : w'.heap[a.block]? = w.heap[a.block]?) : w'.cell? a = w.cell? a := World.cell?_of_block h

theorem RC.mono {w w' : World} {K K' : Nat → Prop} (hw : ∀ b, K b → w'.heap[b]? = w.heap[b]?) (hK : ∀ b, K b → K' b) {c : C} {v : Value} (h : RC w K c v) : RC w' K' c v := by
  induction h with
  | v h => exact .v h
  | nil => exact .nil
  | sl g hc he ha _ ih =>
    refine .sl g hc he (fun hne => ?_) ih
    obtain ⟨b, o, e1, e2, e3⟩ := ha hne
    exact ⟨b, o, e1, hK b e2, fun i row j c h1 h2 => (cell_of_heap (hw b e2)).trans (e3 i row j c h1 h2)⟩
  | ptr g hk hc _ ih => exact .ptr g (hK _ hk) (fun j c h => (cell_of_heap (hw _ hk)).trans (hc j c h)) ih
  | clo h _ ih => exact .clo h ih

theorem RC.one {w : World} {K : Nat → Prop} {c : C} {v : Value} (h : RC w K c v) : v.oneCell' = true := by
  cases h <;> try rfl
  rename_i h
  revert h
  cases v <;> simp [isSc, Value.oneCell']

/-- what the abstract keys stand for -/
structure Gh where
  val : Nat → Value
  ty : Nat → TypeId

def blk : Value → Option Nat
  | .pointer (some a) => some a.block
  | .slice (some a) _ _ => some a.block
  | _ => none

/-- a slice's first n elements -/
def PreV : Value → Nat → Value → Prop
  | .slice a _ cap, n, v => v = .slice a n cap
  | _, _, _ => False

def WinV (x : Value) (len : Nat) (win : Option Nat) (v : Value) : Prop :=
  match win with
  | none => v = x
  | some n => n ≤ len ∧ PreV x n v

inductive RA (G : Gh) (ob : Nat → Option Ob) (w : World) (K : Nat → Prop) : A → Value → Prop where
  | c {x : C} {v : Value} (h : RC w K x v) : RA G ob w K (.c x) v
  | nil0 {e : Nat} : RA G ob w K (.nil0 e) (.slice none 0 0)
  | ref {k ver : Nat} {win : Option Nat} {v : Value} {o : Ob} (ho : ob k = some o) (h1 : v.oneCell' = true) (hv : ∀ e rows ver' frz, o = .arr e rows ver' frz → ver ≤ ver')
      (h : ∀ e rows frz, o = .arr e rows ver frz → WinV (G.val k) rows.length win v) : RA G ob w K (.ref k ver win) v
  | loc {k off : Nat} {v : Value} {o : Ob} (ho : ob k = some o) (h1 : v.oneCell' = true)
      (h : ∀ cells frz, o = .box cells frz → ∃ b, G.val k = .pointer (some ⟨b, 0, none⟩) ∧ v = .pointer (some ⟨b, off, none⟩)) : RA G ob w K (.loc k off) v
  | eloc {k ver i off : Nat} {v : Value} {o : Ob} (ho : ob k = some o) (h1 : v.oneCell' = true) (hv : ∀ e rows ver' frz, o = .arr e rows ver' frz → ver ≤ ver')
      (h : ∀ e rows frz, o = .arr e rows ver frz → ∃ b n cap, G.val k = .slice (some ⟨b, 0, none⟩) n cap ∧ v = .pointer (some ⟨b, i * e + off, none⟩)) : RA G ob w K (.eloc k ver i off) v
  | clo {f : Nat} {caps : List A} {vs : Array Value} (h : caps.length = vs.size) (hr : ∀ (j : Nat) (c : A) (v : Value), caps[j]? = some c → vs[j]? = some v → RA G ob w K c v) :
      RA G ob w K (.clo f caps) (.func (.func f) #[] vs)

theorem RA.one {G : Gh} {ob : Nat → Option Ob} {w : World} {K : Nat → Prop} {a : A} {v : Value} (h : RA G ob w K a v) : v.oneCell' = true := by
  cases h with
  | c h => exact h.one
  | nil0 => rfl
  | ref _ h1 _ _ => exact h1
  | loc _ h1 _ => exact h1
  | eloc _ h1 _ _ => exact h1
  | clo _ _ => rfl

/-- how the objects may turn while cells that name them stay true -/
def ObStep (G G' : Gh) (ob ob' : Nat → Option Ob) : Prop :=
  ∀ k o, ob k = some o → ∃ o', ob' k = some o' ∧
    (∀ e rows ver frz, o' = .arr e rows ver frz → ∃ e0 rows0 ver0 frz0, o = .arr e0 rows0 ver0 frz0 ∧ ver0 ≤ ver ∧ (ver0 = ver → e0 = e ∧ rows0.length ≤ rows.length ∧ G'.val k = G.val k)) ∧
    (∀ cells frz, o' = .box cells frz → ∃ cells0 frz0, o = .box cells0 frz0 ∧ G'.val k = G.val k)

theorem ObStep.refl (G : Gh) (ob : Nat → Option Ob) : ObStep G G ob ob := fun _ o ho =>
  ⟨o, ho, fun e rows ver frz h => ⟨e, rows, ver, frz, h, Nat.le_refl _, fun _ => ⟨rfl, Nat.le_refl _, rfl⟩⟩, fun cells frz h => ⟨cells, frz, h, rfl⟩⟩

theorem RA.step {G G' : Gh} {ob ob' : Nat → Option Ob} {w w' : World} {K K' : Nat → Prop} (hs : ObStep G G' ob ob')
    (hw : ∀ b, K b → w'.heap[b]? = w.heap[b]?) (hK : ∀ b, K b → K' b) {a : A} {v : Value} (h : RA G ob w K a v) : RA G' ob' w' K' a v := by
  induction h with
  | c h => exact .c (h.mono hw hK)
  | nil0 => exact .nil0
  | ref ho h1 hv h =>
    obtain ⟨o', ho', ha, _⟩ := hs _ _ ho
    refine .ref ho' h1 (fun e rows ver' frz he => ?_) (fun e rows frz he => ?_)
    · obtain ⟨e0, rows0, ver0, frz0, h0, hle, _⟩ := ha _ _ _ _ he
      exact Nat.le_trans (hv _ _ _ _ h0) hle
    · obtain ⟨e0, rows0, ver0, frz0, h0, hle, hsame⟩ := ha _ _ _ _ he
      have hv0 := hv _ _ _ _ h0
      obtain rfl : ver0 = _ := Nat.le_antisymm hle hv0
      obtain ⟨rfl, hl, hg⟩ := hsame rfl
      have := h _ _ _ h0
      rw [hg]
      unfold WinV at *
      split <;> rename_i hwin <;> simp only at this
      · exact this
      · exact ⟨Nat.le_trans this.1 hl, this.2⟩
  | loc ho h1 h =>
    obtain ⟨o', ho', _, hb⟩ := hs _ _ ho
    refine .loc ho' h1 (fun cells frz he => ?_)
    obtain ⟨cells0, frz0, h0, hg⟩ := hb _ _ he
    rw [hg]
    exact h _ _ h0
  | eloc ho h1 hv h =>
    obtain ⟨o', ho', ha, _⟩ := hs _ _ ho
    refine .eloc ho' h1 (fun e rows ver' frz he => ?_) (fun e rows frz he => ?_)
    · obtain ⟨e0, rows0, ver0, frz0, h0, hle, _⟩ := ha _ _ _ _ he
      exact Nat.le_trans (hv _ _ _ _ h0) hle
    · obtain ⟨e0, rows0, ver0, frz0, h0, hle, hsame⟩ := ha _ _ _ _ he
      have hv0 := hv _ _ _ _ h0
      obtain rfl : ver0 = _ := Nat.le_antisymm hle hv0
      obtain ⟨rfl, hl, hg⟩ := hsame rfl
      rw [hg]
      exact h _ _ _ h0
  | clo h _ ih => exact .clo h ih

inductive RW (G : Gh) (ob : Nat → Option Ob) (w : World) (K : Nat → Prop) : W → Value → Prop where
  | one {a : A} {v : Value} (h : RA G ob w K a v) : RW G ob w K (.one a) v
  | agg {as : List A} {vs : Array Value} (h : as.length = vs.size) (hr : ∀ (j : Nat) (c : A) (v : Value), as[j]? = some c → vs[j]? = some v → RA G ob w K c v) : RW G ob w K (.agg as) (.agg vs)
  | tup {ws : List W} {vs : Array Value} (h : ws.length = vs.size) (hr : ∀ (j : Nat) (c : W) (v : Value), ws[j]? = some c → vs[j]? = some v → RW G ob w K c v) : RW G ob w K (.tup ws) (.tuple vs)

theorem RW.step {G G' : Gh} {ob ob' : Nat → Option Ob} {w w' : World} {K K' : Nat → Prop} (hs : ObStep G G' ob ob')
    (hw : ∀ b, K b → w'.heap[b]? = w.heap[b]?) (hK : ∀ b, K b → K' b) {a : W} {v : Value} (h : RW G ob w K a v) : RW G' ob' w' K' a v := by
  induction h with
  | one h => exact .one (h.step hs hw hK)
  | agg h hr => exact .agg h (fun j c v h1 h2 => (hr j c v h1 h2).step hs hw hK)
  | tup h _ ih => exact .tup h ih

def Ob.live : Ob → Bool
  | .box _ frz => !frz
  | .arr _ _ _ frz => !frz
  | .dead => false

/-- rows of cells, laid one behind the other -/
def Rows (w : World) (K : Nat → Prop) (e : Nat) (rows : List (List C)) (xs : List Value) : Prop :=
  ∀ (i : Nat) (row : List C), rows[i]? = some row → row.length = e ∧ ∀ (j : Nat) (c : C), row[j]? = some c → ∃ x, xs[i * e + j]? = some x ∧ RC w K c x

def RO (G : Gh) (ob : Nat → Option Ob) (w : World) (K : Nat → Prop) (k : Nat) : Ob → Prop
  | .box cells frz => ∃ b arr ty, G.val k = .pointer (some ⟨b, 0, none⟩) ∧ w.heap[b]? = some (.cells arr ty (0, 0)) ∧ arr.size = cells.length ∧ (frz = true → K b) ∧
      ∀ (j : Nat) (a : A) (x : Value), cells[j]? = some a → arr[j]? = some x → RA G ob w K a x
  | .arr e rows _ frz => ∃ ty xs, w.ownsRow 0 ty e (G.val k) rows.length xs ∧ Rows w K e rows xs ∧ (frz = true → ∀ b, blk (G.val k) = some b → K b)
  | .dead => True

structure Chg (B : Nat) (Own : Nat → Prop) (w w' : World) : Prop where
  os : w'.os = w.os
  tape : w'.tape = w.tape
  output : w'.output = w.output
  size : w.heap.size ≤ w'.heap.size
  block : ∀ k, k < B → ¬ Own k → w'.heap[k]? = w.heap[k]?

theorem Chg.refl (B : Nat) (Own : Nat → Prop) (w : World) : Chg B Own w w := ⟨rfl, rfl, rfl, Nat.le_refl _, fun _ _ _ => rfl⟩
theorem Chg.trans {B : Nat} {Own : Nat → Prop} {a b c : World} (h : Chg B Own a b) (k : Chg B Own b c) : Chg B Own a c :=
  ⟨k.os.trans h.os, k.tape.trans h.tape, k.output.trans h.output, Nat.le_trans h.size k.size, fun i hi ho => (k.block i hi ho).trans (h.block i hi ho)⟩

/-- what held at the start of the call -/
structure Base where
  w : World
  K : Nat → Prop
  gh : Nat → Option Value
  io : ∀ k v, gh k = some v → ioBase ≤ k

structure Inv (B : Nat) (Own : Nat → Prop) (w0 : Base) (G : Gh) (K : Nat → Prop) (s : St) (a : Act) (w : World) : Prop where
  fr : ∀ t x, s.slot t = some x → ∃ v, a.tmps[t]? = some v ∧ RW G s.obj w K x v
  ob : ∀ k o, s.obj k = some o → RO G s.obj w K k o
  dis : ∀ k k' o o' b, k ≠ k' → s.obj k = some o → s.obj k' = some o' → o.live = true → o'.live = true → blk (G.val k) = some b → blk (G.val k') ≠ some b
  own : ∀ k o b, s.obj k = some o → o.live = true → blk (G.val k) = some b → (B ≤ b ∨ Own b) ∧ ¬ K b
  Kb : ∀ b, K b → b < w.heap.size
  sz : B ≤ w.heap.size
  chg : Chg B Own w0.w w
  df : a.defers = []
  kb : ∀ b, K b → w0.K b ∨ B ≤ b ∨ Own b
  k0 : ∀ b, w0.K b → K b
  gh : ∀ k v, w0.gh k = some v → RA G s.obj w K (.ref k 0 none) v

theorem Rows.mono {w w' : World} {K K' : Nat → Prop} (hw : ∀ b, K b → w'.heap[b]? = w.heap[b]?) (hK : ∀ b, K b → K' b) {e : Nat} {rows : List (List C)} {xs : List Value}
    (h : Rows w K e rows xs) : Rows w' K' e rows xs := fun i row hi =>
  ⟨(h i row hi).1, fun j c hj => let ⟨x, h1, h2⟩ := (h i row hi).2 j c hj; ⟨x, h1, h2.mono hw hK⟩⟩

theorem ownsRow_block {w w' : World} {base : Nat} {ty : TypeId} {size n : Nat} {v : Value} {xs : List Value} (h : w.ownsRow base ty size v n xs)
    (hb : ∀ b, blk v = some b → w'.heap[b]? = w.heap[b]?) : w'.ownsRow base ty size v n xs := by
  refine ⟨h.1, ?_⟩
  rcases h.2 with hn | ⟨g, cap, cur, rfl, h1, h2, rest⟩
  · exact .inl hn
  · exact .inr ⟨g, cap, cur, rfl, h1, by rw [hb g rfl]; exact h2, rest⟩

theorem RO.step {G G' : Gh} {ob ob' : Nat → Option Ob} {w w' : World} {K K' : Nat → Prop} (hs : ObStep G G' ob ob')
    (hw : ∀ b, K b → w'.heap[b]? = w.heap[b]?) (hK : ∀ b, K b → K' b) {k : Nat} {o : Ob} (hv : G'.val k = G.val k) (_ht : G'.ty k = G.ty k)
    (hb : ∀ b, blk (G.val k) = some b → w'.heap[b]? = w.heap[b]?) (h : RO G ob w K k o) : RO G' ob' w' K' k o := by
  cases o with
  | box cells frz =>
    obtain ⟨b, arr, ty, h1, h2, h3, hf, h4⟩ := h
    refine ⟨b, arr, ty, hv.trans h1, ?_, h3, fun e => hK b (hf e), fun j a x ha hx => (h4 j a x ha hx).step hs hw hK⟩
    rw [hb b (by rw [h1]; rfl)]; exact h2
  | arr e rows ver frz =>
    obtain ⟨ty, xs, h1, h2, h3⟩ := h
    refine ⟨ty, xs, ?_, h2.mono hw hK, fun hf b hbb => hK b (h3 hf b (by rw [← hv]; exact hbb))⟩
    rw [hv]
    exact ownsRow_block h1 hb
  | dead => trivial

/-- one step: what turns, turns at keys whose objects are given anew -/
theorem Inv.step {B : Nat} {Own : Nat → Prop} {w0 : Base} {G G' : Gh} {K K' : Nat → Prop} {s s' : St} {a a' : Act} {w w' : World} (I : Inv B Own w0 G K s a w)
    (hs : ObStep G G' s.obj s'.obj) (hw : ∀ b, K b → w'.heap[b]? = w.heap[b]?) (hK : ∀ b, K b → K' b)
    (hfr : ∀ t x, s'.slot t = some x → (s.slot t = some x ∧ a'.tmps[t]? = a.tmps[t]?) ∨ ∃ v, a'.tmps[t]? = some v ∧ RW G' s'.obj w' K' x v)
    (hob : ∀ k o, s'.obj k = some o → (s.obj k = some o ∧ G'.val k = G.val k ∧ G'.ty k = G.ty k ∧ ∀ b, blk (G.val k) = some b → w'.heap[b]? = w.heap[b]?) ∨ RO G' s'.obj w' K' k o)
    (hdis : ∀ k k' o o' b, k ≠ k' → s'.obj k = some o → s'.obj k' = some o' → o.live = true → o'.live = true → blk (G'.val k) = some b → blk (G'.val k') ≠ some b)
    (hown : ∀ k o b, s'.obj k = some o → o.live = true → blk (G'.val k) = some b → (B ≤ b ∨ Own b) ∧ ¬ K' b)
    (hKb : ∀ b, K' b → b < w'.heap.size) (hc : Chg B Own w w') (hd : a'.defers = a.defers) (hKK : ∀ b, K' b → K b ∨ B ≤ b ∨ Own b := by exact fun _ h => .inl h) : Inv B Own w0 G' K' s' a' w' where
  fr t x hx := by
    rcases hfr t x hx with ⟨h1, h2⟩ | h
    · obtain ⟨v, hv, hr⟩ := I.fr t x h1
      exact ⟨v, h2.trans hv, hr.step hs hw hK⟩
    · exact h
  ob k o ho := by
    rcases hob k o ho with ⟨h1, h2, h3, h4⟩ | h
    · exact (I.ob k o h1).step hs hw hK h2 h3 h4
    · exact h
  dis := hdis
  own := hown
  Kb := hKb
  sz := Nat.le_trans I.sz hc.size
  chg := I.chg.trans hc
  df := hd.trans I.df
  kb b hb := (hKK b hb).elim (fun h => I.kb b h) .inr
  k0 b hb := hK b (I.k0 b hb)
  gh k v h := (I.gh k v h).step hs hw hK
end Am

namespace Am
open Go
variable [RowOps] [LoopOps]
open RowOps LoopOps

/-! the reader without its log -/
def Rd.get {α : Type} (look : Nat → Option Ob) : Rd α → Option α
  | .ret a => some a
  | .look k f => (f (look k)).get look
  | .fail => none

theorem Rd.run_get {α : Type} (look : Nat → Option Ob) (m : Rd α) : ∀ (l : List Nat) (a : α) (l' : List Nat), m.run look l = some (a, l') → m.get look = some a := by
  induction m with
  | ret a => intro l b l' h; simp only [Rd.run, Option.some.injEq, Prod.mk.injEq] at h; simp [Rd.get, h.1]
  | look k f ih => intro l b l' h; exact ih _ _ _ _ h
  | fail => intro l b l' h; simp [Rd.run] at h

@[simp] theorem Rd.get_ret {α : Type} (look : Nat → Option Ob) (a : α) : (Rd.ret a).get look = some a := rfl
@[simp] theorem Rd.get_fail {α : Type} (look : Nat → Option Ob) : (Rd.fail : Rd α).get look = none := rfl
@[simp] theorem Rd.get_look {α : Type} (look : Nat → Option Ob) (k : Nat) (f : Option Ob → Rd α) : (Rd.look k f).get look = (f (look k)).get look := rfl
@[simp] theorem Rd.get_bind {α β : Type} (look : Nat → Option Ob) (m : Rd α) (g : α → Rd β) : (m.bind g).get look = (m.get look).bind fun a => (g a).get look := by
  induction m with
  | ret a => rfl
  | look k f ih => exact ih _
  | fail => rfl

theorem beq_eq {a b : Nat} (h : eqN a b = true) : a = b := of_decide_eq_true h
@[simp] theorem eqN_self (a : Nat) : eqN a a = true := decide_eq_true rfl
theorem leN_le {a b : Nat} (h : leN a b = true) : a ≤ b := of_decide_eq_true h
theorem leN_eq {a b : Nat} : (leN a b = true) = (a ≤ b) := by simp [leN]
theorem ltN_eq {a b : Nat} : (ltN a b = true) = (a < b) := by simp [ltN]

/-! types -/
def zcell : C → Value → Bool
  | .v x, y => match x, y with
    | .bool a, .bool b => a == b
    | .int k a, .int k' b => decide (k = k') && decide (a = b)
    | .string s, .string s' => decide (s.data.toList = s'.data.toList)
    | .pointer none, .pointer none => true
    | .nilFunc, .nilFunc => true
    | .nilIface, .nilIface => true
    | .map none, .map none => true
    | _, _ => false
  | .sl true _ [], .slice none 0 0 => true
  | _, _ => false

theorem zcell_rc {w : World} {K : Nat → Prop} {c : C} {v : Value} (h : zcell c v = true) : RC w K c v := by
  unfold zcell at h
  split at h
  · split at h
    · simp only [beq_iff_eq] at h; subst h; exact .v rfl
    · simp only [Bool.and_eq_true, decide_eq_true_eq] at h; obtain ⟨rfl, rfl⟩ := h; exact .v rfl
    · rename_i s s'
      simp only [decide_eq_true_eq] at h
      have : s = s' := by cases s; cases s'; simp only [ByteArray.mk.injEq]; exact Array.toList_inj.1 h
      subst this; exact .v rfl
    · exact .v rfl
    · exact .v rfl
    · exact .v rfl
    · exact .v rfl
    · cases h
  · exact .nil
  · cases h

structure TIok (P : Program) (t : Nat) (ti : TI) : Prop where
  info : ∃ i z, P.info? t = some i ∧ i.size = ti.size ∧ i.bytes = ti.bytes ∧ i.zero = some z ∧ z.cells.size = ti.size ∧ ti.zero.length = ti.size ∧
    ∀ (j : Nat) (c : C) (v : Value), ti.zero[j]? = some c → z.cells[j]? = some v → zcell c v = true
  pos : 0 < ti.size
  bpos : 0 < ti.bytes
  kd : match ti.kd with
    | .struct offs => ∃ fs, P.underlying t = some (.struct fs) ∧ fs.size = offs.length ∧
        ∀ (j : Nat) (o : Nat × Nat), offs[j]? = some o → ∃ f, fs[j]? = some f ∧ f.offset = o.1 ∧ (P.info? f.type).map (·.size) = some o.2 ∧ 0 < o.2 ∧ o.1 + o.2 ≤ ti.size
    | .array n e => P.underlying t = some (.array n e)
    | .slice e => P.underlying t = some (.slice e)
    | .str => P.underlying t = some .string
    | .bool => P.underlying t = some .bool
    | .sc => ∃ d, P.underlying t = some d ∧ d.isRow = false

def ints (l : List (IntKind × Int)) : Array Value := (l.map fun x => Value.int x.1 x.2).toArray
/-- '==' on a struct of whole numbers -/
def EqOk (P : Program) (eqT : Nat → Option Nat) : Prop := ∀ t n, eqT t = some n → ∀ (l l' : List (IntKind × Int)) (w : World) (x y : Operand), l.length = n → l.length = l'.length →
  (∀ (i : Nat) (p q : IntKind × Int), l[i]? = some p → l'[i]? = some q → p.1 = q.1) →
  (do eqGuard .eql t x y (.agg (ints l)) (.agg (ints l')); binOp .eql t (.agg (ints l)) (.agg (ints l')) : Sem Value).run P w = .ok (.bool (decide (l = l'))) w ∧
  (do eqGuard .neq t x y (.agg (ints l)) (.agg (ints l')); binOp .neq t (.agg (ints l)) (.agg (ints l')) : Sem Value).run P w = .ok (.bool (!decide (l = l'))) w

def TabOk (P : Program) (T : Nat → Option TI) : Prop := ∀ t ti, T t = some ti → TIok P t ti

/-! operands -/
section
variable {B : Nat} {Own : Nat → Prop} {w0 : Base} {G : Gh} {K : Nat → Prop} {s : St} {a : Act} {w : World}

theorem cellOf_rc {x : Value} {c : C} (h : cellOf x = some c) : RC w K c x := by
  unfold cellOf at h
  split at h <;> simp only [Option.some.injEq, reduceCtorEq] at h <;> subst h <;> first | exact .v rfl | exact .nil

theorem wOf_rw {x : Value} {W' : W} {ob : Nat → Option Ob} (h : wOf x = some W') : RW G ob w K W' x := by
  unfold wOf at h
  cases hc : cellOf x with
  | none => simp [hc] at h
  | some c => simp [hc] at h; subst h; exact .one (.c (cellOf_rc hc))

theorem opnd_rw (I : Inv B Own w0 G K s a w) {x : Operand} {W' : W} (h : opnd s.slot x = some W') : RW G s.obj w K W' (a.eval x) := by
  cases x with
  | tmp t =>
    obtain ⟨v, hv, hr⟩ := I.fr t W' h
    simpa [Act.eval, hv] using hr
  | const x => exact wOf_rw h
  | global g => simp [opnd] at h
  | func f => simp [opnd] at h; subst h; exact .one (.clo rfl (fun j c v h => by simp at h))

theorem cells_ra {ob : Nat → Option Ob} {W' : W} {v : Value} {as : List A} (h : RW G ob w K W' v) (hc : W'.cells = some as) :
    v.cells.size = as.length ∧ (∀ (j : Nat) (c : A) (x : Value), as[j]? = some c → v.cells[j]? = some x → RA G ob w K c x) := by
  cases h with
  | one h =>
    simp [W.cells] at hc
    subst hc
    have h1 := h.one
    have : v.cells = #[v] := by cases v <;> simp_all [Value.cells, Value.oneCell']
    rw [this]
    refine ⟨rfl, fun j c x hj hx => ?_⟩
    cases j with
    | zero => simp at hj hx; subst hj; subst hx; exact h
    | succ j => simp at hj
  | agg h hr =>
    simp [W.cells] at hc
    subst hc
    exact ⟨h.symm, hr⟩
  | tup h hr => simp [W.cells] at hc
end

/-! what an operation comes to -/
section
variable {P : Program}

theorem wp_of_value {o : Oper} {a : Act} {w w' : World} {v : Value} {next : Act → World → Prop} {Q : Exit → Act → World → Prop}
    (h : (execOp a.eval o).run P w = .ok (.value v) w') (hn : next (a.put o.dst v) w') : o.wp P a w next Q := by
  unfold Oper.wp; rw [h]; exact hn
theorem wp_of_skip {o : Oper} {a : Act} {w w' : World} {next : Act → World → Prop} {Q : Exit → Act → World → Prop}
    (h : (execOp a.eval o).run P w = .ok .skip w') (hn : next (a.put o.dst undef) w') : o.wp P a w next Q := by
  unfold Oper.wp; rw [h]; exact hn

/-- the slots behind an operation -/
theorem slot_apply (s : St) (d : Option Nat) (e : Eff) (t : Nat) :
    (s.apply d e).slot t = match d with
      | some t' => if t' = t then e.val else s.slot t
      | none => s.slot t := by
  cases d with
  | none => rfl
  | some t' =>
    cases hv : e.val with
    | some x =>
      simp only [St.apply, St.slot, hv, find]
      by_cases h : t' = t
      · subst h; simp
      · have : eqN t' t = false := by
          rw [Bool.eq_false_iff]; exact fun hb => h (beq_eq hb)
        simp [h, this]
    | none =>
      simp only [St.apply, St.slot, hv]
      generalize s.fr = l
      induction l with
      | nil => simp [del, find]
      | cons x r ih =>
        obtain ⟨j, y⟩ := x
        simp only [del, find]
        by_cases hj : eqN j t' = true
        · have := beq_eq hj
          subst this
          simp only [hj, cond_true]
          rw [ih]
          by_cases h : j = t
          · simp [h]
          · have : eqN j t = false := by rw [Bool.eq_false_iff]; exact fun hb => h (beq_eq hb)
            simp [h, this]
        · simp only [Bool.not_eq_true] at hj
          simp only [hj, cond_false, find]
          by_cases h : eqN j t = true
          · have := beq_eq h
            subst this
            have hne : t' ≠ j := fun e => by rw [e] at hj; simp at hj
            simp [hne]
          · simp only [Bool.not_eq_true] at h
            simp only [h, cond_false]
            exact ih

theorem find_append {α : Type} (k : Nat) : ∀ (l l' : List (Nat × α)), find k (l ++ l') = (find k l).or (find k l')
  | [], _ => by simp [find]
  | (j, x) :: r, l' => by
    simp only [List.cons_append, find]
    cases eqN j k with
    | true => simp
    | false => simpa using find_append k r l'

theorem obj_apply (s : St) (d : Option Nat) (e : Eff) (k : Nat) : (s.apply d e).obj k = (find k e.upd).or (s.obj k) := find_append k e.upd s.ob

theorem put_tmp (a : Act) (d : Option Nat) (v : Value) (t : Nat) (hd : ∀ t', d = some t' → t' < a.tmps.size) :
    (a.put d v).tmps[t]? = match d with | some t' => if t' = t then some v else a.tmps[t]? | none => a.tmps[t]? := by
  cases d with
  | none => rfl
  | some t' =>
    by_cases h : t' = t
    · subst h; simp [Act.put, hd t' rfl]
    · simp [Act.put, h]
theorem put_size (a : Act) (d : Option Nat) (v : Value) : (a.put d v).tmps.size = a.tmps.size := by cases d <;> simp [Act.put]
theorem put_df (a : Act) (d : Option Nat) (v : Value) : (a.put d v).defers = a.defers := by cases d <;> rfl

/-- an operation that only gives a value -/
theorem Inv.put {B : Nat} {Own : Nat → Prop} {w0 : Base} {G : Gh} {K : Nat → Prop} {s : St} {a : Act} {w : World} (I : Inv B Own w0 G K s a w)
    {d : Option Nat} (hd : ∀ t', d = some t' → t' < a.tmps.size) {x : W} {v : Value} (h : RW G s.obj w K x v) : Inv B Own w0 G K (s.apply d ⟨some x, []⟩) (a.put d v) w := by
  have hob : (s.apply d ⟨some x, []⟩).obj = s.obj := by funext k; simp [obj_apply, find]
  refine I.step (hob ▸ ObStep.refl G s.obj) (fun _ _ => rfl) (fun _ h => h) (fun t y hy => ?_) (fun k o ho => ?_) ?_ ?_ I.Kb (Chg.refl _ _ _) (put_df a d v)
  · rw [slot_apply] at hy
    rw [put_tmp a d v t hd]
    cases d with
    | none => exact .inl ⟨hy, by simp⟩
    | some t' =>
      by_cases ht : t' = t
      · simp only [ht, if_true] at hy ⊢
        cases hy
        exact .inr ⟨v, by simp, hob ▸ h⟩
      · simp only [ht, if_false] at hy ⊢
        exact .inl ⟨hy, by simp⟩
  · rw [hob] at ho; exact .inl ⟨ho, rfl, rfl, fun _ _ => rfl⟩
  · rw [hob]; exact I.dis
  · rw [hob]; exact I.own

/-- an operation that is not made -/
theorem Inv.drop {B : Nat} {Own : Nat → Prop} {w0 : Base} {G : Gh} {K : Nat → Prop} {s : St} {a : Act} {w : World} (I : Inv B Own w0 G K s a w)
    (d : Option Nat) (v : Value) : Inv B Own w0 G K (s.apply d ⟨none, []⟩) (a.put d v) w := by
  have hob : (s.apply d ⟨none, []⟩).obj = s.obj := by funext k; simp [obj_apply, find]
  refine I.step (hob ▸ ObStep.refl G s.obj) (fun _ _ => rfl) (fun _ h => h) (fun t y hy => ?_) (fun k o ho => ?_) ?_ ?_ I.Kb (Chg.refl _ _ _) (put_df a d v)
  · rw [slot_apply] at hy
    cases d with
    | none => exact .inl ⟨hy, rfl⟩
    | some t' =>
      by_cases ht : t' = t
      · simp [ht] at hy
      · simp only [ht, if_false] at hy
        refine .inl ⟨hy, ?_⟩
        simp [Act.put, ht]
  · rw [hob] at ho; exact .inl ⟨ho, rfl, rfl, fun _ _ => rfl⟩
  · rw [hob]; exact I.dis
  · rw [hob]; exact I.own
end
end Am

namespace Am
open Go
variable [RowOps] [LoopOps]
open RowOps LoopOps

def Gh.set (G : Gh) (t : Nat) (v : Value) (ty : TypeId) : Gh := ⟨fun k => if k = t then v else G.val k, fun k => if k = t then ty else G.ty k⟩
@[simp] theorem Gh.val_set (G : Gh) (t : Nat) (v : Value) (ty : TypeId) (k : Nat) : (G.set t v ty).val k = if k = t then v else G.val k := rfl
@[simp] theorem Gh.ty_set (G : Gh) (t : Nat) (v : Value) (ty : TypeId) (k : Nat) : (G.set t v ty).ty k = if k = t then ty else G.ty k := rfl

section
variable {B : Nat} {Own : Nat → Prop} {w0 : Base} {G : Gh} {K : Nat → Prop} {s : St} {a : Act} {w w' : World}

theorem ownsRow_lt {base : Nat} {ty : TypeId} {size n : Nat} {v : Value} {xs : List Value} (h : w.ownsRow base ty size v n xs) {b : Nat} (hb : blk v = some b) : b < w.heap.size := by
  rcases h.2 with ⟨rfl, _⟩ | ⟨g, cap, cur, rfl, _, hh, _⟩
  · simp [blk] at hb
  · simp [blk] at hb; subst hb; exact (Array.getElem?_eq_some_iff.1 hh).1

theorem RO.lt {k : Nat} {o : Ob} {ob : Nat → Option Ob} (h : RO G ob w K k o) (hl : o ≠ .dead) {b : Nat} (hb : blk (G.val k) = some b) : b < w.heap.size := by
  cases o with
  | box cells frz =>
    obtain ⟨b', arr, ty, h1, h2, _⟩ := h
    rw [h1] at hb; simp [blk] at hb; subst hb
    exact (Array.getElem?_eq_some_iff.1 h2).1
  | arr e rows ver frz => obtain ⟨ty, xs, h1, _⟩ := h; exact ownsRow_lt h1 hb
  | dead => exact absurd rfl hl

/-- new blocks, nothing else -/
structure Grew (w w' : World) : Prop where
  os : w'.os = w.os
  tape : w'.tape = w.tape
  output : w'.output = w.output
  size : w.heap.size ≤ w'.heap.size
  block : ∀ b, b < w.heap.size → w'.heap[b]? = w.heap[b]?
theorem Grew.refl (w : World) : Grew w w := ⟨rfl, rfl, rfl, Nat.le_refl _, fun _ _ => rfl⟩
theorem Grew.chg (h : Grew w w') {B : Nat} {Own : Nat → Prop} (hB : B ≤ w.heap.size) : Chg B Own w w' :=
  ⟨h.os, h.tape, h.output, h.size, fun b hb _ => h.block b (Nat.lt_of_lt_of_le hb hB)⟩
theorem Grew.alloc (w : World) (o : Obj) : Grew w (w.alloc o) := ⟨rfl, rfl, rfl, by simp, fun b hb => RowKit.Below.heap_alloc w o b hb⟩
theorem Grew.of_grownBy (h : w.grownBy w' none) : Grew w w' := ⟨h.os, h.tape, h.output, h.size, fun b hb => h.block b hb (by simp)⟩

theorem Inv.grow (I : Inv B Own w0 G K s a w) (h : Grew w w') : Inv B Own w0 G K s a w' := by
  refine I.step (ObStep.refl G s.obj) (fun b hb => h.block b (I.Kb b hb)) (fun _ h => h) (fun t x hx => .inl ⟨hx, rfl⟩) (fun k o ho => ?_) I.dis I.own
    (fun b hb => Nat.lt_of_lt_of_le (I.Kb b hb) h.size) (h.chg I.sz) rfl
  cases o with
  | dead => exact .inr trivial
  | box cells frz => exact .inl ⟨ho, rfl, rfl, fun b hb => h.block b ((I.ob k _ ho).lt (by simp) hb)⟩
  | arr e rows ver frz => exact .inl ⟨ho, rfl, rfl, fun b hb => h.block b ((I.ob k _ ho).lt (by simp) hb)⟩

theorem obj_cons (s : St) (t : Nat) (o : Ob) (k : Nat) : (St.mk s.fr ((t, o) :: s.ob)).obj k = if k = t then some o else s.obj k := by
  simp only [St.obj, find]
  by_cases h : k = t
  · subst h; simp
  · have : eqN t k = false := by rw [Bool.eq_false_iff]; exact fun hb => h (beq_eq hb).symm
    simp [h, this]

theorem ObStep.add (G : Gh) (s : St) {t : Nat} (hf : s.obj t = none) (o : Ob) (v : Value) (ty : TypeId) :
    ObStep G (G.set t v ty) s.obj (St.mk s.fr ((t, o) :: s.ob)).obj := fun k o' ho => by
  have hne : k ≠ t := fun e => by rw [e, hf] at ho; cases ho
  refine ⟨o', by rw [obj_cons, if_neg hne]; exact ho, fun e rows ver frz h => ⟨e, rows, ver, frz, h, Nat.le_refl _, fun _ => ⟨rfl, Nat.le_refl _, ?_⟩⟩, fun cells frz h => ⟨cells, frz, h, ?_⟩⟩ <;> simp [hne]

/-- one object more -/
theorem Inv.addKey (I : Inv B Own w0 G K s a w) {t : Nat} (hf : s.obj t = none) (o : Ob) (v : Value) (ty : TypeId)
    (hro : RO (G.set t v ty) (St.mk s.fr ((t, o) :: s.ob)).obj w K t o)
    (hb : o.live = true → ∀ b, blk v = some b → (B ≤ b ∨ Own b) ∧ ¬ K b ∧ ∀ k o', s.obj k = some o' → o'.live = true → blk (G.val k) ≠ some b) :
    Inv B Own w0 (G.set t v ty) K ⟨s.fr, (t, o) :: s.ob⟩ a w := by
  refine I.step (ObStep.add G s hf o v ty) (fun _ _ => rfl) (fun _ h => h) (fun t x hx => .inl ⟨hx, rfl⟩) (fun k o' ho => ?_) ?_ ?_ I.Kb (Chg.refl _ _ _) rfl
  · rw [obj_cons] at ho
    by_cases h : k = t
    · subst h
      simp only [if_true, Option.some.injEq] at ho
      subst ho
      exact .inr hro
    · rw [if_neg h] at ho
      exact .inl ⟨ho, by simp [h], by simp [h], fun _ _ => rfl⟩
  · intro k k' o1 o2 b hne h1 h2 hl1 hl2 hb1 hb2
    rw [obj_cons] at h1 h2
    simp only [Gh.val_set] at hb1 hb2
    by_cases e1 : k = t
    · have e2 : k' ≠ t := fun e => hne (e1.trans e.symm)
      simp only [e1, e2, if_true, if_false, Option.some.injEq] at h1 h2 hb1 hb2
      subst h1
      exact (hb hl1 b hb1).2.2 k' o2 h2 hl2 hb2
    · by_cases e2 : k' = t
      · simp only [e1, e2, if_true, if_false, Option.some.injEq] at h1 h2 hb1 hb2
        subst h2
        exact (hb hl2 b hb2).2.2 k o1 h1 hl1 hb1
      · simp only [e1, e2, if_false] at h1 h2 hb1 hb2
        exact I.dis k k' o1 o2 b hne h1 h2 hl1 hl2 hb1 hb2
  · intro k o' b h1 hl hb1
    rw [obj_cons] at h1
    simp only [Gh.val_set] at hb1
    by_cases e1 : k = t
    · simp only [e1, if_true, Option.some.injEq] at h1 hb1
      subst h1
      exact ⟨(hb hl b hb1).1, (hb hl b hb1).2.1⟩
    · simp only [e1, if_false] at h1 hb1
      exact I.own k o' b h1 hl hb1

/-- a live object's block is there -/
theorem Inv.live_lt (I : Inv B Own w0 G K s a w) {k : Nat} {o : Ob} (ho : s.obj k = some o) (hl : o.live = true) {b : Nat} (hb : blk (G.val k) = some b) : b < w.heap.size :=
  (I.ob k o ho).lt (fun e => by rw [e] at hl; cases hl) hb

theorem apply_new (s : St) (t : Nat) (x : W) (o : Ob) : s.apply (some t) ⟨some x, [(t, o)]⟩ = (St.mk s.fr ((t, o) :: s.ob)).apply (some t) ⟨some x, []⟩ := rfl

/-- a new variable -/
theorem Inv.newBox (I : Inv B Own w0 G K s a w) {t : Nat} (ht : t < a.tmps.size) (hf : s.obj t = none) (cells : List A) (arr : Array Value) (ty : TypeId)
    (hsz : arr.size = cells.length) (hr : ∀ (j : Nat) (c : A) (x : Value), cells[j]? = some c → arr[j]? = some x → RA G s.obj w K c x) :
    ∃ G', Inv B Own w0 G' K (s.apply (some t) ⟨some (.one (.loc t 0)), [(t, .box cells false)]⟩) (a.put (some t) (.pointer (some ⟨w.heap.size, 0, none⟩))) (w.alloc (.cells arr ty)) := by
  have hnew : (w.alloc (.cells arr ty)).heap[w.heap.size]? = some (.cells arr ty (0, 0)) := heap_alloc_new w _
  have I1 := I.grow (Grew.alloc w (.cells arr ty))
  have I2 := I1.addKey hf (.box cells false) (.pointer (some ⟨w.heap.size, 0, none⟩)) ty
    ⟨w.heap.size, arr, ty, by simp, hnew, hsz, (fun h => by cases h), fun j c x hc hx => (hr j c x hc hx).step (ObStep.add G s hf _ _ _) (fun b hb => (Grew.alloc w _).block b (I.Kb b hb)) (fun _ h => h)⟩
    (fun _ b hb => by
      simp [blk] at hb
      subst hb
      exact ⟨.inl I.sz, fun hk => Nat.lt_irrefl _ (I.Kb _ hk), fun k o' ho' hl hb => Nat.lt_irrefl _ (I.live_lt ho' hl hb)⟩)
  refine ⟨_, apply_new s t _ _ ▸ I2.put (fun t' h => by cases h; exact ht) (.one (.loc (o := .box cells false) (by rw [obj_cons, if_pos rfl]) rfl fun cells' frz' h => ⟨w.heap.size, by simp, rfl⟩))⟩

/-- a new array -/
theorem Inv.newArr (I : Inv B Own w0 G K s a w) {t : Nat} (ht : t < a.tmps.size) (hf : s.obj t = none) (e : Nat) (rows : List (List C)) (v : Value) (ty : TypeId) (xs : List Value)
    (hg : Grew w w') (hown : w'.ownsRow 0 ty e v rows.length xs) (hb : ∀ b, blk v = some b → w.heap.size ≤ b) (hr : Rows w K e rows xs) (h1 : v.oneCell' = true) :
    ∃ G', Inv B Own w0 G' K (s.apply (some t) ⟨some (.one (.ref t 0 none)), [(t, .arr e rows 0 false)]⟩) (a.put (some t) v) w' := by
  have I1 := I.grow hg
  have I2 := I1.addKey hf (.arr e rows 0 false) v ty
    ⟨ty, xs, by simpa using hown, hr.mono (fun b hb => hg.block b (I.Kb b hb)) (fun _ h => h), fun h => by cases h⟩
    (fun _ b hbv => ⟨.inl (Nat.le_trans I.sz (hb b hbv)), fun hk => Nat.lt_irrefl _ (Nat.lt_of_lt_of_le (I.Kb _ hk) (hb b hbv)),
      fun k o' ho' hl hbk => Nat.lt_irrefl _ (Nat.lt_of_lt_of_le (I.live_lt ho' hl hbk) (hb b hbv))⟩)
  refine ⟨_, apply_new s t _ _ ▸ I2.put (fun t' h => by cases h; exact ht) (.one (.ref (o := .arr e rows 0 false) (by rw [obj_cons, if_pos rfl]) h1
    (fun _ _ _ _ h => by cases h; exact Nat.le_refl _) fun _ _ _ _ => by simp [WinV]))⟩
end
end Am

