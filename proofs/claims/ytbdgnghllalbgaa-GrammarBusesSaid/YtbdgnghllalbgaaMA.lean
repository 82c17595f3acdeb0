/- 10 texts in one: the symbolic executor and the contracts of functions. -/
import Derived.WalkKit
import Derived.WalkSpells
import Derived.WalkLawsBesides
/- A symbolic executor for the loaded code: its data and its rules (definitions alone). -/
namespace Go.Sx
open Go

/-- Kinds of what a cell may hold. -/
inductive Kind where
  | b | i (k : IntKind) | s | ro (t : Nat) | ow (t : Nat)
  deriving DecidableEq

/-- What is known of a value: its content, symbolic. 'ro': a slice that nobody writes to, as the list of its elements. -/
inductive Ent (R : Nat → Type) where
  | b (v : Bool) | i (k : IntKind) (n : Int) | s (v : ByteArray) | ro (t : Nat) (xs : List (R t))

/-- A content that the kernel can compute with. -/
inductive Lit where
  | b (v : Bool) | i (k : IntKind) (n : Int) | s (v : ByteArray)

def Lit.ent {R : Nat → Type} : Lit → Ent R
  | .b v => .b v | .i k n => .i k n | .s v => .s v
def Lit.val : Lit → Value
  | .b v => .bool v | .i k n => .int k n | .s v => .string v
def Ent.kind {R : Nat → Type} : Ent R → Kind
  | .b _ => .b | .i k _ => .i k | .s _ => .s | .ro t _ => .ro t

/-- A cell: a literal, an entry of the table, a pointer into a block of the call's own, the nil pointer, a list of the call's own, the nil slice, a function. -/
inductive Cell where
  | k (l : Lit) | v (id : Nat) | p (nm off : Nat) | pn | o (nm : Nat) | z | f (g : Nat) | u

/-- The value of a slot: one cell; several (a struct, an array); a tuple; the address of a part of an element of a list. -/
inductive SV where
  | c (c : Cell) | g (cs : List Cell) | t (xs : List (Bool × List Cell)) | e (l : Cell) (t : Nat) (ix : Cell) (off : Nat)

/-- A slot: what it holds where the guards hold. -/
structure Slot where
  ex : List (Nat × Bool)
  v : SV

/-- A block of the call's own: the cells of a variable; a list (its content is an entry); a list that is the call's own no more: it may be read. -/
inductive Blk where
  | c (T : TypeId) (cs : List Cell) | l (t : Nat) (id : Nat) | f (t : Nat) (id : Nat)

/-- A table by numbers. -/
inductive Tr (α : Type) where
  | nil | node (v : Option α) (l r : Tr α)

namespace Tr
variable {α : Type}
def get : Tr α → Nat → Option α
  | .nil, _ => none
  | .node v l r, k => bif Nat.beq k 0 then v else bif Nat.beq (k % 2) 1 then l.get (k / 2) else r.get (k / 2 - 1)
def setF (x : Option α) : Nat → Tr α → Nat → Tr α
  | 0, t, _ => t
  | f + 1, .nil, k => bif Nat.beq k 0 then .node x .nil .nil else bif Nat.beq (k % 2) 1 then .node none (setF x f .nil (k / 2)) .nil else .node none .nil (setF x f .nil (k / 2 - 1))
  | f + 1, .node v l r, k => bif Nat.beq k 0 then .node x l r else bif Nat.beq (k % 2) 1 then .node v (setF x f l (k / 2)) r else .node v l (setF x f r (k / 2 - 1))
def set (t : Tr α) (x : Option α) (k : Nat) : Tr α := setF x (k + 1) t k
end Tr

/-- The elements of lists: their Lean types, and how they lie in cells. -/
structure Cfg where
  P : Program
  R : Nat → Type
  kinds : Nat → List Kind
  enc : (t : Nat) → R t → List (Ent R)
  dec : (t : Nat) → List (Ent R) → R t
  dft : (t : Nat) → R t
  /-- the number of the element type -/
  elT : Nat → TypeId
  /-- which list type has elements of this type -/
  tOf : TypeId → Option Nat
  /-- the struct types that are compared cell by cell, and what their cells hold -/
  eqT : TypeId → Option (List Kind)

variable (C : Cfg)

/-- What an operation asks of the state, and what it does to it. -/
structure Eff where
  s : List (Nat × Option Slot)
  e : List (Nat × Ent C.R)
  b : List (Nat × Option Blk)
  ob : List Bool

inductive Prg (α : Type) where
  | ret (a : α)
  | fail
  | getS (t : Nat) (f : Slot → Prg α)
  | getE (id : Nat) (f : Ent C.R → Prg α)
  | getB (nm : Nat) (f : Blk → Prg α)

def Prg.bind {C : Cfg} {α β : Type} : Prg C α → (α → Prg C β) → Prg C β
  | .ret a, g => g a
  | .fail, _ => .fail
  | .getS t f, g => .getS t fun x => (f x).bind g
  | .getE t f, g => .getE t fun x => (f x).bind g
  | .getB t f, g => .getB t fun x => (f x).bind g

instance : Monad (Prg C) where
  pure := Prg.ret
  bind := Prg.bind
end Go.Sx

namespace Go.Sx
open Go
variable (C : Cfg)

def IntKind.same : IntKind → IntKind → Bool
  | .i8, .i8 | .i16, .i16 | .i32, .i32 | .i64, .i64 | .u8, .u8 | .u16, .u16 | .u32, .u32 | .u64, .u64 => true
  | _, _ => false
def Kind.same : Kind → Kind → Bool
  | .b, .b | .s, .s => true
  | .i k, .i k' => IntKind.same k k'
  | .ro t, .ro t' | .ow t, .ow t' => Nat.beq t t'
  | _, _ => false

/-- What guards an operation. -/
abbrev Ex := List (Nat × Bool)
def exHas (ex : Ex) (p : Nat × Bool) : Bool := ex.any fun q => Nat.beq q.1 p.1 && (bif p.2 then q.2 else !q.2)
def exSub (a b : Ex) : Bool := a.all (exHas b)

def valCell : Value → Option Cell
  | .bool v => some (.k (.b v))
  | .int k n => some (.k (.i k n))
  | .string s => some (.k (.s s))
  | .slice none 0 0 => some .z
  | .pointer none => some .pn
  | _ => none
def valCells : List Value → Option (List Cell)
  | [] => some []
  | v :: vs => match valCell v with
    | none => none
    | some c => match valCells vs with
      | none => none
      | some cs => some (c :: cs)
def constSV : Value → Option SV
  | .agg cs => (valCells cs.toList).map .g
  | v => (valCell v).map .c

def opd (ex : Ex) : Operand → Prg C SV
  | .tmp t => .getS t fun s => bif exSub s.ex ex then .ret s.v else .fail
  | .const v => match constSV v with | some x => .ret x | none => .fail
  | .func f => .ret (.c (.f f))
  | .global _ => .fail

/-- The content of a cell. -/
def entOf (c : Cell) : Prg C (Ent C.R) :=
  match c with
  | .k l => .ret l.ent
  | .v id => .getE id .ret
  | _ => .fail
/-- The content of a cell that must be of a kind; a list of the call's own serves as a list. -/
def entAs (own : Bool) (k : Kind) (c : Cell) : Prg C (Ent C.R) :=
  match c with
  | .k l => bif Kind.same (Lit.ent (R := C.R) l).kind k then .ret l.ent else .fail
  | .v id => .getE id fun e => bif Kind.same e.kind k then .ret e else .fail
  | .z => match k with | .ro t => .ret (.ro t []) | _ => .fail
  | .o nm => match k with
    | .ro t => .getB nm fun
      | .l t' id => (bif own && Nat.beq t t' then .getE id fun e => bif Kind.same e.kind k then .ret e else .fail else .fail)
      | .f t' id => (bif Nat.beq t t' then .getE id fun e => bif Kind.same e.kind k then .ret e else .fail else .fail)
      | _ => .fail
    | _ => .fail
  | _ => .fail
def entsAs (own : Bool) : List Kind → List Cell → Prg C (List (Ent C.R))
  | [], [] => .ret []
  | k :: ks, c :: cs => (entAs C own k c).bind fun e => (entsAs own ks cs).bind fun es => .ret (e :: es)
  | _, _ => .fail

def svCells : SV → Option (Bool × List Cell)
  | .c c => some (false, [c])
  | .g cs => some (true, cs)
  | _ => none

/-- The truth of the guards. -/
def exB : Ex → Prg C Bool
  | [] => .ret true
  | (id, w) :: ex => .getE id fun | .b v => (exB ex).bind fun r => .ret ((bif w then v else !v) && r) | _ => .fail

def ob1 (ex : Ex) (o : List Bool) : Prg C (List Bool) :=
  match ex, o with
  | [], o => .ret o
  | _, [] => .ret []
  | ex, o => (exB C ex).bind fun g => .ret (o.map fun x => bif g then x else true)

def dstS (o : Oper) (s : Option Slot) : List (Nat × Option Slot) := match o.dst with | some d => [(d, s)] | none => []

/-- An effect on the slot alone. -/
def effS (o : Oper) (ex : Ex) (v : SV) : Eff C := ⟨dstS o (some ⟨ex, v⟩), [], [], []⟩
/-- A new entry, and the slot that holds it. -/
def effE (o : Oper) (ex : Ex) (n : Nat) (e : Ent C.R) (ob : List Bool) : Eff C := ⟨dstS o (some ⟨ex, .c (.v n)⟩), [(n, e)], [], ob⟩

def bitsInt (op : BinOp) (k : IntKind) (x y : Int) : Int :=
  let a := BitVec.ofInt k.bits x
  let b := BitVec.ofInt k.bits y
  match op with
  | .and => k.wrap (a &&& b).toNat
  | .or => k.wrap (a ||| b).toNat
  | .xor => k.wrap (a ^^^ b).toNat
  | _ => k.wrap (a &&& ~~~b).toNat

/-- An operator on two integers of one kind; with what must hold. -/
def intOp (op : BinOp) (k : IntKind) (x y : Int) : Option (Lit × List Bool) :=
  match op with
  | .add => some (.i k (k.wrap (x + y)), [])
  | .sub => some (.i k (k.wrap (x - y)), [])
  | .mul => some (.i k (k.wrap (x * y)), [])
  | .quo => some (.i k (k.wrap (x.tdiv y)), [y != 0])
  | .rem => some (.i k (x.tmod y), [y != 0])
  | .and | .or | .xor | .andNot => some (.i k (bitsInt op k x y), [])
  | .eql => some (.b (x == y), [])
  | .neq => some (.b (x != y), [])
  | .lss => some (.b (decide (x < y)), [])
  | .leq => some (.b (decide (x ≤ y)), [])
  | .gtr => some (.b (decide (x > y)), [])
  | .geq => some (.b (decide (x ≥ y)), [])
  | _ => none
/-- A shift. -/
def shiftOp (op : BinOp) (k : IntKind) (x y : Int) : Option (Lit × List Bool) :=
  match op with
  | .shl => some (.i k (k.wrap (x * 2 ^ (min y.toNat k.bits))), [decide (0 ≤ y)])
  | .shr => some (.i k (x.fdiv (2 ^ (min y.toNat k.bits))), [decide (0 ≤ y)])
  | _ => none
def isBoolT (T : TypeId) : Bool := match C.P.underlying T with | some .bool => true | _ => false
def litOp (op : BinOp) (T : TypeId) : Lit → Lit → Option (Lit × List Bool)
  | .i k x, .i k' y => match op with
    | .shl | .shr => shiftOp op k x y
    | _ => bif IntKind.same k k' then intOp op k x y else none
  | .b x, .b y => bif isBoolT C T then (match op with
    | .eql => some (.b (x == y), [])
    | .neq => some (.b (!(x == y)), [])
    | _ => none) else none
  | _, _ => none
def Ent.lit? {R : Nat → Type} : Ent R → Option Lit
  | .b v => some (.b v) | .i k n => some (.i k n) | .s v => some (.s v) | .ro .. => none
def isLit : Cell → Bool | .k _ => true | _ => false

/-- All of them alike, cell by cell. -/
def litEq : Lit → Lit → Bool
  | .b x, .b y => x == y
  | .i _ x, .i _ y => x == y
  | _, _ => false
def litsEq : List Lit → List Lit → Bool
  | [], [] => true
  | x :: xs, y :: ys => litEq x y && litsEq xs ys
  | _, _ => false
def entLits {R : Nat → Type} : List (Ent R) → Option (List Lit)
  | [] => some []
  | e :: es => match e.lit?, entLits es with
    | some l, some ls => some (l :: ls)
    | _, _ => none

def fieldOf (S : TypeId) (i : Nat) : Option (Nat × TypeId) :=
  match C.P.underlying S with
  | some (.struct fs) => (fs[i]?).map fun f => (f.offset, f.type)
  | _ => none
def isAggB (T : TypeId) : Bool :=
  match C.P.underlying T with
  | some (.struct _) | some (.array _ _) => true
  | _ => false
def sizeT (T : TypeId) : Nat := ((C.P.info? T).map (·.size)).getD 0
def zeroT (T : TypeId) : Option (List Cell) := match C.P.info? T with | some i => i.zero.bind fun z => valCells z.cells.toList | none => none
def sub {α : Type} (l : List α) (off n : Nat) : List α := (l.drop off).take n
def put {α : Type} (l : List α) (off : Nat) (x : List α) : List α := l.take off ++ x ++ l.drop (off + x.length)

/-- The numbers from n on, one a content. -/
def ids : Nat → List (Ent C.R) → List (Nat × Ent C.R)
  | _, [] => []
  | n, e :: es => (n, e) :: ids (n + 1) es
def idCells : Nat → List (Ent C.R) → List Cell
  | _, [] => []
  | n, _ :: es => .v n :: idCells (n + 1) es

/-- A list: its content. -/
def listOf (c : Cell) : Prg C ((t : Nat) × List (C.R t)) :=
  match c with
  | .v id => .getE id fun | .ro t xs => .ret ⟨t, xs⟩ | _ => .fail
  | .o nm => .getB nm fun | .l _ id | .f _ id => (.getE id fun | .ro t xs => .ret ⟨t, xs⟩ | _ => .fail) | _ => .fail
  | _ => .fail
/-- A list of elements of a type. -/
def listAs (t : Nat) (c : Cell) : Prg C (List (C.R t)) :=
  (entAs C true (.ro t) c).bind fun | .ro t' xs => (if h : t' = t then .ret (h ▸ xs) else .fail) | _ => .fail

/-- A list of the call's own, of elements of a type. -/
def listOwn (t : Nat) (nm : Nat) : Prg C (List (C.R t)) :=
  .getB nm fun
  | .l t' id => (bif Nat.beq t t' then .getE id fun | .ro t2 xs => (if h : t2 = t then .ret (h ▸ xs) else .fail) | _ => .fail else .fail)
  | _ => .fail
def intOf (c : Cell) : Prg C (IntKind × Int) := (entOf C c).bind fun | .i k n => .ret (k, n) | _ => .fail
def boolOf (c : Cell) : Prg C Bool := (entOf C c).bind fun | .b v => .ret v | _ => .fail

def loadP (o : Oper) (ex : Ex) (n : Nat) (T : TypeId) (x : SV) : Prg C (Eff C) :=
  bif !(C.P.underlying T).isSome then .fail else
  match x with
  | .c (.p nm off) => .getB nm fun
    | .c _ cs => bif isAggB C T then (bif Nat.ble (off + sizeT C T) cs.length then .ret (effS C o ex (.g (sub cs off (sizeT C T)))) else .fail)
      else match cs[off]? with | some c => .ret (effS C o ex (.c c)) | none => .fail
    | _ => .fail
  | .e l t ix off => (listAs C t l).bind fun xs => (intOf C ix).bind fun r =>
    let row := C.enc t (xs.getD r.2.toNat (C.dft t))
    bif isAggB C T then
      let es := sub row off (sizeT C T)
      bif Nat.beq es.length (sizeT C T) then .ret ⟨dstS o (some ⟨ex, .g (idCells C n es)⟩), ids C n es, [], []⟩ else .fail
    else match row[off]? with | some e => .ret (effE C o ex n e []) | none => .fail
  | _ => .fail

def storeP (o : Oper) (n : Nat) (T : TypeId) (x y : SV) : Prg C (Eff C) :=
  match svCells y with
  | none => .fail
  | some (_, ys) =>
    bif !(Nat.beq ys.length (sizeT C T) && (C.P.info? T).isSome) then .fail else
    match x with
    | .c (.p nm off) => .getB nm fun
      | .c T0 cs => bif Nat.ble (off + ys.length) cs.length then .ret ⟨dstS o none, [], [(nm, some (.c T0 (put cs off ys)))], []⟩ else .fail
      | _ => .fail
    | .e (.o nm) t ix off => (listOwn C t nm).bind fun xs => (intOf C ix).bind fun r =>
        (entsAs C false (sub (C.kinds t) off ys.length) ys).bind fun es =>
        let row := C.enc t (xs.getD r.2.toNat (C.dft t))
        bif Nat.ble (off + ys.length) row.length then
          .ret ⟨dstS o none, [(n, .ro t (xs.set r.2.toNat (C.dec t (put row off es))))], [(nm, some (.l t n))], []⟩ else .fail
    | _ => .fail

def binP (o : Oper) (ex : Ex) (n : Nat) (op : BinOp) (T : TypeId) (x y : SV) : Prg C (Eff C) :=
  match x, y with
  | .c a, .c b => (entOf C a).bind fun p => (entOf C b).bind fun q =>
    match p.lit?, q.lit? with
    | some p, some q => match litOp C op T p q with
      | some (r, ob) =>
        bif isLit a && isLit b then .ret ⟨dstS o (some ⟨ex, .c (.k r)⟩), [], [], ob⟩
        else (ob1 C ex ob).bind fun ob => .ret (effE C o ex n r.ent ob)
      | none => .fail
    | _, _ => .fail
  | .g as, .g bs => match C.eqT T with
    | some ks => (entsAs C false ks as).bind fun es => (entsAs C false ks bs).bind fun fs =>
      match entLits es, entLits fs with
      | some p, some q => match op with
        | .eql => .ret (effE C o ex n (.b (litsEq p q)) [])
        | .neq => .ret (effE C o ex n (.b (!litsEq p q)) [])
        | _ => .fail
      | _, _ => .fail
    | none => .fail
  | _, _ => .fail

def unP (o : Oper) (ex : Ex) (n : Nat) (op : UnOp) (x : SV) : Prg C (Eff C) :=
  match x with
  | .c a => (entOf C a).bind fun p => match op, p with
    | .not, .b v => .ret (bif isLit a then effS C o ex (.c (.k (.b (!v)))) else effE C o ex n (.b (!v)) [])
    | .neg, .i k v => .ret (bif isLit a then effS C o ex (.c (.k (.i k (k.wrap (0 - v))))) else effE C o ex n (.i k (k.wrap (0 - v))) [])
    | .xor, .i k v => .ret (bif isLit a then effS C o ex (.c (.k (.i k (bitsInt .xor k (if k.signed then -1 else k.max) v)))) else effE C o ex n (.i k (bitsInt .xor k (if k.signed then -1 else k.max) v)) [])
    | _, _ => .fail
  | _ => .fail

def convP (o : Oper) (ex : Ex) (n : Nat) (S D : TypeId) (x : SV) : Prg C (Eff C) :=
  match C.P.underlying S, C.P.underlying D, x with
  | some _, some (.int k), .c a => (entOf C a).bind fun
    | .i _ v => .ret (bif isLit a then effS C o ex (.c (.k (.i k (k.wrap v)))) else effE C o ex n (.i k (k.wrap v)) [])
    | _ => .fail
  | _, _, _ => .fail

/-- Of two contents one, by a test. -/
def iteEnt {R : Nat → Type} (c : Bool) : Ent R → Ent R → Option (Ent R)
  | .b x, .b y => some (.b (bif c then x else y))
  | .i k x, .i k' y => bif IntKind.same k k' then some (.i k (bif c then x else y)) else none
  | .ro t x, .ro t' y => if h : t' = t then some (.ro t (bif c then x else h ▸ y)) else none
  | _, _ => none
def sameCell : Cell → Cell → Bool
  | .v a, .v b => Nat.beq a b
  | .k (.b a), .k (.b b) => bif a then b else !b
  | .k (.i k a), .k (.i k' b) => IntKind.same k k' && decide (a = b)
  | .p a b, .p c d => Nat.beq a c && Nat.beq b d
  | .pn, .pn | .z, .z => true
  | .o a, .o b => Nat.beq a b
  | .f a, .f b => Nat.beq a b
  | _, _ => false

def pickP (o : Oper) (ex : Ex) (n : Nat) (x y z : Operand) : Prg C (Eff C) :=
  (opd C ex x).bind fun
  | .c (.k (.b true)) => (opd C ex y).bind fun v => .ret (effS C o ex v)
  | .c (.k (.b false)) => (opd C ex z).bind fun v => .ret (effS C o ex v)
  | .c (.v id) => .getE id fun
    | .b c => (opd C ((id, true) :: ex) y).bind fun a => (opd C ((id, false) :: ex) z).bind fun b =>
      match a, b with
      | .c a, .c b => bif sameCell a b then .ret (effS C o ex (.c a)) else
        (entOf C a).bind fun p => (entOf C b).bind fun q => match iteEnt c p q with
        | some e => .ret (effE C o ex n e [])
        | none => .fail
      | _, _ => .fail
    | _ => .fail
  | _ => .fail

def buildP (fs : Array Field) : List (Nat × SV) → List Cell → Option (List Cell)
  | [], cs => some cs
  | (i, x) :: rest, cs => match fs[i]?, svCells x with
    | some f, some (_, ys) => bif Nat.beq ys.length (sizeT C f.type) && Nat.ble (f.offset + ys.length) cs.length then buildP fs rest (put cs f.offset ys) else none
    | _, _ => none
def buildA (esz : Nat) : List (Nat × SV) → List Cell → Option (List Cell)
  | [], cs => some cs
  | (i, x) :: rest, cs => match svCells x with
    | some (_, ys) => bif Nat.beq ys.length esz && Nat.ble (i * esz + ys.length) cs.length then buildA esz rest (put cs (i * esz) ys) else none
    | _ => none

def opds (ex : Ex) : List (Nat × Operand) → Prg C (List (Nat × SV))
  | [] => .ret []
  | (i, x) :: l => (opd C ex x).bind fun v => (opds ex l).bind fun vs => .ret ((i, v) :: vs)
def opdl (ex : Ex) : List Operand → Prg C (List SV)
  | [] => .ret []
  | x :: l => (opd C ex x).bind fun v => (opdl ex l).bind fun vs => .ret (v :: vs)

/-- The rows of a slice's literal: one a part, in their order. -/
def rowsOf (t : Nat) : Nat → List (Nat × SV) → Prg C (List (C.R t))
  | _, [] => .ret []
  | i, (j, x) :: l => bif Nat.beq i j then
      match svCells x with
      | some (_, cs) => (entsAs C false (C.kinds t) cs).bind fun es => (rowsOf t (i + 1) l).bind fun r => .ret (C.dec t es :: r)
      | none => .fail
    else .fail

def lenInt (n : Nat) : Int := n

def stride : Nat := 256

/-- A parameter or a result: a value; a pointer to a variable, with what the variable holds. -/
inductive PSpec where
  | v (agg : Bool) (ks : List Kind)
  | p (T : TypeId) (ks : List Kind) (off : Nat)

def PSpec.isP : PSpec → Bool
  | .p .. => true
  | .v .. => false
def PSpec.kinds : PSpec → List Kind
  | .p _ ks _ => ks
  | .v _ ks => ks
/-- The pointers among the parameters. -/
def ioP (ps : List PSpec) : List PSpec := ps.filter PSpec.isP

/-- What a function gives: its parameters' and results' kinds; what it asks; its results, and what the variables behind its pointers then hold. -/
structure FSum where
  ps : List PSpec
  rs : List PSpec
  pre : List (List (Ent C.R)) → List Bool
  F : List (List (Ent C.R)) → List (List (Ent C.R))

/-- Contents out of cells; the lists of the call's own among them. -/
def inOut : List Kind → List Cell → Prg C (List (Ent C.R) × List Nat)
  | [], [] => .ret ([], [])
  | k :: ks, c :: cs => match k with
    | .ow t => (match c with
      | .z => (inOut ks cs).bind fun r => .ret (.ro t [] :: r.1, r.2)
      | .o nm => (listOwn C t nm).bind fun l => (inOut ks cs).bind fun r => .ret (.ro t l :: r.1, nm :: r.2)
      | _ => .fail)
    | k => (entAs C false k c).bind fun e => (inOut ks cs).bind fun r => .ret (e :: r.1, r.2)
  | _, _ => .fail

def noOwB (ks : List Kind) : Bool := ks.all fun | .ow _ => false | _ => true

/-- The arguments' contents; the names of the variables behind the pointers; these names with those of the lists of the call's own that the variables hold. -/
def argsOf : List PSpec → List SV → Prg C (List (List (Ent C.R)) × List Nat × List Nat)
  | [], [] => .ret ([], [], [])
  | .v agg ks :: ps, x :: xs => match svCells x with
    | some (g, cs) => bif (bif agg then g else !g) && noOwB ks then
        (entsAs C true ks cs).bind fun es => (argsOf ps xs).bind fun r => .ret (es :: r.1, r.2)
      else .fail
    | none => .fail
  | .p T ks off :: ps, .c (.p nm off') :: xs => bif Nat.beq off off' then
      .getB nm fun
      | .c T' cs => bif Nat.beq T T' then
          (inOut C ks cs).bind fun r => (argsOf ps xs).bind fun r' => .ret (r.1 :: r'.1, nm :: r'.2.1, nm :: r.2 ++ r'.2.2)
        else .fail
      | _ => .fail
    else .fail
  | _, _ => .fail

/-- The lists of the call's own that are handed over as values. -/
def cellNames : List Cell → List Nat
  | [] => []
  | .o nm :: cs => nm :: cellNames cs
  | _ :: cs => cellNames cs
def roOf : List PSpec → List SV → List Nat
  | .v _ _ :: ps, x :: xs => (match svCells x with | some (_, cs) => cellNames cs | none => []) ++ roOf ps xs
  | .p _ _ _ :: ps, _ :: xs => roOf ps xs
  | _, _ => []

/-- The cells of new contents, numbered from n on; the lists of the call's own with blocks of their own. -/
def outCells : Nat → List Kind → List (Ent C.R) → Option (List Cell × List (Nat × Ent C.R) × List (Nat × Option Blk))
  | _, [], [] => some ([], [], [])
  | n, k :: ks, e :: es => match outCells (n + 1) ks es with
    | none => none
    | some (cs, en, bs) => match k with
      | .ow t => (match e with
        | .ro t' xs => bif Nat.beq t t' then some (.o n :: cs, (n, .ro t' xs) :: en, (n, some (.l t n)) :: bs) else none
        | _ => none)
      | k => bif Kind.same e.kind k then some (.v n :: cs, (n, e) :: en, bs) else none
  | _, _, _ => none

def svOf (agg : Bool) (cs : List Cell) : SV :=
  match agg, cs with
  | false, [c] => .c c
  | _, cs => .g cs

/-- Contents taken in: numbered from n on; a variable by a name that is given, or a new one. -/
def importP : Nat → List PSpec → List (List (Ent C.R)) → List (Option Nat) → Option (Nat × List SV × List (Nat × Ent C.R) × List (Nat × Option Blk))
  | n, [], [], _ => some (n, [], [], [])
  | n, .v agg ks :: ps, es :: ess, nms => bif noOwB ks && (bif agg then true else Nat.beq es.length 1) then
    (match outCells C n ks es with
    | none => none
    | some (cs, en, _) => match importP (n + es.length) ps ess nms.tail with
      | none => none
      | some (n', svs, en', bs') => some (n', svOf agg cs :: svs, en ++ en', bs')) else none
  | n, .p T ks off :: ps, es :: ess, nms =>
    match outCells C (n + 1) ks es with
    | none => none
    | some (cs, en, bs) => match importP (n + 1 + es.length) ps ess nms.tail with
      | none => none
      | some (n', svs, en', bs') => some (n', .c (.p (nms.head?.join.getD n) off) :: svs, en ++ en', (nms.head?.join.getD n, some (.c T cs)) :: bs ++ bs')
  | _, _, _, _ => none

def resSV : List SV → SV
  | [x] => x
  | xs => .t (xs.map fun x => (svCells x).getD (false, []))

/-- Of two names no two alike. -/
def nodupN : List Nat → Bool
  | [] => true
  | x :: l => !(l.any fun y => Nat.beq x y) && nodupN l
def apartN (xs ys : List Nat) : Bool := xs.all fun x => !(ys.any fun y => Nat.beq x y)

/-- Lists of the call's own that are its own no more. -/
def frz : List Nat → Prg C (List (Nat × Option Blk))
  | [] => .ret []
  | nm :: l => .getB nm fun
    | .l t id => (frz l).bind fun r => .ret ((nm, some (.f t id)) :: r)
    | .f _ _ => frz l
    | _ => .fail

def hasRo (ps : List PSpec) : Bool := ps.any fun p => p.kinds.any fun | .ro _ | .ow _ => true | _ => false

def callP (o : Oper) (ex : Ex) (n : Nat) (S : FSum C) (xs : List SV) : Prg C (Eff C) :=
  (argsOf C S.ps xs).bind fun r =>
    let nms := r.2.1
    let all := r.2.2
    let ro := roOf S.ps xs
    bif nodupN all && apartN ro all && nodupN ro then
      (ob1 C ex (S.pre r.1)).bind fun ob =>
      (frz C (bif hasRo (S.rs ++ ioP S.ps) then ro else [])).bind fun fz =>
      match importP C n (S.rs ++ ioP S.ps) (S.F r.1) (S.rs.map (fun _ => none) ++ nms.map some) with
      | none => .fail
      | some (n', svs, en, bs) =>
        let bl := fz ++ (all.filter fun k => !(nms.any fun y => Nat.beq k y)).map (fun k => (k, none)) ++ bs
        bif Nat.ble n' (n + stride) && nodupN (bl.map (·.1)) && (ex.isEmpty || bl.isEmpty) && (all.all fun k => (bl.map (·.1)).any (Nat.beq k)) then
          .ret ⟨dstS o (some ⟨ex, resSV (svs.take S.rs.length)⟩), en, bl, ob⟩
        else .fail
    else .fail

/-- The greatest length of a list that the calls make. -/
def mostLen : Nat := 2147483648

def appendP (o : Oper) (n : Nat) (T : TypeId) (x y : SV) : Prg C (Eff C) :=
  match C.P.underlying T, x, y with
  | some (.slice el), .c a, .c b => match C.tOf el with
    | none => .fail
    | some t => (listAs C t b).bind fun ys =>
      match a with
      | .z => .ret ⟨dstS o (some ⟨[], .c (.o n)⟩), [(n, .ro t ys)], [(n, some (.l t n))], [decide (ys.length ≤ mostLen)]⟩
      | .o nm => (listOwn C t nm).bind fun xs =>
        .ret ⟨dstS o (some ⟨[], .c (.o n)⟩), [(n, .ro t (xs ++ ys))], [(nm, none), (n, some (.l t n))], [decide (xs.length + ys.length ≤ mostLen)]⟩
      | _ => .fail
  | _, _, _ => .fail

def lenP (o : Oper) (ex : Ex) (n : Nat) (isStr : Bool) (x : SV) : Prg C (Eff C) :=
  match isStr, x with
  | false, .c .z => .ret (effS C o ex (.c (.k (.i .i64 0))))
  | false, .c c => (listOf C c).bind fun r => .ret (effE C o ex n (.i .i64 (lenInt r.2.length)) [])
  | true, .c (.k (.s s)) => .ret (effS C o ex (.c (.k (.i .i64 s.size))))
  | true, .c c => (entOf C c).bind fun | .s s => .ret (effE C o ex n (.i .i64 s.size) []) | _ => .fail
  | _, _ => .fail

def mxI (x y : Int) : Int := if y > x then y else x
def mnI (x y : Int) : Int := if y < x then y else x
def mmP (o : Oper) (ex : Ex) (n : Nat) (isMax : Bool) (x y : SV) : Prg C (Eff C) :=
  match x, y with
  | .c a, .c b => (intOf C a).bind fun p => (intOf C b).bind fun q =>
    .ret (effE C o ex n (.i p.1 (bif isMax then mxI p.2 q.2 else mnI p.2 q.2)) [])
  | _, _ => .fail

def ixP (o : Oper) (ex : Ex) (T : TypeId) (x ix : SV) : Prg C (Eff C) :=
  match C.P.underlying T, x, ix with
  | some (.slice el), .c l, .c i => match C.tOf el with
    | some t => (listAs C t l).bind fun xs => (intOf C i).bind fun r =>
      (ob1 C ex [decide (0 ≤ r.2), decide (r.2 < lenInt xs.length)]).bind fun ob =>
      .ret ⟨dstS o (some ⟨ex, .e l t i 0⟩), [], [], ob⟩
    | none => .fail
  | some (.array len el), .c (.p nm off), .c (.k (.i _ j)) => bif decide (0 ≤ j) && decide (j < len) && (C.P.info? el).isSome then .ret (effS C o ex (.c (.p nm (off + j.toNat * sizeT C el)))) else .fail
  | _, _, _ => .fail

/-- The contents of cells. -/
def entsOf : List Cell → Prg C (List (Ent C.R))
  | [] => .ret []
  | c :: cs => (entOf C c).bind fun e => (entsOf cs).bind fun es => .ret (e :: es)
/-- Of contents the one with a number. -/
def selEnt {R : Nat → Type} (j : Int) : Nat → List (Ent R) → Option (Ent R)
  | _, [] => none
  | _, [e] => some e
  | i, e :: es => match selEnt j (i + 1) es with | some r => iteEnt (j == lenInt i) e r | none => none
def indexP (o : Oper) (ex : Ex) (n : Nat) (T : TypeId) (x ix : SV) : Prg C (Eff C) :=
  match C.P.underlying T, x, ix with
  | some (.array len el), .g cs, .c (.k (.i _ j)) =>
    bif decide (0 ≤ j) && decide (j < len) && (C.P.underlying el).isSome then
      (bif isAggB C el then .ret (effS C o ex (.g (sub cs (j.toNat * sizeT C el) (sizeT C el))))
      else match cs[j.toNat * sizeT C el]? with | some c => .ret (effS C o ex (.c c)) | none => .fail)
    else .fail
  | some (.array len el), .g cs, .c (.v id) => .getE id fun
    | .i _ j => bif (C.P.underlying el).isSome && !isAggB C el && Nat.beq (sizeT C el) 1 && Nat.beq cs.length len then
        (entsOf C cs).bind fun es => match selEnt j 0 es with
        | some e => (ob1 C ex [decide (0 ≤ j), decide (j < lenInt len)]).bind fun ob => .ret (effE C o ex n e ob)
        | none => .fail
      else .fail
    | _ => .fail
  | _, _, _ => .fail

/-- What a slice expression of a list gives. -/
def sliceP (o : Oper) (ex : Ex) (n : Nat) (T : TypeId) (x : SV) (lo hi : Option SV) : Prg C (Eff C) :=
  match C.P.underlying T, x with
  | some (.slice el), .c (.v id) => .getE id fun
    | .ro t xs => bif !(match C.tOf el with | some t' => Nat.beq t t' | none => false) then .fail else
      (match hi with | none => Prg.ret (lenInt xs.length) | some (.c h) => (intOf C h).bind fun r => Prg.ret r.2 | _ => Prg.fail).bind fun h =>
      (match lo with | none => Prg.ret 0 | some (.c l) => (intOf C l).bind fun r => Prg.ret r.2 | _ => Prg.fail).bind fun l =>
      (ob1 C ex [decide (0 ≤ l), decide (l ≤ h), decide (h ≤ lenInt xs.length)]).bind fun ob =>
      .ret (effE C o ex n (.ro t ((xs.take h.toNat).drop l.toNat)) ob)
    | _ => .fail
  | _, _ => .fail

/-- One operation, under its guards. -/
def opP (Γ : Nat → Option (FSum C)) (n : Nat) (o : Oper) (ex : Ex) : Prg C (Eff C) :=
  match o.op with
  | .move x | .assign x => (opd C ex x).bind fun v => .ret (effS C o ex v)
  | .pick c a b => pickP C o ex n c a b
  | .alloc T => match ex, zeroT C T with
    | [], some cs => .ret ⟨dstS o (some ⟨[], .c (.p n 0)⟩), [], [(n, some (.c T cs))], []⟩
    | _, _ => .fail
  | .box T x => match ex with
    | [] => (opd C ex x).bind fun v => match svCells v with
      | some (_, cs) => .ret ⟨dstS o (some ⟨[], .c (.p n 0)⟩), [], [(n, some (.c T cs))], []⟩
      | none => .fail
    | _ => .fail
  | .build T ps => (opds C ex ps.toList).bind fun vs => match C.P.underlying T, zeroT C T with
    | some (.struct fs), some cs => bif fs.toList.all (fun fl => (C.P.info? fl.type).isSome) then (match buildP C fs vs cs with | some r => .ret (effS C o ex (.g r)) | none => .fail) else .fail
    | some (.array _ el), some cs => bif (C.P.info? el).isSome then (match buildA (sizeT C el) vs cs with | some r => .ret (effS C o ex (.g r)) | none => .fail) else .fail
    | _, _ => .fail
  | .buildSlice T m ps => match C.P.underlying T with
    | some (.slice el) => match C.tOf el with
      | some t => bif Nat.beq m ps.size && Nat.ble (m * sizeT C el) 16777216 then
          (opds C ex ps.toList).bind fun vs => (rowsOf C t 0 vs).bind fun xs => .ret (effE C o ex n (.ro t xs) [])
        else .fail
      | none => .fail
    | _ => .fail
  | .load T x => (opd C ex x).bind fun v => loadP C o ex n T v
  | .store T x y => match ex with
    | [] => (opd C ex x).bind fun v => (opd C ex y).bind fun u => storeP C o n T v u
    | _ => .fail
  | .nilCheck x => (opd C ex x).bind fun
    | .c (.p a b) => .ret (effS C o ex (.c (.p a b)))
    | .e a t b c => .ret (effS C o ex (.e a t b c))
    | .c (.f g) => .ret (effS C o ex (.c (.f g)))
    | _ => .fail
  | .binOp op T x y _ => (opd C ex x).bind fun v => (opd C ex y).bind fun u => binP C o ex n op T v u
  | .unOp op _ x => (opd C ex x).bind fun v => unP C o ex n op v
  | .convert S D x => (opd C ex x).bind fun v => convP C o ex n S D v
  | .fieldAddr S x i => (opd C ex x).bind fun v => match fieldOf C S i, v with
    | some (fo, ft), .c (.p nm off) => bif Nat.beq (sizeT C ft) 0 then .fail else .ret (effS C o ex (.c (.p nm (off + fo))))
    | some (fo, ft), .e l t ix off => bif Nat.beq (sizeT C ft) 0 then .fail else .ret (effS C o ex (.e l t ix (off + fo)))
    | _, _ => .fail
  | .field S x i => (opd C ex x).bind fun v => match fieldOf C S i, v with
    | some (fo, ft), .g cs => bif !(C.P.underlying ft).isSome then .fail else bif isAggB C ft then .ret (effS C o ex (.g (sub cs fo (sizeT C ft)))) else match cs[fo]? with | some c => .ret (effS C o ex (.c c)) | none => .fail
    | _, _ => .fail
  | .indexAddr T x i => (opd C ex x).bind fun v => (opd C ex i).bind fun u => ixP C o ex T v u
  | .index T x i => (opd C ex x).bind fun v => (opd C ex i).bind fun u => indexP C o ex n T v u
  | .extract x i => (opd C ex x).bind fun
    | .t xs => match xs[i]? with
      | some (true, cs) => .ret (effS C o ex (.g cs))
      | some (false, [c]) => .ret (effS C o ex (.c c))
      | _ => .fail
    | _ => .fail
  | .slice T x lo hi none => (opd C ex x).bind fun v =>
      (match lo with | none => Prg.ret none | some l => (opd C ex l).bind fun u => Prg.ret (some u)).bind fun l =>
      (match hi with | none => Prg.ret none | some h => (opd C ex h).bind fun u => Prg.ret (some u)).bind fun h =>
      sliceP C o ex n T v l h
  | .call { callee := .builtin b, args := as, argTypes := ts } => (opdl C ex as.toList).bind fun vs => match b, vs with
    | .len, [x] => match ts[0]? with | some t => (match C.P.underlying t with | some (.slice _) => lenP C o ex n false x | some .string => lenP C o ex n true x | _ => .fail) | none => .fail
    | .append, [x, y] => match ex, ts[0]?, ts[1]? with
      | [], some t, some t' => bif Nat.beq t t' then appendP C o n t x y else .fail
      | _, _, _ => .fail
    | .max, [x, y] => mmP C o ex n true x y
    | .min, [x, y] => mmP C o ex n false x y
    | _, _ => .fail
  | .call { callee := .value f, args := as, argTypes := _ } => (opd C ex f).bind fun
    | .c (.f g) => match Γ g with
      | some S => (opdl C ex as.toList).bind fun vs => callP C o ex n S vs
      | none => .fail
    | _ => .fail
  | _ => .fail

/-- One operation of a region: its guard, then it. -/
def operP (Γ : Nat → Option (FSum C)) (ops : Array Oper) (n : Nat) (o : Oper) : Prg C (Eff C) :=
  match o.guard with
  | none => opP C Γ n o []
  | some (j, want) => match (ops[j]?).bind (·.dst) with
    | none => .fail
    | some d => .getS d fun s => match s.v with
      | .c (.k (.b v)) => bif (bif want then v else !v) then opP C Γ n o s.ex else .ret ⟨dstS o none, [], [], []⟩
      | .c (.v id) => .getE id fun | .b _ => opP C Γ n o ((id, want) :: s.ex) | _ => .fail
      | _ => .fail

/-- A state: slots, entries, blocks. -/
structure St where
  s : Tr Slot
  e : Tr (Ent C.R)
  b : Tr Blk

def Prg.run {C : Cfg} {α : Type} (m : St C) : Prg C α → Option α
  | .ret a => some a
  | .fail => none
  | .getS t f => match m.s.get t with | some x => (f x).run m | none => none
  | .getE t f => match m.e.get t with | some x => (f x).run m | none => none
  | .getB t f => match m.b.get t with | some x => (f x).run m | none => none

inductive Key where | s (t : Nat) | e (id : Nat) | b (nm : Nat)
def Prg.reads {C : Cfg} {α : Type} (m : St C) : Prg C α → List Key
  | .ret _ => []
  | .fail => []
  | .getS t f => .s t :: match m.s.get t with | some x => (f x).reads m | none => []
  | .getE t f => .e t :: match m.e.get t with | some x => (f x).reads m | none => []
  | .getB t f => .b t :: match m.b.get t with | some x => (f x).reads m | none => []

def setS : List (Nat × Option Slot) → Tr Slot → Tr Slot
  | [], t => t
  | (k, x) :: l, t => setS l (t.set x k)
def setB : List (Nat × Option Blk) → Tr Blk → Tr Blk
  | [], t => t
  | (k, x) :: l, t => setB l (t.set x k)
/-- New entries alone: none of the numbers may be taken. -/
def setE {R : Nat → Type} : List (Nat × Ent R) → Tr (Ent R) → Option (Tr (Ent R))
  | [], t => some t
  | (k, x) :: l, t => match t.get k with | some _ => none | none => setE l (t.set (some x) k)

def Eff.on {C : Cfg} (f : Eff C) (m : St C) : Option (St C) :=
  match setE f.e m.e with
  | none => none
  | some e => some ⟨setS f.s m.s, e, setB f.b m.b⟩

/-- The slot that an operation writes is there. -/
def dstOk (N : Nat) (o : Oper) : Bool := match o.dst with | some d => Nat.blt d N | none => true

/-- The operations in the text's order. -/
def runOps (Γ : Nat → Option (FSum C)) (N : Nat) (ops : Array Oper) : List Oper → Nat → St C → List Bool → Option (St C × List Bool)
  | [], _, m, ob => some (m, ob)
  | o :: l, n, m, ob => match (operP C Γ ops n o).run m with
    | none => none
    | some f => match f.on m with
      | none => none
      | some m' => bif dstOk N o then runOps Γ N ops l (n + stride) m' (ob ++ f.ob) else none


/-- How a piece of code ends. -/
inductive Fin where | nx | ex (id : Nat) | rt
def Fin.same : Fin → Fin → Bool
  | .nx, .nx | .rt, .rt => true
  | .ex a, .ex b => Nat.beq a b
  | _, _ => false

/-- The slots and blocks of a state. -/
structure Loc where
  s : Tr Slot
  b : Tr Blk
/-- The entries, and the next free number. -/
structure Env where
  e : Tr (Ent C.R)
  n : Nat

/-- What a piece of code leads to: an end, under what must hold; one of two, by a test; nothing known. -/
inductive Out where
  | leaf (ob : List Bool) (x : Fin) (m : Loc)
  | br (c : Bool) (a b : Out)
  | fail

def exAll : Ex → Ex → Bool
  | a, b => exSub a b && exSub b a

/-- Merging two cells: the merged one, and new entries; 'none': the lists of the call's own part. -/
def mCell (c : Bool) (E : Tr (Ent C.R)) (n : Nat) (x y : Cell) : Option (Cell × List (Nat × Ent C.R)) :=
  bif sameCell x y then some (x, []) else
  let ent : Cell → Option (Ent C.R) := fun | .k l => some l.ent | .v id => E.get id | _ => none
  match x, y with
  | .o _, _ | _, .o _ => none
  | x, y => match ent x, ent y with
    | some p, some q => match iteEnt c p q with
      | some e => some (.v n, [(n, e)])
      | none => some (.u, [])
    | _, _ => some (.u, [])
def mCells (c : Bool) (E : Tr (Ent C.R)) : Nat → List Cell → List Cell → Option (List Cell × List (Nat × Ent C.R) × Nat)
  | n, x :: xs, y :: ys => match mCell C c E n x y with
    | none => none
    | some (q, en) => match mCells c E (n + en.length) xs ys with
      | none => none
      | some (qs, en', n') => some (q :: qs, en ++ en', n')
  | n, _, _ => some ([], [], n)
inductive MS where | bad | drop | ok (s : Slot)
def mSlot (c : Bool) (E : Tr (Ent C.R)) (n : Nat) (x y : Slot) : Option (Option Slot × List (Nat × Ent C.R) × Nat) :=
  bif !exAll x.ex y.ex then some (none, [], n) else
  match x.v, y.v with
  | .c a, .c b => match mCell C c E n a b with
    | none => none
    | some (q, en) => some (some ⟨x.ex, .c q⟩, en, n + en.length)
  | .g as, .g bs => bif Nat.beq as.length bs.length then (match mCells C c E n as bs with
    | none => none
    | some (zs, en, n') => some (some ⟨x.ex, .g zs⟩, en, n')) else some (none, [], n)
  | .e l t i o, .e l' t' i' o' => bif sameCell l l' && Nat.beq t t' && sameCell i i' && Nat.beq o o' then some (some x, [], n) else some (none, [], n)
  | _, _ => some (none, [], n)

/-- Merging two tables, number by number. -/
def mTr {α β : Type} (f : Nat → α → α → Option (Option α × List β × Nat)) : Nat → Tr α → Tr α → Option (Tr α × List β × Nat)
  | n, .node v l r, .node v' l' r' =>
    match (match v, v' with | some a, some b => f n a b | _, _ => some (none, [], n)) with
    | none => none
    | some (q, en, n1) => match mTr f n1 l l' with
      | none => none
      | some (l2, en2, n2) => match mTr f n2 r r' with
        | none => none
        | some (r2, en3, n3) => some (.node q l2 r2, en ++ en2 ++ en3, n3)
  | n, _, _ => some (.nil, [], n)

def mBlk (c : Bool) (E : Tr (Ent C.R)) (n : Nat) (x y : Blk) : Option (Option Blk × List (Nat × Ent C.R) × Nat) :=
  match x, y with
  | .c T as, .c T' bs => bif Nat.beq T T' && Nat.beq as.length bs.length then (match mCells C c E n as bs with
    | none => none
    | some (zs, en, n') => some (some (.c T zs), en, n')) else some (none, [], n)
  | .l t i, .l t' i' => bif Nat.beq i i' && Nat.beq t t' then some (some x, [], n) else
    match E.get i, E.get i' with
    | some p, some q => (match iteEnt c p q with
      | some e => bif Nat.beq t t' then some (some (.l t n), [(n, e)], n + 1) else some (none, [], n)
      | none => some (none, [], n))
    | _, _ => some (none, [], n)
  | .f t i, .f t' i' => bif Nat.beq i i' && Nat.beq t t' then some (some x, [], n) else some (none, [], n)
  | _, _ => some (none, [], n)

/-- Of two states by a test one. -/
def mLoc (c : Bool) (g : Env C) (x y : Loc) : Option (Loc × Env C) :=
  match mTr (mSlot C c g.e) g.n x.s y.s with
  | none => none
  | some (s, en, n) => match mTr (mBlk C c g.e) n x.b y.b with
    | none => none
    | some (b, en', n') => match setE (en ++ en') g.e with
      | none => none
      | some e => some (⟨s, b⟩, ⟨e, n'⟩)

/-- What must hold on one way or the other. -/
def mOb (c : Bool) (a b : List Bool) : List Bool := a.map (fun x => bif c then x else true) ++ b.map (fun x => bif c then true else x)

def mOut (c : Bool) (a b : Out) (g : Env C) : Out × Env C :=
  match a, b with
  | .leaf oa x m, .leaf ob y m' => bif Fin.same x y then (match mLoc C c g m m' with
    | some (m2, g2) => (.leaf (mOb c oa ob) x m2, g2)
    | none => (.br c a b, g)) else (.br c a b, g)
  | _, _ => (.br c a b, g)

def andOb (o : List Bool) : Out → Out
  | .leaf ob x m => .leaf (o ++ ob) x m
  | .br c a b => .br c (andOb o a) (andOb o b)
  | .fail => .fail

/-- What comes behind the ends of one kind. -/
def thenO (f : Loc → Env C → Out × Env C) (h : Fin → Option Fin) : Out → Env C → Out × Env C
  | .leaf ob x m, g => match h x with
    | some y => (.leaf ob y m, g)
    | none => match f m g with | (r, g') => (andOb ob r, g')
  | .br c a b, g => match thenO f h a g with
    | (a', g1) => match thenO f h b g1 with
      | (b', g2) => mOut C c a' b' g2
  | .fail, g => (.fail, g)

/-- Which operations must stand behind which, and what each touches: may the region run in any order? -/
def Key.same : Key → Key → Bool
  | .s x, .s y | .e x, .e y | .b x, .b y => Nat.beq x y
  | _, _ => false
def Eff.keys {C : Cfg} (f : Eff C) : List Key := f.s.map (fun p => .s p.1) ++ f.e.map (fun p => .e p.1) ++ f.b.map (fun p => .b p.1)
def meets (a b : List Key) : Bool := a.any fun k => b.any (Key.same k)

structure Mark where
  rd : List Key
  wr : List Key
  anc : List Nat

def clash (x y : Mark) : Bool := meets x.wr y.rd || meets x.wr y.wr || meets x.rd y.wr
/-- The marks of the operations so far, the latest first; i: how many. -/
def freeOf (ms : List Mark) (m : Mark) : Nat → Bool
  | i => go ms i
where
  go : List Mark → Nat → Bool
    | [], _ => true
    | x :: l, i => (!clash x m || m.anc.any (Nat.beq (i - 1))) && go l (i - 1)
def ancOf (ms : List Mark) (i : Nat) (o : Oper) : List Nat :=
  o.after.toList.foldl (fun acc e => bif Region.binds .any e && Nat.blt e.on i then e.on :: ((ms[i - 1 - e.on]?).map (·.anc)).getD [] ++ acc else acc) []
def backOk (i : Nat) (o : Oper) : Bool := o.after.toList.all fun e => !Region.binds .any e || Nat.blt e.on i

/-- A region that may run in any order. -/
def runAny (Γ : Nat → Option (FSum C)) (N : Nat) (ops : Array Oper) : List Oper → Nat → Nat → List Mark → St C → List Bool → Option (St C × List Bool)
  | [], _, _, _, m, ob => some (m, ob)
  | o :: l, n, i, ms, m, ob =>
    let p := operP C Γ ops n o
    match p.run m with
    | none => none
    | some f => match f.on m with
      | none => none
      | some m' =>
        let mk : Mark := ⟨p.reads m, f.keys, ancOf ms i o⟩
        bif dstOk N o && backOk i o && freeOf ms mk i then runAny Γ N ops l (n + stride) (i + 1) (mk :: ms) m' (ob ++ f.ob) else none

/-- What is known of a loop: by its block's number. -/
abbrev Loops := Nat → Option (Loc → Env C → Option (Out × Env C))

/-- A range over a function, behind the region that makes its iterator. -/
def rangeSeq : Code → Code → Option Nat
  | .region _ _ _, .block id (.rangeFunc _ _ _ _) => some id
  | _, _ => none
/-- No operation that defers a call. -/
def isDefer : Op → Bool
  | .defer _ => true
  | _ => false
def noDefer (ops : Array Oper) : Bool := ops.toList.all fun o => !isDefer o.op
def ev (Γ : Nat → Option (FSum C)) (L : Loops C) (N : Nat) : Nat → Code → Loc → Env C → Option (Out × Env C)
  | 0, _, _, _ => none
  | f + 1, c, m, g => match c with
    | .skip => some (.leaf [] .nx m, g)
    | .ret => some (.leaf [] .rt m, g)
    | .exit id => some (.leaf [] (.ex id) m, g)
    | .region _ ops draw => bif !noDefer ops then none else match (bif draw then runAny C Γ N ops ops.toList g.n 0 [] ⟨m.s, g.e, m.b⟩ [] else runOps C Γ N ops ops.toList g.n ⟨m.s, g.e, m.b⟩ []) with
      | none => none
      | some (m', ob) => some (.leaf ob .nx ⟨m'.s, m'.b⟩, ⟨m'.e, g.n + stride * ops.size⟩)
    | .seq a b => match rangeSeq a b with
      | some id => (match L id with
        | some F => F m g
        | none => none)
      | none => match ev Γ L N f a m g with
        | none => none
        | some (o, g1) => some (thenO C (fun m g => (ev Γ L N f b m g).getD (.fail, g)) (fun | .nx => none | x => some x) o g1)
    | .cond c a b => match (match c with
        | .tmp t => (match m.s.get t with | some ⟨[], .c x⟩ => some x | _ => none)
        | .const (.bool v) => some (.k (.b v))
        | _ => none) with
      | some (.k (.b true)) => ev Γ L N f a m g
      | some (.k (.b false)) => ev Γ L N f b m g
      | some (.v id) => match g.e.get id with
        | some (.b v) => match ev Γ L N f a m g with
          | none => none
          | some (x, g1) => match ev Γ L N f b m g1 with
            | none => none
            | some (y, g2) => some (mOut C v x y g2)
        | _ => none
      | _ => none
    | .block id (.loop body) => match L id with
      | some F => F m g
      | none => match ev Γ L N f (.loop body) m g with
        | none => none
        | some (o, g1) => some (thenO C (fun m g => (.leaf [] .nx m, g)) (fun | .ex i => bif Nat.beq i id then none else some (.ex i) | x => some x) o g1)
    | .loop body => match ev Γ L N f body m g with
      | none => none
      | some (o, g1) => some (thenO C (fun m g => (ev Γ L N f (.loop body) m g).getD (.fail, g)) (fun | .nx => none | x => some x) o g1)
    | .block id a => match ev Γ L N f a m g with
      | none => none
      | some (o, g1) => some (thenO C (fun m g => (.leaf [] .nx m, g)) (fun | .ex i => bif Nat.beq i id then none else some (.ex i) | x => some x) o g1)
    | _ => none

/-- The slots of the parameters. -/
def putSlots : Nat → List SV → Tr Slot → Tr Slot
  | _, [], t => t
  | j, x :: xs, t => putSlots (j + 1) xs (t.set (some ⟨[], x⟩) j)

/-- Results as contents: under what must hold; by tests. -/
inductive RT where
  | ret (ob : List Bool) (rs : List (List (Ent C.R)))
  | br (c : Bool) (a b : RT)
  | fail

/-- What a result variable holds. -/
def resVar (m : Loc) : ResultVar → Option SV
  | .tmp t => match m.s.get t with | some ⟨[], v⟩ => some v | _ => none
  | .cell a T => match m.s.get a with
    | some ⟨[], .c (.p nm 0)⟩ => (match m.b.get nm with
      | some (.c _ cs) => bif (C.P.underlying T).isSome && Nat.beq cs.length (sizeT C T) then (bif isAggB C T then some (.g cs) else (match cs with | [c] => some (.c c) | _ => none)) else none
      | _ => none)
    | _ => none
def resVars (m : Loc) : List ResultVar → Option (List SV)
  | [] => some []
  | r :: rs => match resVar C m r, resVars m rs with
    | some x, some xs => some (x :: xs)
    | _, _ => none

def outRT (fn : Func) (S : FSum C) (io : List SV) (g : Env C) : Out → RT C
  | .leaf ob x m => match x with
    | .ex _ => .fail
    | _ => match resVars C m fn.results.toList with
      | none => .fail
      | some rs => bif Nat.beq rs.length S.rs.length then (match (argsOf C (S.rs ++ ioP S.ps) (rs ++ io)).run ⟨m.s, g.e, m.b⟩ with
        | some r => bif nodupN r.2.2 && apartN (roOf (S.rs ++ ioP S.ps) (rs ++ io)) r.2.2 then .ret ob r.1 else .fail
        | none => .fail) else .fail
  | .br c a b => .br c (outRT fn S io g a) (outRT fn S io g b)
  | .fail => .fail

/-- The pointers among the parameters' slots. -/
def isPtr : SV → Bool
  | .c (.p _ _) => true
  | _ => false
/-- A function's body, from contents to contents. -/
def evFn (Γ : Nat → Option (FSum C)) (L : Loops C) (fn : Func) (S : FSum C) (as : List (List (Ent C.R))) : RT C :=
  match fn.body with
  | none => .fail
  | some c => match importP C 0 S.ps as (S.ps.map fun _ => none) with
    | none => .fail
    | some (n, svs, en, bs) => bif nodupN (bs.map (·.1)) && Nat.ble svs.length fn.ntmps then (match setE en .nil with
      | none => .fail
      | some e => match ev C Γ L fn.ntmps 2000 c ⟨putSlots 0 svs .nil, setB bs .nil⟩ ⟨e, n⟩ with
        | none => .fail
        | some (o, g) => outRT C fn S (svs.filter isPtr) g o) else .fail
end Go.Sx

/- The symbolic executor: what its states say of the real ones. -/
namespace Go.Sx
open Go

theorem cbeq {α : Type} (a b : Nat) (x y : α) : (bif Nat.beq a b then x else y) = if a = b then x else y := by
  by_cases h : a = b
  · rw [if_pos h, Nat.beq_eq.mpr h]; rfl
  · rw [if_neg h]
    cases hb : Nat.beq a b with
    | false => rfl
    | true => exact absurd (Nat.beq_eq.mp hb) h

section tr
variable {α : Type}
theorem Tr.get_nil (k : Nat) : (Tr.nil : Tr α).get k = none := rfl
theorem Tr.get_node (v : Option α) (l r : Tr α) (k : Nat) : (Tr.node v l r).get k = if k = 0 then v else if k % 2 = 1 then l.get (k / 2) else r.get (k / 2 - 1) := by
  simp only [Tr.get, cbeq]
theorem Tr.get_setF (x : Option α) : ∀ (f : Nat) (t : Tr α) (k j : Nat), k < f → (Tr.setF x f t k).get j = if j = k then x else t.get j := by
  intro f
  induction f with
  | zero => intro t k j h; omega
  | succ f ih =>
    intro t k j h
    have key : ∀ (v : Option α) (l r : Tr α), (if k = 0 then Tr.node x l r else if k % 2 = 1 then .node v (Tr.setF x f l (k / 2)) r else .node v l (Tr.setF x f r (k / 2 - 1))).get j = if j = k then x else (Tr.node v l r).get j := by
      intro v l r
      by_cases h0 : k = 0
      · subst h0
        rw [if_pos rfl, Tr.get_node, Tr.get_node]
        by_cases hj : j = 0 <;> simp [hj]
      · rw [if_neg h0]
        by_cases h1 : k % 2 = 1
        · rw [if_pos h1, Tr.get_node, Tr.get_node, ih _ _ _ (by omega)]
          by_cases hj : j = 0
          · subst hj; simp [Ne.symm h0]
          · rw [if_neg hj, if_neg hj]
            by_cases hj1 : j % 2 = 1
            · rw [if_pos hj1, if_pos hj1]
              by_cases he : j = k
              · rw [if_pos he, if_pos (by rw [he])]
              · rw [if_neg he, if_neg (by omega)]
            · rw [if_neg hj1, if_neg hj1, if_neg (by rintro rfl; exact hj1 h1)]
        · rw [if_neg h1, Tr.get_node, Tr.get_node, ih _ _ _ (by omega)]
          by_cases hj : j = 0
          · subst hj; simp [Ne.symm h0]
          · rw [if_neg hj, if_neg hj]
            by_cases hj1 : j % 2 = 1
            · rw [if_pos hj1, if_pos hj1, if_neg (by rintro rfl; exact h1 hj1)]
            · rw [if_neg hj1, if_neg hj1]
              by_cases he : j = k
              · rw [if_pos he, if_pos (by rw [he])]
              · rw [if_neg he, if_neg (by omega)]
    cases t with
    | nil =>
      have := key none .nil .nil
      simp only [Tr.setF, cbeq]
      rw [this, Tr.get_node, Tr.get_nil, Tr.get_nil, Tr.get_nil]
      simp
    | node v l r =>
      have := key v l r
      simp only [Tr.setF, cbeq]
      exact this
theorem Tr.get_set (t : Tr α) (x : Option α) (k j : Nat) : (t.set x k).get j = if j = k then x else t.get j := Tr.get_setF x _ t k j (Nat.lt_succ_self k)
end tr

theorem IntKind.same_iff {a b : IntKind} : IntKind.same a b = true ↔ a = b := by cases a <;> cases b <;> simp [IntKind.same]
theorem Kind.same_iff {x y : Kind} : Kind.same x y = true ↔ x = y := by
  cases x <;> cases y <;> simp [Kind.same, IntKind.same_iff]

section prg
variable {C : Cfg} {α β : Type}
theorem Prg.run_bind (m : St C) (p : Prg C α) (f : α → Prg C β) : (p.bind f).run m = (p.run m).bind fun a => (f a).run m := by
  induction p with
  | ret a => rfl
  | fail => rfl
  | getS t g ih => simp only [Prg.bind, Prg.run]; split <;> simp_all
  | getE t g ih => simp only [Prg.bind, Prg.run]; split <;> simp_all
  | getB t g ih => simp only [Prg.bind, Prg.run]; split <;> simp_all
theorem Prg.run_bind_some {m : St C} {p : Prg C α} {f : α → Prg C β} {r : β} (h : (p.bind f).run m = some r) : ∃ a, p.run m = some a ∧ (f a).run m = some r := by
  rw [Prg.run_bind] at h
  cases hp : p.run m with
  | none => rw [hp] at h; cases h
  | some a => rw [hp] at h; exact ⟨a, rfl, h⟩
@[simp]
theorem Prg.run_ret (m : St C) (a : α) : (Prg.ret a : Prg C α).run m = some a := rfl
@[simp]
theorem Prg.run_fail (m : St C) : (Prg.fail : Prg C α).run m = none := rfl
theorem Prg.run_getS_some {m : St C} {t : Nat} {f : Slot → Prg C α} {r : α} (h : (Prg.getS t f).run m = some r) : ∃ s, m.s.get t = some s ∧ (f s).run m = some r := by
  simp only [Prg.run] at h; split at h
  · exact ⟨_, by assumption, h⟩
  · cases h
theorem Prg.run_getE_some {m : St C} {t : Nat} {f : Ent C.R → Prg C α} {r : α} (h : (Prg.getE t f).run m = some r) : ∃ s, m.e.get t = some s ∧ (f s).run m = some r := by
  simp only [Prg.run] at h; split at h
  · exact ⟨_, by assumption, h⟩
  · cases h
theorem Prg.run_getB_some {m : St C} {t : Nat} {f : Blk → Prg C α} {r : α} (h : (Prg.getB t f).run m = some r) : ∃ s, m.b.get t = some s ∧ (f s).run m = some r := by
  simp only [Prg.run] at h; split at h
  · exact ⟨_, by assumption, h⟩
  · cases h
end prg

/-- The laws of the elements' encodings. -/
structure Cfg.Ok (C : Cfg) : Prop where
  encK : ∀ t x, (C.enc t x).map Ent.kind = C.kinds t
  decE : ∀ t x, C.dec t (C.enc t x) = x
  encD : ∀ t es, es.map Ent.kind = C.kinds t → C.enc t (C.dec t es) = es
  noOw : ∀ t t', Kind.ow t' ∉ C.kinds t
  elT : ∀ el t, C.tOf el = some t → C.elT t = el
  info : ∀ el t, C.tOf el = some t → ∃ i z, C.P.info? el = some i ∧ i.zero = some z ∧ i.size = (C.kinds t).length ∧ z.cells.size = i.size ∧ 0 < i.size ∧ i.bytes ≤ 65536
  mixed : C.P.follows .mixedOrders = true
  eql : ∀ T ks, C.eqT T = some ks → ∀ (p q : List Lit), p.map (fun l => (Lit.ent (R := C.R) l).kind) = ks → q.map (fun l => (Lit.ent (R := C.R) l).kind) = ks → ∀ (w : World) (x y : Operand),
    (eqGuard .eql T x y (.agg (p.map Lit.val).toArray) (.agg (q.map Lit.val).toArray)).run C.P w = .ok () w ∧ (eqGuard .neq T x y (.agg (p.map Lit.val).toArray) (.agg (q.map Lit.val).toArray)).run C.P w = .ok () w ∧
    (Op.equal T (.agg (p.map Lit.val).toArray) (.agg (q.map Lit.val).toArray)).run C.P w = .ok (litsEq p q) w

section rel
variable (C : Cfg)

/-- A value that has a content; its memory lies outside the blocks O. -/
inductive Rel (w : World) (O : Nat → Prop) : Ent C.R → Value → Prop
  | b (v : Bool) : Rel w O (.b v) (.bool v)
  | i (k : IntKind) (n : Int) : Rel w O (.i k n) (.int k n)
  | s (v : ByteArray) : Rel w O (.s v) (.string v)
  | nil (t : Nat) (a : Option Addr) (c : Nat) : Rel w O (.ro t []) (.slice a 0 c)
  | ro (t : Nat) (xs : List (C.R t)) (g off c : Nat) (vals : Nat → Nat → Value) (hn : xs ≠ []) (hc : xs.length ≤ c) (hO : ¬ O g) (hg : g < w.heap.size)
      (hcell : ∀ i x, xs[i]? = some x → ∀ j e, (C.enc t x)[j]? = some e → w.cell? ⟨g, off + (i * (C.kinds t).length + j), none⟩ = some (vals i j))
      (hrel : ∀ i x, xs[i]? = some x → ∀ j e, (C.enc t x)[j]? = some e → Rel w O e (vals i j)) : Rel w O (.ro t xs) (.slice (some ⟨g, off, none⟩) xs.length c)

/-- What is outside O stays, and stays outside. -/
def Stays (w : World) (O : Nat → Prop) (w' : World) (O' : Nat → Prop) : Prop := w.heap.size ≤ w'.heap.size ∧ ∀ b, b < w.heap.size → ¬ O b → w'.heap[b]? = w.heap[b]? ∧ ¬ O' b

theorem Rel.mono {w w' : World} {O O' : Nat → Prop} (h : Stays w O w' O') {e : Ent C.R} {v : Value} (r : Rel C w O e v) : Rel C w' O' e v := by
  induction r with
  | b v => exact .b v
  | i k n => exact .i k n
  | s v => exact .s v
  | nil t a c => exact .nil t a c
  | ro t xs g off c vals hn hc hO hg hcell hrel ih =>
    refine .ro t xs g off c vals hn hc (h.2 g hg hO).2 (Nat.lt_of_lt_of_le hg h.1) ?_ ih
    intro i x hi j e he
    rw [World.cell?_of_block (w := w) (h.2 g hg hO).1]
    exact hcell i x hi j e he

variable (U : Nat → Prop) (E : Nat → Option (Ent C.R)) (ρ : Nat → Value) (w : World) (O : Nat → Prop)

def CRel : Cell → Value → Prop
  | .k l, v => v = l.val
  | .v id, v => ∃ e, E id = some e ∧ Rel C w O e v
  | .p nm off, v => U nm ∧ ∃ b, ρ nm = .pointer (some ⟨b, 0, none⟩) ∧ v = .pointer (some ⟨b, off, none⟩)
  | .pn, v => v = .pointer none
  | .o nm, v => U nm ∧ v = ρ nm ∧ ∃ a n c, ρ nm = .slice a n c
  | .z, v => v = .slice none 0 0
  | .f g, v => v = .func (.func g) #[] #[]
  | .u, v => v.oneCell' = true

/-- Cells, one by one. -/
inductive CsRel : List Cell → List Value → Prop
  | nil : CsRel [] []
  | cons {c : Cell} {v : Value} {cs : List Cell} {vs : List Value} : CRel C U E ρ w O c v → CsRel cs vs → CsRel (c :: cs) (v :: vs)

/-- A part of a tuple. -/
def PRel : Bool × List Cell → Value → Prop
  | (true, cs), v => ∃ vs, v = .agg vs.toArray ∧ CsRel C U E ρ w O cs vs
  | (false, [c]), v => CRel C U E ρ w O c v
  | (false, _), _ => False
inductive PsRel : List (Bool × List Cell) → List Value → Prop
  | nil : PsRel [] []
  | cons {c : Bool × List Cell} {v : Value} {cs : List (Bool × List Cell)} {vs : List Value} : PRel C U E ρ w O c v → PsRel cs vs → PsRel (c :: cs) (v :: vs)

/-- The number that a cell holds. -/
def CInt : Cell → Int → Prop
  | .k (.i _ n), i => i = n
  | .v id, i => ∃ k n, E id = some (.i k n) ∧ i = n
  | _, _ => False

def SRel : SV → Value → Prop
  | .c c, v => CRel C U E ρ w O c v
  | .g cs, v => ∃ vs, v = .agg vs.toArray ∧ CsRel C U E ρ w O cs vs
  | .t xs, v => ∃ vs, v = .tuple vs.toArray ∧ PsRel C U E ρ w O xs vs
  | .e l t ix off, v => ∃ i n g o c, CInt C E ix i ∧ 0 ≤ i ∧ i.toNat < n ∧ CRel C U E ρ w O l (.slice (some ⟨g, o, none⟩) n c) ∧
      v = .pointer (some ⟨g, o + (i.toNat * (C.kinds t).length + off), none⟩)

/-- The guards hold. -/
def ExT (ex : Ex) : Prop := ∀ p ∈ ex, E p.1 = some (.b p.2)

def BRel (nm : Nat) : Blk → Prop
  | .c T cs => ∃ b vs, ρ nm = .pointer (some ⟨b, 0, none⟩) ∧ w.heap[b]? = some (.cells vs T (0, 0)) ∧ CsRel C U E ρ w O cs vs.toList
  | .l t id => ∃ xs vals, E id = some (.ro t xs) ∧ (∀ i x, xs[i]? = some x → ∀ j e, (C.enc t x)[j]? = some e → ∃ v, vals[i * (C.kinds t).length + j]? = some v ∧ Rel C w O e v) ∧
      w.ownsRow 0 (C.elT t) (C.kinds t).length (ρ nm) xs.length vals
  | .f t id => ∃ xs, E id = some (.ro t xs) ∧ Rel C w O (.ro t xs) (ρ nm)
end rel

def blkOf : Value → Option Nat
  | .pointer (some a) => some a.block
  | .slice (some a) _ _ => some a.block
  | _ => none

variable {C : Cfg}
def Blk.owned : Blk → Bool
  | .f _ _ => false
  | _ => true
/-- The blocks that the state owns; with the blocks X that are others'. -/
def OwnN (m : St C) (ρ : Nat → Value) (b : Nat) : Prop := ∃ nm B, m.b.get nm = some B ∧ B.owned = true ∧ blkOf (ρ nm) = some b
def Owns (X : Nat → Prop) (m : St C) (ρ : Nat → Value) (b : Nat) : Prop := X b ∨ OwnN m ρ b

/-- The blocks that a call may write; the values of names that it keeps; its deferred calls. -/
structure Frm where
  o : Nat → Prop
  fx : Nat → Value → Prop
  ds : List Deferred

/-- What a state says of a frame and a world; w0: the world at the call; O0: the blocks that the call may write; X: blocks of others, of which nothing may be known here. -/
structure Sim (w0 : World) (O0 : Frm) (X : Nat → Prop) (N : Nat) (U : Nat → Prop) (m : St C) (ρ : Nat → Value) (a : Act) (w : World) : Prop where
  size : a.tmps.size = N
  defers : a.defers = O0.ds
  exdef : ∀ t s, m.s.get t = some s → ∀ p ∈ s.ex, ∃ v, m.e.get p.1 = some (.b v)
  slots : ∀ t s, m.s.get t = some s → ExT C m.e.get s.ex → ∃ v, a.tmps[t]? = some v ∧ SRel C U m.e.get ρ w (Owns X m ρ) s.v v
  skips : ∀ t s, m.s.get t = some s → ¬ ExT C m.e.get s.ex → a.tmps[t]? = some undef
  blocks : ∀ nm B, m.b.get nm = some B → U nm ∧ BRel C U m.e.get ρ w (Owns X m ρ) nm B
  disj : ∀ nm nm' B B' b, m.b.get nm = some B → m.b.get nm' = some B' → B.owned = true → B'.owned = true → blkOf (ρ nm) = some b → blkOf (ρ nm') = some b → nm = nm'
  own : ∀ b, OwnN m ρ b → O0.o b ∨ w0.heap.size ≤ b
  xok : ∀ b, X b → b < w0.heap.size ∧ ¬ O0.o b
  os : w.os = w0.os
  tape : w.tape = w0.tape
  output : w.output = w0.output
  hsize : w0.heap.size ≤ w.heap.size
  fix : ∀ k v, O0.fx k v → U k ∧ ρ k = v
  kept : ∀ b, b < w0.heap.size → ¬ O0.o b → w.heap[b]? = w0.heap[b]?
end Go.Sx

/- The symbolic executor: what is carried from state to state. -/
namespace Go.Sx
open Go
variable {C : Cfg}

/-- From one state's context to a later one's. -/
structure Later (U : Nat → Prop) (E : Nat → Option (Ent C.R)) (ρ : Nat → Value) (w : World) (O : Nat → Prop)
    (U' : Nat → Prop) (E' : Nat → Option (Ent C.R)) (ρ' : Nat → Value) (w' : World) (O' : Nat → Prop) : Prop where
  u : ∀ n, U n → U' n
  e : ∀ id x, E id = some x → E' id = some x
  r : ∀ n, U n → ρ' n = ρ n
  s : w.heap.size ≤ w'.heap.size ∧ ∀ {e : Ent C.R} {v : Value}, Rel C w O e v → Rel C w' O' e v

section later
variable {U : Nat → Prop} {E : Nat → Option (Ent C.R)} {ρ : Nat → Value} {w : World} {O : Nat → Prop}
variable {U' : Nat → Prop} {E' : Nat → Option (Ent C.R)} {ρ' : Nat → Value} {w' : World} {O' : Nat → Prop}

theorem Later.of (u : ∀ n, U n → U' n) (e : ∀ id x, E id = some x → E' id = some x) (r : ∀ n, U n → ρ' n = ρ n) (s : Stays w O w' O') : Later (C := C) U E ρ w O U' E' ρ' w' O' := ⟨u, e, r, s.1, fun h => h.mono C s⟩
theorem Later.refl : Later (C := C) U E ρ w O U E ρ w O := ⟨fun _ h => h, fun _ _ h => h, fun _ _ => rfl, Nat.le_refl _, fun h => h⟩
/-- More entries, more numbers: the rest stays. -/
theorem Later.ents (hU : ∀ n, U n → U' n) (hE : ∀ id x, E id = some x → E' id = some x) : Later (C := C) U E ρ w O U' E' ρ w O := ⟨hU, hE, fun _ _ => rfl, Nat.le_refl _, fun h => h⟩

theorem Later.cell (h : Later U E ρ w O U' E' ρ' w' O') {c : Cell} {v : Value} (r : CRel C U E ρ w O c v) : CRel C U' E' ρ' w' O' c v := by
  cases c with
  | k l => exact r
  | v id => obtain ⟨e, he, hr⟩ := r; exact ⟨e, h.e _ _ he, h.s.2 hr⟩
  | p nm off => obtain ⟨hu, b, hb, hv⟩ := r; exact ⟨h.u _ hu, b, by rw [h.r _ hu]; exact hb, hv⟩
  | pn => exact r
  | o nm => obtain ⟨hu, hv, a, n, c, hs⟩ := r; exact ⟨h.u _ hu, by rw [h.r _ hu]; exact hv, a, n, c, by rw [h.r _ hu]; exact hs⟩
  | z => exact r
  | f g => exact r
  | u => exact r
theorem Later.cells (h : Later U E ρ w O U' E' ρ' w' O') {cs : List Cell} {vs : List Value} (r : CsRel C U E ρ w O cs vs) : CsRel C U' E' ρ' w' O' cs vs := by
  induction r with
  | nil => exact .nil
  | cons hc _ ih => exact .cons (h.cell hc) ih
theorem Later.part (h : Later U E ρ w O U' E' ρ' w' O') {c : Bool × List Cell} {v : Value} (r : PRel C U E ρ w O c v) : PRel C U' E' ρ' w' O' c v := by
  obtain ⟨a, cs⟩ := c
  cases a with
  | true => obtain ⟨vs, hv, hr⟩ := r; exact ⟨vs, hv, h.cells hr⟩
  | false => match cs, r with
    | [c], r => exact h.cell r
theorem Later.parts (h : Later U E ρ w O U' E' ρ' w' O') {cs : List (Bool × List Cell)} {vs : List Value} (r : PsRel C U E ρ w O cs vs) : PsRel C U' E' ρ' w' O' cs vs := by
  induction r with
  | nil => exact .nil
  | cons hc _ ih => exact .cons (h.part hc) ih
theorem Later.int (h : Later U E ρ w O U' E' ρ' w' O') {c : Cell} {i : Int} (r : CInt C E c i) : CInt C E' c i := by
  match c, r with
  | .k (.i _ n), r => exact r
  | .v id, ⟨k, n, he, hi⟩ => exact ⟨k, n, h.e _ _ he, hi⟩
theorem Later.sv (h : Later U E ρ w O U' E' ρ' w' O') {s : SV} {v : Value} (r : SRel C U E ρ w O s v) : SRel C U' E' ρ' w' O' s v := by
  cases s with
  | c c => exact h.cell r
  | g cs => obtain ⟨vs, hv, hr⟩ := r; exact ⟨vs, hv, h.cells hr⟩
  | t xs => obtain ⟨vs, hv, hr⟩ := r; exact ⟨vs, hv, h.parts hr⟩
  | e l t ix off => obtain ⟨i, n, g, o, c, h1, h2, h3, h4, h5⟩ := r; exact ⟨i, n, g, o, c, h.int h1, h2, h3, h.cell h4, h5⟩
theorem ownsRow_of_heap {base : Nat} {e : TypeId} {size : Nat} {v : Value} {n : Nat} {xs : List Value} (hw : ∀ b, blkOf v = some b → w'.heap[b]? = w.heap[b]?)
    (h : w.ownsRow base e size v n xs) : w'.ownsRow base e size v n xs := by
  refine ⟨h.1, ?_⟩
  rcases h.2 with hn | ⟨g, cap, cur, rfl, hb, hgg, rest⟩
  · exact .inl hn
  · exact .inr ⟨g, cap, cur, rfl, hb, by rw [hw g rfl]; exact hgg, rest⟩
theorem Later.blk (h : Later U E ρ w O U' E' ρ' w' O') {nm : Nat} {B : Blk} (hu : U nm) (hw : B.owned = true → ∀ b, blkOf (ρ nm) = some b → w'.heap[b]? = w.heap[b]?)
    (r : BRel C U E ρ w O nm B) : BRel C U' E' ρ' w' O' nm B := by
  cases B with
  | c T cs =>
    obtain ⟨b, vs, hr, hh, hc⟩ := r
    exact ⟨b, vs, by rw [h.r _ hu]; exact hr, by rw [hw rfl b (by rw [hr]; rfl)]; exact hh, h.cells hc⟩
  | l t id =>
    obtain ⟨xs, vals, he, hv, ho⟩ := r
    refine ⟨xs, vals, h.e _ _ he, ?_, by rw [h.r _ hu]; exact ownsRow_of_heap (hw rfl) ho⟩
    intro i x hi j e hj
    obtain ⟨v, h1, h2⟩ := hv i x hi j e hj
    exact ⟨v, h1, h.s.2 h2⟩
  | f t id =>
    obtain ⟨xs, he, hr⟩ := r
    exact ⟨xs, h.e _ _ he, by rw [h.r _ hu]; exact h.s.2 hr⟩
theorem Later.exT (h : Later U E ρ w O U' E' ρ' w' O') {ex : Ex} (hd : ∀ p ∈ ex, ∃ v, E p.1 = some (.b v)) (r : ExT C E' ex) : ExT C E ex := by
  intro p hp
  obtain ⟨v, hv⟩ := hd p hp
  have h1 := h.e _ _ hv
  have h2 := r p hp
  rw [h2] at h1
  simp only [Option.some.injEq, Ent.b.injEq] at h1
  rw [hv, ← h1]
theorem Later.exT' (h : Later U E ρ w O U' E' ρ' w' O') {ex : Ex} (r : ExT C E ex) : ExT C E' ex := fun p hp => h.e _ _ (r p hp)
end later

variable {w0 : World} {O0 : Frm} {X : Nat → Prop} {N : Nat} {U : Nat → Prop} {m : St C} {ρ : Nat → Value} {a : Act} {w : World}

/-- From a state to the next: what changes is told apart. -/
theorem Sim.next (S : Sim w0 O0 X N U m ρ a w) {U' : Nat → Prop} {m' : St C} {ρ' : Nat → Value} {a' : Act} {w' : World}
    (h : Later (C := C) U m.e.get ρ w (Owns X m ρ) U' m'.e.get ρ' w' (Owns X m' ρ')) (ha : a'.tmps.size = N) (hd : a'.defers = O0.ds)
    (hs : ∀ t s, m'.s.get t = some s → (m.s.get t = some s ∧ a'.tmps[t]? = a.tmps[t]?) ∨
      ((∀ p ∈ s.ex, ∃ v, m'.e.get p.1 = some (.b v)) ∧ (ExT C m'.e.get s.ex → ∃ v, a'.tmps[t]? = some v ∧ SRel C U' m'.e.get ρ' w' (Owns X m' ρ') s.v v) ∧ (¬ ExT C m'.e.get s.ex → a'.tmps[t]? = some undef)))
    (hb : ∀ nm B, m'.b.get nm = some B → (m.b.get nm = some B ∧ (B.owned = true → ∀ b, blkOf (ρ nm) = some b → w'.heap[b]? = w.heap[b]?)) ∨ (U' nm ∧ BRel C U' m'.e.get ρ' w' (Owns X m' ρ') nm B))
    (hdis : ∀ nm nm' B B' b, m'.b.get nm = some B → m'.b.get nm' = some B' → B.owned = true → B'.owned = true → blkOf (ρ' nm) = some b → blkOf (ρ' nm') = some b → nm = nm')
    (hown : ∀ b, OwnN m' ρ' b → OwnN m ρ b ∨ w0.heap.size ≤ b)
    (hos : w'.os = w.os) (htape : w'.tape = w.tape) (hout : w'.output = w.output)
    (hkept : ∀ b, b < w.heap.size → ¬ OwnN m ρ b → w'.heap[b]? = w.heap[b]?) : Sim w0 O0 X N U' m' ρ' a' w' where
  size := ha
  defers := hd
  exdef := by
    intro t s ht p hp
    rcases hs t s ht with ⟨h1, _⟩ | ⟨h1, _⟩
    · obtain ⟨v, hv⟩ := S.exdef t s h1 p hp; exact ⟨v, h.e _ _ hv⟩
    · exact h1 p hp
  slots := by
    intro t s ht hex
    rcases hs t s ht with ⟨h1, h2⟩ | ⟨_, h1, _⟩
    · obtain ⟨v, hv, hr⟩ := S.slots t s h1 (h.exT (S.exdef t s h1) hex)
      exact ⟨v, by rw [h2]; exact hv, h.sv hr⟩
    · exact h1 hex
  skips := by
    intro t s ht hex
    rcases hs t s ht with ⟨h1, h2⟩ | ⟨_, _, h1⟩
    · rw [h2]; exact S.skips t s h1 (fun hx => hex (h.exT' hx))
    · exact h1 hex
  blocks := by
    intro nm B hB
    rcases hb nm B hB with ⟨h1, h2⟩ | h1
    · obtain ⟨hu, hr⟩ := S.blocks nm B h1
      exact ⟨h.u _ hu, h.blk hu h2 hr⟩
    · exact h1
  disj := hdis
  own := by
    intro b hb
    rcases hown b hb with h1 | h1
    · exact S.own b h1
    · exact .inr h1
  xok := S.xok
  os := hos.trans S.os
  tape := htape.trans S.tape
  output := hout.trans S.output
  hsize := Nat.le_trans S.hsize h.s.1
  fix := fun k v hk => ⟨h.u _ (S.fix k v hk).1, by rw [h.r _ (S.fix k v hk).1]; exact (S.fix k v hk).2⟩
  kept := by
    intro b hb hO
    rw [hkept b (Nat.lt_of_lt_of_le hb S.hsize)]
    · exact S.kept b hb hO
    · intro ho
      rcases S.own b ho with h1 | h1
      · exact hO h1
      · omega

theorem setE_get {R : Nat → Type} : ∀ (l : List (Nat × Ent R)) (t t' : Tr (Ent R)), setE l t = some t' →
    (∀ id e, t.get id = some e → t'.get id = some e) ∧ (∀ p ∈ l, t'.get p.1 = some p.2) := by
  intro l
  induction l with
  | nil => intro t t' h; simp only [setE, Option.some.injEq] at h; subst h; exact ⟨fun _ _ h => h, fun _ h => by cases h⟩
  | cons p l ih =>
    intro t t' h
    obtain ⟨k, x⟩ := p
    simp only [setE] at h
    split at h
    · cases h
    · rename_i hn
      obtain ⟨h1, h2⟩ := ih _ _ h
      constructor
      · intro id e he
        refine h1 id e ?_
        rw [Tr.get_set, if_neg]
        · exact he
        · rintro rfl; rw [hn] at he; cases he
      · intro p hp
        cases hp with
        | head => exact h1 k x (by rw [Tr.get_set, if_pos rfl])
        | tail _ hp => exact h2 p hp

theorem tmps_put (a : Act) (d : Option Tmp) (v : Value) : (a.put d v).tmps.size = a.tmps.size := by
  cases d <;> simp [Act.put]
theorem defers_put (a : Act) (d : Option Tmp) (v : Value) : (a.put d v).defers = a.defers := by
  cases d <;> simp [Act.put]
theorem get_put_ne (a : Act) (d : Option Tmp) (v : Value) (t : Nat) (h : d ≠ some t) : (a.put d v).tmps[t]? = a.tmps[t]? := by
  cases d with
  | none => rfl
  | some d =>
    simp only [Act.put, Array.getElem?_setIfInBounds]
    rw [if_neg]
    rintro rfl; exact h rfl
theorem get_put_eq (a : Act) (t : Nat) (v : Value) (h : t < a.tmps.size) : (a.put (some t) v).tmps[t]? = some v := by
  simp [Act.put, h]

theorem setS_dst (o : Oper) (s : Option Slot) (tr : Tr Slot) (t : Nat) : (setS (dstS o s) tr).get t = if o.dst = some t then s else tr.get t := by
  unfold dstS
  cases h : o.dst with
  | none => simp [setS]
  | some d =>
    simp only [setS, Tr.get_set, Option.some.injEq]
    by_cases ht : t = d
    · subst ht; simp
    · rw [if_neg ht, if_neg (Ne.symm ht)]

/-- An operation that writes its slot alone. -/
theorem Sim.put (S : Sim w0 O0 X N U m ρ a w) {U' : Nat → Prop} (hU : ∀ n, U n → U' n) {o : Oper} {ex : Ex} {s : SV} {es : List (Nat × Ent C.R)} {e' : Tr (Ent C.R)} {v : Value}
    (hd : dstOk N o = true) (he : setE es m.e = some e') (hex : ∀ p ∈ ex, ∃ v, m.e.get p.1 = some (.b v))
    (hv : ExT C m.e.get ex → SRel C U' e'.get ρ w (Owns X m ρ) s v) (hu : ExT C m.e.get ex ∨ v = undef) :
    Sim w0 O0 X N U' ⟨setS (dstS o (some ⟨ex, s⟩)) m.s, e', m.b⟩ ρ (a.put o.dst v) w := by
  have hE := (setE_get _ _ _ he).1
  have hl : Later (C := C) U m.e.get ρ w (Owns X m ρ) U' e'.get ρ w (Owns X m ρ) := Later.ents hU hE
  refine S.next (m' := ⟨setS (dstS o (some ⟨ex, s⟩)) m.s, e', m.b⟩) hl (by rw [tmps_put]; exact S.size) (by rw [defers_put]; exact S.defers) ?_ ?_ S.disj (fun b h => .inl h) rfl rfl rfl (fun _ _ _ => rfl)
  · intro t s' ht
    simp only [setS_dst] at ht
    by_cases hdt : o.dst = some t
    · rw [if_pos hdt] at ht
      simp only [Option.some.injEq] at ht
      subst ht
      have hlt : t < a.tmps.size := by rw [S.size]; simp only [dstOk, hdt] at hd; exact Nat.blt_eq.mp hd
      refine .inr ⟨fun p hp => ?_, fun hx => ⟨v, ?_, hv (hl.exT hex hx)⟩, fun hx => ?_⟩
      · obtain ⟨b, hb⟩ := hex p hp; exact ⟨b, hE _ _ hb⟩
      · rw [hdt]; exact get_put_eq a t v hlt
      · rcases hu with h1 | h1
        · exact absurd (hl.exT' h1) hx
        · rw [hdt, get_put_eq a t v hlt, h1]
    · rw [if_neg hdt] at ht
      exact .inl ⟨ht, get_put_ne a _ v t hdt⟩
  · intro nm B hB
    exact .inl ⟨hB, fun _ _ _ => rfl⟩

/-- An operation that is passed over. -/
theorem Sim.skip (S : Sim w0 O0 X N U m ρ a w) {U' : Nat → Prop} (hU : ∀ n, U n → U' n) {o : Oper} {v : Value} :
    Sim w0 O0 X N U' ⟨setS (dstS o none) m.s, m.e, m.b⟩ ρ (a.put o.dst v) w := by
  have hl : Later (C := C) U m.e.get ρ w (Owns X m ρ) U' m.e.get ρ w (Owns X m ρ) := Later.ents hU (fun _ _ h => h)
  refine S.next (m' := ⟨setS (dstS o none) m.s, m.e, m.b⟩) hl (by rw [tmps_put]; exact S.size) (by rw [defers_put]; exact S.defers) ?_ ?_ S.disj (fun b h => .inl h) rfl rfl rfl (fun _ _ _ => rfl)
  · intro t s' ht
    simp only [setS_dst] at ht
    by_cases hdt : o.dst = some t
    · rw [if_pos hdt] at ht; cases ht
    · rw [if_neg hdt] at ht
      exact .inl ⟨ht, get_put_ne a _ v t hdt⟩
  · intro nm B hB
    exact .inl ⟨hB, fun _ _ _ => rfl⟩
end Go.Sx

/- The symbolic executor: operations that compute alone do what they say. -/
namespace Go.Sx
open Go
variable {C : Cfg}
section
variable {U : Nat → Prop} {E : Nat → Option (Ent C.R)} {ρ : Nat → Value} {w : World} {O : Nat → Prop}

theorem exHas_mem {ex : Ex} {p : Nat × Bool} (h : exHas ex p = true) : p ∈ ex := by
  simp only [exHas, List.any_eq_true, Bool.and_eq_true] at h
  obtain ⟨q, hq, h1, h2⟩ := h
  have e1 := Nat.beq_eq.mp h1
  have e2 : q.2 = p.2 := by cases h3 : p.2 <;> simp_all
  have : q = p := Prod.ext e1 e2
  rw [← this]; exact hq
theorem exSub_exT {s ex : Ex} (h : exSub s ex = true) (hx : ExT C E ex) : ExT C E s := by
  intro p hp
  simp only [exSub, List.all_eq_true] at h
  exact hx p (exHas_mem (h p hp))

theorem valCell_rel {v : Value} {c : Cell} (h : valCell v = some c) : CRel C U E ρ w O c v := by
  unfold valCell at h
  split at h <;> first | (simp only [Option.some.injEq] at h; subst h; rfl) | cases h
theorem valCells_rel : ∀ {vs : List Value} {cs : List Cell}, valCells vs = some cs → CsRel C U E ρ w O cs vs := by
  intro vs
  induction vs with
  | nil => intro cs h; simp only [valCells, Option.some.injEq] at h; subst h; exact .nil
  | cons v vs ih =>
    intro cs h
    simp only [valCells] at h
    split at h
    · cases h
    · split at h
      · cases h
      · simp only [Option.some.injEq] at h
        subst h
        exact .cons (valCell_rel (by assumption)) (ih (by assumption))
theorem constSV_rel {v : Value} {s : SV} (h : constSV v = some s) : SRel C U E ρ w O s v := by
  unfold constSV at h
  split at h
  · rename_i cs
    cases hc : valCells cs.toList with
    | none => simp [hc] at h
    | some l => simp only [hc, Option.map_some, Option.some.injEq] at h; subst h; exact ⟨cs.toList, by simp, valCells_rel hc⟩
  · cases hc : valCell v with
    | none => simp [hc] at h
    | some c => simp only [hc, Option.map_some, Option.some.injEq] at h; subst h; exact valCell_rel hc

theorem Lit.rel (l : Lit) : Rel C w O (l.ent) l.val := by cases l <;> constructor
theorem Rel.inv_b {b : Bool} {v : Value} (r : Rel C w O (.b b) v) : v = .bool b := by cases r; rfl
theorem Rel.inv_i {k : IntKind} {n : Int} {v : Value} (r : Rel C w O (.i k n) v) : v = .int k n := by cases r; rfl
theorem Rel.inv_s {s : ByteArray} {v : Value} (r : Rel C w O (.s s) v) : v = .string s := by cases r; rfl
theorem Rel.lit {e : Ent C.R} {v : Value} (r : Rel C w O e v) {l : Lit} (h : e.lit? = some l) : v = l.val := by
  cases r <;> simp only [Ent.lit?, Option.some.injEq] at h <;> first | (subst h; rfl) | cases h
theorem lit_ent {e : Ent C.R} {l : Lit} (h : e.lit? = some l) : e = l.ent := by
  cases e <;> simp only [Ent.lit?, Option.some.injEq] at h <;> first | (subst h; rfl) | cases h
theorem sameCell_eq {c d : Cell} (h : sameCell c d = true) : c = d := by
  unfold sameCell at h
  split at h
  · rw [Nat.beq_eq.mp h]
  · rename_i p q; cases p <;> cases q <;> simp_all
  · simp only [Bool.and_eq_true, decide_eq_true_eq, IntKind.same_iff] at h; rw [h.1, h.2]
  · simp only [Bool.and_eq_true, Nat.beq_eq] at h; rw [h.1, h.2]
  · rfl
  · rfl
  · rw [Nat.beq_eq.mp h]
  · rw [Nat.beq_eq.mp h]
  · cases h
end

variable {O : Nat → Prop} {w0 : World} {O0 : Frm} {X : Nat → Prop} {N : Nat} {U : Nat → Prop} {m : St C} {ρ : Nat → Value} {a : Act} {w : World}

theorem opd_sound (S : Sim w0 O0 X N U m ρ a w) {ex : Ex} (hx : ExT C m.e.get ex) {x : Operand} {s : SV} (h : (opd C ex x).run m = some s) :
    SRel C U m.e.get ρ w (Owns X m ρ) s (a.eval x) := by
  cases x with
  | tmp t =>
    obtain ⟨sl, h1, h2⟩ := Prg.run_getS_some h
    cases hb : exSub sl.ex ex with
    | false => rw [hb] at h2; simp at h2
    | true =>
      rw [hb] at h2
      simp only [cond, Prg.run_ret, Option.some.injEq] at h2
      subst h2
      obtain ⟨v, hv, hr⟩ := S.slots t sl h1 (exSub_exT hb hx)
      have : a.eval (.tmp t) = v := by simp [Act.eval, Array.getD_eq_getD_getElem?, hv]
      rw [this]; exact hr
  | const v =>
    simp only [opd] at h
    split at h
    · simp only [Prg.run_ret, Option.some.injEq] at h; subst h; exact constSV_rel (by assumption)
    · simp at h
  | func f => simp only [opd, Prg.run_ret, Option.some.injEq] at h; subst h; rfl
  | global g => simp [opd] at h

theorem entOf_sound {c : Cell} {e : Ent C.R} (h : (entOf C c).run m = some e) {v : Value} (r : CRel C U m.e.get ρ w O c v) : Rel C w O e v := by
  cases c <;> simp only [entOf, Prg.run_fail] at h <;> try cases h
  · rename_i l; exact (show v = l.val from r) ▸ Lit.rel l
  · obtain ⟨e', h1, h2⟩ := Prg.run_getE_some h
    simp only [Prg.run_ret, Option.some.injEq] at h2
    subst h2
    obtain ⟨e2, h3, h4⟩ := r
    rw [h1] at h3
    simp only [Option.some.injEq] at h3
    exact h3 ▸ h4
theorem entAs_sound (S : Sim w0 O0 X N U m ρ a w) {k : Kind} {c : Cell} {e : Ent C.R} (h : (entAs C false k c).run m = some e) {v : Value} (r : CRel C U m.e.get ρ w (Owns X m ρ) c v) : Rel C w (Owns X m ρ) e v ∧ e.kind = k := by
  cases c with
  | k l =>
    simp only [entAs] at h
    cases hk : Kind.same (Lit.ent (R := C.R) l).kind k with
    | false => rw [hk] at h; simp at h
    | true =>
      rw [hk] at h
      simp only [cond, Prg.run_ret, Option.some.injEq] at h
      subst h
      exact ⟨(show v = l.val from r) ▸ Lit.rel l, Kind.same_iff.mp hk⟩
  | v id =>
    simp only [entAs] at h
    obtain ⟨e', h1, h2⟩ := Prg.run_getE_some h
    cases hk : Kind.same e'.kind k with
    | false => rw [hk] at h2; simp at h2
    | true =>
      rw [hk] at h2
      simp only [cond, Prg.run_ret, Option.some.injEq] at h2
      subst h2
      obtain ⟨e2, h3, h4⟩ := r
      rw [h1] at h3
      simp only [Option.some.injEq] at h3
      exact ⟨h3 ▸ h4, Kind.same_iff.mp hk⟩
  | z =>
    simp only [entAs] at h
    split at h
    · simp only [Prg.run_ret, Option.some.injEq] at h
      subst h
      exact ⟨(show v = .slice none 0 0 from r) ▸ .nil _ none 0, rfl⟩
    · simp at h
  | o nm =>
    simp only [entAs] at h
    split at h
    · rename_i t
      obtain ⟨B, h1, h2⟩ := Prg.run_getB_some h
      cases B with
      | c _ _ => simp at h2
      | l _ _ => simp at h2
      | f t' id =>
        simp only at h2
        cases hb : Nat.beq t t' with
        | false => rw [hb] at h2; simp at h2
        | true =>
          rw [hb] at h2
          simp only [cond] at h2
          obtain ⟨e', h3, h4⟩ := Prg.run_getE_some h2
          cases hk : Kind.same e'.kind (.ro t) with
          | false => rw [hk] at h4; simp at h4
          | true =>
            rw [hk] at h4
            simp only [cond, Prg.run_ret, Option.some.injEq] at h4
            subst h4
            obtain ⟨_, xs, q1, q2⟩ := S.blocks nm _ h1
            rw [h3] at q1
            simp only [Option.some.injEq] at q1
            obtain ⟨_, hv, _⟩ := r
            rw [hv, q1]
            exact ⟨q2, by rw [← q1]; exact Kind.same_iff.mp hk⟩
    · simp at h
  | p _ _ => simp [entAs] at h
  | pn => simp [entAs] at h
  | f _ => simp [entAs] at h
  | u => simp [entAs] at h

theorem entsAs_sound (S : Sim w0 O0 X N U m ρ a w) : ∀ {ks : List Kind} {cs : List Cell} {es : List (Ent C.R)}, (entsAs C false ks cs).run m = some es → ∀ {vs : List Value}, CsRel C U m.e.get ρ w (Owns X m ρ) cs vs →
    es.map Ent.kind = ks ∧ es.length = vs.length ∧ ∀ (j : Nat) (e : Ent C.R), es[j]? = some e → ∃ v, vs[j]? = some v ∧ Rel C w (Owns X m ρ) e v := by
  intro ks
  induction ks with
  | nil =>
    intro cs es h vs r
    cases cs with
    | nil => simp only [entsAs, Prg.run_ret, Option.some.injEq] at h; subst h; cases r; simp
    | cons c cs => simp [entsAs] at h
  | cons k ks ih =>
    intro cs es h vs r
    cases cs with
    | nil => simp [entsAs] at h
    | cons c cs =>
      simp only [entsAs] at h
      obtain ⟨e, h1, h2⟩ := Prg.run_bind_some h
      obtain ⟨es', h3, h4⟩ := Prg.run_bind_some h2
      simp only [Prg.run_ret, Option.some.injEq] at h4
      subst h4
      cases r with
      | cons r1 r2 =>
        obtain ⟨h5, h6⟩ := entAs_sound S h1 r1
        obtain ⟨h7, h8, h9⟩ := ih h3 r2
        refine ⟨by simp [h6, h7], by simp [h8], ?_⟩
        intro j e' hj
        cases j with
        | zero => simp only [List.getElem?_cons_zero, Option.some.injEq] at hj; subst hj; exact ⟨_, rfl, h5⟩
        | succ j => simp only [List.getElem?_cons_succ] at hj ⊢; exact h9 j e' hj

theorem intOf_sound {c : Cell} {r : IntKind × Int} (h : (intOf C c).run m = some r) {v : Value} (hr : CRel C U m.e.get ρ w O c v) : v = .int r.1 r.2 ∧ CInt C m.e.get c r.2 := by
  obtain ⟨e, h1, h2⟩ := Prg.run_bind_some h
  have h3 := entOf_sound h1 hr
  cases e <;> simp only [Prg.run_ret, Prg.run_fail, Option.some.injEq] at h2 <;> try cases h2
  refine ⟨by cases h3; rfl, ?_⟩
  cases c <;> simp only [entOf, Prg.run_fail] at h1 <;> try cases h1
  · rename_i l
    cases l <;> simp only [Lit.ent, Prg.run_ret, Option.some.injEq] at h1 <;> cases h1
    rfl
  · obtain ⟨e', h4, h5⟩ := Prg.run_getE_some h1
    simp only [Prg.run_ret, Option.some.injEq] at h5
    subst h5
    exact ⟨_, _, h4, rfl⟩

theorem intOf_int {c : Cell} {r : IntKind × Int} (h : (intOf C c).run m = some r) {i : Int} (hi : CInt C m.e.get c i) : i = r.2 := by
  obtain ⟨e, h1, h2⟩ := Prg.run_bind_some h
  match c, hi with
  | .k (.i k n), hi =>
    simp only [entOf, Prg.run_ret, Option.some.injEq] at h1
    subst h1
    simp only [Lit.ent, Prg.run_ret, Option.some.injEq] at h2
    subst h2; exact hi
  | .v id, ⟨k, n, he, hi⟩ =>
    obtain ⟨e', h4, h5⟩ := Prg.run_getE_some h1
    simp only [Prg.run_ret, Option.some.injEq] at h5
    subst h5
    rw [he] at h4
    simp only [Option.some.injEq] at h4
    subst h4
    simp only [Prg.run_ret, Option.some.injEq] at h2
    subst h2; exact hi

/-- What an operation that computes alone does. -/
def Comp (o : Oper) (ex : Ex) (f : Eff C) (m : St C) (U : Nat → Prop) (X : Nat → Prop) (ρ : Nat → Value) (a : Act) (w : World) : Prop :=
  ∃ s v, f.s = dstS o (some ⟨ex, s⟩) ∧ f.b = [] ∧ (execOp a.eval o).run C.P w = .ok (.value v) w ∧
    ∀ e', setE f.e m.e = some e' → SRel C U e'.get ρ w (Owns X m ρ) s v

theorem comp_s {o : Oper} {ex : Ex} {s : SV} {v : Value} (hrun : (execOp a.eval o).run C.P w = .ok (.value v) w) (hs : SRel C U m.e.get ρ w (Owns X m ρ) s v) :
    Comp o ex (effS C o ex s) m U X ρ a w := by
  refine ⟨s, v, rfl, rfl, hrun, ?_⟩
  intro e' he
  simp only [effS, setE, Option.some.injEq] at he
  subst he; exact hs
theorem comp_e {o : Oper} {ex : Ex} {n : Nat} {e : Ent C.R} {ob : List Bool} {v : Value} (hrun : (execOp a.eval o).run C.P w = .ok (.value v) w) (hs : Rel C w (Owns X m ρ) e v) :
    Comp o ex (effE C o ex n e ob) m U X ρ a w := by
  refine ⟨.c (.v n), v, rfl, rfl, hrun, ?_⟩
  intro e' he
  exact ⟨e, (setE_get _ _ _ he).2 (n, e) (by simp [effE]), hs⟩

/-- Obligations under guards. -/
theorem exB_sound {ex : Ex} (hx : ExT C m.e.get ex) {r : Bool} (h : (exB C ex).run m = some r) : r = true := by
  induction ex generalizing r with
  | nil => simp only [exB, Prg.run_ret, Option.some.injEq] at h; exact h.symm
  | cons p ex ih =>
    obtain ⟨id, b⟩ := p
    simp only [exB] at h
    obtain ⟨e, h1, h2⟩ := Prg.run_getE_some h
    have h3 := hx (id, b) (by simp)
    rw [h1] at h3
    simp only [Option.some.injEq] at h3
    subst h3
    obtain ⟨r', h4, h5⟩ := Prg.run_bind_some h2
    simp only [Prg.run_ret, Option.some.injEq] at h5
    rw [← h5, ih (fun q hq => hx q (by simp [hq])) h4]
    cases b <;> rfl
theorem ob1_sound {ex : Ex} (hx : ExT C m.e.get ex) {o r : List Bool} (h : (ob1 C ex o).run m = some r) (hr : ∀ x ∈ r, x = true) : ∀ x ∈ o, x = true := by
  unfold ob1 at h
  split at h
  · simp only [Prg.run_ret, Option.some.injEq] at h; subst h; exact hr
  · intro x hx; cases hx
  · obtain ⟨g, h1, h2⟩ := Prg.run_bind_some h
    simp only [Prg.run_ret, Option.some.injEq] at h2
    subst h2
    have hg := exB_sound hx h1
    subst hg
    intro x hx
    exact hr x (by simpa using hx)

theorem intOp_run {op : BinOp} {k : IntKind} {x y : Int} {T : TypeId} {r : Lit} {ob : List Bool} (h : intOp op k x y = some (r, ob)) (ho : ∀ b ∈ ob, b = true) (X Y : Operand) :
    (do eqGuard op T X Y (.int k x) (.int k y); binOp op T (.int k x) (.int k y)).run C.P w = .ok r.val w := by
  cases op <;> simp only [intOp, Option.some.injEq, Prod.mk.injEq] at h <;> first | (obtain ⟨rfl, rfl⟩ := h) | (cases h)
  all_goals first
    | (simp [eqGuard, binOp, Op.intArith, Lit.val]; done)
    | (simp [eqGuard, binOp, Op.intBits, Lit.val, bitsInt]; done)
    | (simp [eqGuard, binOp, Op.intCmp, Lit.val]; done)
    | (have := ho _ (List.mem_singleton.mpr rfl); simp at this; simp [eqGuard, binOp, Op.intDiv, Lit.val, this]; done)
theorem shiftOp_run {op : BinOp} {k k' : IntKind} {x y : Int} {T : TypeId} {r : Lit} {ob : List Bool} (h : shiftOp op k x y = some (r, ob)) (ho : ∀ b ∈ ob, b = true) (X Y : Operand) :
    (do eqGuard op T X Y (.int k x) (.int k' y); binOp op T (.int k x) (.int k' y)).run C.P w = .ok r.val w := by
  cases op <;> simp only [shiftOp, Option.some.injEq, Prod.mk.injEq] at h <;> first | (obtain ⟨rfl, rfl⟩ := h) | (cases h)
  all_goals
    have := ho _ (List.mem_singleton.mpr rfl)
    simp only [decide_eq_true_eq] at this
    have h2 : ¬ y < 0 := by omega
    simp [eqGuard, binOp, Op.shift, Lit.val, h2]
theorem litOp_run {op : BinOp} {T : TypeId} {p q r : Lit} {ob : List Bool} (h : litOp C op T p q = some (r, ob)) (ho : ∀ b ∈ ob, b = true) (X Y : Operand) :
    (do eqGuard op T X Y p.val q.val; binOp op T p.val q.val).run C.P w = .ok r.val w := by
  cases p <;> cases q <;> simp only [litOp] at h <;> try cases h
  · rename_i x y
    cases hb : isBoolT C T with
    | false => rw [hb] at h; cases h
    | true =>
      rw [hb] at h
      have hu : C.P.underlying T = some .bool := by
        unfold isBoolT at hb; split at hb
        · assumption
        · cases hb
      cases op <;> simp only [cond, Option.some.injEq, Prod.mk.injEq] at h <;> first | (obtain ⟨rfl, rfl⟩ := h) | (cases h)
      · simp [eqGuard, Lit.val, run_eql_bool w T x y hu]
      · simp [eqGuard, Lit.val, run_neq_bool w T x y hu]
  · rename_i k x k' y
    split at h
    · exact shiftOp_run h ho X Y
    · exact shiftOp_run h ho X Y
    · cases hk : IntKind.same k k' with
      | false => rw [hk] at h; cases h
      | true =>
        rw [hk] at h
        obtain rfl := IntKind.same_iff.mp hk
        exact intOp_run h ho X Y
end Go.Sx

/- The symbolic executor: the operations that compute alone, one by one. -/
namespace Go.Sx
open Go
variable {C : Cfg} {O : Nat → Prop} {w0 : World} {O0 : Frm} {X : Nat → Prop} {N : Nat} {U : Nat → Prop} {m : St C} {ρ : Nat → Value} {a : Act} {w : World}
variable {o : Oper} {ex : Ex} {f : Eff C} {n : Nat}

theorem info_of_underlying {P : Program} {T : TypeId} {d : TypeDesc} (h : P.underlying T = some d) : ∃ i, P.info? T = some i := by
  unfold Program.underlying at h
  cases hi : P.info? T with
  | none => simp [hi] at h
  | some i => exact ⟨i, rfl⟩
theorem sizeT_of {T : TypeId} {i : TypeInfo} (h : C.P.info? T = some i) : sizeT C T = i.size := by simp [sizeT, h]
theorem exT_cons {E : Nat → Option (Ent C.R)} {id : Nat} {v : Bool} (h : E id = some (.b v)) (hx : ExT C E ex) : ExT C E ((id, v) :: ex) := by
  intro p hp
  cases hp with
  | head => exact h
  | tail _ hp => exact hx p hp
theorem boolCell {E : Nat → Option (Ent C.R)} {id : Nat} {v : Bool} {x : Value} (h : E id = some (.b v)) (r : CRel C U E ρ w O (.v id) x) : x = .bool v := by
  obtain ⟨e, h1, h2⟩ := r
  rw [h] at h1
  simp only [Option.some.injEq] at h1
  subst h1
  cases h2; rfl

theorem move_comp (S : Sim w0 O0 X N U m ρ a w) (hx : ExT C m.e.get ex) {x : Operand} (ho : o.op = .move x ∨ o.op = .assign x)
    (h : ((opd C ex x).bind fun v => .ret (effS C o ex v)).run m = some f) : Comp o ex f m U X ρ a w := by
  obtain ⟨v, h1, h2⟩ := Prg.run_bind_some h
  simp only [Prg.run_ret, Option.some.injEq] at h2
  subst h2
  refine comp_s (v := a.eval x) ?_ (opd_sound S hx h1)
  rcases ho with ho | ho <;> simp [execOp, ho]

theorem iteEnt_rel {c : Bool} {p q e : Ent C.R} (h : iteEnt c p q = some e) : (c = true → e = p) ∧ (c = false → e = q) := by
  unfold iteEnt at h
  split at h
  · simp only [Option.some.injEq] at h; subst h; constructor <;> (intro hc; subst hc; rfl)
  · rename_i k x k' y
    cases hk : IntKind.same k k' with
    | false => rw [hk] at h; cases h
    | true =>
      rw [hk] at h
      obtain rfl := IntKind.same_iff.mp hk
      simp only [cond, Option.some.injEq] at h
      subst h; constructor <;> (intro hc; subst hc; rfl)
  · rename_i t x t' y
    split at h
    · rename_i ht
      subst ht
      simp only [Option.some.injEq] at h
      subst h; constructor <;> (intro hc; subst hc; rfl)
    · cases h
  · cases h

theorem pick_comp (S : Sim w0 O0 X N U m ρ a w) (hx : ExT C m.e.get ex) {x y z' : Operand} (ho : o.op = .pick x y z')
    (h : (pickP C o ex n x y z').run m = some f) : Comp o ex f m U X ρ a w := by
  obtain ⟨v, h1, h2⟩ := Prg.run_bind_some h
  have hv := opd_sound S hx h1
  split at h2
  · have hb : a.eval x = .bool true := hv
    obtain ⟨u, h3, h4⟩ := Prg.run_bind_some h2
    simp only [Prg.run_ret, Option.some.injEq] at h4
    subst h4
    exact comp_s (v := a.eval y) (by simp [execOp, ho, hb, asBool]) (opd_sound S hx h3)
  · have hb : a.eval x = .bool false := hv
    obtain ⟨u, h3, h4⟩ := Prg.run_bind_some h2
    simp only [Prg.run_ret, Option.some.injEq] at h4
    subst h4
    exact comp_s (v := a.eval z') (by simp [execOp, ho, hb, asBool]) (opd_sound S hx h3)
  · obtain ⟨e, h3, h4⟩ := Prg.run_getE_some h2
    cases e <;> simp only [Prg.run_fail] at h4 <;> try cases h4
    rename_i id c
    have hb := boolCell (U := U) (ρ := ρ) h3 hv
    obtain ⟨p, h5, h6⟩ := Prg.run_bind_some h4
    obtain ⟨q, h7, h8⟩ := Prg.run_bind_some h6
    have hp : c = true → SRel C U m.e.get ρ w (Owns X m ρ) p (a.eval y) := fun hc => opd_sound S (exT_cons (by rw [h3, hc]) hx) h5
    have hq : c = false → SRel C U m.e.get ρ w (Owns X m ρ) q (a.eval z') := fun hc => opd_sound S (exT_cons (by rw [h3, hc]) hx) h7
    split at h8
    · rename_i c1 c2
      cases hs : sameCell c1 c2 with
      | true =>
        rw [hs] at h8
        simp only [cond, Prg.run_ret, Option.some.injEq] at h8
        subst h8
        obtain rfl := sameCell_eq hs
        cases c with
        | true => exact comp_s (v := a.eval y) (by simp [execOp, ho, hb, asBool]) (hp rfl)
        | false => exact comp_s (v := a.eval z') (by simp [execOp, ho, hb, asBool]) (hq rfl)
      | false =>
        rw [hs] at h8
        simp only [cond] at h8
        obtain ⟨e1, h9, h10⟩ := Prg.run_bind_some h8
        obtain ⟨e2, h11, h12⟩ := Prg.run_bind_some h10
        split at h12
        · rename_i e he
          simp only [Prg.run_ret, Option.some.injEq] at h12
          subst h12
          cases c with
          | true => exact comp_e (v := a.eval y) (by simp [execOp, ho, hb, asBool]) ((iteEnt_rel he).1 rfl ▸ entOf_sound h9 (hp rfl))
          | false => exact comp_e (v := a.eval z') (by simp [execOp, ho, hb, asBool]) ((iteEnt_rel he).2 rfl ▸ entOf_sound h11 (hq rfl))
        · simp at h12
    · simp at h8
  · simp at h2

theorem nilCheck_comp (S : Sim w0 O0 X N U m ρ a w) (hx : ExT C m.e.get ex) {Γ : Nat → Option (FSum C)} {x : Operand} (ho : o.op = .nilCheck x) (h : (opP C Γ n o ex).run m = some f) : Comp o ex f m U X ρ a w := by
  simp only [opP, ho] at h
  obtain ⟨v, h1, h2⟩ := Prg.run_bind_some h
  have hv := opd_sound S hx h1
  split at h2
  · simp only [Prg.run_ret, Option.some.injEq] at h2
    subst h2
    obtain ⟨_, b, _, he⟩ := id hv
    refine comp_s (v := a.eval x) ?_ hv
    rw [he]; simp [execOp, ho, he]
  · simp only [Prg.run_ret, Option.some.injEq] at h2
    subst h2
    obtain ⟨i, n', g, o', c', _, _, _, _, he⟩ := id hv
    refine comp_s (v := a.eval x) ?_ hv
    rw [he]; simp [execOp, ho, he]
  · simp only [Prg.run_ret, Option.some.injEq] at h2
    subst h2
    have he : a.eval x = _ := hv
    refine comp_s (v := a.eval x) ?_ hv
    rw [he]; simp [execOp, ho, he]
  · simp at h2

theorem lits_vals : ∀ {es : List (Ent C.R)} {ls : List Lit} {vs : List Value}, entLits es = some ls → es.length = vs.length → (∀ (j : Nat) (e : Ent C.R), es[j]? = some e → ∃ v, vs[j]? = some v ∧ Rel C w O e v) →
    vs = ls.map Lit.val ∧ ls.map (fun l => (Lit.ent (R := C.R) l).kind) = es.map Ent.kind := by
  intro es
  induction es with
  | nil =>
    intro ls vs h hl _
    simp only [entLits, Option.some.injEq] at h
    subst h
    cases vs with
    | nil => simp
    | cons v vs => simp at hl
  | cons e es ih =>
    intro ls vs h hl hr
    simp only [entLits] at h
    split at h
    · rename_i l ls' h1 h2
      simp only [Option.some.injEq] at h
      subst h
      cases vs with
      | nil => simp at hl
      | cons v vs =>
        obtain ⟨h3, h4⟩ := ih (vs := vs) h2 (by simpa using hl) (fun j e hj => hr (j + 1) e hj)
        obtain ⟨v', hv', hrel⟩ := hr 0 e rfl
        simp only [List.getElem?_cons_zero, Option.some.injEq] at hv'
        subst hv'
        have := hrel.lit h1
        refine ⟨by simp [this, h3], by simp [h4, lit_ent h1]⟩
    · cases h

theorem bin_comp (K : C.Ok) (S : Sim w0 O0 X N U m ρ a w) (hx : ExT C m.e.get ex) {op : BinOp} {T T' : TypeId} {x y : Operand} (ho : o.op = .binOp op T x y T')
    (h : ((opd C ex x).bind fun v => (opd C ex y).bind fun u => binP C o ex n op T v u).run m = some f) (hob : ∀ b ∈ f.ob, b = true) : Comp o ex f m U X ρ a w := by
  obtain ⟨v, h1, h2⟩ := Prg.run_bind_some h
  obtain ⟨u, h3, h4⟩ := Prg.run_bind_some h2
  have hv := opd_sound S hx h1
  have hu := opd_sound S hx h3
  have hexec : (execOp a.eval o).run C.P w = (do let r ← (do eqGuard op T x y (a.eval x) (a.eval y); binOp op T (a.eval x) (a.eval y)); pure (.value r) : Sem Next).run C.P w := by
    simp [execOp, ho]
  have close : ∀ {r : Value}, (do eqGuard op T x y (a.eval x) (a.eval y); binOp op T (a.eval x) (a.eval y)).run C.P w = .ok r w → (execOp a.eval o).run C.P w = .ok (.value r) w := by
    intro r hr
    rw [hexec]
    simp only [Sem.run_bind, hr]
    rfl
  unfold binP at h4
  split at h4
  · rename_i c1 c2
    obtain ⟨p, h5, h6⟩ := Prg.run_bind_some h4
    obtain ⟨q, h7, h8⟩ := Prg.run_bind_some h6
    have hp := entOf_sound h5 hv
    have hq := entOf_sound h7 hu
    split at h8
    · rename_i lp lq hlp hlq
      have ep := hp.lit hlp
      have eq := hq.lit hlq
      split at h8
      · rename_i r ob hr
        cases hb : (isLit c1 && isLit c2) with
        | true =>
          rw [hb] at h8
          simp only [cond, Prg.run_ret, Option.some.injEq] at h8
          subst h8
          have hrun := litOp_run (w := w) hr hob x y
          refine ⟨.c (.k r), r.val, rfl, rfl, close (by rw [ep, eq]; exact hrun), fun e' _ => rfl⟩
        | false =>
          rw [hb] at h8
          simp only [cond] at h8
          obtain ⟨ob', h9, h10⟩ := Prg.run_bind_some h8
          simp only [Prg.run_ret, Option.some.injEq] at h10
          subst h10
          have hrun := litOp_run (w := w) hr (ob1_sound hx h9 hob) x y
          exact comp_e (close (by rw [ep, eq]; exact hrun)) (Lit.rel r)
      · simp at h8
    · simp at h8
  · rename_i cs ds
    obtain ⟨vs, hvs, rvs⟩ := hv
    obtain ⟨us, hus, rus⟩ := hu
    split at h4
    · rename_i ks hks
      obtain ⟨es, h5, h6⟩ := Prg.run_bind_some h4
      obtain ⟨fs, h7, h8⟩ := Prg.run_bind_some h6
      obtain ⟨k1, l1, r1⟩ := entsAs_sound S h5 rvs
      obtain ⟨k2, l2, r2⟩ := entsAs_sound S h7 rus
      split at h8
      · rename_i p q hp hq
        obtain ⟨e1, kk1⟩ := lits_vals hp l1 r1
        obtain ⟨e2, kk2⟩ := lits_vals hq l2 r2
        have hE := K.eql T ks hks p q (by rw [kk1, k1]) (by rw [kk2, k2]) w x y
        rw [← e1, ← e2] at hE
        split at h8
        · simp only [Prg.run_ret, Option.some.injEq] at h8
          subst h8
          refine comp_e (close (r := .bool (litsEq p q)) ?_) (.b _)
          rw [hvs, hus]
          simp [Sem.run_bind, hE.1, binOp, hE.2.2]
        · simp only [Prg.run_ret, Option.some.injEq] at h8
          subst h8
          refine comp_e (close (r := .bool (!litsEq p q)) ?_) (.b _)
          rw [hvs, hus]
          simp [Sem.run_bind, hE.2.1, binOp, hE.2.2]
        · simp at h8
      · simp at h8
    · simp at h4
  · simp at h4

theorem un_comp (S : Sim w0 O0 X N U m ρ a w) (hx : ExT C m.e.get ex) {op : UnOp} {T : TypeId} {x : Operand} (ho : o.op = .unOp op T x)
    (h : ((opd C ex x).bind fun v => unP C o ex n op v).run m = some f) : Comp o ex f m U X ρ a w := by
  obtain ⟨v, h1, h2⟩ := Prg.run_bind_some h
  have hv := opd_sound S hx h1
  unfold unP at h2
  split at h2
  · rename_i c
    obtain ⟨p, h3, h4⟩ := Prg.run_bind_some h2
    have hp := entOf_sound h3 hv
    split at h4
    · rename_i v0
      have he := hp.inv_b
      simp only [Prg.run_ret, Option.some.injEq] at h4
      subst h4
      cases hb : isLit c with
      | true => exact comp_s (v := .bool (!v0)) (by simp [execOp, ho, he, Op.unary]) rfl
      | false => exact comp_e (v := .bool (!v0)) (by simp [execOp, ho, he, Op.unary]) (.b _)
    · rename_i k v0
      have he := hp.inv_i
      simp only [Prg.run_ret, Option.some.injEq] at h4
      subst h4
      cases hb : isLit c with
      | true => exact comp_s (v := .int k (k.wrap (0 - v0))) (by simp [execOp, ho, he, Op.unary, Op.intArith]) rfl
      | false => exact comp_e (v := .int k (k.wrap (0 - v0))) (by simp [execOp, ho, he, Op.unary, Op.intArith]) (.i _ _)
    · rename_i k v0
      have he := hp.inv_i
      simp only [Prg.run_ret, Option.some.injEq] at h4
      subst h4
      cases hb : isLit c with
      | true => exact comp_s (v := .int k (bitsInt .xor k (if k.signed then -1 else k.max) v0)) (by simp [execOp, ho, he, Op.unary, Op.intBits, bitsInt]) rfl
      | false => exact comp_e (v := .int k (bitsInt .xor k (if k.signed then -1 else k.max) v0)) (by simp [execOp, ho, he, Op.unary, Op.intBits, bitsInt]) (.i _ _)
    · simp at h4
  · simp at h2

theorem conv_comp (S : Sim w0 O0 X N U m ρ a w) (hx : ExT C m.e.get ex) {T D : TypeId} {x : Operand} (ho : o.op = .convert T D x)
    (h : ((opd C ex x).bind fun v => convP C o ex n T D v).run m = some f) : Comp o ex f m U X ρ a w := by
  obtain ⟨v, h1, h2⟩ := Prg.run_bind_some h
  have hv := opd_sound S hx h1
  unfold convP at h2
  split at h2
  · rename_i d k c hd hk
    obtain ⟨p, h3, h4⟩ := Prg.run_bind_some h2
    have hp := entOf_sound h3 hv
    cases p with
    | i k' v0 =>
      have he := hp.inv_i
      simp only [Prg.run_ret, Option.some.injEq] at h4
      have hrun : (convert T D (.int k' v0)).run C.P w = .ok (.int k (k.wrap v0)) w := by simp [convert, run_underlying hd, run_underlying hk, Conv.intToInt]
      cases hb : isLit c with
      | true => rw [hb] at h4; subst h4; exact comp_s (v := .int k (k.wrap v0)) (by simp [execOp, ho, he, hrun]) rfl
      | false => rw [hb] at h4; subst h4; exact comp_e (v := .int k (k.wrap v0)) (by simp [execOp, ho, he, hrun]) (.i _ _)
    | b _ => simp at h4
    | s _ => simp at h4
    | ro _ _ => simp at h4
  · simp at h2

theorem csRel_length {E : Nat → Option (Ent C.R)} {cs : List Cell} {vs : List Value} (r : CsRel C U E ρ w O cs vs) : cs.length = vs.length := by
  induction r with
  | nil => rfl
  | cons _ _ ih => simp [ih]
theorem csRel_get {E : Nat → Option (Ent C.R)} {cs : List Cell} {vs : List Value} (r : CsRel C U E ρ w O cs vs) : ∀ {j : Nat} {c : Cell}, cs[j]? = some c → ∃ v, vs[j]? = some v ∧ CRel C U E ρ w O c v := by
  induction r with
  | nil => intro j c h; cases h
  | cons h1 _ ih =>
    intro j c h
    cases j with
    | zero => simp only [List.getElem?_cons_zero, Option.some.injEq] at h; subst h; exact ⟨_, rfl, h1⟩
    | succ j => simp only [List.getElem?_cons_succ] at h ⊢; exact ih h
theorem csRel_drop {E : Nat → Option (Ent C.R)} {cs : List Cell} {vs : List Value} (r : CsRel C U E ρ w O cs vs) : ∀ j : Nat, CsRel C U E ρ w O (cs.drop j) (vs.drop j) := by
  induction r with
  | nil => intro j; simp; exact .nil
  | cons h1 h2 ih => intro j; cases j with
    | zero => exact .cons h1 h2
    | succ j => exact ih j
theorem csRel_take {E : Nat → Option (Ent C.R)} {cs : List Cell} {vs : List Value} (r : CsRel C U E ρ w O cs vs) : ∀ j : Nat, CsRel C U E ρ w O (cs.take j) (vs.take j) := by
  induction r with
  | nil => intro j; simp; exact .nil
  | cons h1 _ ih => intro j; cases j with
    | zero => exact .nil
    | succ j => exact .cons h1 (ih j)
theorem csRel_append {E : Nat → Option (Ent C.R)} {cs ds : List Cell} {vs us : List Value} (r : CsRel C U E ρ w O cs vs) (q : CsRel C U E ρ w O ds us) : CsRel C U E ρ w O (cs ++ ds) (vs ++ us) := by
  induction r with
  | nil => exact q
  | cons h1 _ ih => exact .cons h1 ih
theorem csRel_sub {E : Nat → Option (Ent C.R)} {cs : List Cell} {vs : List Value} (r : CsRel C U E ρ w O cs vs) (off k : Nat) : CsRel C U E ρ w O (sub cs off k) (sub vs off k) := csRel_take (csRel_drop r off) k
theorem csRel_put {E : Nat → Option (Ent C.R)} {cs ds : List Cell} {vs us : List Value} (r : CsRel C U E ρ w O cs vs) (q : CsRel C U E ρ w O ds us) (off : Nat) : CsRel C U E ρ w O (put cs off ds) (put vs off us) := by
  unfold put
  rw [csRel_length q]
  exact csRel_append (csRel_append (csRel_take r off) q) (csRel_drop r _)
theorem svCells_rel {E : Nat → Option (Ent C.R)} {s : SV} {g : Bool} {cs : List Cell} (h : svCells s = some (g, cs)) {v : Value} (r : SRel C U E ρ w O s v) :
    ∃ vs : List Value, CsRel C U E ρ w O cs vs ∧ (g = true → v = .agg vs.toArray) ∧ (g = false → vs = [v]) := by
  cases s with
  | c c =>
    simp only [svCells, Option.some.injEq, Prod.mk.injEq] at h
    obtain ⟨rfl, rfl⟩ := h
    exact ⟨[v], .cons r .nil, fun h => (by cases h), fun _ => rfl⟩
  | g ds =>
    simp only [svCells, Option.some.injEq, Prod.mk.injEq] at h
    obtain ⟨rfl, rfl⟩ := h
    obtain ⟨vs, h1, h2⟩ := r
    exact ⟨vs, h2, fun _ => h1, fun h => (by cases h)⟩
  | t _ => simp [svCells] at h
  | e _ _ _ _ => simp [svCells] at h

theorem fieldOf_some {T : TypeId} {i fo : Nat} {ft : TypeId} (h : fieldOf C T i = some (fo, ft)) : ∃ fs fl, C.P.underlying T = some (.struct fs) ∧ fs[i]? = some fl ∧ fl.offset = fo ∧ fl.type = ft := by
  unfold fieldOf at h
  split at h
  · rename_i fs hfs
    cases hf : fs[i]? with
    | none => simp [hf] at h
    | some fl => simp only [hf, Option.map_some, Option.some.injEq, Prod.mk.injEq] at h; exact ⟨fs, fl, hfs, hf, h.1, h.2⟩
  · cases h
theorem sizeT_ne {T : TypeId} (h : sizeT C T ≠ 0) : ∃ i, C.P.info? T = some i ∧ i.size ≠ 0 := by
  unfold sizeT at h
  cases hi : C.P.info? T with
  | none => simp [hi] at h
  | some i => exact ⟨i, rfl, by simpa [hi] using h⟩

theorem fieldAddr_comp (S : Sim w0 O0 X N U m ρ a w) (hx : ExT C m.e.get ex) {Γ : Nat → Option (FSum C)} {T : TypeId} {x : Operand} {i : Nat} (ho : o.op = .fieldAddr T x i)
    (h : (opP C Γ n o ex).run m = some f) : Comp o ex f m U X ρ a w := by
  simp only [opP, ho] at h
  obtain ⟨v, h1, h2⟩ := Prg.run_bind_some h
  have hv := opd_sound S hx h1
  have base : ∀ {fo ft b off}, fieldOf C T i = some (fo, ft) → sizeT C ft ≠ 0 → a.eval x = .pointer (some ⟨b, off, none⟩) → (execOp a.eval o).run C.P w = .ok (.value (.pointer (some ⟨b, off + fo, none⟩))) w := by
    intro fo ft b off hf hz he
    obtain ⟨fs, fl, h3, h4, rfl, rfl⟩ := fieldOf_some hf
    obtain ⟨inf, h5, h6⟩ := sizeT_ne hz
    simp [execOp, ho, he, Instr.fieldAt, run_underlying h3, h4, Instr.sureAddr, fieldPlace, sizeOf, typeInfo, h5, h6, Addr.add_lit]
  split at h2
  · rename_i fo ft nm off hf
    cases hz : Nat.beq (sizeT C ft) 0 with
    | true => rw [hz] at h2; simp at h2
    | false =>
      rw [hz] at h2
      simp only [cond, Prg.run_ret, Option.some.injEq] at h2
      subst h2
      obtain ⟨hu, b, hb, he⟩ := hv
      refine comp_s (base hf (fun hc => by rw [hc] at hz; cases hz) he) ⟨hu, b, hb, rfl⟩
  · rename_i fo ft l t ix off hf
    cases hz : Nat.beq (sizeT C ft) 0 with
    | true => rw [hz] at h2; simp at h2
    | false =>
      rw [hz] at h2
      simp only [cond, Prg.run_ret, Option.some.injEq] at h2
      subst h2
      obtain ⟨i', n', g, o', c', p1, p2, p3, p4, he⟩ := hv
      refine comp_s (base hf (fun hc => by rw [hc] at hz; cases hz) he) ⟨i', n', g, o', c', p1, p2, p3, p4, by rw [Nat.add_assoc, Nat.add_assoc]⟩
  · simp at h2

theorem isAgg_run {T : TypeId} {d : TypeDesc} (hd : C.P.underlying T = some d) : (isAgg T).run C.P w = .ok (isAggB C T) w := by
  unfold isAggB
  simp only [isAgg, Sem.run_bind, run_underlying hd, hd, Result.andThen]
  cases d <;> rfl
theorem isAggB_und {T : TypeId} (h : isAggB C T = true) : ∃ d, C.P.underlying T = some d := by
  unfold isAggB at h
  split at h
  · exact ⟨_, by assumption⟩
  · exact ⟨_, by assumption⟩
  · cases h
theorem sub_extract (vs : List Value) (off k : Nat) : vs.toArray.extract off (off + k) = (sub vs off k).toArray := by
  simp [sub, List.extract_eq_take_drop]
end Go.Sx

/- The symbolic executor: reading memory, parts, lists. -/
namespace Go.Sx
open Go
variable {C : Cfg} {O : Nat → Prop} {w0 : World} {O0 : Frm} {X : Nat → Prop} {N : Nat} {U : Nat → Prop} {m : St C} {ρ : Nat → Value} {a : Act} {w : World}
variable {o : Oper} {ex : Ex} {f : Eff C} {n : Nat}

/-- A slice that reads as a list. -/
def LRead (C : Cfg) (w : World) (O : Nat → Prop) (t : Nat) (xs : List (C.R t)) (v : Value) : Prop :=
  ∃ a c, v = .slice a xs.length c ∧ xs.length ≤ c ∧ (xs ≠ [] → ∃ g off, a = some ⟨g, off, none⟩ ∧
    ∀ i x, xs[i]? = some x → ∀ j e, (C.enc t x)[j]? = some e → ∃ u, w.cell? ⟨g, off + (i * (C.kinds t).length + j), none⟩ = some u ∧ Rel C w O e u)

theorem Rel.read {t : Nat} {xs : List (C.R t)} {v : Value} (r : Rel C w O (.ro t xs) v) : LRead C w O t xs v := by
  cases r with
  | nil t a c => exact ⟨a, c, rfl, Nat.zero_le _, fun h => absurd rfl h⟩
  | ro t xs g off c vals hn hc hO hg hcell hrel =>
    exact ⟨_, c, rfl, hc, fun _ => ⟨g, off, rfl, fun i x hi j e he => ⟨vals i j, hcell i x hi j e he, hrel i x hi j e he⟩⟩⟩

theorem listAs_sound (S : Sim w0 O0 X N U m ρ a w) {t : Nat} {c : Cell} {xs : List (C.R t)} (h : (listAs C t c).run m = some xs) {v : Value} (r : CRel C U m.e.get ρ w (Owns X m ρ) c v) :
    LRead C w (Owns X m ρ) t xs v := by
  unfold listAs at h
  obtain ⟨e, h1, h2⟩ := Prg.run_bind_some h
  cases e with
  | b _ => simp at h2
  | i _ _ => simp at h2
  | s _ => simp at h2
  | ro t' ys =>
    simp only at h2
    split at h2
    · rename_i ht
      subst ht
      simp only [Prg.run_ret, Option.some.injEq] at h2
      subst h2
      cases c with
      | k l =>
        have h1' : (entAs C false (.ro t') (.k l)).run m = some (.ro t' ys) := h1
        exact (entAs_sound S h1' r).1.read
      | v id =>
        have h1' : (entAs C false (.ro t') (.v id)).run m = some (.ro t' ys) := h1
        exact (entAs_sound S h1' r).1.read
      | z =>
        have h1' : (entAs C false (.ro t') .z).run m = some (.ro t' ys) := h1
        exact (entAs_sound S h1' r).1.read
      | p _ _ => simp [entAs] at h1
      | pn => simp [entAs] at h1
      | f _ => simp [entAs] at h1
      | u => simp [entAs] at h1
      | o nm =>
        simp only [entAs] at h1
        obtain ⟨B, h3, h4⟩ := Prg.run_getB_some h1
        cases B with
        | c _ _ => simp at h4
        | f t2 id =>
          have h1' : (entAs C false (.ro t') (.o nm)).run m = some (.ro t' ys) := by
            simp only [entAs, Prg.run, h3]
            exact h4
          exact (entAs_sound S h1' r).1.read
        | l t2 id =>
          simp only [Bool.true_and] at h4
          cases hb : Nat.beq t' t2 with
          | false => rw [hb] at h4; simp at h4
          | true =>
            rw [hb] at h4
            simp only [cond] at h4
            obtain rfl := Nat.beq_eq.mp hb
            obtain ⟨e', h5, h6⟩ := Prg.run_getE_some h4
            have he' : e' = .ro t' ys := by
              cases hk : Kind.same e'.kind (.ro t') with
              | false => rw [hk] at h6; simp at h6
              | true => rw [hk] at h6; simpa using h6
            subst he'
            obtain ⟨_, zs, vals, q1, q2, q3⟩ := S.blocks nm _ h3
            rw [h5] at q1
            simp only [Option.some.injEq, Ent.ro.injEq, heq_eq_eq, true_and] at q1
            subst q1
            obtain ⟨_, hv, _⟩ := r
            subst hv
            rcases q3.2 with ⟨q4, q5⟩ | ⟨g, cap, cur, q4, _, q5, q6, q7, q8, q9⟩
            · exact ⟨none, 0, by rw [q4, q5], by omega, fun hne => absurd (List.eq_nil_of_length_eq_zero q5) hne⟩
            · refine ⟨_, cap, q4, q6, fun _ => ⟨g, 0, rfl, ?_⟩⟩
              intro i x hi j e he
              obtain ⟨u, hu, hr⟩ := q2 i x hi j e he
              refine ⟨u, ?_, hr⟩
              have := q3.cells (g := g) (by rw [q4]; rfl) _ u hu
              rw [Addr.add_lit] at this
              exact this
    · simp at h2

theorem csRel_ids {E : Nat → Option (Ent C.R)} : ∀ {es : List (Ent C.R)} {us : List Value} {n : Nat}, es.length = us.length → (∀ (j : Nat) (e : Ent C.R), es[j]? = some e → ∃ v, us[j]? = some v ∧ Rel C w O e v) →
    (∀ p ∈ ids C n es, E p.1 = some p.2) → CsRel C U E ρ w O (idCells C n es) us := by
  intro es
  induction es with
  | nil =>
    intro us n hl _ _
    cases us with
    | nil => exact .nil
    | cons _ _ => simp at hl
  | cons e es ih =>
    intro us n hl hr hE
    cases us with
    | nil => simp at hl
    | cons v us =>
      obtain ⟨v', h1, h2⟩ := hr 0 e rfl
      simp only [List.getElem?_cons_zero, Option.some.injEq] at h1
      subst h1
      exact .cons ⟨e, hE (n, e) (by simp [ids]), h2⟩ (ih (by simpa using hl) (fun j e hj => hr (j + 1) e hj) (fun p hp => hE p (by simp [ids, hp])))

theorem list_of {p : Nat → Value → Prop} : ∀ k : Nat, (∀ j, j < k → ∃ v, p j v) → ∃ us : List Value, us.length = k ∧ ∀ (j : Nat) (v : Value), us[j]? = some v → p j v := by
  intro k
  induction k with
  | zero => intro _; exact ⟨[], rfl, fun j v h => by simp at h⟩
  | succ k ih =>
    intro h
    obtain ⟨us, h1, h2⟩ := ih (fun j hj => h j (by omega))
    obtain ⟨v, hv⟩ := h k (by omega)
    refine ⟨us ++ [v], by simp [h1], ?_⟩
    intro j u hj
    rw [List.getElem?_append] at hj
    split at hj
    · exact h2 j u hj
    · rename_i hlt
      have : j - us.length = 0 := by
        rcases Nat.eq_zero_or_pos (j - us.length) with h0 | h0
        · exact h0
        · rw [List.getElem?_eq_none (by simp; omega)] at hj; cases hj
      rw [this] at hj
      simp only [List.getElem?_cons_zero, Option.some.injEq] at hj
      subst hj
      have : j = k := by omega
      rw [this]; exact hv

theorem run_load_plain {b off : Nat} {v : Value} (h : w.cell? ⟨b, off, none⟩ = some v) : (load ⟨b, off, none⟩).run C.P w = .ok v w := by
  simp [load, Sem.run, h]

theorem loadVar_agg {T : TypeId} {i : TypeInfo} {b off : Nat} {us : List Value} {d : TypeDesc} (hd : C.P.underlying T = some d) (ha : isAggB C T = true) (hi : C.P.info? T = some i) (hl : us.length = i.size)
    (h : ∀ (j : Nat) (v : Value), us[j]? = some v → w.cell? ⟨b, off + j, none⟩ = some v) : (loadVar T ⟨b, off, none⟩).run C.P w = .ok (.agg us.toArray) w := by
  have h1 := run_loadCells_list (P := C.P) w ⟨b, off, none⟩ us (fun j v hj => by rw [Addr.add_lit]; exact h j v hj)
  simp only [loadVar, Sem.run_bind, isAgg_run hd, ha, Result.andThen]
  simp only [if_true, sizeOf, typeInfo]
  simp [hi, ← hl, h1]
theorem loadVar_one {T : TypeId} {b off : Nat} {v : Value} {d : TypeDesc} (hd : C.P.underlying T = some d) (ha : isAggB C T = false) (h : w.cell? ⟨b, off, none⟩ = some v) :
    (loadVar T ⟨b, off, none⟩).run C.P w = .ok v w := by
  simp only [loadVar, Sem.run_bind, isAgg_run hd, ha, Result.andThen]
  simp [run_load_plain h]

theorem sub_get {α : Type} (l : List α) (off k j : Nat) : (sub l off k)[j]? = if j < k then l[off + j]? else none := by
  simp [sub, List.getElem?_take, List.getElem?_drop]

theorem load_comp (S : Sim w0 O0 X N U m ρ a w) (hx : ExT C m.e.get ex) {T : TypeId} {x : Operand} (ho : o.op = .load T x)
    (h : ((opd C ex x).bind fun v => loadP C o ex n T v).run m = some f) : Comp o ex f m U X ρ a w := by
  obtain ⟨v, h1, h2⟩ := Prg.run_bind_some h
  have hv := opd_sound S hx h1
  have hexec : ∀ {ad : Addr} {r : Value}, a.eval x = .pointer (some ad) → (loadVar T ad).run C.P w = .ok r w → (execOp a.eval o).run C.P w = .ok (.value r) w := by
    intro ad r he hr
    simp [execOp, ho, he, Instr.loadAt, Instr.sureAddr, hr]
  unfold loadP at h2
  cases hd : C.P.underlying T with
  | none => simp [hd] at h2
  | some d =>
    simp only [hd, Option.isSome_some, Bool.not_true, cond] at h2
    obtain ⟨inf, hinf⟩ := info_of_underlying hd
    split at h2
    · rename_i nm off
      obtain ⟨B, h3, h4⟩ := Prg.run_getB_some h2
      obtain ⟨hu, b, hb, he⟩ := hv
      cases B with
      | l _ _ => simp at h4
      | f _ _ => simp at h4
      | c T0 cs =>
        obtain ⟨_, b', vs, q1, q2, q3⟩ := S.blocks nm _ h3
        rw [hb] at q1
        simp only [Value.pointer.injEq, Option.some.injEq, Addr.mk.injEq, and_true] at q1
        obtain rfl := q1
        have hcell : ∀ j, w.cell? ⟨b, j, none⟩ = vs[j]? := fun j => cell_of_row w b j vs T0 (0, 0) q2
        simp only at h4
        cases ha : isAggB C T with
        | true =>
          rw [ha] at h4
          simp only [cond] at h4
          cases hle : Nat.ble (off + sizeT C T) cs.length with
          | false => rw [hle] at h4; simp at h4
          | true =>
            rw [hle] at h4
            simp only [Prg.run_ret, Option.some.injEq] at h4
            subst h4
            have hlen := csRel_length q3
            have hle' := Nat.ble_eq.mp hle
            rw [sizeT_of hinf] at hle' ⊢
            refine comp_s (hexec he (loadVar_agg hd ha hinf (us := sub vs.toList off inf.size) ?_ ?_)) ⟨_, rfl, csRel_sub q3 _ _⟩
            · simp [sub]; simp at hlen; omega
            · intro j v hj
              rw [hcell]
              rw [sub_get] at hj
              split at hj
              · simpa using hj
              · cases hj
        | false =>
          rw [ha] at h4
          simp only [cond] at h4
          split at h4
          · rename_i c hc
            simp only [Prg.run_ret, Option.some.injEq] at h4
            subst h4
            obtain ⟨u, hu1, hu2⟩ := csRel_get q3 hc
            exact comp_s (hexec he (loadVar_one hd ha (by rw [hcell]; simpa using hu1))) hu2
          · simp at h4
    · rename_i l t ix off
      obtain ⟨xs, h3, h4⟩ := Prg.run_bind_some h2
      obtain ⟨r, h5, h6⟩ := Prg.run_bind_some h4
      obtain ⟨i, n', g, o', c', p1, p2, p3, p4, he⟩ := hv
      have hi := intOf_int h5 p1
      obtain ⟨a', cc, q1, q2, q3⟩ := listAs_sound S h3 p4
      simp only [Value.slice.injEq] at q1
      obtain ⟨qa, qn, _⟩ := q1
      have hlt : i.toNat < xs.length := by omega
      obtain ⟨g', off', q4, q5⟩ := q3 (by intro hn; simp [hn] at hlt)
      rw [← qa] at q4
      simp only [Option.some.injEq, Addr.mk.injEq, and_true] at q4
      obtain ⟨rfl, rfl⟩ := q4
      have hget : xs[i.toNat]? = some (xs.getD i.toNat (C.dft t)) := by
        simp [List.getD, List.getElem?_eq_getElem hlt]
      rw [← hi] at h6
      have hrow := q5 i.toNat _ hget
      generalize hrw : C.enc t (xs.getD i.toNat (C.dft t)) = row at hrow h6
      cases ha : isAggB C T with
      | true =>
        rw [ha] at h6
        simp only [cond] at h6
        cases hle : Nat.beq (sub row off (sizeT C T)).length (sizeT C T) with
        | false => rw [hle] at h6; simp at h6
        | true =>
          rw [hle] at h6
          simp only [Prg.run_ret, Option.some.injEq] at h6
          subst h6
          have hlen := Nat.beq_eq.mp hle
          obtain ⟨us, hu1, hu2⟩ := list_of (p := fun j u => ∃ e, (sub row off (sizeT C T))[j]? = some e ∧ w.cell? ⟨g, o' + (i.toNat * (C.kinds t).length + (off + j)), none⟩ = some u ∧ Rel C w (Owns X m ρ) e u) (sizeT C T) (by
            intro j hj
            have hj' : j < (sub row off (sizeT C T)).length := by omega
            have hjs : (sub row off (sizeT C T))[j]? = some (sub row off (sizeT C T))[j] := List.getElem?_eq_getElem hj'
            have := hjs
            rw [sub_get, if_pos hj] at this
            obtain ⟨u, hu⟩ := hrow (off + j) _ this
            exact ⟨u, _, hjs, hu⟩)
          refine ⟨_, .agg us.toArray, rfl, rfl, hexec he (loadVar_agg hd ha hinf (by rw [hu1, sizeT_of hinf]) ?_), ?_⟩
          · intro j v hj
            obtain ⟨e, _, h8, _⟩ := hu2 j v hj
            rw [Nat.add_assoc, Nat.add_assoc]; exact h8
          · intro e' he'
            refine ⟨us, rfl, csRel_ids (by omega) ?_ (setE_get _ _ _ he').2⟩
            intro j e hj
            have hj2 : j < us.length := by
              rw [hu1, ← hlen]
              exact (List.getElem?_eq_some_iff.mp hj).1
            obtain ⟨e2, h7, _, h9⟩ := hu2 j us[j] (List.getElem?_eq_getElem hj2)
            rw [hj] at h7
            simp only [Option.some.injEq] at h7
            subst h7
            exact ⟨_, List.getElem?_eq_getElem hj2, h9⟩
      | false =>
        rw [ha] at h6
        simp only [cond] at h6
        split at h6
        · rename_i e hc
          simp only [Prg.run_ret, Option.some.injEq] at h6
          subst h6
          obtain ⟨u, hu1, hu2⟩ := hrow off e hc
          exact comp_e (hexec he (loadVar_one hd ha hu1)) hu2
        · simp at h6
    · simp at h2

theorem field_comp (S : Sim w0 O0 X N U m ρ a w) (hx : ExT C m.e.get ex) {Γ : Nat → Option (FSum C)} {T : TypeId} {x : Operand} {i : Nat} (ho : o.op = .field T x i)
    (h : (opP C Γ n o ex).run m = some f) : Comp o ex f m U X ρ a w := by
  simp only [opP, ho] at h
  obtain ⟨v, h1, h2⟩ := Prg.run_bind_some h
  have hv := opd_sound S hx h1
  split at h2
  · rename_i fo ft cs hf
    obtain ⟨fs, fl, h3, h4, rfl, rfl⟩ := fieldOf_some hf
    obtain ⟨vs, he, rvs⟩ := hv
    cases hd : C.P.underlying fl.type with
    | none => simp [hd] at h2
    | some d =>
      simp only [hd, Option.isSome_some, Bool.not_true, cond] at h2
      obtain ⟨inf, hinf⟩ := info_of_underlying hd
      cases ha : isAggB C fl.type with
      | true =>
        rw [ha] at h2
        simp only [cond, Prg.run_ret, Option.some.injEq] at h2
        subst h2
        refine comp_s (v := .agg (sub vs fl.offset (sizeT C fl.type)).toArray) ?_ ⟨_, rfl, csRel_sub rvs _ _⟩
        simp [execOp, ho, he, Instr.field, run_underlying h3, h4, asAgg, part, isAgg_run hd, ha, sizeOf, typeInfo, hinf, sizeT_of hinf, sub_extract]
        simp [sub, List.extract_eq_take_drop]
      | false =>
        rw [ha] at h2
        simp only [cond] at h2
        split at h2
        · rename_i c hc
          simp only [Prg.run_ret, Option.some.injEq] at h2
          subst h2
          obtain ⟨u, hu1, hu2⟩ := csRel_get rvs hc
          refine comp_s (v := u) ?_ hu2
          simp [execOp, ho, he, Instr.field, run_underlying h3, h4, asAgg, part, isAgg_run hd, ha, hu1]
        · simp at h2
  · simp at h2

theorem entsOf_sound {E : List Cell} {es : List (Ent C.R)} (h : (entsOf C E).run m = some es) {O : Nat → Prop} : ∀ {vs : List Value}, CsRel C U m.e.get ρ w O E vs → ∀ (k : Nat) (e : Ent C.R), es[k]? = some e → ∃ v, vs[k]? = some v ∧ Rel C w O e v := by
  induction E generalizing es with
  | nil => simp only [entsOf, Prg.run_ret, Option.some.injEq] at h; subst h; intro vs _ k e hk; simp at hk
  | cons c cs ih =>
    simp only [entsOf] at h
    obtain ⟨e1, h1, h2⟩ := Prg.run_bind_some h
    obtain ⟨es', h3, h4⟩ := Prg.run_bind_some h2
    simp only [Prg.run_ret, Option.some.injEq] at h4
    subst h4
    intro vs hr k e hk
    cases hr with
    | cons r1 r2 =>
      cases k with
      | zero => simp only [List.getElem?_cons_zero, Option.some.injEq] at hk; subst hk; exact ⟨_, rfl, entOf_sound h1 r1⟩
      | succ k => simp only [List.getElem?_cons_succ] at hk ⊢; exact ih h3 r2 k e hk
theorem entsOf_len : ∀ {cs : List Cell} {es : List (Ent C.R)}, (entsOf C cs).run m = some es → es.length = cs.length := by
  intro cs
  induction cs with
  | nil => intro es h; simp only [entsOf, Prg.run_ret, Option.some.injEq] at h; subst h; rfl
  | cons c cs ih =>
    intro es h
    simp only [entsOf] at h
    obtain ⟨e1, h1, h2⟩ := Prg.run_bind_some h
    obtain ⟨es', h3, h4⟩ := Prg.run_bind_some h2
    simp only [Prg.run_ret, Option.some.injEq] at h4
    subst h4
    simp [ih h3]
theorem selEnt_sound {j : Int} : ∀ {es : List (Ent C.R)} {i : Nat} {r : Ent C.R}, selEnt j i es = some r → (i : Int) ≤ j → j < (i : Int) + es.length → es[j.toNat - i]? = some r := by
  intro es
  induction es with
  | nil => intro i r h; cases h
  | cons e es ih =>
    intro i r h h1 h2
    cases es with
    | nil =>
      simp only [selEnt, Option.some.injEq] at h
      subst h
      simp only [List.length_cons, List.length_nil] at h2
      have : j.toNat - i = 0 := by omega
      rw [this]; rfl
    | cons e2 es =>
      simp only [selEnt] at h
      split at h
      · rename_i r' hr'
        obtain ⟨q1, q2⟩ := iteEnt_rel h
        by_cases hj : j = (i : Int)
        · have := q1 (by subst hj; simp [lenInt])
          subst this
          have : j.toNat - i = 0 := by omega
          rw [this]; rfl
        · have := q2 (by simp only [beq_eq_false_iff_ne, ne_eq]; exact hj)
          subst this
          have h3 := ih hr' (by simp; omega) (by simp only [List.length_cons] at h2 ⊢; omega)
          rw [show j.toNat - i = (j.toNat - (i + 1)) + 1 by omega, List.getElem?_cons_succ]
          exact h3
      · cases h

theorem index_comp (S : Sim w0 O0 X N U m ρ a w) (hx : ExT C m.e.get ex) {T : TypeId} {x y : Operand} (ho : o.op = .index T x y)
    (h : ((opd C ex x).bind fun v => (opd C ex y).bind fun u => indexP C o ex n T v u).run m = some f) (hob : ∀ b ∈ f.ob, b = true) : Comp o ex f m U X ρ a w := by
  obtain ⟨v, h1, h2⟩ := Prg.run_bind_some h
  obtain ⟨u, h3, h4⟩ := Prg.run_bind_some h2
  have hv := opd_sound S hx h1
  have hu := opd_sound S hx h3
  unfold indexP at h4
  split at h4
  · rename_i len el cs k j hT
    have hj : a.eval y = .int k j := hu
    obtain ⟨vs, he, rvs⟩ := hv
    cases hb : (decide (0 ≤ j) && decide (j < len) && (C.P.underlying el).isSome) with
    | false => rw [hb] at h4; simp at h4
    | true =>
      rw [hb] at h4
      simp only [Bool.and_eq_true, decide_eq_true_eq, Option.isSome_iff_exists] at hb
      obtain ⟨⟨hb1, hb2⟩, d, hd⟩ := hb
      obtain ⟨inf, hinf⟩ := info_of_underlying hd
      simp only [cond] at h4
      cases ha : isAggB C el with
      | true =>
        rw [ha] at h4
        simp only [Prg.run_ret, Option.some.injEq] at h4
        subst h4
        refine comp_s (v := .agg (sub vs (j.toNat * sizeT C el) (sizeT C el)).toArray) ?_ ⟨_, rfl, csRel_sub rvs _ _⟩
        simp [execOp, ho, he, hj, Instr.index, asIntOf, run_underlying hT, hb1, hb2, part, isAgg_run hd, ha, sizeOf, typeInfo, hinf, sizeT_of hinf]
        simp [sub, List.extract_eq_take_drop]
      | false =>
        rw [ha] at h4
        simp only at h4
        split at h4
        · rename_i c hc
          simp only [Prg.run_ret, Option.some.injEq] at h4
          subst h4
          obtain ⟨u, hu1, hu2⟩ := csRel_get rvs hc
          refine comp_s (v := u) ?_ hu2
          rw [sizeT_of hinf] at hu1
          simp [execOp, ho, he, hj, Instr.index, asIntOf, run_underlying hT, hb1, hb2, part, isAgg_run hd, ha, sizeOf, typeInfo, hinf, hu1]
        · simp at h4
  · rename_i len el cs id hT
    obtain ⟨vs, he, rvs⟩ := hv
    obtain ⟨ent, h5, h6⟩ := Prg.run_getE_some h4
    cases ent with
    | b _ => simp at h6
    | s _ => simp at h6
    | ro _ _ => simp at h6
    | i k j =>
      simp only at h6
      have hj : a.eval y = .int k j := by
        have aux : ∀ {v : Value}, CRel C U m.e.get ρ w (Owns X m ρ) (.v id) v → v = .int k j := by
          rintro v ⟨e2, q1, q2⟩
          rw [h5] at q1
          simp only [Option.some.injEq] at q1
          subst q1
          cases q2; rfl
        exact aux hu
      cases hb : ((C.P.underlying el).isSome && !isAggB C el && Nat.beq (sizeT C el) 1 && Nat.beq cs.length len) with
      | false => rw [hb] at h6; simp at h6
      | true =>
        rw [hb] at h6
        simp only [Bool.and_eq_true, Option.isSome_iff_exists, Bool.not_eq_true', Nat.beq_eq] at hb
        obtain ⟨⟨⟨⟨d, hd⟩, ha⟩, hsz⟩, hcl⟩ := hb
        obtain ⟨inf, hinf⟩ := info_of_underlying hd
        simp only [cond] at h6
        obtain ⟨es, h7, h8⟩ := Prg.run_bind_some h6
        split at h8
        · rename_i e hsel
          obtain ⟨ob, h9, h10⟩ := Prg.run_bind_some h8
          simp only [Prg.run_ret, Option.some.injEq] at h10
          subst h10
          have hb := ob1_sound hx h9 hob
          have hb1 : 0 ≤ j := by simpa using hb (decide (0 ≤ j)) (by simp)
          have hb2 : j < (len : Int) := of_decide_eq_true (hb (decide (j < lenInt len)) (by simp))
          have hel := entsOf_len h7
          have hg := selEnt_sound hsel (by simpa using hb1) (by rw [hel, hcl]; simpa using hb2)
          obtain ⟨v, hv1, hv2⟩ := entsOf_sound h7 rvs _ _ hg
          simp only [Nat.sub_zero] at hv1
          rw [sizeT_of hinf] at hsz
          refine comp_e (v := v) ?_ hv2
          simp [execOp, ho, he, hj, Instr.index, asIntOf, run_underlying hT, hb1, hb2, part, isAgg_run hd, ha, sizeOf, typeInfo, hinf, hsz, hv1]
        · simp at h8
  · simp at h4

theorem ix_comp (K : C.Ok) (S : Sim w0 O0 X N U m ρ a w) (hx : ExT C m.e.get ex) {T : TypeId} {x y : Operand} (ho : o.op = .indexAddr T x y)
    (h : ((opd C ex x).bind fun v => (opd C ex y).bind fun u => ixP C o ex T v u).run m = some f) (hob : ∀ b ∈ f.ob, b = true) : Comp o ex f m U X ρ a w := by
  obtain ⟨v, h1, h2⟩ := Prg.run_bind_some h
  obtain ⟨u, h3, h4⟩ := Prg.run_bind_some h2
  have hv := opd_sound S hx h1
  have hu := opd_sound S hx h3
  unfold ixP at h4
  split at h4
  · rename_i el l i hT
    split at h4
    · rename_i t ht
      obtain ⟨xs, h5, h6⟩ := Prg.run_bind_some h4
      obtain ⟨r, h7, h8⟩ := Prg.run_bind_some h6
      obtain ⟨ob, h9, h10⟩ := Prg.run_bind_some h8
      simp only [Prg.run_ret, Option.some.injEq] at h10
      subst h10
      have hb := ob1_sound hx h9 hob
      have hb1 : 0 ≤ r.2 := by simpa using hb (decide (0 ≤ r.2)) (by simp)
      have hb2 : r.2 < (xs.length : Int) := of_decide_eq_true (hb (decide (r.2 < lenInt xs.length)) (by simp))
      obtain ⟨hi, hci⟩ := intOf_sound h7 hu
      obtain ⟨a', cc, q1, q2, q3⟩ := listAs_sound S h5 hv
      obtain ⟨g, off, qa, _⟩ := q3 (by intro hn; simp [hn] at hb2; omega)
      subst qa
      obtain ⟨inf, z, hinf, _, hsz, _⟩ := K.info el t ht
      refine ⟨_, .pointer (some ⟨g, off + r.2.toNat * inf.size, none⟩), rfl, rfl, ?_, ?_⟩
      · simp [execOp, ho, hi, q1, Instr.indexAt, asIntOf, run_underlying hT, hb1, hb2, sizeOf, typeInfo, hinf, Addr.add_lit]
      · intro e' he'
        simp only [setE, Option.some.injEq] at he'
        subst he'
        exact ⟨r.2, xs.length, g, off, cc, hci, hb1, by omega, by have := hv; rw [q1] at this; exact this, by rw [hsz, Nat.add_zero]⟩
    · simp at h4
  · rename_i len el nm off k j hT
    have hj : a.eval y = .int k j := hu
    obtain ⟨hU, b, hb, he⟩ := hv
    cases hc : (decide (0 ≤ j) && decide (j < len) && (C.P.info? el).isSome) with
    | false => rw [hc] at h4; simp at h4
    | true =>
      rw [hc] at h4
      simp only [Bool.and_eq_true, decide_eq_true_eq, Option.isSome_iff_exists] at hc
      obtain ⟨⟨hc1, hc2⟩, inf, hinf⟩ := hc
      simp only [cond, Prg.run_ret, Option.some.injEq] at h4
      subst h4
      refine comp_s (v := .pointer (some ⟨b, off + j.toNat * sizeT C el, none⟩)) ?_ ⟨hU, b, hb, rfl⟩
      rw [sizeT_of hinf]
      simp [execOp, ho, hj, he, Instr.indexAt, Instr.sureAddr, asIntOf, run_underlying hT, hc1, hc2, sizeOf, typeInfo, hinf, Addr.add_lit]
  · simp at h4

theorem extract_comp (S : Sim w0 O0 X N U m ρ a w) (hx : ExT C m.e.get ex) {Γ : Nat → Option (FSum C)} {x : Operand} {i : Nat} (ho : o.op = .extract x i)
    (h : (opP C Γ n o ex).run m = some f) : Comp o ex f m U X ρ a w := by
  simp only [opP, ho] at h
  obtain ⟨v, h1, h2⟩ := Prg.run_bind_some h
  have hv := opd_sound S hx h1
  have get : ∀ {E : Nat → Option (Ent C.R)} {xs : List (Bool × List Cell)} {vs : List Value}, PsRel C U E ρ w (Owns X m ρ) xs vs → ∀ {j : Nat} {c : Bool × List Cell}, xs[j]? = some c → ∃ v, vs[j]? = some v ∧ PRel C U E ρ w (Owns X m ρ) c v := by
    intro E xs vs r
    induction r with
    | nil => intro j c h; cases h
    | cons p _ ih => intro j c h; cases j with
      | zero => simp only [List.getElem?_cons_zero, Option.some.injEq] at h; subst h; exact ⟨_, rfl, p⟩
      | succ j => simp only [List.getElem?_cons_succ] at h ⊢; exact ih h
  cases v with
  | c _ => simp at h2
  | g _ => simp at h2
  | e _ _ _ _ => simp at h2
  | t xs =>
    obtain ⟨vs, he, rvs⟩ := hv
    simp only at h2
    split at h2
    · rename_i cs hc
      simp only [Prg.run_ret, Option.some.injEq] at h2
      subst h2
      obtain ⟨u, hu1, hu2⟩ := get rvs hc
      exact comp_s (v := u) (by simp [execOp, ho, he, Instr.extract, hu1]) hu2
    · rename_i c hc
      simp only [Prg.run_ret, Option.some.injEq] at h2
      subst h2
      obtain ⟨u, hu1, hu2⟩ := get rvs hc
      exact comp_s (v := u) (by simp [execOp, ho, he, Instr.extract, hu1]) hu2
    · simp at h2
end Go.Sx

/- The symbolic executor: structs and arrays that are built; lengths, the less and the greater, slices of lists. -/
namespace Go.Sx
open Go
variable {C : Cfg} {O : Nat → Prop} {w0 : World} {O0 : Frm} {X : Nat → Prop} {N : Nat} {U : Nat → Prop} {m : St C} {ρ : Nat → Value} {a : Act} {w : World}
variable {o : Oper} {ex : Ex} {f : Eff C} {n : Nat}

theorem put_length {α : Type} (l : List α) (off : Nat) (x : List α) (h : off + x.length ≤ l.length) : (put l off x).length = l.length := by
  simp [put]; omega
theorem put_get {α : Type} (l : List α) (off : Nat) (x : List α) (h : off + x.length ≤ l.length) (j : Nat) :
    (put l off x)[j]? = if off ≤ j ∧ j < off + x.length then x[j - off]? else l[j]? := by
  unfold put
  rw [List.append_assoc, List.getElem?_append]
  simp only [List.length_take]
  rw [Nat.min_eq_left (by omega)]
  by_cases h1 : j < off
  · rw [if_pos h1, if_neg (by omega), List.getElem?_take, if_pos h1]
  · rw [if_neg h1, List.getElem?_append]
    by_cases h2 : j < off + x.length
    · rw [if_pos (by omega), if_pos (by omega)]
    · rw [if_neg (by omega), if_neg (by omega), List.getElem?_drop]
      congr 1; omega

theorem fold_put : ∀ (l : List Value) (k off : Nat) (cells : Array Value), off + k + l.length ≤ cells.size →
    ((l.zipIdx k).foldl (fun cs p => cs.setIfInBounds (off + p.2) p.1) cells).toList = put cells.toList (off + k) l := by
  intro l
  induction l with
  | nil => intro k off cells h; simp [put]
  | cons v l ih =>
    intro k off cells h
    simp only [List.length_cons] at h
    simp only [List.zipIdx_cons, List.foldl_cons]
    rw [ih (k + 1) off _ (by simp; omega)]
    apply List.ext_getElem?
    intro j
    rw [put_get _ _ _ (by simp; omega), put_get _ _ _ (by simp; omega)]
    simp only [List.length_cons]
    by_cases h1 : off + k ≤ j ∧ j < off + k + (l.length + 1)
    · rw [if_pos h1]
      by_cases h2 : j = off + k
      · subst h2
        rw [if_neg (by omega)]
        simp only [Array.toList_setIfInBounds, Nat.sub_self, List.getElem?_cons_zero]
        rw [List.getElem?_set_self (by simp; omega)]
      · rw [if_pos (by omega)]
        have e1 : j - (off + k) = (j - (off + (k + 1))) + 1 := by omega
        rw [e1, List.getElem?_cons_succ]
    · rw [if_neg h1, if_neg (by omega)]
      simp only [Array.toList_setIfInBounds]
      rw [List.getElem?_set_ne (by omega)]

inductive VsRel (E : Nat → Option (Ent C.R)) (U : Nat → Prop) (ρ : Nat → Value) (w : World) (O : Nat → Prop) : List (Nat × SV) → List (Nat × Value) → Prop
  | nil : VsRel E U ρ w O [] []
  | cons {i : Nat} {s : SV} {v : Value} {l : List (Nat × SV)} {r : List (Nat × Value)} : SRel C U E ρ w O s v → VsRel E U ρ w O l r → VsRel E U ρ w O ((i, s) :: l) ((i, v) :: r)

theorem opds_sound (S : Sim w0 O0 X N U m ρ a w) (hx : ExT C m.e.get ex) : ∀ {ps : List (Nat × Operand)} {vs : List (Nat × SV)}, (opds C ex ps).run m = some vs →
    VsRel m.e.get U ρ w (Owns X m ρ) vs (ps.map fun p => (p.1, a.eval p.2)) := by
  intro ps
  induction ps with
  | nil => intro vs h; simp only [opds, Prg.run_ret, Option.some.injEq] at h; subst h; exact .nil
  | cons p ps ih =>
    intro vs h
    obtain ⟨i, x⟩ := p
    simp only [opds] at h
    obtain ⟨v, h1, h2⟩ := Prg.run_bind_some h
    obtain ⟨r, h3, h4⟩ := Prg.run_bind_some h2
    simp only [Prg.run_ret, Option.some.injEq] at h4
    subst h4
    exact .cons (opd_sound S hx h1) (ih h3)

theorem valCells_len : ∀ {vs : List Value} {cs : List Cell}, valCells vs = some cs → cs.length = vs.length := by
  intro vs
  induction vs with
  | nil => intro cs h; simp only [valCells, Option.some.injEq] at h; subst h; rfl
  | cons v vs ih =>
    intro cs h
    simp only [valCells] at h
    split at h
    · cases h
    · split at h
      · cases h
      · simp only [Option.some.injEq] at h; subst h; simp [ih (by assumption)]

theorem cells_of_rel {E : Nat → Option (Ent C.R)} {s : SV} {g : Bool} {cs : List Cell} (h : svCells s = some (g, cs)) {v : Value} (r : SRel C U E ρ w O s v) (hone : g = false → v.cells = #[v]) :
    CsRel C U E ρ w O cs v.cells.toList := by
  obtain ⟨vs, h1, h2, h3⟩ := svCells_rel h r
  cases g with
  | true => rw [h2 rfl]; simpa [Value.cells] using h1
  | false =>
    have e := h3 rfl
    subst e
    rw [hone rfl]; exact h1

theorem rel_cells {e : Ent C.R} {v : Value} (r : Rel C w O e v) : v.cells = #[v] ∧ v.oneCell' = true := by cases r <;> exact ⟨rfl, rfl⟩
theorem cell_cells {E : Nat → Option (Ent C.R)} {c : Cell} {v : Value} (r : CRel C U E ρ w O c v) : v.oneCell' = true := by
  cases c with
  | k l => rw [show v = l.val from r]; cases l <;> rfl
  | v id => obtain ⟨e, _, h⟩ := r; exact (rel_cells h).2
  | p nm off => obtain ⟨_, b, _, h⟩ := r; rw [h]; rfl
  | pn => rw [show v = _ from r]; rfl
  | o nm => obtain ⟨_, h, a, n, c, h2⟩ := r; rw [h, h2]; rfl
  | z => rw [show v = _ from r]; rfl
  | f g => rw [show v = _ from r]; rfl
  | u => exact r
theorem one_cells {v : Value} (h : v.oneCell' = true) : v.cells = #[v] := by cases v <;> first | rfl | (simp [Value.oneCell'] at h)
theorem svCells_false {s : SV} {cs : List Cell} (h : svCells s = some (false, cs)) : ∃ c, s = .c c ∧ cs = [c] := by
  cases s <;> simp [svCells] at h
  exact ⟨_, rfl, h.symm⟩
theorem sv_cells {E : Nat → Option (Ent C.R)} {s : SV} {g : Bool} {cs : List Cell} (h : svCells s = some (g, cs)) {v : Value} (r : SRel C U E ρ w O s v) : CsRel C U E ρ w O cs v.cells.toList := by
  refine cells_of_rel h r ?_
  intro hg
  subst hg
  obtain ⟨c, rfl, _⟩ := svCells_false h
  exact one_cells (cell_cells r)
theorem csRel_one {E : Nat → Option (Ent C.R)} {cs : List Cell} {vs : List Value} (r : CsRel C U E ρ w O cs vs) : ∀ v ∈ vs, v.oneCell' = true := by
  induction r with
  | nil => intro v h; cases h
  | cons h1 _ ih => intro v h; cases h with
    | head => exact cell_cells h1
    | tail _ h => exact ih v h

theorem fill_s {E : Nat → Option (Ent C.R)} {fs : Array Field} {place : Nat → Option (Nat × Nat)} (hp : ∀ i fl, fs[i]? = some fl → place i = some (fl.offset, sizeT C fl.type)) :
    ∀ {vs : List (Nat × SV)} {ps : List (Nat × Value)}, VsRel E U ρ w O vs ps → ∀ {cs r : List Cell} {z : Array Value}, CsRel C U E ρ w O cs z.toList → buildP C fs vs cs = some r →
      ∃ z', Instr.fill place z ps = some z' ∧ CsRel C U E ρ w O r z'.toList := by
  intro vs ps hr
  induction hr with
  | nil => intro cs r z hz h; simp only [buildP, Option.some.injEq] at h; subst h; exact ⟨z, rfl, hz⟩
  | @cons i s v l rest h1 _ ih =>
    intro cs r z hz h
    simp only [buildP] at h
    split at h
    · rename_i fl g ys hf hs
      have hc := sv_cells hs h1
      have hlen := csRel_length hc
      have hzl := csRel_length hz
      cases hb : (Nat.beq ys.length (sizeT C fl.type) && Nat.ble (fl.offset + ys.length) cs.length) with
      | false => rw [hb] at h; cases h
      | true =>
        rw [hb] at h
        simp only [Bool.and_eq_true, Nat.beq_eq, Nat.ble_eq] at hb
        simp only [Array.length_toList] at hlen hzl
        simp only [cond] at h
        simp only [Instr.fill, hp i fl hf]
        rw [if_neg (by simp; omega)]
        have hfold := fold_put v.cells.toList 0 fl.offset z (by simp; omega)
        have heq : v.cells.zipIdx.foldl (fun cs x => cs.setIfInBounds (fl.offset + x.2) x.1) z = (put z.toList fl.offset v.cells.toList).toArray := by
          rw [← Array.foldl_toList, Array.toList_zipIdx]
          apply Array.ext'
          simpa using hfold
        have hz' : CsRel C U E ρ w O (put cs fl.offset ys) ((put z.toList fl.offset v.cells.toList).toArray).toList := by simpa using csRel_put hz hc fl.offset
        obtain ⟨z', h3, h4⟩ := ih hz' h
        exact ⟨z', by rw [← h3, ← heq], h4⟩
    · cases h
theorem fill_a {E : Nat → Option (Ent C.R)} {esz : Nat} :
    ∀ {vs : List (Nat × SV)} {ps : List (Nat × Value)}, VsRel E U ρ w O vs ps → ∀ {cs r : List Cell} {z : Array Value}, CsRel C U E ρ w O cs z.toList → buildA esz vs cs = some r →
      ∃ z', Instr.fill (fun i => some (i * esz, esz)) z ps = some z' ∧ CsRel C U E ρ w O r z'.toList := by
  intro vs ps hr
  induction hr with
  | nil => intro cs r z hz h; simp only [buildA, Option.some.injEq] at h; subst h; exact ⟨z, rfl, hz⟩
  | @cons i s v l rest h1 _ ih =>
    intro cs r z hz h
    simp only [buildA] at h
    split at h
    · rename_i g ys hs
      have hc := sv_cells hs h1
      have hlen := csRel_length hc
      have hzl := csRel_length hz
      cases hb : (Nat.beq ys.length esz && Nat.ble (i * esz + ys.length) cs.length) with
      | false => rw [hb] at h; cases h
      | true =>
        rw [hb] at h
        simp only [Bool.and_eq_true, Nat.beq_eq, Nat.ble_eq] at hb
        simp only [Array.length_toList] at hlen hzl
        simp only [cond] at h
        simp only [Instr.fill]
        rw [if_neg (by simp; omega)]
        have hfold := fold_put v.cells.toList 0 (i * esz) z (by simp; omega)
        have heq : v.cells.zipIdx.foldl (fun cs x => cs.setIfInBounds (i * esz + x.2) x.1) z = (put z.toList (i * esz) v.cells.toList).toArray := by
          rw [← Array.foldl_toList, Array.toList_zipIdx]
          apply Array.ext'
          simpa using hfold
        have hz' : CsRel C U E ρ w O (put cs (i * esz) ys) ((put z.toList (i * esz) v.cells.toList).toArray).toList := by simpa using csRel_put hz hc (i * esz)
        obtain ⟨z', h3, h4⟩ := ih hz' h
        exact ⟨z', by rw [← h3, ← heq], h4⟩
    · cases h

theorem places_of {P : Program} : ∀ (fs : List Field), fs.all (fun fl => (P.info? fl.type).isSome) = true →
    ∃ places, fs.mapM (fun f => (P.info? f.type).map fun i => (f.offset, i.size)) = some places ∧ ∀ (i : Nat) fl, fs[i]? = some fl → places[i]? = some (fl.offset, ((P.info? fl.type).map (·.size)).getD 0) := by
  intro fs
  induction fs with
  | nil => intro _; exact ⟨[], by simp, fun i fl h => by simp at h⟩
  | cons f fs ih =>
    intro h
    simp only [List.all_cons, Bool.and_eq_true, Option.isSome_iff_exists] at h
    obtain ⟨⟨i, hi⟩, h2⟩ := h
    obtain ⟨pl, h3, h4⟩ := ih h2
    refine ⟨(f.offset, i.size) :: pl, by simp [List.mapM_cons, hi, h3], ?_⟩
    intro j fl hj
    cases j with
    | zero => simp only [List.getElem?_cons_zero, Option.some.injEq] at hj ⊢; subst hj; simp [hi]
    | succ j => simp only [List.getElem?_cons_succ] at hj ⊢; exact h4 j fl hj

theorem build_comp (S : Sim w0 O0 X N U m ρ a w) (hx : ExT C m.e.get ex) {Γ : Nat → Option (FSum C)} {T : TypeId} {ps : Array (Nat × Operand)} (ho : o.op = .build T ps)
    (h : (opP C Γ n o ex).run m = some f) : Comp o ex f m U X ρ a w := by
  simp only [opP, ho] at h
  obtain ⟨vs, h1, h2⟩ := Prg.run_bind_some h
  have hv := opds_sound S hx h1
  have hexec : ∀ {z : Array Value}, C.P.built T ((ps.map fun p => (p.1, a.eval p.2)).toList) = some z → (execOp a.eval o).run C.P w = .ok (.value (.agg z)) w := by
    intro z hz
    have := run_build w T _ z hz
    simp [execOp, ho, this]
  have hlist : (ps.map fun p => (p.1, a.eval p.2)).toList = ps.toList.map fun p => (p.1, a.eval p.2) := by simp
  have hzero : ∀ {cs}, zeroT C T = some cs → ∃ i z, C.P.info? T = some i ∧ i.zero = some z ∧ CsRel C U m.e.get ρ w (Owns X m ρ) cs z.cells.toList := by
    intro cs hc
    unfold zeroT at hc
    split at hc
    · rename_i i hi
      cases hz : i.zero with
      | none => simp [hz] at hc
      | some z => simp only [hz, Option.bind_some] at hc; exact ⟨i, z, hi, hz, valCells_rel hc⟩
    · cases hc
  split at h2
  · rename_i fs cs hT hz
    obtain ⟨i, z, h3, h4, h5⟩ := hzero hz
    cases hall : fs.toList.all (fun fl => (C.P.info? fl.type).isSome) with
    | false => rw [hall] at h2; simp at h2
    | true =>
      rw [hall] at h2
      simp only [cond] at h2
      split at h2
      · rename_i r hb
        simp only [Prg.run_ret, Option.some.injEq] at h2
        subst h2
        obtain ⟨pl, h6, h7⟩ := places_of fs.toList hall
        obtain ⟨z', h8, h9⟩ := fill_s (place := (pl.toArray[·]?)) (fun i fl hi => by simpa [sizeT] using h7 i fl (by simpa using hi)) hv h5 hb
        refine comp_s (hexec (z := z') ?_) ⟨z'.toList, by simp, h9⟩
        rw [hlist]
        unfold Program.built
        simp only [h3, hT, h4, h6]
        exact h8
      · simp at h2
  · rename_i len el cs hT hz
    obtain ⟨i, z, h3, h4, h5⟩ := hzero hz
    cases hie : C.P.info? el with
    | none => simp [hie] at h2
    | some ie =>
      simp only [hie, Option.isSome_some, cond] at h2
      split at h2
      · rename_i r hb
        simp only [Prg.run_ret, Option.some.injEq] at h2
        subst h2
        rw [sizeT_of hie] at hb
        obtain ⟨z', h8, h9⟩ := fill_a hv h5 hb
        refine comp_s (hexec (z := z') ?_) ⟨z'.toList, by simp, h9⟩
        rw [hlist]
        unfold Program.built
        simp only [h3, hT, h4, hie]
        exact h8
      · simp at h2
  · simp at h2
end Go.Sx

/- The symbolic executor: lengths, the less and the greater, slices of lists; what writes memory: the states behind. -/
namespace Go.Sx
open Go
variable {C : Cfg} {O : Nat → Prop} {w0 : World} {O0 : Frm} {X : Nat → Prop} {N : Nat} {U : Nat → Prop} {m : St C} {ρ : Nat → Value} {a : Act} {w : World}
variable {o : Oper} {ex : Ex} {f : Eff C} {n : Nat}

inductive SlRel (E : Nat → Option (Ent C.R)) (U : Nat → Prop) (ρ : Nat → Value) (w : World) (O : Nat → Prop) : List SV → List Value → Prop
  | nil : SlRel E U ρ w O [] []
  | cons {s : SV} {v : Value} {l : List SV} {r : List Value} : SRel C U E ρ w O s v → SlRel E U ρ w O l r → SlRel E U ρ w O (s :: l) (v :: r)

theorem opdl_sound (S : Sim w0 O0 X N U m ρ a w) (hx : ExT C m.e.get ex) : ∀ {ps : List Operand} {vs : List SV}, (opdl C ex ps).run m = some vs →
    SlRel m.e.get U ρ w (Owns X m ρ) vs (ps.map a.eval) := by
  intro ps
  induction ps with
  | nil => intro vs h; simp only [opdl, Prg.run_ret, Option.some.injEq] at h; subst h; exact .nil
  | cons x ps ih =>
    intro vs h
    simp only [opdl] at h
    obtain ⟨v, h1, h2⟩ := Prg.run_bind_some h
    obtain ⟨r, h3, h4⟩ := Prg.run_bind_some h2
    simp only [Prg.run_ret, Option.some.injEq] at h4
    subst h4
    exact .cons (opd_sound S hx h1) (ih h3)

theorem listOf_sound (S : Sim w0 O0 X N U m ρ a w) {c : Cell} {r : (t : Nat) × List (C.R t)} (h : (listOf C c).run m = some r) {v : Value} (hr : CRel C U m.e.get ρ w (Owns X m ρ) c v) :
    ∃ b k, v = .slice b r.2.length k := by
  cases c with
  | v id =>
    obtain ⟨e, h1, h2⟩ := Prg.run_getE_some h
    obtain ⟨e', h3, h4⟩ := hr
    rw [h1] at h3
    simp only [Option.some.injEq] at h3
    subst h3
    cases e with
    | ro t xs =>
      simp only [Prg.run_ret, Option.some.injEq] at h2
      subst h2
      obtain ⟨b, k, hk, _⟩ := h4.read
      exact ⟨b, k, hk⟩
    | b _ => simp at h2
    | i _ _ => simp at h2
    | s _ => simp at h2
  | o nm =>
    obtain ⟨B, h1, h2⟩ := Prg.run_getB_some h
    cases B with
    | c _ _ => simp at h2
    | f t id =>
      obtain ⟨e, h3, h4⟩ := Prg.run_getE_some h2
      obtain ⟨_, xs, q1, q3⟩ := S.blocks nm _ h1
      rw [h3] at q1
      simp only [Option.some.injEq] at q1
      subst q1
      simp only [Prg.run_ret, Option.some.injEq] at h4
      subst h4
      obtain ⟨_, hv, _⟩ := hr
      subst hv
      obtain ⟨b, k, hk, _⟩ := q3.read
      exact ⟨b, k, hk⟩
    | l t id =>
      obtain ⟨e, h3, h4⟩ := Prg.run_getE_some h2
      obtain ⟨_, xs, vals, q1, _, q3⟩ := S.blocks nm _ h1
      rw [h3] at q1
      simp only [Option.some.injEq] at q1
      subst q1
      simp only [Prg.run_ret, Option.some.injEq] at h4
      subst h4
      obtain ⟨_, hv, _⟩ := hr
      subst hv
      rcases q3.2 with ⟨q4, q5⟩ | ⟨g, cap, cur, q4, _⟩
      · exact ⟨none, 0, by rw [q4, q5]⟩
      · exact ⟨_, cap, q4⟩
  | k _ => simp [listOf] at h
  | p _ _ => simp [listOf] at h
  | pn => simp [listOf] at h
  | z => simp [listOf] at h
  | f _ => simp [listOf] at h
  | u => simp [listOf] at h

theorem call_builtin {b : Builtin} {as : Array Operand} {ts : Array TypeId} (ho : o.op = .call { callee := .builtin b, args := as, argTypes := ts }) :
    ∃ cs, execOp a.eval o = builtin b ts o.type cs (as.map a.eval) :=
  ⟨_, by simp only [execOp, ho, resolve, invoke]; rfl⟩

theorem len_comp (S : Sim w0 O0 X N U m ρ a w) {as : Array Operand} {ts : Array TypeId} (ho : o.op = .call { callee := .builtin .len, args := as, argTypes := ts }) {x : SV} {v : Value} (has : as.map a.eval = #[v])
    (hv : SRel C U m.e.get ρ w (Owns X m ρ) x v) {t : TypeId} (ht : ts[0]? = some t) {isStr : Bool} (hT : if isStr then C.P.underlying t = some .string else ∃ e, C.P.underlying t = some (.slice e))
    (h : (lenP C o ex n isStr x).run m = some f) : Comp o ex f m U X ρ a w := by
  have hs : ∀ {b : Option Addr} {l k : Nat}, isStr = false → v = .slice b l k → (execOp a.eval o).run C.P w = .ok (.value (.int .i64 l)) w := by
    intro b l k hi he
    subst hi
    obtain ⟨e, hu⟩ := (by simpa using hT : ∃ e, C.P.underlying t = some (.slice e))
    obtain ⟨cs, hcs⟩ := call_builtin (a := a) ho
    rw [hcs, has, he]
    simp [builtin, Builtin.len_, ht, run_underlying hu, goInt]
  have hstr : ∀ {s : ByteArray}, isStr = true → v = .string s → (execOp a.eval o).run C.P w = .ok (.value (.int .i64 s.size)) w := by
    intro s hi he
    subst hi
    have hu : C.P.underlying t = some .string := by simpa using hT
    obtain ⟨cs, hcs⟩ := call_builtin (a := a) ho
    rw [hcs, has, he]
    simp [builtin, Builtin.len_, ht, run_underlying hu, goInt]
  unfold lenP at h
  split at h
  · simp only [Prg.run_ret, Option.some.injEq] at h
    subst h
    exact comp_s (hs rfl (show v = _ from hv)) rfl
  · obtain ⟨r, h1, h2⟩ := Prg.run_bind_some h
    simp only [Prg.run_ret, Option.some.injEq] at h2
    subst h2
    obtain ⟨b, k, he⟩ := listOf_sound S h1 hv
    exact comp_e (hs rfl he) (.i _ _)
  · simp only [Prg.run_ret, Option.some.injEq] at h
    subst h
    exact comp_s (hstr rfl (show v = _ from hv)) rfl
  · obtain ⟨e, h1, h2⟩ := Prg.run_bind_some h
    cases e with
    | s s =>
      simp only [Prg.run_ret, Option.some.injEq] at h2
      subst h2
      exact comp_e (hstr rfl (entOf_sound h1 hv).inv_s) (.i _ _)
    | b _ => simp at h2
    | i _ _ => simp at h2
    | ro _ _ => simp at h2
  · simp at h

theorem mm_comp {b : Builtin} {isMax : Bool} (hb : b = if isMax then .max else .min) {as : Array Operand} {ts : Array TypeId} (ho : o.op = .call { callee := .builtin b, args := as, argTypes := ts })
    {x y : SV} {v u : Value} (has : as.map a.eval = #[v, u]) (hv : SRel C U m.e.get ρ w (Owns X m ρ) x v) (hu : SRel C U m.e.get ρ w (Owns X m ρ) y u)
    (h : (mmP C o ex n isMax x y).run m = some f) : Comp o ex f m U X ρ a w := by
  unfold mmP at h
  split at h
  · obtain ⟨p, h1, h2⟩ := Prg.run_bind_some h
    obtain ⟨q, h3, h4⟩ := Prg.run_bind_some h2
    simp only [Prg.run_ret, Option.some.injEq] at h4
    subst h4
    obtain ⟨e1, _⟩ := intOf_sound h1 hv
    obtain ⟨e2, _⟩ := intOf_sound h3 hu
    cases isMax with
    | true =>
      simp only [if_true] at hb
      subst hb
      refine comp_e (v := .int p.1 (if q.2 > p.2 then q.2 else p.2)) ?_ (.i _ _)
      obtain ⟨cs, hcs⟩ := call_builtin (a := a) ho
      rw [hcs, has, e1, e2]
      simp only [builtin, Sem.run_bind, run_max_int2]
      rfl
    | false =>
      simp only [Bool.false_eq_true, if_false] at hb
      subst hb
      refine comp_e (v := .int p.1 (if q.2 < p.2 then q.2 else p.2)) ?_ (.i _ _)
      obtain ⟨cs, hcs⟩ := call_builtin (a := a) ho
      rw [hcs, has, e1, e2]
      simp only [builtin, Sem.run_bind, run_min_int2]
      rfl
  · simp at h

/-- Behind an operation that computes alone. -/
theorem comp_wp (S : Sim w0 O0 X N U m ρ a w) (hx : ExT C m.e.get ex) (hd : dstOk N o = true) (hex : ∀ p ∈ ex, ∃ v, m.e.get p.1 = some (.b v)) (hc : Comp o ex f m U X ρ a w) {m' : St C} (hm : f.on m = some m')
    {U' : Nat → Prop} (hU : ∀ n, U n → U' n) {K : Act → World → Prop} {Q : Exit → Act → World → Prop}
    (hK : ∀ ρ' v w', Sim w0 O0 X N U' m' ρ' (a.put o.dst v) w' → K (a.put o.dst v) w') : o.wp C.P a w K Q := by
  obtain ⟨s, v, h1, h2, h3, h4⟩ := hc
  unfold Eff.on at hm
  split at hm
  · cases hm
  · rename_i e' he
    simp only [Option.some.injEq] at hm
    subst hm
    unfold Oper.wp
    rw [h3]
    refine hK ρ v w ?_
    rw [h1, h2]
    exact S.put hU hd he hex (fun _ => (Later.ents hU (fun _ _ h => h)).sv (h4 e' he)) (.inl hx)

theorem ownN_lt (S : Sim w0 O0 X N U m ρ a w) {b : Nat} (h : OwnN m ρ b) : b < w.heap.size := by
  obtain ⟨nm, B, h1, ho, h2⟩ := h
  obtain ⟨_, h3⟩ := S.blocks nm B h1
  cases B with
  | f _ _ => cases ho
  | c T cs =>
    obtain ⟨b', vs, q1, q2, _⟩ := h3
    rw [q1] at h2
    simp only [blkOf, Option.some.injEq] at h2
    subst h2
    exact (Array.getElem?_eq_some_iff.mp q2).1
  | l t id =>
    obtain ⟨xs, vals, _, _, q3⟩ := h3
    rcases q3.2 with ⟨q4, _⟩ | ⟨g, cap, cur, q4, _, q5, _⟩
    · rw [q4] at h2; cases h2
    · rw [q4] at h2
      simp only [blkOf, Option.some.injEq] at h2
      subst h2
      exact (Array.getElem?_eq_some_iff.mp q5).1
theorem own_lt (S : Sim w0 O0 X N U m ρ a w) {b : Nat} (h : Owns X m ρ b) : b < w.heap.size := by
  rcases h with h | h
  · exact Nat.lt_of_lt_of_le (S.xok b h).1 S.hsize
  · exact ownN_lt S h
/-- Others' blocks are not the state's own. -/
theorem x_not_own (S : Sim w0 O0 X N U m ρ a w) {b : Nat} (h : X b) : ¬ OwnN m ρ b := by
  intro ho
  obtain ⟨h1, h2⟩ := S.xok b h
  rcases S.own b ho with h3 | h3
  · exact h2 h3
  · omega

def upd (ρ : Nat → Value) (n : Nat) (rv : Value) : Nat → Value := fun k => if k = n then rv else ρ k
theorem upd_eq (ρ : Nat → Value) (n : Nat) (rv : Value) : upd ρ n rv n = rv := by simp [upd]
theorem upd_ne (ρ : Nat → Value) {n k : Nat} (rv : Value) (h : k ≠ n) : upd ρ n rv k = ρ k := by simp [upd, h]

/-- A new block by the name n; the names in Rm go. -/
theorem Sim.newBlk (S : Sim w0 O0 X N U m ρ a w) {U' : Nat → Prop} (hU : ∀ k, U k → U' k) (hn : ¬ U n) (hn' : U' n) (hd : dstOk N o = true)
    {es : List (Nat × Ent C.R)} {e' : Tr (Ent C.R)} (he : setE es m.e = some e') {b' : Tr Blk} {B0 : Blk} (_hB0 : B0.owned = true) {Rm : Nat → Prop}
    (hget : ∀ k B, b'.get k = some B → (k ≠ n ∧ ¬ Rm k ∧ m.b.get k = some B) ∨ (k = n ∧ B = B0))
    {w' : World} {rv : Value} {s : SV} {v : Value}
    (hsz : w.heap.size ≤ w'.heap.size)
    (hw : ∀ b, b < w.heap.size → (∀ k B, Rm k → m.b.get k = some B → B.owned = true → blkOf (ρ k) ≠ some b) → w'.heap[b]? = w.heap[b]?)
    (hrv : ∀ b, blkOf rv = some b → w.heap.size ≤ b ∨ ∃ k B, Rm k ∧ m.b.get k = some B ∧ B.owned = true ∧ blkOf (ρ k) = some b)
    (hos : w'.os = w.os) (htape : w'.tape = w.tape) (hout : w'.output = w.output)
    (hB : ∀ O', Later (C := C) U m.e.get ρ w (Owns X m ρ) U' e'.get (upd ρ n rv) w' O' → BRel C U' e'.get (upd ρ n rv) w' O' n B0)
    (hs : ∀ O', Later (C := C) U m.e.get ρ w (Owns X m ρ) U' e'.get (upd ρ n rv) w' O' → SRel C U' e'.get (upd ρ n rv) w' O' s v) :
    Sim w0 O0 X N U' ⟨setS (dstS o (some ⟨[], s⟩)) m.s, e', b'⟩ (upd ρ n rv) (a.put o.dst v) w' := by
  have hE := (setE_get _ _ _ he).1
  have hown : ∀ b, OwnN (⟨setS (dstS o (some ⟨[], s⟩)) m.s, e', b'⟩ : St C) (upd ρ n rv) b → OwnN m ρ b ∨ w.heap.size ≤ b := by
    rintro b ⟨k, B, h1, ho, h2⟩
    rcases hget k B h1 with ⟨h3, _, h4⟩ | ⟨h3, _⟩
    · rw [upd_ne _ _ h3] at h2; exact .inl ⟨k, B, h4, ho, h2⟩
    · rw [h3, upd_eq] at h2
      rcases hrv b h2 with h5 | ⟨k', B', _, h6, h7, h8⟩
      · exact .inr h5
      · exact .inl ⟨k', B', h6, h7, h8⟩
  have hstay : Stays w (Owns X m ρ) w' (Owns X (⟨setS (dstS o (some ⟨[], s⟩)) m.s, e', b'⟩ : St C) (upd ρ n rv)) := by
    refine ⟨hsz, fun b hb hO => ⟨hw b hb (fun k B _ h2 h3 h4 => hO (.inr ⟨k, B, h2, h3, h4⟩)), fun h => ?_⟩⟩
    rcases h with h | h
    · exact hO (.inl h)
    · rcases hown b h with h1 | h1
      · exact hO (.inr h1)
      · omega
  have hl : Later (C := C) U m.e.get ρ w (Owns X m ρ) U' e'.get (upd ρ n rv) w' (Owns X (⟨setS (dstS o (some ⟨[], s⟩)) m.s, e', b'⟩ : St C) (upd ρ n rv)) :=
    .of hU hE (fun k hk => upd_ne _ _ (by rintro rfl; exact hn hk)) hstay
  refine S.next (m' := ⟨setS (dstS o (some ⟨[], s⟩)) m.s, e', b'⟩) hl (by rw [tmps_put]; exact S.size) (by rw [defers_put]; exact S.defers) ?_ ?_ ?_ ?_ hos htape hout ?_
  · intro t s' ht
    simp only [setS_dst] at ht
    by_cases hdt : o.dst = some t
    · rw [if_pos hdt] at ht
      simp only [Option.some.injEq] at ht
      subst ht
      refine .inr ⟨fun p hp => (by cases hp), fun _ => ⟨v, ?_, hs _ hl⟩, fun h => absurd (fun p hp => (by cases hp)) h⟩
      have : t < a.tmps.size := by rw [S.size]; simp only [dstOk, hdt] at hd; exact Nat.blt_eq.mp hd
      rw [hdt]; exact get_put_eq a t v this
    · rw [if_neg hdt] at ht
      exact .inl ⟨ht, get_put_ne a _ v t hdt⟩
  · intro k B hk
    rcases hget k B hk with ⟨_, h3, h4⟩ | ⟨h3, h4⟩
    · refine .inl ⟨h4, fun ho b hb => ?_⟩
      refine hw b (ownN_lt S ⟨k, B, h4, ho, hb⟩) ?_
      intro k' B' hr hk' ho' hb'
      have := S.disj k k' B B' b h4 hk' ho ho' hb hb'
      subst this
      exact h3 hr
    · subst h3; subst h4
      exact .inr ⟨hn', hB _ hl⟩
  · intro k k' B B' b h1 h2 o1 o2 h3 h4
    rcases hget k B h1 with ⟨p1, p2, p3⟩ | ⟨p1, _⟩ <;> rcases hget k' B' h2 with ⟨q1, q2, q3⟩ | ⟨q1, _⟩
    · rw [upd_ne _ _ p1] at h3; rw [upd_ne _ _ q1] at h4
      exact S.disj k k' B B' b p3 q3 o1 o2 h3 h4
    · exfalso
      rw [upd_ne _ _ p1] at h3; rw [q1, upd_eq] at h4
      rcases hrv b h4 with h5 | ⟨k2, B2, h6, h7, o3, h8⟩
      · have := ownN_lt S ⟨k, B, p3, o1, h3⟩; omega
      · have := S.disj k k2 B B2 b p3 h7 o1 o3 h3 h8
        subst this
        exact p2 h6
    · exfalso
      rw [p1, upd_eq] at h3; rw [upd_ne _ _ q1] at h4
      rcases hrv b h3 with h5 | ⟨k2, B2, h6, h7, o3, h8⟩
      · have := ownN_lt S ⟨k', B', q3, o2, h4⟩; omega
      · have := S.disj k' k2 B' B2 b q3 h7 o2 o3 h4 h8
        subst this
        exact q2 h6
    · rw [p1, q1]
  · intro b hb
    rcases hown b hb with h1 | h1
    · exact .inl h1
    · exact .inr (Nat.le_trans S.hsize h1)
  · intro b hb hO
    exact hw b hb (fun k B _ h2 o1 h3 => hO ⟨k, B, h2, o1, h3⟩)
end Go.Sx

/- The symbolic executor: what makes and writes memory, but for calls. -/
namespace Go.Sx
open Go
variable {C : Cfg} {O : Nat → Prop} {w0 : World} {O0 : Frm} {X : Nat → Prop} {N : Nat} {U : Nat → Prop} {m : St C} {ρ : Nat → Value} {a : Act} {w : World}
variable {o : Oper} {ex : Ex} {f : Eff C} {n : Nat}

/-- The numbers that are used behind an operation. -/
def Up (U : Nat → Prop) (n : Nat) : Nat → Prop := fun k => U k ∨ (n ≤ k ∧ k < n + stride)
def Fresh (U : Nat → Prop) (n : Nat) : Prop := ∀ k, n ≤ k → k < n + stride → ¬ U k
theorem Up.old (k : Nat) (h : U k) : Up U n k := .inl h
theorem Up.new : Up U n n := .inr ⟨Nat.le_refl _, by unfold stride; omega⟩
theorem Fresh.it (h : Fresh U n) : ¬ U n := h n (Nat.le_refl _) (by unfold stride; omega)

theorem alloc_wp (S : Sim w0 O0 X N U m ρ a w) (hf : Fresh U n) (hd : dstOk N o = true) {T : TypeId} {cs : List Cell} {cells : Array Value}
    (hrun : (execOp a.eval o).run C.P w = .ok (.value (.pointer (some ⟨w.heap.size, 0, none⟩))) (w.alloc (.cells cells T))) (hc : CsRel C U m.e.get ρ w (Owns X m ρ) cs cells.toList)
    {m' : St C} (hm : (⟨dstS o (some ⟨[], .c (.p n 0)⟩), [], [(n, some (.c T cs))], []⟩ : Eff C).on m = some m') {K : Act → World → Prop} {Q : Exit → Act → World → Prop}
    (hK : ∀ ρ' v w', Sim w0 O0 X N (Up U n) m' ρ' (a.put o.dst v) w' → K (a.put o.dst v) w') : o.wp C.P a w K Q := by
  simp only [Eff.on, setE, Option.some.injEq] at hm
  subst hm
  unfold Oper.wp
  rw [hrun]
  refine hK (upd ρ n (.pointer (some ⟨w.heap.size, 0, none⟩))) _ _ ?_
  have hnew : ∀ k B, (setB [(n, some (Blk.c T cs))] m.b).get k = some B → (k ≠ n ∧ ¬ False ∧ m.b.get k = some B) ∨ (k = n ∧ B = .c T cs) := by
    intro k B hk
    simp only [setB, Tr.get_set] at hk
    by_cases h : k = n
    · rw [if_pos h] at hk; simp only [Option.some.injEq] at hk; exact .inr ⟨h, hk.symm⟩
    · rw [if_neg h] at hk; exact .inl ⟨h, not_false, hk⟩
  refine S.newBlk (Rm := fun _ => False) Up.old hf.it Up.new hd (es := []) rfl rfl hnew (by simp) (fun b hb _ => heap_alloc_old w _ hb) ?_ rfl rfl rfl ?_ ?_
  · intro b hb
    simp only [blkOf, Option.some.injEq] at hb
    exact .inl (by omega)
  · intro O' hl
    exact ⟨w.heap.size, cells, by rw [upd_eq], heap_alloc_new w _, hl.cells hc⟩
  · intro O' hl
    exact ⟨Up.new, w.heap.size, by rw [upd_eq], rfl⟩

theorem allocOp_wp (S : Sim w0 O0 X N U m ρ a w) (hf : Fresh U n) (hd : dstOk N o = true) {Γ : Nat → Option (FSum C)} {T : TypeId} (ho : o.op = .alloc T)
    (h : (opP C Γ n o ex).run m = some f) {m' : St C} (hm : f.on m = some m') {K : Act → World → Prop} {Q : Exit → Act → World → Prop}
    (hK : ∀ ρ' v w', Sim w0 O0 X N (Up U n) m' ρ' (a.put o.dst v) w' → K (a.put o.dst v) w') : o.wp C.P a w K Q := by
  simp only [opP, ho] at h
  split at h
  · rename_i cs hz
    simp only [Prg.run_ret, Option.some.injEq] at h
    subst h
    unfold zeroT at hz
    split at hz
    · rename_i i hi
      cases hz0 : i.zero with
      | none => simp [hz0] at hz
      | some z =>
        simp only [hz0, Option.bind_some] at hz
        refine alloc_wp S hf hd (cells := z.cells) ?_ (valCells_rel hz) hm hK
        simp [execOp, ho, Instr.alloc, zeroValue, typeInfo, hi, hz0, newVar, newRow]
    · cases hz
  · simp at h

theorem boxOp_wp (S : Sim w0 O0 X N U m ρ a w) (hx : ExT C m.e.get ex) (hf : Fresh U n) (hd : dstOk N o = true) {Γ : Nat → Option (FSum C)} {T : TypeId} {x : Operand} (ho : o.op = .box T x)
    (h : (opP C Γ n o ex).run m = some f) {m' : St C} (hm : f.on m = some m') {K : Act → World → Prop} {Q : Exit → Act → World → Prop}
    (hK : ∀ ρ' v w', Sim w0 O0 X N (Up U n) m' ρ' (a.put o.dst v) w' → K (a.put o.dst v) w') : o.wp C.P a w K Q := by
  simp only [opP, ho] at h
  split at h
  · obtain ⟨v, h1, h2⟩ := Prg.run_bind_some h
    have hv := opd_sound S hx h1
    split at h2
    · rename_i g cs hs
      simp only [Prg.run_ret, Option.some.injEq] at h2
      subst h2
      refine alloc_wp S hf hd (cells := (a.eval x).cells) ?_ (sv_cells hs hv) hm hK
      simp [execOp, ho, Instr.box, newVar, newRow]
    · simp at h2
  · simp at h

/-- A slot is written; what was there stays, new memory may have come. -/
theorem Sim.putW (S : Sim w0 O0 X N U m ρ a w) {U' : Nat → Prop} (hU : ∀ n, U n → U' n) {s : SV} {es : List (Nat × Ent C.R)} {e' : Tr (Ent C.R)} {v : Value} {w' : World}
    (hd : dstOk N o = true) (he : setE es m.e = some e') (hex : ∀ p ∈ ex, ∃ v, m.e.get p.1 = some (.b v))
    (hsz : w.heap.size ≤ w'.heap.size) (hw : ∀ b, b < w.heap.size → w'.heap[b]? = w.heap[b]?) (hos : w'.os = w.os) (htape : w'.tape = w.tape) (hout : w'.output = w.output) (hx0 : ExT C m.e.get ex)
    (hv : Later (C := C) U m.e.get ρ w (Owns X m ρ) U' e'.get ρ w' (Owns X m ρ) → ExT C m.e.get ex → SRel C U' e'.get ρ w' (Owns X m ρ) s v) :
    Sim w0 O0 X N U' ⟨setS (dstS o (some ⟨ex, s⟩)) m.s, e', m.b⟩ ρ (a.put o.dst v) w' := by
  have hE := (setE_get _ _ _ he).1
  have hl : Later (C := C) U m.e.get ρ w (Owns X m ρ) U' e'.get ρ w' (Owns X m ρ) := .of hU hE (fun _ _ => rfl) ⟨hsz, fun b hb hO => ⟨hw b hb, hO⟩⟩
  refine S.next (m' := ⟨setS (dstS o (some ⟨ex, s⟩)) m.s, e', m.b⟩) hl (by rw [tmps_put]; exact S.size) (by rw [defers_put]; exact S.defers) ?_ ?_ S.disj (fun b h => .inl h) hos htape hout (fun b hb _ => hw b hb)
  · intro t s' ht
    simp only [setS_dst] at ht
    by_cases hdt : o.dst = some t
    · rw [if_pos hdt] at ht
      simp only [Option.some.injEq] at ht
      subst ht
      refine .inr ⟨fun p hp => ?_, fun hx => ⟨v, ?_, hv hl (hl.exT hex hx)⟩, fun h => absurd (hl.exT' hx0) h⟩
      · obtain ⟨b, hb⟩ := hex p hp; exact ⟨b, hE _ _ hb⟩
      · have : t < a.tmps.size := by rw [S.size]; simp only [dstOk, hdt] at hd; exact Nat.blt_eq.mp hd
        rw [hdt]; exact get_put_eq a t v this
    · rw [if_neg hdt] at ht
      exact .inl ⟨ht, get_put_ne a _ v t hdt⟩
  · intro nm B hB
    exact .inl ⟨hB, fun ho b hb => hw b (ownN_lt S ⟨nm, B, hB, ho, hb⟩)⟩

/-- Rows of a literal: the parts' cells behind one another. -/
theorem fill_rows (K : C.Ok) (S : Sim w0 O0 X N U m ρ a w) {t : Nat} {esz : Nat} (hesz : (C.kinds t).length = esz) : ∀ {vs : List (Nat × SV)} {ps : List (Nat × Value)}, VsRel m.e.get U ρ w (Owns X m ρ) vs ps → ∀ {i : Nat} {xs : List (C.R t)} {z : Array Value},
    (rowsOf C t i vs).run m = some xs → (i + ps.length) * esz ≤ z.size → ∃ z', Instr.fill (fun i => some (i * esz, esz)) z ps = some z' ∧ z'.size = z.size ∧ (∀ j, j < i * esz → z'[j]? = z[j]?) ∧ xs.length = ps.length ∧
      ∀ (k : Nat) (x : C.R t), xs[k]? = some x → ∀ (j : Nat) (e : Ent C.R), (C.enc t x)[j]? = some e → ∃ u, z'[(i + k) * esz + j]? = some u ∧ Rel C w (Owns X m ρ) e u := by
  intro vs ps hr
  induction hr with
  | nil =>
    intro i xs z h _
    simp only [rowsOf, Prg.run_ret, Option.some.injEq] at h
    subst h
    exact ⟨z, rfl, rfl, fun _ _ => rfl, rfl, fun k x h => by simp at h⟩
  | @cons i0 s v l rest h1 _ ih =>
    intro i xs z h hsz
    simp only [rowsOf] at h
    cases hb : Nat.beq i i0 with
    | false => rw [hb] at h; simp at h
    | true =>
      rw [hb] at h
      obtain rfl := Nat.beq_eq.mp hb
      simp only [cond] at h
      split at h
      · rename_i g cs hs
        obtain ⟨es, h2, h3⟩ := Prg.run_bind_some h
        obtain ⟨ys, h4, h5⟩ := Prg.run_bind_some h3
        simp only [Prg.run_ret, Option.some.injEq] at h5
        subst h5
        have hc := sv_cells hs h1
        obtain ⟨k1, k2, k3⟩ := entsAs_sound S h2 hc
        have hel : es.length = esz := by rw [← hesz, ← k1, List.length_map]
        simp only [Array.length_toList] at k2
        simp only [List.length_cons] at hsz
        have hmul : (i + (rest.length + 1)) * esz = i * esz + esz + rest.length * esz := by
          rw [Nat.add_mul, Nat.add_mul]; omega
        simp only [Instr.fill]
        rw [if_neg (by simp; omega)]
        have hfold := fold_put v.cells.toList 0 (i * esz) z (by simp; omega)
        have heq : v.cells.zipIdx.foldl (fun cs x => cs.setIfInBounds (i * esz + x.2) x.1) z = (put z.toList (i * esz) v.cells.toList).toArray := by
          rw [← Array.foldl_toList, Array.toList_zipIdx]
          apply Array.ext'
          simpa using hfold
        rw [heq]
        have hpl : (put z.toList (i * esz) v.cells.toList).length = z.toList.length := put_length _ _ _ (by simp; omega)
        obtain ⟨z', q1, q2, q3, q4, q5⟩ := ih (i := i + 1) (z := (put z.toList (i * esz) v.cells.toList).toArray) h4 (by simp [hpl]; rw [show i + 1 + rest.length = i + (rest.length + 1) from by omega]; exact hsz)
        have hi1 : (i + 1) * esz = i * esz + esz := by rw [Nat.add_mul]; omega
        refine ⟨z', q1, by rw [q2]; simp [hpl], ?_, by simp [q4], ?_⟩
        · intro j hj
          rw [q3 j (by omega)]
          simp only [List.getElem?_toArray]
          rw [put_get _ _ _ (by simp; omega), if_neg (by omega)]
          simp
        · intro k x hk j e he
          cases k with
          | zero =>
            simp only [List.getElem?_cons_zero, Option.some.injEq] at hk
            subst hk
            rw [K.encD t es k1] at he
            obtain ⟨u, hu1, hu2⟩ := k3 j e he
            have hj : j < esz := by rw [← hel]; exact (List.getElem?_eq_some_iff.mp he).1
            refine ⟨u, ?_, hu2⟩
            rw [Nat.add_zero, q3 _ (by omega)]
            simp only [List.getElem?_toArray]
            rw [put_get _ _ _ (by simp; omega), if_pos (by simp; omega)]
            rw [Nat.add_sub_cancel_left]
            exact hu1
          | succ k =>
            simp only [List.getElem?_cons_succ] at hk
            obtain ⟨u, hu1, hu2⟩ := q5 k x hk j e he
            exact ⟨u, by rw [show i + (k + 1) = i + 1 + k from by omega]; exact hu1, hu2⟩
      · simp at h

theorem cell_alloc_new (w : World) (cells : Array Value) (T : TypeId) (j : Nat) : (w.alloc (.cells cells T)).cell? ⟨w.heap.size, j, none⟩ = cells[j]? :=
  cell_of_row _ _ j cells T (0, 0) (heap_alloc_new w _)

theorem run_buildSlice {T el : TypeId} {k : Nat} {parts : Array (Nat × Value)} {i : TypeInfo} {z : Value} {z' : Array Value} (hT : C.P.underlying T = some (.slice el)) (hi : C.P.info? el = some i) (hz : i.zero = some z)
    (hle : k * i.size ≤ 16777216) (hfill : Instr.fill (fun j => some (j * i.size, i.size)) ((Array.range (k * i.size)).map (fun x => z.cells[x % z.cells.size]!)) parts.toList = some z') :
    (Instr.buildSlice T k parts).run C.P w = .ok (.slice (some ⟨w.heap.size, 0, none⟩) k k) (w.alloc (.cells z' el)) := by
  have hle' : ¬ (2 ^ 24 < k * i.size) := by simp; omega
  by_cases h0 : k * i.size = 0
  · rw [h0] at hfill
    have e : (Array.range 0).map (fun x => z.cells[x % z.cells.size]!) = #[] := by simp
    rw [e] at hfill
    have e2 : ∀ g : Nat → Value, (Array.range 0).map g = #[] := fun g => by simp
    simp [Instr.buildSlice, run_underlying hT, sizeOf, typeInfo, hi, h0, e2, hfill, newRow]
  · simp [Instr.buildSlice, run_underlying hT, sizeOf, typeInfo, hi, h0, hle', hfill, newRow, zeroValue, hz]

theorem buildSliceOp_wp (Kk : C.Ok) (S : Sim w0 O0 X N U m ρ a w) (hx : ExT C m.e.get ex) (hex : ∀ p ∈ ex, ∃ v, m.e.get p.1 = some (.b v)) (hd : dstOk N o = true) {Γ : Nat → Option (FSum C)} {T : TypeId} {k : Nat} {ps : Array (Nat × Operand)} (ho : o.op = .buildSlice T k ps)
    (h : (opP C Γ n o ex).run m = some f) {m' : St C} (hm : f.on m = some m') {K : Act → World → Prop} {Q : Exit → Act → World → Prop}
    (hK : ∀ ρ' v w', Sim w0 O0 X N (Up U n) m' ρ' (a.put o.dst v) w' → K (a.put o.dst v) w') : o.wp C.P a w K Q := by
  simp only [opP, ho] at h
  split at h
  · rename_i el hT
    split at h
    · rename_i t ht
      cases hb : (Nat.beq k ps.size && Nat.ble (k * sizeT C el) 16777216) with
      | false => rw [hb] at h; simp at h
      | true =>
        rw [hb] at h
        simp only [Bool.and_eq_true, Nat.beq_eq, Nat.ble_eq] at hb
        simp only [cond] at h
        obtain ⟨vs, h1, h2⟩ := Prg.run_bind_some h
        obtain ⟨xs, h3, h4⟩ := Prg.run_bind_some h2
        simp only [Prg.run_ret, Option.some.injEq] at h4
        subst h4
        have hv := opds_sound S hx h1
        obtain ⟨i, z, hi, hz, hsz, hzs, hpos, _⟩ := Kk.info el t ht
        rw [sizeT_of hi] at hb
        have hlen0 : ((Array.range (k * i.size)).map (fun x => z.cells[x % z.cells.size]!)).size = k * i.size := by simp
        obtain ⟨z', q1, q2, _, q4, q5⟩ := fill_rows Kk S (t := t) (esz := i.size) hsz.symm hv (i := 0) (z := (Array.range (k * i.size)).map (fun x => z.cells[x % z.cells.size]!)) h3 (by rw [hlen0]; simp [hb.1])
        simp only [Nat.zero_add] at q5
        have hl : (ps.map fun p => (p.1, a.eval p.2)).toList = ps.toList.map fun p => (p.1, a.eval p.2) := by simp
        have hrun : (execOp a.eval o).run C.P w = .ok (.value (.slice (some ⟨w.heap.size, 0, none⟩) k k)) (w.alloc (.cells z' el)) := by
          have := run_buildSlice (w := w) hT hi hz hb.2 (parts := ps.map fun p => (p.1, a.eval p.2)) (by rw [hl]; exact q1)
          simp [execOp, ho, this]
        simp only [List.length_map, Array.length_toList] at q4
        have hkx : k = xs.length := by omega
        simp only [effE, Eff.on] at hm
        split at hm
        · cases hm
        · rename_i e' he
          simp only [Option.some.injEq] at hm
          subst hm
          unfold Oper.wp
          rw [hrun]
          refine hK ρ _ _ ?_
          refine S.putW (w' := w.alloc (.cells z' el)) Up.old hd he hex (by simp) (fun b hb => heap_alloc_old w _ hb) rfl rfl rfl hx ?_
          intro hl' _
          refine ⟨.ro t xs, (setE_get _ _ _ he).2 (n, .ro t xs) (by simp), ?_⟩
          by_cases hx0 : xs = []
          · subst hx0
            rw [hkx]; exact .nil t _ _
          · rw [hkx]
            refine .ro t xs w.heap.size 0 xs.length (fun p q => (z'[p * i.size + q]?).getD undef) hx0 (Nat.le_refl _) ?_ (by simp) ?_ ?_
            · intro hO
              have := own_lt S hO
              omega
            · intro p x hp q e hq
              obtain ⟨u, hu1, _⟩ := q5 p x hp q e hq
              rw [← hsz, Nat.zero_add, cell_alloc_new, hu1]
              rfl
            · intro p x hp q e hq
              obtain ⟨u, hu1, hu2⟩ := q5 p x hp q e hq
              rw [hu1]
              exact hl'.s.2 hu2
    · simp at h
  · simp at h

/-- A slot is cleared, a block's content turns. -/
theorem Sim.setBlk (S : Sim w0 O0 X N U m ρ a w) {U' : Nat → Prop} (hU : ∀ k, U k → U' k) {nm b0 : Nat} {B1 B0 : Blk} (hB1 : m.b.get nm = some B1) (ho1 : B1.owned = true) (hb0 : blkOf (ρ nm) = some b0)
    {es : List (Nat × Ent C.R)} {e' : Tr (Ent C.R)} (he : setE es m.e = some e') {w' : World} {v : Value}
    (hsz : w'.heap.size = w.heap.size) (hw : ∀ b, b ≠ b0 → w'.heap[b]? = w.heap[b]?) (hos : w'.os = w.os) (htape : w'.tape = w.tape) (hout : w'.output = w.output)
    (hB : ∀ O', Later (C := C) U m.e.get ρ w (Owns X m ρ) U' e'.get ρ w' O' → BRel C U' e'.get ρ w' O' nm B0) :
    Sim w0 O0 X N U' ⟨setS (dstS o none) m.s, e', m.b.set (some B0) nm⟩ ρ (a.put o.dst v) w' := by
  have hE := (setE_get _ _ _ he).1
  have hgo : ∀ k B, (m.b.set (some B0) nm).get k = some B → (k ≠ nm ∧ m.b.get k = some B) ∨ (k = nm ∧ B = B0) := by
    intro k B hk
    rw [Tr.get_set] at hk
    by_cases h : k = nm
    · rw [if_pos h] at hk; simp only [Option.some.injEq] at hk; exact .inr ⟨h, hk.symm⟩
    · rw [if_neg h] at hk; exact .inl ⟨h, hk⟩
  have hown : ∀ b, OwnN (⟨setS (dstS o none) m.s, e', m.b.set (some B0) nm⟩ : St C) ρ b → OwnN m ρ b := by
    rintro b ⟨k, B, h1, ho, h2⟩
    rcases hgo k B h1 with ⟨_, h3⟩ | ⟨h3, _⟩
    · exact ⟨k, B, h3, ho, h2⟩
    · exact ⟨nm, B1, hB1, ho1, by rw [← h3]; exact h2⟩
  have hO0 : OwnN m ρ b0 := ⟨nm, B1, hB1, ho1, hb0⟩
  have hl : Later (C := C) U m.e.get ρ w (Owns X m ρ) U' e'.get ρ w' (Owns X (⟨setS (dstS o none) m.s, e', m.b.set (some B0) nm⟩ : St C) ρ) :=
    .of hU hE (fun _ _ => rfl) ⟨by omega, fun b hb hO => ⟨hw b (by rintro rfl; exact hO (.inr hO0)), fun h => hO (h.imp id (hown b))⟩⟩
  refine S.next (m' := ⟨setS (dstS o none) m.s, e', m.b.set (some B0) nm⟩) hl (by rw [tmps_put]; exact S.size) (by rw [defers_put]; exact S.defers) ?_ ?_ ?_ (fun b h => .inl (hown b h)) hos htape hout ?_
  · intro t s' ht
    simp only [setS_dst] at ht
    by_cases hdt : o.dst = some t
    · rw [if_pos hdt] at ht; cases ht
    · rw [if_neg hdt] at ht
      exact .inl ⟨ht, get_put_ne a _ v t hdt⟩
  · intro k B hk
    rcases hgo k B hk with ⟨h1, h2⟩ | ⟨h1, h2⟩
    · refine .inl ⟨h2, fun ho b hb => hw b ?_⟩
      rintro rfl
      exact h1 (S.disj k nm B B1 b h2 hB1 ho ho1 hb hb0)
    · subst h1; subst h2
      exact .inr ⟨hU _ (S.blocks k B1 hB1).1, hB _ hl⟩
  · intro k k' B B' b h1 h2 o1 o2 h3 h4
    have g : ∀ {k B}, (m.b.set (some B0) nm).get k = some B → B.owned = true → ∃ B', m.b.get k = some B' ∧ B'.owned = true := by
      intro k B h o
      rcases hgo k B h with ⟨_, h3⟩ | ⟨h3, _⟩
      · exact ⟨B, h3, o⟩
      · exact ⟨B1, by rw [h3]; exact hB1, ho1⟩
    obtain ⟨C1, hC1, p1⟩ := g h1 o1
    obtain ⟨C2, hC2, p2⟩ := g h2 o2
    exact S.disj k k' C1 C2 b hC1 hC2 p1 p2 h3 h4
  · intro b hb hO
    exact hw b (by rintro rfl; exact hO hO0)

theorem storeVar_run {T T0 : TypeId} {i : TypeInfo} {b off : Nat} {cur : Array Value} {v : Value} (hi : C.P.info? T = some i) (hg : w.heap[b]? = some (.cells cur T0 (0, 0))) (hl : v.cells.size = i.size)
    (hfit : off + v.cells.size ≤ cur.size) (h1 : ∀ u ∈ v.cells.toList, u.oneCell' = true) :
    (storeVar T ⟨b, off, none⟩ v).run C.P w = .ok () (w.setRow b (put cur.toList off v.cells.toList).toArray) := by
  have h := run_storeCells_at C.P b off T0 v.cells.toList 0 cur w hg (by simpa using hfit) h1
  simp only [Nat.add_zero] at h
  simp [storeVar, sizeOf, typeInfo, hi, hl, h, put]

theorem store_rows {t : Nat} {xs : List (C.R t)} {sz i off : Nat} {es row : List (Ent C.R)} {vals us : List Value} (K : C.Ok) (hsz : (C.kinds t).length = sz) (hi : i < xs.length)
    (hv : ∀ (k : Nat) (x : C.R t), xs[k]? = some x → ∀ (j : Nat) (e : Ent C.R), (C.enc t x)[j]? = some e → ∃ v, vals[k * sz + j]? = some v ∧ Rel C w O e v)
    (hrow : row = C.enc t (xs.getD i (C.dft t))) (hk : es.map Ent.kind = sub (C.kinds t) off us.length) (hel : es.length = us.length) (hfit : off + us.length ≤ row.length)
    (hr : ∀ (j : Nat) (e : Ent C.R), es[j]? = some e → ∃ v, us[j]? = some v ∧ Rel C w O e v) (hvl : vals.length = xs.length * sz) :
    ∀ (k : Nat) (x : C.R t), (xs.set i (C.dec t (put row off es)))[k]? = some x → ∀ (j : Nat) (e : Ent C.R), (C.enc t x)[j]? = some e → ∃ v, (put vals (i * sz + off) us)[k * sz + j]? = some v ∧ Rel C w O e v := by
  have hget : xs[i]? = some (xs.getD i (C.dft t)) := by simp [List.getD, List.getElem?_eq_getElem hi]
  have hrl : row.length = sz := by rw [hrow, ← hsz, ← K.encK t, List.length_map]
  have hkind : (put row off es).map Ent.kind = C.kinds t := by
    have hrk : row.map Ent.kind = C.kinds t := by rw [hrow]; exact K.encK _ _
    apply List.ext_getElem?
    intro j
    rw [List.getElem?_map, put_get _ _ _ (by omega)]
    by_cases hj : off ≤ j ∧ j < off + es.length
    · rw [if_pos hj]
      have h1 := congrArg (fun l => l[j - off]?) hk
      simp only [List.getElem?_map] at h1
      rw [h1, sub_get, if_pos (by omega)]
      congr 1; omega
    · rw [if_neg hj, ← hrk, List.getElem?_map]
  have hmul : i * sz + sz ≤ vals.length := by
    rw [hvl]
    have := Nat.mul_le_mul_right sz (show i + 1 ≤ xs.length by omega)
    rw [Nat.add_mul] at this; omega
  intro k x hx j e he
  have hjl : j < sz := by
    have h1 := (List.getElem?_eq_some_iff.mp he).1
    have h2 : (C.enc t x).length = sz := by rw [← hsz, ← K.encK t x, List.length_map]
    omega
  by_cases hki : k = i
  · subst hki
    rw [List.getElem?_set_self hi] at hx
    simp only [Option.some.injEq] at hx
    subst hx
    rw [K.encD t _ hkind, put_get _ _ _ (by omega)] at he
    by_cases hj : off ≤ j ∧ j < off + es.length
    · rw [if_pos hj] at he
      obtain ⟨v, h1, h2⟩ := hr _ e he
      refine ⟨v, ?_, h2⟩
      rw [put_get _ _ _ (by omega), if_pos (by omega)]
      rw [← h1]; congr 1; omega
    · rw [if_neg hj, hrow] at he
      obtain ⟨v, h1, h2⟩ := hv k _ hget j e he
      refine ⟨v, ?_, h2⟩
      rw [put_get _ _ _ (by omega), if_neg (by omega)]
      exact h1
  · rw [List.getElem?_set_ne (Ne.symm hki)] at hx
    obtain ⟨v, h1, h2⟩ := hv k x hx j e he
    refine ⟨v, ?_, h2⟩
    rw [put_get _ _ _ (by omega), if_neg]
    · exact h1
    · intro hc
      rcases Nat.lt_or_gt_of_ne hki with h | h
      · have := Nat.mul_le_mul_right sz (show k + 1 ≤ i by omega)
        rw [Nat.add_mul] at this; omega
      · have := Nat.mul_le_mul_right sz (show i + 1 ≤ k by omega)
        rw [Nat.add_mul] at this; omega

theorem put_take {α : Type} (l : List α) (p : Nat) (us : List α) (q : Nat) (h : p + us.length ≤ q) (hq : q ≤ l.length) : (put l p us).take q = put (l.take q) p us := by
  apply List.ext_getElem?
  intro j
  rw [List.getElem?_take, put_get _ _ _ (by omega), put_get _ _ _ (by simp; omega), List.getElem?_take]
  by_cases h1 : j < q
  · rw [if_pos h1, if_pos h1]
  · rw [if_neg h1, if_neg (by omega), if_neg h1]
theorem listOwn_sound {t nm : Nat} {xs : List (C.R t)} (h : (listOwn C t nm).run m = some xs) : ∃ id, m.b.get nm = some (.l t id) ∧ m.e.get id = some (.ro t xs) := by
  unfold listOwn at h
  obtain ⟨B, h3, h4⟩ := Prg.run_getB_some h
  cases B with
  | c _ _ => simp at h4
  | f _ _ => simp at h4
  | l t2 id =>
    simp only at h4
    cases hb : Nat.beq t t2 with
    | false => rw [hb] at h4; simp at h4
    | true =>
      rw [hb] at h4
      simp only [cond] at h4
      obtain rfl := Nat.beq_eq.mp hb
      obtain ⟨e', h5, h6⟩ := Prg.run_getE_some h4
      cases e' with
      | b _ => simp at h6
      | i _ _ => simp at h6
      | s _ => simp at h6
      | ro t' ys =>
        simp only at h6
        split at h6
        · rename_i ht
          subst ht
          simp only [Prg.run_ret, Option.some.injEq] at h6
          subst h6
          exact ⟨id, h3, h5⟩
        · simp at h6

theorem storeOp_wp (Kk : C.Ok) (S : Sim w0 O0 X N U m ρ a w) (hx : ExT C m.e.get []) (hf : Fresh U n) {Γ : Nat → Option (FSum C)} {T : TypeId} {x y : Operand} (ho : o.op = .store T x y)
    (h : (opP C Γ n o ex).run m = some f) {m' : St C} (hm : f.on m = some m') {K : Act → World → Prop} {Q : Exit → Act → World → Prop}
    (hK : ∀ ρ' v w', Sim w0 O0 X N (Up U n) m' ρ' (a.put o.dst v) w' → K (a.put o.dst v) w') : o.wp C.P a w K Q := by
  simp only [opP, ho] at h
  split at h
  · obtain ⟨v, h1, h2⟩ := Prg.run_bind_some h
    obtain ⟨u, h3, h4⟩ := Prg.run_bind_some h2
    have hv := opd_sound S hx h1
    have hu := opd_sound S hx h3
    unfold storeP at h4
    split at h4
    · simp at h4
    · rename_i g ys hs
      have hys := sv_cells hs hu
      have hyl := csRel_length hys
      simp only [Array.length_toList] at hyl
      have hone := csRel_one hys
      cases hb : (Nat.beq ys.length (sizeT C T) && (C.P.info? T).isSome) with
      | false => rw [hb] at h4; simp at h4
      | true =>
        rw [hb] at h4
        simp only [Bool.and_eq_true, Nat.beq_eq, Option.isSome_iff_exists] at hb
        obtain ⟨hsz, i, hi⟩ := hb
        rw [sizeT_of hi] at hsz
        simp only [Bool.not_true, cond] at h4
        have hexec : ∀ {ad : Addr} {w' : World}, a.eval x = .pointer (some ad) → (storeVar T ad (a.eval y)).run C.P w = .ok () w' → (execOp a.eval o).run C.P w = .ok .skip w' := by
          intro ad w' he hr
          simp [execOp, ho, he, Instr.storeAt, Instr.sureAddr, hr]
        split at h4
        · rename_i nm off
          obtain ⟨B, h5, h6⟩ := Prg.run_getB_some h4
          cases B with
          | l _ _ => simp at h6
          | f _ _ => simp at h6
          | c T0 cs =>
            simp only at h6
            cases hle : Nat.ble (off + ys.length) cs.length with
            | false => rw [hle] at h6; simp at h6
            | true =>
              rw [hle] at h6
              simp only [cond, Prg.run_ret, Option.some.injEq] at h6
              subst h6
              have hle' := Nat.ble_eq.mp hle
              obtain ⟨hUn, b, hb1, he⟩ := hv
              obtain ⟨_, b', vs, q1, q2, q3⟩ := S.blocks nm _ h5
              rw [hb1] at q1
              simp only [Value.pointer.injEq, Option.some.injEq, Addr.mk.injEq, and_true] at q1
              obtain rfl := q1
              have hcl := csRel_length q3
              simp only [Array.length_toList] at hcl
              have hrun := hexec he (storeVar_run (w := w) hi q2 (by omega) (by omega) hone)
              simp only [Eff.on, setE, Option.some.injEq] at hm
              subst hm
              unfold Oper.wp
              rw [hrun]
              refine hK ρ undef _ ?_
              refine S.setBlk (b0 := b) (B0 := .c T0 (put cs off ys)) (es := []) Up.old h5 rfl (by rw [hb1]; rfl) rfl (by simp) (fun k hk => setRow_other w b k _ hk) rfl rfl rfl ?_
              intro O' hl
              refine ⟨b, _, hb1, setRow_heap w b vs _ T0 (0, 0) q2, ?_⟩
              simpa using hl.cells (csRel_put q3 hys off)
        · rename_i nm t ix off
          obtain ⟨xs, h5, h6⟩ := Prg.run_bind_some h4
          obtain ⟨r, h7, h8⟩ := Prg.run_bind_some h6
          obtain ⟨es, h9, h10⟩ := Prg.run_bind_some h8
          generalize hrw : C.enc t (xs.getD r.2.toNat (C.dft t)) = row at h10
          cases hle : Nat.ble (off + ys.length) row.length with
          | false => rw [hle] at h10; simp at h10
          | true =>
            rw [hle] at h10
            simp only [cond, Prg.run_ret, Option.some.injEq] at h10
            subst h10
            have hle' := Nat.ble_eq.mp hle
            obtain ⟨i', n', g', o', c', p1, p2, p3, p4, he⟩ := hv
            have hi' := intOf_int h7 p1
            obtain ⟨id, hB, hE⟩ := listOwn_sound h5
            obtain ⟨hUn, xs', vals, q1, q2, q3⟩ := S.blocks nm _ hB
            rw [hE] at q1
            simp only [Option.some.injEq, Ent.ro.injEq, heq_eq_eq, true_and] at q1
            subst q1
            obtain ⟨_, p5, _⟩ := p4
            rcases q3.2 with ⟨q4, q5⟩ | ⟨gg, cap, cur, q4, _, q5, q6, q7, q8, q9⟩
            · rw [q4] at p5; simp at p5
            · rw [q4] at p5
              simp only [Value.slice.injEq, Option.some.injEq, Addr.mk.injEq, and_true] at p5
              obtain ⟨⟨rfl, rfl⟩, rfl, rfl⟩ := p5
              obtain ⟨k1, k2, k3⟩ := entsAs_sound S h9 hys
              simp only [Array.length_toList] at k2
              have hrl : row.length = (C.kinds t).length := by rw [← hrw, ← Kk.encK t, List.length_map]
              rw [hi'] at p2 p3 he
              have hmul : r.2.toNat * (C.kinds t).length + (C.kinds t).length ≤ xs.length * (C.kinds t).length := by
                have := Nat.mul_le_mul_right (C.kinds t).length (show r.2.toNat + 1 ≤ xs.length by omega)
                rw [Nat.add_mul] at this; omega
              have hcap : xs.length * (C.kinds t).length ≤ c' * (C.kinds t).length := Nat.mul_le_mul_right _ q6
              simp only [Nat.zero_add] at he
              have hrun := hexec he (storeVar_run (w := w) hi q5 (by omega) (by omega) hone)
              have hmul2 : vals.length = xs.length * (C.kinds t).length := q3.1
              simp only [Eff.on] at hm
              split at hm
              · cases hm
              · rename_i e' hse
                simp only [Option.some.injEq] at hm
                subst hm
                unfold Oper.wp
                rw [hrun]
                refine hK ρ undef _ ?_
                refine S.setBlk (b0 := g') (B0 := .l t n) Up.old hB rfl (by rw [q4]; rfl) hse (by simp) (fun k hk => setRow_other w g' k _ hk) rfl rfl rfl ?_
                intro O' hl
                have hrows := store_rows (w := w) (O := Owns X m ρ) (us := (a.eval y).cells.toList) Kk rfl p3 q2 hrw.symm (by first | (rw [k1]; congr 1; done) | (rw [k1]; congr 1; simp; omega)) (by simp; omega) (by simp; omega) k3 hmul2
                refine ⟨xs.set r.2.toNat (C.dec t (put row off es)), put vals (r.2.toNat * (C.kinds t).length + off) (a.eval y).cells.toList, (setE_get _ _ _ hse).2 (n, .ro t (xs.set r.2.toNat (C.dec t (put row off es)))) (by simp), ?_, ?_⟩
                · intro k x hk j e hj
                  obtain ⟨v, h1, h2⟩ := hrows k x hk j e hj
                  exact ⟨v, h1, hl.s.2 h2⟩
                · rw [q4]
                  refine ⟨by rw [put_length _ _ _ (by simp; omega)]; simp [hmul2], .inr ⟨g', c', _, by simp, Nat.zero_le _, setRow_heap w g' cur _ _ (0, 0) q5, by simpa using q6, q7, ?_, ?_⟩⟩
                  · simp only [List.size_toArray]
                    rw [put_length _ _ _ (by simp; omega)]
                    simpa using q8
                  · simp only [List.length_set]
                    rw [← q9]
                    exact put_take _ _ _ _ (by simp; omega) (by simp; omega)
        · simp at h4
  · simp at h
end Go.Sx

/- The symbolic executor: append. -/
namespace Go.Sx
open Go
variable {C : Cfg} {O : Nat → Prop} {w0 : World} {O0 : Frm} {X : Nat → Prop} {N : Nat} {U : Nat → Prop} {m : St C} {ρ : Nat → Value} {a : Act} {w : World}
variable {o : Oper} {ex : Ex} {f : Eff C} {n : Nat}

theorem news_of (K : C.Ok) {t : Nat} {xs : List (C.R t)} {g off : Nat} (h : ∀ i x, xs[i]? = some x → ∀ j e, (C.enc t x)[j]? = some e → ∃ u, w.cell? ⟨g, off + (i * (C.kinds t).length + j), none⟩ = some u ∧ Rel C w O e u) (hz : 0 < (C.kinds t).length) :
    ∃ news : List Value, news.length = xs.length * (C.kinds t).length ∧ (∀ (j : Nat) (u : Value), news[j]? = some u → w.cell? ⟨g, off + j, none⟩ = some u ∧ u.oneCell' = true) ∧
      ∀ (i : Nat) (x : C.R t), xs[i]? = some x → ∀ (j : Nat) (e : Ent C.R), (C.enc t x)[j]? = some e → ∃ u, news[i * (C.kinds t).length + j]? = some u ∧ Rel C w O e u := by
  generalize hs : (C.kinds t).length = sz at *
  have hlen : ∀ x, (C.enc t x).length = sz := fun x => by rw [← hs, ← K.encK t x, List.length_map]
  obtain ⟨news, h1, h2⟩ := list_of (p := fun q u => ∀ x e, xs[q / sz]? = some x → (C.enc t x)[q % sz]? = some e → w.cell? ⟨g, off + q, none⟩ = some u ∧ Rel C w O e u) (xs.length * sz) (by
    intro q hq
    have hi : q / sz < xs.length := Nat.div_lt_of_lt_mul (by rw [Nat.mul_comm]; exact hq)
    have hj : q % sz < (C.enc t xs[q / sz]).length := by rw [hlen]; exact Nat.mod_lt _ hz
    obtain ⟨u, hu1, hu2⟩ := h (q / sz) _ (List.getElem?_eq_getElem hi) (q % sz) _ (List.getElem?_eq_getElem hj)
    refine ⟨u, ?_⟩
    intro x e hx he
    rw [List.getElem?_eq_getElem hi] at hx
    simp only [Option.some.injEq] at hx
    subst hx
    rw [List.getElem?_eq_getElem hj] at he
    simp only [Option.some.injEq] at he
    subst he
    have hdm : q / sz * sz + q % sz = q := by rw [Nat.mul_comm]; exact Nat.div_add_mod q sz
    rw [hdm] at hu1
    exact ⟨hu1, hu2⟩)
  refine ⟨news, h1, ?_, ?_⟩
  · intro q u hu
    have hq : q < xs.length * sz := by rw [← h1]; exact (List.getElem?_eq_some_iff.mp hu).1
    have hi : q / sz < xs.length := Nat.div_lt_of_lt_mul (by rw [Nat.mul_comm]; exact hq)
    have hj : q % sz < (C.enc t xs[q / sz]).length := by rw [hlen]; exact Nat.mod_lt _ hz
    have := h2 q u hu _ _ (List.getElem?_eq_getElem hi) (List.getElem?_eq_getElem hj)
    exact ⟨this.1, (rel_cells this.2).2⟩
  · intro i x hx j e he
    have hi : i < xs.length := (List.getElem?_eq_some_iff.mp hx).1
    have hj : j < sz := by rw [← hlen x]; exact (List.getElem?_eq_some_iff.mp he).1
    have hq : i * sz + j < news.length := by
      rw [h1]
      have := Nat.mul_le_mul_right sz (show i + 1 ≤ xs.length by omega)
      rw [Nat.add_mul] at this; omega
    refine ⟨news[i * sz + j], List.getElem?_eq_getElem hq, ?_⟩
    have h3 : (i * sz + j) / sz = i := by rw [Nat.mul_comm, Nat.mul_add_div hz, Nat.div_eq_of_lt hj, Nat.add_zero]
    have h4 : (i * sz + j) % sz = j := by rw [Nat.mul_comm, Nat.mul_add_mod, Nat.mod_eq_of_lt hj]
    have := h2 _ _ (List.getElem?_eq_getElem hq) x e (by rw [h3]; exact hx) (by rw [h4]; exact he)
    exact this.2

theorem run_append_none {T ty el : TypeId} {i : TypeInfo} {base : Option Addr} {sLen sCap c : Nat} (hT : C.P.underlying T = some (.slice el)) (hi : C.P.info? el = some i) (hle : sLen ≤ sCap) :
    (Builtin.append_ #[T, T] ty #[.slice base sLen sCap, .slice none 0 c]).run C.P w = .ok (.slice base sLen sCap) w := by
  cases base <;> simp [Builtin.append_, run_underlying hT, sizeOf, typeInfo, hi, Builtin.lenOf, hle, Builtin.firstCells, storeCells]

theorem append_run (K : C.Ok) {T ty el : TypeId} {t : Nat} (hT : C.P.underlying T = some (.slice el)) (ht : C.tOf el = some t) {v u : Value} {k : Nat} {vals : List Value} {ys : List (C.R t)}
    (hown : w.ownsRow 0 el (C.kinds t).length v k vals) (hread : LRead C w O t ys u) (hlen : k + ys.length ≤ mostLen) :
    ∃ v' w' news, (Builtin.append_ #[T, T] ty #[v, u]).run C.P w = .ok v' w' ∧ w'.ownsRow 0 el (C.kinds t).length v' (k + ys.length) (vals ++ news) ∧ w.grownBy w' v.ownBlock ∧
      (∀ b, v'.ownBlock = some b → v.ownBlock = some b ∨ w.heap.size ≤ b) ∧
      ∀ (i : Nat) (x : C.R t), ys[i]? = some x → ∀ (j : Nat) (e : Ent C.R), (C.enc t x)[j]? = some e → ∃ u, news[i * (C.kinds t).length + j]? = some u ∧ Rel C w O e u := by
  obtain ⟨i, z, hi, hz, hsz, hzs, hpos, hby⟩ := K.info el t ht
  obtain ⟨ya, yc, hu, hyc, hne⟩ := hread
  have h63 : k + ys.length ≤ maxLen := by unfold maxLen; unfold mostLen at hlen; omega
  have hbytes : (k + ys.length) * i.bytes ≤ 140737488355328 := by
    have := Nat.mul_le_mul hlen hby
    unfold mostLen at this
    omega
  cases hya : ya with
  | none =>
    have hy0 : ys = [] := by
      cases ys with
      | nil => rfl
      | cons y ys => obtain ⟨g, off, h, _⟩ := hne (by simp); rw [hya] at h; cases h
    subst hy0
    subst hya
    have hv : ∃ base sCap, v = .slice base k sCap ∧ k ≤ sCap := by
      rcases hown.2 with ⟨q4, q5⟩ | ⟨g, cap, cur, q4, _, _, q6, _⟩
      · exact ⟨none, 0, by rw [q4, q5], by omega⟩
      · exact ⟨_, cap, q4, q6⟩
    obtain ⟨base, sCap, rfl, hle⟩ := hv
    refine ⟨.slice base k sCap, w, [], ?_, by simpa using hown, ⟨rfl, rfl, rfl, Nat.le_refl _, fun _ _ _ => rfl⟩, fun b h => .inl h, fun i x h => by simp at h⟩
    rw [hu]
    exact run_append_none hT hi hle
  | some ad =>
    obtain ⟨news, hl, hnews, hrel⟩ : ∃ news : List Value, news.length = ys.length * (C.kinds t).length ∧ (∀ (j : Nat) (u : Value), news[j]? = some u → w.cell? (ad.add j) = some u ∧ u.oneCell' = true) ∧
        ∀ (i : Nat) (x : C.R t), ys[i]? = some x → ∀ (j : Nat) (e : Ent C.R), (C.enc t x)[j]? = some e → ∃ u, news[i * (C.kinds t).length + j]? = some u ∧ Rel C w O e u := by
      by_cases hy0 : ys = []
      · subst hy0
        exact ⟨[], by simp, fun j u h => by simp at h, fun i x h => by simp at h⟩
      · obtain ⟨g, off, h1, h2⟩ := hne hy0
        rw [hya] at h1
        simp only [Option.some.injEq] at h1
        subst h1
        obtain ⟨news, p1, p2, p3⟩ := news_of K h2 (by omega)
        exact ⟨news, p1, fun j u hj => by rw [Addr.add_lit]; exact p2 j u hj, p3⟩
    have h1 : ∀ u ∈ news, u.oneCell' = true := by
      intro u hu'
      obtain ⟨j, hj, hju⟩ := List.getElem_of_mem hu'
      exact (hnews j u (by rw [List.getElem?_eq_getElem hj, hju])).2
    have hnews' : ∀ j u, news[j]? = some u → w.cell? (ad.add j) = some u := fun j u hj => (hnews j u hj).1
    rw [hu, hya]
    rcases hown.2 with ⟨q4, q5⟩ | ⟨g, cap, cur, q4, _, q5, q6, q7, q8, q9⟩
    · subst q4; subst q5
      have hv0 : vals = [] := List.eq_nil_of_length_eq_zero (by simpa using hown.1)
      subst hv0
      obtain ⟨v', w', r1, r2, r3, r4⟩ := run_append_own (P := C.P) w w.heap.size T ty el i z (C.kinds t).length i.bytes hT hi hz hsz rfl (by omega) (by omega) (.slice none 0 0) 0 [] (World.ownsRow_nil _ _ _ _) ad ys.length yc news hl hnews' h1 h63 hbytes (Nat.le_refl _)
      refine ⟨v', w', news, r1, ⟨r2.1, ?_⟩, r3, ?_, hrel⟩
      · rcases r2.2 with h | ⟨g, cap, cur, h1, _, h3⟩
        · exact .inl h
        · exact .inr ⟨g, cap, cur, h1, Nat.zero_le _, h3⟩
      · intro b hb
        exact .inr (r2.lt b hb).1
    · obtain ⟨v', w', r1, r2, r3, _⟩ := run_append_own (P := C.P) w 0 T ty el i z (C.kinds t).length i.bytes hT hi hz hsz rfl (by omega) (by omega) v k vals hown ad ys.length yc news hl hnews' h1 h63 hbytes (Nat.zero_le _)
      refine ⟨v', w', news, r1, r2, r3, ?_, hrel⟩
      intro b hb
      subst q4
      by_cases hroom : k + ys.length ≤ cap
      · have hfit : k * i.size + news.length ≤ cur.size := by rw [hl, q8, hsz, ← Nat.add_mul]; exact Nat.mul_le_mul_right _ hroom
        have hr := run_append_room (P := C.P) w T ty el i hT hi g k cap cur q5 ad ys.length yc news (by rw [hsz]; exact hl) hnews' h1 hroom hfit
        rw [r1] at hr
        simp only [Result.ok.injEq] at hr
        rw [hr.1] at hb
        exact .inl hb
      · have holds : ∀ j u, vals[j]? = some u → w.cell? ((⟨g, 0, none⟩ : Addr).add j) = some u := hown.cells (g := g) rfl
        have hr := run_append_grow (P := C.P) w T ty el i z hT hi hz ⟨g, 0, none⟩ k cap vals (by rw [hsz]; exact hown.1) holds ad ys.length yc news (by rw [hsz]; exact hl) hnews' (by omega) (by unfold mostLen at hlen; omega) (growslice_fits (by omega) hbytes)
        rw [r1] at hr
        simp only [Result.ok.injEq] at hr
        rw [hr.1] at hb
        simp only [Value.ownBlock, Option.some.injEq] at hb
        exact .inr (by omega)

theorem ownBlock_blkOf {base : Nat} {e : TypeId} {size : Nat} {v : Value} {k : Nat} {xs : List Value} (h : w.ownsRow base e size v k xs) : blkOf v = v.ownBlock := by
  rcases h.2 with ⟨q4, _⟩ | ⟨g, cap, cur, q4, _⟩ <;> rw [q4] <;> rfl

theorem appendOp_wp (Kk : C.Ok) (S : Sim w0 O0 X N U m ρ a w) (hf : Fresh U n) (hd : dstOk N o = true) {as : Array Operand} {ts : Array TypeId} (ho : o.op = .call { callee := .builtin .append, args := as, argTypes := ts })
    {T : TypeId} (h0 : ts[0]? = some T) (h1 : ts[1]? = some T) {x y : SV} {v u : Value} (has : as.map a.eval = #[v, u]) (hv : SRel C U m.e.get ρ w (Owns X m ρ) x v) (hu : SRel C U m.e.get ρ w (Owns X m ρ) y u)
    (h : (appendP C o n T x y).run m = some f) (hob : ∀ b ∈ f.ob, b = true) {m' : St C} (hm : f.on m = some m') {K : Act → World → Prop} {Q : Exit → Act → World → Prop}
    (hK : ∀ ρ' v w', Sim w0 O0 X N (Up U n) m' ρ' (a.put o.dst v) w' → K (a.put o.dst v) w') : o.wp C.P a w K Q := by
  have hexec : ∀ {r : Value} {w' : World}, (Builtin.append_ #[T, T] o.type #[v, u]).run C.P w = .ok r w' → (execOp a.eval o).run C.P w = .ok (.value r) w' := by
    intro r w' hr
    obtain ⟨cs, hcs⟩ := call_builtin (a := a) ho
    rw [hcs, has]
    have he : Builtin.append_ ts o.type #[v, u] = Builtin.append_ #[T, T] o.type #[v, u] := by simp [Builtin.append_, h0, h1]
    simp only [builtin, he, Sem.run_bind, hr]
    rfl
  unfold appendP at h
  split at h
  · rename_i el c d hT
    split at h
    · simp at h
    · rename_i t ht
      obtain ⟨ys, h2, h3⟩ := Prg.run_bind_some h
      have hread := listAs_sound S h2 hu
      have helT := Kk.elT el t ht
      split at h3
      · simp only [Prg.run_ret, Option.some.injEq] at h3
        subst h3
        have hl : ys.length ≤ mostLen := of_decide_eq_true (hob _ (by simp))
        have hv0 : v = .slice none 0 0 := hv
        obtain ⟨v', w', news, r1, r2, r3, r4, r5⟩ := append_run (ty := o.type) Kk hT ht (w := w) (v := v) (k := 0) (vals := []) (by rw [hv0]; exact World.ownsRow_nil _ _ _ _) hread (by omega)
        simp only [Eff.on] at hm
        split at hm
        · cases hm
        · rename_i e' hse
          simp only [Option.some.injEq] at hm
          subst hm
          unfold Oper.wp
          rw [hexec r1]
          refine hK (upd ρ n v') _ _ ?_
          refine S.newBlk (Rm := fun _ => False) (B0 := .l t n) (rv := v') Up.old hf.it Up.new hd hse rfl ?_ r3.size ?_ ?_ r3.os r3.tape r3.output ?_ ?_
          · intro k B hk
            simp only [setB, Tr.get_set] at hk
            by_cases hkn : k = n
            · rw [if_pos hkn] at hk; simp only [Option.some.injEq] at hk; exact .inr ⟨hkn, hk.symm⟩
            · rw [if_neg hkn] at hk; exact .inl ⟨hkn, not_false, hk⟩
          · intro b hb _
            exact r3.block b hb (by rw [hv0]; simp [Value.ownBlock])
          · intro b hb
            rw [ownBlock_blkOf r2] at hb
            rcases r4 b hb with h4 | h4
            · rw [hv0] at h4; simp [Value.ownBlock] at h4
            · exact .inl h4
          · intro O' hl'
            refine ⟨ys, news, (setE_get _ _ _ hse).2 (n, .ro t ys) (by simp), ?_, by rw [upd_eq, helT]; simpa using r2⟩
            intro i x hi j e he
            obtain ⟨q, hq1, hq2⟩ := r5 i x hi j e he
            exact ⟨q, hq1, hl'.s.2 hq2⟩
          · intro O' hl'
            refine ⟨Up.new, by rw [upd_eq], ?_⟩
            rw [upd_eq]
            rcases r2.2 with ⟨q4, _⟩ | ⟨g, cap, cur, q4, _⟩
            · exact ⟨none, 0, 0, q4⟩
            · exact ⟨_, _, _, q4⟩
      · rename_i nm
        obtain ⟨xs, h4, h5⟩ := Prg.run_bind_some h3
        simp only [Prg.run_ret, Option.some.injEq] at h5
        subst h5
        have hl : xs.length + ys.length ≤ mostLen := of_decide_eq_true (hob _ (by simp))
        obtain ⟨id, hB, hE⟩ := listOwn_sound h4
        obtain ⟨hUn, xs', vals, q1, q2, q3⟩ := S.blocks nm _ hB
        rw [hE] at q1
        simp only [Option.some.injEq, Ent.ro.injEq, heq_eq_eq, true_and] at q1
        subst q1
        obtain ⟨_, hv0, _⟩ := hv
        rw [← hv0, helT] at q3
        obtain ⟨v', w', news, r1, r2, r3, r4, r5⟩ := append_run (ty := o.type) Kk hT ht q3 hread hl
        have hnm : nm ≠ n := by rintro rfl; exact hf.it hUn
        simp only [Eff.on] at hm
        split at hm
        · cases hm
        · rename_i e' hse
          simp only [Option.some.injEq] at hm
          subst hm
          unfold Oper.wp
          rw [hexec r1]
          refine hK (upd ρ n v') _ _ ?_
          refine S.newBlk (Rm := fun k => k = nm) (B0 := .l t n) (rv := v') Up.old hf.it Up.new hd hse rfl ?_ r3.size ?_ ?_ r3.os r3.tape r3.output ?_ ?_
          · intro k B hk
            simp only [setB, Tr.get_set] at hk
            by_cases hkn : k = n
            · rw [if_pos hkn] at hk; simp only [Option.some.injEq] at hk; exact .inr ⟨hkn, hk.symm⟩
            · rw [if_neg hkn] at hk
              by_cases hkm : k = nm
              · rw [if_pos hkm] at hk; cases hk
              · rw [if_neg hkm] at hk; exact .inl ⟨hkn, hkm, hk⟩
          · intro b hb hrm
            refine r3.block b hb ?_
            intro hc
            exact hrm nm _ rfl hB rfl (by rw [← hv0, ownBlock_blkOf q3]; exact hc.symm)
          · intro b hb
            rw [ownBlock_blkOf r2] at hb
            rcases r4 b hb with h4 | h4
            · exact .inr ⟨nm, _, rfl, hB, rfl, by rw [← hv0, ownBlock_blkOf q3]; exact h4⟩
            · exact .inl h4
          · intro O' hl'
            refine ⟨xs ++ ys, vals ++ news, (setE_get _ _ _ hse).2 (n, .ro t (xs ++ ys)) (by simp), ?_, by rw [upd_eq, helT, List.length_append]; exact r2⟩
            have hvl : vals.length = xs.length * (C.kinds t).length := q3.1
            intro i x hi j e he
            rw [List.getElem?_append] at hi
            by_cases hix : i < xs.length
            · rw [if_pos hix] at hi
              obtain ⟨q, hq1, hq2⟩ := q2 i x hi j e he
              refine ⟨q, ?_, hl'.s.2 hq2⟩
              rw [List.getElem?_append_left (List.getElem?_eq_some_iff.mp hq1).1]
              exact hq1
            · rw [if_neg hix] at hi
              obtain ⟨q, hq1, hq2⟩ := r5 (i - xs.length) x hi j e he
              refine ⟨q, ?_, hl'.s.2 hq2⟩
              have hmul : i * (C.kinds t).length = xs.length * (C.kinds t).length + (i - xs.length) * (C.kinds t).length := by rw [← Nat.add_mul]; congr 1; omega
              rw [List.getElem?_append_right (by omega)]
              rw [← hq1]; congr 1; omega
          · intro O' hl'
            refine ⟨Up.new, by rw [upd_eq], ?_⟩
            rw [upd_eq]
            rcases r2.2 with ⟨q4, _⟩ | ⟨g, cap, cur, q4, _⟩
            · exact ⟨none, 0, 0, q4⟩
            · exact ⟨_, _, _, q4⟩
      · simp at h3
  · simp at h
end Go.Sx
