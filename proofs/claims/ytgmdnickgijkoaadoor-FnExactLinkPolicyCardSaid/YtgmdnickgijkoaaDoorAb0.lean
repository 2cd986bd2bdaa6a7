/-
  An evaluator of Go code over typed values: what a value of a Go type is as a Lean value (lists, pairs, whole numbers),
  and what a piece of code does to the variables, as a function that the kernel can unfold.
  Its soundness over the model stands in the next texts.
-/
import GoSem.Claim
import GoSem.ClaimKeys
import Derived.Calls
import Derived.Laws.Sem
import Derived.OrdersHeld
namespace Go.Ab
noncomputable section

/-! ## Types of plain data -/
/-- A tree: what a node holds, and its kids. -/
inductive Tree (α : Type) where
  | node (v : α) (kids : List (Tree α))
def Tree.val {α : Type} : Tree α → α
  | .node v _ => v
def Tree.kids {α : Type} : Tree α → List (Tree α)
  | .node _ k => k

inductive Ty where
  | int (k : IntKind) | bool | str | list (t : Ty) | unit | pair (a b : Ty)
  /-- what a map held, in the order in which it came in -/
  | map (k v : Ty)
  /-- a struct whose last field is a slice of its own kind -/
  | tree (a : Ty)

@[reducible] def Ty.den : Ty → Type
  | .int _ => Int
  | .bool => Bool
  | .str => List Int
  | .list t => List t.den
  | .unit => Unit
  | .pair a b => a.den × b.den
  | .map k v => List (k.den × v.den)
  | .tree a => Tree a.den

def Ty.dflt : (t : Ty) → t.den
  | .int _ => (0 : Int)
  | .bool => false
  | .str => ([] : List Int)
  | .list _ => []
  | .unit => ()
  | .pair a b => (a.dflt, b.dflt)
  | .map _ _ => []
  | .tree a => .node a.dflt []

/-- Is it whole numbers, texts, truth values, and structs of such? -/
def Ty.keyFlat : Ty → Bool
  | .int _ | .bool | .str | .unit => true
  | .pair a b => a.keyFlat && b.keyFlat
  | _ => false

/-- How many cells of memory. -/
def Ty.cells : Ty → Nat
  | .unit => 0
  | .pair a b => a.cells + b.cells
  | .tree a => a.cells + 1
  | _ => 1

def Ty.scalar : Ty → Bool
  | .unit | .pair _ _ | .tree _ => false
  | _ => true

def Ty.eq? : (a b : Ty) → Option (PLift (a = b))
  | .int k, .int k' => if h : k = k' then some ⟨by rw [h]⟩ else none
  | .bool, .bool => some ⟨rfl⟩
  | .str, .str => some ⟨rfl⟩
  | .list t, .list t' => match Ty.eq? t t' with
    | some ⟨h⟩ => some ⟨by rw [h]⟩
    | none => none
  | .unit, .unit => some ⟨rfl⟩
  | .pair a b, .pair a' b' => match Ty.eq? a a', Ty.eq? b b' with
    | some ⟨h⟩, some ⟨h'⟩ => some ⟨by rw [h, h']⟩
    | _, _ => none
  | .map a b, .map a' b' => match Ty.eq? a a', Ty.eq? b b' with
    | some ⟨h⟩, some ⟨h'⟩ => some ⟨by rw [h, h']⟩
    | _, _ => none
  | .tree a, .tree a' => match Ty.eq? a a' with
    | some ⟨h⟩ => some ⟨by rw [h]⟩
    | none => none
  | _, _ => none

def Ty.decEq : (t : Ty) → (x y : t.den) → Decidable (x = y)
  | .int _ => fun (x y : Int) => Int.instDecidableEq x y
  | .bool => fun (x y : Bool) => instDecidableEqBool x y
  | .str => fun (x y : List Int) => instDecidableEqList x y
  | .list t => fun (x y : List t.den) => @instDecidableEqList _ t.decEq x y
  | .unit => fun (_ _ : Unit) => isTrue rfl
  | .pair a b => fun (x y : a.den × b.den) => @instDecidableEqProd _ _ a.decEq b.decEq x y
  | .map a b => fun (x y : List (a.den × b.den)) => @instDecidableEqList _ (@instDecidableEqProd _ _ a.decEq b.decEq) x y
  | .tree _ => fun _ _ => Classical.propDecidable _

/-- The type of data that a Go type is, by the program's table. -/
def tyFields (rec : TypeId → Option Ty) (off : Nat) : List Field → Option Ty
  | [] => some .unit
  | [f] => if f.offset = off then rec f.type else none
  | f :: g :: fs => if f.offset = off then (rec f.type).bind fun a => (tyFields rec (off + a.cells) (g :: fs)).map (.pair a) else none

/-- A struct whose last field is a slice of its own kind. -/
def treeOf (P : Program) (rec : TypeId → Option Ty) (t : TypeId) (fs : List Field) : Option Ty :=
  match fs.getLast? with
  | some f => match P.underlying f.type with
    | some (.slice e) => bif Nat.beq e t then (match tyFields rec 0 fs.dropLast with
      | some a => bif Nat.beq f.offset a.cells then some (.tree a) else none
      | none => none) else none
    | _ => none
  | none => none

def tyRaw (P : Program) (rec : TypeId → Option Ty) (t : TypeId) : Option Ty :=
  match P.underlying t with
  | some .bool => some .bool
  | some (.int k) => some (.int k)
  | some .string => some .str
  | some (.slice e) => (rec e).map .list
  | some (.map k e) => match rec k, rec e with
    | some a, some b => some (.map a b)
    | _, _ => none
  | some (.struct fs) => match treeOf P rec t fs.toList with
   | some ty => some ty
   | none => match fs.toList with
    | [f] => if f.offset = 0 then (rec f.type).map fun a => .pair a .unit else none
    | l => tyFields rec 0 l
  | _ => none

def tyOf (P : Program) : Nat → TypeId → Option Ty
  | 0, _ => none
  | n + 1, t => match tyRaw P (tyOf P n) t with
    | some ty => bif Nat.beq (P.cellsOf t) ty.cells && (P.info? t).isSome then some ty else none
    | none => none

def tyDepth : Nat := 12

/-! ## What a variable holds -/
inductive V where
  | any
  /-- of an operation that was not wanted -/
  | un
  | d (t : Ty) (x : t.den)
  | agg (cs : List V)
  /-- an address in memory that never turns again: what stands there -/
  | eptr (cs : List V)
  /-- an address in a box of the call's own -/
  | ptr (d s off : Nat)
  /-- the address of a part of an element in a row of the call's own -/
  | rptr (d s sz : Nat) (i : Int) (off : Nat)
  /-- a slice to which the call may append -/
  | own (tok : Nat) (t : Ty) (xs : List t.den)
  | nils
  /-- a slice over a whole row of the call's own -/
  | msl (d s : Nat)
  | fn (f : Nat) (caps : List V)
  | tup (vs : List V)
  /-- a slice of the call's own whose elements may be written -/
  | raw (k : Nat)
  /-- the address of a part of such an element -/
  | qptr (k sz : Nat) (i : Int) (off : Nat)
  /-- a map of the call's own -/
  | mp (d s : Nat)
  /-- a slice of the call's own, with all that it leads to -/
  | dr (k : Nat)
  /-- the address of a part of such a slice's element -/
  | dq (k sz : Nat) (i : Int) (off : Nat)

/-- The elements of such a slice. -/
structure RBox where
  ty : Ty
  xs : List ty.den

inductive Box where
  | none
  | cells (cs : List V)
  | rows (t : Ty) (xs : List t.den)
  | map (k v : Ty) (es : List (k.den × v.den))

structure St where
  tm : Nat → Nat → V
  bx : Nat → Nat → Box
  nt : Nat
  lv : Nat → Bool
  rw : Nat → Option RBox
  /-- what package variables hold that nothing turns -/
  gl : Nat → Option (List V)
  /-- what stands in slices that are the call's own with all that they lead to -/
  dr : Nat → Option RBox
  nd : Nat

def explode : (t : Ty) → t.den → List V
  | .pair a b, x => explode a x.1 ++ explode b x.2
  | .unit, _ => []
  | .int k, x => [.d (.int k) x]
  | .bool, x => [.d .bool x]
  | .str, x => [.d .str x]
  | .list t, x => [.d (.list t) x]
  | .map k v, x => [.d (.map k v) x]
  | .tree a, x => explode a x.val ++ [.d (.list (.tree a)) x.kids]

/-- A datum as a variable's value. -/
def unpack : (t : Ty) → t.den → V
  | .pair a b, x => .agg (explode (.pair a b) x)
  | .unit, _ => .agg []
  | .int k, x => .d (.int k) x
  | .bool, x => .d .bool x
  | .str, x => .d .str x
  | .list t, x => .d (.list t) x
  | .map k v, x => .d (.map k v) x
  | .tree a, x => .agg (explode (.tree a) x)

def cast? (t t' : Ty) (x : t.den) : Option t'.den :=
  match Ty.eq? t t' with
  | some ⟨h⟩ => some (h ▸ x)
  | none => none

def castL? (t t' : Ty) (x : List t.den) : Option (List t'.den) :=
  match Ty.eq? t t' with
  | some ⟨h⟩ => some (h ▸ x)
  | none => none

def packS (t : Ty) (v : V) : Option t.den :=
  match t, v with
  | .list t, .own _ t' x => castL? t' t x
  | .list _, .nils => some []
  | t, .d t' x => cast? t' t x
  | _, _ => none

def pack : (t : Ty) → List V → Option t.den
  | .pair a b, cs => match pack a (cs.take a.cells), pack b (cs.drop a.cells) with
    | some x, some y => some (x, y)
    | _, _ => none
  | .unit, [] => some ()
  | .int k, [v] => packS (.int k) v
  | .bool, [v] => packS .bool v
  | .str, [v] => packS .str v
  | .list t, [v] => packS (.list t) v
  | .map k e, [v] => packS (.map k e) v
  | .tree a, cs => match pack a (cs.take a.cells), cs.drop a.cells with
    | some v, [k] => (packS (.list (.tree a)) k).map fun ks => Tree.node v ks
    | _, _ => none
  | _, _ => none

def V.cellsOf : V → List V
  | .agg cs => cs
  | v => [v]

/-- A value as a datum of a type. -/
def packV (t : Ty) (v : V) : Option t.den :=
  match t, v with
  | .pair a b, .agg cs => pack (.pair a b) cs
  | .unit, .agg cs => pack .unit cs
  | .tree a, .agg cs => pack (.tree a) cs
  | .pair _ _, _ | .unit, _ | .tree _, _ => none
  | t, v => packS t v

/-- Is it known how many cells it has? -/
def V.plain : V → Bool
  | .any | .un | .tup _ | .raw _ | .qptr .. | .dq .. => false
  | _ => true

def upd (f : Nat → Nat → V) (d t : Nat) (v : V) : Nat → Nat → V :=
  fun x y => bif Nat.beq y t && Nat.beq x d then v else f x y

def updB (f : Nat → Nat → Box) (d t : Nat) (v : Box) : Nat → Nat → Box :=
  fun x y => bif Nat.beq y t && Nat.beq x d then v else f x y

def updR (f : Nat → Option RBox) (t : Nat) (v : Option RBox) : Nat → Option RBox := fun x => bif Nat.beq x t then v else f x

def updL (f : Nat → Bool) (t : Nat) (v : Bool) : Nat → Bool := fun x => bif Nat.beq x t then v else f x

def intsOf (s : ByteArray) : List Int := s.data.toList.map fun b => (b.toNat : Int)

def inK (k : IntKind) (x : Int) : Bool := decide (k.min ≤ x) && decide (x ≤ k.max)

def ofConst : Value → V
  | .bool b => .d .bool b
  | .int k n => bif inK k n then .d (.int k) n else .any
  | .string s => bif Nat.ble s.size 140737488355328 then .d .str (intsOf s) else .any
  | .slice none 0 0 => .nils
  | _ => .any

def St.ev (st : St) (d : Nat) : Operand → V
  | .tmp t => st.tm d t
  | .const v => ofConst v
  | .func f => .fn f []
  | .global _ => .any

def St.set (st : St) (d t : Nat) (v : V) : St := { st with tm := upd st.tm d t v }

def St.put (st : St) (d : Nat) (dst : Option Nat) (v : V) : St :=
  match dst with
  | some t => st.set d t v
  | none => st

def St.setB (st : St) (d t : Nat) (b : Box) : St := { st with bx := updB st.bx d t b }

/-- A new mark of a slice that may grow. -/
def St.mint (st : St) : St := { st with nt := st.nt + 1, lv := updL st.lv st.nt true }
def St.spend (st : St) (tok : Nat) : St := { st with lv := updL st.lv tok false, rw := updR st.rw tok none }
def St.setR (st : St) (tok : Nat) (b : Option RBox) : St := { st with rw := updR st.rw tok b }
def St.mintR (st : St) (b : RBox) : St := (st.mint).setR st.nt (some b)
def St.setD (st : St) (k : Nat) (b : Option RBox) : St := { st with dr := updR st.dr k b }
def St.mintD (st : St) (b : RBox) : St := { st with dr := updR st.dr st.nd (some b), nd := st.nd + 1 }

def inB (i : Int) (n : Nat) : Bool := decide (0 ≤ i) && decide (i < (n : Int))

def rd {α : Type} (xs : List α) (i : Int) (d : α) : α := xs.getD i.toNat d

/-- How deep an address in a value reaches. -/
def V.le (n : Nat) : V → Bool
  | .ptr dp _ _ | .rptr dp _ _ _ _ | .msl dp _ | .mp dp _ => Nat.ble dp n
  | .agg cs | .eptr cs | .fn _ cs | .tup cs => leL n cs
  | _ => true
where leL (n : Nat) : List V → Bool
  | [] => true
  | c :: cs => c.le n && leL n cs

/-- No address in it. -/
def V.flat : V → Bool
  | .ptr .. | .rptr .. | .msl .. | .fn .. | .eptr .. | .any | .un | .tup .. | .raw _ | .qptr .. | .mp .. | .dr _ | .dq .. => false
  | .agg cs => flatL cs
  | _ => true
where flatL : List V → Bool
  | [] => true
  | c :: cs => c.flat && flatL cs

def spliceAt (cs : List V) (off : Nat) (vs : List V) : List V := cs.take off ++ vs ++ cs.drop (off + vs.length)

/-! ## The code -/
variable {R : Type}

abbrev Kont (R : Type) := St → Option R

def cmpI (op : BinOp) (a b : Int) : Bool :=
  match op with
  | .eql => decide (a = b) | .neq => !decide (a = b)
  | .lss => decide (a < b) | .leq => decide (a ≤ b) | .gtr => decide (b < a) | .geq => decide (b ≤ a)
  | _ => false

/-- Go's order of texts. -/
def lessI : List Int → List Int → Bool
  | _, [] => false
  | [], _ :: _ => true
  | a :: x, b :: y => decide (a < b) || (decide (a = b) && lessI x y)

def cmpS (op : BinOp) (a b : List Int) : Bool :=
  match op with
  | .eql => decide (a = b) | .neq => !decide (a = b)
  | .lss => lessI a b | .leq => !lessI b a | .gtr => lessI b a | .geq => !lessI a b
  | _ => false

def room : Int := Classical.choose (⟨140737488355328, rfl⟩ : ∃ r : Int, r = 140737488355328)
theorem room_eq : room = 140737488355328 := Classical.choose_spec (⟨140737488355328, rfl⟩ : ∃ r : Int, r = 140737488355328)

/-- Can two structs of a type be told apart by their cells? -/
def eqOk (P : Program) : Nat → TypeId → Bool
  | 0, _ => false
  | n + 1, t => match P.underlying t with
    | some .bool | some (.int _) | some .string => true
    | some (.struct fs) => !P.stoodInHeld t && fs.toList.all fun f => f.name != "_" && eqOk P n f.type
    | _ => false

def binC (P : Program) (op : BinOp) (t : TypeId) (x y : V) (K : V → Option R) : Option R :=
  match x, y with
  | .d (.int k) a, .d (.int k') b =>
    match op with
    | .shl => bif decide ((0 : Int) ≤ b) then K (.d (.int k) (k.wrap ((a : Int) * 2 ^ (min (Int.toNat b) k.bits)))) else none
    | .shr => bif decide ((0 : Int) ≤ b) then K (.d (.int k) (Int.fdiv a (2 ^ (min (Int.toNat b) k.bits)))) else none
    | op => if k = k' then
      match op with
      | .add => K (.d (.int k) (k.wrap (a + b)))
      | .sub => K (.d (.int k) (k.wrap (a - b)))
      | .mul => K (.d (.int k) (k.wrap (a * b)))
      | .quo => bif decide ((b : Int) = 0) then none else K (.d (.int k) (k.wrap (Int.tdiv a b)))
      | .rem => bif decide ((b : Int) = 0) then none else K (.d (.int k) (Int.tmod a b))
      | .eql | .neq | .lss | .leq | .gtr | .geq => K (.d .bool (cmpI op a b))
      | .and => K (.d (.int k) (k.wrap (BitVec.ofInt k.bits a &&& BitVec.ofInt k.bits b).toNat))
      | .or => K (.d (.int k) (k.wrap (BitVec.ofInt k.bits a ||| BitVec.ofInt k.bits b).toNat))
      | .xor => K (.d (.int k) (k.wrap (BitVec.ofInt k.bits a ^^^ BitVec.ofInt k.bits b).toNat))
      | _ => none
      else none
  | .d .str a, .d .str b =>
    match op with
    | .add => bif decide (((a : List Int).length : Int) + ((b : List Int).length : Int) ≤ room) then K (.d .str ((a : List Int) ++ (b : List Int))) else none
    | .eql | .neq | .lss | .leq | .gtr | .geq => K (.d .bool (cmpS op a b))
    | _ => none
  | .d .bool a, .d .bool b =>
    match P.underlying t with
    | some .bool => match op with
      | .eql => K (.d .bool (a == b))
      | .neq => K (.d .bool (a != b))
      | _ => none
    | _ => none
  | .agg a, .agg b =>
    match tyOf P tyDepth t with
    | some ty => bif !ty.scalar && eqOk P tyDepth t && !(P.eqGuardType P.depth t) then match pack ty a, pack ty b with
      | some u, some v => match op with
        | .eql => K (.d .bool (@decide (u = v) (ty.decEq u v)))
        | .neq => K (.d .bool (!(@decide (u = v) (ty.decEq u v))))
        | _ => none
      | _, _ => none
      else none
    | none => none
  | _, _ => none

open Classical in
/-- Two ways that come to one answer. -/
def both (a b : Option R) : Option R := if a = b then a else none

/-- The constant nil. -/
def nilOp : Operand → Bool
  | .const (.slice none 0 0) => true
  | _ => false

/-- A slice of a length held against nil: one that is empty may be nil, or not. -/
def nilL (op : BinOp) (n : Nat) (K : V → Option R) : Option R :=
  match op with
  | .eql => bif decide (0 < n) then K (.d .bool false) else both (K (.d .bool true)) (K (.d .bool false))
  | .neq => bif decide (0 < n) then K (.d .bool true) else both (K (.d .bool false)) (K (.d .bool true))
  | _ => none

def nilC (P : Program) (op : BinOp) (t : TypeId) (x : V) (K : V → Option R) : Option R :=
  match P.underlying t with
  | some (.slice _) => match x with
    | .d (.list t') xs => nilL op (List.length (α := t'.den) xs) K
    | .own _ _ xs => nilL op xs.length K
    | .nils => match op with
      | .eql => K (.d .bool true)
      | .neq => K (.d .bool false)
      | _ => none
    | _ => none
  | _ => none

def unC (op : UnOp) (x : V) (K : V → Option R) : Option R :=
  match op, x with
  | .not, .d .bool b => K (.d .bool (!b))
  | .neg, .d (.int k) a => K (.d (.int k) (k.wrap (0 - a)))
  | _, _ => none

/-- May values of a Go type be a map's keys here? -/
def keyOk (P : Program) (t : TypeId) : Bool :=
  match P.underlying t with
  | some .bool | some (.int _) | some .string => true
  | some (.struct _) => eqOk P tyDepth t && P.keyTypeAt tyDepth t && match tyOf P tyDepth t with
    | some ty => ty.keyFlat
    | none => false
  | _ => false

/-- What a map holds at a key. -/
def getM (k : Ty) {α : Type} (es : List (k.den × α)) (x : k.den) (z : α) : α :=
  match es with
  | [] => z
  | e :: es => bif @decide (x = e.1) (k.decEq x e.1) then e.2 else getM k es x z

/-- A map with something put at a key. -/
def setM (k : Ty) {α : Type} (es : List (k.den × α)) (x : k.den) (y : α) : List (k.den × α) :=
  match es with
  | [] => [(x, y)]
  | e :: es => bif @decide (x = e.1) (k.decEq x e.1) then (x, y) :: es else e :: setM k es x y

/-- The value and the number of cells of a variable of a Go type. -/
def isAggB (P : Program) (t : TypeId) : Bool :=
  match P.underlying t with
  | some (.struct _) | some (.array _ _) => true
  | _ => false

def loadCs (P : Program) (t : TypeId) (cs : List V) (off : Nat) (K : V → Option R) : Option R :=
  match P.underlying t with
  | some _ => match isAggB P t with
    | true =>
      let l := (cs.drop off).take (P.cellsOf t)
      bif Nat.beq l.length (P.cellsOf t) then K (.agg l) else none
    | false => match cs.drop off with
      | c :: _ => K c
      | [] => none
  | none => none

def Ty.one : Ty → Bool
  | .int _ | .bool | .str => true
  | _ => false

/-- The cells of an array whose elements take one cell, as data. -/
def cellsD (ty : Ty) : List V → Option (List ty.den)
  | [] => some []
  | c :: cs => match packS ty c, cellsD ty cs with
    | some x, some xs => some (x :: xs)
    | _, _ => none

/-- Such an array's cells, with one of them written. -/
def setAtC (ty : Ty) (i : Int) (x : ty.den) : Nat → List V → List V
  | _, [] => []
  | j, c :: cs => (match packS ty c with
    | some y => V.d ty (bif decide (i = (j : Int)) then x else y)
    | none => c) :: setAtC ty i x (j + 1) cs

def loadC (P : Program) (st : St) (t : TypeId) (a : V) (K : V → Option R) : Option R :=
  match a with
  | .eptr cs => loadCs P t cs 0 K
  | .ptr d s off => match st.bx d s with
    | .cells cs => loadCs P t cs off K
    | _ => none
  | .rptr d s sz i off => match st.bx d s with
    | .rows ty xs => bif Nat.beq sz ty.cells && inB i xs.length then loadCs P t (explode ty (rd xs i ty.dflt)) off K else none
    | .cells cs => match tyOf P tyDepth t with
      | some ty => match cellsD ty cs with
        | some xs => bif Nat.beq sz 1 && Nat.beq off 0 && ty.one && (P.underlying t).isSome && !isAggB P t then
            (bif inB i xs.length then K (.d ty (rd xs i ty.dflt)) else none)
          else none
        | none => none
      | none => none
    | _ => none
  | .qptr k sz i off => match st.rw k with
    | some ⟨ty, xs⟩ => bif Nat.beq sz ty.cells && inB i xs.length then loadCs P t (explode ty (rd xs i ty.dflt)) off K else none
    | none => none
  | _ => none

def storeC (P : Program) (st : St) (t : TypeId) (a v : V) (K : Kont R) : Option R :=
  match a with
  | .ptr d s off => match st.bx d s with
    | .cells cs =>
      let vs := v.cellsOf
      bif Nat.beq vs.length (P.cellsOf t) && Nat.ble (off + vs.length) cs.length && v.plain && V.le.leL d vs && (P.info? t).isSome then
        K (st.setB d s (.cells (spliceAt cs off vs)))
      else none
    | _ => none
  | .rptr d s sz i off => match st.bx d s with
    | .rows ty xs =>
      let vs := v.cellsOf
      bif Nat.beq sz ty.cells && inB i xs.length && Nat.beq vs.length (P.cellsOf t) && v.plain && (P.info? t).isSome && Nat.ble (off + vs.length) ty.cells then
        match pack ty (spliceAt (explode ty (rd xs i ty.dflt)) off vs) with
        | some e => K (st.setB d s (.rows ty (xs.set (Int.toNat i) e)))
        | none => none
      else none
    | .cells cs => match tyOf P tyDepth t with
      | some ty => match packS ty v, cellsD ty cs with
        | some x, some xs => bif Nat.beq sz 1 && Nat.beq off 0 && ty.one && Nat.beq (P.cellsOf t) 1 && (P.info? t).isSome then
            (bif inB i xs.length then K (st.setB d s (.cells (setAtC ty i x 0 cs))) else none)
          else none
        | _, _ => none
      | none => none
    | _ => none
  | .qptr k sz i off => match st.rw k with
    | some ⟨ty, xs⟩ =>
      let vs := v.cellsOf
      bif Nat.beq sz ty.cells && inB i xs.length && Nat.beq vs.length (P.cellsOf t) && v.plain && (P.info? t).isSome && Nat.ble (off + vs.length) ty.cells then
        match pack ty (spliceAt (explode ty (rd xs i ty.dflt)) off vs) with
        | some e => K (st.setR k (some ⟨ty, xs.set (Int.toNat i) e⟩))
        | none => none
      else none
    | none => none
  | _ => none

def zeroCells (P : Program) (t : TypeId) : Option (List V) :=
  match (P.info? t).bind (·.zero) with
  | some z => bif z.cells.toList.all (·.oneCell') then some (z.cells.toList.map ofConst) else none
  | none => none

def zeroOf (P : Program) (t : TypeId) (ty : Ty) : Option ty.den := (zeroCells P t).bind (pack ty)

def fieldOff (P : Program) (t : TypeId) (f : Nat) : Option (Nat × TypeId) :=
  match P.underlying t with
  | some (.struct fs) => (fs[f]?).map fun f => (f.offset, f.type)
  | _ => none

def fieldAddrC (P : Program) (t : TypeId) (x : V) (f : Nat) (K : V → Option R) : Option R :=
  match fieldOff P t f with
  | some (off, ft) =>
    bif Nat.beq (P.cellsOf ft) 0 then none else
    match x with
    | .ptr d s o => K (.ptr d s (o + off))
    | .eptr cs => K (.eptr (cs.drop off))
    | .rptr d s sz i o => K (.rptr d s sz i (o + off))
    | _ => none
  | none => none

def fieldC (P : Program) (t : TypeId) (x : V) (f : Nat) (K : V → Option R) : Option R :=
  match fieldOff P t f, x with
  | some (off, ft), .agg cs => loadCs P ft cs off K
  | _, _ => none

def sliceElem (P : Program) (t : TypeId) : Option TypeId :=
  match P.underlying t with
  | some (.slice e) => some e
  | _ => none

def indexAddrC (P : Program) (st : St) (t : TypeId) (x i : V) (K : V → Option R) : Option R :=
  match (sliceElem P t).bind (tyOf P tyDepth), x, i with
  | some ty, .d (.list ty') xs, .d (.int _) n =>
    match castL? ty' ty xs with
    | some xs => bif inB n (List.length (α := ty.den) xs) then K (.eptr (explode ty (rd (α := ty.den) xs n ty.dflt))) else none
    | none => none
  | some ty, .own _ ty' xs, .d (.int _) n =>
    match castL? ty' ty xs with
    | some xs => bif inB n (List.length (α := ty.den) xs) then K (.eptr (explode ty (rd (α := ty.den) xs n ty.dflt))) else none
    | none => none
  | some ty, .msl d s, .d (.int _) n => match st.bx d s with
    | .rows ty' xs => match castL? ty' ty xs with
      | some xs => bif inB n (List.length (α := ty.den) xs) then K (.rptr d s ty.cells n 0) else none
      | none => none
    | _ => none
  | some ty, .raw k, .d (.int _) n => match st.rw k with
    | some ⟨ty', xs⟩ => match castL? ty' ty xs with
      | some xs => bif inB n (List.length (α := ty.den) xs) then K (.qptr k ty.cells n 0) else none
      | none => none
    | none => none
  | some ty, .dr k, .d (.int _) n => match st.dr k with
    | some ⟨ty', xs⟩ => match castL? ty' ty xs with
      | some xs => bif inB n (List.length (α := ty.den) xs) then K (.dq k ty.cells n 0) else none
      | none => none
    | none => none
  | none, .ptr d s off, .d (.int _) n => match P.underlying t with
    | some (.array len e) => bif Nat.beq (P.cellsOf e) 1 && (P.info? e).isSome then (bif inB n len then K (.rptr d s 1 n off) else none) else none
    | _ => none
  | _, _, _ => none

def indexC (P : Program) (t : TypeId) (x i : V) (K : V → Option R) : Option R :=
  match P.underlying t, x, i with
  | some .string, .d .str s, .d (.int _) n => bif inB n (List.length (α := Int) s) then K (.d (.int .u8) (rd (α := Int) s n 0)) else none
  | some (.array len e), .agg cs, .d (.int _) n => match tyOf P tyDepth e with
    | some ty => match cellsD ty cs with
      | some xs => bif Nat.beq xs.length len && ty.one && Nat.beq (P.cellsOf e) 1 && (P.info? e).isSome && (P.underlying e).isSome && !isAggB P e then
          (bif inB n xs.length then K (.d ty (rd xs n ty.dflt)) else none)
        else none
      | none => none
    | none => none
  | _, _, _ => none

/-- The bounds of a cut. -/
def cutC (n : Nat) (lo hi : Option V) (K : Int → Int → Option R) : Option R :=
  match lo, hi with
  | none, none => K 0 n
  | some (.d (.int _) l), none => bif decide ((0 : Int) ≤ l) && decide ((l : Int) ≤ (n : Int)) then K l n else none
  | none, some (.d (.int _) h) => bif decide ((0 : Int) ≤ h) && decide ((h : Int) ≤ (n : Int)) then K 0 h else none
  | some (.d (.int _) l), some (.d (.int _) h) =>
    bif decide ((0 : Int) ≤ h) && decide ((h : Int) ≤ (n : Int)) then (bif decide ((0 : Int) ≤ l) && decide ((l : Int) ≤ h) then K l h else none) else none
  | _, _ => none

def cut {α : Type} (xs : List α) (l h : Int) : List α := (xs.take h.toNat).drop l.toNat

def sliceC (P : Program) (t : TypeId) (x : V) (lo hi : Option V) (K : V → Option R) : Option R :=
  match P.underlying t, x with
  | some .string, .d .str s => cutC (List.length (α := Int) s) lo hi fun l h => K (.d .str (cut (α := Int) s l h))
  | some (.slice e), .d (.list t) xs => bif Nat.beq (P.cellsOf e) t.cells && (P.info? e).isSome then cutC (List.length (α := t.den) xs) lo hi fun l h => K (.d (.list t) (cut (α := t.den) xs l h)) else none
  | some (.slice e), .own tok t xs => bif Nat.beq (P.cellsOf e) t.cells && (P.info? e).isSome then (match hi with
    | none => cutC xs.length lo none fun l h => K (.own tok t (cut xs l h))
    | some hi => cutC xs.length lo (some hi) fun l h => K (.d (.list t) (cut xs l h))) else none
  | _, _ => none

/-- A cut that leaves no room behind it. -/
def slice3C (P : Program) (t : TypeId) (x : V) (lo hi mx : Option V) (K : V → Option R) : Option R :=
  match P.underlying t, x, hi, mx with
  | some (.slice e), .d (.list t) xs, some (.d (.int _) h), some (.d (.int _) m) => bif Nat.beq (P.cellsOf e) t.cells && (P.info? e).isSome && decide ((h : Int) = m) then cutC (List.length (α := t.den) xs) lo hi fun l h => K (.d (.list t) (cut (α := t.den) xs l h)) else none
  | _, _, _, _ => none

def convC (P : Program) (src dst : TypeId) (x : V) (K : V → Option R) : Option R :=
  match P.underlying src, P.underlying dst, x with
  | some (.int _), some (.int k), .d (.int _) n => K (.d (.int k) (k.wrap n))
  | some .string, some .string, .d .str s => K (.d .str s)
  | some .string, some (.slice e), .d .str s => match P.underlying e with
    | some (.int .u8) => K (.d (.list (.int .u8)) s)
    | _ => none
  | some (.slice e), some .string, .d (.list (.int .u8)) s => match P.underlying e with
    | some (.int .u8) => bif decide ((List.length (α := Int) s : Int) ≤ room) then K (.d .str s) else none
    | _ => none
  | some (.slice e), some .string, .own _ (.int .u8) s => match P.underlying e with
    | some (.int .u8) => bif decide ((List.length (α := Int) s : Int) ≤ room) then K (.d .str s) else none
    | _ => none
  | some (.slice e), some .string, .nils => match P.underlying e with
    | some (.int .u8) => K (.d .str ([] : List Int))
    | _ => none
  | _, _, _ => none

def buildCs (P : Program) (fs : Array Field) : List V → List (Nat × V) → Option (List V)
  | cs, [] => some cs
  | cs, (i, v) :: rest => match fs[i]? with
    | some f =>
      let vs := v.cellsOf
      bif Nat.beq vs.length (P.cellsOf f.type) && (P.info? f.type).isSome && v.plain && Nat.ble (f.offset + vs.length) cs.length then buildCs P fs (spliceAt cs f.offset vs) rest else none
    | none => none

def buildAs (sz : Nat) : List V → List (Nat × V) → Option (List V)
  | cs, [] => some cs
  | cs, (i, v) :: rest =>
    let vs := v.cellsOf
    bif Nat.beq vs.length sz && v.plain && Nat.ble (i * sz + vs.length) cs.length then buildAs sz (spliceAt cs (i * sz) vs) rest else none

def buildC (P : Program) (t : TypeId) (parts : List (Nat × V)) (K : V → Option R) : Option R :=
  match P.underlying t, zeroCells P t with
  | some (.struct fs), some z => bif fs.toList.all fun f => (P.info? f.type).isSome then
      match buildCs P fs z parts with
      | some cs => K (.agg cs)
      | none => none
    else none
  | some (.array _ e), some z => bif (P.info? e).isSome then
      match buildAs (P.cellsOf e) z parts with
      | some cs => K (.agg cs)
      | none => none
    else none
  | _, _ => none

def fillL (ty : Ty) : List ty.den → List (Nat × V) → Option (List ty.den)
  | xs, [] => some xs
  | xs, (i, v) :: rest => match packV ty v with
    | some x => bif Nat.blt i xs.length then fillL ty (xs.set i x) rest else none
    | none => none

def buildSliceC (P : Program) (st : St) (t : TypeId) (len : Nat) (parts : List (Nat × V)) (K : V → St → Option R) : Option R :=
  match sliceElem P t with
  | some e => match tyOf P tyDepth e with
    | some ty => match zeroOf P e ty with
      | some z =>
        bif Nat.ble (len * ty.cells) 16777216 && Nat.blt 0 ty.cells then
          match fillL ty (List.replicate len z) parts with
          | some xs => K (.own st.nt ty xs) st.mint
          | none => none
        else none
      | none => none
    | none => none
  | none => none

/-- The same, with elements that may be written. -/
def buildRawC (P : Program) (st : St) (t : TypeId) (len : Nat) (parts : List (Nat × V)) (K : V → St → Option R) : Option R :=
  match sliceElem P t with
  | some e => match tyOf P tyDepth e with
    | some ty => match zeroOf P e ty with
      | some z =>
        bif Nat.ble (len * ty.cells) 16777216 && Nat.blt 0 ty.cells then
          match fillL ty (List.replicate len z) parts with
          | some xs => K (.raw st.nt) (st.mintR ⟨ty, xs⟩)
          | none => none
        else none
      | none => none
    | none => none
  | none => none

def lenC (P : Program) (st : St) (t : TypeId) (x : V) (K : V → Option R) : Option R :=
  match x with
  | .d .str s => match P.underlying t with
    | some .string => K (.d (.int .i64) (List.length (α := Int) s : Int))
    | _ => none
  | .d (.list ty) s => match P.underlying t with
    | some (.slice _) => K (.d (.int .i64) (List.length (α := ty.den) s : Int))
    | _ => none
  | .own _ _ xs => match P.underlying t with
    | some (.slice _) => K (.d (.int .i64) (xs.length : Int))
    | _ => none
  | .nils => match P.underlying t with
    | some (.slice _) => K (.d (.int .i64) (0 : Int))
    | _ => none
  | .msl d s => match P.underlying t, st.bx d s with
    | some (.slice _), .rows _ xs => K (.d (.int .i64) (xs.length : Int))
    | _, _ => none
  | .raw k => match P.underlying t, st.rw k with
    | some (.slice _), some ⟨_, xs⟩ => K (.d (.int .i64) (xs.length : Int))
    | _, _ => none
  | .dr k => match P.underlying t, st.dr k with
    | some (.slice _), some ⟨_, xs⟩ => K (.d (.int .i64) (xs.length : Int))
    | _, _ => none
  | _ => none

def minC (x y : V) (K : V → Option R) : Option R :=
  match x, y with
  | .d (.int k) a, .d (.int k') b => if k = k' then K (.d (.int k) (bif decide ((b : Int) < a) then b else a)) else none
  | _, _ => none

def maxC (x y : V) (K : V → Option R) : Option R :=
  match x, y with
  | .d (.int k) a, .d (.int k') b => if k = k' then K (.d (.int k) (bif decide ((a : Int) < b) then b else a)) else none
  | _, _ => none

def appendC (P : Program) (st : St) (t : TypeId) (s x : V) (K : V → St → Option R) : Option R :=
  match sliceElem P t with
  | some e => match tyOf P tyDepth e with
    | some ty => match zeroOf P e ty with
      | some _ =>
        bif Nat.beq ty.cells 0 then none else
        match packS (.list ty) x with
        | some ys => match s with
          | .nils => bif decide (((ys : List ty.den).length : Int) * (P.bytesOf e : Int) ≤ room) && decide (((ys : List ty.den).length : Int) ≤ room) then K (.own st.nt ty ys) st.mint else none
          | .own tok ty' xs => match castL? ty' ty xs with
            | some xs => bif st.lv tok then
                (bif decide ((((xs : List ty.den).length : Int) + ((ys : List ty.den).length : Int)) * (P.bytesOf e : Int) ≤ room) && decide (((xs : List ty.den).length : Int) + ((ys : List ty.den).length : Int) ≤ room) then
                  K (.own st.nt ty ((xs : List ty.den) ++ (ys : List ty.den))) ((st.spend tok).mint) else none) else none
            | none => none
          | .raw tok => match st.rw tok with
            | some ⟨ty', xs⟩ => match castL? ty' ty xs with
              | some xs => bif st.lv tok then
                (bif decide ((((xs : List ty.den).length : Int) + ((ys : List ty.den).length : Int)) * (P.bytesOf e : Int) ≤ room) && decide (((xs : List ty.den).length : Int) + ((ys : List ty.den).length : Int) ≤ room) then
                  K (.raw st.nt) ((st.spend tok).mintR ⟨ty, (xs : List ty.den) ++ (ys : List ty.den)⟩) else none) else none
              | none => none
            | none => none
          | _ => none
        | none => none
      | none => none
    | none => none
  | none => none

def makeSliceC (P : Program) (st : St) (d : Nat) (dst : Option Nat) (t : TypeId) (l c : V) (K : V → St → Option R) : Option R :=
  match sliceElem P t, dst with
  | some e, some s => match tyOf P tyDepth e with
    | some ty => match zeroOf P e ty with
      | some z => match l, c with
        | .d (.int .i64) n, .d (.int .i64) m =>
          match st.bx d s with
          | .none =>
            bif decide ((n : Int) = m) && decide ((0 : Int) ≤ n) && decide ((n : Int) * (P.bytesOf e : Int) ≤ room) && Nat.blt 0 ty.cells then
              K (.msl d s) (st.setB d s (.rows ty (List.replicate (Int.toNat n) z)))
            else none
          | _ => none
        | _, _ => none
      | none => none
    | none => none
  | _, _ => none

def mapTys (P : Program) (t : TypeId) : Option (TypeId × TypeId × Ty × Ty) :=
  match P.underlying t with
  | some (.map kt vt) => bif keyOk P kt then (match tyOf P tyDepth kt, tyOf P tyDepth vt with
    | some k, some v => some (kt, vt, k, v)
    | _, _ => none) else none
  | _ => none

def castE? (k v k' v' : Ty) (es : List (k.den × v.den)) : Option (List (k'.den × v'.den)) :=
  match Ty.eq? k k', Ty.eq? v v' with
  | some ⟨h⟩, some ⟨h'⟩ => some (h ▸ h' ▸ es)
  | _, _ => none

/-- What stands in a map that a value names. -/
def entriesOf (st : St) (k v : Ty) (m : V) : Option (List (k.den × v.den)) :=
  match m with
  | .d (.map k' v') es => castE? k' v' k v es
  | .mp d s => match st.bx d s with
    | .map k' v' es => castE? k' v' k v es
    | _ => none
  | _ => none

/-- Has the zero value of a type its shape? -/
def zeroFit (P : Program) (t : TypeId) (ty : Ty) : Bool :=
  match (P.info? t).bind (·.zero) with
  | some z => bif ty.scalar then z.oneCell' else (match z with
    | .agg _ => true
    | _ => false)
  | none => false

def lookupC (P : Program) (st : St) (t : TypeId) (m x : V) (ok : Bool) (K : V → Option R) : Option R :=
  match mapTys P t with
  | some (_, vt, k, v) => match entriesOf st k v m, packV k x, zeroOf P vt v with
    | some es, some x, some z => bif ok || !(zeroFit P vt v) then none else K (unpack v (getM k es x z))
    | _, _, _ => none
  | none => none

def makeMapC (P : Program) (st : St) (d : Nat) (dst : Option Nat) (t : TypeId) (K : V → St → Option R) : Option R :=
  match mapTys P t, dst with
  | some (_, _, k, v), some s => match st.bx d s with
    | .none => K (.mp d s) (st.setB d s (.map k v []))
    | _ => none
  | _, _ => none

def mapUpdateC (P : Program) (st : St) (t : TypeId) (m x y : V) (K : Kont R) : Option R :=
  match mapTys P t with
  | some (_, _, k, v) => match m with
    | .mp d s => match st.bx d s with
      | .map k' v' es => match castE? k' v' k v es, packV k x, packV v y with
        | some es, some x, some y => K (st.setB d s (.map k v (setM k es x y)))
        | _, _, _ => none
      | _ => none
    | _ => none
  | none => none

def dstOf (ops : List Oper) (j : Nat) : Option Nat := (ops[j]?).bind (·.dst)

/-! ## Slices that are the call's own with all that they lead to -/
/-- No map and no tree in it. -/
def Ty.dok : Ty → Bool
  | .map _ _ | .tree _ => false
  | .pair a b => a.dok && b.dok
  | .list t => t.dok
  | _ => true

/-- A whole number, a text, a truth value. -/
def V.scl : V → Bool
  | .d (.int _) _ | .d .bool _ | .d .str _ => true
  | _ => false

/-- Which slices of that kind a value names. -/
def V.drs : V → List Nat
  | .dr k => [k]
  | .agg cs => drsL cs
  | .tup cs => drsL cs
  | _ => []
where drsL : List V → List Nat
  | [] => []
  | c :: cs => c.drs ++ drsL cs

/-- The same as data. -/
def St.res (st : St) : V → V
  | .dr k => match st.dr k with
    | some ⟨t, xs⟩ => .d (.list t) xs
    | none => .any
  | .agg cs => .agg (resL st cs)
  | .tup cs => .tup (resL st cs)
  | v => v
where resL (st : St) : List V → List V
  | [] => []
  | c :: cs => st.res c :: resL st cs

/-- A call's result whose slices are the caller's own with all that they lead to. -/
def V.isD : V → Bool
  | .d _ _ => true
  | _ => false

def mintV : V → St → V × St
  | .d (.list t) xs, st => (.dr st.nd, st.mintD ⟨t, xs⟩)
  | .d (.int k) x, st => (.d (.int k) x, st)
  | .d .bool x, st => (.d .bool x, st)
  | .d .str x, st => (.d .str x, st)
  | .agg cs, st => bif cs.all V.isD then (.agg (mintL cs st).1, (mintL cs st).2) else (.any, st)
  | .tup cs, st => (.tup (mintL cs st).1, (mintL cs st).2)
  | _, st => (.any, st)
where mintL : List V → St → List V × St
  | [], st => ([], st)
  | c :: cs, st => ((mintV c st).1 :: (mintL cs (mintV c st).2).1, (mintL cs (mintV c st).2).2)

/-- New contents for the slices that a value names. -/
def hotSet : V → V → St → Option St
  | .dr k, .d (.list t) xs, st => match st.dr k with
    | some ⟨t', _⟩ => match Ty.eq? t' t with
      | some _ => some (st.setD k (some ⟨t, xs⟩))
      | none => none
    | none => none
  | .agg cs, .agg ds, st => hotL cs ds st
  | .d _ _, v, st => bif v.scl then some st else none
  | _, _, _ => none
where hotL : List V → List V → St → Option St
  | [], [], st => some st
  | c :: cs, d :: ds, st => (hotSet c d st).bind (hotL cs ds)
  | _, _, _ => none

def nodupB : List Nat → Bool
  | [] => true
  | k :: l => !(l.any (Nat.beq k)) && nodupB l

/-- What may be put into an element: whole numbers, texts, truth values, nil, and such slices. -/
def V.dpart0 : V → Bool
  | .nils => true
  | v => v.scl
def V.dpart (st : St) : V → Bool
  | .dr k => (st.dr k).isSome
  | v => v.dpart0

def St.dropD (st : St) : List Nat → St
  | [] => st
  | k :: l => (st.setD k none).dropD l

def storeDC (P : Program) (st : St) (t : TypeId) (k sz : Nat) (i : Int) (off : Nat) (v : V) (K : Kont R) : Option R :=
  match st.dr k with
  | some ⟨ty, xs⟩ =>
    let vs := v.cellsOf
    let ds := V.drs.drsL vs
    bif Nat.beq sz ty.cells && Nat.beq off 0 && inB i xs.length && Nat.beq vs.length ty.cells && Nat.beq (P.cellsOf t) ty.cells && (P.info? t).isSome && vs.all (V.dpart st) && nodupB (k :: ds) && ty.dok then
      match pack ty (St.res.resL st vs) with
      | some e => K ((st.dropD ds).setD k (some ⟨ty, xs.set (Int.toNat i) e⟩))
      | none => none
    else none
  | none => none

def storeX (P : Program) (st : St) (t : TypeId) (a v : V) (K : Kont R) : Option R :=
  match a with
  | .dq k sz i off => storeDC P st t k sz i off v K
  | a => storeC P st t a v K

def makeDrC (P : Program) (st : St) (t : TypeId) (l c : V) (K : V → St → Option R) : Option R :=
  match sliceElem P t with
  | some e => match tyOf P tyDepth e with
    | some ty => match zeroCells P e with
      | some zc => match pack ty zc with
        | some z => match l, c with
          | .d (.int .i64) n, .d (.int .i64) m =>
            bif decide ((n : Int) = m) && decide ((0 : Int) ≤ n) && decide ((n : Int) * (P.bytesOf e : Int) ≤ room) && Nat.blt 0 ty.cells && zc.all V.dpart0 && ty.dok then
              K (.dr st.nd) (st.mintD ⟨ty, List.replicate (Int.toNat n) z⟩)
            else none
          | _, _ => none
        | none => none
      | none => none
    | none => none
  | none => none

/-- A slice of one element, with all that it leads to the call's own. -/
def buildDrC (P : Program) (st : St) (t : TypeId) (len : Nat) (parts : List (Nat × V)) (K : V → St → Option R) : Option R :=
  match sliceElem P t with
  | some e => match tyOf P tyDepth e with
    | some ty => match parts with
      | [(0, v)] =>
        let vs := v.cellsOf
        let ds := V.drs.drsL vs
        bif Nat.beq len 1 && Nat.beq vs.length ty.cells && Nat.blt 0 ty.cells && Nat.ble ty.cells 16777216 && vs.all (V.dpart st) && nodupB ds && ty.dok && (zeroCells P e).isSome then
          match pack ty (St.res.resL st vs) with
          | some x => K (.dr st.nd) ((st.dropD ds).mintD ⟨ty, [x]⟩)
          | none => none
        else none
      | _ => none
    | none => none
  | none => none

/-- What such a slice, or nil, holds. -/
def drOf (st : St) (ty : Ty) : V → Option (List Nat × List ty.den)
  | .nils => some ([], [])
  | .dr k => match st.dr k with
    | some ⟨ty', xs⟩ => match castL? ty' ty xs with
      | some xs => some ([k], xs)
      | none => none
    | none => none
  | _ => none

/-- One such slice behind another: both are given up. -/
def appendDrC (P : Program) (st : St) (t : TypeId) (a b : V) (K : V → St → Option R) : Option R :=
  match sliceElem P t with
  | some e => match tyOf P tyDepth e with
    | some ty => match drOf st ty a, drOf st ty b with
      | some (ks, xs), some ([k'], ys) =>
        bif nodupB (k' :: ks) && Nat.blt 0 ty.cells && ty.dok && (match zeroCells P e with | some zc => Nat.beq zc.length ty.cells | none => false) && Nat.blt 0 ys.length && decide (((xs.length : Int) + (ys.length : Int)) * (P.bytesOf e : Int) ≤ room) && decide ((xs.length : Int) + (ys.length : Int) ≤ room) then
          K (.dr st.nd) ((st.dropD (k' :: ks)).mintD ⟨ty, xs ++ ys⟩)
        else none
      | _, _ => none
    | none => none
  | none => none

/-! ## Labels: heads of loops, and places where ways meet -/
inductive Item where
  /-- a variable, as it is -/
  | keep (d t : Nat)
  /-- a variable, as a slice to which the call may append -/
  | own (d t : Nat) (ty : Ty)
  /-- a variable, as a datum -/
  | data (d t : Nat) (ty : Ty)
  /-- a box of so many cells, each as it is -/
  | box (d s n : Nat)
  | rows (d s : Nat) (ty : Ty)
  /-- a box, as a datum -/
  | boxd (d s : Nat) (ty : Ty)
  /-- a variable, as a slice of the call's own whose elements may be written -/
  | raw (d t : Nat) (ty : Ty)
  /-- what a map of the call's own holds -/
  | mapb (d s : Nat) (k v : Ty)
  /-- a cell of a box, as a slice to which the call may append; the box comes behind -/
  | ownb (d s j : Nat) (ty : Ty)
  /-- a variable, as a slice of the call's own with all that it leads to -/
  | drb (d t : Nat) (ty : Ty)
  /-- a variable that names the same such slice as another -/
  | same (d t d0 t0 : Nat)

abbrev Ann := List Item

/-- A value without marks of slices that may grow. -/
def V.canon : V → V
  | .own _ t xs => .d (.list t) xs
  | .agg cs => .agg (canonL cs)
  | .eptr cs => .eptr (canonL cs)
  | .fn f cs => .fn f (canonL cs)
  | .tup cs => .tup (canonL cs)
  | .raw _ | .qptr .. | .dr _ | .dq .. => .any
  | v => v
where canonL : List V → List V
  | [] => []
  | c :: cs => c.canon :: canonL cs

/-- Are all boxes that a value names among the kept ones? -/
def V.kept (k : Nat → Nat → Bool) (q : Bool := true) : V → Bool
  | .ptr dp s _ | .rptr dp s _ _ _ | .msl dp s | .mp dp s => k dp s
  | .agg cs | .eptr cs | .fn _ cs | .tup cs => keptL k q cs
  | .raw _ | .qptr .. => q
  | _ => true
where keptL (k : Nat → Nat → Bool) (q : Bool) : List V → Bool
  | [] => true
  | c :: cs => V.kept k q c && keptL k q cs

def Item.isBox (d s : Nat) : Item → Bool
  | .box d' s' _ | .rows d' s' _ | .boxd d' s' _ | .mapb d' s' _ _ => Nat.beq s' s && Nat.beq d' d
  | _ => false

def Ann.keeps : Ann → Nat → Nat → Bool
  | [], _, _ => false
  | i :: A, d, s => i.isBox d s || Ann.keeps A d s

def St.live (A : Ann) : St → Ann → Option (List V)
  | _, [] => some []
  | st, .keep d t :: r => bif (st.tm d t).kept A.keeps then (St.live A st r).map ((st.tm d t).canon :: ·) else none
  | st, .own d t ty :: r => match st.tm d t with
    | .nils => (St.live A st r).map (.own 0 ty [] :: ·)
    | .own tok ty' xs => match castL? ty' ty xs with
      | some xs => bif st.lv tok then (St.live A (st.spend tok) r).map (.own 0 ty xs :: ·) else none
      | none => none
    | _ => none
  | st, .data d t ty :: r => match packV ty (st.tm d t) with
    | some x => (St.live A st r).map (unpack ty x :: ·)
    | none => none
  | st, .box d s n :: r => match st.bx d s with
    | .cells cs => bif Nat.beq cs.length n && V.kept.keptL A.keeps true cs then (St.live A st r).map (.agg (V.canon.canonL cs) :: ·) else none
    | _ => none
  | st, .rows d s ty :: r => match st.bx d s with
    | .rows ty' xs => match castL? ty' ty xs with
      | some xs => (St.live A st r).map (.d (.list ty) xs :: ·)
      | none => none
    | _ => none
  | st, .boxd d s ty :: r => match st.bx d s with
    | .cells cs => match pack ty cs with
      | some x => (St.live A st r).map (.agg (explode ty x) :: ·)
      | none => none
    | _ => none
  | st, .raw d t ty :: r => match st.tm d t with
    | .nils => (St.live A st r).map (.own 0 ty [] :: ·)
    | .raw tok => match st.rw tok with
      | some ⟨ty', xs⟩ => match castL? ty' ty xs with
        | some xs => bif st.lv tok then (St.live A (st.spend tok) r).map (.own 0 ty xs :: ·) else none
        | none => none
      | none => none
    | _ => none
  | st, .mapb d s k v :: r => match st.bx d s with
    | .map k' v' es => match castE? k' v' k v es with
      | some es => (St.live A st r).map (.d (.map k v) es :: ·)
      | none => none
    | _ => none
  | st, .ownb d s j ty :: r => match st.bx d s with
    | .cells cs => match cs[j]? with
      | some .nils => (St.live A st r).map (.own 0 ty [] :: ·)
      | some (.own tok ty' xs) => match castL? ty' ty xs with
        | some xs => bif st.lv tok then (St.live A (st.spend tok) r).map (.own 0 ty xs :: ·) else none
        | none => none
      | _ => none
    | _ => none
  | st, .drb d t ty :: r => match st.tm d t with
    | .dr k => match st.dr k with
      | some ⟨ty', xs⟩ => match castL? ty' ty xs with
        | some xs => (St.live A (st.setD k none) r).map (.d (.list ty) xs :: ·)
        | none => none
      | none => none
    | .nils => (St.live A st r).map (.d (.list ty) [] :: ·)
    | _ => none
  | st, .same d t d0 t0 :: r => match st.tm d t, st.tm d0 t0 with
    | .raw k, .raw k' => bif Nat.beq k k' && st.lv k && Nat.ble d0 d then (St.live A st r).map (.nils :: ·) else none
    | _, _ => none

def noG : Nat → Option (List V) := fun _ => none
def St.empty : St := ⟨fun _ _ => .any, fun _ _ => .none, 0, fun _ => false, fun _ => none, noG, fun _ => none, 0⟩

/-- The state at a label, from what is kept there. -/
def mkSt : Ann → List V → St
  | .keep d t :: r, v :: vs => (mkSt r vs).set d t v
  | .own d t ty :: r, .own _ ty' xs :: vs =>
    let st := mkSt r vs
    match castL? ty' ty xs with
    | some xs => st.mint.set d t (.own st.nt ty xs)
    | none => st
  | .data d t _ :: r, v :: vs => (mkSt r vs).set d t v
  | .box d s _ :: r, .agg cs :: vs => (mkSt r vs).setB d s (.cells cs)
  | .rows d s ty :: r, .d (.list ty') xs :: vs => match castL? ty' ty xs with
    | some xs => (mkSt r vs).setB d s (.rows ty xs)
    | none => mkSt r vs
  | .boxd d s _ :: r, .agg cs :: vs => (mkSt r vs).setB d s (.cells cs)
  | .raw d t ty :: r, .own _ ty' xs :: vs =>
    let st := mkSt r vs
    match castL? ty' ty xs with
    | some xs => (st.mintR ⟨ty, xs⟩).set d t (.raw st.nt)
    | none => st
  | .mapb d s k v :: r, .d (.map k' v') es :: vs => match castE? k' v' k v es with
    | some es => (mkSt r vs).setB d s (.map k v es)
    | none => mkSt r vs
  | .ownb d s j ty :: r, .own _ ty' xs :: vs =>
    let st := mkSt r vs
    match castL? ty' ty xs with
    | some xs => match st.bx d s with
      | .cells cs => st.mint.setB d s (.cells (cs.set j (.own st.nt ty xs)))
      | _ => st
    | none => st
  | .drb d t ty :: r, .d (.list ty') xs :: vs =>
    let st := mkSt r vs
    match castL? ty' ty xs with
    | some xs => (st.mintD ⟨ty, xs⟩).set d t (.dr st.nd)
    | none => st
  | .same d t d0 t0 :: r, _ :: vs => (mkSt r vs).set d t ((mkSt r vs).tm d0 t0)
  | _, _ => St.empty

abbrev Labels (R : Type) := List (List Nat × Kont R)

structure Ctx (R : Type) where
  P : Program
  /-- what stands behind a label -/
  L : List Nat → List V → Option R
  A : List (List Nat × Ann)
  /-- the calls whose code is walked in place -/
  I : List (List Nat × Nat)
  /-- the other calls -/
  con : Nat → List V → (V → Option R) → Option R
  inl : Nat → List Nat → Nat → List V → (V → Kont R) → Kont R
  lab : Nat → List Nat → Nat → (V → Kont R) → Labels R

def eqPath : List Nat → List Nat → Bool
  | [], [] => true
  | a :: x, b :: y => Nat.beq a b && eqPath x y
  | _, _ => false

def findPath {α : Type} : List (List Nat × α) → List Nat → Option α
  | [], _ => none
  | (p, a) :: r, q => bif eqPath p q then some a else findPath r q

/-- To a label. -/
def Ctx.jump (C : Ctx R) (path : List Nat) (st : St) : Option R :=
  match findPath C.A path with
  | some A => match St.live A st A with
    | some vs => C.L path vs
    | none => none
  | none => none

/-- A package variable. -/
def globOp : Operand → Option Nat
  | .global g => some g
  | _ => none

/-- A call's mark whose result is the caller's own: its number, so far on. -/
def ownMark : Nat := 1000000

/-- Behind a call whose result is the caller's own. -/
def ownK (d : Nat) (dst : Option Nat) (st : St) (K : Kont R) (v : V) : Option R :=
  match v with
  | .d (.list t) xs => K (st.mint.put d dst (.own st.nt t xs))
  | _ => none

/-- A call's mark whose result is the caller's own with all that it leads to. -/
def deepMark : Nat := 2000000
def deepK (d : Nat) (dst : Option Nat) (st : St) (K : Kont R) (v : V) : Option R :=
  K ((mintV v st).2.put d dst (mintV v st).1)

/-- A call's mark that turns what its first argument leads to. -/
def hotMark : Nat := 3000000
def hotK (d : Nat) (dst : Option Nat) (st : St) (a : V) (K : Kont R) (v : V) : Option R :=
  match v with
  | .tup [.d (.int .i64) k, b] => (hotSet a b st).bind fun st' => K (st'.put d dst (.d (.int .i64) k))
  | _ => none
/-- Data without maps and trees. -/
def V.dok1 : V → Bool
  | .d t _ => t.dok
  | _ => false
def V.dokV : V → Bool
  | .agg cs => cs.all V.dok1
  | v => v.dok1
/-- May what a value leads to be turned? -/
def V.hotOk (st : St) (a : V) : Bool := (st.res a).dokV && nodupB a.drs && a.drs.all (fun k => (st.dr k).isSome) && match a with
  | .dr _ => true
  | .agg cs => cs.all (V.dpart st)
  | _ => false

/-- A call of a function on data; slices that are the call's own with all that they lead to may be lent. -/
def callC (con : Nat → List V → (V → Option R) → Option R) (st : St) (g : Nat) (args : List V) (K : V → Option R) : Option R :=
  match V.drs.drsL args with
  | [] => con g args K
  | _ => con g (St.res.resL st args) fun v => bif v.scl then K v else none

def stepC (C : Ctx R) (d : Nat) (path : List Nat) (here : Nat) (o : Oper) (st : St) (K : Kont R) : Option R :=
  let out (v : V) : Option R := K (st.put d o.dst v)
  match o.op with
  | .move x | .assign x => out (st.ev d x)
  | .pick c a b => match st.ev d c with
    | .d .bool t => bif t then out (st.ev d a) else out (st.ev d b)
    | _ => none
  | .binOp op t x y _ => bif nilOp y then nilC C.P op t (st.ev d x) out else binC C.P op t (st.ev d x) (st.ev d y) out
  | .unOp op _ x => unC op (st.ev d x) out
  | .load t a => match globOp a with
    | some g => (match st.gl g with
      | some cs => loadCs C.P t cs 0 out
      | none => none)
    | none => loadC C.P st t (st.ev d a) out
  | .store t a x => storeX C.P st t (st.ev d a) (st.ev d x) fun st => K (st.put d o.dst .any)
  | .alloc e => match o.dst, zeroCells C.P e with
    | some s, some z => match st.bx d s with
      | .none => K ((st.setB d s (.cells z)).set d s (.ptr d s 0))
      | _ => none
    | _, _ => none
  | .box _ x => match o.dst with
    | some s => match st.bx d s with
      | .none => bif (st.ev d x).plain then K ((st.setB d s (.cells (st.ev d x).cellsOf)).set d s (.ptr d s 0)) else none
      | _ => none
    | none => none
  | .nilCheck x => match st.ev d x with
    | .ptr a b c => out (.ptr a b c)
    | .eptr cs => out (.eptr cs)
    | .rptr a b c e f => out (.rptr a b c e f)
    | _ => none
  | .fieldAddr t x f => fieldAddrC C.P t (st.ev d x) f out
  | .field t x f => fieldC C.P t (st.ev d x) f out
  | .indexAddr t x i => indexAddrC C.P st t (st.ev d x) (st.ev d i) out
  | .index t x i => indexC C.P t (st.ev d x) (st.ev d i) out
  | .slice t x lo hi none => sliceC C.P t (st.ev d x) (lo.map (st.ev d)) (hi.map (st.ev d)) out
  | .slice t x lo hi (some m) => slice3C C.P t (st.ev d x) (lo.map (st.ev d)) (hi.map (st.ev d)) (some (st.ev d m)) out
  | .convert s t x => convC C.P s t (st.ev d x) out
  | .extract x i => match st.ev d x with
    | .tup vs => match vs[i]? with
      | some v => out v
      | none => none
    | _ => none
  | .build t ps => buildC C.P t (ps.toList.map fun p => (p.1, st.ev d p.2)) out
  | .buildSlice t n ps => match findPath C.I (here :: path) with
    | some 0 => buildDrC C.P st t n (ps.toList.map fun p => (p.1, st.ev d p.2)) fun v st => K (st.put d o.dst v)
    | some _ => buildRawC C.P st t n (ps.toList.map fun p => (p.1, st.ev d p.2)) fun v st => K (st.put d o.dst v)
    | none => buildSliceC C.P st t n (ps.toList.map fun p => (p.1, st.ev d p.2)) fun v st => K (st.put d o.dst v)
  | .makeSlice t l c => match findPath C.I (here :: path) with
    | some _ => makeDrC C.P st t (st.ev d l) (st.ev d c) fun v st => K (st.put d o.dst v)
    | none => makeSliceC C.P st d o.dst t (st.ev d l) (st.ev d c) fun v st => K (st.put d o.dst v)
  | .lookup t x i ok => lookupC C.P st t (st.ev d x) (st.ev d i) ok out
  | .makeMap t none => makeMapC C.P st d o.dst t fun v st => K (st.put d o.dst v)
  | .mapUpdate t m k x => mapUpdateC C.P st t (st.ev d m) (st.ev d k) (st.ev d x) fun st => K (st.put d o.dst .any)
  | .insert t m k x => mapUpdateC C.P st t (st.ev d m) (st.ev d k) (st.ev d x) fun st => K (st.put d o.dst .any)
  | .makeFunc (.func f) first caps => match first.toList with
    | [] => out (.fn f (caps.toList.map (st.ev d)))
    | _ => none
  | .call { callee := .builtin .len, args, argTypes } => match args.toList, argTypes.toList with
    | [x], [t] => lenC C.P st t (st.ev d x) out
    | _, _ => none
  | .call { callee := .builtin .min, args, .. } => match args.toList with
    | [x, y] => minC (st.ev d x) (st.ev d y) out
    | _ => none
  | .call { callee := .builtin .max, args, .. } => match args.toList with
    | [x, y] => maxC (st.ev d x) (st.ev d y) out
    | _ => none
  | .call { callee := .builtin .append, args, argTypes } => match args.toList, argTypes.toList with
    | [s, x], [t, t'] => bif Nat.beq t t' then (match findPath C.I (here :: path) with
      | some _ => appendDrC C.P st t (st.ev d s) (st.ev d x) fun v st => K (st.put d o.dst v)
      | none => appendC C.P st t (st.ev d s) (st.ev d x) fun v st => K (st.put d o.dst v)) else none
    | _, _ => none
  | .call { callee := .value f, args, .. } => match st.ev d f with
    | .fn g caps => match findPath C.I (here :: path) with
      | some g' => bif Nat.beq g g' then C.inl d (here :: path) g (args.toList.map (st.ev d) ++ caps) (fun v st => K (st.put d o.dst v)) st else
        bif Nat.blt g ownMark then
          bif Nat.beq (g + ownMark) g' then C.con g' (args.toList.map (st.ev d) ++ caps) (ownK d o.dst st K) else
          bif Nat.beq (g + deepMark) g' then C.con g' (St.res.resL st (args.toList.map (st.ev d) ++ caps)) (deepK d o.dst st K) else
          bif Nat.beq (g + hotMark) g' then (match args.toList.map (st.ev d) ++ caps with
            | [a, .d (.int .i64) k] => bif V.hotOk st a then C.con g' [st.res a, .d (.int .i64) k] (hotK d o.dst st a K) else none
            | _ => none) else none
        else none
      | none => bif Nat.blt g ownMark then callC C.con st g (args.toList.map (st.ev d) ++ caps) out else none
    | _ => none
  | _ => none

def okDst (nn : Nat) (o : Oper) : Bool :=
  match o.dst with
  | some t => Nat.blt t nn
  | none => true

/-- The operations of a region, in the text's order. A guard's test parts the ways. -/
def opsC (C : Ctx R) (d nn : Nat) (path : List Nat) (all : List Oper) : Nat → List Oper → Kont R → Kont R
  | _, [], K, st => K st
  | here, o :: rest, K, st =>
    bif okDst nn o then
      match o.guard with
      | none => stepC C d path here o st (opsC C d nn path all (here + 1) rest K)
      | some (j, want) =>
        match dstOf all j with
        | none => none
        | some t => match st.tm d t with
          | .d .bool b =>
            bif b then
              (match want with
               | true => stepC C d path here o (st.set d t (.d .bool true)) (opsC C d nn path all (here + 1) rest K)
               | false => opsC C d nn path all (here + 1) rest K ((st.set d t (.d .bool true)).put d o.dst .un))
            else
              (match want with
               | true => opsC C d nn path all (here + 1) rest K ((st.set d t (.d .bool false)).put d o.dst .un)
               | false => stepC C d path here o (st.set d t (.d .bool false)) (opsC C d nn path all (here + 1) rest K))
          | .un => opsC C d nn path all (here + 1) rest K (st.put d o.dst .un)
          | _ => none
    else none

/-- The labels in the calls that are walked in place. -/
def opsL (C : Ctx R) (d nn : Nat) (path : List Nat) (all : List Oper) : Nat → List Oper → Kont R → Labels R
  | _, [], _ => []
  | here, o :: rest, K =>
    (match findPath C.I (here :: path) with
      | some g => C.lab d (here :: path) g (fun v st => opsC C d nn path all (here + 1) rest K (st.put d o.dst v))
      | none => []) ++ opsL C d nn path all (here + 1) rest K

inductive Ex where | normal | exit (i : Nat) | ret

abbrev KontE (R : Type) := Ex → St → Option R

/-- The first region of a piece of code: its name as a label. -/
def keyOf : Code → Nat
  | .region id _ _ => id
  | .seq a _ => keyOf a
  | .cond _ a _ => keyOf a
  | .block _ b => keyOf b
  | .loop b => keyOf b
  | .scope b => keyOf b
  | _ => 0

def seqK (nx : Kont R) (K : KontE R) : KontE R
  | .normal, st => nx st
  | e, st => K e st

def blkK (id : Nat) (K : KontE R) : KontE R
  | .exit i, st => bif Nat.beq i id then K .normal st else K (.exit i) st
  | e, st => K e st

/-- Is there a label ahead of a piece of code? (A loop's head has its own.) -/
def Ctx.cutAt (C : Ctx R) (path : List Nat) (b : Code) : Bool := (findPath C.A (1 :: keyOf b :: path)).isSome

/-- Does an operation turn no memory? -/
def isLight (P : Program) (o : Oper) : Bool :=
  match o.op with
  | .binOp _ _ _ y _ => !(nilOp y)
  | .load _ a => (globOp a).isNone
  | .move _ | .assign _ | .pick .. | .unOp .. | .nilCheck _ | .fieldAddr .. | .field .. | .indexAddr .. | .index .. | .slice .. | .extract .. | .build .. | .makeFunc .. | .lookup .. => true
  | .convert s t _ => match P.underlying s, P.underlying t with
    | some .string, some (.slice _) => false
    | _, _ => true
  | .call { callee := .builtin .len, .. } | .call { callee := .builtin .min, .. } | .call { callee := .builtin .max, .. } => true
  | _ => false

/-- Is it a call of a function? -/
def isCall (o : Oper) : Bool :=
  match o.op with
  | .call { callee := .value _, .. } => true
  | _ => false

/-- Does an operation make new memory, and turn nothing that was there? -/
def grows (P : Program) (o : Oper) : Bool :=
  match o.op with
  | .alloc _ | .box .. | .buildSlice .. | .makeSlice .. => true
  | .convert s t _ => match P.underlying s, P.underlying t with
    | some .string, some (.slice _) => true
    | _, _ => false
  | _ => false

def opndR : Operand → List Nat
  | .tmp t => [t]
  | _ => []

/-- The variables that an operation looks at. -/
def opReads (o : Oper) : List Nat :=
  match o.op with
  | .move x | .assign x => opndR x
  | .pick c a b => opndR c ++ opndR a ++ opndR b
  | .binOp _ _ x y _ => opndR x ++ opndR y
  | .unOp _ _ x => opndR x
  | .load _ a => opndR a
  | .nilCheck x => opndR x
  | .fieldAddr _ x _ => opndR x
  | .field _ x _ => opndR x
  | .indexAddr _ x i => opndR x ++ opndR i
  | .index _ x i => opndR x ++ opndR i
  | .lookup _ x i _ => opndR x ++ opndR i
  | .mapUpdate _ m k x | .insert _ m k x => opndR m ++ opndR k ++ opndR x
  | .slice _ x lo hi mx => opndR x ++ (lo.toList.flatMap opndR) ++ (hi.toList.flatMap opndR) ++ (mx.toList.flatMap opndR)
  | .convert _ _ x => opndR x
  | .extract x _ => opndR x
  | .build _ ps => ps.toList.flatMap fun p => opndR p.2
  | .box _ x => opndR x
  | .buildSlice _ _ ps => ps.toList.flatMap fun p => opndR p.2
  | .makeSlice _ l c => opndR l ++ opndR c
  | .makeFunc _ _ caps => caps.toList.flatMap opndR
  | .call { callee := .value f, args, .. } => opndR f ++ args.toList.flatMap opndR
  | .call { args, .. } => args.toList.flatMap opndR
  | _ => []

/-- Operations that make memory, and may stand in a bundle. -/
def heavyOp (o : Oper) : Bool :=
  match o.op with
  | .alloc _ | .box .. | .buildSlice .. | .makeSlice .. | .convert .. => true
  | .call { callee := .builtin .append, .. } => true
  | _ => false
def boxOp (o : Oper) : Bool :=
  match o.op with
  | .alloc _ | .box .. | .makeSlice .. => true
  | _ => false
def growOp (o : Oper) : Bool :=
  match o.op with
  | .buildSlice .. => true
  | .call { callee := .builtin .append, .. } => true
  | _ => false

/-- What an operation does to the evaluator's state. -/
inductive Eff where
  | val (v : V)
  | boxed (v : V) (b : Box)
  | grown (k : Option Nat) (v : V)
  /-- a call whose result is the caller's own with all that it leads to -/
  | deep (v : V) (dr : Nat → Option RBox) (nd : Nat)
def Eff.app (e : Eff) (d : Nat) (dst : Option Nat) (st : St) : St :=
  match e with
  | .val v => st.put d dst v
  | .boxed v b => match dst with
    | some t => (st.setB d t b).set d t v
    | none => st
  | .grown k v => (match k with
    | some k => (st.spend k).mint
    | none => st.mint).put d dst v
  | .deep v dr nd => ({ st with dr := dr, nd := nd } : St).put d dst v

/-! Several operations that may come in any order, one before the other. -/
def predsOf (o : Oper) : List Nat := (o.after.toList.filter (Region.binds .any)).map (·.on)
def predsAt (ops : Array Oper) (i : Nat) : List Nat :=
  match ops[i]? with
  | some o => predsOf o
  | none => []
def dstAt (ops : Array Oper) (i : Nat) : Option Nat := (ops[i]?).bind (·.dst)
def memN (i : Nat) : List Nat → Bool
  | [] => false
  | j :: l => Nat.beq i j || memN i l
/-- What an operation and its guard look at. -/
def looksAt (ops : Array Oper) (i : Nat) : List Nat :=
  match ops[i]? with
  | some o => opReads o ++ (match o.guard with
    | some (j, _) => (dstOf ops.toList j).toList
    | none => [])
  | none => []
def leftOf (ops : Array Oper) (listed : Array Bool) : List Nat := (List.range ops.size).filter fun i => !listed.getD i true
/-- A call whose result is to be the caller's own with all that it leads to. -/
def deepAt (I : List (List Nat × Nat)) (path : List Nat) (id : Nat) (ops : Array Oper) (i : Nat) : Bool :=
  match ops[i]? with
  | some o => (match o.op with
    | .call { callee := .value (.func g), .. } => Nat.blt g ownMark && (match findPath I ((1000 * id + i) :: path) with
      | some g' => Nat.beq (g + deepMark) g'
      | none => false)
    | _ => false)
  | none => false
def seesAt (P : Program) (ops : Array Oper) (i : Nat) : Bool :=
  match ops[i]? with
  | some o => isLight P o || isCall o
  | none => true
def plainAt (P : Program) (I : List (List Nat × Nat)) (path : List Nat) (id : Nat) (ops : Array Oper) (i : Nat) : Bool :=
  (match ops[i]? with
  | some o => isLight P o || ((heavyOp o || isCall o) && (findPath I ((1000 * id + i) :: path)).isNone)
  | none => false) || deepAt I path id ops i
def ancs (ops : Array Oper) (left : List Nat) : Nat → List Nat → List Nat
  | 0, acc => acc
  | n + 1, acc => ancs ops left n (left.filter fun i => memN i acc || acc.any fun k => memN i (predsAt ops k))
/-- Each comes behind what it waits for. -/
def topoOk (ops : Array Oper) (listed : Array Bool) : List Nat → List Nat → Bool
  | _, [] => true
  | before, i :: r => !memN i before && ((predsAt ops i).all fun p => listed.getD p false || memN p before) && topoOk ops listed (i :: before) r
/-- Does k wait for all of them? -/
def reachOk (ops : Array Oper) (k : Nat) : List Nat → Bool
  | [] => true
  | i :: r => (memN i (predsAt ops k) || r.any fun j => memN i (predsAt ops j)) && reachOk ops k r
def growsAt (ops : Array Oper) (i : Nat) : Bool :=
  match ops[i]? with
  | some o => growOp o
  | none => false
def boxAt (ops : Array Oper) (i : Nat) : Bool :=
  match ops[i]? with
  | some o => boxOp o
  | none => false
/-- The slots of the boxes that a bundle makes. -/
def slotsOf (ops : Array Oper) (S : List Nat) : List Nat := (S.filter (boxAt ops)).filterMap (dstAt ops)
def pairOk (ops : Array Oper) (i j : Nat) : Bool :=
  match dstAt ops j with
  | some t => (match dstAt ops i with
    | some t' => !Nat.beq t t'
    | none => true) && (!memN t (looksAt ops i) || memN j (predsAt ops i))
  | none => true
def selfOk (ops : Array Oper) (i : Nat) : Bool :=
  match dstAt ops i with
  | some t => !memN t (looksAt ops i)
  | none => true
/-- May it be taken first, wherever it comes up? -/
def pureOp (o : Oper) : Bool :=
  match o.op with
  | .binOp _ _ _ y _ => !(nilOp y)
  | .move _ | .assign _ | .pick .. | .extract .. | .unOp .. | .fieldAddr .. => true
  | _ => false
def takeAt (ops : Array Oper) (listed : Array Bool) (i : Nat) : Bool :=
  (match ops[i]? with
    | some o => pureOp o
    | none => false) && match ops[i]? with
    | some oi => (List.range ops.size).all fun j => Nat.beq j i || listed.getD j true || memN j (predsOf oi) || match ops[j]? with
      | some oj => memN i (predsOf oj) || oi.apart ops oj
      | none => true
    | none => false
/-- Those that may be taken first come along. -/
def withTakes (ops : Array Oper) (listed : Array Bool) (left acc : List Nat) : List Nat :=
  left.foldl (fun acc i => bif memN i acc then acc else bif takeAt ops listed i && (predsAt ops i).all (fun p => listed.getD p false || memN p acc) then i :: acc else acc) acc
def cutBefore (ops : Array Oper) (listed : Array Bool) (left : List Nat) (h : Nat) : List Nat :=
  let S := withTakes ops listed left ((ancs ops left left.length [h]).filter fun i => !Nat.beq i h)
  left.filter fun i => memN i S
/-- Each waits for the one ahead of it. -/
def chainB (ops : Array Oper) : List Nat → Bool
  | [] => true
  | i :: r => (match r with
    | [] => true
    | j :: _ => memN i (predsAt ops j)) && chainB ops r
/-- One deep call at most; what looks at such slices comes ahead of it or behind it. -/
def deepsOk (P : Program) (I : List (List Nat × Nat)) (path : List Nat) (id : Nat) (ops : Array Oper) (S : List Nat) : Bool :=
  match S.filter (deepAt I path id ops) with
  | [] => true
  | [i] => S.all fun j => Nat.beq j i || !seesAt P ops j || memN j (ancs ops S S.length [i]) || memN i (ancs ops S S.length [j])
  | _ => false
def bundleOf (P : Program) (I : List (List Nat × Nat)) (path : List Nat) (id : Nat) (ops : Array Oper) (listed : Array Bool) : List Nat :=
  let left := leftOf ops listed
  let S := match left.find? fun i => !plainAt P I path id ops i with
    | none => left
    | some h => cutBefore ops listed left h
  let S := match S.filter fun i => growsAt ops i with
    | _ :: h :: _ => bif chainB ops (S.filter fun i => growsAt ops i) then S else cutBefore ops listed left h
    | _ => S
  match S.filter (deepAt I path id ops) with
  | [] => S
  | [i] => bif deepsOk P I path id ops S then S else cutBefore ops listed left i
  | i :: j :: _ =>
    let S := cutBefore ops listed left j
    bif deepsOk P I path id ops S && memN i S then S else cutBefore ops listed left i
/-- What has come up when those of 'acc' have. -/
def closS (ops : Array Oper) (listed : Array Bool) (S : List Nat) : Nat → List Nat → List Nat
  | 0, acc => acc
  | n + 1, acc => closS ops listed S n (S.filter fun i => memN i acc || acc.any (fun k => memN i (predsAt ops k)) || (takeAt ops listed i && (predsAt ops i).all fun p => listed.getD p false || memN p acc))
def reach2 (ops : Array Oper) (listed : Array Bool) (S : List Nat) (k : Nat) : Bool :=
  let acc := closS ops listed S S.length (S.filter fun i => memN i (predsAt ops k))
  S.all fun i => memN i acc
def bundleOk (P : Program) (I : List (List Nat × Nat)) (path : List Nat) (id : Nat) (ops : Array Oper) (listed : Array Bool) (S : List Nat) : Bool :=
  !S.isEmpty && Nat.beq listed.size ops.size && chainB ops (S.filter (growsAt ops)) && deepsOk P I path id ops S && (S.all fun i => plainAt P I path id ops i && !listed.getD i true && selfOk ops i && S.all fun j => Nat.beq i j || pairOk ops i j) &&
  topoOk ops listed [] S && ((leftOf ops listed).all fun k => memN k S || !((predsAt ops k).all fun p => listed.getD p false || memN p S) || reachOk ops k S || reach2 ops listed S k)

def drawOk (P : Program) (ops : Array Oper) : Bool := P.follows .mixedOrders && Region.noSelect ops

/-- What an operation of a bundle looks at points to no box that the bundle makes. -/
def okBx (d : Nat) (slots : List Nat) (q : Bool) (o : Oper) (st : St) : Bool :=
  (opReads o).all fun t => V.kept (fun x y => !(Nat.beq x d && memN y slots)) q (st.tm d t)

def seqD (C : Ctx R) (d nn : Nat) (path : List Nat) (id : Nat) (ops : Array Oper) (slots : List Nat) (q : Bool) : List Nat → Kont R → Kont R
  | [], K, st => K st
  | i :: S, K, st => match ops[i]? with
    | some o => bif okBx d slots q o st then opsC C d nn path ops.toList (1000 * id + i) [o] (seqD C d nn path id ops slots q S K) st else none
    | none => none

/-- The operations of a region whose order is drawn, in one order that stands for all: bundles, and single ones that nobody else is ready beside. -/
def opsD (C : Ctx R) (d nn : Nat) (path : List Nat) (id : Nat) (ops : Array Oper) : Nat → Array Bool → Kont R → Kont R
  | 0, listed, K, st => bif (Region.ready .any ops listed).isEmpty then K st else none
  | n + 1, listed, K, st =>
    bif (Region.ready .any ops listed).isEmpty then K st else
    let S := bundleOf C.P C.I path id ops listed
    bif bundleOk C.P C.I path id ops listed S then
      seqD C d nn path id ops (slotsOf ops S) (!(S.any (growsAt ops))) S (opsD C d nn path id ops n (S.foldl (fun l i => l.setIfInBounds i true) listed) K) st
    else match Region.ready .any ops listed with
      | [i] => match ops[i]? with
        | some o => opsC C d nn path ops.toList (1000 * id + i) [o] (opsD C d nn path id ops n (listed.setIfInBounds i true) K) st
        | none => none
      | _ => none

/-- The labels in the calls that are walked in place in such a region. -/
def labD (C : Ctx R) (d nn : Nat) (path : List Nat) (id : Nat) (ops : Array Oper) : Nat → Array Bool → Kont R → Labels R
  | 0, _, _ => []
  | n + 1, listed, K =>
    bif (Region.ready .any ops listed).isEmpty then [] else
    let S := bundleOf C.P C.I path id ops listed
    bif bundleOk C.P C.I path id ops listed S then labD C d nn path id ops n (S.foldl (fun l i => l.setIfInBounds i true) listed) K
    else match Region.ready .any ops listed with
      | [i] => match ops[i]? with
        | some o => opsL C d nn path ops.toList (1000 * id + i) [o] (opsD C d nn path id ops n (listed.setIfInBounds i true) K) ++ labD C d nn path id ops n (listed.setIfInBounds i true) K
        | none => []
      | _ => []

def codeC (C : Ctx R) (d nn : Nat) (path : List Nat) : Code → KontE R → Kont R
  | .skip, K => K .normal
  | .region id ops false, K => opsC C d nn path ops.toList (1000 * id) ops.toList (K .normal)
  | .region id ops true, K => fun st => bif drawOk C.P ops then opsD C d nn path id ops ops.size (Array.replicate ops.size false) (K .normal) st else none
  | .seq a b, K => codeC C d nn path a (seqK (bif C.cutAt path b then C.jump (1 :: keyOf b :: path) else codeC C d nn path b K) K)
  | .cond c a b, K => fun st => match st.ev d c with
    | .d .bool t => bif t then codeC C d nn path a K st else codeC C d nn path b K st
    | _ => none
  | .block id b, K => codeC C d nn path b (blkK id K)
  | .loop b, _ => C.jump (0 :: keyOf b :: path)
  | .exit id, K => K (.exit id)
  | .scope b, K => codeC C d nn path b K
  | .ret, K => K .ret
  | _, _ => fun _ => none

def labelsC (C : Ctx R) (d nn : Nat) (path : List Nat) : Code → KontE R → Labels R
  | .region id ops false, K => opsL C d nn path ops.toList (1000 * id) ops.toList (K .normal)
  | .region id ops true, K => labD C d nn path id ops ops.size (Array.replicate ops.size false) (K .normal)
  | .seq a b, K =>
    (bif C.cutAt path b then [(1 :: keyOf b :: path, codeC C d nn path b K)] else []) ++
      (labelsC C d nn path a (seqK (bif C.cutAt path b then C.jump (1 :: keyOf b :: path) else codeC C d nn path b K) K) ++ labelsC C d nn path b K)
  | .cond _ a b, K => labelsC C d nn path a K ++ labelsC C d nn path b K
  | .block id b, K => labelsC C d nn path b (blkK id K)
  | .scope b, K => labelsC C d nn path b K
  | .loop b, K =>
    (0 :: keyOf b :: path, codeC C d nn path b (seqK (C.jump (0 :: keyOf b :: path)) K)) :: labelsC C d nn path b (seqK (C.jump (0 :: keyOf b :: path)) K)
  | _, _ => []

/-- The result, at the end of a function at depth d. -/
def outV (d : Nat) (st : St) (v : V) : Option V :=
  match v with
  | .msl d' s => bif Nat.beq d' d then (match st.bx d' s with
    | .rows ty xs => some (.d (.list ty) xs)
    | _ => none) else none
  | .mp d' s => bif Nat.beq d' d then (match st.bx d' s with
    | .map k v es => some (.d (.map k v) es)
    | _ => none) else none
  | .raw k => bif Nat.beq d 0 then (match st.rw k with
    | some ⟨ty, xs⟩ => some (.d (.list ty) xs)
    | none => none) else some (.raw k)
  | v => some v

def resOne (P : Program) (d : Nat) (st : St) : ResultVar → Option V
  | .tmp t => outV d st (st.tm d t)
  | .cell a t => loadC P st t (st.tm d a) (outV d st)

def resAll (P : Program) (d : Nat) (st : St) : List ResultVar → Option (List V)
  | [] => some []
  | x :: r => match resOne P d st x, resAll P d st r with
    | some v, some vs => some (v :: vs)
    | _, _ => none

def resV (P : Program) (fn : Func) (d : Nat) (st : St) : Option V :=
  match resAll P d st fn.results.toList with
  | some [v] => some v
  | some vs => some (.tup vs)
  | none => none

def retK (P : Program) (fn : Func) (d : Nat) (K : V → Kont R) : KontE R
  | .normal, st | .ret, st => match resV P fn d st with
    | some v => K v st
    | none => none
  | _, _ => none

def setArgs (d : Nat) : Nat → List V → (Nat → Nat → V) → Nat → Nat → V
  | _, [], tm => tm
  | i, v :: vs, tm => upd (setArgs d (i + 1) vs tm) d i v

/-- A depth's variables, new. -/
def clearD (d : Nat) (tm : Nat → Nat → V) : Nat → Nat → V := fun x y => bif Nat.beq x d then .any else tm x y
def clearB (d : Nat) (bx : Nat → Nat → Box) : Nat → Nat → Box := fun x y => bif Nat.beq x d then .none else bx x y

def enterSt (st : St) (d : Nat) (args : List V) : St :=
  { st with tm := setArgs d 0 args (clearD d st.tm), bx := clearB d st.bx }

def leaveK (d : Nat) (K : V → Kont R) (v : V) (st : St) : Option R :=
  bif v.le d then K v { st with tm := clearD (d + 1) st.tm, bx := clearB (d + 1) st.bx } else none

/-- The model enters the function at a call of it. -/
def entersB (P : Program) (g : Nat) : Bool :=
  match P.funcs[g]? with
  | some fn => fn.body.isSome && !(fn.name == "runtime.NumGoroutine")
  | none => false

/-- The calls walked in place, so many deep. -/
def ctxI (P : Program) (L : List Nat → List V → Option R) (A : List (List Nat × Ann)) (I : List (List Nat × Nat)) (con : Nat → List V → (V → Option R) → Option R) : Nat → Ctx R
  | 0 => ⟨P, L, A, I, con, fun _ _ _ _ _ _ => none, fun _ _ _ _ => []⟩
  | n + 1 => ⟨P, L, A, I, con,
      fun d path g args K st => match P.funcs[g]? with
        | some fn => match fn.body with
          | some c => bif Nat.ble args.length fn.ntmps && entersB P g then codeC (ctxI P L A I con n) (d + 1) fn.ntmps path c (retK P fn (d + 1) (leaveK d K)) (enterSt st (d + 1) args) else none
          | none => none
        | none => none,
      fun d path g K => match P.funcs[g]? with
        | some fn => match fn.body with
          | some c => labelsC (ctxI P L A I con n) (d + 1) fn.ntmps path c (retK P fn (d + 1) (leaveK d K))
          | none => []
        | none => []⟩

def inlDepth : Nat := 6

/-- Several results as one datum. -/
@[reducible] def denT : List Ty → Type
  | [] => Unit
  | [t] => t.den
  | t :: u :: ts => t.den × denT (u :: ts)

def packL : (ts : List Ty) → List V → Option (denT ts)
  | [], [] => some ()
  | [t], [v] => packV t v
  | t :: u :: ts, v :: vs => match packV t v, packL (u :: ts) vs with
    | some x, some y => some (x, y)
    | _, _ => none
  | _, _ => none

def packT (ts : List Ty) (v : V) : Option (denT ts) :=
  match ts, v with
  | [t], v => packV t v
  | ts, .tup vs => packL ts vs
  | _, _ => none

def unpackL : (ts : List Ty) → denT ts → List V
  | [], _ => []
  | [t], x => [unpack t x]
  | t :: u :: ts, x => unpack t x.1 :: unpackL (u :: ts) x.2

def unpackT (ts : List Ty) (x : denT ts) : V :=
  match ts, x with
  | [t], x => unpack t x
  | ts, x => .tup (unpackL ts x)

def noPath : Labels R → List Nat → Bool
  | [], _ => true
  | (p, _) :: r, q => !(eqPath p q) && noPath r q

def onlyPath : Labels R → List Nat → Option (Kont R)
  | [], _ => none
  | (p, f) :: r, q => bif eqPath p q then (bif noPath r q then some f else none) else onlyPath r q

/-- The labels of a function, so many rounds. -/
def lamE (P : Program) (gl : Nat → Option (List V)) (A : List (List Nat × Ann)) (I : List (List Nat × Nat)) (con : Nat → List V → (V → Option R) → Option R) (fn : Func) (c : Code) (fin : KontE R) : Nat → List Nat → List V → Option R
  | 0 => fun _ _ => none
  | n + 1 => fun q vs => match onlyPath (labelsC (ctxI P (lamE P gl A I con fn c fin n) A I con inlDepth) 0 fn.ntmps [] c fin) q, findPath A q with
    | some f, some an => f { mkSt an vs with gl := gl }
    | _, _ => none

/-- A call of a function, from its arguments on. -/
def runE (P : Program) (gl : Nat → Option (List V)) (A : List (List Nat × Ann)) (I : List (List Nat × Nat)) (con : Nat → List V → (V → Option R) → Option R) (fn : Func) (c : Code) (fin : KontE R) (n : Nat) (args : List V) : Option R :=
  bif Nat.ble args.length fn.ntmps then
    codeC (ctxI P (lamE P gl A I con fn c fin n) A I con inlDepth) 0 fn.ntmps [] c fin (enterSt { St.empty with gl := gl } 0 args)
  else none

/-- The end of a function whose result is data. -/
def endD (P : Program) (fn : Func) (fin : V → Option R) : KontE R := retK P fn 0 fun v _ => fin v

def lam (P : Program) (A : List (List Nat × Ann)) (I : List (List Nat × Nat)) (con : Nat → List V → (V → Option R) → Option R) (fn : Func) (c : Code) (fin : V → Option R) : Nat → List Nat → List V → Option R :=
  lamE P noG A I con fn c (endD P fn fin)

def run (P : Program) (A : List (List Nat × Ann)) (I : List (List Nat × Nat)) (con : Nat → List V → (V → Option R) → Option R) (fn : Func) (c : Code) (fin : V → Option R) (n : Nat) (args : List V) : Option R :=
  runE P noG A I con fn c (endD P fn fin) n args

/-- A slice that the caller may have as its own. -/
def outO (t : Ty) (st : St) (v : V) : Option (List t.den) :=
  match v with
  | .nils => some []
  | .own tok t' xs => bif st.lv tok then castL? t' t xs else none
  | .raw tok => match st.rw tok with
    | some ⟨t', xs⟩ => castL? t' t xs
    | none => none
  | _ => none

/-- The end of a function whose result is the caller's own. -/
def endO (P : Program) (fn : Func) (t : Ty) : KontE (List t.den)
  | .normal, st | .ret, st => match fn.results.toList with
    | [.tmp x] => outO t st (st.tm 0 x)
    | [.cell a ty] => loadC P st ty (st.tm 0 a) (outO t st)
    | _ => none
  | _, _ => none

/-- What the result variables hold. -/
def resAllD (P : Program) (st : St) : List ResultVar → Option (List V)
  | [] => some []
  | .tmp t :: r => (resAllD P st r).map (st.tm 0 t :: ·)
  | .cell a t :: r => loadC P st t (st.tm 0 a) fun v => (resAllD P st r).map (v :: ·)

def V.dwhole (st : St) : V → Bool
  | .agg cs => cs.all (V.dpart st)
  | v => v.dpart st

/-- The end of a function whose result is the caller's own with all that it leads to. -/
def endP (P : Program) (fn : Func) (rets : List Ty) : KontE (denT rets)
  | .normal, st | .ret, st => match resAllD P st fn.results.toList with
    | some vs => bif vs.all (V.dwhole st) && nodupB (V.drs.drsL vs) && rets.all Ty.dok && Nat.beq vs.length rets.length then packL rets (St.res.resL st vs) else none
    | none => none
  | _, _ => none

end
end Go.Ab
