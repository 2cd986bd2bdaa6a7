import GoSem.Claim
import GoSem.ClaimKeys
import Derived.Calls
import Derived.Laws.Sem
import Derived.OrdersHeld
namespace Go.Ab
noncomputable section
inductive Tree (α : Type) where
 | node (v : α) (kids : List (Tree α))
def Tree.val {α : Type} : Tree α → α
 | .node v _=>v
def Tree.kids {α : Type} : Tree α → List (Tree α)
 | .node _ k=>k
inductive Ty where
 | int (k : IntKind) | bool | str | list (t : Ty) | unit | pair (a b : Ty)
 | map (k v : Ty)
 | tree (a : Ty)
@[reducible] def Ty.den : Ty → Type
 | .int _=>Int
 | .bool=>Bool
 | .str=>List Int
 | .list t=>List t.den
 | .unit=>Unit
 | .pair a b=>a.den × b.den
 | .map k v=>List (k.den × v.den)
 | .tree a=>Tree a.den
def Ty.dflt : (t : Ty) → t.den
 | .int _=>(0 : Int)
 | .bool=>false
 | .str=>([] : List Int)
 | .list _=>[]
 | .unit=>()
 | .pair a b=>(a.dflt,b.dflt)
 | .map _ _=>[]
 | .tree a=>.node a.dflt []
def Ty.keyFlat : Ty → Bool
 | .int _ | .bool | .str | .unit=>true
 | .pair a b=>a.keyFlat && b.keyFlat
 | _=>false
def Ty.cells : Ty → Nat
 | .unit=>0
 | .pair a b=>a.cells + b.cells
 | .tree a=>a.cells + 1
 | _=>1
def Ty.scalar : Ty → Bool
 | .unit | .pair _ _ | .tree _=>false
 | _=>true
def Ty.eq? : (a b : Ty) → Option (PLift (a = b))
 | .int k,.int k'=>if h : k = k' then some ⟨by rw [h]⟩ else none
 | .bool,.bool=>some ⟨rfl⟩
 | .str,.str=>some ⟨rfl⟩
 | .list t,.list t'=>match Ty.eq? t t' with
  | some ⟨h⟩=>some ⟨by rw [h]⟩
  | none=>none
 | .unit,.unit=>some ⟨rfl⟩
 | .pair a b,.pair a' b'=>match Ty.eq? a a',Ty.eq? b b' with
  | some ⟨h⟩,some ⟨h'⟩=>some ⟨by rw [h,h']⟩
  | _,_=>none
 | .map a b,.map a' b'=>match Ty.eq? a a',Ty.eq? b b' with
  | some ⟨h⟩,some ⟨h'⟩=>some ⟨by rw [h,h']⟩
  | _,_=>none
 | .tree a,.tree a'=>match Ty.eq? a a' with
  | some ⟨h⟩=>some ⟨by rw [h]⟩
  | none=>none
 | _,_=>none
def Ty.decEq : (t : Ty) → (x y : t.den) → Decidable (x = y)
 | .int _=>fun (x y : Int)=>Int.instDecidableEq x y
 | .bool=>fun (x y : Bool)=>instDecidableEqBool x y
 | .str=>fun (x y : List Int)=>instDecidableEqList x y
 | .list t=>fun (x y : List t.den)=>@instDecidableEqList _ t.decEq x y
 | .unit=>fun (_ _ : Unit)=>isTrue rfl
 | .pair a b=>fun (x y : a.den × b.den)=>@instDecidableEqProd _ _ a.decEq b.decEq x y
 | .map a b=>fun (x y : List (a.den × b.den))=>@instDecidableEqList _ (@instDecidableEqProd _ _ a.decEq b.decEq) x y
 | .tree _=>fun _ _=>Classical.propDecidable _
def ZD (rec : TypeId → Option Ty) (off : Nat) : List Field → Option Ty
 | []=>some .unit
 | [f]=>if f.offset = off then rec f.type else none
 | f :: g :: fs=>if f.offset = off then (rec f.type).bind fun a=>(ZD rec (off + a.cells) (g :: fs)).map (.pair a) else none
def QrL (P : Program) (rec : TypeId → Option Ty) (t : TypeId) (fs : List Field) : Option Ty :=
 match fs.getLast? with
 | some f=>match P.underlying f.type with
  | some (.slice e)=>bif Nat.beq e t then (match ZD rec 0 fs.dropLast with
   | some a=>bif Nat.beq f.offset a.cells then some (.tree a) else none
   | none=>none) else none
  | _=>none
 | none=>none
def QrM (P : Program) (rec : TypeId → Option Ty) (t : TypeId) : Option Ty :=
  match P.underlying t with
  | some .bool => some .bool
  | some (.int k) => some (.int k)
  | some .string => some .str
  | some (.slice e) => (rec e).map .list
  | some (.map k e) => match rec k, rec e with
    | some a, some b => some (.map a b)
    | _, _ => none
  | some (.struct fs) => match QrL P rec t fs.toList with
   | some ty => some ty
   | none => match fs.toList with
    | [f] => if f.offset = 0 then (rec f.type).map fun a => .pair a .unit else none
    | l => ZD rec 0 l
  | _ => none
def J7 (P : Program) : Nat → TypeId → Option Ty
 | 0,_=>none
 | n + 1,t=>match QrM P (J7 P n) t with
  | some ty=>bif Nat.beq (P.cellsOf t) ty.cells && (P.info? t).isSome then some ty else none
  | none=>none
def Zt : Nat:=12
inductive V where
 | any
 | un
 | d (t : Ty) (x : t.den)
 | agg (cs : List V)
 | eptr (cs : List V)
 | ptr (d s off : Nat)
 | rptr (d s sz : Nat) (i : Int) (off : Nat)
 | own (tok : Nat) (t : Ty) (xs : List t.den)
 | nils
 | msl (d s : Nat)
 | fn (f : Nat) (caps : List V)
 | tup (vs : List V)
 | raw (k : Nat)
 | qptr (k sz : Nat) (i : Int) (off : Nat)
 | mp (d s : Nat)
 | dr (k : Nat)
 | dq (k sz : Nat) (i : Int) (off : Nat)
structure RBox where
 ty : Ty
 xs : List ty.den
inductive Box where
 | none
 | cells (cs : List V)
 | rows (t : Ty) (xs : List t.den)
 | map (k v : Ty) (es : List (k.den × v.den))
structure St where
 tm : Nat → Nat → V
 bx : Nat → Nat → Box
 nt : Nat
 lv : Nat → Bool
 rw : Nat → Option RBox
 gl : Nat → Option (List V)
 dr : Nat → Option RBox
 nd : Nat
def Qm : (t : Ty) → t.den → List V
 | .pair a b,x=>Qm a x.1 ++ Qm b x.2
 | .unit,_=>[]
 | .int k,x=>[.d (.int k) x]
 | .bool,x=>[.d .bool x]
 | .str,x=>[.d .str x]
 | .list t,x=>[.d (.list t) x]
 | .map k v,x=>[.d (.map k v) x]
 | .tree a,x=>Qm a x.val ++ [.d (.list (.tree a)) x.kids]
def YW : (t : Ty) → t.den → V
 | .pair a b,x=>.agg (Qm (.pair a b) x)
 | .unit,_=>.agg []
 | .int k,x=>.d (.int k) x
 | .bool,x=>.d .bool x
 | .str,x=>.d .str x
 | .list t,x=>.d (.list t) x
 | .map k v,x=>.d (.map k v) x
 | .tree a,x=>.agg (Qm (.tree a) x)
def cast? (t t' : Ty) (x : t.den) : Option t'.den :=
 match Ty.eq? t t' with
 | some ⟨h⟩=>some (h ▸ x)
 | none=>none
def castL? (t t' : Ty) (x : List t.den) : Option (List t'.den) :=
 match Ty.eq? t t' with
 | some ⟨h⟩=>some (h ▸ x)
 | none=>none
def Vq (t : Ty) (v : V) : Option t.den :=
 match t,v with
 | .list t,.own _ t' x=>castL? t' t x
 | .list _,.nils=>some []
 | t,.d t' x=>cast? t' t x
 | _,_=>none
def Je : (t : Ty) → List V → Option t.den
 | .pair a b,cs=>match Je a (cs.take a.cells),Je b (cs.drop a.cells) with
  | some x,some y=>some (x,y)
  | _,_=>none
 | .unit,[]=>some ()
 | .int k,[v]=>Vq (.int k) v
 | .bool,[v]=>Vq .bool v
 | .str,[v]=>Vq .str v
 | .list t,[v]=>Vq (.list t) v
 | .map k e,[v]=>Vq (.map k e) v
 | .tree a,cs=>match Je a (cs.take a.cells),cs.drop a.cells with
  | some v,[k]=>(Vq (.list (.tree a)) k).map fun ks=>Tree.node v ks
  | _,_=>none
 | _,_=>none
def V.cellsOf : V → List V
 | .agg cs=>cs
 | v=>[v]
def Yu (t : Ty) (v : V) : Option t.den :=
 match t,v with
 | .pair a b,.agg cs=>Je (.pair a b) cs
 | .unit,.agg cs=>Je .unit cs
 | .tree a,.agg cs=>Je (.tree a) cs
 | .pair _ _,_ | .unit,_ | .tree _,_=>none
 | t,v=>Vq t v
def V.plain : V → Bool
 | .any | .un | .tup _ | .raw _ | .qptr .. | .dq ..=>false
 | _=>true
def upd (f : Nat → Nat → V) (d t : Nat) (v : V) : Nat → Nat → V :=
 fun x y=>bif Nat.beq y t && Nat.beq x d then v else f x y
def QpT (f : Nat → Nat → Box) (d t : Nat) (v : Box) : Nat → Nat → Box :=
 fun x y=>bif Nat.beq y t && Nat.beq x d then v else f x y
def Qno (f : Nat → Option RBox) (t : Nat) (v : Option RBox) : Nat → Option RBox:=fun x=>bif Nat.beq x t then v else f x
def Qq7 (f : Nat → Bool) (t : Nat) (v : Bool) : Nat → Bool:=fun x=>bif Nat.beq x t then v else f x
def Qx (s : ByteArray) : List Int:=s.data.toList.map fun b=>(b.toNat : Int)
def inK (k : IntKind) (x : Int) : Bool:=decide (k.min ≤ x) && decide (x ≤ k.max)
def GG : Value → V
 | .bool b=>.d .bool b
 | .int k n=>bif inK k n then .d (.int k) n else .any
 | .string s=>bif Nat.ble s.size 140737488355328 then .d .str (Qx s) else .any
 | .slice none 0 0=>.nils
 | _=>.any
def St.ev (st : St) (d : Nat) : Operand → V
 | .tmp t=>st.tm d t
 | .const v=>GG v
 | .func f=>.fn f []
 | .global _=>.any
def St.set (st : St) (d t : Nat) (v : V) : St:={ st with tm:=upd st.tm d t v }
def St.put (st : St) (d : Nat) (dst : Option Nat) (v : V) : St :=
 match dst with
 | some t=>st.set d t v
 | none=>st
def St.setB (st : St) (d t : Nat) (b : Box) : St:={ st with bx:=QpT st.bx d t b }
def St.mint (st : St) : St:={ st with nt:=st.nt + 1,lv:=Qq7 st.lv st.nt true }
def St.spend (st : St) (tok : Nat) : St:={ st with lv:=Qq7 st.lv tok false,rw:=Qno st.rw tok none }
def St.setR (st : St) (tok : Nat) (b : Option RBox) : St:={ st with rw:=Qno st.rw tok b }
def St.mintR (st : St) (b : RBox) : St:=(st.mint).setR st.nt (some b)
def St.setD (st : St) (k : Nat) (b : Option RBox) : St:={ st with dr:=Qno st.dr k b }
def St.mintD (st : St) (b : RBox) : St:={ st with dr:=Qno st.dr st.nd (some b),nd:=st.nd + 1 }
def inB (i : Int) (n : Nat) : Bool:=decide (0 ≤ i) && decide (i < (n : Int))
def rd {α : Type} (xs : List α) (i : Int) (d : α) : α:=xs.getD i.toNat d
def V.le (n : Nat) : V → Bool
 | .ptr dp _ _ | .rptr dp _ _ _ _ | .msl dp _ | .mp dp _=>Nat.ble dp n
 | .agg cs | .eptr cs | .fn _ cs | .tup cs=>leL n cs
 | _=>true
where leL (n : Nat) : List V → Bool
 | []=>true
 | c :: cs=>c.le n && leL n cs
def V.flat : V → Bool
 | .ptr .. | .rptr .. | .msl .. | .fn .. | .eptr .. | .any | .un | .tup .. | .raw _ | .qptr .. | .mp .. | .dr _ | .dq ..=>false
 | .agg cs=>flatL cs
 | _=>true
where flatL : List V → Bool
 | []=>true
 | c :: cs=>c.flat && flatL cs
def Z4 (cs : List V) (off : Nat) (vs : List V) : List V:=cs.take off ++ vs ++ cs.drop (off + vs.length)
variable {R : Type}
abbrev Zp (R : Type):=St → Option R
def QrN (op : BinOp) (a b : Int) : Bool :=
 match op with
 | .eql=>decide (a = b) | .neq=>!decide (a = b)
 | .lss=>decide (a < b) | .leq=>decide (a ≤ b) | .gtr=>decide (b < a) | .geq=>decide (b ≤ a)
 | _=>false
def ZG : List Int → List Int → Bool
 | _,[]=>false
 | [],_ :: _=>true
 | a :: x,b :: y=>decide (a < b) || (decide (a = b) && ZG x y)
def QpU (op : BinOp) (a b : List Int) : Bool :=
 match op with
 | .eql=>decide (a = b) | .neq=>!decide (a = b)
 | .lss=>ZG a b | .leq=>!ZG b a | .gtr=>ZG b a | .geq=>!ZG a b
 | _=>false
def JA : Int:=Classical.choose (⟨140737488355328,rfl⟩ : ∃ r : Int,r = 140737488355328)
theorem Yv : JA = 140737488355328:=Classical.choose_spec (⟨140737488355328,rfl⟩ : ∃ r : Int,r = 140737488355328)
def Qk5 (P : Program) : Nat → TypeId → Bool
 | 0,_=>false
 | n + 1,t=>match P.underlying t with
  | some .bool | some (.int _) | some .string=>true
  | some (.struct fs) => !P.stoodInHeld t && fs.toList.all fun f => f.name != "_" && Qk5 P n f.type
  | _=>false
def W4 (P : Program) (op : BinOp) (t : TypeId) (x y : V) (K : V → Option R) : Option R :=
 match x,y with
 | .d (.int k) a,.d (.int k') b =>
  match op with
  | .shl=>bif decide ((0 : Int) ≤ b) then K (.d (.int k) (k.wrap ((a : Int) * 2 ^ (min (Int.toNat b) k.bits)))) else none
  | .shr=>bif decide ((0 : Int) ≤ b) then K (.d (.int k) (Int.fdiv a (2 ^ (min (Int.toNat b) k.bits)))) else none
  | op=>if k = k' then
   match op with
   | .add=>K (.d (.int k) (k.wrap (a + b)))
   | .sub=>K (.d (.int k) (k.wrap (a - b)))
   | .mul=>K (.d (.int k) (k.wrap (a * b)))
   | .quo=>bif decide ((b : Int) = 0) then none else K (.d (.int k) (k.wrap (Int.tdiv a b)))
   | .rem=>bif decide ((b : Int) = 0) then none else K (.d (.int k) (Int.tmod a b))
   | .eql | .neq | .lss | .leq | .gtr | .geq=>K (.d .bool (QrN op a b))
   | .and=>K (.d (.int k) (k.wrap (BitVec.ofInt k.bits a &&& BitVec.ofInt k.bits b).toNat))
   | .or=>K (.d (.int k) (k.wrap (BitVec.ofInt k.bits a ||| BitVec.ofInt k.bits b).toNat))
   | .xor=>K (.d (.int k) (k.wrap (BitVec.ofInt k.bits a ^^^ BitVec.ofInt k.bits b).toNat))
   | _=>none
   else none
 | .d .str a,.d .str b =>
  match op with
  | .add=>bif decide (((a : List Int).length : Int) + ((b : List Int).length : Int) ≤ JA) then K (.d .str ((a : List Int) ++ (b : List Int))) else none
  | .eql | .neq | .lss | .leq | .gtr | .geq=>K (.d .bool (QpU op a b))
  | _=>none
 | .d .bool a,.d .bool b =>
  match P.underlying t with
  | some .bool=>match op with
   | .eql=>K (.d .bool (a == b))
   | .neq=>K (.d .bool (a != b))
   | _=>none
  | _=>none
 | .agg a,.agg b =>
  match J7 P Zt t with
  | some ty=>bif !ty.scalar && Qk5 P Zt t && !(P.eqGuardType P.depth t) then match Je ty a,Je ty b with
   | some u,some v=>match op with
    | .eql=>K (.d .bool (@decide (u = v) (ty.decEq u v)))
    | .neq=>K (.d .bool (!(@decide (u = v) (ty.decEq u v))))
    | _=>none
   | _,_=>none
   else none
  | none=>none
 | _,_=>none
open Classical in
def QsH (a b : Option R) : Option R:=if a = b then a else none
def QkN : Operand → Bool
 | .const (.slice none 0 0)=>true
 | _=>false
def QsI (op : BinOp) (n : Nat) (K : V → Option R) : Option R :=
 match op with
 | .eql=>bif decide (0 < n) then K (.d .bool false) else QsH (K (.d .bool true)) (K (.d .bool false))
 | .neq=>bif decide (0 < n) then K (.d .bool true) else QsH (K (.d .bool false)) (K (.d .bool true))
 | _=>none
def Qtm (P : Program) (op : BinOp) (t : TypeId) (x : V) (K : V → Option R) : Option R :=
 match P.underlying t with
 | some (.slice _)=>match x with
  | .d (.list t') xs=>QsI op (List.length (α:=t'.den) xs) K
  | .own _ _ xs=>QsI op xs.length K
  | .nils=>match op with
   | .eql=>K (.d .bool true)
   | .neq=>K (.d .bool false)
   | _=>none
  | _=>none
 | _=>none
def unC (op : UnOp) (x : V) (K : V → Option R) : Option R :=
 match op,x with
 | .not,.d .bool b=>K (.d .bool (!b))
 | .neg,.d (.int k) a=>K (.d (.int k) (k.wrap (0 - a)))
 | _,_=>none
def Ql7 (P : Program) (t : TypeId) : Bool :=
 match P.underlying t with
 | some .bool | some (.int _) | some .string=>true
 | some (.struct _)=>Qk5 P Zt t && P.keyTypeAt Zt t && match J7 P Zt t with
  | some ty=>ty.keyFlat
  | none=>false
 | _=>false
def QbK (k : Ty) {α : Type} (es : List (k.den × α)) (x : k.den) (z : α) : α :=
 match es with
 | []=>z
 | e :: es=>bif @decide (x = e.1) (k.decEq x e.1) then e.2 else QbK k es x z
def EQ (k : Ty) {α : Type} (es : List (k.den × α)) (x : k.den) (y : α) : List (k.den × α) :=
 match es with
 | []=>[(x,y)]
 | e :: es=>bif @decide (x = e.1) (k.decEq x e.1) then (x,y) :: es else e :: EQ k es x y
def Xy (P : Program) (t : TypeId) : Bool :=
 match P.underlying t with
 | some (.struct _) | some (.array _ _)=>true
 | _=>false
def G3 (P : Program) (t : TypeId) (cs : List V) (off : Nat) (K : V → Option R) : Option R :=
 match P.underlying t with
 | some _=>match Xy P t with
  | true =>
   let l:=(cs.drop off).take (P.cellsOf t)
   bif Nat.beq l.length (P.cellsOf t) then K (.agg l) else none
  | false=>match cs.drop off with
   | c :: _=>K c
   | []=>none
 | none=>none
def Ty.one : Ty → Bool
 | .int _ | .bool | .str=>true
 | _=>false
def QdB (ty : Ty) : List V → Option (List ty.den)
 | []=>some []
 | c :: cs=>match Vq ty c,QdB ty cs with
  | some x,some xs=>some (x :: xs)
  | _,_=>none
def QdC (ty : Ty) (i : Int) (x : ty.den) : Nat → List V → List V
 | _,[]=>[]
 | j,c :: cs=>(match Vq ty c with
  | some y=>V.d ty (bif decide (i = (j : Int)) then x else y)
  | none=>c) :: QdC ty i x (j + 1) cs
def EU (P : Program) (st : St) (t : TypeId) (a : V) (K : V → Option R) : Option R :=
 match a with
 | .eptr cs=>G3 P t cs 0 K
 | .ptr d s off=>match st.bx d s with
  | .cells cs=>G3 P t cs off K
  | _=>none
 | .rptr d s sz i off=>match st.bx d s with
  | .rows ty xs=>bif Nat.beq sz ty.cells && inB i xs.length then G3 P t (Qm ty (rd xs i ty.dflt)) off K else none
  | .cells cs=>match J7 P Zt t with
   | some ty=>match QdB ty cs with
    | some xs=>bif Nat.beq sz 1 && Nat.beq off 0 && ty.one && (P.underlying t).isSome && !Xy P t then
      (bif inB i xs.length then K (.d ty (rd xs i ty.dflt)) else none)
     else none
    | none=>none
   | none=>none
  | _=>none
 | .qptr k sz i off=>match st.rw k with
  | some ⟨ty,xs⟩=>bif Nat.beq sz ty.cells && inB i xs.length then G3 P t (Qm ty (rd xs i ty.dflt)) off K else none
  | none=>none
 | .dq k sz i off=>match st.dr k with
  | some ⟨ty,xs⟩=>bif Nat.beq sz ty.cells && inB i xs.length && ty.keyFlat then G3 P t (Qm ty (rd xs i ty.dflt)) off K else none
  | none=>none
 | _=>none
def QpV (P : Program) (st : St) (t : TypeId) (a v : V) (K : Zp R) : Option R :=
 match a with
 | .ptr d s off=>match st.bx d s with
  | .cells cs =>
   let vs:=v.cellsOf
   bif Nat.beq vs.length (P.cellsOf t) && Nat.ble (off + vs.length) cs.length && v.plain && V.le.leL d vs && (P.info? t).isSome then
    K (st.setB d s (.cells (Z4 cs off vs)))
   else none
  | _=>none
 | .rptr d s sz i off=>match st.bx d s with
  | .rows ty xs =>
   let vs:=v.cellsOf
   bif Nat.beq sz ty.cells && inB i xs.length && Nat.beq vs.length (P.cellsOf t) && v.plain && (P.info? t).isSome && Nat.ble (off + vs.length) ty.cells then
    match Je ty (Z4 (Qm ty (rd xs i ty.dflt)) off vs) with
    | some e=>K (st.setB d s (.rows ty (xs.set (Int.toNat i) e)))
    | none=>none
   else none
  | .cells cs=>match J7 P Zt t with
   | some ty=>match Vq ty v,QdB ty cs with
    | some x,some xs=>bif Nat.beq sz 1 && Nat.beq off 0 && ty.one && Nat.beq (P.cellsOf t) 1 && (P.info? t).isSome then
      (bif inB i xs.length then K (st.setB d s (.cells (QdC ty i x 0 cs))) else none)
     else none
    | _,_=>none
   | none=>none
  | _=>none
 | .qptr k sz i off=>match st.rw k with
  | some ⟨ty,xs⟩ =>
   let vs:=v.cellsOf
   bif Nat.beq sz ty.cells && inB i xs.length && Nat.beq vs.length (P.cellsOf t) && v.plain && (P.info? t).isSome && Nat.ble (off + vs.length) ty.cells then
    match Je ty (Z4 (Qm ty (rd xs i ty.dflt)) off vs) with
    | some e=>K (st.setR k (some ⟨ty,xs.set (Int.toNat i) e⟩))
    | none=>none
   else none
  | none=>none
 | _=>none
def zeroCells (P : Program) (t : TypeId) : Option (List V) :=
 match (P.info? t).bind (·.zero) with
 | some z=>bif z.cells.toList.all (·.oneCell') then some (z.cells.toList.map GG) else none
 | none=>none
def Qgg (P : Program) (t : TypeId) (ty : Ty) : Option ty.den:=(zeroCells P t).bind (Je ty)
def QdD (P : Program) (t : TypeId) (f : Nat) : Option (Nat × TypeId) :=
 match P.underlying t with
 | some (.struct fs)=>(fs[f]?).map fun f=>(f.offset,f.type)
 | _=>none
def G4 (P : Program) (t : TypeId) (x : V) (f : Nat) (K : V → Option R) : Option R :=
 match QdD P t f with
 | some (off,ft) =>
  bif Nat.beq (P.cellsOf ft) 0 then none else
  match x with
  | .ptr d s o=>K (.ptr d s (o + off))
  | .eptr cs=>K (.eptr (cs.drop off))
  | .rptr d s sz i o=>K (.rptr d s sz i (o + off))
  | _=>none
 | none=>none
def Qjc (P : Program) (t : TypeId) (x : V) (f : Nat) (K : V → Option R) : Option R :=
 match QdD P t f,x with
 | some (off,ft),.agg cs=>G3 P ft cs off K
 | _,_=>none
def J8 (P : Program) (t : TypeId) : Option TypeId :=
 match P.underlying t with
 | some (.slice e)=>some e
 | _=>none
def Vd (P : Program) (st : St) (t : TypeId) (x i : V) (K : V → Option R) : Option R :=
 match (J8 P t).bind (J7 P Zt),x,i with
 | some ty,.d (.list ty') xs,.d (.int _) n =>
  match castL? ty' ty xs with
  | some xs=>bif inB n (List.length (α:=ty.den) xs) then K (.eptr (Qm ty (rd (α:=ty.den) xs n ty.dflt))) else none
  | none=>none
 | some ty,.own _ ty' xs,.d (.int _) n =>
  match castL? ty' ty xs with
  | some xs=>bif inB n (List.length (α:=ty.den) xs) then K (.eptr (Qm ty (rd (α:=ty.den) xs n ty.dflt))) else none
  | none=>none
 | some ty,.msl d s,.d (.int _) n=>match st.bx d s with
  | .rows ty' xs=>match castL? ty' ty xs with
   | some xs=>bif inB n (List.length (α:=ty.den) xs) then K (.rptr d s ty.cells n 0) else none
   | none=>none
  | _=>none
 | some ty,.raw k,.d (.int _) n=>match st.rw k with
  | some ⟨ty',xs⟩=>match castL? ty' ty xs with
   | some xs=>bif inB n (List.length (α:=ty.den) xs) then K (.qptr k ty.cells n 0) else none
   | none=>none
  | none=>none
 | some ty,.dr k,.d (.int _) n=>match st.dr k with
  | some ⟨ty',xs⟩=>match castL? ty' ty xs with
   | some xs=>bif inB n (List.length (α:=ty.den) xs) then K (.dq k ty.cells n 0) else none
   | none=>none
  | none=>none
 | none,.ptr d s off,.d (.int _) n=>match P.underlying t with
  | some (.array len e)=>bif Nat.beq (P.cellsOf e) 1 && (P.info? e).isSome then (bif inB n len then K (.rptr d s 1 n off) else none) else none
  | _=>none
 | _,_,_=>none
def Qjd (P : Program) (t : TypeId) (x i : V) (K : V → Option R) : Option R :=
 match P.underlying t,x,i with
 | some .string,.d .str s,.d (.int _) n=>bif inB n (List.length (α:=Int) s) then K (.d (.int .u8) (rd (α:=Int) s n 0)) else none
 | some (.array len e),.agg cs,.d (.int _) n=>match J7 P Zt e with
  | some ty=>match QdB ty cs with
   | some xs=>bif Nat.beq xs.length len && ty.one && Nat.beq (P.cellsOf e) 1 && (P.info? e).isSome && (P.underlying e).isSome && !Xy P e then
     (bif inB n xs.length then K (.d ty (rd xs n ty.dflt)) else none)
    else none
   | none=>none
  | none=>none
 | _,_,_=>none
def Qgh (n : Nat) (lo hi : Option V) (K : Int → Int → Option R) : Option R :=
 match lo,hi with
 | none,none=>K 0 n
 | some (.d (.int _) l),none=>bif decide ((0 : Int) ≤ l) && decide ((l : Int) ≤ (n : Int)) then K l n else none
 | none,some (.d (.int _) h)=>bif decide ((0 : Int) ≤ h) && decide ((h : Int) ≤ (n : Int)) then K 0 h else none
 | some (.d (.int _) l),some (.d (.int _) h) =>
  bif decide ((0 : Int) ≤ h) && decide ((h : Int) ≤ (n : Int)) then (bif decide ((0 : Int) ≤ l) && decide ((l : Int) ≤ h) then K l h else none) else none
 | _,_=>none
def cut {α : Type} (xs : List α) (l h : Int) : List α:=(xs.take h.toNat).drop l.toNat
def Qje (P : Program) (t : TypeId) (x : V) (lo hi : Option V) (K : V → Option R) : Option R :=
 match P.underlying t,x with
 | some .string,.d .str s=>Qgh (List.length (α:=Int) s) lo hi fun l h=>K (.d .str (cut (α:=Int) s l h))
 | some (.slice e),.d (.list t) xs=>bif Nat.beq (P.cellsOf e) t.cells && (P.info? e).isSome then Qgh (List.length (α:=t.den) xs) lo hi fun l h=>K (.d (.list t) (cut (α:=t.den) xs l h)) else none
 | some (.slice e),.own tok t xs=>bif Nat.beq (P.cellsOf e) t.cells && (P.info? e).isSome then (match hi with
  | none=>Qgh xs.length lo none fun l h=>K (.own tok t (cut xs l h))
  | some hi=>Qgh xs.length lo (some hi) fun l h=>K (.d (.list t) (cut xs l h))) else none
 | _,_=>none
def Qe3 (P : Program) (t : TypeId) (x : V) (lo hi mx : Option V) (K : V → Option R) : Option R :=
 match P.underlying t,x,hi,mx with
 | some (.slice e),.d (.list t) xs,some (.d (.int _) h),some (.d (.int _) m)=>bif Nat.beq (P.cellsOf e) t.cells && (P.info? e).isSome && decide ((h : Int) = m) then Qgh (List.length (α:=t.den) xs) lo hi fun l h=>K (.d (.list t) (cut (α:=t.den) xs l h)) else none
 | _,_,_,_=>none
def Ql8 (P : Program) (src dst : TypeId) (x : V) (K : V → Option R) : Option R :=
 match P.underlying src,P.underlying dst,x with
 | some (.int _),some (.int k),.d (.int _) n=>K (.d (.int k) (k.wrap n))
 | some .string,some .string,.d .str s=>K (.d .str s)
 | some .string,some (.slice e),.d .str s=>match P.underlying e with
  | some (.int .u8)=>K (.d (.list (.int .u8)) s)
  | _=>none
 | some (.slice e),some .string,.d (.list (.int .u8)) s=>match P.underlying e with
  | some (.int .u8)=>bif decide ((List.length (α:=Int) s : Int) ≤ JA) then K (.d .str s) else none
  | _=>none
 | some (.slice e),some .string,.own _ (.int .u8) s=>match P.underlying e with
  | some (.int .u8)=>bif decide ((List.length (α:=Int) s : Int) ≤ JA) then K (.d .str s) else none
  | _=>none
 | some (.slice e),some .string,.nils=>match P.underlying e with
  | some (.int .u8)=>K (.d .str ([] : List Int))
  | _=>none
 | _,_,_=>none
def Qhs (P : Program) (fs : Array Field) : List V → List (Nat × V) → Option (List V)
 | cs,[]=>some cs
 | cs,(i,v) :: rest=>match fs[i]? with
  | some f =>
   let vs:=v.cellsOf
   bif Nat.beq vs.length (P.cellsOf f.type) && (P.info? f.type).isSome && v.plain && Nat.ble (f.offset + vs.length) cs.length then Qhs P fs (Z4 cs f.offset vs) rest else none
  | none=>none
def Qht (sz : Nat) : List V → List (Nat × V) → Option (List V)
 | cs,[]=>some cs
 | cs,(i,v) :: rest =>
  let vs:=v.cellsOf
  bif Nat.beq vs.length sz && v.plain && Nat.ble (i * sz + vs.length) cs.length then Qht sz (Z4 cs (i * sz) vs) rest else none
def Qjf (P : Program) (t : TypeId) (parts : List (Nat × V)) (K : V → Option R) : Option R :=
 match P.underlying t,zeroCells P t with
 | some (.struct fs),some z=>bif fs.toList.all fun f=>(P.info? f.type).isSome then
   match Qhs P fs z parts with
   | some cs=>K (.agg cs)
   | none=>none
  else none
 | some (.array _ e),some z=>bif (P.info? e).isSome then
   match Qht (P.cellsOf e) z parts with
   | some cs=>K (.agg cs)
   | none=>none
  else none
 | _,_=>none
def QnN (ty : Ty) : List ty.den → List (Nat × V) → Option (List ty.den)
 | xs,[]=>some xs
 | xs,(i,v) :: rest=>match Yu ty v with
  | some x=>bif Nat.blt i xs.length then QnN ty (xs.set i x) rest else none
  | none=>none
def UI (P : Program) (st : St) (t : TypeId) (len : Nat) (parts : List (Nat × V)) (K : V → St → Option R) : Option R :=
 match J8 P t with
 | some e=>match J7 P Zt e with
  | some ty=>match Qgg P e ty with
   | some z =>
    bif Nat.ble (len * ty.cells) 16777216 && Nat.blt 0 ty.cells then
     match QnN ty (List.replicate len z) parts with
     | some xs=>K (.own st.nt ty xs) st.mint
     | none=>none
    else none
   | none=>none
  | none=>none
 | none=>none
def Qjg (P : Program) (st : St) (t : TypeId) (len : Nat) (parts : List (Nat × V)) (K : V → St → Option R) : Option R :=
 match J8 P t with
 | some e=>match J7 P Zt e with
  | some ty=>match Qgg P e ty with
   | some z =>
    bif Nat.ble (len * ty.cells) 16777216 && Nat.blt 0 ty.cells then
     match QnN ty (List.replicate len z) parts with
     | some xs=>K (.raw st.nt) (st.mintR ⟨ty,xs⟩)
     | none=>none
    else none
   | none=>none
  | none=>none
 | none=>none
def Qoh (P : Program) (st : St) (t : TypeId) (x : V) (K : V → Option R) : Option R :=
 match x with
 | .d .str s=>match P.underlying t with
  | some .string=>K (.d (.int .i64) (List.length (α:=Int) s : Int))
  | _=>none
 | .d (.list ty) s=>match P.underlying t with
  | some (.slice _)=>K (.d (.int .i64) (List.length (α:=ty.den) s : Int))
  | _=>none
 | .own _ _ xs=>match P.underlying t with
  | some (.slice _)=>K (.d (.int .i64) (xs.length : Int))
  | _=>none
 | .nils=>match P.underlying t with
  | some (.slice _)=>K (.d (.int .i64) (0 : Int))
  | _=>none
 | .msl d s=>match P.underlying t,st.bx d s with
  | some (.slice _),.rows _ xs=>K (.d (.int .i64) (xs.length : Int))
  | _,_=>none
 | .raw k=>match P.underlying t,st.rw k with
  | some (.slice _),some ⟨_,xs⟩=>K (.d (.int .i64) (xs.length : Int))
  | _,_=>none
 | .dr k=>match P.underlying t,st.dr k with
  | some (.slice _),some ⟨_,xs⟩=>K (.d (.int .i64) (xs.length : Int))
  | _,_=>none
 | _=>none
def Qq8 (x y : V) (K : V → Option R) : Option R :=
 match x,y with
 | .d (.int k) a,.d (.int k') b=>if k = k' then K (.d (.int k) (bif decide ((b : Int) < a) then b else a)) else none
 | _,_=>none
def Qq9 (x y : V) (K : V → Option R) : Option R :=
 match x,y with
 | .d (.int k) a,.d (.int k') b=>if k = k' then K (.d (.int k) (bif decide ((a : Int) < b) then b else a)) else none
 | _,_=>none
def Qe4 (P : Program) (st : St) (t : TypeId) (s x : V) (K : V → St → Option R) : Option R :=
 match J8 P t with
 | some e=>match J7 P Zt e with
  | some ty=>match Qgg P e ty with
   | some _ =>
    bif Nat.beq ty.cells 0 then none else
    match Vq (.list ty) x with
    | some ys=>match s with
     | .nils=>bif decide (((ys : List ty.den).length : Int) * (P.bytesOf e : Int) ≤ JA) && decide (((ys : List ty.den).length : Int) ≤ JA) then K (.own st.nt ty ys) st.mint else none
     | .own tok ty' xs=>match castL? ty' ty xs with
      | some xs=>bif st.lv tok then
        (bif decide ((((xs : List ty.den).length : Int) + ((ys : List ty.den).length : Int)) * (P.bytesOf e : Int) ≤ JA) && decide (((xs : List ty.den).length : Int) + ((ys : List ty.den).length : Int) ≤ JA) then
         K (.own st.nt ty ((xs : List ty.den) ++ (ys : List ty.den))) ((st.spend tok).mint) else none) else none
      | none=>none
     | .raw tok=>match st.rw tok with
      | some ⟨ty',xs⟩=>match castL? ty' ty xs with
       | some xs=>bif st.lv tok then
        (bif decide ((((xs : List ty.den).length : Int) + ((ys : List ty.den).length : Int)) * (P.bytesOf e : Int) ≤ JA) && decide (((xs : List ty.den).length : Int) + ((ys : List ty.den).length : Int) ≤ JA) then
         K (.raw st.nt) ((st.spend tok).mintR ⟨ty,(xs : List ty.den) ++ (ys : List ty.den)⟩) else none) else none
       | none=>none
      | none=>none
     | _=>none
    | none=>none
   | none=>none
  | none=>none
 | none=>none
def HF (P : Program) (st : St) (d : Nat) (dst : Option Nat) (t : TypeId) (l c : V) (K : V → St → Option R) : Option R :=
 match J8 P t,dst with
 | some e,some s=>match J7 P Zt e with
  | some ty=>match Qgg P e ty with
   | some z=>match l,c with
    | .d (.int .i64) n,.d (.int .i64) m =>
     match st.bx d s with
     | .none =>
      bif decide ((n : Int) = m) && decide ((0 : Int) ≤ n) && decide ((n : Int) * (P.bytesOf e : Int) ≤ JA) && Nat.blt 0 ty.cells then
       K (.msl d s) (st.setB d s (.rows ty (List.replicate (Int.toNat n) z)))
      else none
     | _=>none
    | _,_=>none
   | none=>none
  | none=>none
 | _,_=>none
def Ql9 (P : Program) (t : TypeId) : Option (TypeId × TypeId × Ty × Ty) :=
 match P.underlying t with
 | some (.map kt vt)=>bif Ql7 P kt then (match J7 P Zt kt,J7 P Zt vt with
  | some k,some v=>some (kt,vt,k,v)
  | _,_=>none) else none
 | _=>none
def castE? (k v k' v' : Ty) (es : List (k.den × v.den)) : Option (List (k'.den × v'.den)) :=
 match Ty.eq? k k',Ty.eq? v v' with
 | some ⟨h⟩,some ⟨h'⟩=>some (h ▸ h' ▸ es)
 | _,_=>none
def WZ (st : St) (k v : Ty) (m : V) : Option (List (k.den × v.den)) :=
 match m with
 | .d (.map k' v') es=>castE? k' v' k v es
 | .mp d s=>match st.bx d s with
  | .map k' v' es=>castE? k' v' k v es
  | _=>none
 | _=>none
def Qhu (P : Program) (t : TypeId) (ty : Ty) : Bool :=
 match (P.info? t).bind (·.zero) with
 | some z=>bif ty.scalar then z.oneCell' else (match z with
  | .agg _=>true
  | _=>false)
 | none=>false
def WO (P : Program) (st : St) (t : TypeId) (m x : V) (ok : Bool) (K : V → Option R) : Option R :=
 match Ql9 P t with
 | some (_,vt,k,v)=>match WZ st k v m,Yu k x,Qgg P vt v with
  | some es,some x,some z=>bif ok || !(Qhu P vt v) then none else K (YW v (QbK k es x z))
  | _,_,_=>none
 | none=>none
def Qhv (P : Program) (st : St) (d : Nat) (dst : Option Nat) (t : TypeId) (K : V → St → Option R) : Option R :=
 match Ql9 P t,dst with
 | some (_,_,k,v),some s=>match st.bx d s with
  | .none=>K (.mp d s) (st.setB d s (.map k v []))
  | _=>none
 | _,_=>none
def QbL (P : Program) (st : St) (t : TypeId) (m x y : V) (K : Zp R) : Option R :=
 match Ql9 P t with
 | some (_,_,k,v)=>match m with
  | .mp d s=>match st.bx d s with
   | .map k' v' es=>match castE? k' v' k v es,Yu k x,Yu v y with
    | some es,some x,some y=>K (st.setB d s (.map k v (EQ k es x y)))
    | _,_,_=>none
   | _=>none
  | _=>none
 | none=>none
def QkO (ops : List Oper) (j : Nat) : Option Nat:=(ops[j]?).bind (·.dst)
def Ty.dok : Ty → Bool
 | .map _ _ | .tree _=>false
 | .pair a b=>a.dok && b.dok
 | .list t=>t.dok
 | _=>true
def V.scl : V → Bool
 | .d (.int _) _ | .d .bool _ | .d .str _=>true
 | _=>false
def V.drs : V → List Nat
 | .dr k=>[k]
 | .agg cs=>drsL cs
 | .tup cs=>drsL cs
 | _=>[]
where drsL : List V → List Nat
 | []=>[]
 | c :: cs=>c.drs ++ drsL cs
def St.res (st : St) : V → V
 | .dr k=>match st.dr k with
  | some ⟨t,xs⟩=>.d (.list t) xs
  | none=>.any
 | .agg cs=>.agg (resL st cs)
 | .tup cs=>.tup (resL st cs)
 | v=>v
where resL (st : St) : List V → List V
 | []=>[]
 | c :: cs=>st.res c :: resL st cs
def V.isD : V → Bool
 | .d _ _=>true
 | _=>false
def Zw : V → St → V × St
 | .d (.list t) xs,st=>(.dr st.nd,st.mintD ⟨t,xs⟩)
 | .d (.int k) x,st=>(.d (.int k) x,st)
 | .d .bool x,st=>(.d .bool x,st)
 | .d .str x,st=>(.d .str x,st)
 | .agg cs,st=>bif cs.all V.isD then (.agg (mintL cs st).1,(mintL cs st).2) else (.any,st)
 | .tup cs,st=>(.tup (mintL cs st).1,(mintL cs st).2)
 | _,st=>(.any,st)
where mintL : List V → St → List V × St
 | [],st=>([],st)
 | c :: cs,st=>((Zw c st).1 :: (mintL cs (Zw c st).2).1,(mintL cs (Zw c st).2).2)
def Xz : V → V → St → Option St
 | .dr k,.d (.list t) xs,st=>match st.dr k with
  | some ⟨t',_⟩=>match Ty.eq? t' t with
   | some _=>some (st.setD k (some ⟨t,xs⟩))
   | none=>none
  | none=>none
 | .agg cs,.agg ds,st=>hotL cs ds st
 | .d _ _,v,st=>bif v.scl then some st else none
 | _,_,_=>none
where hotL : List V → List V → St → Option St
 | [],[],st=>some st
 | c :: cs,d :: ds,st=>(Xz c d st).bind (hotL cs ds)
 | _,_,_=>none
def Qal : List Nat → Bool
 | []=>true
 | k :: l=>!(l.any (Nat.beq k)) && Qal l
def V.dpart0 : V → Bool
 | .nils=>true
 | v=>v.scl
def V.dpart (st : St) : V → Bool
 | .dr k=>(st.dr k).isSome
 | v=>v.dpart0
def St.dropD (st : St) : List Nat → St
 | []=>st
 | k :: l=>(st.setD k none).dropD l
def Qoi (P : Program) (st : St) (t : TypeId) (k sz : Nat) (i : Int) (off : Nat) (v : V) (K : Zp R) : Option R :=
 match st.dr k with
 | some ⟨ty,xs⟩ =>
  let vs:=v.cellsOf
  let ds:=V.drs.drsL vs
  bif Nat.beq sz ty.cells && Nat.beq off 0 && inB i xs.length && Nat.beq vs.length ty.cells && Nat.beq (P.cellsOf t) ty.cells && (P.info? t).isSome && vs.all (V.dpart st) && Qal (k :: ds) && ty.dok then
   match Je ty (St.res.resL st vs) with
   | some e=>K ((st.dropD ds).setD k (some ⟨ty,xs.set (Int.toNat i) e⟩))
   | none=>none
  else none
 | none=>none
def Qoj (P : Program) (st : St) (t : TypeId) (k sz : Nat) (i : Int) (off : Nat) (v : V) (K : Zp R) : Option R :=
 match st.dr k with
 | some ⟨ty,xs⟩ =>
  let vs:=v.cellsOf
  bif Nat.beq sz ty.cells && inB i xs.length && Nat.beq vs.length (P.cellsOf t) && (P.info? t).isSome && Nat.ble (off + vs.length) ty.cells && v.plain then
   match Je ty (Z4 (Qm ty (rd xs i ty.dflt)) off vs) with
   | some e=>K (st.setD k (some ⟨ty,xs.set (Int.toNat i) e⟩))
   | none=>none
  else none
 | none=>none
def QqF (st : St) (k : Nat) : Bool:=match st.dr k with
 | some ⟨ty,_⟩=>ty.keyFlat
 | none=>false
def QpW (P : Program) (st : St) (t : TypeId) (a v : V) (K : Zp R) : Option R :=
 match a with
 | .dq k sz i off=>bif QqF st k && !(Nat.beq off 0 && Nat.beq sz v.cellsOf.length) then Qoj P st t k sz i off v K else Qoi P st t k sz i off v K
 | a=>QpV P st t a v K
def Qok (P : Program) (st : St) (t : TypeId) (l c : V) (K : V → St → Option R) : Option R :=
 match J8 P t with
 | some e=>match J7 P Zt e with
  | some ty=>match zeroCells P e with
   | some zc=>match Je ty zc with
    | some z=>match l,c with
     | .d (.int .i64) n,.d (.int .i64) m =>
      bif decide ((n : Int) = m) && decide ((0 : Int) ≤ n) && decide ((n : Int) * (P.bytesOf e : Int) ≤ JA) && Nat.blt 0 ty.cells && zc.all V.dpart0 && ty.dok then
       K (.dr st.nd) (st.mintD ⟨ty,List.replicate (Int.toNat n) z⟩)
      else none
     | _,_=>none
    | none=>none
   | none=>none
  | none=>none
 | none=>none
def Qma (P : Program) (st : St) (t : TypeId) (len : Nat) (parts : List (Nat × V)) (K : V → St → Option R) : Option R :=
 match J8 P t with
 | some e=>match J7 P Zt e with
  | some ty=>match parts with
   | [(0,v)] =>
    let vs:=v.cellsOf
    let ds:=V.drs.drsL vs
    bif Nat.beq len 1 && Nat.beq vs.length ty.cells && Nat.blt 0 ty.cells && Nat.ble ty.cells 16777216 && vs.all (V.dpart st) && Qal ds && ty.dok && (zeroCells P e).isSome then
     match Je ty (St.res.resL st vs) with
     | some x=>K (.dr st.nd) ((st.dropD ds).mintD ⟨ty,[x]⟩)
     | none=>none
    else none
   | _=>none
  | none=>none
 | none=>none
def QsJ (st : St) (ty : Ty) : V → Option (List Nat × List ty.den)
 | .nils=>some ([],[])
 | .dr k=>match st.dr k with
  | some ⟨ty',xs⟩=>match castL? ty' ty xs with
   | some xs=>some ([k],xs)
   | none=>none
  | none=>none
 | _=>none
def Qjh (P : Program) (st : St) (t : TypeId) (a b : V) (K : V → St → Option R) : Option R :=
 match J8 P t with
 | some e=>match J7 P Zt e with
  | some ty=>match QsJ st ty a,QsJ st ty b with
   | some (ks,xs),some ([k'],ys) =>
    bif Qal (k' :: ks) && Nat.blt 0 ty.cells && ty.dok && (match zeroCells P e with | some zc=>Nat.beq zc.length ty.cells | none=>false) && Nat.blt 0 ys.length && decide (((xs.length : Int) + (ys.length : Int)) * (P.bytesOf e : Int) ≤ JA) && decide ((xs.length : Int) + (ys.length : Int) ≤ JA) then
     K (.dr st.nd) ((st.dropD (k' :: ks)).mintD ⟨ty,xs ++ ys⟩)
    else none
   | _,_=>none
  | none=>none
 | none=>none
inductive Item where
 | keep (d t : Nat)
 | own (d t : Nat) (ty : Ty)
 | data (d t : Nat) (ty : Ty)
 | box (d s n : Nat)
 | rows (d s : Nat) (ty : Ty)
 | boxd (d s : Nat) (ty : Ty)
 | raw (d t : Nat) (ty : Ty)
 | mapb (d s : Nat) (k v : Ty)
 | ownb (d s j : Nat) (ty : Ty)
 | drb (d t : Nat) (ty : Ty)
 | drbb (d s j : Nat) (ty : Ty)
 | same (d t d0 t0 : Nat)
abbrev Ann:=List Item
def V.canon : V → V
 | .own _ t xs=>.d (.list t) xs
 | .agg cs=>.agg (canonL cs)
 | .eptr cs=>.eptr (canonL cs)
 | .fn f cs=>.fn f (canonL cs)
 | .tup cs=>.tup (canonL cs)
 | .raw _ | .qptr .. | .dr _ | .dq ..=>.any
 | v=>v
where canonL : List V → List V
 | []=>[]
 | c :: cs=>c.canon :: canonL cs
def V.kept (k : Nat → Nat → Bool) (q : Bool:=true) : V → Bool
 | .ptr dp s _ | .rptr dp s _ _ _ | .msl dp s | .mp dp s=>k dp s
 | .agg cs | .eptr cs | .fn _ cs | .tup cs=>keptL k q cs
 | .raw _ | .qptr ..=>q
 | _=>true
where keptL (k : Nat → Nat → Bool) (q : Bool) : List V → Bool
 | []=>true
 | c :: cs=>V.kept k q c && keptL k q cs
def Item.isBox (d s : Nat) : Item → Bool
 | .box d' s' _ | .rows d' s' _ | .boxd d' s' _ | .mapb d' s' _ _=>Nat.beq s' s && Nat.beq d' d
 | _=>false
def Ann.keeps : Ann → Nat → Nat → Bool
 | [],_,_=>false
 | i :: A,d,s=>i.isBox d s || Ann.keeps A d s
def St.live (A : Ann) : St → Ann → Option (List V)
 | _,[]=>some []
 | st,.keep d t :: r=>bif (st.tm d t).kept A.keeps then (St.live A st r).map ((st.tm d t).canon :: ·) else none
 | st,.own d t ty :: r=>match st.tm d t with
  | .nils=>(St.live A st r).map (.own 0 ty [] :: ·)
  | .own tok ty' xs=>match castL? ty' ty xs with
   | some xs=>bif st.lv tok then (St.live A (st.spend tok) r).map (.own 0 ty xs :: ·) else none
   | none=>none
  | _=>none
 | st,.data d t ty :: r=>match Yu ty (st.tm d t) with
  | some x=>(St.live A st r).map (YW ty x :: ·)
  | none=>none
 | st,.box d s n :: r=>match st.bx d s with
  | .cells cs=>bif Nat.beq cs.length n && V.kept.keptL A.keeps true cs then (St.live A st r).map (.agg (V.canon.canonL cs) :: ·) else none
  | _=>none
 | st,.rows d s ty :: r=>match st.bx d s with
  | .rows ty' xs=>match castL? ty' ty xs with
   | some xs=>(St.live A st r).map (.d (.list ty) xs :: ·)
   | none=>none
  | _=>none
 | st,.boxd d s ty :: r=>match st.bx d s with
  | .cells cs=>match Je ty cs with
   | some x=>(St.live A st r).map (.agg (Qm ty x) :: ·)
   | none=>none
  | _=>none
 | st,.raw d t ty :: r=>match st.tm d t with
  | .nils=>(St.live A st r).map (.own 0 ty [] :: ·)
  | .raw tok=>match st.rw tok with
   | some ⟨ty',xs⟩=>match castL? ty' ty xs with
    | some xs=>bif st.lv tok then (St.live A (st.spend tok) r).map (.own 0 ty xs :: ·) else none
    | none=>none
   | none=>none
  | _=>none
 | st,.mapb d s k v :: r=>match st.bx d s with
  | .map k' v' es=>match castE? k' v' k v es with
   | some es=>(St.live A st r).map (.d (.map k v) es :: ·)
   | none=>none
  | _=>none
 | st,.ownb d s j ty :: r=>match st.bx d s with
  | .cells cs=>match cs[j]? with
   | some .nils=>(St.live A st r).map (.own 0 ty [] :: ·)
   | some (.own tok ty' xs)=>match castL? ty' ty xs with
    | some xs=>bif st.lv tok then (St.live A (st.spend tok) r).map (.own 0 ty xs :: ·) else none
    | none=>none
   | _=>none
  | _=>none
 | st,.drb d t ty :: r=>match st.tm d t with
  | .dr k=>match st.dr k with
   | some ⟨ty',xs⟩=>match castL? ty' ty xs with
    | some xs=>(St.live A (st.setD k none) r).map (.d (.list ty) xs :: ·)
    | none=>none
   | none=>none
  | .nils=>(St.live A st r).map (.d (.list ty) [] :: ·)
  | _=>none
 | st,.drbb d s j ty :: r=>match st.bx d s with
  | .cells cs=>match cs[j]? with
   | some .nils=>(St.live A st r).map (.d (.list ty) [] :: ·)
   | some (.dr k)=>match st.dr k with
    | some ⟨ty',xs⟩=>match castL? ty' ty xs with
     | some xs=>(St.live A (st.setD k none) r).map (.d (.list ty) xs :: ·)
     | none=>none
    | none=>none
   | _=>none
  | _=>none
 | st,.same d t d0 t0 :: r=>match st.tm d t,st.tm d0 t0 with
  | .raw k,.raw k'=>bif Nat.beq k k' && st.lv k && Nat.ble d0 d then (St.live A st r).map (.nils :: ·) else none
  | _,_=>none
def noG : Nat → Option (List V):=fun _=>none
def St.empty : St:=⟨fun _ _=>.any,fun _ _=>.none,0,fun _=>false,fun _=>none,noG,fun _=>none,0⟩
def Qq : Ann → List V → St
 | .keep d t :: r,v :: vs=>(Qq r vs).set d t v
 | .own d t ty :: r,.own _ ty' xs :: vs =>
  let st:=Qq r vs
  match castL? ty' ty xs with
  | some xs=>st.mint.set d t (.own st.nt ty xs)
  | none=>st
 | .data d t _ :: r,v :: vs=>(Qq r vs).set d t v
 | .box d s _ :: r,.agg cs :: vs=>(Qq r vs).setB d s (.cells cs)
 | .rows d s ty :: r,.d (.list ty') xs :: vs=>match castL? ty' ty xs with
  | some xs=>(Qq r vs).setB d s (.rows ty xs)
  | none=>Qq r vs
 | .boxd d s _ :: r,.agg cs :: vs=>(Qq r vs).setB d s (.cells cs)
 | .raw d t ty :: r,.own _ ty' xs :: vs =>
  let st:=Qq r vs
  match castL? ty' ty xs with
  | some xs=>(st.mintR ⟨ty,xs⟩).set d t (.raw st.nt)
  | none=>st
 | .mapb d s k v :: r,.d (.map k' v') es :: vs=>match castE? k' v' k v es with
  | some es=>(Qq r vs).setB d s (.map k v es)
  | none=>Qq r vs
 | .ownb d s j ty :: r,.own _ ty' xs :: vs =>
  let st:=Qq r vs
  match castL? ty' ty xs with
  | some xs=>match st.bx d s with
   | .cells cs=>st.mint.setB d s (.cells (cs.set j (.own st.nt ty xs)))
   | _=>st
  | none=>st
 | .drb d t ty :: r,.d (.list ty') xs :: vs =>
  let st:=Qq r vs
  match castL? ty' ty xs with
  | some xs=>(st.mintD ⟨ty,xs⟩).set d t (.dr st.nd)
  | none=>st
 | .drbb d s j ty :: r,.d (.list ty') xs :: vs =>
  let st:=Qq r vs
  match castL? ty' ty xs with
  | some xs=>match st.bx d s with
   | .cells cs=>(st.mintD ⟨ty,xs⟩).setB d s (.cells (cs.set j (.dr st.nd)))
   | _=>st
  | none=>st
 | .same d t d0 t0 :: r,_ :: vs=>(Qq r vs).set d t ((Qq r vs).tm d0 t0)
 | _,_=>St.empty
abbrev XA (R : Type):=List (List Nat × Zp R)
structure Ctx (R : Type) where
 P : Program
 L : List Nat → List V → Option R
 A : List (List Nat × Ann)
 I : List (List Nat × Nat)
 con : Nat → List V → (V → Option R) → Option R
 inl : Nat → List Nat → Nat → List V → (V → Zp R) → Zp R
 lab : Nat → List Nat → Nat → (V → Zp R) → XA R
def Qgi : List Nat → List Nat → Bool
 | [],[]=>true
 | a :: x,b :: y=>Nat.beq a b && Qgi x y
 | _,_=>false
def Jq {α : Type} : List (List Nat × α) → List Nat → Option α
 | [],_=>none
 | (p,a) :: r,q=>bif Qgi p q then some a else Jq r q
def Ctx.jump (C : Ctx R) (path : List Nat) (st : St) : Option R :=
 match Jq C.A path with
 | some A=>match St.live A st A with
  | some vs=>C.L path vs
  | none=>none
 | none=>none
def Qji : Operand → Option Nat
 | .global g=>some g
 | _=>none
def QC : Nat:=1000000
def QsK (d : Nat) (dst : Option Nat) (st : St) (K : Zp R) (v : V) : Option R :=
 match v with
 | .d (.list t) xs=>K (st.mint.put d dst (.own st.nt t xs))
 | _=>none
def Q9 : Nat:=2000000
def QtD (d : Nat) (dst : Option Nat) (st : St) (K : Zp R) (v : V) : Option R :=
 K ((Zw v st).2.put d dst (Zw v st).1)
def Yj : Nat:=3000000
def QtE (d : Nat) (dst : Option Nat) (st : St) (a : V) (K : Zp R) (v : V) : Option R :=
 match v with
 | .tup [.d (.int .i64) k,b]=>(Xz a b st).bind fun st'=>K (st'.put d dst (.d (.int .i64) k))
 | _=>none
def ZI : Nat:=4000000
def Qth (d : Nat) (dst : Option Nat) (st : St) (t : Ty) (K : Zp R) (v : V) : Option R :=
 match v with
 | .d (.list t') ys=>match castL? t' t ys with
  | some ys=>K (st.mint.put d dst (.own st.nt t ys))
  | none=>none
 | _=>none
def QrO (con : Nat → List V → (V → Option R) → Option R) (st : St) (g' i : Nat) (args : List V) (d : Nat) (dst : Option Nat) (K : Zp R) : Option R :=
 match args[i]? with
 | some (.own tok t xs)=>bif st.lv tok then con g' (args.set i (.d (.list t) xs)) (Qth d dst (st.spend tok) t K) else none
 | some .nils=>con g' args (QsK d dst st K)
 | _=>none
def V.dok1 : V → Bool
 | .d t _=>t.dok
 | _=>false
def V.dokV : V → Bool
 | .agg cs=>cs.all V.dok1
 | v=>v.dok1
def V.hotOk (st : St) (a : V) : Bool:=(st.res a).dokV && Qal a.drs && a.drs.all (fun k=>(st.dr k).isSome) && match a with
 | .dr _=>true
 | .agg cs=>cs.all (V.dpart st)
 | _=>false
def QrP (con : Nat → List V → (V → Option R) → Option R) (st : St) (g : Nat) (args : List V) (K : V → Option R) : Option R :=
 match V.drs.drsL args with
 | []=>con g args K
 | _=>con g (St.res.resL st args) fun v=>bif v.scl then K v else none
def QdE : Operand → Bool
 | .const (.map none)=>true
 | _=>false
def Qe5 (P : Program) (t : TypeId) : V:=match J7 P Zt t with
 | some (.map k v)=>.d (.map k v) []
 | _=>.any
def Zf (C : Ctx R) (d : Nat) (path : List Nat) (here : Nat) (o : Oper) (st : St) (K : Zp R) : Option R :=
 let out (v : V) : Option R:=K (st.put d o.dst v)
 match o.op with
 | .move x=>out (st.ev d x)
 | .assign x=>out (bif QdE x then Qe5 C.P o.type else st.ev d x)
 | .pick c a b=>match st.ev d c with
  | .d .bool t=>bif t then out (st.ev d a) else out (st.ev d b)
  | _=>none
 | .binOp op t x y _=>bif QkN y then Qtm C.P op t (st.ev d x) out else W4 C.P op t (st.ev d x) (st.ev d y) out
 | .unOp op _ x=>unC op (st.ev d x) out
 | .load t a=>match Qji a with
  | some g=>(match st.gl g with
   | some cs=>G3 C.P t cs 0 out
   | none=>none)
  | none=>EU C.P st t (st.ev d a) out
 | .store t a x=>QpW C.P st t (st.ev d a) (st.ev d x) fun st=>K (st.put d o.dst .any)
 | .alloc e=>match o.dst,zeroCells C.P e with
  | some s,some z=>match st.bx d s with
   | .none=>K ((st.setB d s (.cells z)).set d s (.ptr d s 0))
   | _=>none
  | _,_=>none
 | .box _ x=>match o.dst with
  | some s=>match st.bx d s with
   | .none=>bif (st.ev d x).plain then K ((st.setB d s (.cells (st.ev d x).cellsOf)).set d s (.ptr d s 0)) else none
   | _=>none
  | none=>none
 | .nilCheck x=>match st.ev d x with
  | .ptr a b c=>out (.ptr a b c)
  | .eptr cs=>out (.eptr cs)
  | .rptr a b c e f=>out (.rptr a b c e f)
  | _=>none
 | .fieldAddr t x f=>G4 C.P t (st.ev d x) f out
 | .field t x f=>Qjc C.P t (st.ev d x) f out
 | .indexAddr t x i=>Vd C.P st t (st.ev d x) (st.ev d i) out
 | .index t x i=>Qjd C.P t (st.ev d x) (st.ev d i) out
 | .slice t x lo hi none=>Qje C.P t (st.ev d x) (lo.map (st.ev d)) (hi.map (st.ev d)) out
 | .slice t x lo hi (some m)=>Qe3 C.P t (st.ev d x) (lo.map (st.ev d)) (hi.map (st.ev d)) (some (st.ev d m)) out
 | .convert s t x=>Ql8 C.P s t (st.ev d x) out
 | .extract x i=>match st.ev d x with
  | .tup vs=>match vs[i]? with
   | some v=>out v
   | none=>none
  | _=>none
 | .build t ps=>Qjf C.P t (ps.toList.map fun p=>(p.1,st.ev d p.2)) out
 | .buildSlice t n ps=>match Jq C.I (here :: path) with
  | some 0=>Qma C.P st t n (ps.toList.map fun p=>(p.1,st.ev d p.2)) fun v st=>K (st.put d o.dst v)
  | some _=>Qjg C.P st t n (ps.toList.map fun p=>(p.1,st.ev d p.2)) fun v st=>K (st.put d o.dst v)
  | none=>UI C.P st t n (ps.toList.map fun p=>(p.1,st.ev d p.2)) fun v st=>K (st.put d o.dst v)
 | .makeSlice t l c=>match Jq C.I (here :: path) with
  | some _=>Qok C.P st t (st.ev d l) (st.ev d c) fun v st=>K (st.put d o.dst v)
  | none=>HF C.P st d o.dst t (st.ev d l) (st.ev d c) fun v st=>K (st.put d o.dst v)
 | .lookup t x i ok=>WO C.P st t (st.ev d x) (st.ev d i) ok out
 | .makeMap t none=>Qhv C.P st d o.dst t fun v st=>K (st.put d o.dst v)
 | .mapUpdate t m k x=>QbL C.P st t (st.ev d m) (st.ev d k) (st.ev d x) fun st=>K (st.put d o.dst .any)
 | .insert t m k x=>QbL C.P st t (st.ev d m) (st.ev d k) (st.ev d x) fun st=>K (st.put d o.dst .any)
 | .makeFunc (.func f) first caps=>match first.toList with
  | []=>out (.fn f (caps.toList.map (st.ev d)))
  | _=>none
 | .call { callee:=.builtin .len,args,argTypes }=>match args.toList,argTypes.toList with
  | [x],[t]=>Qoh C.P st t (st.ev d x) out
  | _,_=>none
 | .call { callee:=.builtin .min,args,.. }=>match args.toList with
  | [x,y]=>Qq8 (st.ev d x) (st.ev d y) out
  | _=>none
 | .call { callee:=.builtin .max,args,.. }=>match args.toList with
  | [x,y]=>Qq9 (st.ev d x) (st.ev d y) out
  | _=>none
 | .call { callee:=.builtin .append,args,argTypes }=>match args.toList,argTypes.toList with
  | [s,x],[t,t']=>bif Nat.beq t t' then (match Jq C.I (here :: path) with
   | some _=>Qjh C.P st t (st.ev d s) (st.ev d x) fun v st=>K (st.put d o.dst v)
   | none=>Qe4 C.P st t (st.ev d s) (st.ev d x) fun v st=>K (st.put d o.dst v)) else none
  | _,_=>none
 | .call { callee:=.value f,args,.. }=>match st.ev d f with
  | .fn g caps=>match Jq C.I (here :: path) with
   | some g'=>bif Nat.beq g g' then C.inl d (here :: path) g (args.toList.map (st.ev d) ++ caps) (fun v st=>K (st.put d o.dst v)) st else
    bif Nat.blt g QC then
     bif Nat.beq (g + QC) g' then C.con g' (args.toList.map (st.ev d) ++ caps) (QsK d o.dst st K) else
     bif Nat.beq (g + Q9) g' then C.con g' (St.res.resL st (args.toList.map (st.ev d) ++ caps)) (QtD d o.dst st K) else
     bif Nat.beq (g + Yj) g' then (match args.toList.map (st.ev d) ++ caps with
      | [a,.d (.int .i64) k]=>bif V.hotOk st a then C.con g' [st.res a,.d (.int .i64) k] (QtE d o.dst st a K) else none
      | _=>none) else
     bif Nat.ble ZI g' && Nat.beq ((g' - ZI) / 64) g then QrO C.con st g' ((g' - ZI) % 64) (args.toList.map (st.ev d) ++ caps) d o.dst K else none
    else none
   | none=>bif Nat.blt g QC then QrP C.con st g (args.toList.map (st.ev d) ++ caps) out else none
  | _=>none
 | _=>none
def QaC (nn : Nat) (o : Oper) : Bool :=
 match o.dst with
 | some t=>Nat.blt t nn
 | none=>true
def V3 (C : Ctx R) (d nn : Nat) (path : List Nat) (all : List Oper) : Nat → List Oper → Zp R → Zp R
  | _, [], K, st => K st
  | here, o :: rest, K, st =>
    bif QaC nn o then
      match o.guard with
      | none => Zf C d path here o st (V3 C d nn path all (here + 1) rest K)
      | some (j, want) =>
        match QkO all j with
        | none => none
        | some t => match st.tm d t with
          | .d .bool b =>
            bif b then
              (match want with
               | true => Zf C d path here o (st.set d t (.d .bool true)) (V3 C d nn path all (here + 1) rest K)
               | false => V3 C d nn path all (here + 1) rest K ((st.set d t (.d .bool true)).put d o.dst .un))
            else
              (match want with
               | true => V3 C d nn path all (here + 1) rest K ((st.set d t (.d .bool false)).put d o.dst .un)
               | false => Zf C d path here o (st.set d t (.d .bool false)) (V3 C d nn path all (here + 1) rest K))
          | .un => V3 C d nn path all (here + 1) rest K (st.put d o.dst .un)
          | _ => none
    else none
def Qfg (C : Ctx R) (d nn : Nat) (path : List Nat) (all : List Oper) : Nat → List Oper → Zp R → XA R
 | _,[],_=>[]
 | here,o :: rest,K =>
  (match Jq C.I (here :: path) with
   | some g=>C.lab d (here :: path) g (fun v st=>V3 C d nn path all (here + 1) rest K (st.put d o.dst v))
   | none=>[]) ++ Qfg C d nn path all (here + 1) rest K
inductive Ex where | normal | exit (i : Nat) | ret
abbrev XB (R : Type):=Ex → St → Option R
def UJ : Code → Nat
 | .region id _ _=>id
 | .seq a _=>UJ a
 | .cond _ a _=>UJ a
 | .block _ b=>UJ b
 | .loop b=>UJ b
 | .scope b=>UJ b
 | _=>0
def Qdn (nx : Zp R) (K : XB R) : XB R
 | .normal,st=>nx st
 | e,st=>K e st
def QrQ (id : Nat) (K : XB R) : XB R
 | .exit i,st=>bif Nat.beq i id then K .normal st else K (.exit i) st
 | e,st=>K e st
def Ctx.cutAt (C : Ctx R) (path : List Nat) (b : Code) : Bool:=(Jq C.A (1 :: UJ b :: path)).isSome
def Jm (P : Program) (o : Oper) : Bool :=
 match o.op with
 | .binOp _ _ _ y _=>!(QkN y)
 | .load _ a=>(Qji a).isNone
 | .move _ | .assign _ | .pick .. | .unOp .. | .nilCheck _ | .fieldAddr .. | .field .. | .indexAddr .. | .index .. | .slice .. | .extract .. | .build .. | .makeFunc .. | .lookup ..=>true
 | .convert s t _=>match P.underlying s,P.underlying t with
  | some .string,some (.slice _)=>false
  | _,_=>true
 | .call { callee:=.builtin .len,.. } | .call { callee:=.builtin .min,.. } | .call { callee:=.builtin .max,.. }=>true
 | _=>false
def VK (o : Oper) : Bool :=
 match o.op with
 | .call { callee:=.value _,.. }=>true
 | _=>false
def Z5 : Operand → List Nat
 | .tmp t=>[t]
 | _=>[]
def Ve (o : Oper) : List Nat :=
 match o.op with
 | .move x | .assign x=>Z5 x
 | .pick c a b=>Z5 c ++ Z5 a ++ Z5 b
 | .binOp _ _ x y _=>Z5 x ++ Z5 y
 | .unOp _ _ x=>Z5 x
 | .load _ a=>Z5 a
 | .nilCheck x=>Z5 x
 | .fieldAddr _ x _=>Z5 x
 | .field _ x _=>Z5 x
 | .indexAddr _ x i=>Z5 x ++ Z5 i
 | .index _ x i=>Z5 x ++ Z5 i
 | .lookup _ x i _=>Z5 x ++ Z5 i
 | .mapUpdate _ m k x | .insert _ m k x=>Z5 m ++ Z5 k ++ Z5 x
 | .slice _ x lo hi mx=>Z5 x ++ (lo.toList.flatMap Z5) ++ (hi.toList.flatMap Z5) ++ (mx.toList.flatMap Z5)
 | .convert _ _ x=>Z5 x
 | .extract x _=>Z5 x
 | .build _ ps=>ps.toList.flatMap fun p=>Z5 p.2
 | .box _ x=>Z5 x
 | .buildSlice _ _ ps=>ps.toList.flatMap fun p=>Z5 p.2
 | .makeSlice _ l c=>Z5 l ++ Z5 c
 | .makeFunc _ _ caps=>caps.toList.flatMap Z5
 | .call { callee:=.value f,args,.. }=>Z5 f ++ args.toList.flatMap Z5
 | .call { args,.. }=>args.toList.flatMap Z5
 | _=>[]
def WP (o : Oper) : Bool :=
 match o.op with
 | .alloc _ | .box .. | .buildSlice .. | .makeSlice .. | .convert ..=>true
 | .call { callee:=.builtin .append,.. }=>true
 | _=>false
def QnO (o : Oper) : Bool :=
 match o.op with
 | .alloc _ | .box .. | .makeSlice ..=>true
 | _=>false
def QbM (o : Oper) : Bool :=
 match o.op with
 | .buildSlice ..=>true
 | .call { callee:=.builtin .append,.. }=>true
 | _=>false
inductive Eff where
 | val (v : V)
 | boxed (v : V) (b : Box)
 | grown (k : Option Nat) (v : V)
 | deep (v : V) (dr : Nat → Option RBox) (nd : Nat)
def Eff.app (e : Eff) (d : Nat) (dst : Option Nat) (st : St) : St :=
 match e with
 | .val v=>st.put d dst v
 | .boxed v b=>match dst with
  | some t=>(st.setB d t b).set d t v
  | none=>st
 | .grown k v=>(match k with
  | some k=>(st.spend k).mint
  | none=>st.mint).put d dst v
 | .deep v dr nd=>({ st with dr:=dr,nd:=nd } : St).put d dst v
def Qe6 (o : Oper) : List Nat:=(o.after.toList.filter (Region.binds .any)).map (·.on)
def Zu (ops : Array Oper) (i : Nat) : List Nat :=
 match ops[i]? with
 | some o=>Qe6 o
 | none=>[]
def JR (ops : Array Oper) (i : Nat) : Option Nat:=(ops[i]?).bind (·.dst)
def VL (i : Nat) : List Nat → Bool
 | []=>false
 | j :: l=>Nat.beq i j || VL i l
def UA (ops : Array Oper) (i : Nat) : List Nat :=
 match ops[i]? with
 | some o=>Ve o ++ (match o.guard with
  | some (j,_)=>(QkO ops.toList j).toList
  | none=>[])
 | none=>[]
def leftOf (ops : Array Oper) (listed : Array Bool) : List Nat:=(List.range ops.size).filter fun i=>!listed.getD i true
def Jo (I : List (List Nat × Nat)) (path : List Nat) (id : Nat) (ops : Array Oper) (i : Nat) : Bool :=
 match ops[i]? with
 | some o=>(match o.op with
  | .call { callee:=.value (.func g),.. }=>Nat.blt g QC && (match Jq I ((1000 * id + i) :: path) with
   | some g'=>Nat.beq (g + Q9) g'
   | none=>false)
  | _=>false)
 | none=>false
def Qol (o : Oper) : Bool :=
 match o.op with
 | .indexAddr .. | .load ..=>true
 | .call { callee:=.builtin .len,.. }=>true
 | _=>false
def W5 (ops : Array Oper) (i : Nat) : Bool :=
 match ops[i]? with
 | some o=>Qol o || VK o
 | none=>true
def EV (P : Program) (I : List (List Nat × Nat)) (path : List Nat) (id : Nat) (ops : Array Oper) (i : Nat) : Bool :=
 (match ops[i]? with
 | some o=>Jm P o || ((WP o || VK o) && (Jq I ((1000 * id + i) :: path)).isNone)
 | none=>false) || Jo I path id ops i
def Qo9 (ops : Array Oper) (left : List Nat) : Nat → List Nat → List Nat
 | 0,acc=>acc
 | n + 1,acc=>Qo9 ops left n (left.filter fun i=>VL i acc || acc.any fun k=>VL i (Zu ops k))
def Qam (ops : Array Oper) (listed : Array Bool) : List Nat → List Nat → Bool
 | _,[]=>true
 | Zj,i :: r=>!VL i Zj && ((Zu ops i).all fun p=>listed.getD p false || VL p Zj) && Qam ops listed (i :: Zj) r
def QlV (ops : Array Oper) (k : Nat) : List Nat → Bool
 | []=>true
 | i :: r=>(VL i (Zu ops k) || r.any fun j=>VL i (Zu ops j)) && QlV ops k r
def QH (ops : Array Oper) (i : Nat) : Bool :=
 match ops[i]? with
 | some o=>QbM o
 | none=>false
def Qpa (ops : Array Oper) (i : Nat) : Bool :=
 match ops[i]? with
 | some o=>QnO o
 | none=>false
def Qhw (ops : Array Oper) (S : List Nat) : List Nat:=(S.filter (Qpa ops)).filterMap (JR ops)
def Qom (ops : Array Oper) (i j : Nat) : Bool :=
 match JR ops j with
 | some t=>(match JR ops i with
  | some t'=>!Nat.beq t t'
  | none=>true) && (!VL t (UA ops i) || VL j (Zu ops i))
 | none=>true
def QrR (ops : Array Oper) (i : Nat) : Bool :=
 match JR ops i with
 | some t=>!VL t (UA ops i)
 | none=>true
def W6 (o : Oper) : Bool :=
 match o.op with
 | .binOp _ _ _ y _=>!(QkN y)
 | .move _ | .assign _ | .pick .. | .extract .. | .unOp .. | .fieldAddr ..=>true
 | _=>false
def Qgj (ops : Array Oper) (listed : Array Bool) (i : Nat) : Bool :=
 (match ops[i]? with
  | some o=>W6 o
  | none=>false) && match ops[i]? with
  | some oi=>(List.range ops.size).all fun j=>Nat.beq j i || listed.getD j true || VL j (Qe6 oi) || match ops[j]? with
   | some oj=>VL i (Qe6 oj) || oi.apart ops oj
   | none=>true
  | none=>false
def Qra (ops : Array Oper) (listed : Array Bool) (left acc : List Nat) : List Nat :=
 left.foldl (fun acc i=>bif VL i acc then acc else bif Qgj ops listed i && (Zu ops i).all (fun p=>listed.getD p false || VL p acc) then i :: acc else acc) acc
def W0 (ops : Array Oper) (listed : Array Bool) (left : List Nat) (h : Nat) : List Nat :=
 let S:=Qra ops listed left ((Qo9 ops left left.length [h]).filter fun i=>!Nat.beq i h)
 left.filter fun i=>VL i S
def Qgk (ops : Array Oper) : List Nat → Bool
 | []=>true
 | i :: r=>(match r with
  | []=>true
  | j :: _=>VL i (Zu ops j)) && Qgk ops r
def QlW (I : List (List Nat × Nat)) (path : List Nat) (id : Nat) (ops : Array Oper) (S : List Nat) : Bool :=
 match S.filter (Jo I path id ops) with
 | []=>true
 | [i]=>S.all fun j=>Nat.beq j i || !W5 ops j || VL j (Qo9 ops S S.length [i]) || VL i (Qo9 ops S S.length [j])
 | _=>false
def QtF (ops : Array Oper) (S : List Nat) (i : Nat) : Bool :=
 (match ops[i]? with
  | some o=>(match o.op with
   | .assign _=>true
   | _=>false)
  | none=>false) && S.any fun j=>!Nat.beq i j && !Qom ops j i
def QdF (P : Program) (I : List (List Nat × Nat)) (path : List Nat) (id : Nat) (ops : Array Oper) (listed : Array Bool) : List Nat :=
 let left:=leftOf ops listed
 let S:=match left.find? fun i=>!EV P I path id ops i with
  | none=>left
  | some h=>W0 ops listed left h
 let S:=match S.filter fun i=>QH ops i with
  | _ :: h :: _=>bif Qgk ops (S.filter fun i=>QH ops i) then S else W0 ops listed left h
  | _=>S
 let S:=match S.filter (Jo I path id ops) with
 | []=>S
 | [i]=>bif QlW I path id ops S then S else W0 ops listed left i
 | i :: j :: _ =>
  let S:=W0 ops listed left j
  bif QlW I path id ops S && VL i S then S else W0 ops listed left i
 match S.find? (QtF ops S) with
 | none=>S
 | some i=>(W0 ops listed left i).filter fun k=>!Nat.beq k i
def QrS (ops : Array Oper) (listed : Array Bool) (S : List Nat) : Nat → List Nat → List Nat
 | 0,acc=>acc
 | n + 1,acc=>QrS ops listed S n (S.filter fun i=>VL i acc || acc.any (fun k=>VL i (Zu ops k)) || (Qgj ops listed i && (Zu ops i).all fun p=>listed.getD p false || VL p acc))
def QpX (ops : Array Oper) (listed : Array Bool) (S : List Nat) (k : Nat) : Bool :=
 let acc:=QrS ops listed S S.length (S.filter fun i=>VL i (Zu ops k))
 S.all fun i=>VL i acc
def QaD (P : Program) (I : List (List Nat × Nat)) (path : List Nat) (id : Nat) (ops : Array Oper) (listed : Array Bool) (S : List Nat) : Bool :=
 !S.isEmpty && Nat.beq listed.size ops.size && Qgk ops (S.filter (QH ops)) && QlW I path id ops S && (S.all fun i=>EV P I path id ops i && !listed.getD i true && QrR ops i && S.all fun j=>Nat.beq i j || Qom ops i j) &&
 Qam ops listed [] S && ((leftOf ops listed).all fun k=>VL k S || !((Zu ops k).all fun p=>listed.getD p false || VL p S) || QlV ops k S || QpX ops listed S k)
def QrT (P : Program) (ops : Array Oper) : Bool:=P.follows .mixedOrders && Region.noSelect ops
def Qtn (d : Nat) (slots : List Nat) (q : Bool) (o : Oper) (st : St) : Bool :=
 (Ve o).all fun t=>V.kept (fun x y=>!(Nat.beq x d && VL y slots)) q (st.tm d t)
def QsL (C : Ctx R) (d nn : Nat) (path : List Nat) (id : Nat) (ops : Array Oper) (slots : List Nat) (q : Bool) : List Nat → Zp R → Zp R
 | [],K,st=>K st
 | i :: S,K,st=>match ops[i]? with
  | some o=>bif Qtn d slots q o st then V3 C d nn path ops.toList (1000 * id + i) [o] (QsL C d nn path id ops slots q S K) st else none
  | none=>none
def Qon (C : Ctx R) (d nn : Nat) (path : List Nat) (id : Nat) (ops : Array Oper) : Nat → Array Bool → Zp R → Zp R
 | 0,listed,K,st=>bif (Region.ready .any ops listed).isEmpty then K st else none
 | n + 1,listed,K,st =>
  bif (Region.ready .any ops listed).isEmpty then K st else
  let S:=QdF C.P C.I path id ops listed
  bif QaD C.P C.I path id ops listed S then
   QsL C d nn path id ops (Qhw ops S) (!(S.any (QH ops))) S (Qon C d nn path id ops n (S.foldl (fun l i=>l.setIfInBounds i true) listed) K) st
  else match Region.ready .any ops listed with
   | [i]=>match ops[i]? with
    | some o=>V3 C d nn path ops.toList (1000 * id + i) [o] (Qon C d nn path id ops n (listed.setIfInBounds i true) K) st
    | none=>none
   | _=>none
def Qoo (C : Ctx R) (d nn : Nat) (path : List Nat) (id : Nat) (ops : Array Oper) : Nat → Array Bool → Zp R → XA R
 | 0,_,_=>[]
 | n + 1,listed,K =>
  bif (Region.ready .any ops listed).isEmpty then [] else
  let S:=QdF C.P C.I path id ops listed
  bif QaD C.P C.I path id ops listed S then Qoo C d nn path id ops n (S.foldl (fun l i=>l.setIfInBounds i true) listed) K
  else match Region.ready .any ops listed with
   | [i]=>match ops[i]? with
    | some o=>Qfg C d nn path ops.toList (1000 * id + i) [o] (Qon C d nn path id ops n (listed.setIfInBounds i true) K) ++ Qoo C d nn path id ops n (listed.setIfInBounds i true) K
    | none=>[]
   | _=>[]
def JG (C : Ctx R) (d nn : Nat) (path : List Nat) : Code → XB R → Zp R
 | .skip,K=>K .normal
 | .region id ops false,K=>V3 C d nn path ops.toList (1000 * id) ops.toList (K .normal)
 | .region id ops true,K=>fun st=>bif QrT C.P ops then Qon C d nn path id ops ops.size (Array.replicate ops.size false) (K .normal) st else none
 | .seq a b,K=>JG C d nn path a (Qdn (bif C.cutAt path b then C.jump (1 :: UJ b :: path) else JG C d nn path b K) K)
 | .cond c a b,K=>fun st=>match st.ev d c with
  | .d .bool t=>bif t then JG C d nn path a K st else JG C d nn path b K st
  | _=>none
 | .block id b,K=>JG C d nn path b (QrQ id K)
 | .loop b,_=>C.jump (0 :: UJ b :: path)
 | .exit id,K=>K (.exit id)
 | .scope b,K=>JG C d nn path b K
 | .ret,K=>K .ret
 | _,_=>fun _=>none
def Zg (C : Ctx R) (d nn : Nat) (path : List Nat) : Code → XB R → XA R
 | .region id ops false,K=>Qfg C d nn path ops.toList (1000 * id) ops.toList (K .normal)
 | .region id ops true,K=>Qoo C d nn path id ops ops.size (Array.replicate ops.size false) (K .normal)
 | .seq a b,K =>
  (bif C.cutAt path b then [(1 :: UJ b :: path,JG C d nn path b K)] else []) ++
   (Zg C d nn path a (Qdn (bif C.cutAt path b then C.jump (1 :: UJ b :: path) else JG C d nn path b K) K) ++ Zg C d nn path b K)
 | .cond _ a b,K=>Zg C d nn path a K ++ Zg C d nn path b K
 | .block id b,K=>Zg C d nn path b (QrQ id K)
 | .scope b,K=>Zg C d nn path b K
 | .loop b,K =>
  (0 :: UJ b :: path,JG C d nn path b (Qdn (C.jump (0 :: UJ b :: path)) K)) :: Zg C d nn path b (Qdn (C.jump (0 :: UJ b :: path)) K)
 | _,_=>[]
def QsM (d : Nat) (st : St) (v : V) : Option V :=
 match v with
 | .msl d' s=>bif Nat.beq d' d then (match st.bx d' s with
  | .rows ty xs=>some (.d (.list ty) xs)
  | _=>none) else none
 | .mp d' s=>bif Nat.beq d' d then (match st.bx d' s with
  | .map k v es=>some (.d (.map k v) es)
  | _=>none) else none
 | .raw k=>bif Nat.beq d 0 then (match st.rw k with
  | some ⟨ty,xs⟩=>some (.d (.list ty) xs)
  | none=>none) else some (.raw k)
 | v=>some v
def QpY (P : Program) (d : Nat) (st : St) : ResultVar → Option V
 | .tmp t=>QsM d st (st.tm d t)
 | .cell a t=>EU P st t (st.tm d a) (QsM d st)
def Qmb (P : Program) (d : Nat) (st : St) : List ResultVar → Option (List V)
 | []=>some []
 | x :: r=>match QpY P d st x,Qmb P d st r with
  | some v,some vs=>some (v :: vs)
  | _,_=>none
def QsN (P : Program) (fn : Func) (d : Nat) (st : St) : Option V :=
 match Qmb P d st fn.results.toList with
 | some [v]=>some v
 | some vs=>some (.tup vs)
 | none=>none
def Qmc (P : Program) (fn : Func) (d : Nat) (K : V → Zp R) : XB R
 | .normal,st | .ret,st=>match QsN P fn d st with
  | some v=>K v st
  | none=>none
 | _,_=>none
def QbN (d : Nat) : Nat → List V → (Nat → Nat → V) → Nat → Nat → V
 | _,[],tm=>tm
 | i,v :: vs,tm=>upd (QbN d (i + 1) vs tm) d i v
def Qmd (d : Nat) (tm : Nat → Nat → V) : Nat → Nat → V:=fun x y=>bif Nat.beq x d then .any else tm x y
def Qme (d : Nat) (bx : Nat → Nat → Box) : Nat → Nat → Box:=fun x y=>bif Nat.beq x d then .none else bx x y
def GH (st : St) (d : Nat) (args : List V) : St :=
 { st with tm:=QbN d 0 args (Qmd d st.tm),bx:=Qme d st.bx }
def Qjj (d : Nat) (K : V → Zp R) (v : V) (st : St) : Option R :=
 bif v.le d then K v { st with tm:=Qmd (d + 1) st.tm,bx:=Qme (d + 1) st.bx } else none
def Z8 (P : Program) (g : Nat) : Bool :=
 match P.funcs[g]? with
 | some fn => fn.body.isSome && !(fn.name == "runtime.NumGoroutine")
 | none=>false
def Qhx (P : Program) (L : List Nat → List V → Option R) (A : List (List Nat × Ann)) (I : List (List Nat × Nat)) (con : Nat → List V → (V → Option R) → Option R) : Nat → Ctx R
 | 0=>⟨P,L,A,I,con,fun _ _ _ _ _ _=>none,fun _ _ _ _=>[]⟩
 | n + 1=>⟨P,L,A,I,con,
   fun d path g args K st=>match P.funcs[g]? with
    | some fn=>match fn.body with
     | some c=>bif Nat.ble args.length fn.ntmps && Z8 P g then JG (Qhx P L A I con n) (d + 1) fn.ntmps path c (Qmc P fn (d + 1) (Qjj d K)) (GH st (d + 1) args) else none
     | none=>none
    | none=>none,
   fun d path g K=>match P.funcs[g]? with
    | some fn=>match fn.body with
     | some c=>Zg (Qhx P L A I con n) (d + 1) fn.ntmps path c (Qmc P fn (d + 1) (Qjj d K))
     | none=>[]
    | none=>[]⟩
def YX : Nat:=6
@[reducible] def ER : List Ty → Type
 | []=>Unit
 | [t]=>t.den
 | t :: u :: ts=>t.den × ER (u :: ts)
def WA : (ts : List Ty) → List V → Option (ER ts)
 | [],[]=>some ()
 | [t],[v]=>Yu t v
 | t :: u :: ts,v :: vs=>match Yu t v,WA (u :: ts) vs with
  | some x,some y=>some (x,y)
  | _,_=>none
 | _,_=>none
def Ql (ts : List Ty) (v : V) : Option (ER ts) :=
 match ts,v with
 | [t],v=>Yu t v
 | ts,.tup vs=>WA ts vs
 | _,_=>none
def Vf : (ts : List Ty) → ER ts → List V
 | [],_=>[]
 | [t],x=>[YW t x]
 | t :: u :: ts,x=>YW t x.1 :: Vf (u :: ts) x.2
def UB (ts : List Ty) (x : ER ts) : V :=
 match ts,x with
 | [t],x=>YW t x
 | ts,x=>.tup (Vf ts x)
def Qop : XA R → List Nat → Bool
 | [],_=>true
 | (p,_) :: r,q=>!(Qgi p q) && Qop r q
def QdG : XA R → List Nat → Option (Zp R)
 | [],_=>none
 | (p,f) :: r,q=>bif Qgi p q then (bif Qop r q then some f else none) else QdG r q
def Qk6 (P : Program) (gl : Nat → Option (List V)) (A : List (List Nat × Ann)) (I : List (List Nat × Nat)) (con : Nat → List V → (V → Option R) → Option R) (fn : Func) (c : Code) (fin : XB R) : Nat → List Nat → List V → Option R
 | 0=>fun _ _=>none
 | n + 1=>fun q vs=>match QdG (Zg (Qhx P (Qk6 P gl A I con fn c fin n) A I con YX) 0 fn.ntmps [] c fin) q,Jq A q with
  | some f,some an=>f { Qq an vs with gl:=gl }
  | _,_=>none
def Qjk (P : Program) (gl : Nat → Option (List V)) (A : List (List Nat × Ann)) (I : List (List Nat × Nat)) (con : Nat → List V → (V → Option R) → Option R) (fn : Func) (c : Code) (fin : XB R) (n : Nat) (args : List V) : Option R :=
 bif Nat.ble args.length fn.ntmps then
  JG (Qhx P (Qk6 P gl A I con fn c fin n) A I con YX) 0 fn.ntmps [] c fin (GH { St.empty with gl:=gl } 0 args)
 else none
def QrU (P : Program) (fn : Func) (fin : V → Option R) : XB R:=Qmc P fn 0 fun v _=>fin v
def lam (P : Program) (A : List (List Nat × Ann)) (I : List (List Nat × Nat)) (con : Nat → List V → (V → Option R) → Option R) (fn : Func) (c : Code) (fin : V → Option R) : Nat → List Nat → List V → Option R :=
 Qk6 P noG A I con fn c (QrU P fn fin)
def run (P : Program) (A : List (List Nat × Ann)) (I : List (List Nat × Nat)) (con : Nat → List V → (V → Option R) → Option R) (fn : Func) (c : Code) (fin : V → Option R) (n : Nat) (args : List V) : Option R :=
 Qjk P noG A I con fn c (QrU P fn fin) n args
def QrV (t : Ty) (st : St) (v : V) : Option (List t.den) :=
 match v with
 | .nils=>some []
 | .own tok t' xs=>bif st.lv tok then castL? t' t xs else none
 | .raw tok=>match st.rw tok with
  | some ⟨t',xs⟩=>castL? t' t xs
  | none=>none
 | _=>none
def QsO (P : Program) (fn : Func) (t : Ty) : XB (List t.den)
 | .normal,st | .ret,st=>match fn.results.toList with
  | [.tmp x]=>QrV t st (st.tm 0 x)
  | [.cell a ty]=>EU P st ty (st.tm 0 a) (QrV t st)
  | _=>none
 | _,_=>none
def QbO (P : Program) (st : St) : List ResultVar → Option (List V)
 | []=>some []
 | .tmp t :: r=>(QbO P st r).map (st.tm 0 t :: ·)
 | .cell a t :: r=>EU P st t (st.tm 0 a) fun v=>(QbO P st r).map (v :: ·)
def V.dwhole (st : St) : V → Bool
 | .agg cs=>cs.all (V.dpart st)
 | v=>v.dpart st
def Qdo (P : Program) (fn : Func) (rets : List Ty) : XB (ER rets)
 | .normal,st | .ret,st=>match QbO P st fn.results.toList with
  | some vs=>bif vs.all (V.dwhole st) && Qal (V.drs.drsL vs) && rets.all Ty.dok && Nat.beq vs.length rets.length then WA rets (St.res.resL st vs) else none
  | none=>none
 | _,_=>none
end
end Go.Ab
