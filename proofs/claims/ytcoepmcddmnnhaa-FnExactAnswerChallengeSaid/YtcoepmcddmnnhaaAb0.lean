import GoSem.Claim
import GoSem.ClaimKeys
import Derived.Calls
import Derived.Laws.Sem
import Derived.OrdersHeld
namespace Go.Ab
noncomputable section
inductive Tree (α : Type) where
 | node (v : α) (kids : List (Tree α))
def Tree.val {α : Type} : Tree α → α
 | .node v _=>v
def Tree.kids {α : Type} : Tree α → List (Tree α)
 | .node _ k=>k
inductive Ty where
 | int (k : IntKind) | bool | str | list (t : Ty) | unit | pair (a b : Ty)
 | map (k v : Ty)
 | tree (a : Ty)
@[reducible] def Ty.den : Ty → Type
 | .int _=>Int
 | .bool=>Bool
 | .str=>List Int
 | .list t=>List t.den
 | .unit=>Unit
 | .pair a b=>a.den × b.den
 | .map k v=>List (k.den × v.den)
 | .tree a=>Tree a.den
def Ty.dflt : (t : Ty) → t.den
 | .int _=>(0 : Int)
 | .bool=>false
 | .str=>([] : List Int)
 | .list _=>[]
 | .unit=>()
 | .pair a b=>(a.dflt,b.dflt)
 | .map _ _=>[]
 | .tree a=>.node a.dflt []
def Ty.keyFlat : Ty → Bool
 | .int _ | .bool | .str | .unit=>true
 | .pair a b=>a.keyFlat && b.keyFlat
 | _=>false
def Ty.cells : Ty → Nat
 | .unit=>0
 | .pair a b=>a.cells + b.cells
 | .tree a=>a.cells + 1
 | _=>1
def Ty.scalar : Ty → Bool
 | .unit | .pair _ _ | .tree _=>false
 | _=>true
def Ty.eq? : (a b : Ty) → Option (PLift (a = b))
 | .int k,.int k'=>if h : k = k' then some ⟨by rw [h]⟩ else none
 | .bool,.bool=>some ⟨rfl⟩
 | .str,.str=>some ⟨rfl⟩
 | .list t,.list t'=>match Ty.eq? t t' with
  | some ⟨h⟩=>some ⟨by rw [h]⟩
  | none=>none
 | .unit,.unit=>some ⟨rfl⟩
 | .pair a b,.pair a' b'=>match Ty.eq? a a',Ty.eq? b b' with
  | some ⟨h⟩,some ⟨h'⟩=>some ⟨by rw [h,h']⟩
  | _,_=>none
 | .map a b,.map a' b'=>match Ty.eq? a a',Ty.eq? b b' with
  | some ⟨h⟩,some ⟨h'⟩=>some ⟨by rw [h,h']⟩
  | _,_=>none
 | .tree a,.tree a'=>match Ty.eq? a a' with
  | some ⟨h⟩=>some ⟨by rw [h]⟩
  | none=>none
 | _,_=>none
def Ty.decEq : (t : Ty) → (x y : t.den) → Decidable (x = y)
 | .int _=>fun (x y : Int)=>Int.instDecidableEq x y
 | .bool=>fun (x y : Bool)=>instDecidableEqBool x y
 | .str=>fun (x y : List Int)=>instDecidableEqList x y
 | .list t=>fun (x y : List t.den)=>@instDecidableEqList _ t.decEq x y
 | .unit=>fun (_ _ : Unit)=>isTrue rfl
 | .pair a b=>fun (x y : a.den × b.den)=>@instDecidableEqProd _ _ a.decEq b.decEq x y
 | .map a b=>fun (x y : List (a.den × b.den))=>@instDecidableEqList _ (@instDecidableEqProd _ _ a.decEq b.decEq) x y
 | .tree _=>fun _ _=>Classical.propDecidable _
def QY (rec : TypeId → Option Ty) (off : Nat) : List Field → Option Ty
 | []=>some .unit
 | [f]=>if f.offset = off then rec f.type else none
 | f :: g :: fs=>if f.offset = off then (rec f.type).bind fun a=>(QY rec (off + a.cells) (g :: fs)).map (.pair a) else none
def QgY (P : Program) (rec : TypeId → Option Ty) (t : TypeId) (fs : List Field) : Option Ty :=
 match fs.getLast? with
 | some f=>match P.underlying f.type with
  | some (.slice e)=>bif Nat.beq e t then (match QY rec 0 fs.dropLast with
   | some a=>bif Nat.beq f.offset a.cells then some (.tree a) else none
   | none=>none) else none
  | _=>none
 | none=>none
def QgZ (P : Program) (rec : TypeId → Option Ty) (t : TypeId) : Option Ty :=
  match P.underlying t with
  | some .bool => some .bool
  | some (.int k) => some (.int k)
  | some .string => some .str
  | some (.slice e) => (rec e).map .list
  | some (.map k e) => match rec k, rec e with
    | some a, some b => some (.map a b)
    | _, _ => none
  | some (.struct fs) => match QgY P rec t fs.toList with
   | some ty => some ty
   | none => match fs.toList with
    | [f] => if f.offset = 0 then (rec f.type).map fun a => .pair a .unit else none
    | l => QY rec 0 l
  | _ => none
def Jc (P : Program) : Nat → TypeId → Option Ty
 | 0,_=>none
 | n + 1,t=>match QgZ P (Jc P n) t with
  | some ty=>bif Nat.beq (P.cellsOf t) ty.cells && (P.info? t).isSome then some ty else none
  | none=>none
def QU : Nat:=12
inductive V where
 | any
 | un
 | d (t : Ty) (x : t.den)
 | agg (cs : List V)
 | eptr (cs : List V)
 | ptr (d s off : Nat)
 | rptr (d s sz : Nat) (i : Int) (off : Nat)
 | own (tok : Nat) (t : Ty) (xs : List t.den)
 | nils
 | msl (d s : Nat)
 | fn (f : Nat) (caps : List V)
 | tup (vs : List V)
 | raw (k : Nat)
 | qptr (k sz : Nat) (i : Int) (off : Nat)
 | mp (d s : Nat)
 | dr (k : Nat)
 | dq (k sz : Nat) (i : Int) (off : Nat)
structure RBox where
 ty : Ty
 xs : List ty.den
inductive Box where
 | none
 | cells (cs : List V)
 | rows (t : Ty) (xs : List t.den)
 | map (k v : Ty) (es : List (k.den × v.den))
structure St where
 tm : Nat → Nat → V
 bx : Nat → Nat → Box
 nt : Nat
 lv : Nat → Bool
 rw : Nat → Option RBox
 gl : Nat → Option (List V)
 dr : Nat → Option RBox
 nd : Nat
def ZN : (t : Ty) → t.den → List V
 | .pair a b,x=>ZN a x.1 ++ ZN b x.2
 | .unit,_=>[]
 | .int k,x=>[.d (.int k) x]
 | .bool,x=>[.d .bool x]
 | .str,x=>[.d .str x]
 | .list t,x=>[.d (.list t) x]
 | .map k v,x=>[.d (.map k v) x]
 | .tree a,x=>ZN a x.val ++ [.d (.list (.tree a)) x.kids]
def Yd : (t : Ty) → t.den → V
 | .pair a b,x=>.agg (ZN (.pair a b) x)
 | .unit,_=>.agg []
 | .int k,x=>.d (.int k) x
 | .bool,x=>.d .bool x
 | .str,x=>.d .str x
 | .list t,x=>.d (.list t) x
 | .map k v,x=>.d (.map k v) x
 | .tree a,x=>.agg (ZN (.tree a) x)
def cast? (t t' : Ty) (x : t.den) : Option t'.den :=
 match Ty.eq? t t' with
 | some ⟨h⟩=>some (h ▸ x)
 | none=>none
def castL? (t t' : Ty) (x : List t.den) : Option (List t'.den) :=
 match Ty.eq? t t' with
 | some ⟨h⟩=>some (h ▸ x)
 | none=>none
def Ye (t : Ty) (v : V) : Option t.den :=
 match t,v with
 | .list t,.own _ t' x=>castL? t' t x
 | .list _,.nils=>some []
 | t,.d t' x=>cast? t' t x
 | _,_=>none
def ZB : (t : Ty) → List V → Option t.den
 | .pair a b,cs=>match ZB a (cs.take a.cells),ZB b (cs.drop a.cells) with
  | some x,some y=>some (x,y)
  | _,_=>none
 | .unit,[]=>some ()
 | .int k,[v]=>Ye (.int k) v
 | .bool,[v]=>Ye .bool v
 | .str,[v]=>Ye .str v
 | .list t,[v]=>Ye (.list t) v
 | .map k e,[v]=>Ye (.map k e) v
 | .tree a,cs=>match ZB a (cs.take a.cells),cs.drop a.cells with
  | some v,[k]=>(Ye (.list (.tree a)) k).map fun ks=>Tree.node v ks
  | _,_=>none
 | _,_=>none
def V.cellsOf : V → List V
 | .agg cs=>cs
 | v=>[v]
def JG (t : Ty) (v : V) : Option t.den :=
 match t,v with
 | .pair a b,.agg cs=>ZB (.pair a b) cs
 | .unit,.agg cs=>ZB .unit cs
 | .tree a,.agg cs=>ZB (.tree a) cs
 | .pair _ _,_ | .unit,_ | .tree _,_=>none
 | t,v=>Ye t v
def V.plain : V → Bool
 | .any | .un | .tup _ | .raw _ | .qptr .. | .dq ..=>false
 | _=>true
def upd (f : Nat → Nat → V) (d t : Nat) (v : V) : Nat → Nat → V :=
 fun x y=>bif Nat.beq y t && Nat.beq x d then v else f x y
def Qfk (f : Nat → Nat → Box) (d t : Nat) (v : Box) : Nat → Nat → Box :=
 fun x y=>bif Nat.beq y t && Nat.beq x d then v else f x y
def Qc4 (f : Nat → Option RBox) (t : Nat) (v : Option RBox) : Nat → Option RBox:=fun x=>bif Nat.beq x t then v else f x
def Qgv (f : Nat → Bool) (t : Nat) (v : Bool) : Nat → Bool:=fun x=>bif Nat.beq x t then v else f x
def QD (s : ByteArray) : List Int:=s.data.toList.map fun b=>(b.toNat : Int)
def inK (k : IntKind) (x : Int) : Bool:=decide (k.min ≤ x) && decide (x ≤ k.max)
def YB : Value → V
 | .bool b=>.d .bool b
 | .int k n=>bif inK k n then .d (.int k) n else .any
 | .string s=>bif Nat.ble s.size 140737488355328 then .d .str (QD s) else .any
 | .slice none 0 0=>.nils
 | _=>.any
def St.ev (st : St) (d : Nat) : Operand → V
 | .tmp t=>st.tm d t
 | .const v=>YB v
 | .func f=>.fn f []
 | .global _=>.any
def St.set (st : St) (d t : Nat) (v : V) : St:={ st with tm:=upd st.tm d t v }
def St.put (st : St) (d : Nat) (dst : Option Nat) (v : V) : St :=
 match dst with
 | some t=>st.set d t v
 | none=>st
def St.setB (st : St) (d t : Nat) (b : Box) : St:={ st with bx:=Qfk st.bx d t b }
def St.mint (st : St) : St:={ st with nt:=st.nt + 1,lv:=Qgv st.lv st.nt true }
def St.spend (st : St) (tok : Nat) : St:={ st with lv:=Qgv st.lv tok false,rw:=Qc4 st.rw tok none }
def St.setR (st : St) (tok : Nat) (b : Option RBox) : St:={ st with rw:=Qc4 st.rw tok b }
def St.mintR (st : St) (b : RBox) : St:=(st.mint).setR st.nt (some b)
def St.setD (st : St) (k : Nat) (b : Option RBox) : St:={ st with dr:=Qc4 st.dr k b }
def St.mintD (st : St) (b : RBox) : St:={ st with dr:=Qc4 st.dr st.nd (some b),nd:=st.nd + 1 }
def inB (i : Int) (n : Nat) : Bool:=decide (0 ≤ i) && decide (i < (n : Int))
def rd {α : Type} (xs : List α) (i : Int) (d : α) : α:=xs.getD i.toNat d
def V.le (n : Nat) : V → Bool
 | .ptr dp _ _ | .rptr dp _ _ _ _ | .msl dp _ | .mp dp _=>Nat.ble dp n
 | .agg cs | .eptr cs | .fn _ cs | .tup cs=>leL n cs
 | _=>true
where leL (n : Nat) : List V → Bool
 | []=>true
 | c :: cs=>c.le n && leL n cs
def V.flat : V → Bool
 | .ptr .. | .rptr .. | .msl .. | .fn .. | .eptr .. | .any | .un | .tup .. | .raw _ | .qptr .. | .mp .. | .dr _ | .dq ..=>false
 | .agg cs=>flatL cs
 | _=>true
where flatL : List V → Bool
 | []=>true
 | c :: cs=>c.flat && flatL cs
def JK (cs : List V) (off : Nat) (vs : List V) : List V:=cs.take off ++ vs ++ cs.drop (off + vs.length)
variable {R : Type}
abbrev Q1 (R : Type):=St → Option R
def QiS (op : BinOp) (a b : Int) : Bool :=
 match op with
 | .eql=>decide (a = b) | .neq=>!decide (a = b)
 | .lss=>decide (a < b) | .leq=>decide (a ≤ b) | .gtr=>decide (b < a) | .geq=>decide (b ≤ a)
 | _=>false
def Xx : List Int → List Int → Bool
 | _,[]=>false
 | [],_ :: _=>true
 | a :: x,b :: y=>decide (a < b) || (decide (a = b) && Xx x y)
def Qfl (op : BinOp) (a b : List Int) : Bool :=
 match op with
 | .eql=>decide (a = b) | .neq=>!decide (a = b)
 | .lss=>Xx a b | .leq=>!Xx b a | .gtr=>Xx b a | .geq=>!Xx a b
 | _=>false
def QI : Int:=Classical.choose (⟨140737488355328,rfl⟩ : ∃ r : Int,r = 140737488355328)
theorem QV : QI = 140737488355328:=Classical.choose_spec (⟨140737488355328,rfl⟩ : ∃ r : Int,r = 140737488355328)
def Qbc (P : Program) : Nat → TypeId → Bool
 | 0,_=>false
 | n + 1,t=>match P.underlying t with
  | some .bool | some (.int _) | some .string=>true
  | some (.struct fs) => !P.stoodInHeld t && fs.toList.all fun f => f.name != "_" && Qbc P n f.type
  | _=>false
def Ed (P : Program) (op : BinOp) (t : TypeId) (x y : V) (K : V → Option R) : Option R :=
 match x,y with
 | .d (.int k) a,.d (.int k') b =>
  match op with
  | .shl=>bif decide ((0 : Int) ≤ b) then K (.d (.int k) (k.wrap ((a : Int) * 2 ^ (min (Int.toNat b) k.bits)))) else none
  | .shr=>bif decide ((0 : Int) ≤ b) then K (.d (.int k) (Int.fdiv a (2 ^ (min (Int.toNat b) k.bits)))) else none
  | op=>if k = k' then
   match op with
   | .add=>K (.d (.int k) (k.wrap (a + b)))
   | .sub=>K (.d (.int k) (k.wrap (a - b)))
   | .mul=>K (.d (.int k) (k.wrap (a * b)))
   | .quo=>bif decide ((b : Int) = 0) then none else K (.d (.int k) (k.wrap (Int.tdiv a b)))
   | .rem=>bif decide ((b : Int) = 0) then none else K (.d (.int k) (Int.tmod a b))
   | .eql | .neq | .lss | .leq | .gtr | .geq=>K (.d .bool (QiS op a b))
   | .and=>K (.d (.int k) (k.wrap (BitVec.ofInt k.bits a &&& BitVec.ofInt k.bits b).toNat))
   | .or=>K (.d (.int k) (k.wrap (BitVec.ofInt k.bits a ||| BitVec.ofInt k.bits b).toNat))
   | .xor=>K (.d (.int k) (k.wrap (BitVec.ofInt k.bits a ^^^ BitVec.ofInt k.bits b).toNat))
   | _=>none
   else none
 | .d .str a,.d .str b =>
  match op with
  | .add=>bif decide (((a : List Int).length : Int) + ((b : List Int).length : Int) ≤ QI) then K (.d .str ((a : List Int) ++ (b : List Int))) else none
  | .eql | .neq | .lss | .leq | .gtr | .geq=>K (.d .bool (Qfl op a b))
  | _=>none
 | .d .bool a,.d .bool b =>
  match P.underlying t with
  | some .bool=>match op with
   | .eql=>K (.d .bool (a == b))
   | .neq=>K (.d .bool (a != b))
   | _=>none
  | _=>none
 | .agg a,.agg b =>
  match Jc P QU t with
  | some ty=>bif !ty.scalar && Qbc P QU t && !(P.eqGuardType P.depth t) then match ZB ty a,ZB ty b with
   | some u,some v=>match op with
    | .eql=>K (.d .bool (@decide (u = v) (ty.decEq u v)))
    | .neq=>K (.d .bool (!(@decide (u = v) (ty.decEq u v))))
    | _=>none
   | _,_=>none
   else none
  | none=>none
 | _,_=>none
open Classical in
def QhW (a b : Option R) : Option R:=if a = b then a else none
def QaW : Operand → Bool
 | .const (.slice none 0 0)=>true
 | _=>false
def QhX (op : BinOp) (n : Nat) (K : V → Option R) : Option R :=
 match op with
 | .eql=>bif decide (0 < n) then K (.d .bool false) else QhW (K (.d .bool true)) (K (.d .bool false))
 | .neq=>bif decide (0 < n) then K (.d .bool true) else QhW (K (.d .bool false)) (K (.d .bool true))
 | _=>none
def Qiz (P : Program) (op : BinOp) (t : TypeId) (x : V) (K : V → Option R) : Option R :=
 match P.underlying t with
 | some (.slice _)=>match x with
  | .d (.list t') xs=>QhX op (List.length (α:=t'.den) xs) K
  | .own _ _ xs=>QhX op xs.length K
  | .nils=>match op with
   | .eql=>K (.d .bool true)
   | .neq=>K (.d .bool false)
   | _=>none
  | _=>none
 | _=>none
def unC (op : UnOp) (x : V) (K : V → Option R) : Option R :=
 match op,x with
 | .not,.d .bool b=>K (.d .bool (!b))
 | .neg,.d (.int k) a=>K (.d (.int k) (k.wrap (0 - a)))
 | _,_=>none
def QbM (P : Program) (t : TypeId) : Bool :=
 match P.underlying t with
 | some .bool | some (.int _) | some .string=>true
 | some (.struct _)=>Qbc P QU t && P.keyTypeAt QU t && match Jc P QU t with
  | some ty=>ty.keyFlat
  | none=>false
 | _=>false
def Ee (k : Ty) {α : Type} (es : List (k.den × α)) (x : k.den) (z : α) : α :=
 match es with
 | []=>z
 | e :: es=>bif @decide (x = e.1) (k.decEq x e.1) then e.2 else Ee k es x z
def U5 (k : Ty) {α : Type} (es : List (k.den × α)) (x : k.den) (y : α) : List (k.den × α) :=
 match es with
 | []=>[(x,y)]
 | e :: es=>bif @decide (x = e.1) (k.decEq x e.1) then (x,y) :: es else e :: U5 k es x y
def V1 (P : Program) (t : TypeId) : Bool :=
 match P.underlying t with
 | some (.struct _) | some (.array _ _)=>true
 | _=>false
def Y2 (P : Program) (t : TypeId) (cs : List V) (off : Nat) (K : V → Option R) : Option R :=
 match P.underlying t with
 | some _=>match V1 P t with
  | true =>
   let l:=(cs.drop off).take (P.cellsOf t)
   bif Nat.beq l.length (P.cellsOf t) then K (.agg l) else none
  | false=>match cs.drop off with
   | c :: _=>K c
   | []=>none
 | none=>none
def Ty.one : Ty → Bool
 | .int _ | .bool | .str=>true
 | _=>false
def H2 (ty : Ty) : List V → Option (List ty.den)
 | []=>some []
 | c :: cs=>match Ye ty c,H2 ty cs with
  | some x,some xs=>some (x :: xs)
  | _,_=>none
def H3 (ty : Ty) (i : Int) (x : ty.den) : Nat → List V → List V
 | _,[]=>[]
 | j,c :: cs=>(match Ye ty c with
  | some y=>V.d ty (bif decide (i = (j : Int)) then x else y)
  | none=>c) :: H3 ty i x (j + 1) cs
def Xy (P : Program) (st : St) (t : TypeId) (a : V) (K : V → Option R) : Option R :=
 match a with
 | .eptr cs=>Y2 P t cs 0 K
 | .ptr d s off=>match st.bx d s with
  | .cells cs=>Y2 P t cs off K
  | _=>none
 | .rptr d s sz i off=>match st.bx d s with
  | .rows ty xs=>bif Nat.beq sz ty.cells && inB i xs.length then Y2 P t (ZN ty (rd xs i ty.dflt)) off K else none
  | .cells cs=>match Jc P QU t with
   | some ty=>match H2 ty cs with
    | some xs=>bif Nat.beq sz 1 && Nat.beq off 0 && ty.one && (P.underlying t).isSome && !V1 P t then
      (bif inB i xs.length then K (.d ty (rd xs i ty.dflt)) else none)
     else none
    | none=>none
   | none=>none
  | _=>none
 | .qptr k sz i off=>match st.rw k with
  | some ⟨ty,xs⟩=>bif Nat.beq sz ty.cells && inB i xs.length then Y2 P t (ZN ty (rd xs i ty.dflt)) off K else none
  | none=>none
 | _=>none
def Qfm (P : Program) (st : St) (t : TypeId) (a v : V) (K : Q1 R) : Option R :=
 match a with
 | .ptr d s off=>match st.bx d s with
  | .cells cs =>
   let vs:=v.cellsOf
   bif Nat.beq vs.length (P.cellsOf t) && Nat.ble (off + vs.length) cs.length && v.plain && V.le.leL d vs && (P.info? t).isSome then
    K (st.setB d s (.cells (JK cs off vs)))
   else none
  | _=>none
 | .rptr d s sz i off=>match st.bx d s with
  | .rows ty xs =>
   let vs:=v.cellsOf
   bif Nat.beq sz ty.cells && inB i xs.length && Nat.beq vs.length (P.cellsOf t) && v.plain && (P.info? t).isSome && Nat.ble (off + vs.length) ty.cells then
    match ZB ty (JK (ZN ty (rd xs i ty.dflt)) off vs) with
    | some e=>K (st.setB d s (.rows ty (xs.set (Int.toNat i) e)))
    | none=>none
   else none
  | .cells cs=>match Jc P QU t with
   | some ty=>match Ye ty v,H2 ty cs with
    | some x,some xs=>bif Nat.beq sz 1 && Nat.beq off 0 && ty.one && Nat.beq (P.cellsOf t) 1 && (P.info? t).isSome then
      (bif inB i xs.length then K (st.setB d s (.cells (H3 ty i x 0 cs))) else none)
     else none
    | _,_=>none
   | none=>none
  | _=>none
 | .qptr k sz i off=>match st.rw k with
  | some ⟨ty,xs⟩ =>
   let vs:=v.cellsOf
   bif Nat.beq sz ty.cells && inB i xs.length && Nat.beq vs.length (P.cellsOf t) && v.plain && (P.info? t).isSome && Nat.ble (off + vs.length) ty.cells then
    match ZB ty (JK (ZN ty (rd xs i ty.dflt)) off vs) with
    | some e=>K (st.setR k (some ⟨ty,xs.set (Int.toNat i) e⟩))
    | none=>none
   else none
  | none=>none
 | _=>none
def zeroCells (P : Program) (t : TypeId) : Option (List V) :=
 match (P.info? t).bind (·.zero) with
 | some z=>bif z.cells.toList.all (·.oneCell') then some (z.cells.toList.map YB) else none
 | none=>none
def Wy (P : Program) (t : TypeId) (ty : Ty) : Option ty.den:=(zeroCells P t).bind (ZB ty)
def H4 (P : Program) (t : TypeId) (f : Nat) : Option (Nat × TypeId) :=
 match P.underlying t with
 | some (.struct fs)=>(fs[f]?).map fun f=>(f.offset,f.type)
 | _=>none
def YK (P : Program) (t : TypeId) (x : V) (f : Nat) (K : V → Option R) : Option R :=
 match H4 P t f with
 | some (off,ft) =>
  bif Nat.beq (P.cellsOf ft) 0 then none else
  match x with
  | .ptr d s o=>K (.ptr d s (o + off))
  | .eptr cs=>K (.eptr (cs.drop off))
  | .rptr d s sz i o=>K (.rptr d s sz i (o + off))
  | _=>none
 | none=>none
def Qab (P : Program) (t : TypeId) (x : V) (f : Nat) (K : V → Option R) : Option R :=
 match H4 P t f,x with
 | some (off,ft),.agg cs=>Y2 P ft cs off K
 | _,_=>none
def Jd (P : Program) (t : TypeId) : Option TypeId :=
 match P.underlying t with
 | some (.slice e)=>some e
 | _=>none
def JR (P : Program) (st : St) (t : TypeId) (x i : V) (K : V → Option R) : Option R :=
 match (Jd P t).bind (Jc P QU),x,i with
 | some ty,.d (.list ty') xs,.d (.int _) n =>
  match castL? ty' ty xs with
  | some xs=>bif inB n (List.length (α:=ty.den) xs) then K (.eptr (ZN ty (rd (α:=ty.den) xs n ty.dflt))) else none
  | none=>none
 | some ty,.own _ ty' xs,.d (.int _) n =>
  match castL? ty' ty xs with
  | some xs=>bif inB n (List.length (α:=ty.den) xs) then K (.eptr (ZN ty (rd (α:=ty.den) xs n ty.dflt))) else none
  | none=>none
 | some ty,.msl d s,.d (.int _) n=>match st.bx d s with
  | .rows ty' xs=>match castL? ty' ty xs with
   | some xs=>bif inB n (List.length (α:=ty.den) xs) then K (.rptr d s ty.cells n 0) else none
   | none=>none
  | _=>none
 | some ty,.raw k,.d (.int _) n=>match st.rw k with
  | some ⟨ty',xs⟩=>match castL? ty' ty xs with
   | some xs=>bif inB n (List.length (α:=ty.den) xs) then K (.qptr k ty.cells n 0) else none
   | none=>none
  | none=>none
 | some ty,.dr k,.d (.int _) n=>match st.dr k with
  | some ⟨ty',xs⟩=>match castL? ty' ty xs with
   | some xs=>bif inB n (List.length (α:=ty.den) xs) then K (.dq k ty.cells n 0) else none
   | none=>none
  | none=>none
 | none,.ptr d s off,.d (.int _) n=>match P.underlying t with
  | some (.array len e)=>bif Nat.beq (P.cellsOf e) 1 && (P.info? e).isSome then (bif inB n len then K (.rptr d s 1 n off) else none) else none
  | _=>none
 | _,_,_=>none
def Qac (P : Program) (t : TypeId) (x i : V) (K : V → Option R) : Option R :=
 match P.underlying t,x,i with
 | some .string,.d .str s,.d (.int _) n=>bif inB n (List.length (α:=Int) s) then K (.d (.int .u8) (rd (α:=Int) s n 0)) else none
 | some (.array len e),.agg cs,.d (.int _) n=>match Jc P QU e with
  | some ty=>match H2 ty cs with
   | some xs=>bif Nat.beq xs.length len && ty.one && Nat.beq (P.cellsOf e) 1 && (P.info? e).isSome && (P.underlying e).isSome && !V1 P e then
     (bif inB n xs.length then K (.d ty (rd xs n ty.dflt)) else none)
    else none
   | none=>none
  | none=>none
 | _,_,_=>none
def Wz (n : Nat) (lo hi : Option V) (K : Int → Int → Option R) : Option R :=
 match lo,hi with
 | none,none=>K 0 n
 | some (.d (.int _) l),none=>bif decide ((0 : Int) ≤ l) && decide ((l : Int) ≤ (n : Int)) then K l n else none
 | none,some (.d (.int _) h)=>bif decide ((0 : Int) ≤ h) && decide ((h : Int) ≤ (n : Int)) then K 0 h else none
 | some (.d (.int _) l),some (.d (.int _) h) =>
  bif decide ((0 : Int) ≤ h) && decide ((h : Int) ≤ (n : Int)) then (bif decide ((0 : Int) ≤ l) && decide ((l : Int) ≤ h) then K l h else none) else none
 | _,_=>none
def cut {α : Type} (xs : List α) (l h : Int) : List α:=(xs.take h.toNat).drop l.toNat
def Qad (P : Program) (t : TypeId) (x : V) (lo hi : Option V) (K : V → Option R) : Option R :=
 match P.underlying t,x with
 | some .string,.d .str s=>Wz (List.length (α:=Int) s) lo hi fun l h=>K (.d .str (cut (α:=Int) s l h))
 | some (.slice e),.d (.list t) xs=>bif Nat.beq (P.cellsOf e) t.cells && (P.info? e).isSome then Wz (List.length (α:=t.den) xs) lo hi fun l h=>K (.d (.list t) (cut (α:=t.den) xs l h)) else none
 | some (.slice e),.own tok t xs=>bif Nat.beq (P.cellsOf e) t.cells && (P.info? e).isSome then (match hi with
  | none=>Wz xs.length lo none fun l h=>K (.own tok t (cut xs l h))
  | some hi=>Wz xs.length lo (some hi) fun l h=>K (.d (.list t) (cut xs l h))) else none
 | _,_=>none
def UW (P : Program) (t : TypeId) (x : V) (lo hi mx : Option V) (K : V → Option R) : Option R :=
 match P.underlying t,x,hi,mx with
 | some (.slice e),.d (.list t) xs,some (.d (.int _) h),some (.d (.int _) m)=>bif Nat.beq (P.cellsOf e) t.cells && (P.info? e).isSome && decide ((h : Int) = m) then Wz (List.length (α:=t.den) xs) lo hi fun l h=>K (.d (.list t) (cut (α:=t.den) xs l h)) else none
 | _,_,_,_=>none
def QbN (P : Program) (src dst : TypeId) (x : V) (K : V → Option R) : Option R :=
 match P.underlying src,P.underlying dst,x with
 | some (.int _),some (.int k),.d (.int _) n=>K (.d (.int k) (k.wrap n))
 | some .string,some .string,.d .str s=>K (.d .str s)
 | some .string,some (.slice e),.d .str s=>match P.underlying e with
  | some (.int .u8)=>K (.d (.list (.int .u8)) s)
  | _=>none
 | some (.slice e),some .string,.d (.list (.int .u8)) s=>match P.underlying e with
  | some (.int .u8)=>bif decide ((List.length (α:=Int) s : Int) ≤ QI) then K (.d .str s) else none
  | _=>none
 | some (.slice e),some .string,.own _ (.int .u8) s=>match P.underlying e with
  | some (.int .u8)=>bif decide ((List.length (α:=Int) s : Int) ≤ QI) then K (.d .str s) else none
  | _=>none
 | some (.slice e),some .string,.nils=>match P.underlying e with
  | some (.int .u8)=>K (.d .str ([] : List Int))
  | _=>none
 | _,_,_=>none
def Ef (P : Program) (fs : Array Field) : List V → List (Nat × V) → Option (List V)
 | cs,[]=>some cs
 | cs,(i,v) :: rest=>match fs[i]? with
  | some f =>
   let vs:=v.cellsOf
   bif Nat.beq vs.length (P.cellsOf f.type) && (P.info? f.type).isSome && v.plain && Nat.ble (f.offset + vs.length) cs.length then Ef P fs (JK cs f.offset vs) rest else none
  | none=>none
def Eg (sz : Nat) : List V → List (Nat × V) → Option (List V)
 | cs,[]=>some cs
 | cs,(i,v) :: rest =>
  let vs:=v.cellsOf
  bif Nat.beq vs.length sz && v.plain && Nat.ble (i * sz + vs.length) cs.length then Eg sz (JK cs (i * sz) vs) rest else none
def Qae (P : Program) (t : TypeId) (parts : List (Nat × V)) (K : V → Option R) : Option R :=
 match P.underlying t,zeroCells P t with
 | some (.struct fs),some z=>bif fs.toList.all fun f=>(P.info? f.type).isSome then
   match Ef P fs z parts with
   | some cs=>K (.agg cs)
   | none=>none
  else none
 | some (.array _ e),some z=>bif (P.info? e).isSome then
   match Eg (P.cellsOf e) z parts with
   | some cs=>K (.agg cs)
   | none=>none
  else none
 | _,_=>none
def Qdy (ty : Ty) : List ty.den → List (Nat × V) → Option (List ty.den)
 | xs,[]=>some xs
 | xs,(i,v) :: rest=>match JG ty v with
  | some x=>bif Nat.blt i xs.length then Qdy ty (xs.set i x) rest else none
  | none=>none
def VO (P : Program) (st : St) (t : TypeId) (len : Nat) (parts : List (Nat × V)) (K : V → St → Option R) : Option R :=
 match Jd P t with
 | some e=>match Jc P QU e with
  | some ty=>match Wy P e ty with
   | some z =>
    bif Nat.ble (len * ty.cells) 16777216 && Nat.blt 0 ty.cells then
     match Qdy ty (List.replicate len z) parts with
     | some xs=>K (.own st.nt ty xs) st.mint
     | none=>none
    else none
   | none=>none
  | none=>none
 | none=>none
def Qaf (P : Program) (st : St) (t : TypeId) (len : Nat) (parts : List (Nat × V)) (K : V → St → Option R) : Option R :=
 match Jd P t with
 | some e=>match Jc P QU e with
  | some ty=>match Wy P e ty with
   | some z =>
    bif Nat.ble (len * ty.cells) 16777216 && Nat.blt 0 ty.cells then
     match Qdy ty (List.replicate len z) parts with
     | some xs=>K (.raw st.nt) (st.mintR ⟨ty,xs⟩)
     | none=>none
    else none
   | none=>none
  | none=>none
 | none=>none
def QdY (P : Program) (st : St) (t : TypeId) (x : V) (K : V → Option R) : Option R :=
 match x with
 | .d .str s=>match P.underlying t with
  | some .string=>K (.d (.int .i64) (List.length (α:=Int) s : Int))
  | _=>none
 | .d (.list ty) s=>match P.underlying t with
  | some (.slice _)=>K (.d (.int .i64) (List.length (α:=ty.den) s : Int))
  | _=>none
 | .own _ _ xs=>match P.underlying t with
  | some (.slice _)=>K (.d (.int .i64) (xs.length : Int))
  | _=>none
 | .nils=>match P.underlying t with
  | some (.slice _)=>K (.d (.int .i64) (0 : Int))
  | _=>none
 | .msl d s=>match P.underlying t,st.bx d s with
  | some (.slice _),.rows _ xs=>K (.d (.int .i64) (xs.length : Int))
  | _,_=>none
 | .raw k=>match P.underlying t,st.rw k with
  | some (.slice _),some ⟨_,xs⟩=>K (.d (.int .i64) (xs.length : Int))
  | _,_=>none
 | .dr k=>match P.underlying t,st.dr k with
  | some (.slice _),some ⟨_,xs⟩=>K (.d (.int .i64) (xs.length : Int))
  | _,_=>none
 | _=>none
def Qgw (x y : V) (K : V → Option R) : Option R :=
 match x,y with
 | .d (.int k) a,.d (.int k') b=>if k = k' then K (.d (.int k) (bif decide ((b : Int) < a) then b else a)) else none
 | _,_=>none
def Qgx (x y : V) (K : V → Option R) : Option R :=
 match x,y with
 | .d (.int k) a,.d (.int k') b=>if k = k' then K (.d (.int k) (bif decide ((a : Int) < b) then b else a)) else none
 | _,_=>none
def UX (P : Program) (st : St) (t : TypeId) (s x : V) (K : V → St → Option R) : Option R :=
 match Jd P t with
 | some e=>match Jc P QU e with
  | some ty=>match Wy P e ty with
   | some _ =>
    bif Nat.beq ty.cells 0 then none else
    match Ye (.list ty) x with
    | some ys=>match s with
     | .nils=>bif decide (((ys : List ty.den).length : Int) * (P.bytesOf e : Int) ≤ QI) && decide (((ys : List ty.den).length : Int) ≤ QI) then K (.own st.nt ty ys) st.mint else none
     | .own tok ty' xs=>match castL? ty' ty xs with
      | some xs=>bif st.lv tok then
        (bif decide ((((xs : List ty.den).length : Int) + ((ys : List ty.den).length : Int)) * (P.bytesOf e : Int) ≤ QI) && decide (((xs : List ty.den).length : Int) + ((ys : List ty.den).length : Int) ≤ QI) then
         K (.own st.nt ty ((xs : List ty.den) ++ (ys : List ty.den))) ((st.spend tok).mint) else none) else none
      | none=>none
     | .raw tok=>match st.rw tok with
      | some ⟨ty',xs⟩=>match castL? ty' ty xs with
       | some xs=>bif st.lv tok then
        (bif decide ((((xs : List ty.den).length : Int) + ((ys : List ty.den).length : Int)) * (P.bytesOf e : Int) ≤ QI) && decide (((xs : List ty.den).length : Int) + ((ys : List ty.den).length : Int) ≤ QI) then
         K (.raw st.nt) ((st.spend tok).mintR ⟨ty,(xs : List ty.den) ++ (ys : List ty.den)⟩) else none) else none
       | none=>none
      | none=>none
     | _=>none
    | none=>none
   | none=>none
  | none=>none
 | none=>none
def Vy (P : Program) (st : St) (d : Nat) (dst : Option Nat) (t : TypeId) (l c : V) (K : V → St → Option R) : Option R :=
 match Jd P t,dst with
 | some e,some s=>match Jc P QU e with
  | some ty=>match Wy P e ty with
   | some z=>match l,c with
    | .d (.int .i64) n,.d (.int .i64) m =>
     match st.bx d s with
     | .none =>
      bif decide ((n : Int) = m) && decide ((0 : Int) ≤ n) && decide ((n : Int) * (P.bytesOf e : Int) ≤ QI) && Nat.blt 0 ty.cells then
       K (.msl d s) (st.setB d s (.rows ty (List.replicate (Int.toNat n) z)))
      else none
     | _=>none
    | _,_=>none
   | none=>none
  | none=>none
 | _,_=>none
def QbO (P : Program) (t : TypeId) : Option (TypeId × TypeId × Ty × Ty) :=
 match P.underlying t with
 | some (.map kt vt)=>bif QbM P kt then (match Jc P QU kt,Jc P QU vt with
  | some k,some v=>some (kt,vt,k,v)
  | _,_=>none) else none
 | _=>none
def castE? (k v k' v' : Ty) (es : List (k.den × v.den)) : Option (List (k'.den × v'.den)) :=
 match Ty.eq? k k',Ty.eq? v v' with
 | some ⟨h⟩,some ⟨h'⟩=>some (h ▸ h' ▸ es)
 | _,_=>none
def Gu (st : St) (k v : Ty) (m : V) : Option (List (k.den × v.den)) :=
 match m with
 | .d (.map k' v') es=>castE? k' v' k v es
 | .mp d s=>match st.bx d s with
  | .map k' v' es=>castE? k' v' k v es
  | _=>none
 | _=>none
def Eh (P : Program) (t : TypeId) (ty : Ty) : Bool :=
 match (P.info? t).bind (·.zero) with
 | some z=>bif ty.scalar then z.oneCell' else (match z with
  | .agg _=>true
  | _=>false)
 | none=>false
def Gj (P : Program) (st : St) (t : TypeId) (m x : V) (ok : Bool) (K : V → Option R) : Option R :=
 match QbO P t with
 | some (_,vt,k,v)=>match Gu st k v m,JG k x,Wy P vt v with
  | some es,some x,some z=>bif ok || !(Eh P vt v) then none else K (Yd v (Ee k es x z))
  | _,_,_=>none
 | none=>none
def Ei (P : Program) (st : St) (d : Nat) (dst : Option Nat) (t : TypeId) (K : V → St → Option R) : Option R :=
 match QbO P t,dst with
 | some (_,_,k,v),some s=>match st.bx d s with
  | .none=>K (.mp d s) (st.setB d s (.map k v []))
  | _=>none
 | _,_=>none
def X2 (P : Program) (st : St) (t : TypeId) (m x y : V) (K : Q1 R) : Option R :=
 match QbO P t with
 | some (_,_,k,v)=>match m with
  | .mp d s=>match st.bx d s with
   | .map k' v' es=>match castE? k' v' k v es,JG k x,JG v y with
    | some es,some x,some y=>K (st.setB d s (.map k v (U5 k es x y)))
    | _,_,_=>none
   | _=>none
  | _=>none
 | none=>none
def QaX (ops : List Oper) (j : Nat) : Option Nat:=(ops[j]?).bind (·.dst)
def Ty.dok : Ty → Bool
 | .map _ _ | .tree _=>false
 | .pair a b=>a.dok && b.dok
 | .list t=>t.dok
 | _=>true
def V.scl : V → Bool
 | .d (.int _) _ | .d .bool _ | .d .str _=>true
 | _=>false
def V.drs : V → List Nat
 | .dr k=>[k]
 | .agg cs=>drsL cs
 | .tup cs=>drsL cs
 | _=>[]
where drsL : List V → List Nat
 | []=>[]
 | c :: cs=>c.drs ++ drsL cs
def St.res (st : St) : V → V
 | .dr k=>match st.dr k with
  | some ⟨t,xs⟩=>.d (.list t) xs
  | none=>.any
 | .agg cs=>.agg (resL st cs)
 | .tup cs=>.tup (resL st cs)
 | v=>v
where resL (st : St) : List V → List V
 | []=>[]
 | c :: cs=>st.res c :: resL st cs
def V.isD : V → Bool
 | .d _ _=>true
 | _=>false
def QX : V → St → V × St
 | .d (.list t) xs,st=>(.dr st.nd,st.mintD ⟨t,xs⟩)
 | .d (.int k) x,st=>(.d (.int k) x,st)
 | .d .bool x,st=>(.d .bool x,st)
 | .d .str x,st=>(.d .str x,st)
 | .agg cs,st=>bif cs.all V.isD then (.agg (mintL cs st).1,(mintL cs st).2) else (.any,st)
 | .tup cs,st=>(.tup (mintL cs st).1,(mintL cs st).2)
 | _,st=>(.any,st)
where mintL : List V → St → List V × St
 | [],st=>([],st)
 | c :: cs,st=>((QX c st).1 :: (mintL cs (QX c st).2).1,(mintL cs (QX c st).2).2)
def Y3 : V → V → St → Option St
 | .dr k,.d (.list t) xs,st=>match st.dr k with
  | some ⟨t',_⟩=>match Ty.eq? t' t with
   | some _=>some (st.setD k (some ⟨t,xs⟩))
   | none=>none
  | none=>none
 | .agg cs,.agg ds,st=>hotL cs ds st
 | .d _ _,v,st=>bif v.scl then some st else none
 | _,_,_=>none
where hotL : List V → List V → St → Option St
 | [],[],st=>some st
 | c :: cs,d :: ds,st=>(Y3 c d st).bind (hotL cs ds)
 | _,_,_=>none
def H5 : List Nat → Bool
 | []=>true
 | k :: l=>!(l.any (Nat.beq k)) && H5 l
def V.dpart0 : V → Bool
 | .nils=>true
 | v=>v.scl
def V.dpart (st : St) : V → Bool
 | .dr k=>(st.dr k).isSome
 | v=>v.dpart0
def St.dropD (st : St) : List Nat → St
 | []=>st
 | k :: l=>(st.setD k none).dropD l
def QdZ (P : Program) (st : St) (t : TypeId) (k sz : Nat) (i : Int) (off : Nat) (v : V) (K : Q1 R) : Option R :=
 match st.dr k with
 | some ⟨ty,xs⟩ =>
  let vs:=v.cellsOf
  let ds:=V.drs.drsL vs
  bif Nat.beq sz ty.cells && Nat.beq off 0 && inB i xs.length && Nat.beq vs.length ty.cells && Nat.beq (P.cellsOf t) ty.cells && (P.info? t).isSome && vs.all (V.dpart st) && H5 (k :: ds) && ty.dok then
   match ZB ty (St.res.resL st vs) with
   | some e=>K ((st.dropD ds).setD k (some ⟨ty,xs.set (Int.toNat i) e⟩))
   | none=>none
  else none
 | none=>none
def Qfn (P : Program) (st : St) (t : TypeId) (a v : V) (K : Q1 R) : Option R :=
 match a with
 | .dq k sz i off=>QdZ P st t k sz i off v K
 | a=>Qfm P st t a v K
def Qd0 (P : Program) (st : St) (t : TypeId) (l c : V) (K : V → St → Option R) : Option R :=
 match Jd P t with
 | some e=>match Jc P QU e with
  | some ty=>match zeroCells P e with
   | some zc=>match ZB ty zc with
    | some z=>match l,c with
     | .d (.int .i64) n,.d (.int .i64) m =>
      bif decide ((n : Int) = m) && decide ((0 : Int) ≤ n) && decide ((n : Int) * (P.bytesOf e : Int) ≤ QI) && Nat.blt 0 ty.cells && zc.all V.dpart0 && ty.dok then
       K (.dr st.nd) (st.mintD ⟨ty,List.replicate (Int.toNat n) z⟩)
      else none
     | _,_=>none
    | none=>none
   | none=>none
  | none=>none
 | none=>none
def QbP (P : Program) (st : St) (t : TypeId) (len : Nat) (parts : List (Nat × V)) (K : V → St → Option R) : Option R :=
 match Jd P t with
 | some e=>match Jc P QU e with
  | some ty=>match parts with
   | [(0,v)] =>
    let vs:=v.cellsOf
    let ds:=V.drs.drsL vs
    bif Nat.beq len 1 && Nat.beq vs.length ty.cells && Nat.blt 0 ty.cells && Nat.ble ty.cells 16777216 && vs.all (V.dpart st) && H5 ds && ty.dok && (zeroCells P e).isSome then
     match ZB ty (St.res.resL st vs) with
     | some x=>K (.dr st.nd) ((st.dropD ds).mintD ⟨ty,[x]⟩)
     | none=>none
    else none
   | _=>none
  | none=>none
 | none=>none
def QhY (st : St) (ty : Ty) : V → Option (List Nat × List ty.den)
 | .nils=>some ([],[])
 | .dr k=>match st.dr k with
  | some ⟨ty',xs⟩=>match castL? ty' ty xs with
   | some xs=>some ([k],xs)
   | none=>none
  | none=>none
 | _=>none
def Qag (P : Program) (st : St) (t : TypeId) (a b : V) (K : V → St → Option R) : Option R :=
 match Jd P t with
 | some e=>match Jc P QU e with
  | some ty=>match QhY st ty a,QhY st ty b with
   | some (ks,xs),some ([k'],ys) =>
    bif H5 (k' :: ks) && Nat.blt 0 ty.cells && ty.dok && (match zeroCells P e with | some zc=>Nat.beq zc.length ty.cells | none=>false) && Nat.blt 0 ys.length && decide (((xs.length : Int) + (ys.length : Int)) * (P.bytesOf e : Int) ≤ QI) && decide ((xs.length : Int) + (ys.length : Int) ≤ QI) then
     K (.dr st.nd) ((st.dropD (k' :: ks)).mintD ⟨ty,xs ++ ys⟩)
    else none
   | _,_=>none
  | none=>none
 | none=>none
inductive Item where
 | keep (d t : Nat)
 | own (d t : Nat) (ty : Ty)
 | data (d t : Nat) (ty : Ty)
 | box (d s n : Nat)
 | rows (d s : Nat) (ty : Ty)
 | boxd (d s : Nat) (ty : Ty)
 | raw (d t : Nat) (ty : Ty)
 | mapb (d s : Nat) (k v : Ty)
 | ownb (d s j : Nat) (ty : Ty)
 | drb (d t : Nat) (ty : Ty)
 | drbb (d s j : Nat) (ty : Ty)
 | same (d t d0 t0 : Nat)
abbrev Ann:=List Item
def V.canon : V → V
 | .own _ t xs=>.d (.list t) xs
 | .agg cs=>.agg (canonL cs)
 | .eptr cs=>.eptr (canonL cs)
 | .fn f cs=>.fn f (canonL cs)
 | .tup cs=>.tup (canonL cs)
 | .raw _ | .qptr .. | .dr _ | .dq ..=>.any
 | v=>v
where canonL : List V → List V
 | []=>[]
 | c :: cs=>c.canon :: canonL cs
def V.kept (k : Nat → Nat → Bool) (q : Bool:=true) : V → Bool
 | .ptr dp s _ | .rptr dp s _ _ _ | .msl dp s | .mp dp s=>k dp s
 | .agg cs | .eptr cs | .fn _ cs | .tup cs=>keptL k q cs
 | .raw _ | .qptr ..=>q
 | _=>true
where keptL (k : Nat → Nat → Bool) (q : Bool) : List V → Bool
 | []=>true
 | c :: cs=>V.kept k q c && keptL k q cs
def Item.isBox (d s : Nat) : Item → Bool
 | .box d' s' _ | .rows d' s' _ | .boxd d' s' _ | .mapb d' s' _ _=>Nat.beq s' s && Nat.beq d' d
 | _=>false
def Ann.keeps : Ann → Nat → Nat → Bool
 | [],_,_=>false
 | i :: A,d,s=>i.isBox d s || Ann.keeps A d s
def St.live (A : Ann) : St → Ann → Option (List V)
 | _,[]=>some []
 | st,.keep d t :: r=>bif (st.tm d t).kept A.keeps then (St.live A st r).map ((st.tm d t).canon :: ·) else none
 | st,.own d t ty :: r=>match st.tm d t with
  | .nils=>(St.live A st r).map (.own 0 ty [] :: ·)
  | .own tok ty' xs=>match castL? ty' ty xs with
   | some xs=>bif st.lv tok then (St.live A (st.spend tok) r).map (.own 0 ty xs :: ·) else none
   | none=>none
  | _=>none
 | st,.data d t ty :: r=>match JG ty (st.tm d t) with
  | some x=>(St.live A st r).map (Yd ty x :: ·)
  | none=>none
 | st,.box d s n :: r=>match st.bx d s with
  | .cells cs=>bif Nat.beq cs.length n && V.kept.keptL A.keeps true cs then (St.live A st r).map (.agg (V.canon.canonL cs) :: ·) else none
  | _=>none
 | st,.rows d s ty :: r=>match st.bx d s with
  | .rows ty' xs=>match castL? ty' ty xs with
   | some xs=>(St.live A st r).map (.d (.list ty) xs :: ·)
   | none=>none
  | _=>none
 | st,.boxd d s ty :: r=>match st.bx d s with
  | .cells cs=>match ZB ty cs with
   | some x=>(St.live A st r).map (.agg (ZN ty x) :: ·)
   | none=>none
  | _=>none
 | st,.raw d t ty :: r=>match st.tm d t with
  | .nils=>(St.live A st r).map (.own 0 ty [] :: ·)
  | .raw tok=>match st.rw tok with
   | some ⟨ty',xs⟩=>match castL? ty' ty xs with
    | some xs=>bif st.lv tok then (St.live A (st.spend tok) r).map (.own 0 ty xs :: ·) else none
    | none=>none
   | none=>none
  | _=>none
 | st,.mapb d s k v :: r=>match st.bx d s with
  | .map k' v' es=>match castE? k' v' k v es with
   | some es=>(St.live A st r).map (.d (.map k v) es :: ·)
   | none=>none
  | _=>none
 | st,.ownb d s j ty :: r=>match st.bx d s with
  | .cells cs=>match cs[j]? with
   | some .nils=>(St.live A st r).map (.own 0 ty [] :: ·)
   | some (.own tok ty' xs)=>match castL? ty' ty xs with
    | some xs=>bif st.lv tok then (St.live A (st.spend tok) r).map (.own 0 ty xs :: ·) else none
    | none=>none
   | _=>none
  | _=>none
 | st,.drb d t ty :: r=>match st.tm d t with
  | .dr k=>match st.dr k with
   | some ⟨ty',xs⟩=>match castL? ty' ty xs with
    | some xs=>(St.live A (st.setD k none) r).map (.d (.list ty) xs :: ·)
    | none=>none
   | none=>none
  | .nils=>(St.live A st r).map (.d (.list ty) [] :: ·)
  | _=>none
 | st,.drbb d s j ty :: r=>match st.bx d s with
  | .cells cs=>match cs[j]? with
   | some .nils=>(St.live A st r).map (.d (.list ty) [] :: ·)
   | some (.dr k)=>match st.dr k with
    | some ⟨ty',xs⟩=>match castL? ty' ty xs with
     | some xs=>(St.live A (st.setD k none) r).map (.d (.list ty) xs :: ·)
     | none=>none
    | none=>none
   | _=>none
  | _=>none
 | st,.same d t d0 t0 :: r=>match st.tm d t,st.tm d0 t0 with
  | .raw k,.raw k'=>bif Nat.beq k k' && st.lv k && Nat.ble d0 d then (St.live A st r).map (.nils :: ·) else none
  | _,_=>none
def noG : Nat → Option (List V):=fun _=>none
def St.empty : St:=⟨fun _ _=>.any,fun _ _=>.none,0,fun _=>false,fun _=>none,noG,fun _=>none,0⟩
def Qe : Ann → List V → St
 | .keep d t :: r,v :: vs=>(Qe r vs).set d t v
 | .own d t ty :: r,.own _ ty' xs :: vs =>
  let st:=Qe r vs
  match castL? ty' ty xs with
  | some xs=>st.mint.set d t (.own st.nt ty xs)
  | none=>st
 | .data d t _ :: r,v :: vs=>(Qe r vs).set d t v
 | .box d s _ :: r,.agg cs :: vs=>(Qe r vs).setB d s (.cells cs)
 | .rows d s ty :: r,.d (.list ty') xs :: vs=>match castL? ty' ty xs with
  | some xs=>(Qe r vs).setB d s (.rows ty xs)
  | none=>Qe r vs
 | .boxd d s _ :: r,.agg cs :: vs=>(Qe r vs).setB d s (.cells cs)
 | .raw d t ty :: r,.own _ ty' xs :: vs =>
  let st:=Qe r vs
  match castL? ty' ty xs with
  | some xs=>(st.mintR ⟨ty,xs⟩).set d t (.raw st.nt)
  | none=>st
 | .mapb d s k v :: r,.d (.map k' v') es :: vs=>match castE? k' v' k v es with
  | some es=>(Qe r vs).setB d s (.map k v es)
  | none=>Qe r vs
 | .ownb d s j ty :: r,.own _ ty' xs :: vs =>
  let st:=Qe r vs
  match castL? ty' ty xs with
  | some xs=>match st.bx d s with
   | .cells cs=>st.mint.setB d s (.cells (cs.set j (.own st.nt ty xs)))
   | _=>st
  | none=>st
 | .drb d t ty :: r,.d (.list ty') xs :: vs =>
  let st:=Qe r vs
  match castL? ty' ty xs with
  | some xs=>(st.mintD ⟨ty,xs⟩).set d t (.dr st.nd)
  | none=>st
 | .drbb d s j ty :: r,.d (.list ty') xs :: vs =>
  let st:=Qe r vs
  match castL? ty' ty xs with
  | some xs=>match st.bx d s with
   | .cells cs=>(st.mintD ⟨ty,xs⟩).setB d s (.cells (cs.set j (.dr st.nd)))
   | _=>st
  | none=>st
 | .same d t d0 t0 :: r,_ :: vs=>(Qe r vs).set d t ((Qe r vs).tm d0 t0)
 | _,_=>St.empty
abbrev Vz (R : Type):=List (List Nat × Q1 R)
structure Ctx (R : Type) where
 P : Program
 L : List Nat → List V → Option R
 A : List (List Nat × Ann)
 I : List (List Nat × Nat)
 con : Nat → List V → (V → Option R) → Option R
 inl : Nat → List Nat → Nat → List V → (V → Q1 R) → Q1 R
 lab : Nat → List Nat → Nat → (V → Q1 R) → Vz R
def WA : List Nat → List Nat → Bool
 | [],[]=>true
 | a :: x,b :: y=>Nat.beq a b && WA x y
 | _,_=>false
def ZF {α : Type} : List (List Nat × α) → List Nat → Option α
 | [],_=>none
 | (p,a) :: r,q=>bif WA p q then some a else ZF r q
def Ctx.jump (C : Ctx R) (path : List Nat) (st : St) : Option R :=
 match ZF C.A path with
 | some A=>match St.live A st A with
  | some vs=>C.L path vs
  | none=>none
 | none=>none
def Qah : Operand → Option Nat
 | .global g=>some g
 | _=>none
def QF : Nat:=1000000
def QiT (d : Nat) (dst : Option Nat) (st : St) (K : Q1 R) (v : V) : Option R :=
 match v with
 | .d (.list t) xs=>K (st.mint.put d dst (.own st.nt t xs))
 | _=>none
def ZG : Nat:=2000000
def QiU (d : Nat) (dst : Option Nat) (st : St) (K : Q1 R) (v : V) : Option R :=
 K ((QX v st).2.put d dst (QX v st).1)
def Gk : Nat:=3000000
def QiV (d : Nat) (dst : Option Nat) (st : St) (a : V) (K : Q1 R) (v : V) : Option R :=
 match v with
 | .tup [.d (.int .i64) k,b]=>(Y3 a b st).bind fun st'=>K (st'.put d dst (.d (.int .i64) k))
 | _=>none
def V.dok1 : V → Bool
 | .d t _=>t.dok
 | _=>false
def V.dokV : V → Bool
 | .agg cs=>cs.all V.dok1
 | v=>v.dok1
def V.hotOk (st : St) (a : V) : Bool:=(st.res a).dokV && H5 a.drs && a.drs.all (fun k=>(st.dr k).isSome) && match a with
 | .dr _=>true
 | .agg cs=>cs.all (V.dpart st)
 | _=>false
def Qg0 (con : Nat → List V → (V → Option R) → Option R) (st : St) (g : Nat) (args : List V) (K : V → Option R) : Option R :=
 match V.drs.drsL args with
 | []=>con g args K
 | _=>con g (St.res.resL st args) fun v=>bif v.scl then K v else none
def QP (C : Ctx R) (d : Nat) (path : List Nat) (here : Nat) (o : Oper) (st : St) (K : Q1 R) : Option R :=
 let out (v : V) : Option R:=K (st.put d o.dst v)
 match o.op with
 | .move x | .assign x=>out (st.ev d x)
 | .pick c a b=>match st.ev d c with
  | .d .bool t=>bif t then out (st.ev d a) else out (st.ev d b)
  | _=>none
 | .binOp op t x y _=>bif QaW y then Qiz C.P op t (st.ev d x) out else Ed C.P op t (st.ev d x) (st.ev d y) out
 | .unOp op _ x=>unC op (st.ev d x) out
 | .load t a=>match Qah a with
  | some g=>(match st.gl g with
   | some cs=>Y2 C.P t cs 0 out
   | none=>none)
  | none=>Xy C.P st t (st.ev d a) out
 | .store t a x=>Qfn C.P st t (st.ev d a) (st.ev d x) fun st=>K (st.put d o.dst .any)
 | .alloc e=>match o.dst,zeroCells C.P e with
  | some s,some z=>match st.bx d s with
   | .none=>K ((st.setB d s (.cells z)).set d s (.ptr d s 0))
   | _=>none
  | _,_=>none
 | .box _ x=>match o.dst with
  | some s=>match st.bx d s with
   | .none=>bif (st.ev d x).plain then K ((st.setB d s (.cells (st.ev d x).cellsOf)).set d s (.ptr d s 0)) else none
   | _=>none
  | none=>none
 | .nilCheck x=>match st.ev d x with
  | .ptr a b c=>out (.ptr a b c)
  | .eptr cs=>out (.eptr cs)
  | .rptr a b c e f=>out (.rptr a b c e f)
  | _=>none
 | .fieldAddr t x f=>YK C.P t (st.ev d x) f out
 | .field t x f=>Qab C.P t (st.ev d x) f out
 | .indexAddr t x i=>JR C.P st t (st.ev d x) (st.ev d i) out
 | .index t x i=>Qac C.P t (st.ev d x) (st.ev d i) out
 | .slice t x lo hi none=>Qad C.P t (st.ev d x) (lo.map (st.ev d)) (hi.map (st.ev d)) out
 | .slice t x lo hi (some m)=>UW C.P t (st.ev d x) (lo.map (st.ev d)) (hi.map (st.ev d)) (some (st.ev d m)) out
 | .convert s t x=>QbN C.P s t (st.ev d x) out
 | .extract x i=>match st.ev d x with
  | .tup vs=>match vs[i]? with
   | some v=>out v
   | none=>none
  | _=>none
 | .build t ps=>Qae C.P t (ps.toList.map fun p=>(p.1,st.ev d p.2)) out
 | .buildSlice t n ps=>match ZF C.I (here :: path) with
  | some 0=>QbP C.P st t n (ps.toList.map fun p=>(p.1,st.ev d p.2)) fun v st=>K (st.put d o.dst v)
  | some _=>Qaf C.P st t n (ps.toList.map fun p=>(p.1,st.ev d p.2)) fun v st=>K (st.put d o.dst v)
  | none=>VO C.P st t n (ps.toList.map fun p=>(p.1,st.ev d p.2)) fun v st=>K (st.put d o.dst v)
 | .makeSlice t l c=>match ZF C.I (here :: path) with
  | some _=>Qd0 C.P st t (st.ev d l) (st.ev d c) fun v st=>K (st.put d o.dst v)
  | none=>Vy C.P st d o.dst t (st.ev d l) (st.ev d c) fun v st=>K (st.put d o.dst v)
 | .lookup t x i ok=>Gj C.P st t (st.ev d x) (st.ev d i) ok out
 | .makeMap t none=>Ei C.P st d o.dst t fun v st=>K (st.put d o.dst v)
 | .mapUpdate t m k x=>X2 C.P st t (st.ev d m) (st.ev d k) (st.ev d x) fun st=>K (st.put d o.dst .any)
 | .insert t m k x=>X2 C.P st t (st.ev d m) (st.ev d k) (st.ev d x) fun st=>K (st.put d o.dst .any)
 | .makeFunc (.func f) first caps=>match first.toList with
  | []=>out (.fn f (caps.toList.map (st.ev d)))
  | _=>none
 | .call { callee:=.builtin .len,args,argTypes }=>match args.toList,argTypes.toList with
  | [x],[t]=>QdY C.P st t (st.ev d x) out
  | _,_=>none
 | .call { callee:=.builtin .min,args,.. }=>match args.toList with
  | [x,y]=>Qgw (st.ev d x) (st.ev d y) out
  | _=>none
 | .call { callee:=.builtin .max,args,.. }=>match args.toList with
  | [x,y]=>Qgx (st.ev d x) (st.ev d y) out
  | _=>none
 | .call { callee:=.builtin .append,args,argTypes }=>match args.toList,argTypes.toList with
  | [s,x],[t,t']=>bif Nat.beq t t' then (match ZF C.I (here :: path) with
   | some _=>Qag C.P st t (st.ev d s) (st.ev d x) fun v st=>K (st.put d o.dst v)
   | none=>UX C.P st t (st.ev d s) (st.ev d x) fun v st=>K (st.put d o.dst v)) else none
  | _,_=>none
 | .call { callee:=.value f,args,.. }=>match st.ev d f with
  | .fn g caps=>match ZF C.I (here :: path) with
   | some g'=>bif Nat.beq g g' then C.inl d (here :: path) g (args.toList.map (st.ev d) ++ caps) (fun v st=>K (st.put d o.dst v)) st else
    bif Nat.blt g QF then
     bif Nat.beq (g + QF) g' then C.con g' (args.toList.map (st.ev d) ++ caps) (QiT d o.dst st K) else
     bif Nat.beq (g + ZG) g' then C.con g' (St.res.resL st (args.toList.map (st.ev d) ++ caps)) (QiU d o.dst st K) else
     bif Nat.beq (g + Gk) g' then (match args.toList.map (st.ev d) ++ caps with
      | [a,.d (.int .i64) k]=>bif V.hotOk st a then C.con g' [st.res a,.d (.int .i64) k] (QiV d o.dst st a K) else none
      | _=>none) else none
    else none
   | none=>bif Nat.blt g QF then Qg0 C.con st g (args.toList.map (st.ev d) ++ caps) out else none
  | _=>none
 | _=>none
def H6 (nn : Nat) (o : Oper) : Bool :=
 match o.dst with
 | some t=>Nat.blt t nn
 | none=>true
def G4 (C : Ctx R) (d nn : Nat) (path : List Nat) (all : List Oper) : Nat → List Oper → Q1 R → Q1 R
  | _, [], K, st => K st
  | here, o :: rest, K, st =>
    bif H6 nn o then
      match o.guard with
      | none => QP C d path here o st (G4 C d nn path all (here + 1) rest K)
      | some (j, want) =>
        match QaX all j with
        | none => none
        | some t => match st.tm d t with
          | .d .bool b =>
            bif b then
              (match want with
               | true => QP C d path here o (st.set d t (.d .bool true)) (G4 C d nn path all (here + 1) rest K)
               | false => G4 C d nn path all (here + 1) rest K ((st.set d t (.d .bool true)).put d o.dst .un))
            else
              (match want with
               | true => G4 C d nn path all (here + 1) rest K ((st.set d t (.d .bool false)).put d o.dst .un)
               | false => QP C d path here o (st.set d t (.d .bool false)) (G4 C d nn path all (here + 1) rest K))
          | .un => G4 C d nn path all (here + 1) rest K (st.put d o.dst .un)
          | _ => none
    else none
def Qc5 (C : Ctx R) (d nn : Nat) (path : List Nat) (all : List Oper) : Nat → List Oper → Q1 R → Vz R
 | _,[],_=>[]
 | here,o :: rest,K =>
  (match ZF C.I (here :: path) with
   | some g=>C.lab d (here :: path) g (fun v st=>G4 C d nn path all (here + 1) rest K (st.put d o.dst v))
   | none=>[]) ++ Qc5 C d nn path all (here + 1) rest K
inductive Ex where | normal | exit (i : Nat) | ret
abbrev VP (R : Type):=Ex → St → Option R
def VQ : Code → Nat
 | .region id _ _=>id
 | .seq a _=>VQ a
 | .cond _ a _=>VQ a
 | .block _ b=>VQ b
 | .loop b=>VQ b
 | .scope b=>VQ b
 | _=>0
def Qd1 (nx : Q1 R) (K : VP R) : VP R
 | .normal,st=>nx st
 | e,st=>K e st
def Qg1 (id : Nat) (K : VP R) : VP R
 | .exit i,st=>bif Nat.beq i id then K .normal st else K (.exit i) st
 | e,st=>K e st
def Ctx.cutAt (C : Ctx R) (path : List Nat) (b : Code) : Bool:=(ZF C.A (1 :: VQ b :: path)).isSome
def Zl (P : Program) (o : Oper) : Bool :=
 match o.op with
 | .binOp _ _ _ y _=>!(QaW y)
 | .load _ a=>(Qah a).isNone
 | .move _ | .assign _ | .pick .. | .unOp .. | .nilCheck _ | .fieldAddr .. | .field .. | .indexAddr .. | .index .. | .slice .. | .extract .. | .build .. | .makeFunc .. | .lookup ..=>true
 | .convert s t _=>match P.underlying s,P.underlying t with
  | some .string,some (.slice _)=>false
  | _,_=>true
 | .call { callee:=.builtin .len,.. } | .call { callee:=.builtin .min,.. } | .call { callee:=.builtin .max,.. }=>true
 | _=>false
def Yv (o : Oper) : Bool :=
 match o.op with
 | .call { callee:=.value _,.. }=>true
 | _=>false
def Zc : Operand → List Nat
 | .tmp t=>[t]
 | _=>[]
def JS (o : Oper) : List Nat :=
 match o.op with
 | .move x | .assign x=>Zc x
 | .pick c a b=>Zc c ++ Zc a ++ Zc b
 | .binOp _ _ x y _=>Zc x ++ Zc y
 | .unOp _ _ x=>Zc x
 | .load _ a=>Zc a
 | .nilCheck x=>Zc x
 | .fieldAddr _ x _=>Zc x
 | .field _ x _=>Zc x
 | .indexAddr _ x i=>Zc x ++ Zc i
 | .index _ x i=>Zc x ++ Zc i
 | .lookup _ x i _=>Zc x ++ Zc i
 | .mapUpdate _ m k x | .insert _ m k x=>Zc m ++ Zc k ++ Zc x
 | .slice _ x lo hi mx=>Zc x ++ (lo.toList.flatMap Zc) ++ (hi.toList.flatMap Zc) ++ (mx.toList.flatMap Zc)
 | .convert _ _ x=>Zc x
 | .extract x _=>Zc x
 | .build _ ps=>ps.toList.flatMap fun p=>Zc p.2
 | .box _ x=>Zc x
 | .buildSlice _ _ ps=>ps.toList.flatMap fun p=>Zc p.2
 | .makeSlice _ l c=>Zc l ++ Zc c
 | .makeFunc _ _ caps=>caps.toList.flatMap Zc
 | .call { callee:=.value f,args,.. }=>Zc f ++ args.toList.flatMap Zc
 | .call { args,.. }=>args.toList.flatMap Zc
 | _=>[]
def Gl (o : Oper) : Bool :=
 match o.op with
 | .alloc _ | .box .. | .buildSlice .. | .makeSlice .. | .convert ..=>true
 | .call { callee:=.builtin .append,.. }=>true
 | _=>false
def Qdz (o : Oper) : Bool :=
 match o.op with
 | .alloc _ | .box .. | .makeSlice ..=>true
 | _=>false
def X3 (o : Oper) : Bool :=
 match o.op with
 | .buildSlice ..=>true
 | .call { callee:=.builtin .append,.. }=>true
 | _=>false
inductive Eff where
 | val (v : V)
 | boxed (v : V) (b : Box)
 | grown (k : Option Nat) (v : V)
 | deep (v : V) (dr : Nat → Option RBox) (nd : Nat)
def Eff.app (e : Eff) (d : Nat) (dst : Option Nat) (st : St) : St :=
 match e with
 | .val v=>st.put d dst v
 | .boxed v b=>match dst with
  | some t=>(st.setB d t b).set d t v
  | none=>st
 | .grown k v=>(match k with
  | some k=>(st.spend k).mint
  | none=>st.mint).put d dst v
 | .deep v dr nd=>({ st with dr:=dr,nd:=nd } : St).put d dst v
def UY (o : Oper) : List Nat:=(o.after.toList.filter (Region.binds .any)).map (·.on)
def QW (ops : Array Oper) (i : Nat) : List Nat :=
 match ops[i]? with
 | some o=>UY o
 | none=>[]
def ZY (ops : Array Oper) (i : Nat) : Option Nat:=(ops[i]?).bind (·.dst)
def Yf (i : Nat) : List Nat → Bool
 | []=>false
 | j :: l=>Nat.beq i j || Yf i l
def VL (ops : Array Oper) (i : Nat) : List Nat :=
 match ops[i]? with
 | some o=>JS o ++ (match o.guard with
  | some (j,_)=>(QaX ops.toList j).toList
  | none=>[])
 | none=>[]
def WB (ops : Array Oper) (listed : Array Bool) : List Nat:=(List.range ops.size).filter fun i=>!listed.getD i true
def Zo (I : List (List Nat × Nat)) (path : List Nat) (id : Nat) (ops : Array Oper) (i : Nat) : Bool :=
 match ops[i]? with
 | some o=>(match o.op with
  | .call { callee:=.value (.func g),.. }=>Nat.blt g QF && (match ZF I ((1000 * id + i) :: path) with
   | some g'=>Nat.beq (g + ZG) g'
   | none=>false)
  | _=>false)
 | none=>false
def QeE (o : Oper) : Bool :=
 match o.op with
 | .indexAddr ..=>true
 | .call { callee:=.builtin .len,.. }=>true
 | _=>false
def Gv (ops : Array Oper) (i : Nat) : Bool :=
 match ops[i]? with
 | some o=>QeE o || Yv o
 | none=>true
def Xb (P : Program) (I : List (List Nat × Nat)) (path : List Nat) (id : Nat) (ops : Array Oper) (i : Nat) : Bool :=
 (match ops[i]? with
 | some o=>Zl P o || ((Gl o || Yv o) && (ZF I ((1000 * id + i) :: path)).isNone)
 | none=>false) || Zo I path id ops i
def QeF (ops : Array Oper) (left : List Nat) : Nat → List Nat → List Nat
 | 0,acc=>acc
 | n + 1,acc=>QeF ops left n (left.filter fun i=>Yf i acc || acc.any fun k=>Yf i (QW ops k))
def Xl (ops : Array Oper) (listed : Array Bool) : List Nat → List Nat → Bool
 | _,[]=>true
 | Jh,i :: r=>!Yf i Jh && ((QW ops i).all fun p=>listed.getD p false || Yf p Jh) && Xl ops listed (i :: Jh) r
def QbC (ops : Array Oper) (k : Nat) : List Nat → Bool
 | []=>true
 | i :: r=>(Yf i (QW ops k) || r.any fun j=>Yf i (QW ops j)) && QbC ops k r
def Qz (ops : Array Oper) (i : Nat) : Bool :=
 match ops[i]? with
 | some o=>X3 o
 | none=>false
def QeG (ops : Array Oper) (i : Nat) : Bool :=
 match ops[i]? with
 | some o=>Qdz o
 | none=>false
def Ej (ops : Array Oper) (S : List Nat) : List Nat:=(S.filter (QeG ops)).filterMap (ZY ops)
def Qfo (ops : Array Oper) (i j : Nat) : Bool :=
 match ZY ops j with
 | some t=>(match ZY ops i with
  | some t'=>!Nat.beq t t'
  | none=>true) && (!Yf t (VL ops i) || Yf j (QW ops i))
 | none=>true
def Qg2 (ops : Array Oper) (i : Nat) : Bool :=
 match ZY ops i with
 | some t=>!Yf t (VL ops i)
 | none=>true
def Gw (o : Oper) : Bool :=
 match o.op with
 | .binOp _ _ _ y _=>!(QaW y)
 | .move _ | .assign _ | .pick .. | .extract .. | .unOp .. | .fieldAddr ..=>true
 | _=>false
def WC (ops : Array Oper) (listed : Array Bool) (i : Nat) : Bool :=
 (match ops[i]? with
  | some o=>Gw o
  | none=>false) && match ops[i]? with
  | some oi=>(List.range ops.size).all fun j=>Nat.beq j i || listed.getD j true || Yf j (UY oi) || match ops[j]? with
   | some oj=>Yf i (UY oj) || oi.apart ops oj
   | none=>true
  | none=>false
def Qgy (ops : Array Oper) (listed : Array Bool) (left acc : List Nat) : List Nat :=
 left.foldl (fun acc i=>bif Yf i acc then acc else bif WC ops listed i && (QW ops i).all (fun p=>listed.getD p false || Yf p acc) then i :: acc else acc) acc
def Xz (ops : Array Oper) (listed : Array Bool) (left : List Nat) (h : Nat) : List Nat :=
 let S:=Qgy ops listed left ((QeF ops left left.length [h]).filter fun i=>!Nat.beq i h)
 left.filter fun i=>Yf i S
def WD (ops : Array Oper) : List Nat → Bool
 | []=>true
 | i :: r=>(match r with
  | []=>true
  | j :: _=>Yf i (QW ops j)) && WD ops r
def QbD (I : List (List Nat × Nat)) (path : List Nat) (id : Nat) (ops : Array Oper) (S : List Nat) : Bool :=
 match S.filter (Zo I path id ops) with
 | []=>true
 | [i]=>S.all fun j=>Nat.beq j i || !Gv ops j || Yf j (QeF ops S S.length [i]) || Yf i (QeF ops S S.length [j])
 | _=>false
def H7 (P : Program) (I : List (List Nat × Nat)) (path : List Nat) (id : Nat) (ops : Array Oper) (listed : Array Bool) : List Nat :=
 let left:=WB ops listed
 let S:=match left.find? fun i=>!Xb P I path id ops i with
  | none=>left
  | some h=>Xz ops listed left h
 let S:=match S.filter fun i=>Qz ops i with
  | _ :: h :: _=>bif WD ops (S.filter fun i=>Qz ops i) then S else Xz ops listed left h
  | _=>S
 match S.filter (Zo I path id ops) with
 | []=>S
 | [i]=>bif QbD I path id ops S then S else Xz ops listed left i
 | i :: j :: _ =>
  let S:=Xz ops listed left j
  bif QbD I path id ops S && Yf i S then S else Xz ops listed left i
def Qg3 (ops : Array Oper) (listed : Array Bool) (S : List Nat) : Nat → List Nat → List Nat
 | 0,acc=>acc
 | n + 1,acc=>Qg3 ops listed S n (S.filter fun i=>Yf i acc || acc.any (fun k=>Yf i (QW ops k)) || (WC ops listed i && (QW ops i).all fun p=>listed.getD p false || Yf p acc))
def Qfp (ops : Array Oper) (listed : Array Bool) (S : List Nat) (k : Nat) : Bool :=
 let acc:=Qg3 ops listed S S.length (S.filter fun i=>Yf i (QW ops k))
 S.all fun i=>Yf i acc
def XA (P : Program) (I : List (List Nat × Nat)) (path : List Nat) (id : Nat) (ops : Array Oper) (listed : Array Bool) (S : List Nat) : Bool :=
 !S.isEmpty && Nat.beq listed.size ops.size && WD ops (S.filter (Qz ops)) && QbD I path id ops S && (S.all fun i=>Xb P I path id ops i && !listed.getD i true && Qg2 ops i && S.all fun j=>Nat.beq i j || Qfo ops i j) &&
 Xl ops listed [] S && ((WB ops listed).all fun k=>Yf k S || !((QW ops k).all fun p=>listed.getD p false || Yf p S) || QbC ops k S || Qfp ops listed S k)
def Qg4 (P : Program) (ops : Array Oper) : Bool:=P.follows .mixedOrders && Region.noSelect ops
def QiA (d : Nat) (slots : List Nat) (q : Bool) (o : Oper) (st : St) : Bool :=
 (JS o).all fun t=>V.kept (fun x y=>!(Nat.beq x d && Yf y slots)) q (st.tm d t)
def QhZ (C : Ctx R) (d nn : Nat) (path : List Nat) (id : Nat) (ops : Array Oper) (slots : List Nat) (q : Bool) : List Nat → Q1 R → Q1 R
 | [],K,st=>K st
 | i :: S,K,st=>match ops[i]? with
  | some o=>bif QiA d slots q o st then G4 C d nn path ops.toList (1000 * id + i) [o] (QhZ C d nn path id ops slots q S K) st else none
  | none=>none
def Qd2 (C : Ctx R) (d nn : Nat) (path : List Nat) (id : Nat) (ops : Array Oper) : Nat → Array Bool → Q1 R → Q1 R
 | 0,listed,K,st=>bif (Region.ready .any ops listed).isEmpty then K st else none
 | n + 1,listed,K,st =>
  bif (Region.ready .any ops listed).isEmpty then K st else
  let S:=H7 C.P C.I path id ops listed
  bif XA C.P C.I path id ops listed S then
   QhZ C d nn path id ops (Ej ops S) (!(S.any (Qz ops))) S (Qd2 C d nn path id ops n (S.foldl (fun l i=>l.setIfInBounds i true) listed) K) st
  else match Region.ready .any ops listed with
   | [i]=>match ops[i]? with
    | some o=>G4 C d nn path ops.toList (1000 * id + i) [o] (Qd2 C d nn path id ops n (listed.setIfInBounds i true) K) st
    | none=>none
   | _=>none
def Qd3 (C : Ctx R) (d nn : Nat) (path : List Nat) (id : Nat) (ops : Array Oper) : Nat → Array Bool → Q1 R → Vz R
 | 0,_,_=>[]
 | n + 1,listed,K =>
  bif (Region.ready .any ops listed).isEmpty then [] else
  let S:=H7 C.P C.I path id ops listed
  bif XA C.P C.I path id ops listed S then Qd3 C d nn path id ops n (S.foldl (fun l i=>l.setIfInBounds i true) listed) K
  else match Region.ready .any ops listed with
   | [i]=>match ops[i]? with
    | some o=>Qc5 C d nn path ops.toList (1000 * id + i) [o] (Qd2 C d nn path id ops n (listed.setIfInBounds i true) K) ++ Qd3 C d nn path id ops n (listed.setIfInBounds i true) K
    | none=>[]
   | _=>[]
def Jn (C : Ctx R) (d nn : Nat) (path : List Nat) : Code → VP R → Q1 R
 | .skip,K=>K .normal
 | .region id ops false,K=>G4 C d nn path ops.toList (1000 * id) ops.toList (K .normal)
 | .region id ops true,K=>fun st=>bif Qg4 C.P ops then Qd2 C d nn path id ops ops.size (Array.replicate ops.size false) (K .normal) st else none
 | .seq a b,K=>Jn C d nn path a (Qd1 (bif C.cutAt path b then C.jump (1 :: VQ b :: path) else Jn C d nn path b K) K)
 | .cond c a b,K=>fun st=>match st.ev d c with
  | .d .bool t=>bif t then Jn C d nn path a K st else Jn C d nn path b K st
  | _=>none
 | .block id b,K=>Jn C d nn path b (Qg1 id K)
 | .loop b,_=>C.jump (0 :: VQ b :: path)
 | .exit id,K=>K (.exit id)
 | .scope b,K=>Jn C d nn path b K
 | .ret,K=>K .ret
 | _,_=>fun _=>none
def Q7 (C : Ctx R) (d nn : Nat) (path : List Nat) : Code → VP R → Vz R
 | .region id ops false,K=>Qc5 C d nn path ops.toList (1000 * id) ops.toList (K .normal)
 | .region id ops true,K=>Qd3 C d nn path id ops ops.size (Array.replicate ops.size false) (K .normal)
 | .seq a b,K =>
  (bif C.cutAt path b then [(1 :: VQ b :: path,Jn C d nn path b K)] else []) ++
   (Q7 C d nn path a (Qd1 (bif C.cutAt path b then C.jump (1 :: VQ b :: path) else Jn C d nn path b K) K) ++ Q7 C d nn path b K)
 | .cond _ a b,K=>Q7 C d nn path a K ++ Q7 C d nn path b K
 | .block id b,K=>Q7 C d nn path b (Qg1 id K)
 | .scope b,K=>Q7 C d nn path b K
 | .loop b,K =>
  (0 :: VQ b :: path,Jn C d nn path b (Qd1 (C.jump (0 :: VQ b :: path)) K)) :: Q7 C d nn path b (Qd1 (C.jump (0 :: VQ b :: path)) K)
 | _,_=>[]
def Qh0 (d : Nat) (st : St) (v : V) : Option V :=
 match v with
 | .msl d' s=>bif Nat.beq d' d then (match st.bx d' s with
  | .rows ty xs=>some (.d (.list ty) xs)
  | _=>none) else none
 | .mp d' s=>bif Nat.beq d' d then (match st.bx d' s with
  | .map k v es=>some (.d (.map k v) es)
  | _=>none) else none
 | .raw k=>bif Nat.beq d 0 then (match st.rw k with
  | some ⟨ty,xs⟩=>some (.d (.list ty) xs)
  | none=>none) else some (.raw k)
 | v=>some v
def Qfq (P : Program) (d : Nat) (st : St) : ResultVar → Option V
 | .tmp t=>Qh0 d st (st.tm d t)
 | .cell a t=>Xy P st t (st.tm d a) (Qh0 d st)
def QbQ (P : Program) (d : Nat) (st : St) : List ResultVar → Option (List V)
 | []=>some []
 | x :: r=>match Qfq P d st x,QbQ P d st r with
  | some v,some vs=>some (v :: vs)
  | _,_=>none
def Qh1 (P : Program) (fn : Func) (d : Nat) (st : St) : Option V :=
 match QbQ P d st fn.results.toList with
 | some [v]=>some v
 | some vs=>some (.tup vs)
 | none=>none
def QbR (P : Program) (fn : Func) (d : Nat) (K : V → Q1 R) : VP R
 | .normal,st | .ret,st=>match Qh1 P fn d st with
  | some v=>K v st
  | none=>none
 | _,_=>none
def X4 (d : Nat) : Nat → List V → (Nat → Nat → V) → Nat → Nat → V
 | _,[],tm=>tm
 | i,v :: vs,tm=>upd (X4 d (i + 1) vs tm) d i v
def QbS (d : Nat) (tm : Nat → Nat → V) : Nat → Nat → V:=fun x y=>bif Nat.beq x d then .any else tm x y
def QbT (d : Nat) (bx : Nat → Nat → Box) : Nat → Nat → Box:=fun x y=>bif Nat.beq x d then .none else bx x y
def Y4 (st : St) (d : Nat) (args : List V) : St :=
 { st with tm:=X4 d 0 args (QbS d st.tm),bx:=QbT d st.bx }
def Qai (d : Nat) (K : V → Q1 R) (v : V) (st : St) : Option R :=
 bif v.le d then K v { st with tm:=QbS (d + 1) st.tm,bx:=QbT (d + 1) st.bx } else none
def JH (P : Program) (g : Nat) : Bool :=
 match P.funcs[g]? with
 | some fn => fn.body.isSome && !(fn.name == "runtime.NumGoroutine")
 | none=>false
def Ek (P : Program) (L : List Nat → List V → Option R) (A : List (List Nat × Ann)) (I : List (List Nat × Nat)) (con : Nat → List V → (V → Option R) → Option R) : Nat → Ctx R
 | 0=>⟨P,L,A,I,con,fun _ _ _ _ _ _=>none,fun _ _ _ _=>[]⟩
 | n + 1=>⟨P,L,A,I,con,
   fun d path g args K st=>match P.funcs[g]? with
    | some fn=>match fn.body with
     | some c=>bif Nat.ble args.length fn.ntmps && JH P g then Jn (Ek P L A I con n) (d + 1) fn.ntmps path c (QbR P fn (d + 1) (Qai d K)) (Y4 st (d + 1) args) else none
     | none=>none
    | none=>none,
   fun d path g K=>match P.funcs[g]? with
    | some fn=>match fn.body with
     | some c=>Q7 (Ek P L A I con n) (d + 1) fn.ntmps path c (QbR P fn (d + 1) (Qai d K))
     | none=>[]
    | none=>[]⟩
def Gx : Nat:=6
@[reducible] def Qbd : List Ty → Type
 | []=>Unit
 | [t]=>t.den
 | t :: u :: ts=>t.den × Qbd (u :: ts)
def El : (ts : List Ty) → List V → Option (Qbd ts)
 | [],[]=>some ()
 | [t],[v]=>JG t v
 | t :: u :: ts,v :: vs=>match JG t v,El (u :: ts) vs with
  | some x,some y=>some (x,y)
  | _,_=>none
 | _,_=>none
def QG (ts : List Ty) (v : V) : Option (Qbd ts) :=
 match ts,v with
 | [t],v=>JG t v
 | ts,.tup vs=>El ts vs
 | _,_=>none
def Ya : (ts : List Ty) → Qbd ts → List V
 | [],_=>[]
 | [t],x=>[Yd t x]
 | t :: u :: ts,x=>Yd t x.1 :: Ya (u :: ts) x.2
def X5 (ts : List Ty) (x : Qbd ts) : V :=
 match ts,x with
 | [t],x=>Yd t x
 | ts,x=>.tup (Ya ts x)
def Qd4 : Vz R → List Nat → Bool
 | [],_=>true
 | (p,_) :: r,q=>!(WA p q) && Qd4 r q
def H8 : Vz R → List Nat → Option (Q1 R)
 | [],_=>none
 | (p,f) :: r,q=>bif WA p q then (bif Qd4 r q then some f else none) else H8 r q
def Gy (P : Program) (gl : Nat → Option (List V)) (A : List (List Nat × Ann)) (I : List (List Nat × Nat)) (con : Nat → List V → (V → Option R) → Option R) (fn : Func) (c : Code) (fin : VP R) : Nat → List Nat → List V → Option R
 | 0=>fun _ _=>none
 | n + 1=>fun q vs=>match H8 (Q7 (Ek P (Gy P gl A I con fn c fin n) A I con Gx) 0 fn.ntmps [] c fin) q,ZF A q with
  | some f,some an=>f { Qe an vs with gl:=gl }
  | _,_=>none
def Qbe (P : Program) (gl : Nat → Option (List V)) (A : List (List Nat × Ann)) (I : List (List Nat × Nat)) (con : Nat → List V → (V → Option R) → Option R) (fn : Func) (c : Code) (fin : VP R) (n : Nat) (args : List V) : Option R :=
 bif Nat.ble args.length fn.ntmps then
  Jn (Ek P (Gy P gl A I con fn c fin n) A I con Gx) 0 fn.ntmps [] c fin (Y4 { St.empty with gl:=gl } 0 args)
 else none
def Qg5 (P : Program) (fn : Func) (fin : V → Option R) : VP R:=QbR P fn 0 fun v _=>fin v
def lam (P : Program) (A : List (List Nat × Ann)) (I : List (List Nat × Nat)) (con : Nat → List V → (V → Option R) → Option R) (fn : Func) (c : Code) (fin : V → Option R) : Nat → List Nat → List V → Option R :=
 Gy P noG A I con fn c (Qg5 P fn fin)
def run (P : Program) (A : List (List Nat × Ann)) (I : List (List Nat × Nat)) (con : Nat → List V → (V → Option R) → Option R) (fn : Func) (c : Code) (fin : V → Option R) (n : Nat) (args : List V) : Option R :=
 Qbe P noG A I con fn c (Qg5 P fn fin) n args
def Qg6 (t : Ty) (st : St) (v : V) : Option (List t.den) :=
 match v with
 | .nils=>some []
 | .own tok t' xs=>bif st.lv tok then castL? t' t xs else none
 | .raw tok=>match st.rw tok with
  | some ⟨t',xs⟩=>castL? t' t xs
  | none=>none
 | _=>none
def Y5 (P : Program) (fn : Func) (t : Ty) : VP (List t.den)
 | .normal,st | .ret,st=>match fn.results.toList with
  | [.tmp x]=>Qg6 t st (st.tm 0 x)
  | [.cell a ty]=>Xy P st ty (st.tm 0 a) (Qg6 t st)
  | _=>none
 | _,_=>none
end
end Go.Ab
