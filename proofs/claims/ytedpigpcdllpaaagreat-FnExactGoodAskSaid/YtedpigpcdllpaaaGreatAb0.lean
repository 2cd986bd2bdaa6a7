import GoSem.Claim
import GoSem.ClaimKeys
import Derived.Calls
import Derived.Laws.Sem
import Derived.OrdersHeld
namespace Go.Ab
noncomputable section
inductive Tree (α : Type) where
 | node (v : α) (kids : List (Tree α))
def Tree.val {α : Type} : Tree α → α
 | .node v _=>v
def Tree.kids {α : Type} : Tree α → List (Tree α)
 | .node _ k=>k
inductive Ty where
 | int (k : IntKind) | bool | str | list (t : Ty) | unit | pair (a b : Ty)
 | map (k v : Ty)
 | tree (a : Ty)
@[reducible] def Ty.den : Ty → Type
 | .int _=>Int
 | .bool=>Bool
 | .str=>List Int
 | .list t=>List t.den
 | .unit=>Unit
 | .pair a b=>a.den × b.den
 | .map k v=>List (k.den × v.den)
 | .tree a=>Tree a.den
def Ty.dflt : (t : Ty) → t.den
 | .int _=>(0 : Int)
 | .bool=>false
 | .str=>([] : List Int)
 | .list _=>[]
 | .unit=>()
 | .pair a b=>(a.dflt,b.dflt)
 | .map _ _=>[]
 | .tree a=>.node a.dflt []
def Ty.keyFlat : Ty → Bool
 | .int _ | .bool | .str | .unit=>true
 | .pair a b=>a.keyFlat && b.keyFlat
 | _=>false
def Ty.cells : Ty → Nat
 | .unit=>0
 | .pair a b=>a.cells + b.cells
 | .tree a=>a.cells + 1
 | _=>1
def Ty.scalar : Ty → Bool
 | .unit | .pair _ _ | .tree _=>false
 | _=>true
def Ty.eq? : (a b : Ty) → Option (PLift (a = b))
 | .int k,.int k'=>if h : k = k' then some ⟨by rw [h]⟩ else none
 | .bool,.bool=>some ⟨rfl⟩
 | .str,.str=>some ⟨rfl⟩
 | .list t,.list t'=>match Ty.eq? t t' with
  | some ⟨h⟩=>some ⟨by rw [h]⟩
  | none=>none
 | .unit,.unit=>some ⟨rfl⟩
 | .pair a b,.pair a' b'=>match Ty.eq? a a',Ty.eq? b b' with
  | some ⟨h⟩,some ⟨h'⟩=>some ⟨by rw [h,h']⟩
  | _,_=>none
 | .map a b,.map a' b'=>match Ty.eq? a a',Ty.eq? b b' with
  | some ⟨h⟩,some ⟨h'⟩=>some ⟨by rw [h,h']⟩
  | _,_=>none
 | .tree a,.tree a'=>match Ty.eq? a a' with
  | some ⟨h⟩=>some ⟨by rw [h]⟩
  | none=>none
 | _,_=>none
def Ty.decEq : (t : Ty) → (x y : t.den) → Decidable (x = y)
 | .int _=>fun (x y : Int)=>Int.instDecidableEq x y
 | .bool=>fun (x y : Bool)=>instDecidableEqBool x y
 | .str=>fun (x y : List Int)=>instDecidableEqList x y
 | .list t=>fun (x y : List t.den)=>@instDecidableEqList _ t.decEq x y
 | .unit=>fun (_ _ : Unit)=>isTrue rfl
 | .pair a b=>fun (x y : a.den × b.den)=>@instDecidableEqProd _ _ a.decEq b.decEq x y
 | .map a b=>fun (x y : List (a.den × b.den))=>@instDecidableEqList _ (@instDecidableEqProd _ _ a.decEq b.decEq) x y
 | .tree _=>fun _ _=>Classical.propDecidable _
def Yh (rec : TypeId → Option Ty) (off : Nat) : List Field → Option Ty
 | []=>some .unit
 | [f]=>if f.offset = off then rec f.type else none
 | f :: g :: fs=>if f.offset = off then (rec f.type).bind fun a=>(Yh rec (off + a.cells) (g :: fs)).map (.pair a) else none
def QEY (P : Program) (rec : TypeId → Option Ty) (t : TypeId) (fs : List Field) : Option Ty :=
 match fs.getLast? with
 | some f=>match P.underlying f.type with
  | some (.slice e)=>bif Nat.beq e t then (match Yh rec 0 fs.dropLast with
   | some a=>bif Nat.beq f.offset a.cells then some (.tree a) else none
   | none=>none) else none
  | _=>none
 | none=>none
def QEZ (P : Program) (rec : TypeId → Option Ty) (t : TypeId) : Option Ty :=
  match P.underlying t with
  | some .bool => some .bool
  | some (.int k) => some (.int k)
  | some .string => some .str
  | some (.slice e) => (rec e).map .list
  | some (.map k e) => match rec k, rec e with
    | some a, some b => some (.map a b)
    | _, _ => none
  | some (.struct fs) => match QEY P rec t fs.toList with
   | some ty => some ty
   | none => match fs.toList with
    | [f] => if f.offset = 0 then (rec f.type).map fun a => .pair a .unit else none
    | l => Yh rec 0 l
  | _ => none
def GY (P : Program) : Nat → TypeId → Option Ty
 | 0,_=>none
 | n + 1,t=>match QEZ P (GY P n) t with
  | some ty=>bif Nat.beq (P.cellsOf t) ty.cells && (P.info? t).isSome then some ty else none
  | none=>none
def J6 : Nat:=12
inductive V where
 | any
 | un
 | d (t : Ty) (x : t.den)
 | agg (cs : List V)
 | eptr (cs : List V)
 | ptr (d s off : Nat)
 | rptr (d s sz : Nat) (i : Int) (off : Nat)
 | own (tok : Nat) (t : Ty) (xs : List t.den)
 | nils
 | msl (d s : Nat)
 | fn (f : Nat) (caps : List V)
 | tup (vs : List V)
 | raw (k : Nat)
 | qptr (k sz : Nat) (i : Int) (off : Nat)
 | mp (d s : Nat)
 | dr (k : Nat)
 | dq (k sz : Nat) (i : Int) (off : Nat)
structure RBox where
 ty : Ty
 xs : List ty.den
inductive Box where
 | none
 | cells (cs : List V)
 | rows (t : Ty) (xs : List t.den)
 | map (k v : Ty) (es : List (k.den × v.den))
structure St where
 tm : Nat → Nat → V
 bx : Nat → Nat → Box
 nt : Nat
 lv : Nat → Bool
 rw : Nat → Option RBox
 gl : Nat → Option (List V)
 dr : Nat → Option RBox
 nd : Nat
def QA : (t : Ty) → t.den → List V
 | .pair a b,x=>QA a x.1 ++ QA b x.2
 | .unit,_=>[]
 | .int k,x=>[.d (.int k) x]
 | .bool,x=>[.d .bool x]
 | .str,x=>[.d .str x]
 | .list t,x=>[.d (.list t) x]
 | .map k v,x=>[.d (.map k v) x]
 | .tree a,x=>QA a x.val ++ [.d (.list (.tree a)) x.kids]
def Yt : (t : Ty) → t.den → V
 | .pair a b,x=>.agg (QA (.pair a b) x)
 | .unit,_=>.agg []
 | .int k,x=>.d (.int k) x
 | .bool,x=>.d .bool x
 | .str,x=>.d .str x
 | .list t,x=>.d (.list t) x
 | .map k v,x=>.d (.map k v) x
 | .tree a,x=>.agg (QA (.tree a) x)
def cast? (t t' : Ty) (x : t.den) : Option t'.den :=
 match Ty.eq? t t' with
 | some ⟨h⟩=>some (h ▸ x)
 | none=>none
def castL? (t t' : Ty) (x : List t.den) : Option (List t'.den) :=
 match Ty.eq? t t' with
 | some ⟨h⟩=>some (h ▸ x)
 | none=>none
def Gx (t : Ty) (v : V) : Option t.den :=
 match t,v with
 | .list t,.own _ t' x=>castL? t' t x
 | .list _,.nils=>some []
 | t,.d t' x=>cast? t' t x
 | _,_=>none
def Vr : (t : Ty) → List V → Option t.den
 | .pair a b,cs=>match Vr a (cs.take a.cells),Vr b (cs.drop a.cells) with
  | some x,some y=>some (x,y)
  | _,_=>none
 | .unit,[]=>some ()
 | .int k,[v]=>Gx (.int k) v
 | .bool,[v]=>Gx .bool v
 | .str,[v]=>Gx .str v
 | .list t,[v]=>Gx (.list t) v
 | .map k e,[v]=>Gx (.map k e) v
 | .tree a,cs=>match Vr a (cs.take a.cells),cs.drop a.cells with
  | some v,[k]=>(Gx (.list (.tree a)) k).map fun ks=>Tree.node v ks
  | _,_=>none
 | _,_=>none
def V.cellsOf : V → List V
 | .agg cs=>cs
 | v=>[v]
def Vf (t : Ty) (v : V) : Option t.den :=
 match t,v with
 | .pair a b,.agg cs=>Vr (.pair a b) cs
 | .unit,.agg cs=>Vr .unit cs
 | .tree a,.agg cs=>Vr (.tree a) cs
 | .pair _ _,_ | .unit,_ | .tree _,_=>none
 | t,v=>Gx t v
def V.plain : V → Bool
 | .any | .un | .tup _ | .raw _ | .qptr .. | .dq ..=>false
 | _=>true
def upd (f : Nat → Nat → V) (d t : Nat) (v : V) : Nat → Nat → V :=
 fun x y=>bif Nat.beq y t && Nat.beq x d then v else f x y
def Qx5 (f : Nat → Nat → Box) (d t : Nat) (v : Box) : Nat → Nat → Box :=
 fun x y=>bif Nat.beq y t && Nat.beq x d then v else f x y
def QzW (f : Nat → Option RBox) (t : Nat) (v : Option RBox) : Nat → Option RBox:=fun x=>bif Nat.beq x t then v else f x
def QBk (f : Nat → Bool) (t : Nat) (v : Bool) : Nat → Bool:=fun x=>bif Nat.beq x t then v else f x
def ZU (s : ByteArray) : List Int:=s.data.toList.map fun b=>(b.toNat : Int)
def inK (k : IntKind) (x : Int) : Bool:=decide (k.min ≤ x) && decide (x ≤ k.max)
def Qaj : Value → V
 | .bool b=>.d .bool b
 | .int k n=>bif inK k n then .d (.int k) n else .any
 | .string s=>bif Nat.ble s.size 140737488355328 then .d .str (ZU s) else .any
 | .slice none 0 0=>.nils
 | _=>.any
def St.ev (st : St) (d : Nat) : Operand → V
 | .tmp t=>st.tm d t
 | .const v=>Qaj v
 | .func f=>.fn f []
 | .global _=>.any
def St.set (st : St) (d t : Nat) (v : V) : St:={ st with tm:=upd st.tm d t v }
def St.put (st : St) (d : Nat) (dst : Option Nat) (v : V) : St :=
 match dst with
 | some t=>st.set d t v
 | none=>st
def St.setB (st : St) (d t : Nat) (b : Box) : St:={ st with bx:=Qx5 st.bx d t b }
def St.mint (st : St) : St:={ st with nt:=st.nt + 1,lv:=QBk st.lv st.nt true }
def St.spend (st : St) (tok : Nat) : St:={ st with lv:=QBk st.lv tok false,rw:=QzW st.rw tok none }
def St.setR (st : St) (tok : Nat) (b : Option RBox) : St:={ st with rw:=QzW st.rw tok b }
def St.mintR (st : St) (b : RBox) : St:=(st.mint).setR st.nt (some b)
def St.setD (st : St) (k : Nat) (b : Option RBox) : St:={ st with dr:=QzW st.dr k b }
def St.mintD (st : St) (b : RBox) : St:={ st with dr:=QzW st.dr st.nd (some b),nd:=st.nd + 1 }
def inB (i : Int) (n : Nat) : Bool:=decide (0 ≤ i) && decide (i < (n : Int))
def rd {α : Type} (xs : List α) (i : Int) (d : α) : α:=xs.getD i.toNat d
def V.le (n : Nat) : V → Bool
 | .ptr dp _ _ | .rptr dp _ _ _ _ | .msl dp _ | .mp dp _=>Nat.ble dp n
 | .agg cs | .eptr cs | .fn _ cs | .tup cs=>leL n cs
 | _=>true
where leL (n : Nat) : List V → Bool
 | []=>true
 | c :: cs=>c.le n && leL n cs
def V.flat : V → Bool
 | .ptr .. | .rptr .. | .msl .. | .fn .. | .eptr .. | .any | .un | .tup .. | .raw _ | .qptr .. | .mp .. | .dr _ | .dq ..=>false
 | .agg cs=>flatL cs
 | _=>true
where flatL : List V → Bool
 | []=>true
 | c :: cs=>c.flat && flatL cs
def XL (cs : List V) (off : Nat) (vs : List V) : List V:=cs.take off ++ vs ++ cs.drop (off + vs.length)
variable {R : Type}
abbrev JC (R : Type):=St → Option R
def QGQ (op : BinOp) (a b : Int) : Bool :=
 match op with
 | .eql=>decide (a = b) | .neq=>!decide (a = b)
 | .lss=>decide (a < b) | .leq=>decide (a ≤ b) | .gtr=>decide (b < a) | .geq=>decide (b ≤ a)
 | _=>false
def Jg : List Int → List Int → Bool
 | _,[]=>false
 | [],_ :: _=>true
 | a :: x,b :: y=>decide (a < b) || (decide (a = b) && Jg x y)
def QC3 (op : BinOp) (a b : List Int) : Bool :=
 match op with
 | .eql=>decide (a = b) | .neq=>!decide (a = b)
 | .lss=>Jg a b | .leq=>!Jg b a | .gtr=>Jg b a | .geq=>!Jg a b
 | _=>false
def ZB : Int:=Classical.choose (⟨140737488355328,rfl⟩ : ∃ r : Int,r = 140737488355328)
theorem U9 : ZB = 140737488355328:=Classical.choose_spec (⟨140737488355328,rfl⟩ : ∃ r : Int,r = 140737488355328)
def QwU (P : Program) : Nat → TypeId → Bool
 | 0,_=>false
 | n + 1,t=>match P.underlying t with
  | some .bool | some (.int _) | some .string=>true
  | some (.struct fs) => !P.stoodInHeld t && fs.toList.all fun f => f.name != "_" && QwU P n f.type
  | _=>false
def QsB (P : Program) (op : BinOp) (t : TypeId) (x y : V) (K : V → Option R) : Option R :=
 match x,y with
 | .d (.int k) a,.d (.int k') b =>
  match op with
  | .shl=>bif decide ((0 : Int) ≤ b) then K (.d (.int k) (k.wrap ((a : Int) * 2 ^ (min (Int.toNat b) k.bits)))) else none
  | .shr=>bif decide ((0 : Int) ≤ b) then K (.d (.int k) (Int.fdiv a (2 ^ (min (Int.toNat b) k.bits)))) else none
  | op=>if k = k' then
   match op with
   | .add=>K (.d (.int k) (k.wrap (a + b)))
   | .sub=>K (.d (.int k) (k.wrap (a - b)))
   | .mul=>K (.d (.int k) (k.wrap (a * b)))
   | .quo=>bif decide ((b : Int) = 0) then none else K (.d (.int k) (k.wrap (Int.tdiv a b)))
   | .rem=>bif decide ((b : Int) = 0) then none else K (.d (.int k) (Int.tmod a b))
   | .eql | .neq | .lss | .leq | .gtr | .geq=>K (.d .bool (QGQ op a b))
   | .and=>K (.d (.int k) (k.wrap (BitVec.ofInt k.bits a &&& BitVec.ofInt k.bits b).toNat))
   | .or=>K (.d (.int k) (k.wrap (BitVec.ofInt k.bits a ||| BitVec.ofInt k.bits b).toNat))
   | .xor=>K (.d (.int k) (k.wrap (BitVec.ofInt k.bits a ^^^ BitVec.ofInt k.bits b).toNat))
   | _=>none
   else none
 | .d .str a,.d .str b =>
  match op with
  | .add=>bif decide (((a : List Int).length : Int) + ((b : List Int).length : Int) ≤ ZB) then K (.d .str ((a : List Int) ++ (b : List Int))) else none
  | .eql | .neq | .lss | .leq | .gtr | .geq=>K (.d .bool (QC3 op a b))
  | _=>none
 | .d .bool a,.d .bool b =>
  match P.underlying t with
  | some .bool=>match op with
   | .eql=>K (.d .bool (a == b))
   | .neq=>K (.d .bool (a != b))
   | _=>none
  | _=>none
 | .agg a,.agg b =>
  match GY P J6 t with
  | some ty=>bif !ty.scalar && QwU P J6 t && !(P.eqGuardType P.depth t) then match Vr ty a,Vr ty b with
   | some u,some v=>match op with
    | .eql=>K (.d .bool (@decide (u = v) (ty.decEq u v)))
    | .neq=>K (.d .bool (!(@decide (u = v) (ty.decEq u v))))
    | _=>none
   | _,_=>none
   else none
  | none=>none
 | _,_=>none
open Classical in
def QF0 (a b : Option R) : Option R:=if a = b then a else none
def Qwo : Operand → Bool
 | .const (.slice none 0 0)=>true
 | _=>false
def QF1 (op : BinOp) (n : Nat) (K : V → Option R) : Option R :=
 match op with
 | .eql=>bif decide (0 < n) then K (.d .bool false) else QF0 (K (.d .bool true)) (K (.d .bool false))
 | .neq=>bif decide (0 < n) then K (.d .bool true) else QF0 (K (.d .bool false)) (K (.d .bool true))
 | _=>none
def QGz (P : Program) (op : BinOp) (t : TypeId) (x : V) (K : V → Option R) : Option R :=
 match P.underlying t with
 | some (.slice _)=>match x with
  | .d (.list t') xs=>QF1 op (List.length (α:=t'.den) xs) K
  | .own _ _ xs=>QF1 op xs.length K
  | .nils=>match op with
   | .eql=>K (.d .bool true)
   | .neq=>K (.d .bool false)
   | _=>none
  | _=>none
 | _=>none
def unC (op : UnOp) (x : V) (K : V → Option R) : Option R :=
 match op,x with
 | .not,.d .bool b=>K (.d .bool (!b))
 | .neg,.d (.int k) a=>K (.d (.int k) (k.wrap (0 - a)))
 | _,_=>none
def Qx6 (P : Program) (t : TypeId) : Bool :=
 match P.underlying t with
 | some .bool | some (.int _) | some .string=>true
 | some (.struct _)=>QwU P J6 t && P.keyTypeAt J6 t && match GY P J6 t with
  | some ty=>ty.keyFlat
  | none=>false
 | _=>false
def Hk (k : Ty) {α : Type} (es : List (k.den × α)) (x : k.den) (z : α) : α :=
 match es with
 | []=>z
 | e :: es=>bif @decide (x = e.1) (k.decEq x e.1) then e.2 else Hk k es x z
def QaA (k : Ty) {α : Type} (es : List (k.den × α)) (x : k.den) (y : α) : List (k.den × α) :=
 match es with
 | []=>[(x,y)]
 | e :: es=>bif @decide (x = e.1) (k.decEq x e.1) then (x,y) :: es else e :: QaA k es x y
def Qet (P : Program) (t : TypeId) : Bool :=
 match P.underlying t with
 | some (.struct _) | some (.array _ _)=>true
 | _=>false
def QaB (P : Program) (t : TypeId) (cs : List V) (off : Nat) (K : V → Option R) : Option R :=
 match P.underlying t with
 | some _=>match Qet P t with
  | true =>
   let l:=(cs.drop off).take (P.cellsOf t)
   bif Nat.beq l.length (P.cellsOf t) then K (.agg l) else none
  | false=>match cs.drop off with
   | c :: _=>K c
   | []=>none
 | none=>none
def Ty.one : Ty → Bool
 | .int _ | .bool | .str=>true
 | _=>false
def QmY (ty : Ty) : List V → Option (List ty.den)
 | []=>some []
 | c :: cs=>match Gx ty c,QmY ty cs with
  | some x,some xs=>some (x :: xs)
  | _,_=>none
def QmZ (ty : Ty) (i : Int) (x : ty.den) : Nat → List V → List V
 | _,[]=>[]
 | j,c :: cs=>(match Gx ty c with
  | some y=>V.d ty (bif decide (i = (j : Int)) then x else y)
  | none=>c) :: QmZ ty i x (j + 1) cs
def Qhm (P : Program) (st : St) (t : TypeId) (a : V) (K : V → Option R) : Option R :=
 match a with
 | .eptr cs=>QaB P t cs 0 K
 | .ptr d s off=>match st.bx d s with
  | .cells cs=>QaB P t cs off K
  | _=>none
 | .rptr d s sz i off=>match st.bx d s with
  | .rows ty xs=>bif Nat.beq sz ty.cells && inB i xs.length then QaB P t (QA ty (rd xs i ty.dflt)) off K else none
  | .cells cs=>match GY P J6 t with
   | some ty=>match QmY ty cs with
    | some xs=>bif Nat.beq sz 1 && Nat.beq off 0 && ty.one && (P.underlying t).isSome && !Qet P t then
      (bif inB i xs.length then K (.d ty (rd xs i ty.dflt)) else none)
     else none
    | none=>none
   | none=>none
  | _=>none
 | .qptr k sz i off=>match st.rw k with
  | some ⟨ty,xs⟩=>bif Nat.beq sz ty.cells && inB i xs.length then QaB P t (QA ty (rd xs i ty.dflt)) off K else none
  | none=>none
 | .dq k sz i off=>match st.dr k with
  | some ⟨ty,xs⟩=>bif Nat.beq sz ty.cells && inB i xs.length && ty.keyFlat then QaB P t (QA ty (rd xs i ty.dflt)) off K else none
  | none=>none
 | _=>none
def QC4 (P : Program) (st : St) (t : TypeId) (a v : V) (K : JC R) : Option R :=
 match a with
 | .ptr d s off=>match st.bx d s with
  | .cells cs =>
   let vs:=v.cellsOf
   bif Nat.beq vs.length (P.cellsOf t) && Nat.ble (off + vs.length) cs.length && v.plain && V.le.leL d vs && (P.info? t).isSome then
    K (st.setB d s (.cells (XL cs off vs)))
   else none
  | _=>none
 | .rptr d s sz i off=>match st.bx d s with
  | .rows ty xs =>
   let vs:=v.cellsOf
   bif Nat.beq sz ty.cells && inB i xs.length && Nat.beq vs.length (P.cellsOf t) && v.plain && (P.info? t).isSome && Nat.ble (off + vs.length) ty.cells then
    match Vr ty (XL (QA ty (rd xs i ty.dflt)) off vs) with
    | some e=>K (st.setB d s (.rows ty (xs.set (Int.toNat i) e)))
    | none=>none
   else none
  | .cells cs=>match GY P J6 t with
   | some ty=>match Gx ty v,QmY ty cs with
    | some x,some xs=>bif Nat.beq sz 1 && Nat.beq off 0 && ty.one && Nat.beq (P.cellsOf t) 1 && (P.info? t).isSome then
      (bif inB i xs.length then K (st.setB d s (.cells (QmZ ty i x 0 cs))) else none)
     else none
    | _,_=>none
   | none=>none
  | _=>none
 | .qptr k sz i off=>match st.rw k with
  | some ⟨ty,xs⟩ =>
   let vs:=v.cellsOf
   bif Nat.beq sz ty.cells && inB i xs.length && Nat.beq vs.length (P.cellsOf t) && v.plain && (P.info? t).isSome && Nat.ble (off + vs.length) ty.cells then
    match Vr ty (XL (QA ty (rd xs i ty.dflt)) off vs) with
    | some e=>K (st.setR k (some ⟨ty,xs.set (Int.toNat i) e⟩))
    | none=>none
   else none
  | none=>none
 | _=>none
def zeroCells (P : Program) (t : TypeId) : Option (List V) :=
 match (P.info? t).bind (·.zero) with
 | some z=>bif z.cells.toList.all (·.oneCell') then some (z.cells.toList.map Qaj) else none
 | none=>none
def QqX (P : Program) (t : TypeId) (ty : Ty) : Option ty.den:=(zeroCells P t).bind (Vr ty)
def Qm0 (P : Program) (t : TypeId) (f : Nat) : Option (Nat × TypeId) :=
 match P.underlying t with
 | some (.struct fs)=>(fs[f]?).map fun f=>(f.offset,f.type)
 | _=>none
def QaC (P : Program) (t : TypeId) (x : V) (f : Nat) (K : V → Option R) : Option R :=
 match Qm0 P t f with
 | some (off,ft) =>
  bif Nat.beq (P.cellsOf ft) 0 then none else
  match x with
  | .ptr d s o=>K (.ptr d s (o + off))
  | .eptr cs=>K (.eptr (cs.drop off))
  | .rptr d s sz i o=>K (.rptr d s sz i (o + off))
  | .dq k sz i o=>K (.dq k sz i (o + off))
  | _=>none
 | none=>none
def QuJ (P : Program) (t : TypeId) (x : V) (f : Nat) (K : V → Option R) : Option R :=
 match Qm0 P t f,x with
 | some (off,ft),.agg cs=>QaB P ft cs off K
 | _,_=>none
def GZ (P : Program) (t : TypeId) : Option TypeId :=
 match P.underlying t with
 | some (.slice e)=>some e
 | _=>none
def HU (P : Program) (st : St) (t : TypeId) (x i : V) (K : V → Option R) : Option R :=
 match (GZ P t).bind (GY P J6),x,i with
 | some ty,.d (.list ty') xs,.d (.int _) n =>
  match castL? ty' ty xs with
  | some xs=>bif inB n (List.length (α:=ty.den) xs) then K (.eptr (QA ty (rd (α:=ty.den) xs n ty.dflt))) else none
  | none=>none
 | some ty,.own _ ty' xs,.d (.int _) n =>
  match castL? ty' ty xs with
  | some xs=>bif inB n (List.length (α:=ty.den) xs) then K (.eptr (QA ty (rd (α:=ty.den) xs n ty.dflt))) else none
  | none=>none
 | some ty,.msl d s,.d (.int _) n=>match st.bx d s with
  | .rows ty' xs=>match castL? ty' ty xs with
   | some xs=>bif inB n (List.length (α:=ty.den) xs) then K (.rptr d s ty.cells n 0) else none
   | none=>none
  | _=>none
 | some ty,.raw k,.d (.int _) n=>match st.rw k with
  | some ⟨ty',xs⟩=>match castL? ty' ty xs with
   | some xs=>bif inB n (List.length (α:=ty.den) xs) then K (.qptr k ty.cells n 0) else none
   | none=>none
  | none=>none
 | some ty,.dr k,.d (.int _) n=>match st.dr k with
  | some ⟨ty',xs⟩=>match castL? ty' ty xs with
   | some xs=>bif inB n (List.length (α:=ty.den) xs) then K (.dq k ty.cells n 0) else none
   | none=>none
  | none=>none
 | none,.ptr d s off,.d (.int _) n=>match P.underlying t with
  | some (.array len e)=>bif Nat.beq (P.cellsOf e) 1 && (P.info? e).isSome then (bif inB n len then K (.rptr d s 1 n off) else none) else none
  | _=>none
 | _,_,_=>none
def QuK (P : Program) (t : TypeId) (x i : V) (K : V → Option R) : Option R :=
 match P.underlying t,x,i with
 | some .string,.d .str s,.d (.int _) n=>bif inB n (List.length (α:=Int) s) then K (.d (.int .u8) (rd (α:=Int) s n 0)) else none
 | some (.array len e),.agg cs,.d (.int _) n=>match GY P J6 e with
  | some ty=>match QmY ty cs with
   | some xs=>bif Nat.beq xs.length len && ty.one && Nat.beq (P.cellsOf e) 1 && (P.info? e).isSome && (P.underlying e).isSome && !Qet P e then
     (bif inB n xs.length then K (.d ty (rd xs n ty.dflt)) else none)
    else none
   | none=>none
  | none=>none
 | _,_,_=>none
def QqY (n : Nat) (lo hi : Option V) (K : Int → Int → Option R) : Option R :=
 match lo,hi with
 | none,none=>K 0 n
 | some (.d (.int _) l),none=>bif decide ((0 : Int) ≤ l) && decide ((l : Int) ≤ (n : Int)) then K l n else none
 | none,some (.d (.int _) h)=>bif decide ((0 : Int) ≤ h) && decide ((h : Int) ≤ (n : Int)) then K 0 h else none
 | some (.d (.int _) l),some (.d (.int _) h) =>
  bif decide ((0 : Int) ≤ h) && decide ((h : Int) ≤ (n : Int)) then (bif decide ((0 : Int) ≤ l) && decide ((l : Int) ≤ h) then K l h else none) else none
 | _,_=>none
def cut {α : Type} (xs : List α) (l h : Int) : List α:=(xs.take h.toNat).drop l.toNat
def QuL (P : Program) (t : TypeId) (x : V) (lo hi : Option V) (K : V → Option R) : Option R :=
 match P.underlying t,x with
 | some .string,.d .str s=>QqY (List.length (α:=Int) s) lo hi fun l h=>K (.d .str (cut (α:=Int) s l h))
 | some (.slice e),.d (.list t) xs=>bif Nat.beq (P.cellsOf e) t.cells && (P.info? e).isSome then QqY (List.length (α:=t.den) xs) lo hi fun l h=>K (.d (.list t) (cut (α:=t.den) xs l h)) else none
 | some (.slice e),.own tok t xs=>bif Nat.beq (P.cellsOf e) t.cells && (P.info? e).isSome then (match hi with
  | none=>QqY xs.length lo none fun l h=>K (.own tok t (cut xs l h))
  | some hi=>QqY xs.length lo (some hi) fun l h=>K (.d (.list t) (cut xs l h))) else none
 | _,_=>none
def QoY (P : Program) (t : TypeId) (x : V) (lo hi mx : Option V) (K : V → Option R) : Option R :=
 match P.underlying t,x,hi,mx with
 | some (.slice e),.d (.list t) xs,some (.d (.int _) h),some (.d (.int _) m)=>bif Nat.beq (P.cellsOf e) t.cells && (P.info? e).isSome && decide ((h : Int) = m) then QqY (List.length (α:=t.den) xs) lo hi fun l h=>K (.d (.list t) (cut (α:=t.den) xs l h)) else none
 | _,_,_,_=>none
def Qx7 (P : Program) (src dst : TypeId) (x : V) (K : V → Option R) : Option R :=
 match P.underlying src,P.underlying dst,x with
 | some (.int _),some (.int k),.d (.int _) n=>K (.d (.int k) (k.wrap n))
 | some .string,some .string,.d .str s=>K (.d .str s)
 | some .string,some (.slice e),.d .str s=>match P.underlying e with
  | some (.int .u8)=>K (.d (.list (.int .u8)) s)
  | _=>none
 | some (.slice e),some .string,.d (.list (.int .u8)) s=>match P.underlying e with
  | some (.int .u8)=>bif decide ((List.length (α:=Int) s : Int) ≤ ZB) then K (.d .str s) else none
  | _=>none
 | some (.slice e),some .string,.own _ (.int .u8) s=>match P.underlying e with
  | some (.int .u8)=>bif decide ((List.length (α:=Int) s : Int) ≤ ZB) then K (.d .str s) else none
  | _=>none
 | some (.slice e),some .string,.nils=>match P.underlying e with
  | some (.int .u8)=>K (.d .str ([] : List Int))
  | _=>none
 | _,_,_=>none
def QsC (P : Program) (fs : Array Field) : List V → List (Nat × V) → Option (List V)
 | cs,[]=>some cs
 | cs,(i,v) :: rest=>match fs[i]? with
  | some f =>
   let vs:=v.cellsOf
   bif Nat.beq vs.length (P.cellsOf f.type) && (P.info? f.type).isSome && v.plain && Nat.ble (f.offset + vs.length) cs.length then QsC P fs (XL cs f.offset vs) rest else none
  | none=>none
def QsD (sz : Nat) : List V → List (Nat × V) → Option (List V)
 | cs,[]=>some cs
 | cs,(i,v) :: rest =>
  let vs:=v.cellsOf
  bif Nat.beq vs.length sz && v.plain && Nat.ble (i * sz + vs.length) cs.length then QsD sz (XL cs (i * sz) vs) rest else none
def QuM (P : Program) (t : TypeId) (parts : List (Nat × V)) (K : V → Option R) : Option R :=
 match P.underlying t,zeroCells P t with
 | some (.struct fs),some z=>bif fs.toList.all fun f=>(P.info? f.type).isSome then
   match QsC P fs z parts with
   | some cs=>K (.agg cs)
   | none=>none
  else none
 | some (.array _ e),some z=>bif (P.info? e).isSome then
   match QsD (P.cellsOf e) z parts with
   | some cs=>K (.agg cs)
   | none=>none
  else none
 | _,_=>none
def QAD (ty : Ty) : List ty.den → List (Nat × V) → Option (List ty.den)
 | xs,[]=>some xs
 | xs,(i,v) :: rest=>match Vf ty v with
  | some x=>bif Nat.blt i xs.length then QAD ty (xs.set i x) rest else none
  | none=>none
def QdI (P : Program) (st : St) (t : TypeId) (len : Nat) (parts : List (Nat × V)) (K : V → St → Option R) : Option R :=
 match GZ P t with
 | some e=>match GY P J6 e with
  | some ty=>match QqX P e ty with
   | some z =>
    bif Nat.ble (len * ty.cells) 16777216 && Nat.blt 0 ty.cells then
     match QAD ty (List.replicate len z) parts with
     | some xs=>K (.own st.nt ty xs) st.mint
     | none=>none
    else none
   | none=>none
  | none=>none
 | none=>none
def QuN (P : Program) (st : St) (t : TypeId) (len : Nat) (parts : List (Nat × V)) (K : V → St → Option R) : Option R :=
 match GZ P t with
 | some e=>match GY P J6 e with
  | some ty=>match QqX P e ty with
   | some z =>
    bif Nat.ble (len * ty.cells) 16777216 && Nat.blt 0 ty.cells then
     match QAD ty (List.replicate len z) parts with
     | some xs=>K (.raw st.nt) (st.mintR ⟨ty,xs⟩)
     | none=>none
    else none
   | none=>none
  | none=>none
 | none=>none
def QBl (P : Program) (st : St) (t : TypeId) (x : V) (K : V → Option R) : Option R :=
 match x with
 | .d .str s=>match P.underlying t with
  | some .string=>K (.d (.int .i64) (List.length (α:=Int) s : Int))
  | _=>none
 | .d (.list ty) s=>match P.underlying t with
  | some (.slice _)=>K (.d (.int .i64) (List.length (α:=ty.den) s : Int))
  | _=>none
 | .own _ _ xs=>match P.underlying t with
  | some (.slice _)=>K (.d (.int .i64) (xs.length : Int))
  | _=>none
 | .nils=>match P.underlying t with
  | some (.slice _)=>K (.d (.int .i64) (0 : Int))
  | _=>none
 | .msl d s=>match P.underlying t,st.bx d s with
  | some (.slice _),.rows _ xs=>K (.d (.int .i64) (xs.length : Int))
  | _,_=>none
 | .raw k=>match P.underlying t,st.rw k with
  | some (.slice _),some ⟨_,xs⟩=>K (.d (.int .i64) (xs.length : Int))
  | _,_=>none
 | .dr k=>match P.underlying t,st.dr k with
  | some (.slice _),some ⟨_,xs⟩=>K (.d (.int .i64) (xs.length : Int))
  | _,_=>none
 | _=>none
def QEj (x y : V) (K : V → Option R) : Option R :=
 match x,y with
 | .d (.int k) a,.d (.int k') b=>if k = k' then K (.d (.int k) (bif decide ((b : Int) < a) then b else a)) else none
 | _,_=>none
def QEk (x y : V) (K : V → Option R) : Option R :=
 match x,y with
 | .d (.int k) a,.d (.int k') b=>if k = k' then K (.d (.int k) (bif decide ((a : Int) < b) then b else a)) else none
 | _,_=>none
def QoZ (P : Program) (st : St) (t : TypeId) (s x : V) (K : V → St → Option R) : Option R :=
 match GZ P t with
 | some e=>match GY P J6 e with
  | some ty=>match QqX P e ty with
   | some _ =>
    bif Nat.beq ty.cells 0 then none else
    match Gx (.list ty) x with
    | some ys=>match s with
     | .nils=>bif decide (((ys : List ty.den).length : Int) * (P.bytesOf e : Int) ≤ ZB) && decide (((ys : List ty.den).length : Int) ≤ ZB) then K (.own st.nt ty ys) st.mint else none
     | .own tok ty' xs=>match castL? ty' ty xs with
      | some xs=>bif st.lv tok then
        (bif decide ((((xs : List ty.den).length : Int) + ((ys : List ty.den).length : Int)) * (P.bytesOf e : Int) ≤ ZB) && decide (((xs : List ty.den).length : Int) + ((ys : List ty.den).length : Int) ≤ ZB) then
         K (.own st.nt ty ((xs : List ty.den) ++ (ys : List ty.den))) ((st.spend tok).mint) else none) else none
      | none=>none
     | .raw tok=>match st.rw tok with
      | some ⟨ty',xs⟩=>match castL? ty' ty xs with
       | some xs=>bif st.lv tok then
        (bif decide ((((xs : List ty.den).length : Int) + ((ys : List ty.den).length : Int)) * (P.bytesOf e : Int) ≤ ZB) && decide (((xs : List ty.den).length : Int) + ((ys : List ty.den).length : Int) ≤ ZB) then
         K (.raw st.nt) ((st.spend tok).mintR ⟨ty,(xs : List ty.den) ++ (ys : List ty.den)⟩) else none) else none
       | none=>none
      | none=>none
     | _=>none
    | none=>none
   | none=>none
  | none=>none
 | none=>none
def QcN (P : Program) (st : St) (d : Nat) (dst : Option Nat) (t : TypeId) (l c : V) (K : V → St → Option R) : Option R :=
 match GZ P t,dst with
 | some e,some s=>match GY P J6 e with
  | some ty=>match QqX P e ty with
   | some z=>match l,c with
    | .d (.int .i64) n,.d (.int .i64) m =>
     match st.bx d s with
     | .none =>
      bif decide ((n : Int) = m) && decide ((0 : Int) ≤ n) && decide ((n : Int) * (P.bytesOf e : Int) ≤ ZB) && Nat.blt 0 ty.cells then
       K (.msl d s) (st.setB d s (.rows ty (List.replicate (Int.toNat n) z)))
      else none
     | _=>none
    | _,_=>none
   | none=>none
  | none=>none
 | _,_=>none
def Qx8 (P : Program) (t : TypeId) : Option (TypeId × TypeId × Ty × Ty) :=
 match P.underlying t with
 | some (.map kt vt)=>bif Qx6 P kt then (match GY P J6 kt,GY P J6 vt with
  | some k,some v=>some (kt,vt,k,v)
  | _,_=>none) else none
 | _=>none
def castE? (k v k' v' : Ty) (es : List (k.den × v.den)) : Option (List (k'.den × v'.den)) :=
 match Ty.eq? k k',Ty.eq? v v' with
 | some ⟨h⟩,some ⟨h'⟩=>some (h ▸ h' ▸ es)
 | _,_=>none
def QfM (st : St) (k v : Ty) (m : V) : Option (List (k.den × v.den)) :=
 match m with
 | .d (.map k' v') es=>castE? k' v' k v es
 | .mp d s=>match st.bx d s with
  | .map k' v' es=>castE? k' v' k v es
  | _=>none
 | _=>none
def QsE (P : Program) (t : TypeId) (ty : Ty) : Bool :=
 match (P.info? t).bind (·.zero) with
 | some z=>bif ty.scalar then z.oneCell' else (match z with
  | .agg _=>true
  | _=>false)
 | none=>false
def Qfs (P : Program) (st : St) (t : TypeId) (m x : V) (ok : Bool) (K : V → Option R) : Option R :=
 match Qx8 P t with
 | some (_,vt,k,v)=>match QfM st k v m,Vf k x,QqX P vt v with
  | some es,some x,some z=>bif ok || !(QsE P vt v) then none else K (Yt v (Hk k es x z))
  | _,_,_=>none
 | none=>none
def QsF (P : Program) (st : St) (d : Nat) (dst : Option Nat) (t : TypeId) (K : V → St → Option R) : Option R :=
 match Qx8 P t,dst with
 | some (_,_,k,v),some s=>match st.bx d s with
  | .none=>K (.mp d s) (st.setB d s (.map k v []))
  | _=>none
 | _,_=>none
def Qkm (P : Program) (st : St) (t : TypeId) (m x y : V) (K : JC R) : Option R :=
 match Qx8 P t with
 | some (_,_,k,v)=>match m with
  | .mp d s=>match st.bx d s with
   | .map k' v' es=>match castE? k' v' k v es,Vf k x,Vf v y with
    | some es,some x,some y=>K (st.setB d s (.map k v (QaA k es x y)))
    | _,_,_=>none
   | _=>none
  | _=>none
 | none=>none
def Qwp (ops : List Oper) (j : Nat) : Option Nat:=(ops[j]?).bind (·.dst)
def Ty.dok : Ty → Bool
 | .map _ _ | .tree _=>false
 | .pair a b=>a.dok && b.dok
 | .list t=>t.dok
 | _=>true
def V.scl : V → Bool
 | .d (.int _) _ | .d .bool _ | .d .str _=>true
 | _=>false
def V.drs : V → List Nat
 | .dr k=>[k]
 | .agg cs=>drsL cs
 | .tup cs=>drsL cs
 | _=>[]
where drsL : List V → List Nat
 | []=>[]
 | c :: cs=>c.drs ++ drsL cs
def St.res (st : St) : V → V
 | .dr k=>match st.dr k with
  | some ⟨t,xs⟩=>.d (.list t) xs
  | none=>.any
 | .agg cs=>.agg (resL st cs)
 | .tup cs=>.tup (resL st cs)
 | v=>v
where resL (st : St) : List V → List V
 | []=>[]
 | c :: cs=>st.res c :: resL st cs
def V.isD : V → Bool
 | .d _ _=>true
 | _=>false
def Yb : V → St → V × St
 | .d (.list t) xs,st=>(.dr st.nd,st.mintD ⟨t,xs⟩)
 | .d (.int k) x,st=>(.d (.int k) x,st)
 | .d .bool x,st=>(.d .bool x,st)
 | .d .str x,st=>(.d .str x,st)
 | .agg cs,st=>bif cs.all V.isD then (.agg (mintL cs st).1,(mintL cs st).2) else (.any,st)
 | .tup cs,st=>(.tup (mintL cs st).1,(mintL cs st).2)
 | _,st=>(.any,st)
where mintL : List V → St → List V × St
 | [],st=>([],st)
 | c :: cs,st=>((Yb c st).1 :: (mintL cs (Yb c st).2).1,(mintL cs (Yb c st).2).2)
def Qbg : V → V → St → Option St
 | .dr k,.d (.list t) xs,st=>match st.dr k with
  | some ⟨t',_⟩=>match Ty.eq? t' t with
   | some _=>some (st.setD k (some ⟨t,xs⟩))
   | none=>none
  | none=>none
 | .agg cs,.agg ds,st=>hotL cs ds st
 | .d _ _,v,st=>bif v.scl then some st else none
 | _,_,_=>none
where hotL : List V → List V → St → Option St
 | [],[],st=>some st
 | c :: cs,d :: ds,st=>(Qbg c d st).bind (hotL cs ds)
 | _,_,_=>none
def Qif : List Nat → Bool
 | []=>true
 | k :: l=>!(l.any (Nat.beq k)) && Qif l
def V.dpart0 : V → Bool
 | .nils=>true
 | v=>v.scl
def V.dpart (st : St) : V → Bool
 | .dr k=>(st.dr k).isSome
 | v=>v.dpart0
def St.dropD (st : St) : List Nat → St
 | []=>st
 | k :: l=>(st.setD k none).dropD l
def QBm (P : Program) (st : St) (t : TypeId) (k sz : Nat) (i : Int) (off : Nat) (v : V) (K : JC R) : Option R :=
 match st.dr k with
 | some ⟨ty,xs⟩ =>
  let vs:=v.cellsOf
  let ds:=V.drs.drsL vs
  bif Nat.beq sz ty.cells && Nat.beq off 0 && inB i xs.length && Nat.beq vs.length ty.cells && Nat.beq (P.cellsOf t) ty.cells && (P.info? t).isSome && vs.all (V.dpart st) && Qif (k :: ds) && ty.dok then
   match Vr ty (St.res.resL st vs) with
   | some e=>K ((st.dropD ds).setD k (some ⟨ty,xs.set (Int.toNat i) e⟩))
   | none=>none
  else none
 | none=>none
def QBn (P : Program) (st : St) (t : TypeId) (k sz : Nat) (i : Int) (off : Nat) (v : V) (K : JC R) : Option R :=
 match st.dr k with
 | some ⟨ty,xs⟩ =>
  let vs:=v.cellsOf
  bif Nat.beq sz ty.cells && inB i xs.length && Nat.beq vs.length (P.cellsOf t) && (P.info? t).isSome && Nat.ble (off + vs.length) ty.cells && v.plain then
   match Vr ty (XL (QA ty (rd xs i ty.dflt)) off vs) with
   | some e=>K (st.setD k (some ⟨ty,xs.set (Int.toNat i) e⟩))
   | none=>none
  else none
 | none=>none
def QDQ (st : St) (k : Nat) : Bool:=match st.dr k with
 | some ⟨ty,_⟩=>ty.keyFlat
 | none=>false
def QC5 (P : Program) (st : St) (t : TypeId) (a v : V) (K : JC R) : Option R :=
 match a with
 | .dq k sz i off=>bif QDQ st k && !(Nat.beq off 0 && Nat.beq sz v.cellsOf.length) then QBn P st t k sz i off v K else QBm P st t k sz i off v K
 | a=>QC4 P st t a v K
def QBo (P : Program) (st : St) (t : TypeId) (l c : V) (K : V → St → Option R) : Option R :=
 match GZ P t with
 | some e=>match GY P J6 e with
  | some ty=>match zeroCells P e with
   | some zc=>match Vr ty zc with
    | some z=>match l,c with
     | .d (.int .i64) n,.d (.int .i64) m =>
      bif decide ((n : Int) = m) && decide ((0 : Int) ≤ n) && decide ((n : Int) * (P.bytesOf e : Int) ≤ ZB) && Nat.blt 0 ty.cells && zc.all V.dpart0 && ty.dok then
       K (.dr st.nd) (st.mintD ⟨ty,List.replicate (Int.toNat n) z⟩)
      else none
     | _,_=>none
    | none=>none
   | none=>none
  | none=>none
 | none=>none
def Qx9 (P : Program) (st : St) (t : TypeId) (len : Nat) (parts : List (Nat × V)) (K : V → St → Option R) : Option R :=
 match GZ P t with
 | some e=>match GY P J6 e with
  | some ty=>match parts with
   | [(0,v)] =>
    let vs:=v.cellsOf
    let ds:=V.drs.drsL vs
    bif Nat.beq len 1 && Nat.beq vs.length ty.cells && Nat.blt 0 ty.cells && Nat.ble ty.cells 16777216 && vs.all (V.dpart st) && Qif ds && ty.dok && (zeroCells P e).isSome then
     match Vr ty (St.res.resL st vs) with
     | some x=>K (.dr st.nd) ((st.dropD ds).mintD ⟨ty,[x]⟩)
     | none=>none
    else none
   | _=>none
  | none=>none
 | none=>none
def QF2 (st : St) (ty : Ty) : V → Option (List Nat × List ty.den)
 | .nils=>some ([],[])
 | .dr k=>match st.dr k with
  | some ⟨ty',xs⟩=>match castL? ty' ty xs with
   | some xs=>some ([k],xs)
   | none=>none
  | none=>none
 | _=>none
def QuO (P : Program) (st : St) (t : TypeId) (a b : V) (K : V → St → Option R) : Option R :=
 match GZ P t with
 | some e=>match GY P J6 e with
  | some ty=>match QF2 st ty a,QF2 st ty b with
   | some (ks,xs),some ([k'],ys) =>
    bif Qif (k' :: ks) && Nat.blt 0 ty.cells && ty.dok && (match zeroCells P e with | some zc=>Nat.beq zc.length ty.cells | none=>false) && Nat.blt 0 ys.length && decide (((xs.length : Int) + (ys.length : Int)) * (P.bytesOf e : Int) ≤ ZB) && decide ((xs.length : Int) + (ys.length : Int) ≤ ZB) then
     K (.dr st.nd) ((st.dropD (k' :: ks)).mintD ⟨ty,xs ++ ys⟩)
    else none
   | _,_=>none
  | none=>none
 | none=>none
inductive Item where
 | keep (d t : Nat)
 | own (d t : Nat) (ty : Ty)
 | data (d t : Nat) (ty : Ty)
 | box (d s n : Nat)
 | rows (d s : Nat) (ty : Ty)
 | boxd (d s : Nat) (ty : Ty)
 | raw (d t : Nat) (ty : Ty)
 | mapb (d s : Nat) (k v : Ty)
 | ownb (d s j : Nat) (ty : Ty)
 | drb (d t : Nat) (ty : Ty)
 | drbb (d s j : Nat) (ty : Ty)
 | same (d t d0 t0 : Nat)
abbrev Ann:=List Item
def V.canon : V → V
 | .own _ t xs=>.d (.list t) xs
 | .agg cs=>.agg (canonL cs)
 | .eptr cs=>.eptr (canonL cs)
 | .fn f cs=>.fn f (canonL cs)
 | .tup cs=>.tup (canonL cs)
 | .raw _ | .qptr .. | .dr _ | .dq ..=>.any
 | v=>v
where canonL : List V → List V
 | []=>[]
 | c :: cs=>c.canon :: canonL cs
def V.kept (k : Nat → Nat → Bool) (q : Bool:=true) : V → Bool
 | .ptr dp s _ | .rptr dp s _ _ _ | .msl dp s | .mp dp s=>k dp s
 | .agg cs | .eptr cs | .fn _ cs | .tup cs=>keptL k q cs
 | .raw _ | .qptr ..=>q
 | _=>true
where keptL (k : Nat → Nat → Bool) (q : Bool) : List V → Bool
 | []=>true
 | c :: cs=>V.kept k q c && keptL k q cs
def Item.isBox (d s : Nat) : Item → Bool
 | .box d' s' _ | .rows d' s' _ | .boxd d' s' _ | .mapb d' s' _ _=>Nat.beq s' s && Nat.beq d' d
 | _=>false
def Ann.keeps : Ann → Nat → Nat → Bool
 | [],_,_=>false
 | i :: A,d,s=>i.isBox d s || Ann.keeps A d s
def Ann.growsIn (A : Ann) (d s j : Nat) : Bool:=A.any fun i=>match i with
 | .ownb d' s' j' _=>Nat.beq d' d && Nat.beq s' s && Nat.beq j' j
 | _=>false
def Qqf (A : Ann) (d s : Nat) : Nat → List V → List V
 | _,[]=>[]
 | j,c :: cs=>(bif A.growsIn d s j then .any else c) :: Qqf A d s (j + 1) cs
def St.live (A : Ann) : St → Ann → Option (List V)
 | _,[]=>some []
 | st,.keep d t :: r=>bif (st.tm d t).kept A.keeps then (St.live A st r).map ((st.tm d t).canon :: ·) else none
 | st,.own d t ty :: r=>match st.tm d t with
  | .nils=>(St.live A st r).map (.own 0 ty [] :: ·)
  | .own tok ty' xs=>match castL? ty' ty xs with
   | some xs=>bif st.lv tok then (St.live A (st.spend tok) r).map (.own 0 ty xs :: ·) else none
   | none=>none
  | _=>none
 | st,.data d t ty :: r=>match Vf ty (st.tm d t) with
  | some x=>(St.live A st r).map (Yt ty x :: ·)
  | none=>none
 | st,.box d s n :: r=>match st.bx d s with
  | .cells cs=>bif Nat.beq cs.length n && V.kept.keptL A.keeps true cs then (St.live A st r).map (.agg (Qqf A d s 0 (V.canon.canonL cs)) :: ·) else none
  | _=>none
 | st,.rows d s ty :: r=>match st.bx d s with
  | .rows ty' xs=>match castL? ty' ty xs with
   | some xs=>(St.live A st r).map (.d (.list ty) xs :: ·)
   | none=>none
  | _=>none
 | st,.boxd d s ty :: r=>match st.bx d s with
  | .cells cs=>match Vr ty cs with
   | some x=>(St.live A st r).map (.agg (QA ty x) :: ·)
   | none=>none
  | _=>none
 | st,.raw d t ty :: r=>match st.tm d t with
  | .nils=>(St.live A st r).map (.own 0 ty [] :: ·)
  | .raw tok=>match st.rw tok with
   | some ⟨ty',xs⟩=>match castL? ty' ty xs with
    | some xs=>bif st.lv tok then (St.live A (st.spend tok) r).map (.own 0 ty xs :: ·) else none
    | none=>none
   | none=>none
  | _=>none
 | st,.mapb d s k v :: r=>match st.bx d s with
  | .map k' v' es=>match castE? k' v' k v es with
   | some es=>(St.live A st r).map (.d (.map k v) es :: ·)
   | none=>none
  | _=>none
 | st,.ownb d s j ty :: r=>match st.bx d s with
  | .cells cs=>match cs[j]? with
   | some .nils=>(St.live A st r).map (.own 0 ty [] :: ·)
   | some (.own tok ty' xs)=>match castL? ty' ty xs with
    | some xs=>bif st.lv tok then (St.live A (st.spend tok) r).map (.own 0 ty xs :: ·) else none
    | none=>none
   | _=>none
  | _=>none
 | st,.drb d t ty :: r=>match st.tm d t with
  | .dr k=>match st.dr k with
   | some ⟨ty',xs⟩=>match castL? ty' ty xs with
    | some xs=>(St.live A (st.setD k none) r).map (.d (.list ty) xs :: ·)
    | none=>none
   | none=>none
  | .nils=>(St.live A st r).map (.d (.list ty) [] :: ·)
  | _=>none
 | st,.drbb d s j ty :: r=>match st.bx d s with
  | .cells cs=>match cs[j]? with
   | some .nils=>(St.live A st r).map (.d (.list ty) [] :: ·)
   | some (.dr k)=>match st.dr k with
    | some ⟨ty',xs⟩=>match castL? ty' ty xs with
     | some xs=>(St.live A (st.setD k none) r).map (.d (.list ty) xs :: ·)
     | none=>none
    | none=>none
   | _=>none
  | _=>none
 | st,.same d t d0 t0 :: r=>match st.tm d t,st.tm d0 t0 with
  | .raw k,.raw k'=>bif Nat.beq k k' && st.lv k && Nat.ble d0 d then (St.live A st r).map (.nils :: ·) else none
  | .dr k,.dr k'=>bif Nat.beq k k' && (st.dr k).isSome && Nat.ble d0 d then (St.live A st r).map (.nils :: ·) else none
  | _,_=>none
def noG : Nat → Option (List V):=fun _=>none
def St.empty : St:=⟨fun _ _=>.any,fun _ _=>.none,0,fun _=>false,fun _=>none,noG,fun _=>none,0⟩
def Q1 : Ann → List V → St
 | .keep d t :: r,v :: vs=>(Q1 r vs).set d t v
 | .own d t ty :: r,.own _ ty' xs :: vs =>
  let st:=Q1 r vs
  match castL? ty' ty xs with
  | some xs=>st.mint.set d t (.own st.nt ty xs)
  | none=>st
 | .data d t _ :: r,v :: vs=>(Q1 r vs).set d t v
 | .box d s _ :: r,.agg cs :: vs=>(Q1 r vs).setB d s (.cells cs)
 | .rows d s ty :: r,.d (.list ty') xs :: vs=>match castL? ty' ty xs with
  | some xs=>(Q1 r vs).setB d s (.rows ty xs)
  | none=>Q1 r vs
 | .boxd d s _ :: r,.agg cs :: vs=>(Q1 r vs).setB d s (.cells cs)
 | .raw d t ty :: r,.own _ ty' xs :: vs =>
  let st:=Q1 r vs
  match castL? ty' ty xs with
  | some xs=>(st.mintR ⟨ty,xs⟩).set d t (.raw st.nt)
  | none=>st
 | .mapb d s k v :: r,.d (.map k' v') es :: vs=>match castE? k' v' k v es with
  | some es=>(Q1 r vs).setB d s (.map k v es)
  | none=>Q1 r vs
 | .ownb d s j ty :: r,.own _ ty' xs :: vs =>
  let st:=Q1 r vs
  match castL? ty' ty xs with
  | some xs=>match st.bx d s with
   | .cells cs=>st.mint.setB d s (.cells (cs.set j (.own st.nt ty xs)))
   | _=>st
  | none=>st
 | .drb d t ty :: r,.d (.list ty') xs :: vs =>
  let st:=Q1 r vs
  match castL? ty' ty xs with
  | some xs=>(st.mintD ⟨ty,xs⟩).set d t (.dr st.nd)
  | none=>st
 | .drbb d s j ty :: r,.d (.list ty') xs :: vs =>
  let st:=Q1 r vs
  match castL? ty' ty xs with
  | some xs=>match st.bx d s with
   | .cells cs=>(st.mintD ⟨ty,xs⟩).setB d s (.cells (cs.set j (.dr st.nd)))
   | _=>st
  | none=>st
 | .same d t d0 t0 :: r,_ :: vs=>(Q1 r vs).set d t ((Q1 r vs).tm d0 t0)
 | _,_=>St.empty
abbrev QcO (R : Type):=List (List Nat × JC R)
structure Ctx (R : Type) where
 P : Program
 L : List Nat → List V → Option R
 A : List (List Nat × Ann)
 I : List (List Nat × Nat)
 con : Nat → List V → (V → Option R) → Option R
 inl : Nat → List Nat → Nat → List V → (V → JC R) → JC R
 lab : Nat → List Nat → Nat → (V → JC R) → QcO R
def QqZ : List Nat → List Nat → Bool
 | [],[]=>true
 | a :: x,b :: y=>Nat.beq a b && QqZ x y
 | _,_=>false
def Vt {α : Type} : List (List Nat × α) → List Nat → Option α
 | [],_=>none
 | (p,a) :: r,q=>bif QqZ p q then some a else Vt r q
def Ctx.jump (C : Ctx R) (path : List Nat) (st : St) : Option R :=
 match Vt C.A path with
 | some A=>match St.live A st A with
  | some vs=>C.L path vs
  | none=>none
 | none=>none
def QuP : Operand → Option Nat
 | .global g=>some g
 | _=>none
def Zh : Nat:=1000000
def QF3 (d : Nat) (dst : Option Nat) (st : St) (K : JC R) (v : V) : Option R :=
 match v with
 | .d (.list t) xs=>K (st.mint.put d dst (.own st.nt t xs))
 | _=>none
def ZP : Nat:=2000000
def QGR (d : Nat) (dst : Option Nat) (st : St) (K : JC R) (v : V) : Option R :=
 K ((Yb v st).2.put d dst (Yb v st).1)
def Xk : Nat:=3000000
def QGS (d : Nat) (dst : Option Nat) (st : St) (a : V) (K : JC R) (v : V) : Option R :=
 match v with
 | .tup [.d (.int .i64) k,b]=>(Qbg a b st).bind fun st'=>K (st'.put d dst (.d (.int .i64) k))
 | _=>none
def Q6 : Nat:=4000000
def QGs (d : Nat) (dst : Option Nat) (st : St) (t : Ty) (K : JC R) (v : V) : Option R :=
 match v with
 | .d (.list t') ys=>match castL? t' t ys with
  | some ys=>K (st.mint.put d dst (.own st.nt t ys))
  | none=>none
 | _=>none
def QE0 (con : Nat → List V → (V → Option R) → Option R) (st : St) (g' i : Nat) (args : List V) (d : Nat) (dst : Option Nat) (K : JC R) : Option R :=
 match args[i]? with
 | some (.own tok t xs)=>bif st.lv tok then con g' (args.set i (.d (.list t) xs)) (QGs d dst (st.spend tok) t K) else none
 | some .nils=>con g' args (QF3 d dst st K)
 | _=>none
def Yp : Nat:=100000000
def QcP : List V → Option (List (Nat × Nat))
 | []=>some []
 | .ptr d s off :: r=>bif Nat.beq off 0 then (QcP r).map ((d,s) :: ·) else none
 | _=>none
def Qq0 : List (Nat × Nat) → List (Nat × Nat) → Bool
 | [],[]=>true
 | a :: x,b :: y=>Nat.beq a.1 b.1 && Nat.beq a.2 b.2 && Qq0 x y
 | _,_=>false
def QF4 (p : Nat × Nat) : List (Nat × Nat) → Bool
 | []=>false
 | q :: l=>Nat.beq p.1 q.1 && Nat.beq p.2 q.2 || QF4 p l
def QBp : List (Nat × Nat) → Bool
 | []=>true
 | p :: l=>!(QF4 p l) && QBp l
def QCc (st : St) (g : Nat) (ps : List (Nat × Nat)) (p : Nat × Nat) : Option V:=match st.bx p.1 p.2 with
 | .cells [.own tok t xs]=>bif st.lv tok then some (.d (.list t) xs) else none
 | .cells [.nils]=>some .nils
 | .cells [.fn g' caps]=>match QcP caps with
  | some ps'=>bif Nat.beq g' g && Qq0 ps' ps then some (.d .bool true) else none
  | none=>none
 | .cells cs=>some (.agg cs)
 | _=>none
def QCd (st : St) (g : Nat) (ps : List (Nat × Nat)) : List (Nat × Nat) → Option (List V)
 | []=>some []
 | p :: r=>match QCc st g ps p,QCd st g ps r with
  | some v,some vs=>some (v :: vs)
  | _,_=>none
def Qe4 (st : St) : List (Nat × Nat) → List (Option Nat)
 | []=>[]
 | p :: r=>match st.bx p.1 p.2 with
  | .cells [.own tok _ _]=>some tok :: Qe4 st r
  | .cells [.nils]=>none :: Qe4 st r
  | _=>Qe4 st r
def QF5 (nt : Nat) (v : V) (old : Box) : Box:=match v with
 | .agg cs=>.cells cs
 | .d (.list t) ys=>.cells [.own nt t ys]
 | _=>old
def QsG (nt : Nat) : List (Nat × Nat) → List V → (Nat → Nat → Box) → Nat → Nat → Box
 | p :: ps,v :: vs,bx=>Qx5 (QsG nt ps vs bx) p.1 p.2 (QF5 nt v (bx p.1 p.2))
 | _,_,bx=>bx
def QBq : Nat → List V → Bool
 | n,[]=>Nat.beq n 1
 | n,.agg _ :: r=>QBq n r
 | n,.d (.list _) _ :: r=>QBq (n + 1) r
 | n,.d .bool _ :: r=>QBq n r
 | _,_=>false
def V.self? : V → Bool
 | .d .bool _=>true
 | _=>false
def QxS : List V → List V → Bool
 | [],[]=>true
 | c :: r,v :: q=>(c.self? == v.self?) && QxS r q
 | _,_=>false
def St.after (st : St) : Option Nat → St
 | some k=>(st.spend k).mint
 | none=>st.mint
def QE1 (con : Nat → List V → (V → Option R) → Option R) (st : St) (g' g : Nat) (args caps : List V) (d : Nat) (dst : Option Nat) (K : JC R) : Option R :=
 match QcP caps with
 | some ps=>bif QBp ps then (match QCd st g ps ps,Qe4 st ps with
  | some cs,[x]=>con g' (args ++ cs) fun v=>match v with
   | .tup (r :: outs)=>bif r.scl && Nat.beq outs.length ps.length && QBq 0 outs && QxS cs outs then K (({ st.after x with bx:=QsG st.nt ps outs st.bx }).put d dst r) else none
   | _=>none
  | _,_=>none) else none
 | none=>none
def Vo : Nat:=200000000
def QGA (con : Nat → List V → (V → Option R) → Option R) (st : St) (g' : Nat) (args : List V) (d : Nat) (dst : Option Nat) (K : JC R) : Option R :=
 match args with
 | .raw tok :: rest=>match st.rw tok with
  | some ⟨t,xs⟩=>bif st.lv tok then con g' (.d (.list t) xs :: rest) (fun v=>match v with
   | .d (.list t') ys=>match castL? t' t ys with
    | some ys=>K (((st.spend tok).mintR ⟨t,ys⟩).put d dst (.raw st.nt))
    | none=>none
   | _=>none) else none
  | none=>none
 | _=>none
def V.dok1 : V → Bool
 | .d t _=>t.dok
 | _=>false
def V.dokV : V → Bool
 | .agg cs=>cs.all V.dok1
 | v=>v.dok1
def V.hotOk (st : St) (a : V) : Bool:=(st.res a).dokV && Qif a.drs && a.drs.all (fun k=>(st.dr k).isSome) && match a with
 | .dr _=>true
 | .agg cs=>cs.all (V.dpart st)
 | _=>false
def QE2 (con : Nat → List V → (V → Option R) → Option R) (st : St) (g : Nat) (args : List V) (K : V → Option R) : Option R :=
 match V.drs.drsL args with
 | []=>con g args K
 | _=>con g (St.res.resL st args) fun v=>bif v.scl then K v else none
def Qm1 : Operand → Bool
 | .const (.map none)=>true
 | _=>false
def Qo0 (P : Program) (t : TypeId) : V:=match GY P J6 t with
 | some (.map k v)=>.d (.map k v) []
 | _=>.any
def JL (C : Ctx R) (d : Nat) (path : List Nat) (here : Nat) (o : Oper) (st : St) (K : JC R) : Option R :=
 let out (v : V) : Option R:=K (st.put d o.dst v)
 match o.op with
 | .move x=>out (st.ev d x)
 | .assign x=>out (bif Qm1 x then Qo0 C.P o.type else st.ev d x)
 | .pick c a b=>match st.ev d c with
  | .d .bool t=>bif t then out (st.ev d a) else out (st.ev d b)
  | _=>none
 | .binOp op t x y _=>bif Qwo y then QGz C.P op t (st.ev d x) out else QsB C.P op t (st.ev d x) (st.ev d y) out
 | .unOp op _ x=>unC op (st.ev d x) out
 | .load t a=>match QuP a with
  | some g=>(match st.gl g with
   | some cs=>QaB C.P t cs 0 out
   | none=>none)
  | none=>Qhm C.P st t (st.ev d a) out
 | .store t a x=>QC5 C.P st t (st.ev d a) (st.ev d x) fun st=>K (st.put d o.dst .any)
 | .alloc e=>match o.dst,zeroCells C.P e with
  | some s,some z=>match st.bx d s with
   | .none=>K ((st.setB d s (.cells z)).set d s (.ptr d s 0))
   | _=>none
  | _,_=>none
 | .box _ x=>match o.dst with
  | some s=>match st.bx d s with
   | .none=>bif (st.ev d x).plain then K ((st.setB d s (.cells (st.ev d x).cellsOf)).set d s (.ptr d s 0)) else none
   | _=>none
  | none=>none
 | .nilCheck x=>match st.ev d x with
  | .ptr a b c=>out (.ptr a b c)
  | .eptr cs=>out (.eptr cs)
  | .rptr a b c e f=>out (.rptr a b c e f)
  | _=>none
 | .fieldAddr t x f=>QaC C.P t (st.ev d x) f out
 | .field t x f=>QuJ C.P t (st.ev d x) f out
 | .indexAddr t x i=>HU C.P st t (st.ev d x) (st.ev d i) out
 | .index t x i=>QuK C.P t (st.ev d x) (st.ev d i) out
 | .slice t x lo hi none=>QuL C.P t (st.ev d x) (lo.map (st.ev d)) (hi.map (st.ev d)) out
 | .slice t x lo hi (some m)=>QoY C.P t (st.ev d x) (lo.map (st.ev d)) (hi.map (st.ev d)) (some (st.ev d m)) out
 | .convert s t x=>Qx7 C.P s t (st.ev d x) out
 | .extract x i=>match st.ev d x with
  | .tup vs=>match vs[i]? with
   | some v=>out v
   | none=>none
  | _=>none
 | .build t ps=>QuM C.P t (ps.toList.map fun p=>(p.1,st.ev d p.2)) out
 | .buildSlice t n ps=>match Vt C.I (here :: path) with
  | some 0=>Qx9 C.P st t n (ps.toList.map fun p=>(p.1,st.ev d p.2)) fun v st=>K (st.put d o.dst v)
  | some _=>QuN C.P st t n (ps.toList.map fun p=>(p.1,st.ev d p.2)) fun v st=>K (st.put d o.dst v)
  | none=>QdI C.P st t n (ps.toList.map fun p=>(p.1,st.ev d p.2)) fun v st=>K (st.put d o.dst v)
 | .makeSlice t l c=>match Vt C.I (here :: path) with
  | some _=>QBo C.P st t (st.ev d l) (st.ev d c) fun v st=>K (st.put d o.dst v)
  | none=>QcN C.P st d o.dst t (st.ev d l) (st.ev d c) fun v st=>K (st.put d o.dst v)
 | .lookup t x i ok=>Qfs C.P st t (st.ev d x) (st.ev d i) ok out
 | .makeMap t none=>QsF C.P st d o.dst t fun v st=>K (st.put d o.dst v)
 | .mapUpdate t m k x=>Qkm C.P st t (st.ev d m) (st.ev d k) (st.ev d x) fun st=>K (st.put d o.dst .any)
 | .insert t m k x=>Qkm C.P st t (st.ev d m) (st.ev d k) (st.ev d x) fun st=>K (st.put d o.dst .any)
 | .makeFunc (.func f) first caps=>match first.toList with
  | []=>out (.fn f (caps.toList.map (st.ev d)))
  | _=>none
 | .call { callee:=.builtin .len,args,argTypes }=>match args.toList,argTypes.toList with
  | [x],[t]=>QBl C.P st t (st.ev d x) out
  | _,_=>none
 | .call { callee:=.builtin .min,args,.. }=>match args.toList with
  | [x,y]=>QEj (st.ev d x) (st.ev d y) out
  | _=>none
 | .call { callee:=.builtin .max,args,.. }=>match args.toList with
  | [x,y]=>QEk (st.ev d x) (st.ev d y) out
  | _=>none
 | .call { callee:=.builtin .append,args,argTypes }=>match args.toList,argTypes.toList with
  | [s,x],[t,t']=>bif Nat.beq t t' then (match Vt C.I (here :: path) with
   | some _=>QuO C.P st t (st.ev d s) (st.ev d x) fun v st=>K (st.put d o.dst v)
   | none=>QoZ C.P st t (st.ev d s) (st.ev d x) fun v st=>K (st.put d o.dst v)) else none
  | _,_=>none
 | .call { callee:=.value f,args,.. }=>match st.ev d f with
  | .fn g caps=>match Vt C.I (here :: path) with
   | some g'=>bif Nat.beq g g' then C.inl d (here :: path) g (args.toList.map (st.ev d) ++ caps) (fun v st=>K (st.put d o.dst v)) st else
    bif Nat.blt g Zh then
     bif Nat.beq (g + Zh) g' then C.con g' (args.toList.map (st.ev d) ++ caps) (QF3 d o.dst st K) else
     bif Nat.beq (g + ZP) g' then C.con g' (St.res.resL st (args.toList.map (st.ev d) ++ caps)) (QGR d o.dst st K) else
     bif Nat.beq (g + Xk) g' then (match args.toList.map (st.ev d) ++ caps with
      | [a,.d (.int .i64) k]=>bif V.hotOk st a then C.con g' [st.res a,.d (.int .i64) k] (QGS d o.dst st a K) else none
      | _=>none) else
     bif Nat.ble Q6 g' && Nat.beq ((g' - Q6) / 64) g then QE0 C.con st g' ((g' - Q6) % 64) (args.toList.map (st.ev d) ++ caps) d o.dst K else
     bif Nat.ble Yp g' && Nat.beq (g' - Yp) g then QE1 C.con st g' g (args.toList.map (st.ev d)) caps d o.dst K else
     bif Nat.ble Vo g' && Nat.beq (g' - Vo) g then QGA C.con st g' (args.toList.map (st.ev d) ++ caps) d o.dst K else none
    else none
   | none=>bif Nat.blt g Zh then QE2 C.con st g (args.toList.map (st.ev d) ++ caps) out else none
  | _=>none
 | _=>none
def Qhn (nn : Nat) (o : Oper) : Bool :=
 match o.dst with
 | some t=>Nat.blt t nn
 | none=>true
def Qg1 (C : Ctx R) (d nn : Nat) (path : List Nat) (all : List Oper) : Nat → List Oper → JC R → JC R
  | _, [], K, st => K st
  | here, o :: rest, K, st =>
    bif Qhn nn o then
      match o.guard with
      | none => JL C d path here o st (Qg1 C d nn path all (here + 1) rest K)
      | some (j, want) =>
        match Qwp all j with
        | none => none
        | some t => match st.tm d t with
          | .d .bool b =>
            bif b then
              (match want with
               | true => JL C d path here o (st.set d t (.d .bool true)) (Qg1 C d nn path all (here + 1) rest K)
               | false => Qg1 C d nn path all (here + 1) rest K ((st.set d t (.d .bool true)).put d o.dst .un))
            else
              (match want with
               | true => Qg1 C d nn path all (here + 1) rest K ((st.set d t (.d .bool false)).put d o.dst .un)
               | false => JL C d path here o (st.set d t (.d .bool false)) (Qg1 C d nn path all (here + 1) rest K))
          | .un => Qg1 C d nn path all (here + 1) rest K (st.put d o.dst .un)
          | _ => none
    else none
def QzX (C : Ctx R) (d nn : Nat) (path : List Nat) (all : List Oper) : Nat → List Oper → JC R → QcO R
 | _,[],_=>[]
 | here,o :: rest,K =>
  (match Vt C.I (here :: path) with
   | some g=>C.lab d (here :: path) g (fun v st=>Qg1 C d nn path all (here + 1) rest K (st.put d o.dst v))
   | none=>[]) ++ QzX C d nn path all (here + 1) rest K
inductive Ex where | normal | exit (i : Nat) | ret
abbrev Qbh (R : Type):=Ex → St → Option R
def QdJ : Code → Nat
 | .region id _ _=>id
 | .seq a _=>QdJ a
 | .cond _ a _=>QdJ a
 | .block _ b=>QdJ b
 | .loop b=>QdJ b
 | .scope b=>QdJ b
 | _=>0
def QBr (nx : JC R) (K : Qbh R) : Qbh R
 | .normal,st=>nx st
 | e,st=>K e st
def QE3 (id : Nat) (K : Qbh R) : Qbh R
 | .exit i,st=>bif Nat.beq i id then K .normal st else K (.exit i) st
 | e,st=>K e st
def Ctx.cutAt (C : Ctx R) (path : List Nat) (b : Code) : Bool:=(Vt C.A (1 :: QdJ b :: path)).isSome
def Vp (P : Program) (o : Oper) : Bool :=
 match o.op with
 | .binOp _ _ _ y _=>!(Qwo y)
 | .load _ a=>(QuP a).isNone
 | .move _ | .assign _ | .pick .. | .unOp .. | .nilCheck _ | .fieldAddr .. | .field .. | .indexAddr .. | .index .. | .slice .. | .extract .. | .build .. | .makeFunc .. | .lookup ..=>true
 | .convert s t _=>match P.underlying s,P.underlying t with
  | some .string,some (.slice _)=>false
  | _,_=>true
 | .call { callee:=.builtin .len,.. } | .call { callee:=.builtin .min,.. } | .call { callee:=.builtin .max,.. }=>true
 | _=>false
def EN (o : Oper) : Bool :=
 match o.op with
 | .call { callee:=.value _,.. }=>true
 | _=>false
def Y1 : Operand → List Nat
 | .tmp t=>[t]
 | _=>[]
def HV (o : Oper) : List Nat :=
 match o.op with
 | .move x | .assign x=>Y1 x
 | .pick c a b=>Y1 c ++ Y1 a ++ Y1 b
 | .binOp _ _ x y _=>Y1 x ++ Y1 y
 | .unOp _ _ x=>Y1 x
 | .load _ a=>Y1 a
 | .nilCheck x=>Y1 x
 | .fieldAddr _ x _=>Y1 x
 | .field _ x _=>Y1 x
 | .indexAddr _ x i=>Y1 x ++ Y1 i
 | .index _ x i=>Y1 x ++ Y1 i
 | .lookup _ x i _=>Y1 x ++ Y1 i
 | .mapUpdate _ m k x | .insert _ m k x=>Y1 m ++ Y1 k ++ Y1 x
 | .slice _ x lo hi mx=>Y1 x ++ (lo.toList.flatMap Y1) ++ (hi.toList.flatMap Y1) ++ (mx.toList.flatMap Y1)
 | .convert _ _ x=>Y1 x
 | .extract x _=>Y1 x
 | .build _ ps=>ps.toList.flatMap fun p=>Y1 p.2
 | .box _ x=>Y1 x
 | .buildSlice _ _ ps=>ps.toList.flatMap fun p=>Y1 p.2
 | .makeSlice _ l c=>Y1 l ++ Y1 c
 | .makeFunc _ _ caps=>caps.toList.flatMap Y1
 | .call { callee:=.value f,args,.. }=>Y1 f ++ args.toList.flatMap Y1
 | .call { args,.. }=>args.toList.flatMap Y1
 | _=>[]
def Qft (o : Oper) : Bool :=
 match o.op with
 | .alloc _ | .box .. | .buildSlice .. | .makeSlice .. | .convert ..=>true
 | .call { callee:=.builtin .append,.. }=>true
 | _=>false
def QAE (o : Oper) : Bool :=
 match o.op with
 | .alloc _ | .box .. | .makeSlice ..=>true
 | _=>false
def Qkn (o : Oper) : Bool :=
 match o.op with
 | .buildSlice ..=>true
 | .call { callee:=.builtin .append,.. }=>true
 | _=>false
inductive Eff where
 | val (v : V)
 | boxed (v : V) (b : Box)
 | grown (k : Option Nat) (v : V)
 | deep (v : V) (dr : Nat → Option RBox) (nd : Nat)
def Eff.app (e : Eff) (d : Nat) (dst : Option Nat) (st : St) : St :=
 match e with
 | .val v=>st.put d dst v
 | .boxed v b=>match dst with
  | some t=>(st.setB d t b).set d t v
  | none=>st
 | .grown k v=>(match k with
  | some k=>(st.spend k).mint
  | none=>st.mint).put d dst v
 | .deep v dr nd=>({ st with dr:=dr,nd:=nd } : St).put d dst v
def Qo1 (o : Oper) : List Nat:=(o.after.toList.filter (Region.binds .any)).map (·.on)
def J7 (ops : Array Oper) (i : Nat) : List Nat :=
 match ops[i]? with
 | some o=>Qo1 o
 | none=>[]
def Gh (ops : Array Oper) (i : Nat) : Option Nat:=(ops[i]?).bind (·.dst)
def WC (i : Nat) : List Nat → Bool
 | []=>false
 | j :: l=>Nat.beq i j || WC i l
def Qds (ops : Array Oper) (i : Nat) : List Nat :=
 match ops[i]? with
 | some o=>HV o ++ (match o.guard with
  | some (j,_)=>(Qwp ops.toList j).toList
  | none=>[])
 | none=>[]
def Qq1 (ops : Array Oper) (listed : Array Bool) : List Nat:=(List.range ops.size).filter fun i=>!listed.getD i true
def Vs (I : List (List Nat × Nat)) (path : List Nat) (id : Nat) (ops : Array Oper) (i : Nat) : Bool :=
 match ops[i]? with
 | some o=>(match o.op with
  | .call { callee:=.value (.func g),.. }=>Nat.blt g Zh && (match Vt I ((1000 * id + i) :: path) with
   | some g'=>Nat.beq (g + ZP) g'
   | none=>false)
  | _=>false)
 | none=>false
def QBs (o : Oper) : Bool :=
 match o.op with
 | .indexAddr .. | .load ..=>true
 | .call { callee:=.builtin .len,.. }=>true
 | _=>false
def QfS (ops : Array Oper) (i : Nat) : Bool :=
 match ops[i]? with
 | some o=>QBs o || EN o
 | none=>true
def Qho (P : Program) (I : List (List Nat × Nat)) (path : List Nat) (id : Nat) (ops : Array Oper) (i : Nat) : Bool :=
 (match ops[i]? with
 | some o=>Vp P o || ((Qft o || EN o) && (Vt I ((1000 * id + i) :: path)).isNone)
 | none=>false) || Vs I path id ops i
def QCe (ops : Array Oper) (left : List Nat) : Nat → List Nat → List Nat
 | 0,acc=>acc
 | n + 1,acc=>QCe ops left n (left.filter fun i=>WC i acc || acc.any fun k=>WC i (J7 ops k))
def Qig (ops : Array Oper) (listed : Array Bool) : List Nat → List Nat → Bool
 | _,[]=>true
 | Z7,i :: r=>!WC i Z7 && ((J7 ops i).all fun p=>listed.getD p false || WC p Z7) && Qig ops listed (i :: Z7) r
def QxT (ops : Array Oper) (k : Nat) : List Nat → Bool
 | []=>true
 | i :: r=>(WC i (J7 ops k) || r.any fun j=>WC i (J7 ops j)) && QxT ops k r
def ZL (ops : Array Oper) (i : Nat) : Bool :=
 match ops[i]? with
 | some o=>Qkn o
 | none=>false
def QCf (ops : Array Oper) (i : Nat) : Bool :=
 match ops[i]? with
 | some o=>QAE o
 | none=>false
def QsH (ops : Array Oper) (S : List Nat) : List Nat:=(S.filter (QCf ops)).filterMap (Gh ops)
def QBt (ops : Array Oper) (i j : Nat) : Bool :=
 match Gh ops j with
 | some t=>(match Gh ops i with
  | some t'=>!Nat.beq t t'
  | none=>true) && (!WC t (Qds ops i) || WC j (J7 ops i))
 | none=>true
def QE4 (ops : Array Oper) (i : Nat) : Bool :=
 match Gh ops i with
 | some t=>!WC t (Qds ops i)
 | none=>true
def QfT (o : Oper) : Bool :=
 match o.op with
 | .binOp _ _ _ y _=>!(Qwo y)
 | .move _ | .assign _ | .pick .. | .extract .. | .unOp .. | .fieldAddr ..=>true
 | _=>false
def Qq2 (ops : Array Oper) (listed : Array Bool) (i : Nat) : Bool :=
 (match ops[i]? with
  | some o=>QfT o
  | none=>false) && match ops[i]? with
  | some oi=>(List.range ops.size).all fun j=>Nat.beq j i || listed.getD j true || WC j (Qo1 oi) || match ops[j]? with
   | some oj=>WC i (Qo1 oj) || oi.apart ops oj
   | none=>true
  | none=>false
def QEl (ops : Array Oper) (listed : Array Bool) (left acc : List Nat) : List Nat :=
 left.foldl (fun acc i=>bif WC i acc then acc else bif Qq2 ops listed i && (J7 ops i).all (fun p=>listed.getD p false || WC p acc) then i :: acc else acc) acc
def QfN (ops : Array Oper) (listed : Array Bool) (left : List Nat) (h : Nat) : List Nat :=
 let S:=QEl ops listed left ((QCe ops left left.length [h]).filter fun i=>!Nat.beq i h)
 left.filter fun i=>WC i S
def Qq3 (ops : Array Oper) : List Nat → Bool
 | []=>true
 | i :: r=>(match r with
  | []=>true
  | j :: _=>WC i (J7 ops j)) && Qq3 ops r
def QxU (I : List (List Nat × Nat)) (path : List Nat) (id : Nat) (ops : Array Oper) (S : List Nat) : Bool :=
 match S.filter (Vs I path id ops) with
 | []=>true
 | [i]=>S.all fun j=>Nat.beq j i || !QfS ops j || WC j (QCe ops S S.length [i]) || WC i (QCe ops S S.length [j])
 | _=>false
def QGT (ops : Array Oper) (S : List Nat) (i : Nat) : Bool :=
 (match ops[i]? with
  | some o=>(match o.op with
   | .assign _=>true
   | _=>false)
  | none=>false) && S.any fun j=>!Nat.beq i j && !QBt ops j i
def Qm2 (P : Program) (I : List (List Nat × Nat)) (path : List Nat) (id : Nat) (ops : Array Oper) (listed : Array Bool) : List Nat :=
 let left:=Qq1 ops listed
 let S:=match left.find? fun i=>!Qho P I path id ops i with
  | none=>left
  | some h=>QfN ops listed left h
 let S:=match S.filter fun i=>ZL ops i with
  | _ :: h :: _=>bif Qq3 ops (S.filter fun i=>ZL ops i) then S else QfN ops listed left h
  | _=>S
 let S:=match S.filter (Vs I path id ops) with
 | []=>S
 | [i]=>bif QxU I path id ops S then S else QfN ops listed left i
 | i :: j :: _ =>
  let S:=QfN ops listed left j
  bif QxU I path id ops S && WC i S then S else QfN ops listed left i
 match S.find? (QGT ops S) with
 | none=>S
 | some i=>(QfN ops listed left i).filter fun k=>!Nat.beq k i
def QE5 (ops : Array Oper) (listed : Array Bool) (S : List Nat) : Nat → List Nat → List Nat
 | 0,acc=>acc
 | n + 1,acc=>QE5 ops listed S n (S.filter fun i=>WC i acc || acc.any (fun k=>WC i (J7 ops k)) || (Qq2 ops listed i && (J7 ops i).all fun p=>listed.getD p false || WC p acc))
def QC6 (ops : Array Oper) (listed : Array Bool) (S : List Nat) (k : Nat) : Bool :=
 let acc:=QE5 ops listed S S.length (S.filter fun i=>WC i (J7 ops k))
 S.all fun i=>WC i acc
def QiY (P : Program) (I : List (List Nat × Nat)) (path : List Nat) (id : Nat) (ops : Array Oper) (listed : Array Bool) (S : List Nat) : Bool :=
 !S.isEmpty && Nat.beq listed.size ops.size && Qq3 ops (S.filter (ZL ops)) && QxU I path id ops S && (S.all fun i=>Qho P I path id ops i && !listed.getD i true && QE4 ops i && S.all fun j=>Nat.beq i j || QBt ops i j) &&
 Qig ops listed [] S && ((Qq1 ops listed).all fun k=>WC k S || !((J7 ops k).all fun p=>listed.getD p false || WC p S) || QxT ops k S || QC6 ops listed S k)
def QE6 (P : Program) (ops : Array Oper) : Bool:=P.follows .mixedOrders && Region.noSelect ops
def QGB (d : Nat) (slots : List Nat) (q : Bool) (o : Oper) (st : St) : Bool :=
 (HV o).all fun t=>V.kept (fun x y=>!(Nat.beq x d && WC y slots)) q (st.tm d t)
def QF6 (C : Ctx R) (d nn : Nat) (path : List Nat) (id : Nat) (ops : Array Oper) (slots : List Nat) (q : Bool) : List Nat → JC R → JC R
 | [],K,st=>K st
 | i :: S,K,st=>match ops[i]? with
  | some o=>bif QGB d slots q o st then Qg1 C d nn path ops.toList (1000 * id + i) [o] (QF6 C d nn path id ops slots q S K) st else none
  | none=>none
def QBu (C : Ctx R) (d nn : Nat) (path : List Nat) (id : Nat) (ops : Array Oper) : Nat → Array Bool → JC R → JC R
 | 0,listed,K,st=>bif (Region.ready .any ops listed).isEmpty then K st else none
 | n + 1,listed,K,st =>
  bif (Region.ready .any ops listed).isEmpty then K st else
  let S:=Qm2 C.P C.I path id ops listed
  bif QiY C.P C.I path id ops listed S then
   QF6 C d nn path id ops (QsH ops S) (!(S.any (ZL ops))) S (QBu C d nn path id ops n (S.foldl (fun l i=>l.setIfInBounds i true) listed) K) st
  else match Region.ready .any ops listed with
   | [i]=>match ops[i]? with
    | some o=>Qg1 C d nn path ops.toList (1000 * id + i) [o] (QBu C d nn path id ops n (listed.setIfInBounds i true) K) st
    | none=>none
   | _=>none
def QBv (C : Ctx R) (d nn : Nat) (path : List Nat) (id : Nat) (ops : Array Oper) : Nat → Array Bool → JC R → QcO R
 | 0,_,_=>[]
 | n + 1,listed,K =>
  bif (Region.ready .any ops listed).isEmpty then [] else
  let S:=Qm2 C.P C.I path id ops listed
  bif QiY C.P C.I path id ops listed S then QBv C d nn path id ops n (S.foldl (fun l i=>l.setIfInBounds i true) listed) K
  else match Region.ready .any ops listed with
   | [i]=>match ops[i]? with
    | some o=>QzX C d nn path ops.toList (1000 * id + i) [o] (QBu C d nn path id ops n (listed.setIfInBounds i true) K) ++ QBv C d nn path id ops n (listed.setIfInBounds i true) K
    | none=>[]
   | _=>[]
def G5 (C : Ctx R) (d nn : Nat) (path : List Nat) : Code → Qbh R → JC R
 | .skip,K=>K .normal
 | .region id ops false,K=>Qg1 C d nn path ops.toList (1000 * id) ops.toList (K .normal)
 | .region id ops true,K=>fun st=>bif QE6 C.P ops then QBu C d nn path id ops ops.size (Array.replicate ops.size false) (K .normal) st else none
 | .seq a b,K=>G5 C d nn path a (QBr (bif C.cutAt path b then C.jump (1 :: QdJ b :: path) else G5 C d nn path b K) K)
 | .cond c a b,K=>fun st=>match st.ev d c with
  | .d .bool t=>bif t then G5 C d nn path a K st else G5 C d nn path b K st
  | _=>none
 | .block id b,K=>G5 C d nn path b (QE3 id K)
 | .loop b,_=>C.jump (0 :: QdJ b :: path)
 | .exit id,K=>K (.exit id)
 | .scope b,K=>G5 C d nn path b K
 | .ret,K=>K .ret
 | _,_=>fun _=>none
def YT (C : Ctx R) (d nn : Nat) (path : List Nat) : Code → Qbh R → QcO R
 | .region id ops false,K=>QzX C d nn path ops.toList (1000 * id) ops.toList (K .normal)
 | .region id ops true,K=>QBv C d nn path id ops ops.size (Array.replicate ops.size false) (K .normal)
 | .seq a b,K =>
  (bif C.cutAt path b then [(1 :: QdJ b :: path,G5 C d nn path b K)] else []) ++
   (YT C d nn path a (QBr (bif C.cutAt path b then C.jump (1 :: QdJ b :: path) else G5 C d nn path b K) K) ++ YT C d nn path b K)
 | .cond _ a b,K=>YT C d nn path a K ++ YT C d nn path b K
 | .block id b,K=>YT C d nn path b (QE3 id K)
 | .scope b,K=>YT C d nn path b K
 | .loop b,K =>
  (0 :: QdJ b :: path,G5 C d nn path b (QBr (C.jump (0 :: QdJ b :: path)) K)) :: YT C d nn path b (QBr (C.jump (0 :: QdJ b :: path)) K)
 | _,_=>[]
def QF7 (d : Nat) (st : St) (v : V) : Option V :=
 match v with
 | .msl d' s=>bif Nat.beq d' d then (match st.bx d' s with
  | .rows ty xs=>some (.d (.list ty) xs)
  | _=>none) else none
 | .mp d' s=>bif Nat.beq d' d then (match st.bx d' s with
  | .map k v es=>some (.d (.map k v) es)
  | _=>none) else none
 | .raw k=>bif Nat.beq d 0 then (match st.rw k with
  | some ⟨ty,xs⟩=>some (.d (.list ty) xs)
  | none=>none) else some (.raw k)
 | v=>some v
def QC7 (P : Program) (d : Nat) (st : St) : ResultVar → Option V
 | .tmp t=>QF7 d st (st.tm d t)
 | .cell a t=>Qhm P st t (st.tm d a) (QF7 d st)
def Qya (P : Program) (d : Nat) (st : St) : List ResultVar → Option (List V)
 | []=>some []
 | x :: r=>match QC7 P d st x,Qya P d st r with
  | some v,some vs=>some (v :: vs)
  | _,_=>none
def QF8 (P : Program) (fn : Func) (d : Nat) (st : St) : Option V :=
 match Qya P d st fn.results.toList with
 | some [v]=>some v
 | some vs=>some (.tup vs)
 | none=>none
def Qyb (P : Program) (fn : Func) (d : Nat) (K : V → JC R) : Qbh R
 | .normal,st | .ret,st=>match QF8 P fn d st with
  | some v=>K v st
  | none=>none
 | _,_=>none
def Qko (d : Nat) : Nat → List V → (Nat → Nat → V) → Nat → Nat → V
 | _,[],tm=>tm
 | i,v :: vs,tm=>upd (Qko d (i + 1) vs tm) d i v
def Qyc (d : Nat) (tm : Nat → Nat → V) : Nat → Nat → V:=fun x y=>bif Nat.beq x d then .any else tm x y
def Qyd (d : Nat) (bx : Nat → Nat → Box) : Nat → Nat → Box:=fun x y=>bif Nat.beq x d then .none else bx x y
def Xl (st : St) (d : Nat) (args : List V) : St :=
 { st with tm:=Qko d 0 args (Qyc d st.tm),bx:=Qyd d st.bx }
def QuQ (d : Nat) (K : V → JC R) (v : V) (st : St) : Option R :=
 bif v.le d then K v { st with tm:=Qyc (d + 1) st.tm,bx:=Qyd (d + 1) st.bx } else none
def Vq (P : Program) (g : Nat) : Bool :=
 match P.funcs[g]? with
 | some fn => fn.body.isSome && !(fn.name == "runtime.NumGoroutine")
 | none=>false
def Qml (P : Program) (L : List Nat → List V → Option R) (A : List (List Nat × Ann)) (I : List (List Nat × Nat)) (con : Nat → List V → (V → Option R) → Option R) : Nat → Ctx R
 | 0=>⟨P,L,A,I,con,fun _ _ _ _ _ _=>none,fun _ _ _ _=>[]⟩
 | n + 1=>⟨P,L,A,I,con,
   fun d path g args K st=>match P.funcs[g]? with
    | some fn=>match fn.body with
     | some c=>bif Nat.ble args.length fn.ntmps && Vq P g then G5 (Qml P L A I con n) (d + 1) fn.ntmps path c (Qyb P fn (d + 1) (QuQ d K)) (Xl st (d + 1) args) else none
     | none=>none
    | none=>none,
   fun d path g K=>match P.funcs[g]? with
    | some fn=>match fn.body with
     | some c=>YT (Qml P L A I con n) (d + 1) fn.ntmps path c (Qyb P fn (d + 1) (QuQ d K))
     | none=>[]
    | none=>[]⟩
def Gy : Nat:=6
@[reducible] def QcQ : List Ty → Type
 | []=>Unit
 | [t]=>t.den
 | t :: u :: ts=>t.den × QcQ (u :: ts)
def WD : (ts : List Ty) → List V → Option (QcQ ts)
 | [],[]=>some ()
 | [t],[v]=>Vf t v
 | t :: u :: ts,v :: vs=>match Vf t v,WD (u :: ts) vs with
  | some x,some y=>some (x,y)
  | _,_=>none
 | _,_=>none
def Qy (ts : List Ty) (v : V) : Option (QcQ ts) :=
 match ts,v with
 | [t],v=>Vf t v
 | ts,.tup vs=>WD ts vs
 | _,_=>none
def ZZ : (ts : List Ty) → QcQ ts → List V
 | [],_=>[]
 | [t],x=>[Yt t x]
 | t :: u :: ts,x=>Yt t x.1 :: ZZ (u :: ts) x.2
def Qak (ts : List Ty) (x : QcQ ts) : V :=
 match ts,x with
 | [t],x=>Yt t x
 | ts,x=>.tup (ZZ ts x)
def QBw : QcO R → List Nat → Bool
 | [],_=>true
 | (p,_) :: r,q=>!(QqZ p q) && QBw r q
def QiZ : QcO R → List Nat → Option (JC R)
 | [],_=>none
 | (p,f) :: r,q=>bif QqZ p q then (bif QBw r q then some f else none) else QiZ r q
def Qi0 (P : Program) (gl : Nat → Option (List V)) (A : List (List Nat × Ann)) (I : List (List Nat × Nat)) (con : Nat → List V → (V → Option R) → Option R) (fn : Func) (c : Code) (fin : Qbh R) : Nat → List Nat → List V → Option R
 | 0=>fun _ _=>none
 | n + 1=>fun q vs=>match QiZ (YT (Qml P (Qi0 P gl A I con fn c fin n) A I con Gy) 0 fn.ntmps [] c fin) q,Vt A q with
  | some f,some an=>f { Q1 an vs with gl:=gl }
  | _,_=>none
def QuR (P : Program) (gl : Nat → Option (List V)) (A : List (List Nat × Ann)) (I : List (List Nat × Nat)) (con : Nat → List V → (V → Option R) → Option R) (fn : Func) (c : Code) (fin : Qbh R) (n : Nat) (args : List V) : Option R :=
 bif Nat.ble args.length fn.ntmps then
  G5 (Qml P (Qi0 P gl A I con fn c fin n) A I con Gy) 0 fn.ntmps [] c fin (Xl { St.empty with gl:=gl } 0 args)
 else none
def QE7 (P : Program) (fn : Func) (fin : V → Option R) : Qbh R:=Qyb P fn 0 fun v _=>fin v
def lam (P : Program) (A : List (List Nat × Ann)) (I : List (List Nat × Nat)) (con : Nat → List V → (V → Option R) → Option R) (fn : Func) (c : Code) (fin : V → Option R) : Nat → List Nat → List V → Option R :=
 Qi0 P noG A I con fn c (QE7 P fn fin)
def run (P : Program) (A : List (List Nat × Ann)) (I : List (List Nat × Nat)) (con : Nat → List V → (V → Option R) → Option R) (fn : Func) (c : Code) (fin : V → Option R) (n : Nat) (args : List V) : Option R :=
 QuR P noG A I con fn c (QE7 P fn fin) n args
def QE8 (t : Ty) (st : St) (v : V) : Option (List t.den) :=
 match v with
 | .nils=>some []
 | .own tok t' xs=>bif st.lv tok then castL? t' t xs else none
 | .raw tok=>match st.rw tok with
  | some ⟨t',xs⟩=>castL? t' t xs
  | none=>none
 | _=>none
def QdK (P : Program) (fn : Func) (t : Ty) : Qbh (List t.den)
 | .normal,st | .ret,st=>match fn.results.toList with
  | [.tmp x]=>QE8 t st (st.tm 0 x)
  | [.cell a ty]=>Qhm P st ty (st.tm 0 a) (QE8 t st)
  | _=>none
 | _,_=>none
def Qkp (P : Program) (st : St) : List ResultVar → Option (List V)
 | []=>some []
 | .tmp t :: r=>(Qkp P st r).map (st.tm 0 t :: ·)
 | .cell a t :: r=>Qhm P st t (st.tm 0 a) fun v=>(Qkp P st r).map (v :: ·)
def V.dwhole (st : St) : V → Bool
 | .agg cs=>cs.all (V.dpart st)
 | v=>v.dpart st
def QwV (P : Program) (fn : Func) (rets : List Ty) : Qbh (QcQ rets)
 | .normal,st | .ret,st=>match Qkp P st fn.results.toList with
  | some vs=>bif vs.all (V.dwhole st) && Qif (V.drs.drsL vs) && rets.all Ty.dok && Nat.beq vs.length rets.length then WD rets (St.res.resL st vs) else none
  | none=>none
 | _,_=>none
end
end Go.Ab
