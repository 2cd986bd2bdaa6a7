import GoSem.Claim
import GoSem.ClaimKeys
import Derived.Calls
import Derived.Laws.Sem
import Derived.OrdersHeld
namespace Go.Ab
noncomputable section
inductive Tree (α:Type) where
 | node (v:α) (kids:List (Tree α))
def Tree.val {α:Type}:Tree α→α | .node v _=>v
def Tree.kids {α:Type}:Tree α→List (Tree α) | .node _ k=>k
inductive Ty where
 | int (k:IntKind) | bool | str | list (t:Ty) | unit | pair (a b:Ty)
 | map (k v:Ty)
 | tree (a:Ty)
@[reducible] def Ty.den:Ty→Type
 | .int _=>Int
 | .bool=>Bool
 | .str=>List Int
 | .list t=>List t.den
 | .unit=>Unit
 | .pair a b=>a.den × b.den
 | .map k v=>List (k.den × v.den)
 | .tree a=>Tree a.den
def Ty.dflt:(t:Ty)→t.den | .int _=>(0:Int) | .bool=>false | .str=>([]:List Int) | .list _=>[] | .unit=>() | .pair a b=>(a.dflt,b.dflt) | .map _ _=>[] | .tree a=>.node a.dflt []
def Ty.keyFlat:Ty→Bool | .int _ | .bool | .str | .unit=>true | .pair a b=>a.keyFlat&&b.keyFlat | _=>false
def Ty.cells:Ty→Nat | .unit=>0 | .pair a b=>a.cells+b.cells | .tree a=>a.cells+1 | _=>1
def Ty.scalar:Ty→Bool | .unit | .pair _ _ | .tree _=>false | _=>true
def Ty.eq?:(a b:Ty)→Option (PLift (a=b))
 | .int k,.int k'=>if h:k=k' then some ⟨by rw [h]⟩ else none
 | .bool,.bool=>some ⟨rfl⟩
 | .str,.str=>some ⟨rfl⟩
 | .list t,.list t'=>match Ty.eq? t t' with
  | some ⟨h⟩=>some ⟨by rw [h]⟩
  | none=>none
 | .unit,.unit=>some ⟨rfl⟩
 | .pair a b,.pair a' b'=>match Ty.eq? a a',Ty.eq? b b' with
  | some ⟨h⟩,some ⟨h'⟩=>some ⟨by rw [h,h']⟩
  | _,_=>none
 | .map a b,.map a' b'=>match Ty.eq? a a',Ty.eq? b b' with
  | some ⟨h⟩,some ⟨h'⟩=>some ⟨by rw [h,h']⟩
  | _,_=>none
 | .tree a,.tree a'=>match Ty.eq? a a' with
  | some ⟨h⟩=>some ⟨by rw [h]⟩
  | none=>none
 | _,_=>none
def Ty.decEq:(t:Ty)→(x y:t.den)→Decidable (x=y) | .int _=>fun (x y:Int)=>Int.instDecidableEq x y | .bool=>fun (x y:Bool)=>instDecidableEqBool x y | .str=>fun (x y:List Int)=>instDecidableEqList x y | .list t=>fun (x y:List t.den)=>@instDecidableEqList _ t.decEq x y | .unit=>fun (_ _:Unit)=>isTrue rfl | .pair a b=>fun (x y:a.den × b.den)=>@instDecidableEqProd _ _ a.decEq b.decEq x y | .map a b=>fun (x y:List (a.den × b.den))=>@instDecidableEqList _ (@instDecidableEqProd _ _ a.decEq b.decEq) x y | .tree _=>fun _ _=>Classical.propDecidable _
def J2 (rec:TypeId→Option Ty) (off:Nat):List Field→Option Ty | []=>some .unit | [f]=>if f.offset=off then rec f.type else none | f::g::fs=>if f.offset=off then (rec f.type).bind fun a=>(J2 rec (off+a.cells) (g::fs)).map (.pair a) else none
def QzA (P:Program) (rec:TypeId→Option Ty) (t:TypeId) (fs:List Field):Option Ty :=
 match fs.getLast? with
 | some f=>match P.underlying f.type with
  | some (.slice e)=>bif Nat.beq e t then (match J2 rec 0 fs.dropLast with
   | some a=>bif Nat.beq f.offset a.cells then some (.tree a) else none
   | none=>none) else none
  | _=>none
 | none=>none
def QzB (P : Program) (rec : TypeId → Option Ty) (t : TypeId) : Option Ty :=
  match P.underlying t with
  | some .bool => some .bool
  | some (.int k) => some (.int k)
  | some .string => some .str
  | some (.slice e) => (rec e).map .list
  | some (.map k e) => match rec k, rec e with
    | some a, some b => some (.map a b)
    | _, _ => none
  | some (.struct fs) => match QzA P rec t fs.toList with
   | some ty => some ty
   | none => match fs.toList with
    | [f] => if f.offset = 0 then (rec f.type).map fun a => .pair a .unit else none
    | l => J2 rec 0 l
  | _ => none
def Xz (P:Program):Nat→TypeId→Option Ty
 | 0,_=>none
 | n+1,t=>match QzB P (Xz P n) t with
  | some ty=>bif Nat.beq (P.cellsOf t) ty.cells&&(P.info? t).isSome then some ty else none
  | none=>none
def JS:Nat:=12
inductive V where
 | any
 | un
 | d (t:Ty) (x:t.den)
 | agg (cs:List V)
 | eptr (cs:List V)
 | ptr (d s off:Nat)
 | rptr (d s sz:Nat) (i:Int) (off:Nat)
 | own (tok:Nat) (t:Ty) (xs:List t.den)
 | nils
 | msl (d s:Nat)
 | fn (f:Nat) (caps:List V)
 | tup (vs:List V)
 | raw (k:Nat)
 | qptr (k sz:Nat) (i:Int) (off:Nat)
 | mp (d s:Nat)
 | dr (k:Nat)
 | dq (k sz:Nat) (i:Int) (off:Nat)
 | dvw (k sz:Nat) (lo:Int) (hi:Option Int)
structure RBox where
 ty:Ty
 xs:List ty.den
inductive Box where
 | none
 | cells (cs:List V)
 | rows (t:Ty) (xs:List t.den)
 | map (k v:Ty) (es:List (k.den × v.den))
structure St where
 tm:Nat→Nat→V
 bx:Nat→Nat→Box
 nt:Nat
 lv:Nat→Bool
 rw:Nat→Option RBox
 gl:Nat→Option (List V)
 dr:Nat→Option RBox
 nd:Nat
def Qm:(t:Ty)→t.den→List V | .pair a b,x=>Qm a x.1++Qm b x.2 | .unit,_=>[] | .int k,x=>[.d (.int k) x] | .bool,x=>[.d .bool x] | .str,x=>[.d .str x] | .list t,x=>[.d (.list t) x] | .map k v,x=>[.d (.map k v) x] | .tree a,x=>Qm a x.val++[.d (.list (.tree a)) x.kids]
def JO:(t:Ty)→t.den→V | .pair a b,x=>.agg (Qm (.pair a b) x) | .unit,_=>.agg [] | .int k,x=>.d (.int k) x | .bool,x=>.d .bool x | .str,x=>.d .str x | .list t,x=>.d (.list t) x | .map k v,x=>.d (.map k v) x | .tree a,x=>.agg (Qm (.tree a) x)
def cast? (t t':Ty) (x:t.den):Option t'.den :=
 match Ty.eq? t t' with
 | some ⟨h⟩=>some (h ▸ x)
 | none=>none
def castL? (t t':Ty) (x:List t.den):Option (List t'.den) :=
 match Ty.eq? t t' with
 | some ⟨h⟩=>some (h ▸ x)
 | none=>none
def Gs (t:Ty) (v:V):Option t.den :=
 match t,v with
 | .list t,.own _ t' x=>castL? t' t x
 | .list _,.nils=>some []
 | t,.d t' x=>cast? t' t x
 | _,_=>none
def YN:(t:Ty)→List V→Option t.den
 | .pair a b,cs=>match YN a (cs.take a.cells),YN b (cs.drop a.cells) with
  | some x,some y=>some (x,y)
  | _,_=>none
 | .unit,[]=>some ()
 | .int k,[v]=>Gs (.int k) v
 | .bool,[v]=>Gs .bool v
 | .str,[v]=>Gs .str v
 | .list t,[v]=>Gs (.list t) v
 | .map k e,[v]=>Gs (.map k e) v
 | .tree a,cs=>match YN a (cs.take a.cells),cs.drop a.cells with
  | some v,[k]=>(Gs (.list (.tree a)) k).map fun ks=>Tree.node v ks
  | _,_=>none
 | _,_=>none
def V.cellsOf:V→List V | .agg cs=>cs | v=>[v]
def Y1 (t:Ty) (v:V):Option t.den :=
 match t,v with
 | .pair a b,.agg cs=>YN (.pair a b) cs
 | .unit,.agg cs=>YN .unit cs
 | .tree a,.agg cs=>YN (.tree a) cs
 | .pair _ _,_ | .unit,_ | .tree _,_=>none
 | t,v=>Gs t v
def V.plain:V→Bool | .any | .un | .tup _ | .raw _ | .qptr .. | .dq .. | .dvw ..=>false | _=>true
def upd (f:Nat→Nat→V) (d t:Nat) (v:V):Nat→Nat→V:=fun x y=>bif Nat.beq y t&&Nat.beq x d then v else f x y
def QrW (f:Nat→Nat→Box) (d t:Nat) (v:Box):Nat→Nat→Box:=fun x y=>bif Nat.beq y t&&Nat.beq x d then v else f x y
def Qq4 (f:Nat→Option RBox) (t:Nat) (v:Option RBox):Nat→Option RBox:=fun x=>bif Nat.beq x t then v else f x
def Qu5 (f:Nat→Bool) (t:Nat) (v:Bool):Nat→Bool:=fun x=>bif Nat.beq x t then v else f x
def ZE (s:ByteArray):List Int:=s.data.toList.map fun b=>(b.toNat:Int)
def inK (k:IntKind) (x:Int):Bool:=decide (k.min≤x)&&decide (x≤k.max)
def WP:Value→V | .bool b=>.d .bool b | .int k n=>bif inK k n then .d (.int k) n else .any | .string s=>bif Nat.ble s.size 140737488355328 then .d .str (ZE s) else .any | .slice none 0 0=>.nils | _=>.any
def St.ev (st:St) (d:Nat):Operand→V | .tmp t=>st.tm d t | .const v=>WP v | .func f=>.fn f [] | .global _=>.any
def St.set (st:St) (d t:Nat) (v:V):St:={ st with tm:=upd st.tm d t v }
def St.put (st:St) (d:Nat) (dst:Option Nat) (v:V):St :=
 match dst with
 | some t=>st.set d t v
 | none=>st
def St.setB (st:St) (d t:Nat) (b:Box):St:={ st with bx:=QrW st.bx d t b }
def St.mint (st:St):St:={ st with nt:=st.nt+1,lv:=Qu5 st.lv st.nt true }
def St.spend (st:St) (tok:Nat):St:={ st with lv:=Qu5 st.lv tok false,rw:=Qq4 st.rw tok none }
def St.setR (st:St) (tok:Nat) (b:Option RBox):St:={ st with rw:=Qq4 st.rw tok b }
def St.mintR (st:St) (b:RBox):St:=(st.mint).setR st.nt (some b)
def St.setD (st:St) (k:Nat) (b:Option RBox):St:={ st with dr:=Qq4 st.dr k b }
def St.mintD (st:St) (b:RBox):St:={ st with dr:=Qq4 st.dr st.nd (some b),nd:=st.nd+1 }
def inB (i:Int) (n:Nat):Bool:=decide (0≤i)&&decide (i<(n:Int))
def rd {α:Type} (xs:List α) (i:Int) (d:α):α:=xs.getD i.toNat d
def V.le (n:Nat):V→Bool
 | .ptr dp _ _ | .rptr dp _ _ _ _ | .msl dp _ | .mp dp _=>Nat.ble dp n
 | .agg cs | .eptr cs | .fn _ cs | .tup cs=>leL n cs
 | _=>true
where leL (n:Nat):List V→Bool
 | []=>true
 | c::cs=>c.le n&&leL n cs
def V.flat:V→Bool
 | .ptr .. | .rptr .. | .msl .. | .fn .. | .eptr .. | .any | .un | .tup .. | .raw _ | .qptr .. | .mp .. | .dr _ | .dq .. | .dvw ..=>false
 | .agg cs=>flatL cs
 | _=>true
where flatL:List V→Bool
 | []=>true
 | c::cs=>c.flat&&flatL cs
def YO (cs:List V) (off:Nat) (vs:List V):List V:=cs.take off++vs++cs.drop (off+vs.length)
variable {R:Type}
abbrev Z9 (R:Type):=St→Option R
def QzC (op:BinOp) (a b:Int):Bool :=
 match op with
 | .eql=>decide (a=b) | .neq=>!decide (a=b)
 | .lss=>decide (a<b) | .leq=>decide (a≤b) | .gtr=>decide (b<a) | .geq=>decide (b≤a)
 | _=>false
def Zn:List Int→List Int→Bool | _,[]=>false | [],_::_=>true | a::x,b::y=>decide (a<b)||(decide (a=b)&&Zn x y)
def Qxg (op:BinOp) (a b:List Int):Bool :=
 match op with
 | .eql=>decide (a=b) | .neq=>!decide (a=b)
 | .lss=>Zn a b | .leq=>!Zn b a | .gtr=>Zn b a | .geq=>!Zn a b
 | _=>false
def Q4:Int:=Classical.choose (⟨140737488355328,rfl⟩:∃ r:Int,r=140737488355328)
theorem Xf:Q4=140737488355328:=Classical.choose_spec (⟨140737488355328,rfl⟩:∃ r:Int,r=140737488355328)
def Qq5 (P:Program):Nat→TypeId→Bool
 | 0,_=>false
 | n+1,t=>match P.underlying t with
  | some .bool | some (.int _) | some .string=>true
  | some (.struct fs) => !P.stoodInHeld t && fs.toList.all fun f => f.name != "_" && Qq5 P n f.type
  | _=>false
def Qeg (P:Program) (op:BinOp) (t:TypeId) (x y:V) (K:V→Option R):Option R :=
 match x,y with
 | .d (.int k) a,.d (.int k') b =>
  match op with
  | .shl=>bif decide ((0:Int)≤b) then K (.d (.int k) (k.wrap ((a:Int)*2 ^ (min (Int.toNat b) k.bits)))) else none
  | .shr=>bif decide ((0:Int)≤b) then K (.d (.int k) (Int.fdiv a (2 ^ (min (Int.toNat b) k.bits)))) else none
  | op=>if k=k' then
   match op with
   | .add=>K (.d (.int k) (k.wrap (a+b)))
   | .sub=>K (.d (.int k) (k.wrap (a - b)))
   | .mul=>K (.d (.int k) (k.wrap (a*b)))
   | .quo=>bif decide ((b:Int)=0) then none else K (.d (.int k) (k.wrap (Int.tdiv a b)))
   | .rem=>bif decide ((b:Int)=0) then none else K (.d (.int k) (Int.tmod a b))
   | .eql | .neq | .lss | .leq | .gtr | .geq=>K (.d .bool (QzC op a b))
   | .and=>K (.d (.int k) (k.wrap (BitVec.ofInt k.bits a &&& BitVec.ofInt k.bits b).toNat))
   | .or=>K (.d (.int k) (k.wrap (BitVec.ofInt k.bits a ||| BitVec.ofInt k.bits b).toNat))
   | .xor=>K (.d (.int k) (k.wrap (BitVec.ofInt k.bits a ^^^ BitVec.ofInt k.bits b).toNat))
   | _=>none
   else none
 | .d .str a,.d .str b =>
  match op with
  | .add=>bif decide (((a:List Int).length:Int)+((b:List Int).length:Int)≤Q4) then K (.d .str ((a:List Int)++(b:List Int))) else none
  | .eql | .neq | .lss | .leq | .gtr | .geq=>K (.d .bool (Qxg op a b))
  | _=>none
 | .d .bool a,.d .bool b =>
  match P.underlying t with
  | some .bool=>match op with
   | .eql=>K (.d .bool (a == b))
   | .neq=>K (.d .bool (a != b))
   | _=>none
  | _=>none
 | .agg a,.agg b =>
  match Xz P JS t with
  | some ty=>bif !ty.scalar&&Qq5 P JS t&&!(P.eqGuardType P.depth t) then match YN ty a,YN ty b with
   | some u,some v=>match op with
    | .eql=>K (.d .bool (@decide (u=v) (ty.decEq u v)))
    | .neq=>K (.d .bool (!(@decide (u=v) (ty.decEq u v))))
    | _=>none
   | _,_=>none
   else none
  | none=>none
 | _,_=>none
open Classical in
def QF (a b:Option R):Option R:=if a=b then a else none
def Qqs:Operand→Bool | .const (.slice none 0 0)=>true | _=>false
def QAK (op:BinOp) (n:Nat) (K:V→Option R):Option R :=
 match op with
 | .eql=>bif decide (0<n) then K (.d .bool false) else QF (K (.d .bool true)) (K (.d .bool false))
 | .neq=>bif decide (0<n) then K (.d .bool true) else QF (K (.d .bool false)) (K (.d .bool true))
 | _=>none
def QBo (P:Program) (op:BinOp) (t:TypeId) (x:V) (K:V→Option R):Option R :=
 match P.underlying t with
 | some (.slice _)=>match x with
  | .d (.list t') xs=>QAK op (List.length (α:=t'.den) xs) K
  | .own _ _ xs=>QAK op xs.length K
  | .nils=>match op with
   | .eql=>K (.d .bool true)
   | .neq=>K (.d .bool false)
   | _=>none
  | _=>none
 | _=>none
def unC (op:UnOp) (x:V) (K:V→Option R):Option R :=
 match op,x with
 | .not,.d .bool b=>K (.d .bool (!b))
 | .neg,.d (.int k) a=>K (.d (.int k) (k.wrap (0 - a)))
 | _,_=>none
def QrX (P:Program) (t:TypeId):Bool :=
 match P.underlying t with
 | some .bool | some (.int _) | some .string=>true
 | some (.struct _)=>Qq5 P JS t&&P.keyTypeAt JS t&&match Xz P JS t with
  | some ty=>ty.keyFlat
  | none=>false
 | _=>false
def JW (k:Ty) {α:Type} (es:List (k.den × α)) (x:k.den) (z:α):α :=
 match es with
 | []=>z
 | e::es=>bif @decide (x=e.1) (k.decEq x e.1) then e.2 else JW k es x z
def H9 (k:Ty) {α:Type} (es:List (k.den × α)) (x:k.den) (y:α):List (k.den × α) :=
 match es with
 | []=>[(x,y)]
 | e::es=>bif @decide (x=e.1) (k.decEq x e.1) then (x,y)::es else e::H9 k es x y
def Qc6 (P:Program) (t:TypeId):Bool :=
 match P.underlying t with
 | some (.struct _) | some (.array _ _)=>true
 | _=>false
def EX (P:Program) (t:TypeId) (cs:List V) (off:Nat) (K:V→Option R):Option R :=
 match P.underlying t with
 | some _=>match Qc6 P t with
  | true =>
   let l:=(cs.drop off).take (P.cellsOf t)
   bif Nat.beq l.length (P.cellsOf t) then K (.agg l) else none
  | false=>match cs.drop off with
   | c::_=>K c
   | []=>none
 | none=>none
def Ty.one:Ty→Bool | .int _ | .bool | .str=>true | _=>false
def Qjj (ty:Ty):List V→Option (List ty.den)
 | []=>some []
 | c::cs=>match Gs ty c,Qjj ty cs with
  | some x,some xs=>some (x::xs)
  | _,_=>none
def Qjk (ty:Ty) (i:Int) (x:ty.den):Nat→List V→List V
 | _,[]=>[]
 | j,c::cs=>(match Gs ty c with
  | some y=>V.d ty (bif decide (i=(j:Int)) then x else y)
  | none=>c)::Qjk ty i x (j+1) cs
def QfC (P:Program) (st:St) (t:TypeId) (a:V) (K:V→Option R):Option R :=
 match a with
 | .eptr cs=>EX P t cs 0 K
 | .ptr d s off=>match st.bx d s with
  | .cells cs=>EX P t cs off K
  | _=>none
 | .rptr d s sz i off=>match st.bx d s with
  | .rows ty xs=>bif Nat.beq sz ty.cells&&inB i xs.length then EX P t (Qm ty (rd xs i ty.dflt)) off K else none
  | .cells cs=>match Xz P JS t with
   | some ty=>match Qjj ty cs with
    | some xs=>bif Nat.beq sz 1&&Nat.beq off 0&&ty.one&&(P.underlying t).isSome&&!Qc6 P t then
      (bif inB i xs.length then K (.d ty (rd xs i ty.dflt)) else none)
     else none
    | none=>none
   | none=>none
  | _=>none
 | .qptr k sz i off=>match st.rw k with
  | some ⟨ty,xs⟩=>bif Nat.beq sz ty.cells&&inB i xs.length then EX P t (Qm ty (rd xs i ty.dflt)) off K else none
  | none=>none
 | .dq k sz i off=>match st.dr k with
  | some ⟨ty,xs⟩=>bif Nat.beq sz ty.cells&&inB i xs.length&&ty.keyFlat then EX P t (Qm ty (rd xs i ty.dflt)) off K else none
  | none=>none
 | _=>none
def Qxh (P:Program) (st:St) (t:TypeId) (a v:V) (K:Z9 R):Option R :=
 match a with
 | .ptr d s off=>match st.bx d s with
  | .cells cs =>
   let vs:=v.cellsOf
   bif Nat.beq vs.length (P.cellsOf t)&&Nat.ble (off+vs.length) cs.length&&v.plain&&V.le.leL d vs&&(P.info? t).isSome then
    K (st.setB d s (.cells (YO cs off vs)))
   else none
  | _=>none
 | .rptr d s sz i off=>match st.bx d s with
  | .rows ty xs =>
   let vs:=v.cellsOf
   bif Nat.beq sz ty.cells&&inB i xs.length&&Nat.beq vs.length (P.cellsOf t)&&v.plain&&(P.info? t).isSome&&Nat.ble (off+vs.length) ty.cells then
    match YN ty (YO (Qm ty (rd xs i ty.dflt)) off vs) with
    | some e=>K (st.setB d s (.rows ty (xs.set (Int.toNat i) e)))
    | none=>none
   else none
  | .cells cs=>match Xz P JS t with
   | some ty=>match Gs ty v,Qjj ty cs with
    | some x,some xs=>bif Nat.beq sz 1&&Nat.beq off 0&&ty.one&&Nat.beq (P.cellsOf t) 1&&(P.info? t).isSome then
      (bif inB i xs.length then K (st.setB d s (.cells (Qjk ty i x 0 cs))) else none)
     else none
    | _,_=>none
   | none=>none
  | _=>none
 | .qptr k sz i off=>match st.rw k with
  | some ⟨ty,xs⟩ =>
   let vs:=v.cellsOf
   bif Nat.beq sz ty.cells&&inB i xs.length&&Nat.beq vs.length (P.cellsOf t)&&v.plain&&(P.info? t).isSome&&Nat.ble (off+vs.length) ty.cells then
    match YN ty (YO (Qm ty (rd xs i ty.dflt)) off vs) with
    | some e=>K (st.setR k (some ⟨ty,xs.set (Int.toNat i) e⟩))
    | none=>none
   else none
  | none=>none
 | _=>none
def zeroCells (P:Program) (t:TypeId):Option (List V) :=
 match (P.info? t).bind (·.zero) with
 | some z=>bif z.cells.toList.all (·.oneCell') then some (z.cells.toList.map WP) else none
 | none=>none
def Qmk (P:Program) (t:TypeId) (ty:Ty):Option ty.den:=(zeroCells P t).bind (YN ty)
def Qjl (P:Program) (t:TypeId) (f:Nat):Option (Nat × TypeId) :=
 match P.underlying t with
 | some (.struct fs)=>(fs[f]?).map fun f=>(f.offset,f.type)
 | _=>none
def EY (P:Program) (t:TypeId) (x:V) (f:Nat) (K:V→Option R):Option R :=
 match Qjl P t f with
 | some (off,ft) =>
  bif Nat.beq (P.cellsOf ft) 0 then none else
  match x with
  | .ptr d s o=>K (.ptr d s (o+off))
  | .eptr cs=>K (.eptr (cs.drop off))
  | .rptr d s sz i o=>K (.rptr d s sz i (o+off))
  | .dq k sz i o=>K (.dq k sz i (o+off))
  | _=>none
 | none=>none
def Qo8 (P:Program) (t:TypeId) (x:V) (f:Nat) (K:V→Option R):Option R :=
 match Qjl P t f,x with
 | some (off,ft),.agg cs=>EX P ft cs off K
 | _,_=>none
def XA (P:Program) (t:TypeId):Option TypeId :=
 match P.underlying t with
 | some (.slice e)=>some e
 | _=>none
def Ue (P:Program) (st:St) (t:TypeId) (x i:V) (K:V→Option R):Option R :=
 match (XA P t).bind (Xz P JS),x,i with
 | some ty,.d (.list ty') xs,.d (.int _) n =>
  match castL? ty' ty xs with
  | some xs=>bif inB n (List.length (α:=ty.den) xs) then K (.eptr (Qm ty (rd (α:=ty.den) xs n ty.dflt))) else none
  | none=>none
 | some ty,.own _ ty' xs,.d (.int _) n =>
  match castL? ty' ty xs with
  | some xs=>bif inB n (List.length (α:=ty.den) xs) then K (.eptr (Qm ty (rd (α:=ty.den) xs n ty.dflt))) else none
  | none=>none
 | some ty,.msl d s,.d (.int _) n=>match st.bx d s with
  | .rows ty' xs=>match castL? ty' ty xs with
   | some xs=>bif inB n (List.length (α:=ty.den) xs) then K (.rptr d s ty.cells n 0) else none
   | none=>none
  | _=>none
 | some ty,.raw k,.d (.int _) n=>match st.rw k with
  | some ⟨ty',xs⟩=>match castL? ty' ty xs with
   | some xs=>bif inB n (List.length (α:=ty.den) xs) then K (.qptr k ty.cells n 0) else none
   | none=>none
  | none=>none
 | some ty,.dr k,.d (.int _) n=>match st.dr k with
  | some ⟨ty',xs⟩=>match castL? ty' ty xs with
   | some xs=>bif inB n (List.length (α:=ty.den) xs) then K (.dq k ty.cells n 0) else none
   | none=>none
  | none=>none
 | none,.ptr d s off,.d (.int _) n=>match P.underlying t with
  | some (.array len e)=>bif Nat.beq (P.cellsOf e) 1&&(P.info? e).isSome then (bif inB n len then K (.rptr d s 1 n off) else none) else none
  | _=>none
 | _,_,_=>none
def Qo9 (P:Program) (t:TypeId) (x i:V) (K:V→Option R):Option R :=
 match P.underlying t,x,i with
 | some .string,.d .str s,.d (.int _) n=>bif inB n (List.length (α:=Int) s) then K (.d (.int .u8) (rd (α:=Int) s n 0)) else none
 | some (.array len e),.agg cs,.d (.int _) n=>match Xz P JS e with
  | some ty=>match Qjj ty cs with
   | some xs=>bif Nat.beq xs.length len&&ty.one&&Nat.beq (P.cellsOf e) 1&&(P.info? e).isSome&&(P.underlying e).isSome&&!Qc6 P e then
     (bif inB n xs.length then K (.d ty (rd xs n ty.dflt)) else none)
    else none
   | none=>none
  | none=>none
 | _,_,_=>none
def Qgz (n:Nat) (lo hi:Option V) (K:Int→Int→Option R):Option R :=
 match lo,hi with
 | none,none=>K 0 n
 | some (.d (.int _) l),none=>bif decide ((0:Int)≤l)&&decide ((l:Int)≤(n:Int)) then K l n else none
 | none,some (.d (.int _) h)=>bif decide ((0:Int)≤h)&&decide ((h:Int)≤(n:Int)) then K 0 h else none
 | some (.d (.int _) l),some (.d (.int _) h) =>
  bif decide ((0:Int)≤h)&&decide ((h:Int)≤(n:Int)) then (bif decide ((0:Int)≤l)&&decide ((l:Int)≤h) then K l h else none) else none
 | _,_=>none
def cut {α:Type} (xs:List α) (l h:Int):List α:=(xs.take h.toNat).drop l.toNat
def QrY (P:Program) (t:TypeId) (x:V) (lo hi:Option V) (K:V→Option R):Option R :=
 match P.underlying t,x with
 | some .string,.d .str s=>Qgz (List.length (α:=Int) s) lo hi fun l h=>K (.d .str (cut (α:=Int) s l h))
 | some (.slice e),.d (.list t) xs=>bif Nat.beq (P.cellsOf e) t.cells&&(P.info? e).isSome then Qgz (List.length (α:=t.den) xs) lo hi fun l h=>K (.d (.list t) (cut (α:=t.den) xs l h)) else none
 | some (.slice e),.own tok t xs=>bif Nat.beq (P.cellsOf e) t.cells&&(P.info? e).isSome then (match hi with
  | none=>Qgz xs.length lo none fun l h=>K (.own tok t (cut xs l h))
  | some hi=>Qgz xs.length lo (some hi) fun l h=>K (.d (.list t) (cut xs l h))) else none
 | _,_=>none
def QkT (P:Program) (st:St) (t:TypeId) (k:Nat) (lo hi:Option V) (K:V→Option R):Option R :=
 match P.underlying t with
 | some (.slice e)=>match st.dr k with
  | some ⟨ty,xs⟩=>bif Nat.beq (P.cellsOf e) ty.cells&&(P.info? e).isSome then Qgz xs.length lo hi fun l h=>K (.dvw k ty.cells l (bif hi.isNone then none else some h)) else none
  | none=>none
 | _=>none
def QhC (P:Program) (st:St) (t:TypeId) (x:V) (lo hi:Option V) (K:V→Option R):Option R :=
 match x with
 | .dr k=>QkT P st t k lo hi K
 | x=>QrY P t x lo hi K
def QkU (P:Program) (t:TypeId) (x:V) (lo hi mx:Option V) (K:V→Option R):Option R :=
 match P.underlying t,x,hi,mx with
 | some (.slice e),.d (.list t) xs,some (.d (.int _) h),some (.d (.int _) m)=>bif Nat.beq (P.cellsOf e) t.cells&&(P.info? e).isSome&&decide ((h:Int)=m) then Qgz (List.length (α:=t.den) xs) lo hi fun l h=>K (.d (.list t) (cut (α:=t.den) xs l h)) else none
 | _,_,_,_=>none
def QrZ (P:Program) (src dst:TypeId) (x:V) (K:V→Option R):Option R :=
 match P.underlying src,P.underlying dst,x with
 | some (.int _),some (.int k),.d (.int _) n=>K (.d (.int k) (k.wrap n))
 | some .string,some .string,.d .str s=>K (.d .str s)
 | some .string,some (.slice e),.d .str s=>match P.underlying e with
  | some (.int .u8)=>K (.d (.list (.int .u8)) s)
  | _=>none
 | some (.slice e),some .string,.d (.list (.int .u8)) s=>match P.underlying e with
  | some (.int .u8)=>bif decide ((List.length (α:=Int) s:Int)≤Q4) then K (.d .str s) else none
  | _=>none
 | some (.slice e),some .string,.own _ (.int .u8) s=>match P.underlying e with
  | some (.int .u8)=>bif decide ((List.length (α:=Int) s:Int)≤Q4) then K (.d .str s) else none
  | _=>none
 | some (.slice e),some .string,.nils=>match P.underlying e with
  | some (.int .u8)=>K (.d .str ([]:List Int))
  | _=>none
 | _,_,_=>none
def Qnw (P:Program) (fs:Array Field):List V→List (Nat × V)→Option (List V)
 | cs,[]=>some cs
 | cs,(i,v)::rest=>match fs[i]? with
  | some f =>
   let vs:=v.cellsOf
   bif Nat.beq vs.length (P.cellsOf f.type)&&(P.info? f.type).isSome&&v.plain&&Nat.ble (f.offset+vs.length) cs.length then Qnw P fs (YO cs f.offset vs) rest else none
  | none=>none
def Qnx (sz:Nat):List V→List (Nat × V)→Option (List V)
 | cs,[]=>some cs
 | cs,(i,v)::rest =>
  let vs:=v.cellsOf
  bif Nat.beq vs.length sz&&v.plain&&Nat.ble (i*sz+vs.length) cs.length then Qnx sz (YO cs (i*sz) vs) rest else none
def Qpa (P:Program) (t:TypeId) (parts:List (Nat × V)) (K:V→Option R):Option R :=
 match P.underlying t,zeroCells P t with
 | some (.struct fs),some z=>bif fs.toList.all fun f=>(P.info? f.type).isSome then
   match Qnw P fs z parts with
   | some cs=>K (.agg cs)
   | none=>none
  else none
 | some (.array _ e),some z=>bif (P.info? e).isSome then
   match Qnx (P.cellsOf e) z parts with
   | some cs=>K (.agg cs)
   | none=>none
  else none
 | _,_=>none
def Quf (ty:Ty):List ty.den→List (Nat × V)→Option (List ty.den)
 | xs,[]=>some xs
 | xs,(i,v)::rest=>match Y1 ty v with
  | some x=>bif Nat.blt i xs.length then Quf ty (xs.set i x) rest else none
  | none=>none
def QcC (P:Program) (st:St) (t:TypeId) (len:Nat) (parts:List (Nat × V)) (K:V→St→Option R):Option R :=
 match XA P t with
 | some e=>match Xz P JS e with
  | some ty=>match Qmk P e ty with
   | some z =>
    bif Nat.ble (len*ty.cells) 16777216&&Nat.blt 0 ty.cells then
     match Quf ty (List.replicate len z) parts with
     | some xs=>K (.own st.nt ty xs) st.mint
     | none=>none
    else none
   | none=>none
  | none=>none
 | none=>none
def Qpb (P:Program) (st:St) (t:TypeId) (len:Nat) (parts:List (Nat × V)) (K:V→St→Option R):Option R :=
 match XA P t with
 | some e=>match Xz P JS e with
  | some ty=>match Qmk P e ty with
   | some z =>
    bif Nat.ble (len*ty.cells) 16777216&&Nat.blt 0 ty.cells then
     match Quf ty (List.replicate len z) parts with
     | some xs=>K (.raw st.nt) (st.mintR ⟨ty,xs⟩)
     | none=>none
    else none
   | none=>none
  | none=>none
 | none=>none
def Qu6 (P:Program) (st:St) (t:TypeId) (x:V) (K:V→Option R):Option R :=
 match x with
 | .d .str s=>match P.underlying t with
  | some .string=>K (.d (.int .i64) (List.length (α:=Int) s:Int))
  | _=>none
 | .d (.list ty) s=>match P.underlying t with
  | some (.slice _)=>K (.d (.int .i64) (List.length (α:=ty.den) s:Int))
  | _=>none
 | .own _ _ xs=>match P.underlying t with
  | some (.slice _)=>K (.d (.int .i64) (xs.length:Int))
  | _=>none
 | .nils=>match P.underlying t with
  | some (.slice _)=>K (.d (.int .i64) (0:Int))
  | _=>none
 | .msl d s=>match P.underlying t,st.bx d s with
  | some (.slice _),.rows _ xs=>K (.d (.int .i64) (xs.length:Int))
  | _,_=>none
 | .raw k=>match P.underlying t,st.rw k with
  | some (.slice _),some ⟨_,xs⟩=>K (.d (.int .i64) (xs.length:Int))
  | _,_=>none
 | .dr k=>match P.underlying t,st.dr k with
  | some (.slice _),some ⟨_,xs⟩=>K (.d (.int .i64) (xs.length:Int))
  | _,_=>none
 | _=>none
def QyP (x y:V) (K:V→Option R):Option R :=
 match x,y with
 | .d (.int k) a,.d (.int k') b=>if k=k' then K (.d (.int k) (bif decide ((b:Int)<a) then b else a)) else none
 | _,_=>none
def QyQ (x y:V) (K:V→Option R):Option R :=
 match x,y with
 | .d (.int k) a,.d (.int k') b=>if k=k' then K (.d (.int k) (bif decide ((a:Int)<b) then b else a)) else none
 | _,_=>none
def QkV (P:Program) (st:St) (t:TypeId) (s x:V) (K:V→St→Option R):Option R :=
 match XA P t with
 | some e=>match Xz P JS e with
  | some ty=>match Qmk P e ty with
   | some _ =>
    bif Nat.beq ty.cells 0 then none else
    match Gs (.list ty) x with
    | some ys=>match s with
     | .nils=>bif decide (((ys:List ty.den).length:Int)*(P.bytesOf e:Int)≤Q4)&&decide (((ys:List ty.den).length:Int)≤Q4) then K (.own st.nt ty ys) st.mint else none
     | .own tok ty' xs=>match castL? ty' ty xs with
      | some xs=>bif st.lv tok then
        (bif decide ((((xs:List ty.den).length:Int)+((ys:List ty.den).length:Int))*(P.bytesOf e:Int)≤Q4)&&decide (((xs:List ty.den).length:Int)+((ys:List ty.den).length:Int)≤Q4) then
         K (.own st.nt ty ((xs:List ty.den)++(ys:List ty.den))) ((st.spend tok).mint) else none) else none
      | none=>none
     | .raw tok=>match st.rw tok with
      | some ⟨ty',xs⟩=>match castL? ty' ty xs with
       | some xs=>bif st.lv tok then
        (bif decide ((((xs:List ty.den).length:Int)+((ys:List ty.den).length:Int))*(P.bytesOf e:Int)≤Q4)&&decide (((xs:List ty.den).length:Int)+((ys:List ty.den).length:Int)≤Q4) then
         K (.raw st.nt) ((st.spend tok).mintR ⟨ty,(xs:List ty.den)++(ys:List ty.den)⟩) else none) else none
       | none=>none
      | none=>none
     | _=>none
    | none=>none
   | none=>none
  | none=>none
 | none=>none
def QbJ (P:Program) (st:St) (d:Nat) (dst:Option Nat) (t:TypeId) (l c:V) (K:V→St→Option R):Option R :=
 match XA P t,dst with
 | some e,some s=>match Xz P JS e with
  | some ty=>match Qmk P e ty with
   | some z=>match l,c with
    | .d (.int .i64) n,.d (.int .i64) m =>
     match st.bx d s with
     | .none =>
      bif decide ((n:Int)=m)&&decide ((0:Int)≤n)&&decide ((n:Int)*(P.bytesOf e:Int)≤Q4)&&Nat.blt 0 ty.cells then
       K (.msl d s) (st.setB d s (.rows ty (List.replicate (Int.toNat n) z)))
      else none
     | _=>none
    | _,_=>none
   | none=>none
  | none=>none
 | _,_=>none
def Qr0 (P:Program) (t:TypeId):Option (TypeId × TypeId × Ty × Ty) :=
 match P.underlying t with
 | some (.map kt vt)=>bif QrX P kt then (match Xz P JS kt,Xz P JS vt with
  | some k,some v=>some (kt,vt,k,v)
  | _,_=>none) else none
 | _=>none
def castE? (k v k' v':Ty) (es:List (k.den × v.den)):Option (List (k'.den × v'.den)) :=
 match Ty.eq? k k',Ty.eq? v v' with
 | some ⟨h⟩,some ⟨h'⟩=>some (h ▸ h' ▸ es)
 | _,_=>none
def Qd9 (st:St) (k v:Ty) (m:V):Option (List (k.den × v.den)) :=
 match m with
 | .d (.map k' v') es=>castE? k' v' k v es
 | .mp d s=>match st.bx d s with
  | .map k' v' es=>castE? k' v' k v es
  | _=>none
 | _=>none
def Qny (P:Program) (t:TypeId) (ty:Ty):Bool :=
 match (P.info? t).bind (·.zero) with
 | some z=>bif ty.scalar then z.oneCell' else (match z with
  | .agg _=>true
  | _=>false)
 | none=>false
def QdP (P:Program) (st:St) (t:TypeId) (m x:V) (ok:Bool) (K:V→Option R):Option R :=
 match Qr0 P t with
 | some (_,vt,k,v)=>match Qd9 st k v m,Y1 k x,Qmk P vt v with
  | some es,some x,some z=>bif ok||!(Qny P vt v) then none else K (JO v (JW k es x z))
  | _,_,_=>none
 | none=>none
def Qnz (P:Program) (st:St) (d:Nat) (dst:Option Nat) (t:TypeId) (K:V→St→Option R):Option R :=
 match Qr0 P t,dst with
 | some (_,_,k,v),some s=>match st.bx d s with
  | .none=>K (.mp d s) (st.setB d s (.map k v []))
  | _=>none
 | _,_=>none
def QhD (P:Program) (st:St) (t:TypeId) (m x y:V) (K:Z9 R):Option R :=
 match Qr0 P t with
 | some (_,_,k,v)=>match m with
  | .mp d s=>match st.bx d s with
   | .map k' v' es=>match castE? k' v' k v es,Y1 k x,Y1 v y with
    | some es,some x,some y=>K (st.setB d s (.map k v (H9 k es x y)))
    | _,_,_=>none
   | _=>none
  | _=>none
 | none=>none
def Qqt (ops:List Oper) (j:Nat):Option Nat:=(ops[j]?).bind (·.dst)
def Ty.dok:Ty→Bool | .map _ _ | .tree _=>false | .pair a b=>a.dok&&b.dok | .list t=>t.dok | _=>true
def V.scl:V→Bool | .d (.int _) _ | .d .bool _ | .d .str _=>true | _=>false
def V.drs:V→List Nat
 | .dr k=>[k]
 | .agg cs=>drsL cs
 | .tup cs=>drsL cs
 | _=>[]
where drsL:List V→List Nat
 | []=>[]
 | c::cs=>c.drs++drsL cs
def St.res (st:St):V→V
 | .dr k=>match st.dr k with
  | some ⟨t,xs⟩=>.d (.list t) xs
  | none=>.any
 | .agg cs=>.agg (resL st cs)
 | .tup cs=>.tup (resL st cs)
 | v=>v
where resL (st:St):List V→List V
 | []=>[]
 | c::cs=>st.res c::resL st cs
def V.isD:V→Bool | .d _ _=>true | _=>false
def JU:V→St→V × St
 | .d (.list t) xs,st=>(.dr st.nd,st.mintD ⟨t,xs⟩)
 | .d (.int k) x,st=>(.d (.int k) x,st)
 | .d .bool x,st=>(.d .bool x,st)
 | .d .str x,st=>(.d .str x,st)
 | .agg cs,st=>bif cs.all V.isD then (.agg (mintL cs st).1,(mintL cs st).2) else (.any,st)
 | .tup cs,st=>(.tup (mintL cs st).1,(mintL cs st).2)
 | _,st=>(.any,st)
where mintL:List V→St→List V × St
 | [],st=>([],st)
 | c::cs,st=>((JU c st).1::(mintL cs (JU c st).2).1,(mintL cs (JU c st).2).2)
def Qay:V→V→St→Option St
 | .dr k,.d (.list t) xs,st=>match st.dr k with
  | some ⟨t',_⟩=>match Ty.eq? t' t with
   | some _=>some (st.setD k (some ⟨t,xs⟩))
   | none=>none
  | none=>none
 | .agg cs,.agg ds,st=>hotL cs ds st
 | .d _ _,v,st=>bif v.scl then some st else none
 | _,_,_=>none
where hotL:List V→List V→St→Option St
 | [],[],st=>some st
 | c::cs,d::ds,st=>(Qay c d st).bind (hotL cs ds)
 | _,_,_=>none
def Qgf:List Nat→Bool | []=>true | k::l=>!(l.any (Nat.beq k))&&Qgf l
def V.dpart0:V→Bool | .nils=>true | v=>v.scl
def V.dpart (st:St):V→Bool | .dr k=>(st.dr k).isSome | v=>v.dpart0
def St.dropD (st:St):List Nat→St | []=>st | k::l=>(st.setD k none).dropD l
def Qu7 (P:Program) (st:St) (t:TypeId) (k sz:Nat) (i:Int) (off:Nat) (v:V) (K:Z9 R):Option R :=
 match st.dr k with
 | some ⟨ty,xs⟩ =>
  let vs:=v.cellsOf
  let ds:=V.drs.drsL vs
  bif Nat.beq sz ty.cells&&Nat.beq off 0&&inB i xs.length&&Nat.beq vs.length ty.cells&&Nat.beq (P.cellsOf t) ty.cells&&(P.info? t).isSome&&vs.all (V.dpart st)&&Qgf (k::ds)&&ty.dok then
   match YN ty (St.res.resL st vs) with
   | some e=>K ((st.dropD ds).setD k (some ⟨ty,xs.set (Int.toNat i) e⟩))
   | none=>none
  else none
 | none=>none
def Qu8 (P:Program) (st:St) (t:TypeId) (k sz:Nat) (i:Int) (off:Nat) (v:V) (K:Z9 R):Option R :=
 match st.dr k with
 | some ⟨ty,xs⟩ =>
  let vs:=v.cellsOf
  bif Nat.beq sz ty.cells&&inB i xs.length&&Nat.beq vs.length (P.cellsOf t)&&(P.info? t).isSome&&Nat.ble (off+vs.length) ty.cells&&v.plain then
   match YN ty (YO (Qm ty (rd xs i ty.dflt)) off vs) with
   | some e=>K (st.setD k (some ⟨ty,xs.set (Int.toNat i) e⟩))
   | none=>none
  else none
 | none=>none
def Qyf (st:St) (k:Nat):Bool:=match st.dr k with
 | some ⟨ty,_⟩=>ty.keyFlat
 | none=>false
def Qxi (P:Program) (st:St) (t:TypeId) (a v:V) (K:Z9 R):Option R :=
 match a with
 | .dq k sz i off=>bif Qyf st k&&!(Nat.beq off 0&&Nat.beq sz v.cellsOf.length) then Qu8 P st t k sz i off v K else Qu7 P st t k sz i off v K
 | a=>Qxh P st t a v K
def Qu9 (P:Program) (st:St) (t:TypeId) (l c:V) (K:V→St→Option R):Option R :=
 match XA P t with
 | some e=>match Xz P JS e with
  | some ty=>match zeroCells P e with
   | some zc=>match YN ty zc with
    | some z=>match l,c with
     | .d (.int .i64) n,.d (.int .i64) m =>
      bif decide ((n:Int)=m)&&decide ((0:Int)≤n)&&decide ((n:Int)*(P.bytesOf e:Int)≤Q4)&&Nat.blt 0 ty.cells&&zc.all V.dpart0&&ty.dok then
       K (.dr st.nd) (st.mintD ⟨ty,List.replicate (Int.toNat n) z⟩)
      else none
     | _,_=>none
    | none=>none
   | none=>none
  | none=>none
 | none=>none
def Qr1 (P:Program) (st:St) (t:TypeId) (len:Nat) (parts:List (Nat × V)) (K:V→St→Option R):Option R :=
 match XA P t with
 | some e=>match Xz P JS e with
  | some ty=>match parts with
   | [(0,v)] =>
    let vs:=v.cellsOf
    let ds:=V.drs.drsL vs
    bif Nat.beq len 1&&Nat.beq vs.length ty.cells&&Nat.blt 0 ty.cells&&Nat.ble ty.cells 16777216&&vs.all (V.dpart st)&&Qgf ds&&ty.dok&&(zeroCells P e).isSome then
     match YN ty (St.res.resL st vs) with
     | some x=>K (.dr st.nd) ((st.dropD ds).mintD ⟨ty,[x]⟩)
     | none=>none
    else none
   | _=>none
  | none=>none
 | none=>none
def QAL (st:St) (ty:Ty):V→Option (List Nat × List ty.den)
 | .nils=>some ([],[])
 | .dr k=>match st.dr k with
  | some ⟨ty',xs⟩=>match castL? ty' ty xs with
   | some xs=>some ([k],xs)
   | none=>none
  | none=>none
 | _=>none
def Qpc (P:Program) (st:St) (t:TypeId) (a b:V) (K:V→St→Option R):Option R :=
 match XA P t with
 | some e=>match Xz P JS e with
  | some ty=>match QAL st ty a,QAL st ty b with
   | some (ks,xs),some ([k'],ys) =>
    bif Qgf (k'::ks)&&Nat.blt 0 ty.cells&&ty.dok&&(match zeroCells P e with | some zc=>Nat.beq zc.length ty.cells | none=>false)&&Nat.blt 0 ys.length&&decide (((xs.length:Int)+(ys.length:Int))*(P.bytesOf e:Int)≤Q4)&&decide ((xs.length:Int)+(ys.length:Int)≤Q4) then
     K (.dr st.nd) ((st.dropD (k'::ks)).mintD ⟨ty,xs++ys⟩)
    else none
   | _,_=>none
  | none=>none
 | none=>none
def Qxj (P:Program) (st:St) (t:TypeId) (x:V) (K:Z9 R):Option R :=
 match P.underlying t,x with
 | some (.slice e),.dvw k sz lo none=>match st.dr k with
  | some ⟨ty,xs⟩=>match zeroCells P e with
   | some zc=>match YN ty zc with
    | some z=>bif Nat.beq sz ty.cells&&ty.keyFlat&&Nat.blt 0 ty.cells then K (st.setD k (some ⟨ty,xs.take lo.toNat++List.replicate (xs.length - lo.toNat) z⟩)) else none
    | none=>none
   | none=>none
  | none=>none
 | _,_=>none
def Qqu (v:V) (st:St) (K:V→Z9 R):Option R :=
 match v with
 | .dvw k sz lo (some h)=>match st.dr k with
  | some ⟨ty,xs⟩=>bif Nat.beq lo.toNat 0&&Nat.beq sz ty.cells then K (.dr st.nd) ((st.dropD [k]).mintD ⟨ty,xs.take h.toNat⟩) else none
  | none=>none
 | v=>K v st
inductive Item where
 | keep (d t:Nat)
 | own (d t:Nat) (ty:Ty)
 | data (d t:Nat) (ty:Ty)
 | box (d s n:Nat)
 | rows (d s:Nat) (ty:Ty)
 | boxd (d s:Nat) (ty:Ty)
 | raw (d t:Nat) (ty:Ty)
 | mapb (d s:Nat) (k v:Ty)
 | ownb (d s j:Nat) (ty:Ty)
 | drb (d t:Nat) (ty:Ty)
 | drbb (d s j:Nat) (ty:Ty)
 | same (d t d0 t0:Nat)
abbrev Ann:=List Item
def V.canon:V→V
 | .own _ t xs=>.d (.list t) xs
 | .agg cs=>.agg (canonL cs)
 | .eptr cs=>.eptr (canonL cs)
 | .fn f cs=>.fn f (canonL cs)
 | .tup cs=>.tup (canonL cs)
 | .raw _ | .qptr .. | .dr _ | .dq .. | .dvw ..=>.any
 | v=>v
where canonL:List V→List V
 | []=>[]
 | c::cs=>c.canon::canonL cs
def V.kept (k:Nat→Nat→Bool) (q:Bool:=true):V→Bool
 | .ptr dp s _ | .rptr dp s _ _ _ | .msl dp s | .mp dp s=>k dp s
 | .agg cs | .eptr cs | .fn _ cs | .tup cs=>keptL k q cs
 | .raw _ | .qptr ..=>q
 | _=>true
where keptL (k:Nat→Nat→Bool) (q:Bool):List V→Bool
 | []=>true
 | c::cs=>V.kept k q c&&keptL k q cs
def Item.isBox (d s:Nat):Item→Bool | .box d' s' _ | .rows d' s' _ | .boxd d' s' _ | .mapb d' s' _ _=>Nat.beq s' s&&Nat.beq d' d | _=>false
def Ann.keeps:Ann→Nat→Nat→Bool | [],_,_=>false | i::A,d,s=>i.isBox d s||Ann.keeps A d s
def Ann.growsIn (A:Ann) (d s j:Nat):Bool:=A.any fun i=>match i with
 | .ownb d' s' j' _=>Nat.beq d' d&&Nat.beq s' s&&Nat.beq j' j
 | _=>false
def QlO (A:Ann) (d s:Nat):Nat→List V→List V | _,[]=>[] | j,c::cs=>(bif A.growsIn d s j then .any else c)::QlO A d s (j+1) cs
def St.live (A:Ann):St→Ann→Option (List V)
 | _,[]=>some []
 | st,.keep d t::r=>bif (st.tm d t).kept A.keeps then (St.live A st r).map ((st.tm d t).canon::·) else none
 | st,.own d t ty::r=>match st.tm d t with
  | .nils=>(St.live A st r).map (.own 0 ty []::·)
  | .own tok ty' xs=>match castL? ty' ty xs with
   | some xs=>bif st.lv tok then (St.live A (st.spend tok) r).map (.own 0 ty xs::·) else none
   | none=>none
  | _=>none
 | st,.data d t ty::r=>match Y1 ty (st.tm d t) with
  | some x=>(St.live A st r).map (JO ty x::·)
  | none=>none
 | st,.box d s n::r=>match st.bx d s with
  | .cells cs=>bif Nat.beq cs.length n&&V.kept.keptL A.keeps true cs then (St.live A st r).map (.agg (QlO A d s 0 (V.canon.canonL cs))::·) else none
  | _=>none
 | st,.rows d s ty::r=>match st.bx d s with
  | .rows ty' xs=>match castL? ty' ty xs with
   | some xs=>(St.live A st r).map (.d (.list ty) xs::·)
   | none=>none
  | _=>none
 | st,.boxd d s ty::r=>match st.bx d s with
  | .cells cs=>match YN ty cs with
   | some x=>(St.live A st r).map (.agg (Qm ty x)::·)
   | none=>none
  | _=>none
 | st,.raw d t ty::r=>match st.tm d t with
  | .nils=>(St.live A st r).map (.own 0 ty []::·)
  | .raw tok=>match st.rw tok with
   | some ⟨ty',xs⟩=>match castL? ty' ty xs with
    | some xs=>bif st.lv tok then (St.live A (st.spend tok) r).map (.own 0 ty xs::·) else none
    | none=>none
   | none=>none
  | _=>none
 | st,.mapb d s k v::r=>match st.bx d s with
  | .map k' v' es=>match castE? k' v' k v es with
   | some es=>(St.live A st r).map (.d (.map k v) es::·)
   | none=>none
  | _=>none
 | st,.ownb d s j ty::r=>match st.bx d s with
  | .cells cs=>match cs[j]? with
   | some .nils=>(St.live A st r).map (.own 0 ty []::·)
   | some (.own tok ty' xs)=>match castL? ty' ty xs with
    | some xs=>bif st.lv tok then (St.live A (st.spend tok) r).map (.own 0 ty xs::·) else none
    | none=>none
   | _=>none
  | _=>none
 | st,.drb d t ty::r=>match st.tm d t with
  | .dr k=>match st.dr k with
   | some ⟨ty',xs⟩=>match castL? ty' ty xs with
    | some xs=>(St.live A (st.setD k none) r).map (.d (.list ty) xs::·)
    | none=>none
   | none=>none
  | .nils=>(St.live A st r).map (.d (.list ty) []::·)
  | _=>none
 | st,.drbb d s j ty::r=>match st.bx d s with
  | .cells cs=>match cs[j]? with
   | some .nils=>(St.live A st r).map (.d (.list ty) []::·)
   | some (.dr k)=>match st.dr k with
    | some ⟨ty',xs⟩=>match castL? ty' ty xs with
     | some xs=>(St.live A (st.setD k none) r).map (.d (.list ty) xs::·)
     | none=>none
    | none=>none
   | _=>none
  | _=>none
 | st,.same d t d0 t0::r=>match st.tm d t,st.tm d0 t0 with
  | .raw k,.raw k'=>bif Nat.beq k k'&&st.lv k&&Nat.ble d0 d then (St.live A st r).map (.nils::·) else none
  | .dr k,.dr k'=>bif Nat.beq k k'&&(st.dr k).isSome&&Nat.ble d0 d then (St.live A st r).map (.nils::·) else none
  | _,_=>none
def noG:Nat→Option (List V):=fun _=>none
def St.empty:St:=⟨fun _ _=>.any,fun _ _=>.none,0,fun _=>false,fun _=>none,noG,fun _=>none,0⟩
def QZ:Ann→List V→St
 | .keep d t::r,v::vs=>(QZ r vs).set d t v
 | .own d t ty::r,.own _ ty' xs::vs =>
  let st:=QZ r vs
  match castL? ty' ty xs with
  | some xs=>st.mint.set d t (.own st.nt ty xs)
  | none=>st
 | .data d t _::r,v::vs=>(QZ r vs).set d t v
 | .box d s _::r,.agg cs::vs=>(QZ r vs).setB d s (.cells cs)
 | .rows d s ty::r,.d (.list ty') xs::vs=>match castL? ty' ty xs with
  | some xs=>(QZ r vs).setB d s (.rows ty xs)
  | none=>QZ r vs
 | .boxd d s _::r,.agg cs::vs=>(QZ r vs).setB d s (.cells cs)
 | .raw d t ty::r,.own _ ty' xs::vs =>
  let st:=QZ r vs
  match castL? ty' ty xs with
  | some xs=>(st.mintR ⟨ty,xs⟩).set d t (.raw st.nt)
  | none=>st
 | .mapb d s k v::r,.d (.map k' v') es::vs=>match castE? k' v' k v es with
  | some es=>(QZ r vs).setB d s (.map k v es)
  | none=>QZ r vs
 | .ownb d s j ty::r,.own _ ty' xs::vs =>
  let st:=QZ r vs
  match castL? ty' ty xs with
  | some xs=>match st.bx d s with
   | .cells cs=>st.mint.setB d s (.cells (cs.set j (.own st.nt ty xs)))
   | _=>st
  | none=>st
 | .drb d t ty::r,.d (.list ty') xs::vs =>
  let st:=QZ r vs
  match castL? ty' ty xs with
  | some xs=>(st.mintD ⟨ty,xs⟩).set d t (.dr st.nd)
  | none=>st
 | .drbb d s j ty::r,.d (.list ty') xs::vs =>
  let st:=QZ r vs
  match castL? ty' ty xs with
  | some xs=>match st.bx d s with
   | .cells cs=>(st.mintD ⟨ty,xs⟩).setB d s (.cells (cs.set j (.dr st.nd)))
   | _=>st
  | none=>st
 | .same d t d0 t0::r,_::vs=>(QZ r vs).set d t ((QZ r vs).tm d0 t0)
 | _,_=>St.empty
abbrev QbK (R:Type):=List (List Nat × Z9 R)
structure Ctx (R:Type) where
 P:Program
 L:List Nat→List V→Option R
 A:List (List Nat × Ann)
 I:List (List Nat × Nat)
 con:Nat→List V→(V→Option R)→Option R
 inl:Nat→List Nat→Nat→List V→(V→Z9 R)→Z9 R
 lab:Nat→List Nat→Nat→(V→Z9 R)→QbK R
def Qml:List Nat→List Nat→Bool | [],[]=>true | a::x,b::y=>Nat.beq a b&&Qml x y | _,_=>false
def Vq {α:Type}:List (List Nat × α)→List Nat→Option α | [],_=>none | (p,a)::r,q=>bif Qml p q then some a else Vq r q
def Ctx.jump (C:Ctx R) (path:List Nat) (st:St):Option R :=
 match Vq C.A path with
 | some A=>match St.live A st A with
  | some vs=>C.L path vs
  | none=>none
 | none=>none
def Qpd:Operand→Option Nat | .global g=>some g | _=>none
def Q2:Nat:=1000000
def QAM (d:Nat) (dst:Option Nat) (st:St) (K:Z9 R) (v:V):Option R :=
 match v with
 | .d (.list t) xs=>K (st.mint.put d dst (.own st.nt t xs))
 | _=>none
def ZH:Nat:=2000000
def QBK (d:Nat) (dst:Option Nat) (st:St) (K:Z9 R) (v:V):Option R:=K ((JU v st).2.put d dst (JU v st).1)
def VY:Nat:=3000000
def QBL (d:Nat) (dst:Option Nat) (st:St) (a:V) (K:Z9 R) (v:V):Option R :=
 match v with
 | .tup [.d (.int .i64) k,b]=>(Qay a b st).bind fun st'=>K (st'.put d dst (.d (.int .i64) k))
 | _=>none
def Q1:Nat:=4000000
def QBi (d:Nat) (dst:Option Nat) (st:St) (t:Ty) (K:Z9 R) (v:V):Option R :=
 match v with
 | .d (.list t') ys=>match castL? t' t ys with
  | some ys=>K (st.mint.put d dst (.own st.nt t ys))
  | none=>none
 | _=>none
def QzD (con:Nat→List V→(V→Option R)→Option R) (st:St) (g' i:Nat) (args:List V) (d:Nat) (dst:Option Nat) (K:Z9 R):Option R :=
 match args[i]? with
 | some (.own tok t xs)=>bif st.lv tok then con g' (args.set i (.d (.list t) xs)) (QBi d dst (st.spend tok) t K) else none
 | some .nils=>con g' args (QAM d dst st K)
 | _=>none
def Yc:Nat:=100000000
def QbL:List V→Option (List (Nat × Nat)) | []=>some [] | .ptr d s off::r=>bif Nat.beq off 0 then (QbL r).map ((d,s)::·) else none | _=>none
def Qmm:List (Nat × Nat)→List (Nat × Nat)→Bool | [],[]=>true | a::x,b::y=>Nat.beq a.1 b.1&&Nat.beq a.2 b.2&&Qmm x y | _,_=>false
def QAN (p:Nat × Nat):List (Nat × Nat)→Bool | []=>false | q::l=>Nat.beq p.1 q.1&&Nat.beq p.2 q.2||QAN p l
def Qva:List (Nat × Nat)→Bool | []=>true | p::l=>!(QAN p l)&&Qva l
def Qv8 (st:St) (g:Nat) (ps:List (Nat × Nat)) (p:Nat × Nat):Option V:=match st.bx p.1 p.2 with
 | .cells [.own tok t xs]=>bif st.lv tok then some (.d (.list t) xs) else none
 | .cells [.nils]=>some .nils
 | .cells [.fn g' caps]=>match QbL caps with
  | some ps'=>bif Nat.beq g' g&&Qmm ps' ps then some (.d .bool true) else none
  | none=>none
 | .cells cs=>some (.agg cs)
 | _=>none
def Qv9 (st:St) (g:Nat) (ps:List (Nat × Nat)):List (Nat × Nat)→Option (List V)
 | []=>some []
 | p::r=>match Qv8 st g ps p,Qv9 st g ps r with
  | some v,some vs=>some (v::vs)
  | _,_=>none
def Qdy (st:St):List (Nat × Nat)→List (Option Nat)
 | []=>[]
 | p::r=>match st.bx p.1 p.2 with
  | .cells [.own tok _ _]=>some tok::Qdy st r
  | .cells [.nils]=>none::Qdy st r
  | _=>Qdy st r
def QAO (nt:Nat) (v:V) (old:Box):Box:=match v with
 | .agg cs=>.cells cs
 | .d (.list t) ys=>.cells [.own nt t ys]
 | _=>old
def QnA (nt:Nat):List (Nat × Nat)→List V→(Nat→Nat→Box)→Nat→Nat→Box | p::ps,v::vs,bx=>QrW (QnA nt ps vs bx) p.1 p.2 (QAO nt v (bx p.1 p.2)) | _,_,bx=>bx
def Qvb:Nat→List V→Bool | n,[]=>Nat.beq n 1 | n,.agg _::r=>Qvb n r | n,.d (.list _) _::r=>Qvb (n+1) r | n,.d .bool _::r=>Qvb n r | _,_=>false
def V.self?:V→Bool | .d .bool _=>true | _=>false
def QrI:List V→List V→Bool | [],[]=>true | c::r,v::q=>(c.self? == v.self?)&&QrI r q | _,_=>false
def St.after (st:St):Option Nat→St | some k=>(st.spend k).mint | none=>st.mint
def QzE (con:Nat→List V→(V→Option R)→Option R) (st:St) (g' g:Nat) (args caps:List V) (d:Nat) (dst:Option Nat) (K:Z9 R):Option R :=
 match QbL caps with
 | some ps=>bif Qva ps then (match Qv9 st g ps ps,Qdy st ps with
  | some cs,[x]=>con g' (args++cs) fun v=>match v with
   | .tup (r::outs)=>bif r.scl&&Nat.beq outs.length ps.length&&Qvb 0 outs&&QrI cs outs then K (({ st.after x with bx:=QnA st.nt ps outs st.bx }).put d dst r) else none
   | _=>none
  | _,_=>none) else none
 | none=>none
def Vg:Nat:=200000000
def QBp (con:Nat→List V→(V→Option R)→Option R) (st:St) (g':Nat) (args:List V) (d:Nat) (dst:Option Nat) (K:Z9 R):Option R :=
 match args with
 | .raw tok::rest=>match st.rw tok with
  | some ⟨t,xs⟩=>bif st.lv tok then con g' (.d (.list t) xs::rest) (fun v=>match v with
   | .d (.list t') ys=>match castL? t' t ys with
    | some ys=>K (((st.spend tok).mintR ⟨t,ys⟩).put d dst (.raw st.nt))
    | none=>none
   | _=>none) else none
  | none=>none
 | _=>none
def V.dok1:V→Bool | .d t _=>t.dok | _=>false
def V.dokV:V→Bool | .agg cs=>cs.all V.dok1 | v=>v.dok1
def V.hotOk (st:St) (a:V):Bool:=(st.res a).dokV&&Qgf a.drs&&a.drs.all (fun k=>(st.dr k).isSome)&&match a with
 | .dr _=>true
 | .agg cs=>cs.all (V.dpart st)
 | _=>false
def QzF (con:Nat→List V→(V→Option R)→Option R) (st:St) (g:Nat) (args:List V) (K:V→Option R):Option R :=
 match V.drs.drsL args with
 | []=>con g args K
 | _=>con g (St.res.resL st args) fun v=>bif v.scl then K v else none
def Qjm:Operand→Bool | .const (.map none)=>true | _=>false
def QkW (P:Program) (t:TypeId):V:=match Xz P JS t with
 | some (.map k v)=>.d (.map k v) []
 | _=>.any
def Jw (C:Ctx R) (d:Nat) (path:List Nat) (here:Nat) (o:Oper) (st:St) (K:Z9 R):Option R :=
 let out (v:V):Option R:=K (st.put d o.dst v)
 match o.op with
 | .move x=>out (st.ev d x)
 | .assign x=>out (bif Qjm x then QkW C.P o.type else st.ev d x)
 | .pick c a b=>match st.ev d c with
  | .d .bool t=>bif t then out (st.ev d a) else out (st.ev d b)
  | _=>none
 | .binOp op t x y _=>bif Qqs y then QBo C.P op t (st.ev d x) out else Qeg C.P op t (st.ev d x) (st.ev d y) out
 | .unOp op _ x=>unC op (st.ev d x) out
 | .load t a=>match Qpd a with
  | some g=>(match st.gl g with
   | some cs=>EX C.P t cs 0 out
   | none=>none)
  | none=>QfC C.P st t (st.ev d a) out
 | .store t a x=>Qxi C.P st t (st.ev d a) (st.ev d x) fun st=>K (st.put d o.dst .any)
 | .alloc e=>match o.dst,zeroCells C.P e with
  | some s,some z=>match st.bx d s with
   | .none=>K ((st.setB d s (.cells z)).set d s (.ptr d s 0))
   | _=>none
  | _,_=>none
 | .box _ x=>match o.dst with
  | some s=>match st.bx d s with
   | .none=>bif (st.ev d x).plain then K ((st.setB d s (.cells (st.ev d x).cellsOf)).set d s (.ptr d s 0)) else none
   | _=>none
  | none=>none
 | .nilCheck x=>match st.ev d x with
  | .ptr a b c=>out (.ptr a b c)
  | .eptr cs=>out (.eptr cs)
  | .rptr a b c e f=>out (.rptr a b c e f)
  | _=>none
 | .fieldAddr t x f=>EY C.P t (st.ev d x) f out
 | .field t x f=>Qo8 C.P t (st.ev d x) f out
 | .indexAddr t x i=>Ue C.P st t (st.ev d x) (st.ev d i) out
 | .index t x i=>Qo9 C.P t (st.ev d x) (st.ev d i) out
 | .slice t x lo hi none=>QhC C.P st t (st.ev d x) (lo.map (st.ev d)) (hi.map (st.ev d)) out
 | .slice t x lo hi (some m)=>QkU C.P t (st.ev d x) (lo.map (st.ev d)) (hi.map (st.ev d)) (some (st.ev d m)) out
 | .convert s t x=>QrZ C.P s t (st.ev d x) out
 | .extract x i=>match st.ev d x with
  | .tup vs=>match vs[i]? with
   | some v=>out v
   | none=>none
  | _=>none
 | .build t ps=>Qpa C.P t (ps.toList.map fun p=>(p.1,st.ev d p.2)) out
 | .buildSlice t n ps=>match Vq C.I (here::path) with
  | some 0=>Qr1 C.P st t n (ps.toList.map fun p=>(p.1,st.ev d p.2)) fun v st=>K (st.put d o.dst v)
  | some _=>Qpb C.P st t n (ps.toList.map fun p=>(p.1,st.ev d p.2)) fun v st=>K (st.put d o.dst v)
  | none=>QcC C.P st t n (ps.toList.map fun p=>(p.1,st.ev d p.2)) fun v st=>K (st.put d o.dst v)
 | .makeSlice t l c=>match Vq C.I (here::path) with
  | some _=>Qu9 C.P st t (st.ev d l) (st.ev d c) fun v st=>K (st.put d o.dst v)
  | none=>QbJ C.P st d o.dst t (st.ev d l) (st.ev d c) fun v st=>K (st.put d o.dst v)
 | .lookup t x i ok=>QdP C.P st t (st.ev d x) (st.ev d i) ok out
 | .makeMap t none=>Qnz C.P st d o.dst t fun v st=>K (st.put d o.dst v)
 | .mapUpdate t m k x=>QhD C.P st t (st.ev d m) (st.ev d k) (st.ev d x) fun st=>K (st.put d o.dst .any)
 | .insert t m k x=>QhD C.P st t (st.ev d m) (st.ev d k) (st.ev d x) fun st=>K (st.put d o.dst .any)
 | .makeFunc (.func f) first caps=>match first.toList with
  | []=>out (.fn f (caps.toList.map (st.ev d)))
  | _=>none
 | .call { callee:=.builtin .len,args,argTypes }=>match args.toList,argTypes.toList with
  | [x],[t]=>Qu6 C.P st t (st.ev d x) out
  | _,_=>none
 | .call { callee:=.builtin .min,args,.. }=>match args.toList with
  | [x,y]=>QyP (st.ev d x) (st.ev d y) out
  | _=>none
 | .call { callee:=.builtin .max,args,.. }=>match args.toList with
  | [x,y]=>QyQ (st.ev d x) (st.ev d y) out
  | _=>none
 | .call { callee:=.builtin .clear,args,argTypes }=>match args.toList,argTypes.toList with
  | [x],[t]=>Qxj C.P st t (st.ev d x) fun st=>K (st.put d o.dst .any)
  | _,_=>none
 | .call { callee:=.builtin .append,args,argTypes }=>match args.toList,argTypes.toList with
  | [s,x],[t,t']=>bif Nat.beq t t' then (match Vq C.I (here::path) with
   | some _=>Qpc C.P st t (st.ev d s) (st.ev d x) fun v st=>K (st.put d o.dst v)
   | none=>QkV C.P st t (st.ev d s) (st.ev d x) fun v st=>K (st.put d o.dst v)) else none
  | _,_=>none
 | .call { callee:=.value f,args,.. }=>match st.ev d f with
  | .fn g caps=>match Vq C.I (here::path) with
   | some g'=>bif Nat.beq g g' then C.inl d (here::path) g (args.toList.map (st.ev d)++caps) (fun v st=>Qqu v st fun v st=>K (st.put d o.dst v)) st else
    bif Nat.blt g Q2 then
     bif Nat.beq (g+Q2) g' then C.con g' (args.toList.map (st.ev d)++caps) (QAM d o.dst st K) else
     bif Nat.beq (g+ZH) g' then C.con g' (St.res.resL st (args.toList.map (st.ev d)++caps)) (QBK d o.dst st K) else
     bif Nat.beq (g+VY) g' then (match args.toList.map (st.ev d)++caps with
      | [a,.d (.int .i64) k]=>bif V.hotOk st a then C.con g' [st.res a,.d (.int .i64) k] (QBL d o.dst st a K) else none
      | _=>none) else
     bif Nat.ble Q1 g'&&Nat.beq ((g' - Q1) / 64) g then QzD C.con st g' ((g' - Q1) % 64) (args.toList.map (st.ev d)++caps) d o.dst K else
     bif Nat.ble Yc g'&&Nat.beq (g' - Yc) g then QzE C.con st g' g (args.toList.map (st.ev d)) caps d o.dst K else
     bif Nat.ble Vg g'&&Nat.beq (g' - Vg) g then QBp C.con st g' (args.toList.map (st.ev d)++caps) d o.dst K else none
    else none
   | none=>bif Nat.blt g Q2 then QzF C.con st g (args.toList.map (st.ev d)++caps) out else none
  | _=>none
 | _=>none
def QfD (nn:Nat) (o:Oper):Bool :=
 match o.dst with
 | some t=>Nat.blt t nn
 | none=>true
def QdQ (C : Ctx R) (d nn : Nat) (path : List Nat) (all : List Oper) : Nat → List Oper → Z9 R → Z9 R
  | _, [], K, st => K st
  | here, o :: rest, K, st =>
    bif QfD nn o then
      match o.guard with
      | none => Jw C d path here o st (QdQ C d nn path all (here + 1) rest K)
      | some (j, want) =>
        match Qqt all j with
        | none => none
        | some t => match st.tm d t with
          | .d .bool b =>
            bif b then
              (match want with
               | true => Jw C d path here o (st.set d t (.d .bool true)) (QdQ C d nn path all (here + 1) rest K)
               | false => QdQ C d nn path all (here + 1) rest K ((st.set d t (.d .bool true)).put d o.dst .un))
            else
              (match want with
               | true => QdQ C d nn path all (here + 1) rest K ((st.set d t (.d .bool false)).put d o.dst .un)
               | false => Jw C d path here o (st.set d t (.d .bool false)) (QdQ C d nn path all (here + 1) rest K))
          | .un => QdQ C d nn path all (here + 1) rest K (st.put d o.dst .un)
          | _ => none
    else none
def Qr2 (C:Ctx R) (d nn:Nat) (path:List Nat) (all:List Oper):Nat→List Oper→Z9 R→QbK R
 | _,[],_=>[]
 | here,o::rest,K =>
  (match Vq C.I (here::path) with
   | some g=>C.lab d (here::path) g (fun v st=>Qqu v st fun v st=>QdQ C d nn path all (here+1) rest K (st.put d o.dst v))
   | none=>[])++Qr2 C d nn path all (here+1) rest K
inductive Ex where | normal | exit (i:Nat) | ret
abbrev Qaz (R:Type):=Ex→St→Option R
def QcD:Code→Nat | .region id _ _=>id | .seq a _=>QcD a | .cond _ a _=>QcD a | .block _ b=>QcD b | .loop b=>QcD b | .scope b=>QcD b | _=>0
def Qvc (nx:Z9 R) (K:Qaz R):Qaz R | .normal,st=>nx st | e,st=>K e st
def QzG (id:Nat) (K:Qaz R):Qaz R | .exit i,st=>bif Nat.beq i id then K .normal st else K (.exit i) st | e,st=>K e st
def Ctx.cutAt (C:Ctx R) (path:List Nat) (b:Code):Bool:=(Vq C.A (1::QcD b::path)).isSome
def Vh (P:Program) (o:Oper):Bool :=
 match o.op with
 | .binOp _ _ _ y _=>!(Qqs y)
 | .load _ a=>(Qpd a).isNone
 | .move _ | .assign _ | .pick .. | .unOp .. | .nilCheck _ | .fieldAddr .. | .field .. | .indexAddr .. | .index .. | .slice .. | .extract .. | .build .. | .makeFunc .. | .lookup ..=>true
 | .convert s t _=>match P.underlying s,P.underlying t with
  | some .string,some (.slice _)=>false
  | _,_=>true
 | .call { callee:=.builtin .len,.. } | .call { callee:=.builtin .min,.. } | .call { callee:=.builtin .max,.. }=>true
 | _=>false
def Ef (o:Oper):Bool :=
 match o.op with
 | .call { callee:=.value _,.. }=>true
 | _=>false
def YP:Operand→List Nat | .tmp t=>[t] | _=>[]
def Uf (o:Oper):List Nat :=
 match o.op with
 | .move x | .assign x=>YP x
 | .pick c a b=>YP c++YP a++YP b
 | .binOp _ _ x y _=>YP x++YP y
 | .unOp _ _ x=>YP x
 | .load _ a=>YP a
 | .nilCheck x=>YP x
 | .fieldAddr _ x _=>YP x
 | .field _ x _=>YP x
 | .indexAddr _ x i=>YP x++YP i
 | .index _ x i=>YP x++YP i
 | .lookup _ x i _=>YP x++YP i
 | .mapUpdate _ m k x | .insert _ m k x=>YP m++YP k++YP x
 | .slice _ x lo hi mx=>YP x++(lo.toList.flatMap YP)++(hi.toList.flatMap YP)++(mx.toList.flatMap YP)
 | .convert _ _ x=>YP x
 | .extract x _=>YP x
 | .build _ ps=>ps.toList.flatMap fun p=>YP p.2
 | .box _ x=>YP x
 | .buildSlice _ _ ps=>ps.toList.flatMap fun p=>YP p.2
 | .makeSlice _ l c=>YP l++YP c
 | .makeFunc _ _ caps=>caps.toList.flatMap YP
 | .call { callee:=.value f,args,.. }=>YP f++args.toList.flatMap YP
 | .call { args,.. }=>args.toList.flatMap YP
 | _=>[]
def QdR (o:Oper):Bool :=
 match o.op with
 | .alloc _ | .box .. | .buildSlice .. | .makeSlice .. | .convert ..=>true
 | .call { callee:=.builtin .append,.. }=>true
 | _=>false
def Qug (o:Oper):Bool :=
 match o.op with
 | .alloc _ | .box .. | .makeSlice ..=>true
 | _=>false
def QhE (o:Oper):Bool :=
 match o.op with
 | .buildSlice ..=>true
 | .call { callee:=.builtin .append,.. }=>true
 | _=>false
inductive Eff where
 | val (v:V)
 | boxed (v:V) (b:Box)
 | grown (k:Option Nat) (v:V)
 | deep (v:V) (dr:Nat→Option RBox) (nd:Nat)
def Eff.app (e:Eff) (d:Nat) (dst:Option Nat) (st:St):St :=
 match e with
 | .val v=>st.put d dst v
 | .boxed v b=>match dst with
  | some t=>(st.setB d t b).set d t v
  | none=>st
 | .grown k v=>(match k with
  | some k=>(st.spend k).mint
  | none=>st.mint).put d dst v
 | .deep v dr nd=>({ st with dr:=dr,nd:=nd }:St).put d dst v
def QkX (o:Oper):List Nat:=(o.after.toList.filter (Region.binds .any)).map (·.on)
def JT (ops:Array Oper) (i:Nat):List Nat :=
 match ops[i]? with
 | some o=>QkX o
 | none=>[]
def GF (ops:Array Oper) (i:Nat):Option Nat:=(ops[i]?).bind (·.dst)
def Wi (i:Nat):List Nat→Bool | []=>false | j::l=>Nat.beq i j||Wi i l
def Qcn (ops:Array Oper) (i:Nat):List Nat :=
 match ops[i]? with
 | some o=>Uf o++(match o.guard with
  | some (j,_)=>(Qqt ops.toList j).toList
  | none=>[])
 | none=>[]
def Qmn (ops:Array Oper) (listed:Array Bool):List Nat:=(List.range ops.size).filter fun i=>!listed.getD i true
def Vl (I:List (List Nat × Nat)) (path:List Nat) (id:Nat) (ops:Array Oper) (i:Nat):Bool :=
 match ops[i]? with
 | some o=>(match o.op with
  | .call { callee:=.value (.func g),.. }=>Nat.blt g Q2&&(match Vq I ((1000*id+i)::path) with
   | some g'=>Nat.beq (g+ZH) g'
   | none=>false)
  | _=>false)
 | none=>false
def QtH (o:Oper):Bool :=
 match o.op with
 | .indexAddr .. | .load .. | .slice ..=>true
 | .call { callee:=.builtin .len,.. }=>true
 | _=>false
def Qeh (ops:Array Oper) (i:Nat):Bool :=
 match ops[i]? with
 | some o=>QtH o||Ef o
 | none=>true
def QfE (P:Program) (I:List (List Nat × Nat)) (path:List Nat) (id:Nat) (ops:Array Oper) (i:Nat):Bool :=
 (match ops[i]? with
 | some o=>Vh P o||((QdR o||Ef o)&&(Vq I ((1000*id+i)::path)).isNone)
 | none=>false)||Vl I path id ops i
def Qwa (ops:Array Oper) (left:List Nat):Nat→List Nat→List Nat | 0,acc=>acc | n+1,acc=>Qwa ops left n (left.filter fun i=>Wi i acc||acc.any fun k=>Wi i (JT ops k))
def Qgg (ops:Array Oper) (listed:Array Bool):List Nat→List Nat→Bool | _,[]=>true | Zp,i::r=>!Wi i Zp&&((JT ops i).all fun p=>listed.getD p false||Wi p Zp)&&Qgg ops listed (i::Zp) r
def QrJ (ops:Array Oper) (k:Nat):List Nat→Bool | []=>true | i::r=>(Wi i (JT ops k)||r.any fun j=>Wi i (JT ops j))&&QrJ ops k r
def ZC (ops:Array Oper) (i:Nat):Bool :=
 match ops[i]? with
 | some o=>QhE o
 | none=>false
def Qwb (ops:Array Oper) (i:Nat):Bool :=
 match ops[i]? with
 | some o=>Qug o
 | none=>false
def QnB (ops:Array Oper) (S:List Nat):List Nat:=(S.filter (Qwb ops)).filterMap (GF ops)
def Qvd (ops:Array Oper) (i j:Nat):Bool :=
 match GF ops j with
 | some t=>(match GF ops i with
  | some t'=>!Nat.beq t t'
  | none=>true)&&(!Wi t (Qcn ops i)||Wi j (JT ops i))
 | none=>true
def QzH (ops:Array Oper) (i:Nat):Bool :=
 match GF ops i with
 | some t=>!Wi t (Qcn ops i)
 | none=>true
def Qei (o:Oper):Bool :=
 match o.op with
 | .binOp _ _ _ y _=>!(Qqs y)
 | .move _ | .assign _ | .pick .. | .extract .. | .unOp .. | .fieldAddr ..=>true
 | _=>false
def Qmo (ops:Array Oper) (listed:Array Bool) (i:Nat):Bool :=
 (match ops[i]? with
  | some o=>Qei o
  | none=>false)&&match ops[i]? with
  | some oi=>(List.range ops.size).all fun j=>Nat.beq j i||listed.getD j true||Wi j (QkX oi)||match ops[j]? with
   | some oj=>Wi i (QkX oj)||oi.apart ops oj
   | none=>true
  | none=>false
def QyR (ops:Array Oper) (listed:Array Bool) (left acc:List Nat):List Nat:=left.foldl (fun acc i=>bif Wi i acc then acc else bif Qmo ops listed i&&(JT ops i).all (fun p=>listed.getD p false||Wi p acc) then i::acc else acc) acc
def Qea (ops:Array Oper) (listed:Array Bool) (left:List Nat) (h:Nat):List Nat :=
 let S:=QyR ops listed left ((Qwa ops left left.length [h]).filter fun i=>!Nat.beq i h)
 left.filter fun i=>Wi i S
def Qmp (ops:Array Oper):List Nat→Bool
 | []=>true
 | i::r=>(match r with
  | []=>true
  | j::_=>Wi i (JT ops j))&&Qmp ops r
def QrK (I:List (List Nat × Nat)) (path:List Nat) (id:Nat) (ops:Array Oper) (S:List Nat):Bool :=
 match S.filter (Vl I path id ops) with
 | []=>true
 | [i]=>S.all fun j=>Nat.beq j i||!Qeh ops j||Wi j (Qwa ops S S.length [i])||Wi i (Qwa ops S S.length [j])
 | _=>false
def QBM (ops:Array Oper) (S:List Nat) (i:Nat):Bool :=
 (match ops[i]? with
  | some o=>(match o.op with
   | .assign _=>true
   | _=>false)
  | none=>false)&&S.any fun j=>!Nat.beq i j&&!Qvd ops j i
def Qjn (P:Program) (I:List (List Nat × Nat)) (path:List Nat) (id:Nat) (ops:Array Oper) (listed:Array Bool):List Nat :=
 let left:=Qmn ops listed
 let S:=match left.find? fun i=>!QfE P I path id ops i with
  | none=>left
  | some h=>Qea ops listed left h
 let S:=match S.filter fun i=>ZC ops i with
  | _::h::_=>bif Qmp ops (S.filter fun i=>ZC ops i) then S else Qea ops listed left h
  | _=>S
 let S:=match S.filter (Vl I path id ops) with
 | []=>S
 | [i]=>bif QrK I path id ops S then S else Qea ops listed left i
 | i::j::_ =>
  let S:=Qea ops listed left j
  bif QrK I path id ops S&&Wi i S then S else Qea ops listed left i
 match S.find? (QBM ops S) with
 | none=>S
 | some i=>(Qea ops listed left i).filter fun k=>!Nat.beq k i
def QzI (ops:Array Oper) (listed:Array Bool) (S:List Nat):Nat→List Nat→List Nat | 0,acc=>acc | n+1,acc=>QzI ops listed S n (S.filter fun i=>Wi i acc||acc.any (fun k=>Wi i (JT ops k))||(Qmo ops listed i&&(JT ops i).all fun p=>listed.getD p false||Wi p acc))
def Qxk (ops:Array Oper) (listed:Array Bool) (S:List Nat) (k:Nat):Bool :=
 let acc:=QzI ops listed S S.length (S.filter fun i=>Wi i (JT ops k))
 S.all fun i=>Wi i acc
def QgA (P:Program) (I:List (List Nat × Nat)) (path:List Nat) (id:Nat) (ops:Array Oper) (listed:Array Bool) (S:List Nat):Bool:=!S.isEmpty&&Nat.beq listed.size ops.size&&Qmp ops (S.filter (ZC ops))&&QrK I path id ops S&&(S.all fun i=>QfE P I path id ops i&&!listed.getD i true&&QzH ops i&&S.all fun j=>Nat.beq i j||Qvd ops i j)&&Qgg ops listed [] S&&((Qmn ops listed).all fun k=>Wi k S||!((JT ops k).all fun p=>listed.getD p false||Wi p S)||QrJ ops k S||Qxk ops listed S k)
def QzJ (P:Program) (ops:Array Oper):Bool:=P.follows .mixedOrders&&Region.noSelect ops
def QBq (d:Nat) (slots:List Nat) (q:Bool) (o:Oper) (st:St):Bool:=(Uf o).all fun t=>V.kept (fun x y=>!(Nat.beq x d&&Wi y slots)) q (st.tm d t)
def QAP (C:Ctx R) (d nn:Nat) (path:List Nat) (id:Nat) (ops:Array Oper) (slots:List Nat) (q:Bool):List Nat→Z9 R→Z9 R
 | [],K,st=>K st
 | i::S,K,st=>match ops[i]? with
  | some o=>bif QBq d slots q o st then QdQ C d nn path ops.toList (1000*id+i) [o] (QAP C d nn path id ops slots q S K) st else none
  | none=>none
def Qve:List (Option R)→Option R
 | []=>none
 | x::r=>match r with
  | []=>x
  | _::_=>QF x (Qve r)
def Qq6 (C:Ctx R) (d nn:Nat) (path:List Nat) (id:Nat) (ops:Array Oper):Nat→Array Bool→Z9 R→Z9 R
 | 0,listed,K,st=>bif (Region.ready .any ops listed).isEmpty then K st else none
 | n+1,listed,K,st =>
  bif (Region.ready .any ops listed).isEmpty then K st else
  let S:=Qjn C.P C.I path id ops listed
  bif QgA C.P C.I path id ops listed S then
   QAP C d nn path id ops (QnB ops S) (!(S.any (ZC ops))) S (Qq6 C d nn path id ops n (S.foldl (fun l i=>l.setIfInBounds i true) listed) K) st
  else match Region.ready .any ops listed with
   | [i]=>match ops[i]? with
    | some o=>QdQ C d nn path ops.toList (1000*id+i) [o] (Qq6 C d nn path id ops n (listed.setIfInBounds i true) K) st
    | none=>none
   | is=>Qve (is.map fun i=>match ops[i]? with
    | some o=>QdQ C d nn path ops.toList (1000*id+i) [o] (Qq6 C d nn path id ops n (listed.setIfInBounds i true) K) st
    | none=>none)
def Qvf (C:Ctx R) (d nn:Nat) (path:List Nat) (id:Nat) (ops:Array Oper):Nat→Array Bool→Z9 R→QbK R
 | 0,_,_=>[]
 | n+1,listed,K =>
  bif (Region.ready .any ops listed).isEmpty then [] else
  let S:=Qjn C.P C.I path id ops listed
  bif QgA C.P C.I path id ops listed S then Qvf C d nn path id ops n (S.foldl (fun l i=>l.setIfInBounds i true) listed) K
  else match Region.ready .any ops listed with
   | [i]=>match ops[i]? with
    | some o=>Qr2 C d nn path ops.toList (1000*id+i) [o] (Qq6 C d nn path id ops n (listed.setIfInBounds i true) K)++Qvf C d nn path id ops n (listed.setIfInBounds i true) K
    | none=>[]
   | is=>is.flatMap fun i=>match ops[i]? with
    | some o=>Qr2 C d nn path ops.toList (1000*id+i) [o] (Qq6 C d nn path id ops n (listed.setIfInBounds i true) K)++Qvf C d nn path id ops n (listed.setIfInBounds i true) K
    | none=>[]
def XC (C:Ctx R) (d nn:Nat) (path:List Nat):Code→Qaz R→Z9 R
 | .skip,K=>K .normal
 | .region id ops false,K=>QdQ C d nn path ops.toList (1000*id) ops.toList (K .normal)
 | .region id ops true,K=>fun st=>bif QzJ C.P ops then Qq6 C d nn path id ops ops.size (Array.replicate ops.size false) (K .normal) st else none
 | .seq a b,K=>XC C d nn path a (Qvc (bif C.cutAt path b then C.jump (1::QcD b::path) else XC C d nn path b K) K)
 | .cond c a b,K=>fun st=>match st.ev d c with
  | .d .bool t=>bif t then XC C d nn path a K st else XC C d nn path b K st
  | _=>none
 | .block id b,K=>XC C d nn path b (QzG id K)
 | .loop b,_=>C.jump (0::QcD b::path)
 | .exit id,K=>K (.exit id)
 | .scope b,K=>XC C d nn path b K
 | .ret,K=>K .ret
 | _,_=>fun _=>none
def YD (C:Ctx R) (d nn:Nat) (path:List Nat):Code→Qaz R→QbK R | .region id ops false,K=>Qr2 C d nn path ops.toList (1000*id) ops.toList (K .normal) | .region id ops true,K=>Qvf C d nn path id ops ops.size (Array.replicate ops.size false) (K .normal) | .seq a b,K=>(bif C.cutAt path b then [(1::QcD b::path,XC C d nn path b K)] else [])++(YD C d nn path a (Qvc (bif C.cutAt path b then C.jump (1::QcD b::path) else XC C d nn path b K) K)++YD C d nn path b K) | .cond _ a b,K=>YD C d nn path a K++YD C d nn path b K | .block id b,K=>YD C d nn path b (QzG id K) | .scope b,K=>YD C d nn path b K | .loop b,K=>(0::QcD b::path,XC C d nn path b (Qvc (C.jump (0::QcD b::path)) K))::YD C d nn path b (Qvc (C.jump (0::QcD b::path)) K) | _,_=>[]
def QAQ (d:Nat) (st:St) (v:V):Option V :=
 match v with
 | .msl d' s=>bif Nat.beq d' d then (match st.bx d' s with
  | .rows ty xs=>some (.d (.list ty) xs)
  | _=>none) else none
 | .mp d' s=>bif Nat.beq d' d then (match st.bx d' s with
  | .map k v es=>some (.d (.map k v) es)
  | _=>none) else none
 | .raw k=>bif Nat.beq d 0 then (match st.rw k with
  | some ⟨ty,xs⟩=>some (.d (.list ty) xs)
  | none=>none) else some (.raw k)
 | v=>some v
def Qxl (P:Program) (d:Nat) (st:St):ResultVar→Option V | .tmp t=>QAQ d st (st.tm d t) | .cell a t=>QfC P st t (st.tm d a) (QAQ d st)
def Qr3 (P:Program) (d:Nat) (st:St):List ResultVar→Option (List V)
 | []=>some []
 | x::r=>match Qxl P d st x,Qr3 P d st r with
  | some v,some vs=>some (v::vs)
  | _,_=>none
def QAR (P:Program) (fn:Func) (d:Nat) (st:St):Option V :=
 match Qr3 P d st fn.results.toList with
 | some [v]=>some v
 | some vs=>some (.tup vs)
 | none=>none
def Qr4 (P:Program) (fn:Func) (d:Nat) (K:V→Z9 R):Qaz R
 | .normal,st | .ret,st=>match QAR P fn d st with
  | some v=>K v st
  | none=>none
 | _,_=>none
def QhF (d:Nat):Nat→List V→(Nat→Nat→V)→Nat→Nat→V | _,[],tm=>tm | i,v::vs,tm=>upd (QhF d (i+1) vs tm) d i v
def Qr5 (d:Nat) (tm:Nat→Nat→V):Nat→Nat→V:=fun x y=>bif Nat.beq x d then .any else tm x y
def Qr6 (d:Nat) (bx:Nat→Nat→Box):Nat→Nat→Box:=fun x y=>bif Nat.beq x d then .none else bx x y
def XU (st:St) (d:Nat) (args:List V):St:={ st with tm:=QhF d 0 args (Qr5 d st.tm),bx:=Qr6 d st.bx }
def Qpe (d:Nat) (K:V→Z9 R) (v:V) (st:St):Option R:=bif v.le d then K v { st with tm:=Qr5 (d+1) st.tm,bx:=Qr6 (d+1) st.bx } else none
def JG (P:Program) (g:Nat):Bool :=
 match P.funcs[g]? with
 | some fn => fn.body.isSome && !(fn.name == "runtime.NumGoroutine")
 | none=>false
def QiV (P:Program) (L:List Nat→List V→Option R) (A:List (List Nat × Ann)) (I:List (List Nat × Nat)) (con:Nat→List V→(V→Option R)→Option R):Nat→Ctx R
 | 0=>⟨P,L,A,I,con,fun _ _ _ _ _ _=>none,fun _ _ _ _=>[]⟩
 | n+1=>⟨P,L,A,I,con,
   fun d path g args K st=>match P.funcs[g]? with
    | some fn=>match fn.body with
     | some c=>bif Nat.ble args.length fn.ntmps&&JG P g then XC (QiV P L A I con n) (d+1) fn.ntmps path c (Qr4 P fn (d+1) (Qpe d K)) (XU st (d+1) args) else none
     | none=>none
    | none=>none,
   fun d path g K=>match P.funcs[g]? with
    | some fn=>match fn.body with
     | some c=>YD (QiV P L A I con n) (d+1) fn.ntmps path c (Qr4 P fn (d+1) (Qpe d K))
     | none=>[]
    | none=>[]⟩
def G3:Nat:=6
@[reducible] def Wf:List Ty→Type
 | []=>Unit
 | [t]=>t.den
 | t::u::ts=>t.den × Wf (u::ts)
def Wj:(ts:List Ty)→List V→Option (Wf ts)
 | [],[]=>some ()
 | [t],[v]=>Y1 t v
 | t::u::ts,v::vs=>match Y1 t v,Wj (u::ts) vs with
  | some x,some y=>some (x,y)
  | _,_=>none
 | _,_=>none
def Qjo (ts:List Ty) (v:V):Option (Wf ts) :=
 match ts,v with
 | [t],v=>Y1 t v
 | ts,.tup vs=>Wj ts vs
 | _,_=>none
def ZR:(ts:List Ty)→Wf ts→List V | [],_=>[] | [t],x=>[JO t x] | t::u::ts,x=>JO t x.1::ZR (u::ts) x.2
def EL (ts:List Ty) (x:Wf ts):V :=
 match ts,x with
 | [t],x=>JO t x
 | ts,x=>.tup (ZR ts x)
def Qvg:QbK R→List Nat→Bool | [],_=>true | (p,_)::r,q=>!(Qml p q)&&Qvg r q
def QgB:QbK R→List Nat→Option (Z9 R) | [],_=>none | (p,f)::r,q=>bif Qml p q then (bif Qvg r q then some f else none) else QgB r q
def Qq7 (P:Program) (gl:Nat→Option (List V)) (A:List (List Nat × Ann)) (I:List (List Nat × Nat)) (con:Nat→List V→(V→Option R)→Option R) (fn:Func) (c:Code) (fin:Qaz R):Nat→List Nat→List V→Option R
 | 0=>fun _ _=>none
 | n+1=>fun q vs=>match QgB (YD (QiV P (Qq7 P gl A I con fn c fin n) A I con G3) 0 fn.ntmps [] c fin) q,Vq A q with
  | some f,some an=>f { QZ an vs with gl:=gl }
  | _,_=>none
def Qpf (P:Program) (gl:Nat→Option (List V)) (A:List (List Nat × Ann)) (I:List (List Nat × Nat)) (con:Nat→List V→(V→Option R)→Option R) (fn:Func) (c:Code) (fin:Qaz R) (n:Nat) (args:List V):Option R:=bif Nat.ble args.length fn.ntmps then XC (QiV P (Qq7 P gl A I con fn c fin n) A I con G3) 0 fn.ntmps [] c fin (XU { St.empty with gl:=gl } 0 args) else none
def QyS (P:Program) (fn:Func) (fin:V→Option R):Qaz R:=Qr4 P fn 0 fun v _=>fin v
def run (P:Program) (A:List (List Nat × Ann)) (I:List (List Nat × Nat)) (con:Nat→List V→(V→Option R)→Option R) (fn:Func) (c:Code) (fin:V→Option R) (n:Nat) (args:List V):Option R:=Qpf P noG A I con fn c (QyS P fn fin) n args
def QzK (t:Ty) (st:St) (v:V):Option (List t.den) :=
 match v with
 | .nils=>some []
 | .own tok t' xs=>bif st.lv tok then castL? t' t xs else none
 | .raw tok=>match st.rw tok with
  | some ⟨t',xs⟩=>castL? t' t xs
  | none=>none
 | _=>none
def QhG (P:Program) (fn:Func) (t:Ty):Qaz (List t.den)
 | .normal,st | .ret,st=>match fn.results.toList with
  | [.tmp x]=>QzK t st (st.tm 0 x)
  | [.cell a ty]=>QfC P st ty (st.tm 0 a) (QzK t st)
  | _=>none
 | _,_=>none
def QhH (P:Program) (st:St):List ResultVar→Option (List V) | []=>some [] | .tmp t::r=>(QhH P st r).map (st.tm 0 t::·) | .cell a t::r=>QfC P st t (st.tm 0 a) fun v=>(QhH P st r).map (v::·)
def V.dwhole (st:St):V→Bool | .agg cs=>cs.all (V.dpart st) | v=>v.dpart st
def QtI (P:Program) (fn:Func) (rets:List Ty):Qaz (Wf rets)
 | .normal,st | .ret,st=>match QhH P st fn.results.toList with
  | some vs=>bif vs.all (V.dwhole st)&&Qgf (V.drs.drsL vs)&&rets.all Ty.dok&&Nat.beq vs.length rets.length then Wj rets (St.res.resL st vs) else none
  | none=>none
 | _,_=>none
end
end Go.Ab
