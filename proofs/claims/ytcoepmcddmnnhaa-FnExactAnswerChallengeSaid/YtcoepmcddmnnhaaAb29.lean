import Derived.Test.YtcoepmcddmnnhaaAb28
namespace Go.Ab
def QgU (o : Oper) (d x : Nat) : Bool :=
 match o.guard,o.dst,o.op with
 | none,some d',.move (.tmp x')=>Nat.beq d d' && Nat.beq x x'
 | none,some d',.assign (.tmp x')=>Nat.beq d d' && Nat.beq x x'
 | _,_,_=>false
def Qi4 (o : Oper) (d : Nat) : Bool :=
 match o.guard,o.dst,o.op with
 | none,some d',.assign (.const (.int .i64 n))=>Nat.beq d d' && decide (n = 0)
 | _,_,_=>false
def Qi5 (P : Program) (tl : TypeId) (o : Oper) (d x : Nat) : Bool :=
 match o.guard,o.dst,o.op with
 | none,some d',.call { callee:=.builtin .len,args,argTypes }=>match args.toList,argTypes.toList with
  | [.tmp x'],[t]=>Nat.beq d d' && Nat.beq x x' && Nat.beq t tl && (match P.underlying t with
   | some (.slice _)=>true
   | _=>false)
  | _,_=>false
 | _,_,_=>false
def Qi6 (P : Program) (o : Oper) (d x y : Nat) : Bool :=
 match o.guard,o.dst,o.op with
 | none,some d',.binOp .lss t (.tmp x') (.tmp y') _=>Nat.beq d d' && Nat.beq x x' && Nat.beq y y' && (match P.underlying t with
  | some (.int .i64)=>true
  | _=>false)
 | _,_,_=>false
def Qi7 (P : Program) (o : Oper) (d x : Nat) : Bool :=
 match o.guard,o.dst,o.op with
 | none,some d',.binOp .add t (.tmp x') (.const (.int .i64 n)) _=>Nat.beq d d' && Nat.beq x x' && decide (n = 1) && (match P.underlying t with
  | some (.int .i64)=>true
  | _=>false)
 | _,_,_=>false
section
variable {P : Program} {ops : Array Oper} {Q : Exit → Act → World → Prop} {a : Act} {w : World} {rest : List Oper} {o : Oper} {d x y : Nat}
end
def Act1.beq : Act1 → Act1 → Bool
 | .seti o,.seti o' | .sety o,.sety o' | .setb o,.setb o' | .sets o,.sets o'=>Nat.beq o o'
 | .inc,.inc=>true
 | .sub o t,.sub o' t'=>Nat.beq o o' && Ty.beq t t'
 | _,_=>false
def Qiv : List Act1 → List Act1 → Bool
 | [],[]=>true
 | a :: l,b :: l'=>a.beq b && Qiv l l'
 | _,_=>false
def TS.s0 : TS:=⟨fun t=>match t with
 | 0=>.arr
 | 1=>.kk 0
 | 5=>.ix
 | _=>.any,0,0⟩
def TS.fine (s : TS) : Bool:=(match s.tm 0 with
 | .arr=>true
 | _=>false) && (match s.tm 1 with
 | .kk j=>Nat.beq j s.ver
 | _=>false) && (match s.tm 5 with
 | .ix=>true
 | _=>false)
def hotL (P : Program) (gt : Option Nat) (hs : List (Nat × Ty)) (tl : TypeId) (t : Ty) (fn : Func) : Code → Bool
 | .seq (.region _ r0 false) (.seq (.seq (.region _ r1 false) (.block b0 (.loop (.seq (.seq (.region _ r2 false) (.cond (.tmp 9) .skip (.exit b0'))) (.seq (.block _ body) (.region _ r3 false)))))) (.seq (.region _ r4 false) .ret)) =>
  Nat.beq b0' b0 && Nat.ble 12 fn.ntmps && t.mok && (match fn.results.toList with
   | [.tmp 4]=>true
   | _=>false) && (match r0.toList with
   | [o]=>Qi4 o 4
   | _=>false) && (match r1.toList with
   | [o]=>Qi4 o 5
   | _=>false) && (match r2.toList with
   | [o1,o2,o3,o4]=>QgU o1 6 5 && QgU o2 7 0 && Qi5 P tl o3 8 7 && Qi6 P o4 9 6 8
   | _=>false) && (match r3.toList with
   | [o1,o2,o3]=>QgU o1 10 5 && Qi7 P o2 11 10 && QgU o3 5 11
   | _=>false) && (match r4.toList with
   | [o1,o2]=>(match o1.dst with
    | some d=>Nat.blt d fn.ntmps && QgU o1 d 1 && QgU o2 4 d
    | none=>false)
   | _=>false) && (match QfU ⟨P,tl,t.cells,gt,hs⟩ fn.ntmps body TS.s0 with
   | some (s',as)=>s'.fine && Qiv as (QhG t 0)
   | none=>false)
 | _=>false
section
variable {P : Program}
theorem BelowX.refl (bs : List Nat) (w : World) : BelowX bs w w:=⟨rfl,rfl,rfl,Nat.le_refl _,fun _ _ _=>rfl⟩
theorem BelowX.trans {bs : List Nat} {w w' w'' : World} (h : BelowX bs w w') (h' : BelowX bs w' w'') : BelowX bs w w'' :=
 ⟨h'.os.trans h.os,h'.tape.trans h.tape,h'.output.trans h.output,Nat.le_trans h.size h'.size,fun c h1 h2=>(h'.block c (Nat.lt_of_lt_of_le h1 h.size) h2).trans (h.block c h1 h2)⟩
end
end Go.Ab
