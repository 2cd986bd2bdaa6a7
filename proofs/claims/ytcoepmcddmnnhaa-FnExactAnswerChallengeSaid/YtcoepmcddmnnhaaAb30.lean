import Derived.Test.YtcoepmcddmnnhaaAb29
namespace Go.Ab
def TS.s1 : TS:=⟨fun t=>match t with
 | 1=>.kk 0
 | 2=>.elp 0
 | _=>.any,0,0⟩
def isBox (o : Oper) : Bool:=match o.guard,o.dst,o.op with
 | none,some d,.box _ (.tmp x)=>Nat.beq d 2 && Nat.beq x 0
 | _,_,_=>false
end Go.Ab
