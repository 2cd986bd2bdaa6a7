import Derived.Test.YtkabjoifaffddaaGreatGenAffa
import Derived.Test.YtkabjoifaffddaaGreatSim
import Derived.Test.YtkabjoifaffddaaGreatProg
import Derived.KernelRfl
namespace Go.Ab
noncomputable section
open Go.Proofs
set_option maxRecDepth 20000
set_option maxHeartbeats 1000000
def Ze (K0:Option Bool) (x8:Qa) (x10:Qz):List (List Int)→Nat→Option Bool | [],k=>bif false then some false else some false | e::rest,k=>(QQ x8 (e) x10.2.2).bind fun y5=>bif y5 then bif false then some false else bif !decide ((0:Int)≤(k:Int)) then some false else K0 else Ze K0 x8 x10 rest (k+1)
def Zf (K0:Option Bool) (x4:Int) (x5:Bool) (x6:Qa) (x7:Qf) (x8:Qz):Option Bool:=bif x5 then bif !decide (x8.2.1=([]:List Int)) then some false else bif !decide (x8.2.2=([]:List Int)) then some false else K0 else bif decide (x4=1) then bif !decide (x8.2.1=([]:List Int)) then some false else (QQ x6 x7.1 x8.2.2).bind fun y2=>bif !(y2) then some false else K0 else bif decide (x4=2) then (QG x7 x8.2.1).bind fun y3=>bif !(y3.2) then some false else (YW y3.1).bind fun y4=>QV y4 (Ze K0 x6 x8 y4 0) else some false
def QS (x4:Qa) (x5:Qf):List Qz→Option Bool | []=>some true | e::rest=>bif decide ((e).1=3) then Zf (QS x4 x5 rest) ((e).1) (decide ((e).1=3)) x4 x5 (e) else bif decide ((e).1=4) then Zf (QS x4 x5 rest) ((e).1) (decide ((e).1=4)) x4 x5 (e) else bif decide ((e).1=5) then Zf (QS x4 x5 rest) ((e).1) (decide ((e).1=5)) x4 x5 (e) else Zf (QS x4 x5 rest) ((e).1) (decide ((e).1=6)) x4 x5 (e)
def Yi (a0:Qa) (a1:Qf) (a2:(List Qz)):Option Bool:=bif decide ((a2.length:Int)=0) then some false else bif decide ((30:Int)<(a2.length:Int)) then some false else (Qd0 a2 0 1).bind fun y1=>bif !decide (y1=(a2.length:Int)) then some false else QV a2 (QS a0 a1 a2)
def Yj:Ctr:=⟨64,[Qe,Qj,(.list Ql)],[.bool],fun x=>Yi x.1 x.2.1 x.2.2.1⟩
def Vj:Kn:=⟨Tryz.f64,[([0,4],[.keep 0 3,.keep 0 4,.keep 0 26,.keep 0 27,.keep 0 28,.boxd 0 3 Qe,.boxd 0 4 Qj]),([1,12],[.keep 0 3,.keep 0 4,.keep 0 8,.keep 0 26,.keep 0 27,.keep 0 28,.keep 0 33,.keep 0 34,.boxd 0 3 Qe,.boxd 0 4 Qj,.boxd 0 8 Ql]),([0,2,1002,19006],[.keep 0 3,.keep 0 4,.keep 0 26,.keep 0 27,.keep 0 28,.keep 0 72,.keep 2 0,.keep 2 1,.keep 2 7,.keep 2 8,.boxd 0 3 Qe,.boxd 0 4 Qj,.boxd 0 8 Ql])],[([19006],119),([1002,19006],163),([4005,1002,19006],121)],[Qh4,X4,ZJ,Qcw]⟩
abbrev Zm (x1:(List Qz)) (x2:Int) (x4:Qa) (x5:Qf) (x3:Int) (n:Nat):Option Bool:=LD_ Vj Yj [0,4] [.ptr 0 3 0,.ptr 0 4 0,.d (.list Ql) x1,.d I64 x2,.d I64 x3,.agg (Qm Qe x4),.agg (Qm Qj x5)] n
abbrev Jf (x1:(List Qz)) (x2:Int) (x3:Int) (x4:Int) (x5:Bool) (x6:Qa) (x7:Qf) (x8:Qz) (n:Nat):Option Bool:=LD_ Vj Yj [1,12] [.ptr 0 3 0,.ptr 0 4 0,.ptr 0 8 0,.d (.list Ql) x1,.d I64 x2,.d I64 x3,.d I64 x4,.d .bool x5,.agg (Qm Qe x6),.agg (Qm Qj x7),.agg (Qm Ql x8)] n
abbrev JR (x1:(List Qz)) (x2:Int) (x3:Int) (x4:Bool) (x5:(List (List Int))) (x6:Int) (x8:Qa) (x9:Qf) (x10:Qz) (x7:Int) (n:Nat):Option Bool:=LD_ Vj Yj [0,2,1002,19006] [.ptr 0 3 0,.ptr 0 4 0,.d (.list Ql) x1,.d I64 x2,.d I64 x3,.d .bool x4,.d (.list .str) x5,.fn 121 [.ptr 0 3 0,.ptr 0 8 0],.d I64 x6,.d I64 x7,.agg (Qm Qe x8),.agg (Qm Qj x9),.agg (Qm Ql x10)] n
theorem UG {K0} {x1 x2 x3 x5 x8 x9 x10} (hl:Z2 x5) (h0:Cm K0 (Zm x1 x2 x8 x9 (QL x3))):Jy x5 (Ze K0 x8 x10) (JR x1 x2 x3 false x5 (x5.length:Int) x8 x9 x10) :=
 JN (d:=(Ty.dflt .str)) hl (fun x7 n=>(by kernel_rfl:_ =
  bif decide (x7<(x5.length:Int)) then
   bif inB x7 x5.length then
    (QQ x8 (rd x5 x7 (Ty.dflt .str)) x10.2.2).bind fun y5 =>
    bif y5 then
     bif false then
      some false
     else
      bif !decide ((0:Int)≤x7) then
       some false
      else
       Zm x1 x2 x8 x9 (QL x3) n
    else
     JR x1 x2 x3 false x5 (x5.length:Int) x8 x9 x10 (QL x7) n
   else none
  else
   bif false then
    some false
   else
    some false))
 (fun _=>(Qd Qb Qb))
 (fun k _ q i=>(QI q (Qo fun y5=>(Qd (Qd Qb (Qd Qb h0)) i))))
theorem Yd {K0} {x1 x2 x3 x4 x5 x6 x7 x8} (h0:Cm K0 (Zm x1 x2 x6 x7 (QL x3))):Cm (Zf K0 x4 x5 x6 x7 x8) (Jf x1 x2 x3 x4 x5 x6 x7 x8) :=
 Jk (fun n=>(by kernel_rfl:_ =
  bif x5 then
   bif !decide (x8.2.1=([]:List Int)) then
    some false
   else
    bif !decide (x8.2.2=([]:List Int)) then
     some false
    else
     Zm x1 x2 x6 x7 (QL x3) n
  else
   bif decide (x4=1) then
    bif !decide (x8.2.1=([]:List Int)) then
     some false
    else
     (QQ x6 x7.1 x8.2.2).bind fun y2 =>
     bif !(y2) then
      some false
     else
      Zm x1 x2 x6 x7 (QL x3) n
   else
    bif decide (x4=2) then
     (QG x7 x8.2.1).bind fun y3 =>
     bif !(y3.2) then
      some false
     else
      (YW y3.1).bind fun y4 =>
      JR x1 x2 x3 false y4 (y4.length:Int) x6 x7 x8 0 n
    else
     some false))
 (Qd (Qd Qb (Qd Qb h0)) (Qd (Qd Qb (Qo fun y2=>(Qd Qb h0))) (Qd (Qo fun y3=>(Qd Qb (Qo fun y4=>(QD fun l=>UG l h0 _ 0 rfl)))) Qb)))
theorem Qb5 {x1 x4 x5} (hl:Z2 x1):Jy x1 (fun r _=>QS x4 x5 r) (Zm x1 (x1.length:Int) x4 x5) :=
 JN (d:=(Ty.dflt Ql)) hl (fun x3 n=>(by kernel_rfl:_ =
  bif decide (x3<(x1.length:Int)) then
   bif inB x3 x1.length then
    bif decide ((rd x1 x3 (Ty.dflt Ql)).1=3) then
     Jf x1 (x1.length:Int) x3 ((rd x1 x3 (Ty.dflt Ql)).1) (decide ((rd x1 x3 (Ty.dflt Ql)).1=3)) x4 x5 (rd x1 x3 (Ty.dflt Ql)) n
    else
     bif decide ((rd x1 x3 (Ty.dflt Ql)).1=4) then
      Jf x1 (x1.length:Int) x3 ((rd x1 x3 (Ty.dflt Ql)).1) (decide ((rd x1 x3 (Ty.dflt Ql)).1=4)) x4 x5 (rd x1 x3 (Ty.dflt Ql)) n
     else
      bif decide ((rd x1 x3 (Ty.dflt Ql)).1=5) then
       Jf x1 (x1.length:Int) x3 ((rd x1 x3 (Ty.dflt Ql)).1) (decide ((rd x1 x3 (Ty.dflt Ql)).1=5)) x4 x5 (rd x1 x3 (Ty.dflt Ql)) n
      else
       Jf x1 (x1.length:Int) x3 ((rd x1 x3 (Ty.dflt Ql)).1) (decide ((rd x1 x3 (Ty.dflt Ql)).1=6)) x4 x5 (rd x1 x3 (Ty.dflt Ql)) n
   else none
  else
   some true))
 (fun _=>Qb)
 (fun k _ q i=>(QI q (Qd (Yd i) (Qd (Yd i) (Qd (Yd i) (Yd i))))))
theorem Qd1:Ok_ Yj:=okD Vj (by kernel_rfl) (Qc Qt5 (Qc Uv (Qc JC (Qc Qkc Qk))))
 fun ⟨a0,a1,a2,_⟩=>QX (fun n=>(by kernel_rfl:_ =
  bif decide ((a2.length:Int)=0) then
   some false
  else
   bif decide ((30:Int)<(a2.length:Int)) then
    some false
   else
    (Qd0 a2 0 1).bind fun y1 =>
    bif !decide (y1=(a2.length:Int)) then
     some false
    else
     Zm a2 (a2.length:Int) a0 a1 0 n))
 (Qd Qb (Qd Qb (Qo fun y1=>(Qd Qb (QD fun l=>Qb5 l _ 0 rfl)))))
def Z4 (K0:(List Qi)→Option (List Qi)) (x8:Qf):List Qq→(List Qi)→Option (List Qi) | [],x1=>K0 x1 | e::rest,x1=>bif decide (((x1.length:Int)+(([(x8.1,(e).1)]:List Qi).length:Int))*32≤Q4)&&decide ((x1.length:Int)+(([(x8.1,(e).1)]:List Qi).length:Int)≤Q4) then Z4 K0 x8 rest (x1++([(x8.1,(e).1)]:List Qi)) else none
def Jc (K0:(List Qi)→Option (List Qi)) (x8:Qf):List Qv→(List Qi)→Option (List Qi) | [],x1=>QV x8.2.2 (Z4 K0 x8 x8.2.2 x1) | e::rest,x1=>bif decide (((x1.length:Int)+(([(x8.1,(e).1)]:List Qi).length:Int))*32≤Q4)&&decide ((x1.length:Int)+(([(x8.1,(e).1)]:List Qi).length:Int)≤Q4) then Jc K0 x8 rest (x1++([(x8.1,(e).1)]:List Qi)) else none
def Jd:List Qf→(List Qi)→Option (List Qi) | [],x1=>some x1 | e::rest,x1=>QV (((e).2).1) (Jc (fun s0=>Jd rest s0) (e) (((e).2).1) x1)
def Zu (a0:Qa):Option (List Qi):=QV a0.2 (Jd a0.2 [])
def Jo:Ctr:=⟨76,[Qe],[(.list Qs)],fun x=>Zu x.1⟩
def Gq:Kn:=⟨Tryz.f76,[([0,3],[.own 0 3 Qs,.keep 0 11,.keep 0 12,.keep 0 13]),([0,6],[.own 0 3 Qs,.keep 0 5,.keep 0 11,.keep 0 12,.keep 0 13,.keep 0 18,.keep 0 19,.keep 0 20,.boxd 0 5 Qj]),([0,11],[.own 0 3 Qs,.keep 0 5,.keep 0 11,.keep 0 12,.keep 0 13,.keep 0 34,.keep 0 35,.keep 0 36,.boxd 0 5 Qj])],[],[]⟩
abbrev J5 (x2:(List Qf)) (x3:Int) (x4:Int) (x1:(List Qi)) (n:Nat):Option (List Qi):=LD_ Gq Jo [0,3] [.own 0 Qs x1,.d (.list Qj) x2,.d I64 x3,.d I64 x4] n
abbrev Xn (x2:(List Qf)) (x3:Int) (x4:Int) (x5:(List Qv)) (x6:Int) (x8:Qf) (x7:Int) (x1:(List Qi)) (n:Nat):Option (List Qi):=LD_ Gq Jo [0,6] [.own 0 Qs x1,.ptr 0 5 0,.d (.list Qj) x2,.d I64 x3,.d I64 x4,.d (.list Qr) x5,.d I64 x6,.d I64 x7,.agg (Qm Qj x8)] n
abbrev GW (x2:(List Qf)) (x3:Int) (x4:Int) (x5:(List Qq)) (x6:Int) (x8:Qf) (x7:Int) (x1:(List Qi)) (n:Nat):Option (List Qi):=LD_ Gq Jo [0,11] [.own 0 Qs x1,.ptr 0 5 0,.d (.list Qj) x2,.d I64 x3,.d I64 x4,.d (.list Qp) x5,.d I64 x6,.d I64 x7,.agg (Qm Qj x8)] n
theorem Qdd {K0} {x2 x3 x4 x5 x8} (hl:Z2 x5) (h0:Cm1 K0 (J5 x2 x3 (QL x4))):XF x5 (fun r _ x1=>Z4 K0 x8 r x1) (GW x2 x3 x4 x5 (x5.length:Int) x8) :=
 X5 (d:=(Ty.dflt Qp)) hl (fun x7 x1 n=>(by kernel_rfl:_ =
  bif decide (x7<(x5.length:Int)) then
   bif inB x7 x5.length then
    bif decide (((x1.length:Int)+(([(x8.1,(rd x5 x7 (Ty.dflt Qp)).1)]:List Qi).length:Int))*32≤Q4)&&decide ((x1.length:Int)+(([(x8.1,(rd x5 x7 (Ty.dflt Qp)).1)]:List Qi).length:Int)≤Q4) then
     GW x2 x3 x4 x5 (x5.length:Int) x8 (QL x7) (x1++([(x8.1,(rd x5 x7 (Ty.dflt Qp)).1)]:List Qi)) n
    else none
   else none
  else
   J5 x2 x3 (QL x4) x1 n))
 (fun _ x1=>(h0 _))
 (fun k _ q i x1=>(QI q (Qd (i _) QC)))
theorem Qd2 {K0} {x2 x3 x4 x5 x8} (hl:Z2 x5) (h0:Cm1 K0 (J5 x2 x3 (QL x4))):XF x5 (fun r _ x1=>Jc K0 x8 r x1) (Xn x2 x3 x4 x5 (x5.length:Int) x8) :=
 X5 (d:=(Ty.dflt Qr)) hl (fun x7 x1 n=>(by kernel_rfl:_ =
  bif decide (x7<(x5.length:Int)) then
   bif inB x7 x5.length then
    bif decide (((x1.length:Int)+(([(x8.1,(rd x5 x7 (Ty.dflt Qr)).1)]:List Qi).length:Int))*32≤Q4)&&decide ((x1.length:Int)+(([(x8.1,(rd x5 x7 (Ty.dflt Qr)).1)]:List Qi).length:Int)≤Q4) then
     Xn x2 x3 x4 x5 (x5.length:Int) x8 (QL x7) (x1++([(x8.1,(rd x5 x7 (Ty.dflt Qr)).1)]:List Qi)) n
    else none
   else none
  else
   GW x2 x3 x4 x8.2.2 (x8.2.2.length:Int) x8 0 x1 n))
 (fun _ x1=>(QD fun l=>Qdd l h0 _ 0 rfl _))
 (fun k _ q i x1=>(QI q (Qd (i _) QC)))
theorem Qd3 {x2} (hl:Z2 x2):XF x2 (fun r _ x1=>Jd r x1) (J5 x2 (x2.length:Int)) :=
 X5 (d:=(Ty.dflt Qj)) hl (fun x4 x1 n=>(by kernel_rfl:_ =
  bif decide (x4<(x2.length:Int)) then
   bif inB x4 x2.length then
    Xn x2 (x2.length:Int) x4 (((rd x2 x4 (Ty.dflt Qj)).2).1) ((((rd x2 x4 (Ty.dflt Qj)).2).1).length:Int) (rd x2 x4 (Ty.dflt Qj)) 0 x1 n
   else none
  else
   some x1))
 (fun _ x1=>Qb)
 (fun k _ q i x1=>(QI q (QD fun l=>Qd2 l i _ 0 rfl _)))
theorem HE:Ok_ Jo:=okD Gq (by kernel_rfl) Qk
 fun ⟨a0,_⟩=>QX (fun n=>(by kernel_rfl:_ =
  J5 a0.2 (a0.2.length:Int) 0 [] n))
 (QD fun l=>Qd3 l _ 0 rfl _)
def QK (Rc:Int→Bool→Qq→Bool→(List Qy)→Qi→Qf→Qa→Option (Int × Qq × Bool × (List Qy) × Qi × Qf × Qa)) (x1:Int) (x2:Bool) (x6:Qq) (x8:Qi) (x9:Qf) (x10:Qa) (x11:Qz):List (List Int)→(List Qy)→Option (Int × Qq × Bool × (List Qy) × Qi × Qf × Qa) | [],x7=>some (IntKind.wrap .i64 (x1+1),x6,true,x7,x8,x9,x10) | e::rest,x7=>(QQ x10 (e) x11.2.2).bind fun y6=>bif y6 then bif decide (((x7.length:Int)+(([((e,x11.2.2),x2)]:List Qy).length:Int))*40≤Q4)&&decide ((x7.length:Int)+(([((e,x11.2.2),x2)]:List Qy).length:Int)≤Q4) then QK Rc x1 x2 x6 x8 x9 x10 x11 rest (x7++([((e,x11.2.2),x2)]:List Qy)) else none else QK Rc x1 x2 x6 x8 x9 x10 x11 rest x7
def Yo (Rc:Int→Bool→Qq→Bool→(List Qy)→Qi→Qf→Qa→Option (Int × Qq × Bool × (List Qy) × Qi × Qf × Qa)) (a0:Int) (a1:Bool) (a2:Qq) (a3:Bool) (a4:(List Qy)) (a5:Qi) (a6:Qf) (a7:Qa):Option (Int × Qq × Bool × (List Qy) × Qi × Qf × Qa):=bif inB a0 a2.2.length then bif decide ((rd a2.2 a0 (Ty.dflt Ql)).1=3) then bif decide ((rd a2.2 a0 (Ty.dflt Ql)).1=3) then (Rc (IntKind.wrap .i64 (a0+1)) a1 a2 true a4 a5 a6 a7).bind fun y1=>bif a1 then (Rc y1.1 true y1.2.1 true y1.2.2.2.1 y1.2.2.2.2.1 y1.2.2.2.2.2.1 y1.2.2.2.2.2.2).bind fun y2=>some (y2.1,y2.2.1,true,y2.2.2.2.1,y2.2.2.2.2.1,y2.2.2.2.2.2.1,y2.2.2.2.2.2.2) else (Rc y1.1 (decide ((rd a2.2 a0 (Ty.dflt Ql)).1=5)) y1.2.1 true y1.2.2.2.1 y1.2.2.2.2.1 y1.2.2.2.2.2.1 y1.2.2.2.2.2.2).bind fun y3=>some (y3.1,y3.2.1,true,y3.2.2.2.1,y3.2.2.2.2.1,y3.2.2.2.2.2.1,y3.2.2.2.2.2.2) else bif decide ((rd a2.2 a0 (Ty.dflt Ql)).1=1) then bif decide (((a4.length:Int)+(([((a5.1,((rd a2.2 a0 (Ty.dflt Ql)).2).2),a1)]:List Qy).length:Int))*40≤Q4)&&decide ((a4.length:Int)+(([((a5.1,((rd a2.2 a0 (Ty.dflt Ql)).2).2),a1)]:List Qy).length:Int)≤Q4) then some (IntKind.wrap .i64 (a0+1),a2,true,a4++([((a5.1,((rd a2.2 a0 (Ty.dflt Ql)).2).2),a1)]:List Qy),a5,a6,a7) else none else bif decide ((rd a2.2 a0 (Ty.dflt Ql)).1=2) then bif decide (((a4.length:Int)+(([((a5.1,((rd a2.2 a0 (Ty.dflt Ql)).2).1),a1)]:List Qy).length:Int))*40≤Q4)&&decide ((a4.length:Int)+(([((a5.1,((rd a2.2 a0 (Ty.dflt Ql)).2).1),a1)]:List Qy).length:Int)≤Q4) then (QG a6 (((rd a2.2 a0 (Ty.dflt Ql)).2).1)).bind fun y4=>(YW y4.1).bind fun y5=>QV y5 (QK Rc a0 a1 a2 a5 a6 a7 (rd a2.2 a0 (Ty.dflt Ql)) y5 (a4++([((a5.1,((rd a2.2 a0 (Ty.dflt Ql)).2).1),a1)]:List Qy))) else none else some (IntKind.wrap .i64 (a0+1),a2,true,a4,a5,a6,a7) else bif decide ((rd a2.2 a0 (Ty.dflt Ql)).1=4) then bif decide ((rd a2.2 a0 (Ty.dflt Ql)).1=4) then (Rc (IntKind.wrap .i64 (a0+1)) a1 a2 true a4 a5 a6 a7).bind fun y7=>bif a1 then (Rc y7.1 true y7.2.1 true y7.2.2.2.1 y7.2.2.2.2.1 y7.2.2.2.2.2.1 y7.2.2.2.2.2.2).bind fun y8=>some (y8.1,y8.2.1,true,y8.2.2.2.1,y8.2.2.2.2.1,y8.2.2.2.2.2.1,y8.2.2.2.2.2.2) else (Rc y7.1 (decide ((rd a2.2 a0 (Ty.dflt Ql)).1=5)) y7.2.1 true y7.2.2.2.1 y7.2.2.2.2.1 y7.2.2.2.2.2.1 y7.2.2.2.2.2.2).bind fun y9=>some (y9.1,y9.2.1,true,y9.2.2.2.1,y9.2.2.2.2.1,y9.2.2.2.2.2.1,y9.2.2.2.2.2.2) else bif decide ((rd a2.2 a0 (Ty.dflt Ql)).1=1) then bif decide (((a4.length:Int)+(([((a5.1,((rd a2.2 a0 (Ty.dflt Ql)).2).2),a1)]:List Qy).length:Int))*40≤Q4)&&decide ((a4.length:Int)+(([((a5.1,((rd a2.2 a0 (Ty.dflt Ql)).2).2),a1)]:List Qy).length:Int)≤Q4) then some (IntKind.wrap .i64 (a0+1),a2,true,a4++([((a5.1,((rd a2.2 a0 (Ty.dflt Ql)).2).2),a1)]:List Qy),a5,a6,a7) else none else bif decide ((rd a2.2 a0 (Ty.dflt Ql)).1=2) then bif decide (((a4.length:Int)+(([((a5.1,((rd a2.2 a0 (Ty.dflt Ql)).2).1),a1)]:List Qy).length:Int))*40≤Q4)&&decide ((a4.length:Int)+(([((a5.1,((rd a2.2 a0 (Ty.dflt Ql)).2).1),a1)]:List Qy).length:Int)≤Q4) then (QG a6 (((rd a2.2 a0 (Ty.dflt Ql)).2).1)).bind fun y10=>(YW y10.1).bind fun y11=>QV y11 (QK Rc a0 a1 a2 a5 a6 a7 (rd a2.2 a0 (Ty.dflt Ql)) y11 (a4++([((a5.1,((rd a2.2 a0 (Ty.dflt Ql)).2).1),a1)]:List Qy))) else none else some (IntKind.wrap .i64 (a0+1),a2,true,a4,a5,a6,a7) else bif decide ((rd a2.2 a0 (Ty.dflt Ql)).1=5) then (Rc (IntKind.wrap .i64 (a0+1)) a1 a2 true a4 a5 a6 a7).bind fun y12=>bif a1 then (Rc y12.1 true y12.2.1 true y12.2.2.2.1 y12.2.2.2.2.1 y12.2.2.2.2.2.1 y12.2.2.2.2.2.2).bind fun y13=>some (y13.1,y13.2.1,true,y13.2.2.2.1,y13.2.2.2.2.1,y13.2.2.2.2.2.1,y13.2.2.2.2.2.2) else (Rc y12.1 (decide ((rd a2.2 a0 (Ty.dflt Ql)).1=5)) y12.2.1 true y12.2.2.2.1 y12.2.2.2.2.1 y12.2.2.2.2.2.1 y12.2.2.2.2.2.2).bind fun y14=>some (y14.1,y14.2.1,true,y14.2.2.2.1,y14.2.2.2.2.1,y14.2.2.2.2.2.1,y14.2.2.2.2.2.2) else bif decide ((rd a2.2 a0 (Ty.dflt Ql)).1=1) then bif decide (((a4.length:Int)+(([((a5.1,((rd a2.2 a0 (Ty.dflt Ql)).2).2),a1)]:List Qy).length:Int))*40≤Q4)&&decide ((a4.length:Int)+(([((a5.1,((rd a2.2 a0 (Ty.dflt Ql)).2).2),a1)]:List Qy).length:Int)≤Q4) then some (IntKind.wrap .i64 (a0+1),a2,true,a4++([((a5.1,((rd a2.2 a0 (Ty.dflt Ql)).2).2),a1)]:List Qy),a5,a6,a7) else none else bif decide ((rd a2.2 a0 (Ty.dflt Ql)).1=2) then bif decide (((a4.length:Int)+(([((a5.1,((rd a2.2 a0 (Ty.dflt Ql)).2).1),a1)]:List Qy).length:Int))*40≤Q4)&&decide ((a4.length:Int)+(([((a5.1,((rd a2.2 a0 (Ty.dflt Ql)).2).1),a1)]:List Qy).length:Int)≤Q4) then (QG a6 (((rd a2.2 a0 (Ty.dflt Ql)).2).1)).bind fun y15=>(YW y15.1).bind fun y16=>QV y16 (QK Rc a0 a1 a2 a5 a6 a7 (rd a2.2 a0 (Ty.dflt Ql)) y16 (a4++([((a5.1,((rd a2.2 a0 (Ty.dflt Ql)).2).1),a1)]:List Qy))) else none else some (IntKind.wrap .i64 (a0+1),a2,true,a4,a5,a6,a7) else none
def JD:Nat→Int→Bool→Qq→Bool→(List Qy)→Qi→Qf→Qa→Option (Int × Qq × Bool × (List Qy) × Qi × Qf × Qa) | 0=>fun _ _ _ _ _ _ _ _=>none | d+1=>fun a0 a1 a2 a3 a4 a5 a6 a7=>Yo (JD d) a0 a1 a2 a3 a4 a5 a6 a7
def V1 (a0:Int) (a1:Bool) (a2:Qq) (a3:Bool) (a4:(List Qy)) (a5:Qi) (a6:Qf) (a7:Qa):Option (Int × Qq × Bool × (List Qy) × Qi × Qf × Qa):=QaF fun d=>JD d a0 a1 a2 a3 a4 a5 a6 a7
def Eb:Ctr:=QuG 165 [I64,.bool,Qp,.bool,(.list ZF),Qs,Qj,Qe] [I64,Qp,.bool,(.list ZF),Qs,Qj,Qe] fun x=>V1 x.1 x.2.1 x.2.2.1 x.2.2.2.1 x.2.2.2.2.1 x.2.2.2.2.2.1 x.2.2.2.2.2.2.1 x.2.2.2.2.2.2.2.1
def X6:List (List Nat × Ann):=[([0,14,0],[.keep 0 1,.keep 0 2,.keep 0 3,.keep 0 4,.keep 0 5,.keep 0 6,.keep 1 0,.keep 1 1,.keep 1 4,.keep 1 7,.keep 1 11,.keep 1 74,.keep 1 75,.keep 1 76,.boxd 0 1 Qp,.box 0 2 1,.ownb 0 3 0 ZF,.box 0 3 1,.boxd 0 4 Qs,.boxd 0 5 Qj,.boxd 0 6 Qe,.boxd 1 11 Ql])]
def XO:List (List Nat × Nat):=[([6004,0],100000165),([7008,0],100000165)]
def XP (Rc:Int→Bool→Qq→Bool→(List Qy)→Qi→Qf→Qa→Option (Int × Qq × Bool × (List Qy) × Qi × Qf × Qa)):List Ctr:=[(QuG 165 [I64,.bool,Qp,.bool,(.list ZF),Qs,Qj,Qe] [I64,Qp,.bool,(.list ZF),Qs,Qj,Qe] fun x=>Rc x.1 x.2.1 x.2.2.1 x.2.2.2.1 x.2.2.2.2.1 x.2.2.2.2.2.1 x.2.2.2.2.2.2.1 x.2.2.2.2.2.2.2.1),ZJ,Qcw,X4]
def Ec (Rc:Int→Bool→Qq→Bool→(List Qy)→Qi→Qf→Qa→Option (Int × Qq × Bool × (List Qy) × Qi × Qf × Qa)) (n:Nat) (a0:Int) (a1:Bool) (a2:Qq) (a3:Bool) (a4:(List Qy)) (a5:Qi) (a6:Qf) (a7:Qa):Option (Int × Qq × Bool × (List Qy) × Qi × Qf × Qa):=QBX Tryz.prog noG X6 XO (QaD (XP Rc)) 165 6 (Qzp 165 6 [I64,Qp,.bool,(.list ZF),Qs,Qj,Qe]) n ((Jh [I64,.bool,Qp,.bool,(.list ZF),Qs,Qj,Qe] (a0,a1,a2,a3,a4,a5,a6,a7,())).take 2) ((Jh [I64,.bool,Qp,.bool,(.list ZF),Qs,Qj,Qe] (a0,a1,a2,a3,a4,a5,a6,a7,())).drop 2)
abbrev Q3 (Rc:Int→Bool→Qq→Bool→(List Qy)→Qi→Qf→Qa→Option (Int × Qq × Bool × (List Qy) × Qi × Qf × Qa)) (n:Nat) (x1:Int) (x2:Bool) (x3:(List (List Int))) (x4:Int) (x5:Int) (x6:Qq) (x7:(List Qy)) (x8:Qi) (x9:Qf) (x10:Qa) (x11:Qz):Option (Int × Qq × Bool × (List Qy) × Qi × Qf × Qa):=QxZ Tryz.prog noG X6 XO (QaD (XP Rc)) 165 (Qzp 165 6 [I64,Qp,.bool,(.list ZF),Qs,Qj,Qe]) n [0,14,0] [.ptr 0 1 0,.ptr 0 2 0,.ptr 0 3 0,.ptr 0 4 0,.ptr 0 5 0,.ptr 0 6 0,.d I64 x1,.d .bool x2,.ptr 0 3 0,.ptr 0 6 0,.ptr 1 11 0,.d (.list .str) x3,.d I64 x4,.d I64 x5,.agg (Qm Qp x6),.agg [.fn 165 [.ptr 0 1 0,.ptr 0 2 0,.ptr 0 3 0,.ptr 0 4 0,.ptr 0 5 0,.ptr 0 6 0]],.own 0 ZF x7,.agg [.any],.agg (Qm Qs x8),.agg (Qm Qj x9),.agg (Qm Qe x10),.agg (Qm Ql x11)]
theorem Qde (Rc:Int→Bool→Qq→Bool→(List Qy)→Qi→Qf→Qa→Option (Int × Qq × Bool × (List Qy) × Qi × Qf × Qa)) (n:Nat) (a0:Int) (a1:Bool) (a2:Qq) (a3:Bool) (a4:(List Qy)) (a5:Qi) (a6:Qf) (a7:Qa):Ec Rc n a0 a1 a2 a3 a4 a5 a6 a7=bif inB a0 a2.2.length then bif decide ((rd a2.2 a0 (Ty.dflt Ql)).1=3) then bif decide ((rd a2.2 a0 (Ty.dflt Ql)).1=3) then (Rc (IntKind.wrap .i64 (a0+1)) a1 a2 true a4 a5 a6 a7).bind fun y1=>bif a1 then (Rc y1.1 true y1.2.1 true y1.2.2.2.1 y1.2.2.2.2.1 y1.2.2.2.2.2.1 y1.2.2.2.2.2.2).bind fun y2=>some (y2.1,y2.2.1,true,y2.2.2.2.1,y2.2.2.2.2.1,y2.2.2.2.2.2.1,y2.2.2.2.2.2.2) else (Rc y1.1 (decide ((rd a2.2 a0 (Ty.dflt Ql)).1=5)) y1.2.1 true y1.2.2.2.1 y1.2.2.2.2.1 y1.2.2.2.2.2.1 y1.2.2.2.2.2.2).bind fun y3=>some (y3.1,y3.2.1,true,y3.2.2.2.1,y3.2.2.2.2.1,y3.2.2.2.2.2.1,y3.2.2.2.2.2.2) else bif decide ((rd a2.2 a0 (Ty.dflt Ql)).1=1) then bif decide (((a4.length:Int)+(([((a5.1,((rd a2.2 a0 (Ty.dflt Ql)).2).2),a1)]:List Qy).length:Int))*40≤Q4)&&decide ((a4.length:Int)+(([((a5.1,((rd a2.2 a0 (Ty.dflt Ql)).2).2),a1)]:List Qy).length:Int)≤Q4) then some (IntKind.wrap .i64 (a0+1),a2,true,a4++([((a5.1,((rd a2.2 a0 (Ty.dflt Ql)).2).2),a1)]:List Qy),a5,a6,a7) else none else bif decide ((rd a2.2 a0 (Ty.dflt Ql)).1=2) then bif decide (((a4.length:Int)+(([((a5.1,((rd a2.2 a0 (Ty.dflt Ql)).2).1),a1)]:List Qy).length:Int))*40≤Q4)&&decide ((a4.length:Int)+(([((a5.1,((rd a2.2 a0 (Ty.dflt Ql)).2).1),a1)]:List Qy).length:Int)≤Q4) then (QG a6 (((rd a2.2 a0 (Ty.dflt Ql)).2).1)).bind fun y4=>(YW y4.1).bind fun y5=>Q3 Rc n a0 a1 y5 (y5.length:Int) 0 a2 (a4++([((a5.1,((rd a2.2 a0 (Ty.dflt Ql)).2).1),a1)]:List Qy)) a5 a6 a7 (rd a2.2 a0 (Ty.dflt Ql)) else none else some (IntKind.wrap .i64 (a0+1),a2,true,a4,a5,a6,a7) else bif decide ((rd a2.2 a0 (Ty.dflt Ql)).1=4) then bif decide ((rd a2.2 a0 (Ty.dflt Ql)).1=4) then (Rc (IntKind.wrap .i64 (a0+1)) a1 a2 true a4 a5 a6 a7).bind fun y7=>bif a1 then (Rc y7.1 true y7.2.1 true y7.2.2.2.1 y7.2.2.2.2.1 y7.2.2.2.2.2.1 y7.2.2.2.2.2.2).bind fun y8=>some (y8.1,y8.2.1,true,y8.2.2.2.1,y8.2.2.2.2.1,y8.2.2.2.2.2.1,y8.2.2.2.2.2.2) else (Rc y7.1 (decide ((rd a2.2 a0 (Ty.dflt Ql)).1=5)) y7.2.1 true y7.2.2.2.1 y7.2.2.2.2.1 y7.2.2.2.2.2.1 y7.2.2.2.2.2.2).bind fun y9=>some (y9.1,y9.2.1,true,y9.2.2.2.1,y9.2.2.2.2.1,y9.2.2.2.2.2.1,y9.2.2.2.2.2.2) else bif decide ((rd a2.2 a0 (Ty.dflt Ql)).1=1) then bif decide (((a4.length:Int)+(([((a5.1,((rd a2.2 a0 (Ty.dflt Ql)).2).2),a1)]:List Qy).length:Int))*40≤Q4)&&decide ((a4.length:Int)+(([((a5.1,((rd a2.2 a0 (Ty.dflt Ql)).2).2),a1)]:List Qy).length:Int)≤Q4) then some (IntKind.wrap .i64 (a0+1),a2,true,a4++([((a5.1,((rd a2.2 a0 (Ty.dflt Ql)).2).2),a1)]:List Qy),a5,a6,a7) else none else bif decide ((rd a2.2 a0 (Ty.dflt Ql)).1=2) then bif decide (((a4.length:Int)+(([((a5.1,((rd a2.2 a0 (Ty.dflt Ql)).2).1),a1)]:List Qy).length:Int))*40≤Q4)&&decide ((a4.length:Int)+(([((a5.1,((rd a2.2 a0 (Ty.dflt Ql)).2).1),a1)]:List Qy).length:Int)≤Q4) then (QG a6 (((rd a2.2 a0 (Ty.dflt Ql)).2).1)).bind fun y10=>(YW y10.1).bind fun y11=>Q3 Rc n a0 a1 y11 (y11.length:Int) 0 a2 (a4++([((a5.1,((rd a2.2 a0 (Ty.dflt Ql)).2).1),a1)]:List Qy)) a5 a6 a7 (rd a2.2 a0 (Ty.dflt Ql)) else none else some (IntKind.wrap .i64 (a0+1),a2,true,a4,a5,a6,a7) else bif decide ((rd a2.2 a0 (Ty.dflt Ql)).1=5) then (Rc (IntKind.wrap .i64 (a0+1)) a1 a2 true a4 a5 a6 a7).bind fun y12=>bif a1 then (Rc y12.1 true y12.2.1 true y12.2.2.2.1 y12.2.2.2.2.1 y12.2.2.2.2.2.1 y12.2.2.2.2.2.2).bind fun y13=>some (y13.1,y13.2.1,true,y13.2.2.2.1,y13.2.2.2.2.1,y13.2.2.2.2.2.1,y13.2.2.2.2.2.2) else (Rc y12.1 (decide ((rd a2.2 a0 (Ty.dflt Ql)).1=5)) y12.2.1 true y12.2.2.2.1 y12.2.2.2.2.1 y12.2.2.2.2.2.1 y12.2.2.2.2.2.2).bind fun y14=>some (y14.1,y14.2.1,true,y14.2.2.2.1,y14.2.2.2.2.1,y14.2.2.2.2.2.1,y14.2.2.2.2.2.2) else bif decide ((rd a2.2 a0 (Ty.dflt Ql)).1=1) then bif decide (((a4.length:Int)+(([((a5.1,((rd a2.2 a0 (Ty.dflt Ql)).2).2),a1)]:List Qy).length:Int))*40≤Q4)&&decide ((a4.length:Int)+(([((a5.1,((rd a2.2 a0 (Ty.dflt Ql)).2).2),a1)]:List Qy).length:Int)≤Q4) then some (IntKind.wrap .i64 (a0+1),a2,true,a4++([((a5.1,((rd a2.2 a0 (Ty.dflt Ql)).2).2),a1)]:List Qy),a5,a6,a7) else none else bif decide ((rd a2.2 a0 (Ty.dflt Ql)).1=2) then bif decide (((a4.length:Int)+(([((a5.1,((rd a2.2 a0 (Ty.dflt Ql)).2).1),a1)]:List Qy).length:Int))*40≤Q4)&&decide ((a4.length:Int)+(([((a5.1,((rd a2.2 a0 (Ty.dflt Ql)).2).1),a1)]:List Qy).length:Int)≤Q4) then (QG a6 (((rd a2.2 a0 (Ty.dflt Ql)).2).1)).bind fun y15=>(YW y15.1).bind fun y16=>Q3 Rc n a0 a1 y16 (y16.length:Int) 0 a2 (a4++([((a5.1,((rd a2.2 a0 (Ty.dflt Ql)).2).1),a1)]:List Qy)) a5 a6 a7 (rd a2.2 a0 (Ty.dflt Ql)) else none else some (IntKind.wrap .i64 (a0+1),a2,true,a4,a5,a6,a7) else none:=by kernel_rfl
theorem Xv (Rc:Int→Bool→Qq→Bool→(List Qy)→Qi→Qf→Qa→Option (Int × Qq × Bool × (List Qy) × Qi × Qf × Qa)) (n:Nat) (x1:Int) (x2:Bool) (x3:(List (List Int))) (x4:Int) (x5:Int) (x6:Qq) (x7:(List Qy)) (x8:Qi) (x9:Qf) (x10:Qa) (x11:Qz):Q3 Rc (n+1) x1 x2 x3 x4 x5 x6 x7 x8 x9 x10 x11=bif decide (x5<x4) then bif inB x5 x3.length then (QQ x10 (rd x3 x5 (Ty.dflt .str)) x11.2.2).bind fun y6=>bif y6 then bif decide (((x7.length:Int)+(([((rd x3 x5 (Ty.dflt .str),x11.2.2),x2)]:List Qy).length:Int))*40≤Q4)&&decide ((x7.length:Int)+(([((rd x3 x5 (Ty.dflt .str),x11.2.2),x2)]:List Qy).length:Int)≤Q4) then Q3 Rc n x1 x2 x3 x4 (IntKind.wrap .i64 (x5+1)) x6 (x7++([((rd x3 x5 (Ty.dflt .str),x11.2.2),x2)]:List Qy)) x8 x9 x10 x11 else none else Q3 Rc n x1 x2 x3 x4 (IntKind.wrap .i64 (x5+1)) x6 x7 x8 x9 x10 x11 else none else some (IntKind.wrap .i64 (x1+1),x6,true,x7,x8,x9,x10):=by kernel_rfl
theorem VG {Rc:Int→Bool→Qq→Bool→(List Qy)→Qi→Qf→Qa→Option (Int × Qq × Bool × (List Qy) × Qi × Qf × Qa)} {x1:Int} {x2:Bool} {x3:(List (List Int))} {x6:Qq} {x8:Qi} {x9:Qf} {x10:Qa} {x11:Qz} (hl:x3.length≤maxLen):∀ (rest:List (List Int)) (k:Nat) (x7:(List Qy)) (r:(Int × Qq × Bool × (List Qy) × Qi × Qf × Qa)),rest=x3.drop k→QK Rc x1 x2 x6 x8 x9 x10 x11 rest x7=some r→Ev (fun n=>Q3 Rc n x1 x2 x3 (x3.length:Int) (k:Int) x6 x7 x8 x9 x10 x11) r:=by
 intro rest
 induction rest with
 | nil =>
  intro k x7 r hr h
  have hk:=Qes hr
  rw [QK] at h
  refine Ev.step ?_ (fun n=>Xv Rc n x1 x2 x3 (x3.length:Int) (k:Int) x6 x7 x8 x9 x10 x11)
  rw [ltF hk]
  exact Ev.neg rfl (Ev.ofSome h)
 | cons e rest ih =>
  intro k x7 r hr h
  obtain ⟨hk,hx,hr2⟩:=Qaq (d:=(Ty.dflt .str)) hr
  have hw:=GH hl hk
  have ih2:∀ (z7:(List Qy)) (r:(Int × Qq × Bool × (List Qy) × Qi × Qf × Qa)),QK Rc x1 x2 x6 x8 x9 x10 x11 rest z7=some r→Ev (fun n=>Q3 Rc n x1 x2 x3 (x3.length:Int) (IntKind.wrap .i64 ((k:Int)+1)) x6 z7 x8 x9 x10 x11) r:=by
   intro z7 r h;rw [hw];exact ih (k+1) z7 r hr2 h
  rw [QK] at h
  refine Ev.step ?_ (fun n=>Xv Rc n x1 x2 x3 (x3.length:Int) (k:Int) x6 x7 x8 x9 x10 x11)
  rw [ltT hk,YS hk,hx]
  exact Ev.pos rfl (Ev.pos rfl (Ev.ofBind h fun y6 h=>(Ev.ofBif h (fun h=>(Ev.ofBif h (fun h=>(ih2 _ _ h)) (fun h=>(Ev.ofNone h)))) (fun h=>(ih2 _ _ h)))))
theorem Qfs {Rc:Int→Bool→Qq→Bool→(List Qy)→Qi→Qf→Qa→Option (Int × Qq × Bool × (List Qy) × Qi × Qf × Qa)} (a0:Int) (a1:Bool) (a2:Qq) (a3:Bool) (a4:(List Qy)) (a5:Qi) (a6:Qf) (a7:Qa) {r:(Int × Qq × Bool × (List Qy) × Qi × Qf × Qa)} (h:Yo Rc a0 a1 a2 a3 a4 a5 a6 a7=some r):Ev (fun n=>Ec Rc n a0 a1 a2 a3 a4 a5 a6 a7) r:=by
 rw [Yo] at h
 refine Ev.of_eq ?_ (fun n=>Qde Rc n a0 a1 a2 a3 a4 a5 a6 a7)
 exact (Ev.ofBif h (fun h=>(Ev.ofBif h (fun h=>(Ev.ofBif h (fun h=>(Ev.ofBind h fun y1 h=>(Ev.ofBif h (fun h=>(Ev.ofBind h fun y2 h=>(Ev.ofSome h))) (fun h=>(Ev.ofBind h fun y3 h=>(Ev.ofSome h)))))) (fun h=>(Ev.ofBif h (fun h=>(Ev.ofBif h (fun h=>(Ev.ofSome h)) (fun h=>(Ev.ofNone h)))) (fun h=>(Ev.ofBif h (fun h=>(Ev.ofBif h (fun h=>(Ev.ofBind h fun y4 h=>(Ev.ofBind h fun y5 h=>(Ev.ofLen h fun hl h=>VG hl _ (0:Nat) _ _ rfl h)))) (fun h=>(Ev.ofNone h)))) (fun h=>(Ev.ofSome h)))))))) (fun h=>(Ev.ofBif h (fun h=>(Ev.ofBif h (fun h=>(Ev.ofBind h fun y7 h=>(Ev.ofBif h (fun h=>(Ev.ofBind h fun y8 h=>(Ev.ofSome h))) (fun h=>(Ev.ofBind h fun y9 h=>(Ev.ofSome h)))))) (fun h=>(Ev.ofBif h (fun h=>(Ev.ofBif h (fun h=>(Ev.ofSome h)) (fun h=>(Ev.ofNone h)))) (fun h=>(Ev.ofBif h (fun h=>(Ev.ofBif h (fun h=>(Ev.ofBind h fun y10 h=>(Ev.ofBind h fun y11 h=>(Ev.ofLen h fun hl h=>VG hl _ (0:Nat) _ _ rfl h)))) (fun h=>(Ev.ofNone h)))) (fun h=>(Ev.ofSome h)))))))) (fun h=>(Ev.ofBif h (fun h=>(Ev.ofBind h fun y12 h=>(Ev.ofBif h (fun h=>(Ev.ofBind h fun y13 h=>(Ev.ofSome h))) (fun h=>(Ev.ofBind h fun y14 h=>(Ev.ofSome h)))))) (fun h=>(Ev.ofBif h (fun h=>(Ev.ofBif h (fun h=>(Ev.ofSome h)) (fun h=>(Ev.ofNone h)))) (fun h=>(Ev.ofBif h (fun h=>(Ev.ofBif h (fun h=>(Ev.ofBind h fun y15 h=>(Ev.ofBind h fun y16 h=>(Ev.ofLen h fun hl h=>VG hl _ (0:Nat) _ _ rfl h)))) (fun h=>(Ev.ofNone h)))) (fun h=>(Ev.ofSome h)))))))))))) (fun h=>(Ev.ofNone h)))
theorem Qd4:∀ d,G4 Tryz.prog (QuG 165 [I64,.bool,Qp,.bool,(.list ZF),Qs,Qj,Qe] [I64,Qp,.bool,(.list ZF),Qs,Qj,Qe] fun x=>JD d x.1 x.2.1 x.2.2.1 x.2.2.2.1 x.2.2.2.2.1 x.2.2.2.2.2.1 x.2.2.2.2.2.2.1 x.2.2.2.2.2.2.2.1):=by
 intro d
 induction d with
 | zero=>intro xs y hy;exact (nomatch (show (none:Option (Int × Qq × Bool × (List Qy) × Qi × Qf × Qa))=some y from hy))
 | succ d ih =>
  refine Qx1 (k:=6) (n0:=2) (by kernel_rfl) (by kernel_rfl) (by kernel_rfl) (by kernel_rfl) (A:=X6) (I:=XO) (cs:=XP (JD d)) (Qc ih (Qc JC (Qc Qkc (Qc Uv Qk)))) ?_
  rintro ⟨a0,a1,a2,a3,a4,a5,a6,a7,u⟩ y hy
  exact (Qfs a0 a1 a2 a3 a4 a5 a6 a7 hy).get
theorem QeK:G4 Tryz.prog (Eb):=by
 rintro ⟨a0,a1,a2,a3,a4,a5,a6,a7,u⟩ y hy
 obtain ⟨d,hd⟩:=(Qk4 hy).get
 exact Qd4 d (a0,a1,a2,a3,a4,a5,a6,a7,u) y hd
def ZG:List Qx→(List Qy)→Option (List Qy) | [],x4=>some x4 | e::rest,x4=>bif !decide (((e).2).1=([]:List Int)) then bif decide (((x4.length:Int)+(([(((e).1,((e).2).1),false)]:List Qy).length:Int))*40≤Q4)&&decide ((x4.length:Int)+(([(((e).1,((e).2).1),false)]:List Qy).length:Int)≤Q4) then ZG rest (x4++([(((e).1,((e).2).1),false)]:List Qy)) else none else ZG rest x4
def Jp (a0:Qa) (a1:Qi):Option (List Qy):=(Zo a0 a1.1).bind fun y1=>(QG y1.1 a1.2).bind fun y2=>bif y2.2 then QV y2.1.2 (ZG y2.1.2 []) else (Jm y1.1 a1.2).bind fun y3=>(V1 0 false y3.1 true ([]) a1 y1.1 a0).bind fun y4=>some y4.2.2.2.1
def GM:Ctr:=⟨122,[Qe,Qs],[(.list ZF)],fun x=>Jp x.1 x.2.1⟩
def EH:Kn:=⟨Tryz.f122,[([0,6],[.keep 0 5,.keep 0 31,.keep 0 32,.keep 0 33,.ownb 0 5 0 ZF,.box 0 5 1])],[([15001],100000165)],[Ym,ZJ,VF,Eb]⟩
abbrev Vk (x1:(List Qx)) (x2:Int) (x3:Int) (x4:(List Qy)) (n:Nat):Option (List Qy):=LD_ EH GM [0,6] [.ptr 0 5 0,.d (.list Qg) x1,.d I64 x2,.d I64 x3,.own 0 ZF x4,.agg [.any]] n
theorem Qd5 {x1} (hl:Z2 x1):XF x1 (fun r _ x4=>ZG r x4) (Vk x1 (x1.length:Int)) :=
 X5 (d:=(Ty.dflt Qg)) hl (fun x3 x4 n=>(by kernel_rfl:_ =
  bif decide (x3<(x1.length:Int)) then
   bif inB x3 x1.length then
    bif !decide (((rd x1 x3 (Ty.dflt Qg)).2).1=([]:List Int)) then
     bif decide (((x4.length:Int)+(([(((rd x1 x3 (Ty.dflt Qg)).1,((rd x1 x3 (Ty.dflt Qg)).2).1),false)]:List Qy).length:Int))*40≤Q4)&&decide ((x4.length:Int)+(([(((rd x1 x3 (Ty.dflt Qg)).1,((rd x1 x3 (Ty.dflt Qg)).2).1),false)]:List Qy).length:Int)≤Q4) then
      Vk x1 (x1.length:Int) (QL x3) (x4++([(((rd x1 x3 (Ty.dflt Qg)).1,((rd x1 x3 (Ty.dflt Qg)).2).1),false)]:List Qy)) n
     else none
    else
     Vk x1 (x1.length:Int) (QL x3) x4 n
   else none
  else
   some x4))
 (fun _ x4=>Qb)
 (fun k _ q i x4=>(QI q (Qd (Qd (i _) QC) (i _))))
theorem EI:Ok_ GM:=okD EH (by kernel_rfl) (Qc GL (Qc JC (Qc Wb (Qc QeK Qk))))
 fun ⟨a0,a1,_⟩=>QX (fun n=>(by kernel_rfl:_ =
  (Zo a0 a1.1).bind fun y1 =>
  (QG y1.1 a1.2).bind fun y2 =>
  bif y2.2 then
   Vk y2.1.2 (y2.1.2.length:Int) 0 [] n
  else
   (Jm y1.1 a1.2).bind fun y3 =>
   (V1 0 false y3.1 true ([]) a1 y1.1 a0).bind fun y4 =>
   some y4.2.2.2.1))
 (Qo fun y1=>(Qo fun y2=>(Qd (QD fun l=>Qd5 l _ 0 rfl _) (Qo fun y3=>(Qo fun y4=>Qb)))))
def QR (K3:Bool→(List (Qi × Int))→Option ((List (Qi × Int)) × Bool)) (x1:(List Qi)) (x11:Qi):List Qy→Bool→(List (Qi × Int))→Option ((List (Qi × Int)) × Bool) | [],x2,x10=>K3 x2 x10 | e::rest,x2,x10=>bif (e).2 then bif decide (JW Qs x10 x11 0<IntKind.wrap .i64 ((JW Qs x10 ((e).1) 0)+1)) then bif decide ((x1.length:Int)<IntKind.wrap .i64 ((JW Qs x10 ((e).1) 0)+1)) then some (([]:List (Qi × Int)),false) else QR K3 x1 x11 rest true (H9 Qs x10 x11 (IntKind.wrap .i64 ((JW Qs x10 ((e).1) 0)+1))) else bif decide ((x1.length:Int)<IntKind.wrap .i64 ((JW Qs x10 ((e).1) 0)+1)) then some (([]:List (Qi × Int)),false) else QR K3 x1 x11 rest x2 x10 else bif decide (JW Qs x10 x11 0<JW Qs x10 ((e).1) 0) then bif decide ((x1.length:Int)<JW Qs x10 ((e).1) 0) then some (([]:List (Qi × Int)),false) else QR K3 x1 x11 rest true (H9 Qs x10 x11 (JW Qs x10 ((e).1) 0)) else bif decide ((x1.length:Int)<JW Qs x10 ((e).1) 0) then some (([]:List (Qi × Int)),false) else QR K3 x1 x11 rest x2 x10
def ZU (K2:Bool→(List (Qi × Int))→Option ((List (Qi × Int)) × Bool)) (x1:(List Qi)) (x6:(List (Qi × (List Qy)))):List Qi→Bool→(List (Qi × Int))→Option ((List (Qi × Int)) × Bool) | [],x2,x7=>K2 x2 x7 | e::rest,x2,x7=>QV (JW Qs x6 (e) ([])) (QR (fun s0 s1=>ZU K2 x1 x6 rest s0 s1) x1 (e) (JW Qs x6 (e) ([])) x2 x7)
def Zq (x1:(List Qi)) (x3:(List (Qi × (List Qy)))):Nat→Bool→(List (Qi × Int))→Option ((List (Qi × Int)) × Bool) | 0,_,_=>none | m+1,x2,x4=>bif x2 then QV x1 (ZU (fun s0 s1=>Zq x1 x3 m s0 s1) x1 x3 x1 false x4) else some (x4,true)
def Zr (m:Nat) (x1:(List Qi)) (x5:(List (Qi × (List Qy)))):List Qi→(List (Qi × Int))→Option ((List (Qi × Int)) × Bool) | [],x6=>Zq x1 x5 m true x6 | e::rest,x6=>Zr m x1 x5 rest (H9 Qs x6 (e) 0)
def Z5 (m:Nat) (x1:(List Qi)) (x5:Qa):List Qi→(List (Qi × (List Qy)))→Option ((List (Qi × Int)) × Bool) | [],x6=>QV x1 (Zr m x1 x6 x1 []) | e::rest,x6=>(Jp x5 (e)).bind fun y2=>Z5 m x1 x5 rest (H9 Qs x6 (e) y2)
def HF (m:Nat) (a0:Qa):Option ((List (Qi × Int)) × Bool):=(Zu a0).bind fun y1=>QV y1 (Z5 m y1 a0 y1 [])
def QT (a0:Qa):Option ((List (Qi × Int)) × Bool):=QaF fun m=>HF m a0
def ZM:Ctr:=⟨65,[Qe],[(.map Qs I64),.bool],fun x=>QT x.1⟩
def JE:Kn:=⟨Tryz.f65,[([0,4],[.keep 0 1,.keep 0 4,.keep 0 5,.keep 0 20,.keep 0 21,.keep 0 22,.boxd 0 1 Qe,.mapb 0 19 Qs (.list ZF)]),([0,10],[.keep 0 4,.keep 0 5,.keep 0 8,.keep 0 33,.keep 0 34,.keep 0 35,.mapb 0 19 Qs (.list ZF),.mapb 0 32 Qs I64]),([0,15],[.keep 0 4,.keep 0 5,.keep 0 8,.keep 0 11,.mapb 0 19 Qs (.list ZF),.mapb 0 32 Qs I64]),([0,18],[.keep 0 4,.keep 0 5,.keep 0 8,.keep 0 11,.keep 0 43,.keep 0 44,.keep 0 45,.mapb 0 19 Qs (.list ZF),.mapb 0 32 Qs I64]),([0,21],[.keep 0 4,.keep 0 5,.keep 0 8,.keep 0 11,.keep 0 13,.keep 0 43,.keep 0 44,.keep 0 45,.keep 0 51,.keep 0 52,.keep 0 53,.mapb 0 19 Qs (.list ZF),.mapb 0 32 Qs I64,.boxd 0 13 Qs])],[],[Jo,GM]⟩
abbrev GX (x1:(List Qi)) (x2:(List Qi)) (x3:Int) (x5:Qa) (x4:Int) (x6:(List (Qi × (List Qy)))) (n:Nat):Option ((List (Qi × Int)) × Bool):=LD_ JE ZM [0,4] [.ptr 0 1 0,.d (.list Qs) x1,.mp 0 19,.d (.list Qs) x2,.d I64 x3,.d I64 x4,.agg (Qm Qe x5),.d (.map Qs (.list ZF)) x6] n
abbrev GB (x1:(List Qi)) (x2:(List Qi)) (x3:Int) (x5:(List (Qi × (List Qy)))) (x4:Int) (x6:(List (Qi × Int))) (n:Nat):Option ((List (Qi × Int)) × Bool):=LD_ JE ZM [0,10] [.d (.list Qs) x1,.mp 0 19,.mp 0 32,.d (.list Qs) x2,.d I64 x3,.d I64 x4,.d (.map Qs (.list ZF)) x5,.d (.map Qs I64) x6] n
abbrev YG (x1:(List Qi)) (x3:(List (Qi × (List Qy)))) (x2:Bool) (x4:(List (Qi × Int))) (n:Nat):Option ((List (Qi × Int)) × Bool):=LD_ JE ZM [0,15] [.d (.list Qs) x1,.mp 0 19,.mp 0 32,.d .bool x2,.d (.map Qs (.list ZF)) x3,.d (.map Qs I64) x4] n
abbrev YH (x1:(List Qi)) (x3:(List Qi)) (x4:Int) (x6:(List (Qi × (List Qy)))) (x5:Int) (x2:Bool) (x7:(List (Qi × Int))) (n:Nat):Option ((List (Qi × Int)) × Bool):=LD_ JE ZM [0,18] [.d (.list Qs) x1,.mp 0 19,.mp 0 32,.d .bool x2,.d (.list Qs) x3,.d I64 x4,.d I64 x5,.d (.map Qs (.list ZF)) x6,.d (.map Qs I64) x7] n
abbrev ZV (x1:(List Qi)) (x3:(List Qi)) (x4:Int) (x5:Int) (x6:(List Qy)) (x7:Int) (x9:(List (Qi × (List Qy)))) (x11:Qi) (x8:Int) (x2:Bool) (x10:(List (Qi × Int))) (n:Nat):Option ((List (Qi × Int)) × Bool):=LD_ JE ZM [0,21] [.d (.list Qs) x1,.mp 0 19,.mp 0 32,.d .bool x2,.ptr 0 13 0,.d (.list Qs) x3,.d I64 x4,.d I64 x5,.d (.list ZF) x6,.d I64 x7,.d I64 x8,.d (.map Qs (.list ZF)) x9,.d (.map Qs I64) x10,.agg (Qm Qs x11)] n
theorem QcQ {K3} {x1 x4 x5 x6 x9 x11} (hl:Z2 x6) (h3:Cm2 K3 (YH x1 x1 x4 x9 (QL x5))):QuH x6 (fun r _ x2 x10=>QR K3 x1 x11 r x2 x10) (ZV x1 x1 x4 x5 x6 (x6.length:Int) x9 x11) :=
 QwW (d:=(Ty.dflt ZF)) hl (fun x8 x2 x10 n=>(by kernel_rfl:_ =
  bif decide (x8<(x6.length:Int)) then
   bif inB x8 x6.length then
    bif (rd x6 x8 (Ty.dflt ZF)).2 then
     bif decide (JW Qs x10 x11 0<IntKind.wrap .i64 ((JW Qs x10 ((rd x6 x8 (Ty.dflt ZF)).1) 0)+1)) then
      bif decide ((x1.length:Int)<IntKind.wrap .i64 ((JW Qs x10 ((rd x6 x8 (Ty.dflt ZF)).1) 0)+1)) then
       some (([]:List (Qi × Int)),false)
      else
       ZV x1 x1 x4 x5 x6 (x6.length:Int) x9 x11 (QL x8) true (H9 Qs x10 x11 (IntKind.wrap .i64 ((JW Qs x10 ((rd x6 x8 (Ty.dflt ZF)).1) 0)+1))) n
     else
      bif decide ((x1.length:Int)<IntKind.wrap .i64 ((JW Qs x10 ((rd x6 x8 (Ty.dflt ZF)).1) 0)+1)) then
       some (([]:List (Qi × Int)),false)
      else
       ZV x1 x1 x4 x5 x6 (x6.length:Int) x9 x11 (QL x8) x2 x10 n
    else
     bif decide (JW Qs x10 x11 0<JW Qs x10 ((rd x6 x8 (Ty.dflt ZF)).1) 0) then
      bif decide ((x1.length:Int)<JW Qs x10 ((rd x6 x8 (Ty.dflt ZF)).1) 0) then
       some (([]:List (Qi × Int)),false)
      else
       ZV x1 x1 x4 x5 x6 (x6.length:Int) x9 x11 (QL x8) true (H9 Qs x10 x11 (JW Qs x10 ((rd x6 x8 (Ty.dflt ZF)).1) 0)) n
     else
      bif decide ((x1.length:Int)<JW Qs x10 ((rd x6 x8 (Ty.dflt ZF)).1) 0) then
       some (([]:List (Qi × Int)),false)
      else
       ZV x1 x1 x4 x5 x6 (x6.length:Int) x9 x11 (QL x8) x2 x10 n
   else none
  else
   YH x1 x1 x4 x9 (QL x5) x2 x10 n))
 (fun _ x2 x10=>(h3 _ _))
 (fun k _ q i x2 x10=>(QI q (Qd (Qd (Qd Qb (i _ _)) (Qd Qb (i _ _))) (Qd (Qd Qb (i _ _)) (Qd Qb (i _ _))))))
theorem QcR {K2} {x1 x6} (hl:Z2 x1) (h2:Cm2 K2 (YG x1 x6)):QuH x1 (fun r _ x2 x7=>ZU K2 x1 x6 r x2 x7) (YH x1 x1 (x1.length:Int) x6) :=
 QwW (d:=(Ty.dflt Qs)) hl (fun x5 x2 x7 n=>(by kernel_rfl:_ =
  bif decide (x5<(x1.length:Int)) then
   bif inB x5 x1.length then
    ZV x1 x1 (x1.length:Int) x5 (JW Qs x6 (rd x1 x5 (Ty.dflt Qs)) ([])) ((JW Qs x6 (rd x1 x5 (Ty.dflt Qs)) ([])).length:Int) x6 (rd x1 x5 (Ty.dflt Qs)) 0 x2 x7 n
   else none
  else
   YG x1 x6 x2 x7 n))
 (fun _ x2 x7=>(h2 _ _))
 (fun k _ q i x2 x7=>(QI q (QD fun l=>QcQ l i _ 0 rfl _ _)))
theorem QcS {x1 x3}:∀ m x2 x4,Cm (Zq x1 x3 m x2 x4) (YG x1 x3 x2 x4) :=
 QwX (p:=(Zq x1 x3)) (fun x2 x4 n=>(by kernel_rfl:_ =
  bif x2 then
   YH x1 x1 (x1.length:Int) x3 0 false x4 n
  else
   some (x4,true)))
 (fun _ _=>rfl)
 (fun m i x2 x4=>(Qd (QD fun l=>QcR l i _ 0 rfl _ _) Qb))
theorem QcT {m:Nat} {x1 x5} (hl:Z2 x1):XF x1 (fun r _ x6=>Zr m x1 x5 r x6) (GB x1 x1 (x1.length:Int) x5) :=
 X5 (d:=(Ty.dflt Qs)) hl (fun x4 x6 n=>(by kernel_rfl:_ =
  bif decide (x4<(x1.length:Int)) then
   bif inB x4 x1.length then
    GB x1 x1 (x1.length:Int) x5 (QL x4) (H9 Qs x6 (rd x1 x4 (Ty.dflt Qs)) 0) n
   else none
  else
   YG x1 x5 true x6 n))
 (fun _ x6=>(QcS _ _ _))
 (fun k _ q i x6=>(QI q (i _)))
theorem Qdf {m:Nat} {x1 x5} (hl:Z2 x1):XF x1 (fun r _ x6=>Z5 m x1 x5 r x6) (GX x1 x1 (x1.length:Int) x5) :=
 X5 (d:=(Ty.dflt Qs)) hl (fun x4 x6 n=>(by kernel_rfl:_ =
  bif decide (x4<(x1.length:Int)) then
   bif inB x4 x1.length then
    (Jp x5 (rd x1 x4 (Ty.dflt Qs))).bind fun y2 =>
    GX x1 x1 (x1.length:Int) x5 (QL x4) (H9 Qs x6 (rd x1 x4 (Ty.dflt Qs)) y2) n
   else none
  else
   GB x1 x1 (x1.length:Int) x6 0 [] n))
 (fun _ x6=>(QD fun l=>QcT l _ 0 rfl _))
 (fun k _ q i x6=>(QI q (Qo fun y2=>(i _))))
theorem Ed:Ok_ ZM:=okD JE (by kernel_rfl) (Qc HE (Qc EI Qk))
 fun ⟨a0,_⟩=>QmO fun m=>QX (fun n=>(by kernel_rfl:_ =
  (Zu a0).bind fun y1 =>
  GX y1 y1 (y1.length:Int) a0 0 [] n))
 (Qo fun y1=>(QD fun l=>Qdf l _ 0 rfl _))
def ZY (K1:Option Bool) (x8:Qf):List Qq→Nat→Option Bool | [],k=>K1 | e::rest,k=>(QG x8 ((e).1)).bind fun y4=>(Zd ((e).1)).bind fun y5=>bif !(y5) then some false else bif decide ((e).1=([110,105,108]:List Int)) then some false else bif y4.2 then some false else bif decide ((0:Int)<(k:Int)) then bif inB (IntKind.wrap .i64 ((k:Int) - 1)) x8.2.2.length then bif !Zn ((rd x8.2.2 (IntKind.wrap .i64 ((k:Int) - 1)) (Ty.dflt Qp)).1) ((e).1) then some false else ZY K1 x8 rest (k+1) else none else ZY K1 x8 rest (k+1)
def ZA (K1:Option Bool) (x8:Qf):List Qv→Nat→Option Bool | [],k=>QV x8.2.2 (ZY K1 x8 x8.2.2 0) | e::rest,k=>(Zd ((e).1)).bind fun y3=>bif !(y3) then some false else bif decide ((e).1=([110,105,108]:List Int)) then some false else bif decide ((0:Int)<(k:Int)) then bif inB (IntKind.wrap .i64 ((k:Int) - 1)) x8.2.1.length then bif !Zn ((rd x8.2.1 (IntKind.wrap .i64 ((k:Int) - 1)) (Ty.dflt Qr)).1) ((e).1) then some false else ZA K1 x8 rest (k+1) else none else ZA K1 x8 rest (k+1)
def Yp (K4:Option Bool) (x7:Qa) (x8:Qf):List Qq→Option Bool | []=>K4 | e::rest=>(Yi x7 x8 ((e).2)).bind fun y7=>bif !(y7) then some false else Yp K4 x7 x8 rest
def JF (K4:Option Bool) (x7:Qa) (x8:Qf):List Qv→Option Bool | []=>QV x8.2.2 (Yp K4 x7 x8 x8.2.2) | e::rest=>(Jn x7 (e)).bind fun y6=>bif !(y6) then some false else JF K4 x7 x8 rest
def Yq (x4:Qa):List Qf→Option Bool | []=>(QT x4).bind fun y8=>some y8.2 | e::rest=>QV (((e).2).1) (JF (Yq x4 rest) x4 (e) (((e).2).1))
def ZZ (x4:Qa):List Qf→Nat→Option Bool | [],k=>QV x4.2 (Yq x4 x4.2) | e::rest,k=>(Zd ((e).1)).bind fun y2=>bif !(y2) then some false else bif decide ((0:Int)<(k:Int)) then bif inB (IntKind.wrap .i64 ((k:Int) - 1)) x4.2.length then bif !Zn ((rd x4.2 (IntKind.wrap .i64 ((k:Int) - 1)) (Ty.dflt Qj)).1) ((e).1) then some false else bif decide ((12:Int)<((((e).2).1).length:Int)) then some false else bif decide ((12:Int)<((((e).2).2).length:Int)) then some false else QV (((e).2).1) (ZA (ZZ x4 rest (k+1)) (e) (((e).2).1) 0) else none else bif decide ((12:Int)<((((e).2).1).length:Int)) then some false else bif decide ((12:Int)<((((e).2).2).length:Int)) then some false else QV (((e).2).1) (ZA (ZZ x4 rest (k+1)) (e) (((e).2).1) 0)
def Jb (x4:Qa):List Q0→Nat→Option Bool | [],k=>QV x4.2 (ZZ x4 x4.2 0) | e::rest,k=>(Ht (e)).bind fun y1=>bif !(y1) then some false else bif decide ((0:Int)<(k:Int)) then bif inB (IntKind.wrap .i64 ((k:Int) - 1)) x4.1.length then bif !Zn ((rd x4.1 (IntKind.wrap .i64 ((k:Int) - 1)) (Ty.dflt QB)).1) ((e).1) then some false else Jb x4 rest (k+1) else none else Jb x4 rest (k+1)
def Z8 (a0:Qa):Option Bool:=bif decide ((8:Int)<(a0.1.length:Int)) then some false else bif decide ((12:Int)<(a0.2.length:Int)) then some false else QV a0.1 (Jb a0 a0.1 0)
def ZN:Ctr:=⟨26,[Qe],[.bool],fun x=>Z8 x.1⟩
def Ji:Kn:=⟨Tryz.f26,[([0,4],[.keep 0 1,.keep 0 32,.keep 0 33,.keep 0 34,.boxd 0 1 Qe]),([0,10],[.keep 0 1,.keep 0 60,.keep 0 61,.keep 0 62,.boxd 0 1 Qe]),([0,15],[.keep 0 1,.keep 0 6,.keep 0 60,.keep 0 61,.keep 0 62,.keep 0 100,.keep 0 101,.keep 0 102,.boxd 0 1 Qe,.boxd 0 6 Qj]),([0,21],[.keep 0 1,.keep 0 6,.keep 0 60,.keep 0 61,.keep 0 62,.keep 0 134,.keep 0 135,.keep 0 136,.boxd 0 1 Qe,.boxd 0 6 Qj]),([0,29],[.keep 0 1,.keep 0 179,.keep 0 180,.keep 0 181,.boxd 0 1 Qe]),([0,32],[.keep 0 1,.keep 0 14,.keep 0 179,.keep 0 180,.keep 0 181,.keep 0 186,.keep 0 187,.keep 0 188,.boxd 0 1 Qe,.boxd 0 14 Qj]),([0,38],[.keep 0 1,.keep 0 14,.keep 0 179,.keep 0 180,.keep 0 181,.keep 0 198,.keep 0 199,.keep 0 200,.boxd 0 1 Qe,.boxd 0 14 Qj])],[],[Hu,He,ZJ,Yn,Yj,ZM]⟩
abbrev Gr (x1:(List Q0)) (x2:Int) (x4:Qa) (x3:Int) (n:Nat):Option Bool:=LD_ Ji ZN [0,4] [.ptr 0 1 0,.d (.list QB) x1,.d I64 x2,.d I64 x3,.agg (Qm Qe x4)] n
abbrev Yr (x1:(List Qf)) (x2:Int) (x4:Qa) (x3:Int) (n:Nat):Option Bool:=LD_ Ji ZN [0,10] [.ptr 0 1 0,.d (.list Qj) x1,.d I64 x2,.d I64 x3,.agg (Qm Qe x4)] n
abbrev Ys (x1:(List Qf)) (x2:Int) (x3:Int) (x4:(List Qv)) (x5:Int) (x7:Qa) (x8:Qf) (x6:Int) (n:Nat):Option Bool:=LD_ Ji ZN [0,15] [.ptr 0 1 0,.ptr 0 6 0,.d (.list Qj) x1,.d I64 x2,.d I64 x3,.d (.list Qr) x4,.d I64 x5,.d I64 x6,.agg (Qm Qe x7),.agg (Qm Qj x8)] n
abbrev V2 (x1:(List Qf)) (x2:Int) (x3:Int) (x4:(List Qq)) (x5:Int) (x7:Qa) (x8:Qf) (x6:Int) (n:Nat):Option Bool:=LD_ Ji ZN [0,21] [.ptr 0 1 0,.ptr 0 6 0,.d (.list Qj) x1,.d I64 x2,.d I64 x3,.d (.list Qp) x4,.d I64 x5,.d I64 x6,.agg (Qm Qe x7),.agg (Qm Qj x8)] n
abbrev Yt (x1:(List Qf)) (x2:Int) (x4:Qa) (x3:Int) (n:Nat):Option Bool:=LD_ Ji ZN [0,29] [.ptr 0 1 0,.d (.list Qj) x1,.d I64 x2,.d I64 x3,.agg (Qm Qe x4)] n
abbrev X7 (x1:(List Qf)) (x2:Int) (x3:Int) (x4:(List Qv)) (x5:Int) (x7:Qa) (x8:Qf) (x6:Int) (n:Nat):Option Bool:=LD_ Ji ZN [0,32] [.ptr 0 1 0,.ptr 0 14 0,.d (.list Qj) x1,.d I64 x2,.d I64 x3,.d (.list Qr) x4,.d I64 x5,.d I64 x6,.agg (Qm Qe x7),.agg (Qm Qj x8)] n
abbrev X8 (x1:(List Qf)) (x2:Int) (x3:Int) (x4:(List Qq)) (x5:Int) (x7:Qa) (x8:Qf) (x6:Int) (n:Nat):Option Bool:=LD_ Ji ZN [0,38] [.ptr 0 1 0,.ptr 0 14 0,.d (.list Qj) x1,.d I64 x2,.d I64 x3,.d (.list Qp) x4,.d I64 x5,.d I64 x6,.agg (Qm Qe x7),.agg (Qm Qj x8)] n
theorem Qft {K1} {x1 x2 x3 x4 x7 x8} (hl:Z2 x4) (h1:Cm K1 (Yr x1 x2 x7 (QL x3))):Jy x4 (ZY K1 x8) (V2 x1 x2 x3 x4 (x4.length:Int) x7 x8) :=
 JN (d:=(Ty.dflt Qp)) hl (fun x6 n=>(by kernel_rfl:_ =
  bif decide (x6<(x4.length:Int)) then
   bif inB x6 x4.length then
    (QG x8 ((rd x4 x6 (Ty.dflt Qp)).1)).bind fun y4 =>
    (Zd ((rd x4 x6 (Ty.dflt Qp)).1)).bind fun y5 =>
    bif !(y5) then
     some false
    else
     bif decide ((rd x4 x6 (Ty.dflt Qp)).1=([110,105,108]:List Int)) then
      some false
     else
      bif y4.2 then
       some false
      else
       bif decide ((0:Int)<x6) then
        bif inB (IntKind.wrap .i64 (x6 - 1)) x8.2.2.length then
         bif !Zn ((rd x8.2.2 (IntKind.wrap .i64 (x6 - 1)) (Ty.dflt Qp)).1) ((rd x4 x6 (Ty.dflt Qp)).1) then
          some false
         else
          V2 x1 x2 x3 x4 (x4.length:Int) x7 x8 (QL x6) n
        else none
       else
        V2 x1 x2 x3 x4 (x4.length:Int) x7 x8 (QL x6) n
   else none
  else
   Yr x1 x2 x7 (QL x3) n))
 (fun _=>h1)
 (fun k _ q i=>(QI q (Qo fun y4=>(Qo fun y5=>(Qd Qb (Qd Qb (Qd Qb (Qd (Qd (Qd Qb i) QC) i))))))))
theorem Ee {K1} {x1 x2 x3 x4 x7 x8} (hl:Z2 x4) (h1:Cm K1 (Yr x1 x2 x7 (QL x3))):Jy x4 (ZA K1 x8) (Ys x1 x2 x3 x4 (x4.length:Int) x7 x8) :=
 JN (d:=(Ty.dflt Qr)) hl (fun x6 n=>(by kernel_rfl:_ =
  bif decide (x6<(x4.length:Int)) then
   bif inB x6 x4.length then
    (Zd ((rd x4 x6 (Ty.dflt Qr)).1)).bind fun y3 =>
    bif !(y3) then
     some false
    else
     bif decide ((rd x4 x6 (Ty.dflt Qr)).1=([110,105,108]:List Int)) then
      some false
     else
      bif decide ((0:Int)<x6) then
       bif inB (IntKind.wrap .i64 (x6 - 1)) x8.2.1.length then
        bif !Zn ((rd x8.2.1 (IntKind.wrap .i64 (x6 - 1)) (Ty.dflt Qr)).1) ((rd x4 x6 (Ty.dflt Qr)).1) then
         some false
        else
         Ys x1 x2 x3 x4 (x4.length:Int) x7 x8 (QL x6) n
       else none
      else
       Ys x1 x2 x3 x4 (x4.length:Int) x7 x8 (QL x6) n
   else none
  else
   V2 x1 x2 x3 x8.2.2 (x8.2.2.length:Int) x7 x8 0 n))
 (fun _=>(QD fun l=>Qft l h1 _ 0 rfl))
 (fun k _ q i=>(QI q (Qo fun y3=>(Qd Qb (Qd Qb (Qd (Qd (Qd Qb i) QC) i))))))
theorem Qfu {K4} {x1 x2 x3 x4 x7 x8} (hl:Z2 x4) (h4:Cm K4 (Yt x1 x2 x7 (QL x3))):Jy x4 (fun r _=>Yp K4 x7 x8 r) (X8 x1 x2 x3 x4 (x4.length:Int) x7 x8) :=
 JN (d:=(Ty.dflt Qp)) hl (fun x6 n=>(by kernel_rfl:_ =
  bif decide (x6<(x4.length:Int)) then
   bif inB x6 x4.length then
    (Yi x7 x8 ((rd x4 x6 (Ty.dflt Qp)).2)).bind fun y7 =>
    bif !(y7) then
     some false
    else
     X8 x1 x2 x3 x4 (x4.length:Int) x7 x8 (QL x6) n
   else none
  else
   Yt x1 x2 x7 (QL x3) n))
 (fun _=>h4)
 (fun k _ q i=>(QI q (Qo fun y7=>(Qd Qb i))))
theorem Qfv {K4} {x1 x2 x3 x4 x7 x8} (hl:Z2 x4) (h4:Cm K4 (Yt x1 x2 x7 (QL x3))):Jy x4 (fun r _=>JF K4 x7 x8 r) (X7 x1 x2 x3 x4 (x4.length:Int) x7 x8) :=
 JN (d:=(Ty.dflt Qr)) hl (fun x6 n=>(by kernel_rfl:_ =
  bif decide (x6<(x4.length:Int)) then
   bif inB x6 x4.length then
    (Jn x7 (rd x4 x6 (Ty.dflt Qr))).bind fun y6 =>
    bif !(y6) then
     some false
    else
     X7 x1 x2 x3 x4 (x4.length:Int) x7 x8 (QL x6) n
   else none
  else
   X8 x1 x2 x3 x8.2.2 (x8.2.2.length:Int) x7 x8 0 n))
 (fun _=>(QD fun l=>Qfu l h4 _ 0 rfl))
 (fun k _ q i=>(QI q (Qo fun y6=>(Qd Qb i))))
theorem Qfw {x1 x4} (hl:Z2 x1):Jy x1 (fun r _=>Yq x4 r) (Yt x1 (x1.length:Int) x4) :=
 JN (d:=(Ty.dflt Qj)) hl (fun x3 n=>(by kernel_rfl:_ =
  bif decide (x3<(x1.length:Int)) then
   bif inB x3 x1.length then
    X7 x1 (x1.length:Int) x3 (((rd x1 x3 (Ty.dflt Qj)).2).1) ((((rd x1 x3 (Ty.dflt Qj)).2).1).length:Int) x4 (rd x1 x3 (Ty.dflt Qj)) 0 n
   else none
  else
   (QT x4).bind fun y8 =>
   some y8.2))
 (fun _=>(Qo fun y8=>Qb))
 (fun k _ q i=>(QI q (QD fun l=>Qfv l i _ 0 rfl)))
theorem Qfx {x1 x4} (hl:Z2 x1):Jy x1 (ZZ x4) (Yr x1 (x1.length:Int) x4) :=
 JN (d:=(Ty.dflt Qj)) hl (fun x3 n=>(by kernel_rfl:_ =
  bif decide (x3<(x1.length:Int)) then
   bif inB x3 x1.length then
    (Zd ((rd x1 x3 (Ty.dflt Qj)).1)).bind fun y2 =>
    bif !(y2) then
     some false
    else
     bif decide ((0:Int)<x3) then
      bif inB (IntKind.wrap .i64 (x3 - 1)) x4.2.length then
       bif !Zn ((rd x4.2 (IntKind.wrap .i64 (x3 - 1)) (Ty.dflt Qj)).1) ((rd x1 x3 (Ty.dflt Qj)).1) then
        some false
       else
        bif decide ((12:Int)<((((rd x1 x3 (Ty.dflt Qj)).2).1).length:Int)) then
         some false
        else
         bif decide ((12:Int)<((((rd x1 x3 (Ty.dflt Qj)).2).2).length:Int)) then
          some false
         else
          Ys x1 (x1.length:Int) x3 (((rd x1 x3 (Ty.dflt Qj)).2).1) ((((rd x1 x3 (Ty.dflt Qj)).2).1).length:Int) x4 (rd x1 x3 (Ty.dflt Qj)) 0 n
      else none
     else
      bif decide ((12:Int)<((((rd x1 x3 (Ty.dflt Qj)).2).1).length:Int)) then
       some false
      else
       bif decide ((12:Int)<((((rd x1 x3 (Ty.dflt Qj)).2).2).length:Int)) then
        some false
       else
        Ys x1 (x1.length:Int) x3 (((rd x1 x3 (Ty.dflt Qj)).2).1) ((((rd x1 x3 (Ty.dflt Qj)).2).1).length:Int) x4 (rd x1 x3 (Ty.dflt Qj)) 0 n
   else none
  else
   Yt x4.2 (x4.2.length:Int) x4 0 n))
 (fun _=>(QD fun l=>Qfw l _ 0 rfl))
 (fun k _ q i=>(QI q (Qo fun y2=>(Qd Qb (Qd (Qd (Qd Qb (Qd Qb (Qd Qb (QD fun l=>Ee l i _ 0 rfl)))) QC) (Qd Qb (Qd Qb (QD fun l=>Ee l i _ 0 rfl))))))))
theorem Qgq {x1 x4} (hl:Z2 x1):Jy x1 (Jb x4) (Gr x1 (x1.length:Int) x4) :=
 JN (d:=(Ty.dflt QB)) hl (fun x3 n=>(by kernel_rfl:_ =
  bif decide (x3<(x1.length:Int)) then
   bif inB x3 x1.length then
    (Ht (rd x1 x3 (Ty.dflt QB))).bind fun y1 =>
    bif !(y1) then
     some false
    else
     bif decide ((0:Int)<x3) then
      bif inB (IntKind.wrap .i64 (x3 - 1)) x4.1.length then
       bif !Zn ((rd x4.1 (IntKind.wrap .i64 (x3 - 1)) (Ty.dflt QB)).1) ((rd x1 x3 (Ty.dflt QB)).1) then
        some false
       else
        Gr x1 (x1.length:Int) x4 (QL x3) n
      else none
     else
      Gr x1 (x1.length:Int) x4 (QL x3) n
   else none
  else
   Yr x4.2 (x4.2.length:Int) x4 0 n))
 (fun _=>(QD fun l=>Qfx l _ 0 rfl))
 (fun k _ q i=>(QI q (Qo fun y1=>(Qd Qb (Qd (Qd (Qd Qb i) QC) i)))))
theorem QbA:Ok_ ZN:=okD Ji (by kernel_rfl) (Qc Qm2 (Qc W0 (Qc JC (Qc Qbq (Qc Qd1 (Qc Ed Qk))))))
 fun ⟨a0,_⟩=>QX (fun n=>(by kernel_rfl:_ =
  bif decide ((8:Int)<(a0.1.length:Int)) then
   some false
  else
   bif decide ((12:Int)<(a0.2.length:Int)) then
    some false
   else
    Gr a0.1 (a0.1.length:Int) a0 0 n))
 (Qd Qb (Qd Qb (QD fun l=>Qgq l _ 0 rfl)))
def Y7:List Int→Option Bool | []=>some true | e::rest=>bif !(Ge (e)) then bif !decide (e=45) then bif !decide (e=46) then some false else Y7 rest else Y7 rest else Y7 rest
def XQ (a0:(List Int)):Option Bool:=bif decide ((a0.length:Int)<1) then some false else bif decide ((40:Int)<(a0.length:Int)) then some false else QV a0 (Y7 a0)
def QeL:Ctr:=⟨67,[.str],[.bool],fun x=>XQ x.1⟩
def QiA:Kn:=⟨Tryz.f67,[([0,4],[.keep 0 0,.keep 0 13,.keep 0 14])],[],[Qb0]⟩
abbrev XR (x1:(List Int)) (x2:Int) (x3:Int) (n:Nat):Option Bool:=LD_ QiA QeL [0,4] [.d .str x1,.d I64 x2,.d I64 x3] n
theorem Qm3 {x1} (hl:Z2 x1):Jy x1 (fun r _=>Y7 r) (XR x1 (x1.length:Int)) :=
 JN (d:=0) hl (fun x3 n=>(by kernel_rfl:_ =
  bif decide (x3<(x1.length:Int)) then
   bif inB x3 x1.length then
    bif !(Ge (rd x1 x3 0)) then
     bif inB x3 x1.length then
      bif !decide (rd x1 x3 0=45) then
       bif inB x3 x1.length then
        bif !decide (rd x1 x3 0=46) then
         some false
        else
         XR x1 (x1.length:Int) (QL x3) n
       else none
      else
       XR x1 (x1.length:Int) (QL x3) n
     else none
    else
     XR x1 (x1.length:Int) (QL x3) n
   else none
  else
   some true))
 (fun _=>Qb)
 (fun k _ q i=>(QI q (Qd (QI q (Qd (QI q (Qd Qb i)) i)) i)))
theorem Qrk:Ok_ QeL:=okD QiA (by kernel_rfl) (Qc QfP Qk)
 fun ⟨a0,_⟩=>QX (fun n=>(by kernel_rfl:_ =
  bif decide ((a0.length:Int)<1) then
   some false
  else
   bif decide ((40:Int)<(a0.length:Int)) then
    some false
   else
    XR a0 (a0.length:Int) 0 n))
 (Qd Qb (Qd Qb (QD fun l=>Qm3 l _ 0 rfl)))
def VH (x4:Qx):List Qx→Nat→Option Int | [],k=>some (-1) | e::rest,k=>bif @decide (x4=(e)) (Ty.decEq Qg x4 (e)) then some (k:Int) else VH x4 rest (k+1)
def Qab (a0:(List Qx)) (a1:Qx):Option Int:=QV a0 (VH a1 a0 0)
def Qac:Ctr:=⟨125,[(.list Qg),Qg],[I64],fun x=>Qab x.1 x.2.1⟩
def QdD:Kn:=⟨Tryz.f125,[([0,2],[.keep 0 0,.keep 0 3,.keep 0 7,.keep 0 8,.boxd 0 3 Qg])],[],[]⟩
abbrev Uw (x1:(List Qx)) (x2:Int) (x4:Qx) (x3:Int) (n:Nat):Option Int:=LD_ QdD Qac [0,2] [.d (.list Qg) x1,.ptr 0 3 0,.d I64 x2,.d I64 x3,.agg (Qm Qg x4)] n
theorem Qh5 {x1 x4} (hl:Z2 x1):Jy x1 (VH x4) (Uw x1 (x1.length:Int) x4) :=
 JN (d:=(Ty.dflt Qg)) hl (fun x3 n=>(by kernel_rfl:_ =
  bif decide (x3<(x1.length:Int)) then
   bif inB x3 x1.length then
    bif @decide (x4=(rd x1 x3 (Ty.dflt Qg))) (Ty.decEq Qg x4 (rd x1 x3 (Ty.dflt Qg))) then
     some x3
    else
     Uw x1 (x1.length:Int) x4 (QL x3) n
   else none
  else
   some (-1:Int)))
 (fun _=>Qb)
 (fun k _ q i=>(QI q (Qd Qb i)))
theorem Qlu:Ok_ Qac:=okD QdD (by kernel_rfl) Qk
 fun ⟨a0,a1,_⟩=>QX (fun n=>(by kernel_rfl:_ =
  Uw a0 (a0.length:Int) a1 0 n))
 (QD fun l=>Qh5 l _ 0 rfl)
def ZQ (a0:(List Qx)) (a1:Qx):Option Bool:=(Qab a0 a1).bind fun y1=>some (decide ((0:Int)≤y1))
def XS:Ctr:=⟨68,[(.list Qg),Qg],[.bool],fun x=>ZQ x.1 x.2.1⟩
theorem EJ:Ok_ XS:=okS ⟨Tryz.f68,[],[],[Qac]⟩ (by kernel_rfl) (Qc Qlu Qk) fun _=>by kernel_rfl
def VI (a0:Xg):Bool:=bif decide (a0.1=0) then bif Jl a0.2.1 then bif decide ((a0.2.2.1.length:Int)=0) then decide ((a0.2.2.2.length:Int)=0) else false else false else false
def QfQ:Ctr:=⟨69,[Vi],[.bool],fun x=>some (VI x.1)⟩
theorem Qm4:Ok_ QfQ:=okD ⟨Tryz.f69,[],[],[W1]⟩ (by kernel_rfl) (Qc Qa2 Qk)
 fun ⟨a0,_⟩=>QX (fun n=>(by kernel_rfl:_ =
  bif decide (a0.1=0) then
   bif Jl a0.2.1 then
    bif decide ((a0.2.2.1.length:Int)=0) then
     some (decide ((a0.2.2.2.length:Int)=0))
    else
     some false
   else
    some false
  else
   some false))
 (Qev (Zj (Zj (Zj rfl rfl) rfl) rfl))
def UH (a0:YT) (a1:YT):Option Int:=(Qa5 ([YE a0.1 a1.1,YE a0.2.1 a1.2.1,ZK a0.2.2.2 a1.2.2.2,ZK a0.2.2.1 a1.2.2.1]:List Int)).bind fun y1=>some y1
def QiB:Ctr:=⟨190,[QN,QN],[I64],fun x=>UH x.1 x.2.1⟩
theorem QpS:Ok_ QiB:=okS ⟨Tryz.f190,[],[],[Qa4,WB,QdZ]⟩ (by kernel_rfl) (Qc QeI (Qc Qbz (Qc Ql0 Qk))) fun _=>by kernel_rfl
def Yb (x1:(List YT)):List YT→Nat→Option Bool | [],k=>some true | e::rest,k=>(JQ (e)).bind fun y1=>bif !(y1) then some false else bif decide ((0:Int)<(k:Int)) then bif inB (IntKind.wrap .i64 ((k:Int) - 1)) x1.length then (UH (rd x1 (IntKind.wrap .i64 ((k:Int) - 1)) (Ty.dflt QN)) (e)).bind fun y2=>bif decide ((0:Int)≤y2) then some false else Yb x1 rest (k+1) else none else Yb x1 rest (k+1)
def Xc (a0:(List YT)):Option Bool:=QV a0 (Yb a0 a0 0)
def Eu:Ctr:=⟨166,[(.list QN)],[.bool],fun x=>Xc x.1⟩
def QcU:Kn:=⟨Tryz.f166,[([0,2],[.keep 0 0,.keep 0 5,.keep 0 6,.keep 0 7])],[],[Hf,QiB]⟩
abbrev GN (x1:(List YT)) (x2:(List YT)) (x3:Int) (x4:Int) (n:Nat):Option Bool:=LD_ QcU Eu [0,2] [.d (.list QN) x1,.d (.list QN) x2,.d I64 x3,.d I64 x4] n
theorem Qg4 {x1} (hl:Z2 x1):Jy x1 (Yb x1) (GN x1 x1 (x1.length:Int)) :=
 JN (d:=(Ty.dflt QN)) hl (fun x4 n=>(by kernel_rfl:_ =
  bif decide (x4<(x1.length:Int)) then
   bif inB x4 x1.length then
    (JQ (rd x1 x4 (Ty.dflt QN))).bind fun y1 =>
    bif !(y1) then
     some false
    else
     bif decide ((0:Int)<x4) then
      bif inB (IntKind.wrap .i64 (x4 - 1)) x1.length then
       (UH (rd x1 (IntKind.wrap .i64 (x4 - 1)) (Ty.dflt QN)) (rd x1 x4 (Ty.dflt QN))).bind fun y2 =>
       bif decide ((0:Int)≤y2) then
        some false
       else
        GN x1 x1 (x1.length:Int) (QL x4) n
      else none
     else
      GN x1 x1 (x1.length:Int) (QL x4) n
   else none
  else
   some true))
 (fun _=>Qb)
 (fun k _ q i=>(QI q (Qo fun y1=>(Qd Qb (Qd (Qd (Qo fun y2=>(Qd Qb i)) QC) i)))))
theorem Qkd:Ok_ Eu:=okD QcU (by kernel_rfl) (Qc Qb2 (Qc QpS Qk))
 fun ⟨a0,_⟩=>QX (fun n=>(by kernel_rfl:_ =
  GN a0 a0 (a0.length:Int) 0 n))
 (QD fun l=>Qg4 l _ 0 rfl)
def Jq:List (List Int)→Nat→Option Bool | [],k=>some true | e::rest,k=>(Zd (e)).bind fun y1=>bif !(y1) then some (!decide ((0:Int)≤(k:Int))) else Jq rest (k+1)
def H4 (a0:(List (List Int))):Option Bool:=QV a0 (Jq a0 0)
def Qb6:Ctr:=⟨167,[(.list .str)],[.bool],fun x=>H4 x.1⟩
def QfR:Kn:=⟨Tryz.f167,[([0,2,1002,1001],[.keep 2 0,.keep 2 1,.keep 2 7,.keep 2 8])],[([1001],119),([1002,1001],163),([4005,1002,1001],191)],[He]⟩
abbrev Gf (x1:(List (List Int))) (x2:Int) (x3:Int) (n:Nat):Option Bool:=LD_ QfR Qb6 [0,2,1002,1001] [.d (.list .str) x1,.fn 191 [],.d I64 x2,.d I64 x3] n
theorem Qb7 {x1} (hl:Z2 x1):Jy x1 (Jq) (Gf x1 (x1.length:Int)) :=
 JN (d:=(Ty.dflt .str)) hl (fun x3 n=>(by kernel_rfl:_ =
  bif decide (x3<(x1.length:Int)) then
   bif inB x3 x1.length then
    (Zd (rd x1 x3 (Ty.dflt .str))).bind fun y1 =>
    bif !(y1) then
     some (!decide ((0:Int)≤x3))
    else
     Gf x1 (x1.length:Int) (QL x3) n
   else none
  else
   some true))
 (fun _=>Qb)
 (fun k _ q i=>(QI q (Qo fun y1=>(Qd Qb i))))
theorem Qog:Ok_ Qb6:=okD QfR (by kernel_rfl) (Qc W0 Qk)
 fun ⟨a0,_⟩=>QX (fun n=>(by kernel_rfl:_ =
  Gf a0 (a0.length:Int) 0 n))
 (QD fun l=>Qb7 l _ 0 rfl)
def Gg (x1:(List (List Int))):List (List Int)→Nat→Option Bool | [],k=>some true | e::rest,k=>bif decide ((0:Int)<(k:Int)) then bif inB (IntKind.wrap .i64 ((k:Int) - 1)) x1.length then bif !Zn (rd x1 (IntKind.wrap .i64 ((k:Int) - 1)) (Ty.dflt .str)) (e) then some false else Gg x1 rest (k+1) else none else Gg x1 rest (k+1)
def WC (a0:(List (List Int))):Option Bool:=QV a0 (Gg a0 a0 0)
def QeM:Ctr:=⟨168,[(.list .str)],[.bool],fun x=>WC x.1⟩
def QiC:Kn:=⟨Tryz.f168,[([0,2],[.keep 0 0,.keep 0 5,.keep 0 6,.keep 0 7])],[],[]⟩
abbrev Ux (x1:(List (List Int))) (x2:(List (List Int))) (x3:Int) (x4:Int) (n:Nat):Option Bool:=LD_ QiC QeM [0,2] [.d (.list .str) x1,.d (.list .str) x2,.d I64 x3,.d I64 x4] n
theorem Qm5 {x1} (hl:Z2 x1):Jy x1 (Gg x1) (Ux x1 x1 (x1.length:Int)) :=
 JN (d:=(Ty.dflt .str)) hl (fun x4 n=>(by kernel_rfl:_ =
  bif decide (x4<(x1.length:Int)) then
   bif inB x4 x1.length then
    bif decide ((0:Int)<x4) then
     bif inB (IntKind.wrap .i64 (x4 - 1)) x1.length then
      bif !Zn (rd x1 (IntKind.wrap .i64 (x4 - 1)) (Ty.dflt .str)) (rd x1 x4 (Ty.dflt .str)) then
       some false
      else
       Ux x1 x1 (x1.length:Int) (QL x4) n
     else none
    else
     Ux x1 x1 (x1.length:Int) (QL x4) n
   else none
  else
   some true))
 (fun _=>Qb)
 (fun k _ q i=>(QI q (Qd (Qd (Qd Qb i) QC) i)))
theorem Qrl:Ok_ QeM:=okD QiC (by kernel_rfl) Qk
 fun ⟨a0,_⟩=>QX (fun n=>(by kernel_rfl:_ =
  Ux a0 a0 (a0.length:Int) 0 n))
 (QD fun l=>Qm5 l _ 0 rfl)
def Jr:List YT→Nat→Option Bool | [],k=>some true | e::rest,k=>(JQ (e)).bind fun y5=>bif !(y5) then some (!decide ((0:Int)≤(k:Int))) else Jr rest (k+1)
def W2 (a0:Xg):Option Bool:=bif decide (a0.1=1) then (JQ a0.2.1).bind fun y1=>bif y1 then bif decide ((a0.2.2.1.length:Int)=0) then some (decide ((a0.2.2.2.length:Int)=0)) else some false else some false else bif decide (a0.1=2) then bif Jl a0.2.1 then bif decide ((a0.2.2.1.length:Int)≤50) then bif decide ((a0.2.2.2.length:Int)=0) then (Xc a0.2.2.1).bind fun y2=>some y2 else some false else some false else some false else bif decide (a0.1=3) then bif Jl a0.2.1 then bif decide ((a0.2.2.2.length:Int)≤50) then bif decide ((a0.2.2.1.length:Int)=(a0.2.2.2.length:Int)) then (H4 a0.2.2.2).bind fun y3=>bif y3 then (WC a0.2.2.2).bind fun y4=>bif y4 then QV a0.2.2.1 (Jr a0.2.2.1 0) else some false else some false else some false else some false else some false else some false
def Qb8:Ctr:=⟨126,[Vi],[.bool],fun x=>W2 x.1⟩
def QfS:Kn:=⟨Tryz.f126,[([0,2,1002,7031],[.keep 0 74,.keep 2 0,.keep 2 1,.keep 2 7,.keep 2 8])],[([7031],169),([1002,7031],192),([4005,1002,7031],170)],[Hf,W1,Eu,Qb6,QeM]⟩
abbrev Gh (x1:Bool) (x2:(List YT)) (x3:Int) (x4:Int) (n:Nat):Option Bool:=LD_ QfS Qb8 [0,2,1002,7031] [.d .bool x1,.d (.list QN) x2,.fn 170 [],.d I64 x3,.d I64 x4] n
theorem Qb9 {x2} (hl:Z2 x2):Jy x2 (Jr) (Gh true x2 (x2.length:Int)) :=
 JN (d:=(Ty.dflt QN)) hl (fun x4 n=>(by kernel_rfl:_ =
  bif decide (x4<(x2.length:Int)) then
   bif inB x4 x2.length then
    (JQ (rd x2 x4 (Ty.dflt QN))).bind fun y5 =>
    bif !(y5) then
     bif true then
      some (!decide ((0:Int)≤x4))
     else
      some false
    else
     Gh true x2 (x2.length:Int) (QL x4) n
   else none
  else
   bif true then
    some true
   else
    some false))
 (fun _=>(Qk8 rfl Qb))
 (fun k _ q i=>(QI q (Qo fun y5=>(Qd (Qk8 rfl Qb) i))))
theorem Qoh:Ok_ Qb8:=okD QfS (by kernel_rfl) (Qc Qb2 (Qc Qa2 (Qc Qkd (Qc Qog (Qc Qrl Qk)))))
 fun ⟨a0,_⟩=>QX (fun n=>(by kernel_rfl:_ =
  bif decide (a0.1=1) then
   (JQ a0.2.1).bind fun y1 =>
   bif y1 then
    bif decide ((a0.2.2.1.length:Int)=0) then
     some (decide ((a0.2.2.2.length:Int)=0))
    else
     some false
   else
    some false
  else
   bif decide (a0.1=2) then
    bif Jl a0.2.1 then
     bif decide ((a0.2.2.1.length:Int)≤50) then
      bif decide ((a0.2.2.2.length:Int)=0) then
       (Xc a0.2.2.1).bind fun y2 =>
       some y2
      else
       some false
     else
      some false
    else
     some false
   else
    bif decide (a0.1=3) then
     bif Jl a0.2.1 then
      bif decide ((a0.2.2.2.length:Int)≤50) then
       bif decide ((a0.2.2.1.length:Int)=(a0.2.2.2.length:Int)) then
        (H4 a0.2.2.2).bind fun y3 =>
        bif y3 then
         (WC a0.2.2.2).bind fun y4 =>
         bif y4 then
          Gh true a0.2.2.1 (a0.2.2.1.length:Int) 0 n
         else
          some false
        else
         some false
       else
        some false
      else
       some false
     else
      some false
    else
     some false))
 (Qd (Qo fun y1=>(Qd (Qd Qb Qb) Qb)) (Qd (Qd (Qd (Qd (Qo fun y2=>Qb) Qb) Qb) Qb) (Qd (Qd (Qd (Qd (Qo fun y3=>(Qd (Qo fun y4=>(Qd (QD fun l=>Qb9 l _ 0 rfl) Qb)) Qb)) Qb) Qb) Qb) Qb)))
def Y8 (a0:Xg):Option Bool:=bif decide (a0.1=3) then (W2 a0).bind fun y1=>some y1 else some false
def QeN:Ctr:=⟨72,[Vi],[.bool],fun x=>Y8 x.1⟩
theorem Qlv:Ok_ QeN:=okS ⟨Tryz.f72,[],[],[Qb8]⟩ (by kernel_rfl) (Qc Qoh Qk) fun _=>by kernel_rfl
def Zv (x4:Xh) (x5:Q0):List (List Int)→Nat→Option Bool | [],k=>some true | e::rest,k=>(Z7 x5 (e)).bind fun y7=>bif !(y7.2) then some false else bif inB (k:Int) x4.2.2.2.2.2.2.2.2.2.1.length then bif !decide (y7.1.2=(rd x4.2.2.2.2.2.2.2.2.2.1 (k:Int) (Ty.dflt QN)).1) then some false else Zv x4 x5 rest (k+1) else none
def Zb (x1:(List Int)) (x5:Xh):List Q0→Option Bool | []=>(Y8 x5.2.2.2.2.2.2.2).bind fun y8=>bif !(y8) then some false else QV x5.2.2.2.2.2.2.2.2.2.2 (Zv x5 (([]:List Int),[],[]) x5.2.2.2.2.2.2.2.2.2.2 0) | e::rest=>bif decide ((e).1=x1) then (Y8 x5.2.2.2.2.2.2.2).bind fun y6=>bif !(y6) then some false else QV x5.2.2.2.2.2.2.2.2.2.2 (Zv x5 (e) x5.2.2.2.2.2.2.2.2.2.2 0) else Zb x1 x5 rest
def Ye (x1:Qa) (x2:Xh) (x3:Qv):Option Bool:=(ZQ x3.2 (x2.2.2.2.1,x2.2.2.2.2.2.1,decide (x2.2.2.2.2.1=([42]:List Int)),x2.2.2.2.2.2.2.1)).bind fun y5=>bif !(y5) then some false else bif decide (x2.2.2.2.2.2.2.1=([]:List Int)) then some (VI x2.2.2.2.2.2.2.2) else QV x1.1 (Zb x2.2.2.2.2.2.2.1 x2 x1.1)
def J6 (a0:Qa) (a1:Xh):Option Bool:=(Zo a0 a1.1).bind fun y1=>(QG y1.1 a1.2.2.1).bind fun y2=>bif !(y1.2) then some false else bif !(y2.2) then some false else (XQ a1.2.1).bind fun y3=>bif !(y3) then some false else bif !decide (a1.2.2.2.2.1=([42]:List Int)) then (XQ a1.2.2.2.2.1).bind fun y4=>bif !(y4) then some false else Ye a0 a1 y2.1 else Ye a0 a1 y2.1
def J7:Ctr:=⟨27,[Qe,Vt],[.bool],fun x=>J6 x.1 x.2.1⟩
def Y0:Kn:=⟨Tryz.f27,[([1,5],[.keep 0 2,.keep 0 3,.keep 0 7,.boxd 0 2 Qe,.boxd 0 3 Vt,.boxd 0 7 Qr]),([0,2,9004],[.keep 0 3,.keep 1 1,.keep 1 2,.keep 1 6,.keep 1 11,.keep 1 12,.keep 1 13,.boxd 0 3 Vt,.boxd 1 6 QB]),([0,13],[.keep 0 3,.keep 0 9,.keep 0 86,.keep 0 87,.keep 0 88,.boxd 0 3 Vt,.boxd 0 9 QB])],[([9004],70),([4002,9004],71)],[Ym,ZJ,QeL,XS,QfQ,QeN,Hs]⟩
abbrev VW (x1:Qa) (x2:Xh) (x3:Qv) (n:Nat):Option Bool:=LD_ Y0 J7 [1,5] [.ptr 0 2 0,.ptr 0 3 0,.ptr 0 7 0,.agg (Qm Qe x1),.agg (Qm Vt x2),.agg (Qm Qr x3)] n
abbrev YB (x1:(List Int)) (x2:(List Q0)) (x3:Int) (x5:Xh) (x6:Q0) (x4:Int) (n:Nat):Option Bool:=LD_ Y0 J7 [0,2,9004] [.ptr 0 3 0,.fn 71 [],.d .str x1,.ptr 1 6 0,.d (.list QB) x2,.d I64 x3,.d I64 x4,.agg (Qm Vt x5),.agg (Qm QB x6)] n
abbrev J8 (x1:(List (List Int))) (x2:Int) (x4:Xh) (x5:Q0) (x3:Int) (n:Nat):Option Bool:=LD_ Y0 J7 [0,13] [.ptr 0 3 0,.ptr 0 9 0,.d (.list .str) x1,.d I64 x2,.d I64 x3,.agg (Qm Vt x4),.agg (Qm QB x5)] n
theorem Hx {x1 x4 x5} (hl:Z2 x1):Jy x1 (Zv x4 x5) (J8 x1 (x1.length:Int) x4 x5) :=
 JN (d:=(Ty.dflt .str)) hl (fun x3 n=>(by kernel_rfl:_ =
  bif decide (x3<(x1.length:Int)) then
   bif inB x3 x1.length then
    (Z7 x5 (rd x1 x3 (Ty.dflt .str))).bind fun y7 =>
    bif !(y7.2) then
     some false
    else
     bif inB x3 x4.2.2.2.2.2.2.2.2.2.1.length then
      bif !decide (y7.1.2=(rd x4.2.2.2.2.2.2.2.2.2.1 x3 (Ty.dflt QN)).1) then
       some false
      else
       J8 x1 (x1.length:Int) x4 x5 (QL x3) n
     else none
   else none
  else
   some true))
 (fun _=>Qb)
 (fun k _ q i=>(QI q (Qo fun y7=>(Qd Qb (Qd (Qd Qb i) QC)))))
theorem Ew {x1 x2 x5 x6} (hl:Z2 x2):Jy x2 (fun r _=>Zb x1 x5 r) (YB x1 x2 (x2.length:Int) x5 x6) :=
 JN (d:=(Ty.dflt QB)) hl (fun x4 n=>(by kernel_rfl:_ =
  bif decide (x4<(x2.length:Int)) then
   bif inB x4 x2.length then
    bif decide ((rd x2 x4 (Ty.dflt QB)).1=x1) then
     (Y8 x5.2.2.2.2.2.2.2).bind fun y6 =>
     bif !(y6) then
      some false
     else
      J8 x5.2.2.2.2.2.2.2.2.2.2 (x5.2.2.2.2.2.2.2.2.2.2.length:Int) x5 (rd x2 x4 (Ty.dflt QB)) 0 n
    else
     YB x1 x2 (x2.length:Int) x5 x6 (QL x4) n
   else none
  else
   (Y8 x5.2.2.2.2.2.2.2).bind fun y8 =>
   bif !(y8) then
    some false
   else
    J8 x5.2.2.2.2.2.2.2.2.2.2 (x5.2.2.2.2.2.2.2.2.2.2.length:Int) x5 (([]:List Int),[],[]) 0 n))
 (fun _=>(Qo fun y8=>(Qd Qb (QD fun l=>Hx l _ 0 rfl))))
 (fun k _ q i=>(QI q (Qd (Qo fun y6=>(Qd Qb (QD fun l=>Hx l _ 0 rfl))) i)))
theorem HH {x1 x2 x3}:Cm (Ye x1 x2 x3) (VW x1 x2 x3) :=
 Jk (fun n=>(by kernel_rfl:_ =
  (ZQ x3.2 (x2.2.2.2.1,x2.2.2.2.2.2.1,decide (x2.2.2.2.2.1=([42]:List Int)),x2.2.2.2.2.2.2.1)).bind fun y5 =>
  bif !(y5) then
   some false
  else
   bif decide (x2.2.2.2.2.2.2.1=([]:List Int)) then
    some (VI x2.2.2.2.2.2.2.2)
   else
    YB x2.2.2.2.2.2.2.1 x1.1 (x1.1.length:Int) x2 (([]:List Int),[],[]) 0 n))
 (Qo fun y5=>(Qd Qb (Qd Qb (QD fun l=>Ew l _ 0 rfl))))
theorem Qdg:Ok_ J7:=okD Y0 (by kernel_rfl) (Qc GL (Qc JC (Qc Qrk (Qc EJ (Qc Qm4 (Qc Qlv (Qc Qby Qk)))))))
 fun ⟨a0,a1,_⟩=>QX (fun n=>(by kernel_rfl:_ =
  (Zo a0 a1.1).bind fun y1 =>
  (QG y1.1 a1.2.2.1).bind fun y2 =>
  bif !(y1.2) then
   some false
  else
   bif !(y2.2) then
    some false
   else
    (XQ a1.2.1).bind fun y3 =>
    bif !(y3) then
     some false
    else
     bif !decide (a1.2.2.2.2.1=([42]:List Int)) then
      (XQ a1.2.2.2.2.1).bind fun y4 =>
      bif !(y4) then
       some false
      else
       VW a0 a1 y2.1 n
     else
      VW a0 a1 y2.1 n))
 (Qo fun y1=>(Qo fun y2=>(Qd Qb (Qd Qb (Qo fun y3=>(Qd Qb (Qd (Qo fun y4=>(Qd Qb HH)) HH)))))))
def ZB (K2:Bool→(List (Qi × Bool))→Option (List (Qi × Bool))) (x10:Qi):List Qy→Bool→(List (Qi × Bool))→Option (List (Qi × Bool)) | [],x1,x8=>K2 x1 x8 | e::rest,x1,x8=>bif JW Qs x8 ((e).1) false then bif !(JW Qs x8 x10 false) then ZB K2 x10 rest true (H9 Qs x8 x10 true) else ZB K2 x10 rest x1 x8 else ZB K2 x10 rest x1 x8
def Yu (K1:Bool→(List (Qi × Bool))→Option (List (Qi × Bool))) (x6:Qa):List Qi→Bool→(List (Qi × Bool))→Option (List (Qi × Bool)) | [],x1,x5=>K1 x1 x5 | e::rest,x1,x5=>(Jp x6 (e)).bind fun y2=>QV y2 (ZB (fun s0 s1=>Yu K1 x6 rest s0 s1) (e) y2 x1 x5)
def Zg (x3:Qa):Nat→Bool→(List (Qi × Bool))→Option (List (Qi × Bool)) | 0,_,_=>none | m+1,x1,x2=>bif x1 then (Zu x3).bind fun y1=>QV y1 (Yu (fun s0 s1=>Zg x3 m s0 s1) x3 y1 false x2) else some x2
def GC (m:Nat) (x4:Qa):List Q5→(List (Qi × Bool))→Option (List (Qi × Bool)) | [],x5=>Zg x4 m true x5 | e::rest,x5=>GC m x4 rest (H9 Qs x5 (((e).2).1,((((e).2).2).2).1) true)
def Qca (m:Nat) (a0:Qa) (a1:(List Q5)):Option (List (Qi × Bool)):=QV a1 (GC m a0 a1 [])
def W3 (a0:Qa) (a1:(List Q5)):Option (List (Qi × Bool)):=QaF fun m=>Qca m a0 a1
def XB:Ctr:=⟨28,[Qe,(.list QE)],[(.map Qs .bool)],fun x=>W3 x.1 x.2.1⟩
def Hy:Kn:=⟨Tryz.f28,[([0,3],[.keep 0 2,.keep 0 5,.keep 0 9,.keep 0 10,.keep 0 11,.boxd 0 2 Qe,.mapb 0 8 Qs .bool]),([0,2,7002],[.keep 0 5,.keep 1 1,.keep 1 2,.keep 1 4,.mapb 0 8 Qs .bool,.boxd 1 2 Qe]),([0,5,7002],[.keep 0 5,.keep 1 1,.keep 1 2,.keep 1 4,.keep 1 11,.keep 1 12,.keep 1 13,.mapb 0 8 Qs .bool,.boxd 1 2 Qe]),([0,8,7002],[.keep 0 5,.keep 1 1,.keep 1 2,.keep 1 4,.keep 1 6,.keep 1 11,.keep 1 12,.keep 1 13,.keep 1 19,.keep 1 20,.keep 1 21,.mapb 0 8 Qs .bool,.boxd 1 2 Qe,.boxd 1 6 Qs])],[([7002],74)],[Jo,GM]⟩
abbrev WD (x1:(List Q5)) (x2:Int) (x4:Qa) (x3:Int) (x5:(List (Qi × Bool))) (n:Nat):Option (List (Qi × Bool)):=LD_ Hy XB [0,3] [.ptr 0 2 0,.mp 0 8,.d (.list QE) x1,.d I64 x2,.d I64 x3,.agg (Qm Qe x4),.d (.map Qs .bool) x5] n
abbrev V3 (x3:Qa) (x1:Bool) (x2:(List (Qi × Bool))) (n:Nat):Option (List (Qi × Bool)):=LD_ Hy XB [0,2,7002] [.mp 0 8,.mp 0 8,.ptr 1 2 0,.d .bool x1,.d (.map Qs .bool) x2,.agg (Qm Qe x3)] n
abbrev V4 (x2:(List Qi)) (x3:Int) (x6:Qa) (x4:Int) (x1:Bool) (x5:(List (Qi × Bool))) (n:Nat):Option (List (Qi × Bool)):=LD_ Hy XB [0,5,7002] [.mp 0 8,.mp 0 8,.ptr 1 2 0,.d .bool x1,.d (.list Qs) x2,.d I64 x3,.d I64 x4,.d (.map Qs .bool) x5,.agg (Qm Qe x6)] n
abbrev Yv (x2:(List Qi)) (x3:Int) (x4:Int) (x5:(List Qy)) (x6:Int) (x9:Qa) (x10:Qi) (x7:Int) (x1:Bool) (x8:(List (Qi × Bool))) (n:Nat):Option (List (Qi × Bool)):=LD_ Hy XB [0,8,7002] [.mp 0 8,.mp 0 8,.ptr 1 2 0,.d .bool x1,.ptr 1 6 0,.d (.list Qs) x2,.d I64 x3,.d I64 x4,.d (.list ZF) x5,.d I64 x6,.d I64 x7,.d (.map Qs .bool) x8,.agg (Qm Qe x9),.agg (Qm Qs x10)] n
theorem Qfy {K2} {x2 x3 x4 x5 x9 x10} (hl:Z2 x5) (h2:Cm2 K2 (V4 x2 x3 x9 (QL x4))):QuH x5 (fun r _ x1 x8=>ZB K2 x10 r x1 x8) (Yv x2 x3 x4 x5 (x5.length:Int) x9 x10) :=
 QwW (d:=(Ty.dflt ZF)) hl (fun x7 x1 x8 n=>(by kernel_rfl:_ =
  bif decide (x7<(x5.length:Int)) then
   bif inB x7 x5.length then
    bif JW Qs x8 ((rd x5 x7 (Ty.dflt ZF)).1) false then
     bif !(JW Qs x8 x10 false) then
      Yv x2 x3 x4 x5 (x5.length:Int) x9 x10 (QL x7) true (H9 Qs x8 x10 true) n
     else
      Yv x2 x3 x4 x5 (x5.length:Int) x9 x10 (QL x7) x1 x8 n
    else
     Yv x2 x3 x4 x5 (x5.length:Int) x9 x10 (QL x7) x1 x8 n
   else none
  else
   V4 x2 x3 x9 (QL x4) x1 x8 n))
 (fun _ x1 x8=>(h2 _ _))
 (fun k _ q i x1 x8=>(QI q (Qd (Qd (i _ _) (i _ _)) (i _ _))))
theorem Qfz {K1} {x2 x6} (hl:Z2 x2) (h1:Cm2 K1 (V3 x6)):QuH x2 (fun r _ x1 x5=>Yu K1 x6 r x1 x5) (V4 x2 (x2.length:Int) x6) :=
 QwW (d:=(Ty.dflt Qs)) hl (fun x4 x1 x5 n=>(by kernel_rfl:_ =
  bif decide (x4<(x2.length:Int)) then
   bif inB x4 x2.length then
    (Jp x6 (rd x2 x4 (Ty.dflt Qs))).bind fun y2 =>
    Yv x2 (x2.length:Int) x4 y2 (y2.length:Int) x6 (rd x2 x4 (Ty.dflt Qs)) 0 x1 x5 n
   else none
  else
   V3 x6 x1 x5 n))
 (fun _ x1 x5=>(h1 _ _))
 (fun k _ q i x1 x5=>(QI q (Qo fun y2=>(QD fun l=>Qfy l i _ 0 rfl _ _))))
theorem QfA {x3}:∀ m x1 x2,Cm (Zg x3 m x1 x2) (V3 x3 x1 x2) :=
 QwX (p:=(Zg x3)) (fun x1 x2 n=>(by kernel_rfl:_ =
  bif x1 then
   (Zu x3).bind fun y1 =>
   V4 y1 (y1.length:Int) x3 0 false x2 n
  else
   some x2))
 (fun _ _=>rfl)
 (fun m i x1 x2=>(Qd (Qo fun y1=>(QD fun l=>Qfz l i _ 0 rfl _ _)) Qb))
theorem Qke {m:Nat} {x1 x4} (hl:Z2 x1):XF x1 (fun r _ x5=>GC m x4 r x5) (WD x1 (x1.length:Int) x4) :=
 X5 (d:=(Ty.dflt QE)) hl (fun x3 x5 n=>(by kernel_rfl:_ =
  bif decide (x3<(x1.length:Int)) then
   bif inB x3 x1.length then
    WD x1 (x1.length:Int) x4 (QL x3) (H9 Qs x5 (((rd x1 x3 (Ty.dflt QE)).2).1,((((rd x1 x3 (Ty.dflt QE)).2).2).2).1) true) n
   else none
  else
   V3 x4 true x5 n))
 (fun _ x5=>(QfA _ _ _))
 (fun k _ q i x5=>(QI q (i _)))
theorem Qoi:Ok_ XB:=okD Hy (by kernel_rfl) (Qc HE (Qc EI Qk))
 fun ⟨a0,a1,_⟩=>QmO fun m=>QX (fun n=>(by kernel_rfl:_ =
  WD a1 (a1.length:Int) a0 0 [] n))
 (QD fun l=>Qke l _ 0 rfl _)
def VP (x1:(List (Qi × Int))):List Qi→(List Qh)→Option (List Qh) | [],x2=>some x2 | e::rest,x2=>bif decide (((x2.length:Int)+(([((e).1,(e).2,JW Qs x1 (e) 0)]:List Qh).length:Int))*40≤Q4)&&decide ((x2.length:Int)+(([((e).1,(e).2,JW Qs x1 (e) 0)]:List Qh).length:Int)≤Q4) then VP x1 rest (x2++([((e).1,(e).2,JW Qs x1 (e) 0)]:List Qh)) else none
def UI (a0:Qa):Option (List Qh):=(Z8 a0).bind fun y1=>bif !(y1) then some ([]) else (QT a0).bind fun y2=>(Zu a0).bind fun y3=>QV y3 (VP y2.1 y3 [])
def Qg5:Ctr:=QlT 30 [Qe] Qt fun x=>UI x.1
def QfT:Kn:=⟨Tryz.f30,[([0,6],[.keep 0 3,.own 0 5 Qt,.keep 0 17,.keep 0 18,.keep 0 19])],[],[ZN,ZM,Jo]⟩
abbrev WE (x1:(List (Qi × Int))) (x3:(List Qi)) (x4:Int) (x5:Int) (x2:(List Qh)) (n:Nat):Option (List Qh):=LO_ QfT Qg5 [0,6] [.d (.map Qs I64) x1,.own 0 Qt x2,.d (.list Qs) x3,.d I64 x4,.d I64 x5] n
theorem Qkf {x1 x3} (hl:Z2 x3):XF x3 (fun r _ x2=>VP x1 r x2) (WE x1 x3 (x3.length:Int)) :=
 X5 (d:=(Ty.dflt Qs)) hl (fun x5 x2 n=>(by kernel_rfl:_ =
  bif decide (x5<(x3.length:Int)) then
   bif inB x5 x3.length then
    bif decide (((x2.length:Int)+(([((rd x3 x5 (Ty.dflt Qs)).1,(rd x3 x5 (Ty.dflt Qs)).2,JW Qs x1 (rd x3 x5 (Ty.dflt Qs)) 0)]:List Qh).length:Int))*40≤Q4)&&decide ((x2.length:Int)+(([((rd x3 x5 (Ty.dflt Qs)).1,(rd x3 x5 (Ty.dflt Qs)).2,JW Qs x1 (rd x3 x5 (Ty.dflt Qs)) 0)]:List Qh).length:Int)≤Q4) then
     WE x1 x3 (x3.length:Int) (QL x5) (x2++([((rd x3 x5 (Ty.dflt Qs)).1,(rd x3 x5 (Ty.dflt Qs)).2,JW Qs x1 (rd x3 x5 (Ty.dflt Qs)) 0)]:List Qh)) n
    else none
   else none
  else
   some x2))
 (fun _ x2=>Qb)
 (fun k _ q i x2=>(QI q (Qd (i _) QC)))
theorem Qoj:Ok_ Qg5:=okO QfT (by kernel_rfl) (Qc QbA (Qc Ed (Qc HE Qk)))
 fun ⟨a0,_⟩=>QX (fun n=>(by kernel_rfl:_ =
  (Z8 a0).bind fun y1 =>
  bif !(y1) then
   some ([])
  else
   (QT a0).bind fun y2 =>
   (Zu a0).bind fun y3 =>
   WE y2.1 y3 (y3.length:Int) 0 [] n))
 (Qo fun y1=>(Qd Qb (Qo fun y2=>(Qo fun y3=>(QD fun l=>Qkf l _ 0 rfl _)))))
def Qg6:Ctr:=Ek 30 [Qe] [(.list Qt)] fun x=>UI x.1
theorem Qok:G4 Tryz.prog (Qg6):=QjF (by kernel_rfl) (by kernel_rfl) Qoj
def Z0 (x4:(List (Qi × Bool))):Nat→(List Qh)→Int→Int→Option (List Qh) | 0,_,_,_=>none | m+1,x1,x2,x3=>bif decide (x3<(x1.length:Int)) then bif inB x3 x1.length then bif inB x3 x1.length&&true then bif !(!(JW Qs x4 ((rd x1 x3 (Ty.dflt Qt)).1,((rd x1 x3 (Ty.dflt Qt)).2).1) false)) then bif inB x2 x1.length then bif inB x2 x1.length&&true&&true&&true&&true&&true&&true then Z0 x4 m (x1.set (Int.toNat x2) (rd x1 x3 (Ty.dflt Qt))) (IntKind.wrap .i64 (x2+1)) (IntKind.wrap .i64 (x3+1)) else none else none else Z0 x4 m x1 x2 (IntKind.wrap .i64 (x3+1)) else none else none else bif decide ((0:Int)≤x2)&&decide (x2≤(x1.length:Int)) then bif decide ((0:Int)≤x2)&&decide (x2≤((x1.take (Int.toNat x2)++List.replicate (x1.length - Int.toNat x2) (([]:List Int),([]:List Int),0)).length:Int)) then some ((x1.take (Int.toNat x2)++List.replicate (x1.length - Int.toNat x2) (([]:List Int),([]:List Int),0)).take (Int.toNat x2)) else none else none
def ZO (m:Nat) (x1:(List Qh)) (x4:(List (Qi × Bool))):List Qh→Nat→Option (List Qh) | [],k=>some x1 | e::rest,k=>bif true&&true then bif !(JW Qs x4 ((e).1,((e).2).1) false) then bif decide ((k:Int)=(-1)) then some x1 else Z0 x4 m x1 (k:Int) (IntKind.wrap .i64 ((k:Int)+1)) else ZO m x1 x4 rest (k+1) else none
def VQ (m:Nat) (x1:(List Q5)) (x5:Qa):List Q5→Option (List Qh) | []=>(W3 x5 x1).bind fun y3=>(UI x5).bind fun y4=>QV y4 (ZO m y4 y3 y4 0) | e::rest=>bif decide ((e).1<1) then some ([]) else bif decide ((3:Int)<(e).1) then some ([]) else (J6 x5 ((e).2)).bind fun y2=>bif !(y2) then some ([]) else VQ m x1 x5 rest
def GY (m:Nat) (a0:Qa) (a1:(List Q5)):Option (List Qh):=(Z8 a0).bind fun y1=>bif !(y1) then some ([]) else bif decide ((1000:Int)<(a1.length:Int)) then some ([]) else QV a1 (VQ m a1 a0 a1)
def GZ (a0:Qa) (a1:(List Q5)):Option (List Qh):=QaF fun m=>GY m a0 a1
def QiD:Ctr:=⟨9,[Qe,(.list QE)],[(.list Qt)],fun x=>GZ x.1 x.2.1⟩
def H5:Ctr:=Ek 9 [Qe,(.list QE)] [(.list Qt)] fun x=>GZ x.1 x.2.1
def Wc:Kn:=⟨Tryz.f9,[([0,4],[.keep 0 1,.keep 0 2,.keep 0 16,.keep 0 17,.keep 0 18,.boxd 0 2 Qe]),([0,2,1002,10003],[.same 2 0 1 0,.drb 1 0 Qt,.keep 1 1,.keep 2 1,.keep 2 7,.keep 2 8,.box 0 7 1]),([0,5,10003],[.drb 1 0 Qt,.keep 1 1,.keep 1 5,.keep 1 6,.box 0 7 1])],[([10001],2000030),([10003],29),([1002,10003],75),([4005,1002,10003],31),([8002,10003],31)],[ZN,J7,XB,Qg6]⟩
abbrev WF (x1:(List Q5)) (x2:(List Q5)) (x3:Int) (x5:Qa) (x4:Int) (n:Nat):Option (List Qh):=LP_ Wc H5 [0,4] [.d (.list QE) x1,.ptr 0 2 0,.d (.list QE) x2,.d I64 x3,.d I64 x4,.agg (Qm Qe x5)] n
abbrev VX (x1:(List Qh)) (x2:Int) (x4:(List (Qi × Bool))) (x3:Int) (n:Nat):Option (List Qh):=LP_ Wc H5 [0,2,1002,10003] [.nils,.d (.list Qt) x1,.fn 31 [.ptr 0 7 0],.fn 31 [.ptr 0 7 0],.d I64 x2,.d I64 x3,.agg [.d (.map Qs .bool) x4]] n
abbrev VJ (x4:(List (Qi × Bool))) (x1:(List Qh)) (x2:Int) (x3:Int) (n:Nat):Option (List Qh):=LP_ Wc H5 [0,5,10003] [.d (.list Qt) x1,.fn 31 [.ptr 0 7 0],.d I64 x2,.d I64 x3,.agg [.d (.map Qs .bool) x4]] n
theorem QeO {x4}:∀ m x1 x2 x3,Cm (Z0 x4 m x1 x2 x3) (VJ x4 x1 x2 x3) :=
 QBY (p:=(Z0 x4)) (fun x1 x2 x3 n=>(by kernel_rfl:_ =
  bif decide (x3<(x1.length:Int)) then
   bif inB x3 x1.length then
    bif inB x3 x1.length&&true then
     bif !(!(JW Qs x4 ((rd x1 x3 (Ty.dflt Qt)).1,((rd x1 x3 (Ty.dflt Qt)).2).1) false)) then
      bif inB x2 x1.length then
       bif inB x2 x1.length&&true&&true&&true&&true&&true&&true then
        VJ x4 (x1.set (Int.toNat x2) (rd x1 x3 (Ty.dflt Qt))) (QL x2) (QL x3) n
       else none
      else none
     else
      VJ x4 x1 x2 (QL x3) n
    else none
   else none
  else
   bif decide ((0:Int)≤x2)&&decide (x2≤(x1.length:Int)) then
    bif decide ((0:Int)≤x2)&&decide (x2≤((x1.take (Int.toNat x2)++List.replicate (x1.length - Int.toNat x2) (([]:List Int),([]:List Int),0)).length:Int)) then
     some ((x1.take (Int.toNat x2)++List.replicate (x1.length - Int.toNat x2) (([]:List Int),([]:List Int),0)).take (Int.toNat x2))
    else none
   else none))
 (fun _ _ _=>rfl)
 (fun m i x1 x2 x3=>(Qd (Qd (Qd (Qd (Qd (Qd (i _ _ _) QC) QC) (i _ _ _)) QC) QC) (Qd (Qd Qb QC) QC)))
theorem Qbs {m:Nat} {x1 x4} (hl:Z2 x1):Jy x1 (ZO m x1 x4) (VX x1 (x1.length:Int) x4) :=
 JN (d:=(Ty.dflt Qt)) hl (fun x3 n=>(by kernel_rfl:_ =
  bif decide (x3<(x1.length:Int)) then
   bif inB x3 x1.length then
    bif inB x3 x1.length&&true then
     bif !(JW Qs x4 ((rd x1 x3 (Ty.dflt Qt)).1,((rd x1 x3 (Ty.dflt Qt)).2).1) false) then
      bif decide (x3=(-1)) then
       some x1
      else
       VJ x4 x1 x3 (QL x3) n
     else
      VX x1 (x1.length:Int) x4 (QL x3) n
    else none
   else none
  else
   some x1))
 (fun _=>Qb)
 (fun k _ q i=>(QI q (QAz (by rw [YS q]) (Qd (Qd Qb (QeO _ _ _ _)) i) QC)))
theorem Qkg {m:Nat} {x1 x5} (hl:Z2 x1):Jy x1 (fun r _=>VQ m x1 x5 r) (WF x1 x1 (x1.length:Int) x5) :=
 JN (d:=(Ty.dflt QE)) hl (fun x4 n=>(by kernel_rfl:_ =
  bif decide (x4<(x1.length:Int)) then
   bif inB x4 x1.length then
    bif decide ((rd x1 x4 (Ty.dflt QE)).1<1) then
     some ([])
    else
     bif decide ((3:Int)<(rd x1 x4 (Ty.dflt QE)).1) then
      some ([])
     else
      (J6 x5 ((rd x1 x4 (Ty.dflt QE)).2)).bind fun y2 =>
      bif !(y2) then
       some ([])
      else
       WF x1 x1 (x1.length:Int) x5 (QL x4) n
   else none
  else
   (W3 x5 x1).bind fun y3 =>
   (UI x5).bind fun y4 =>
   VX y4 (y4.length:Int) y3 0 n))
 (fun _=>(Qo fun y3=>(Qo fun y4=>(QD fun l=>Qbs l _ 0 rfl))))
 (fun k _ q i=>(QI q (Qd Qb (Qd Qb (Qo fun y2=>(Qd Qb i))))))
theorem QfU:Ok_ H5:=okP Wc (by kernel_rfl) (Qc QbA (Qc Qdg (Qc Qoi (Qc Qok Qk))))
 fun ⟨a0,a1,_⟩=>QmO fun m=>QX (fun n=>(by kernel_rfl:_ =
  (Z8 a0).bind fun y1 =>
  bif !(y1) then
   some ([])
  else
   bif decide ((1000:Int)<(a1.length:Int)) then
    some ([])
   else
    WF a1 a1 (a1.length:Int) a0 0 n))
 (Qo fun y1=>(Qd Qb (Qd Qb (QD fun l=>Qkg l _ 0 rfl))))
theorem QpT:Ok_ QiD:=QlV (by kernel_rfl) QfU
def QeP:Ctr:=toF 149 QO
theorem QiE:Ok_ QeP:=QgS ⟨Tryz.f149,[],[],[]⟩ [false,false] (by kernel_rfl) Qk fun _=>by kernel_rfl
def Qdh:Ctr:=toF 103 (.list QO)
def Qg7:Kn:=⟨Tryz.f103,[([0,3],[.keep 0 0,.keep 0 3,.keep 0 4,.rows 0 7 QO])],[],[QeP]⟩
theorem QpU:Ok_ Qdh:=QjO Qg7 (toC QO) 24 (fun x1 x2 x3=>LD_ Qg7 Qdh [0,3] [.d (.list QO) x1,.msl 0 7,.d I64 x2,.d (.list QO) x3]) (by kernel_rfl) (Qc QiE Qk) Y9 (fun _ _=>by kernel_rfl) (fun _ _ _ _=>by kernel_rfl)
def UR:Ctr:=toF 153 QN
theorem WG:Ok_ UR:=QgS ⟨Tryz.f153,[],[],[]⟩ [false,false,false,false] (by kernel_rfl) Qk fun _=>by kernel_rfl
def Qcb:Ctr:=toF 150 QP
theorem QfV:Ok_ Qcb:=QgS ⟨Tryz.f150,[],[],[UR]⟩ [false,false,false,true] (by kernel_rfl) (Qc WG Qk) fun _=>by kernel_rfl
def Qa6:Ctr:=toF 104 (.list QP)
def QeQ:Kn:=⟨Tryz.f104,[([0,3],[.keep 0 0,.keep 0 3,.keep 0 4,.rows 0 7 QP])],[],[Qcb]⟩
theorem Qm6:Ok_ Qa6:=QjO QeQ (toC QP) 88 (fun x1 x2 x3=>LD_ QeQ Qa6 [0,3] [.d (.list QP) x1,.msl 0 7,.d I64 x2,.d (.list QP) x3]) (by kernel_rfl) (Qc QfV Qk) Y9 (fun _ _=>by kernel_rfl) (fun _ _ _ _=>by kernel_rfl)
def QiF:Ctr:=toF 57 QB
theorem QpV:Ok_ QiF:=QgS ⟨Tryz.f57,[],[],[Qdh,Qa6]⟩ [false,true,true] (by kernel_rfl) (Qc QpU (Qc Qm6 Qk)) fun _=>by kernel_rfl
def Qcc:Ctr:=toF 23 (.list QB)
def QfW:Kn:=⟨Tryz.f23,[([0,3],[.keep 0 0,.keep 0 3,.keep 0 4,.rows 0 7 QB])],[],[QiF]⟩
theorem Qol:Ok_ Qcc:=QjO QfW (toC QB) 64 (fun x1 x2 x3=>LD_ QfW Qcc [0,3] [.d (.list QB) x1,.msl 0 7,.d I64 x2,.d (.list QB) x3]) (by kernel_rfl) (Qc QpV Qk) Y9 (fun _ _=>by kernel_rfl) (fun _ _ _ _=>by kernel_rfl)
def WH:Ctr:=toF 197 Qg
theorem QbB:Ok_ WH:=QgS ⟨Tryz.f197,[],[],[]⟩ [false,false,false,false] (by kernel_rfl) Qk fun _=>by kernel_rfl
def UY:Ctr:=toF 184 (.list Qg)
def Qa7:Kn:=⟨Tryz.f184,[([0,3],[.keep 0 0,.keep 0 3,.keep 0 4,.rows 0 7 Qg])],[],[WH]⟩
theorem Qh6:Ok_ UY:=QjO Qa7 (toC Qg) 56 (fun x1 x2 x3=>LD_ Qa7 UY [0,3] [.d (.list Qg) x1,.msl 0 7,.d I64 x2,.d (.list Qg) x3]) (by kernel_rfl) (Qc QbB Qk) Y9 (fun _ _=>by kernel_rfl) (fun _ _ _ _=>by kernel_rfl)
def QfX:Ctr:=toF 151 Qr
theorem Qm7:Ok_ QfX:=QgS ⟨Tryz.f151,[],[],[UY]⟩ [false,true] (by kernel_rfl) (Qc Qh6 Qk) fun _=>by kernel_rfl
def Qad:Ctr:=toF 105 (.list Qr)
def QdE:Kn:=⟨Tryz.f105,[([0,3],[.keep 0 0,.keep 0 3,.keep 0 4,.rows 0 7 Qr])],[],[QfX]⟩
theorem Qlw:Ok_ Qad:=QjO QdE (toC Qr) 40 (fun x1 x2 x3=>LD_ QdE Qad [0,3] [.d (.list Qr) x1,.msl 0 7,.d I64 x2,.d (.list Qr) x3]) (by kernel_rfl) (Qc Qm7 Qk) Y9 (fun _ _=>by kernel_rfl) (fun _ _ _ _=>by kernel_rfl)
def Qcd:Ctr:=toF 198 Ql
theorem QfY:Ok_ Qcd:=QgS ⟨Tryz.f198,[],[],[]⟩ [false,false,false] (by kernel_rfl) Qk fun _=>by kernel_rfl
def Qa8:Ctr:=toF 185 (.list Ql)
def QeR:Kn:=⟨Tryz.f185,[([0,3],[.keep 0 0,.keep 0 3,.keep 0 4,.rows 0 7 Ql])],[],[Qcd]⟩
theorem Qm8:Ok_ Qa8:=QjO QeR (toC Ql) 40 (fun x1 x2 x3=>LD_ QeR Qa8 [0,3] [.d (.list Ql) x1,.msl 0 7,.d I64 x2,.d (.list Ql) x3]) (by kernel_rfl) (Qc QfY Qk) Y9 (fun _ _=>by kernel_rfl) (fun _ _ _ _=>by kernel_rfl)
def QdF:Ctr:=toF 152 Qp
theorem Qkh:Ok_ QdF:=QgS ⟨Tryz.f152,[],[],[Qa8]⟩ [false,true] (by kernel_rfl) (Qc Qm8 Qk) fun _=>by kernel_rfl
def WI:Ctr:=toF 106 (.list Qp)
def QbC:Kn:=⟨Tryz.f106,[([0,3],[.keep 0 0,.keep 0 3,.keep 0 4,.rows 0 7 Qp])],[],[QdF]⟩
theorem Qi8:Ok_ WI:=QjO QbC (toC Qp) 40 (fun x1 x2 x3=>LD_ QbC WI [0,3] [.d (.list Qp) x1,.msl 0 7,.d I64 x2,.d (.list Qp) x3]) (by kernel_rfl) (Qc Qkh Qk) Y9 (fun _ _=>by kernel_rfl) (fun _ _ _ _=>by kernel_rfl)
def Qg8:Ctr:=toF 58 Qj
theorem Qom:Ok_ Qg8:=QgS ⟨Tryz.f58,[],[],[Qad,WI]⟩ [false,true,true] (by kernel_rfl) (Qc Qlw (Qc Qi8 Qk)) fun _=>by kernel_rfl
def Qa9:Ctr:=toF 24 (.list Qj)
def QeS:Kn:=⟨Tryz.f24,[([0,3],[.keep 0 0,.keep 0 3,.keep 0 4,.rows 0 7 Qj])],[],[Qg8]⟩
theorem Qm9:Ok_ Qa9:=QjO QeS (toC Qj) 64 (fun x1 x2 x3=>LD_ QeS Qa9 [0,3] [.d (.list Qj) x1,.msl 0 7,.d I64 x2,.d (.list Qj) x3]) (by kernel_rfl) (Qc Qom Qk) Y9 (fun _ _=>by kernel_rfl) (fun _ _ _ _=>by kernel_rfl)
def QeT:Ctr:=toF 7 Qe
theorem Qlx:Ok_ QeT:=QgS ⟨Tryz.f7,[],[],[Qcc,Qa9]⟩ [true,true] (by kernel_rfl) (Qc Qol (Qc Qm9 Qk)) fun _=>by kernel_rfl
def Qce:Ctr:=toP 103 (.list QO)
def QfZ:Kn:=⟨Tryz.f103,[([0,3],[.keep 0 0,.drb 0 3 QO,.keep 0 4])],[([1002],0)],[QeP]⟩
theorem Qon:Ok_ Qce:=Qew QfZ (toC QO) 24 (fun x1 x3 x2=>LP_ QfZ Qce [0,3] [.d (.list QO) x1,.d (.list QO) x2,.d I64 x3]) (by kernel_rfl) (Qc QiE Qk) Y9 (fun _ _=>by kernel_rfl) (fun _ _ _ _=>by kernel_rfl)
def Qae:Ctr:=toP 104 (.list QP)
def QdG:Kn:=⟨Tryz.f104,[([0,3],[.keep 0 0,.drb 0 3 QP,.keep 0 4])],[([1002],0)],[Qcb]⟩
theorem Qly:Ok_ Qae:=Qew QdG (toC QP) 88 (fun x1 x3 x2=>LP_ QdG Qae [0,3] [.d (.list QP) x1,.d (.list QP) x2,.d I64 x3]) (by kernel_rfl) (Qc QfV Qk) Y9 (fun _ _=>by kernel_rfl) (fun _ _ _ _=>by kernel_rfl)
def Qg9:Ctr:=toP 57 QB
theorem Qoo:Ok_ Qg9:=QjN ⟨Tryz.f57,[],[([3002],2000103),([4002],2000104)],[Qce,Qae]⟩ [false,true,true] (by kernel_rfl) (Qc Qon (Qc Qly Qk)) fun _=>by kernel_rfl
def Qba:Ctr:=toP 23 (.list QB)
def QeU:Kn:=⟨Tryz.f23,[([0,3],[.keep 0 0,.drb 0 3 QB,.keep 0 4])],[([1002],0),([5006],2000057)],[Qg9]⟩
theorem Qna:Ok_ Qba:=Qew QeU (toC QB) 64 (fun x1 x3 x2=>LP_ QeU Qba [0,3] [.d (.list QB) x1,.d (.list QB) x2,.d I64 x3]) (by kernel_rfl) (Qc Qoo Qk) Y9 (fun _ _=>by kernel_rfl) (fun _ _ _ _=>by kernel_rfl)
def Uy:Ctr:=toP 184 (.list Qg)
def Qat:Kn:=⟨Tryz.f184,[([0,3],[.keep 0 0,.drb 0 3 Qg,.keep 0 4])],[([1002],0)],[WH]⟩
theorem Qha:Ok_ Uy:=Qew Qat (toC Qg) 56 (fun x1 x3 x2=>LP_ Qat Uy [0,3] [.d (.list Qg) x1,.d (.list Qg) x2,.d I64 x3]) (by kernel_rfl) (Qc QbB Qk) Y9 (fun _ _=>by kernel_rfl) (fun _ _ _ _=>by kernel_rfl)
def QeV:Ctr:=toP 151 Qr
theorem Qlz:Ok_ QeV:=QjN ⟨Tryz.f151,[],[([3002],2000184)],[Uy]⟩ [false,true] (by kernel_rfl) (Qc Qha Qk) fun _=>by kernel_rfl
def Ey:Ctr:=toP 105 (.list Qr)
def QcV:Kn:=⟨Tryz.f105,[([0,3],[.keep 0 0,.drb 0 3 Qr,.keep 0 4])],[([1002],0),([5006],2000151)],[QeV]⟩
theorem Qki:Ok_ Ey:=Qew QcV (toC Qr) 40 (fun x1 x3 x2=>LP_ QcV Ey [0,3] [.d (.list Qr) x1,.d (.list Qr) x2,.d I64 x3]) (by kernel_rfl) (Qc Qlz Qk) Y9 (fun _ _=>by kernel_rfl) (fun _ _ _ _=>by kernel_rfl)
def Qaf:Ctr:=toP 185 (.list Ql)
def QdH:Kn:=⟨Tryz.f185,[([0,3],[.keep 0 0,.drb 0 3 Ql,.keep 0 4])],[([1002],0)],[Qcd]⟩
theorem QlA:Ok_ Qaf:=Qew QdH (toC Ql) 40 (fun x1 x3 x2=>LP_ QdH Qaf [0,3] [.d (.list Ql) x1,.d (.list Ql) x2,.d I64 x3]) (by kernel_rfl) (Qc QfY Qk) Y9 (fun _ _=>by kernel_rfl) (fun _ _ _ _=>by kernel_rfl)
def QcW:Ctr:=toP 152 Qp
theorem Qi9:Ok_ QcW:=QjN ⟨Tryz.f152,[],[([3002],2000185)],[Qaf]⟩ [false,true] (by kernel_rfl) (Qc QlA Qk) fun _=>by kernel_rfl
def UZ:Ctr:=toP 106 (.list Qp)
def Qbb:Kn:=⟨Tryz.f106,[([0,3],[.keep 0 0,.drb 0 3 Qp,.keep 0 4])],[([1002],0),([5006],2000152)],[QcW]⟩
theorem Qh7:Ok_ UZ:=Qew Qbb (toC Qp) 40 (fun x1 x3 x2=>LP_ Qbb UZ [0,3] [.d (.list Qp) x1,.d (.list Qp) x2,.d I64 x3]) (by kernel_rfl) (Qc Qi9 Qk) Y9 (fun _ _=>by kernel_rfl) (fun _ _ _ _=>by kernel_rfl)
def Qf0:Ctr:=toP 58 Qj
theorem Qnb:Ok_ Qf0:=QjN ⟨Tryz.f58,[],[([3002],2000105),([4002],2000106)],[Ey,UZ]⟩ [false,true,true] (by kernel_rfl) (Qc Qki (Qc Qh7 Qk)) fun _=>by kernel_rfl
def Qag:Ctr:=toP 24 (.list Qj)
def QdI:Kn:=⟨Tryz.f24,[([0,3],[.keep 0 0,.drb 0 3 Qj,.keep 0 4])],[([1002],0),([5006],2000058)],[Qf0]⟩
theorem QlB:Ok_ Qag:=Qew QdI (toC Qj) 64 (fun x1 x3 x2=>LP_ QdI Qag [0,3] [.d (.list Qj) x1,.d (.list Qj) x2,.d I64 x3]) (by kernel_rfl) (Qc Qnb Qk) Y9 (fun _ _=>by kernel_rfl) (fun _ _ _ _=>by kernel_rfl)
def QdJ:Ctr:=toP 7 Qe
theorem Qkj:Ok_ QdJ:=QjN ⟨Tryz.f7,[],[([2002],2000023),([3002],2000024)],[Qba,Qag]⟩ [true,true] (by kernel_rfl) (Qc Qna (Qc QlB Qk)) fun _=>by kernel_rfl
def VR:Nat→Int→(List Int)→Option (List Int) | 0,_,_=>none | m+1,x1,x2=>bif decide ((0:Int)<x1) then bif decide ((([IntKind.wrap .u8 (IntKind.wrap .i64 (48+(Int.tmod x1 10)))]:List Int).length:Int)≤Q4) then bif decide ((([IntKind.wrap .u8 (IntKind.wrap .i64 (48+(Int.tmod x1 10)))]:List Int).length:Int)+(x2.length:Int)≤Q4) then VR m (IntKind.wrap .i64 (Int.tdiv x1 10)) (([IntKind.wrap .u8 (IntKind.wrap .i64 (48+(Int.tmod x1 10)))]:List Int)++x2) else none else none else bif decide ((([109]:List Int).length:Int)+(x2.length:Int)≤Q4) then some (([109]:List Int)++x2) else none
def Qdi (m:Nat) (a0:Int):Option (List Int):=bif decide (a0≤0) then some ([109,48]:List Int) else VR m a0 ([]:List Int)
def G0 (a0:Int):Option (List Int):=QaF fun m=>Qdi m a0
def Qdj:Ctr:=⟨38,[I64],[.str],fun x=>G0 x.1⟩
def Qhb:Kn:=⟨Tryz.f38,[([0,4],[.keep 0 0,.keep 0 3])],[],[]⟩
abbrev Ez (x1:Int) (x2:(List Int)) (n:Nat):Option (List Int):=LD_ Qhb Qdj [0,4] [.d I64 x1,.d .str x2] n
theorem QlC:∀ m x1 x2,Cm (VR m x1 x2) (Ez x1 x2) :=
 QwX (p:=(VR)) (fun x1 x2 n=>(by kernel_rfl:_ =
  bif decide ((0:Int)<x1) then
   bif decide ((([IntKind.wrap .u8 (IntKind.wrap .i64 (48+(Int.tmod x1 10)))]:List Int).length:Int)≤Q4) then
    bif decide ((([IntKind.wrap .u8 (IntKind.wrap .i64 (48+(Int.tmod x1 10)))]:List Int).length:Int)+(x2.length:Int)≤Q4) then
     Ez (IntKind.wrap .i64 (Int.tdiv x1 10)) (([IntKind.wrap .u8 (IntKind.wrap .i64 (48+(Int.tmod x1 10)))]:List Int)++x2) n
    else none
   else none
  else
   bif decide ((([109]:List Int).length:Int)+(x2.length:Int)≤Q4) then
    some (([109]:List Int)++x2)
   else none))
 (fun _ _=>rfl)
 (fun m i x1 x2=>(Qd (Qd (Qd (i _ _) QC) QC) (Qd Qb QC)))
theorem Qhc:Ok_ Qdj:=okD Qhb (by kernel_rfl) Qk
 fun ⟨a0,_⟩=>QmO fun m=>QX (fun n=>(by kernel_rfl:_ =
  bif decide (a0≤0) then
   some ([109,48]:List Int)
  else
   Ez a0 ([]:List Int) n))
 (Qd Qb (QlC _ _ _))
theorem Qs6:∀ (m n:Nat) (acc:List Int),n<m→acc.length+n≤2000000000000→VR m (n:Int) acc=some (109::(QwL m n++acc))
 | 0,n,acc,h,_=>by omega
 | m+1,n,acc,h,hb=>by
  rw [VR]
  by_cases h0:n=0
  ·subst h0
   rw [decide_eq_false (by omega)]
   simp only [cond_false]
   rw [decide_eq_true (by rw [Xf];simp only [List.length_singleton];omega)]
   simp [QwL]
  ·have e1:Int.tmod (n:Int) 10=((n % 10:Nat):Int):=by rw [Int.tmod_eq_emod_of_nonneg (by omega)];omega
   have e2:Int.tdiv (n:Int) 10=((n / 10:Nat):Int):=by rw [Int.tdiv_eq_ediv_of_nonneg (by omega)];omega
   have hd:n % 10<10:=Nat.mod_lt _ (by omega)
   rw [decide_eq_true (by omega),e1,e2,Qgk (x:=48+((n % 10:Nat):Int)) (by omega),Qgk (x:=((n / 10:Nat):Int)) (by omega),Qr8 (show inK .u8 (48+((n % 10:Nat):Int))=true by rw [VZ,Qmr,Qms];omega)]
   simp only [cond_true,List.length_singleton]
   rw [decide_eq_true (by rw [Xf];omega),decide_eq_true (by rw [Xf];omega)]
   simp only [cond_true]
   rw [Qs6 m (n / 10) _ (by omega) (by simp;omega)]
   simp [QwL,h0]
theorem QuL:∀ (m m' n:Nat),n<m→n<m'→QwL m n=QwL m' n
 | 0,_,_,h,_=>by omega
 | _,0,_,_,h=>by omega
 | m+1,m'+1,n,h,h'=>by
  simp only [QwL]
  by_cases h0:n=0
  ·simp [h0]
  ·rw [if_neg h0,if_neg h0,QuL m m' (n / 10) (by omega) (by omega)]
theorem Qs7 (k:Int) (h0:0≤k) (h1:k≤ZT):G0 k=some (QgN k):=by
 refine XD ⟨k.toNat+1,fun m hm=>?_⟩
 show Qdi m k=some (QgN k)
 rw [Qdi]
 unfold QgN
 by_cases h:k≤0
 ·rw [decide_eq_true h,if_pos h];rfl
 ·rw [decide_eq_false h,if_neg h]
  simp only [cond_false]
  have:=Qs6 m k.toNat [] (by omega) (by unfold ZT at h1;simp;omega)
  rw [Int.toNat_of_nonneg h0] at this
  rw [this,List.append_nil,QuL m (k.toNat+1) k.toNat (by omega) (by omega)]
theorem Zx:QjJ Tryz.prog 38:=QA6 (by kernel_rfl) Qhc fun k h0 h1=>Qs7 k h0 h1
theorem QlD:Wp Tryz.prog 80 (.list QO):=UB (tl:=101) (by kernel_rfl:Tryz.prog.funcs[80]? = some Tryz.f80) (c:=Tryz.f80.body.getD .skip) (by kernel_rfl) (by kernel_rfl) (gt:=(some 38)) (hs:=[]) (Ha Zx) HT (by kernel_rfl)
theorem Qja:Wp Tryz.prog 81 (.list QP):=UB (tl:=102) (by kernel_rfl:Tryz.prog.funcs[81]? = some Tryz.f81) (c:=Tryz.f81.body.getD .skip) (by kernel_rfl) (by kernel_rfl) (gt:=(some 38)) (hs:=[]) (Ha Zx) HT (by kernel_rfl)
theorem Qkk:Wp Tryz.prog 36 (.list QB):=UB (tl:=31) (by kernel_rfl:Tryz.prog.funcs[36]? = some Tryz.f36) (c:=Tryz.f36.body.getD .skip) (by kernel_rfl) (by kernel_rfl) (gt:=(some 38)) (hs:=[(80,(.list QO)),(81,(.list QP))]) (Ha Zx) (UN QlD (UN Qja HT)) (by kernel_rfl)
theorem QfB:Wp Tryz.prog 134 (.list Qg):=UB (tl:=116) (by kernel_rfl:Tryz.prog.funcs[134]? = some Tryz.f134) (c:=Tryz.f134.body.getD .skip) (by kernel_rfl) (by kernel_rfl) (gt:=(some 38)) (hs:=[]) (Ha Zx) HT (by kernel_rfl)
theorem Qh8:Wp Tryz.prog 82 (.list Qr):=UB (tl:=107) (by kernel_rfl:Tryz.prog.funcs[82]? = some Tryz.f82) (c:=Tryz.f82.body.getD .skip) (by kernel_rfl) (by kernel_rfl) (gt:=(some 38)) (hs:=[(134,(.list Qg))]) (Ha Zx) (UN QfB HT) (by kernel_rfl)
theorem Qjb:Wp Tryz.prog 135 (.list Ql):=UB (tl:=134) (by kernel_rfl:Tryz.prog.funcs[135]? = some Tryz.f135) (c:=Tryz.f135.body.getD .skip) (by kernel_rfl) (by kernel_rfl) (gt:=(some 38)) (hs:=[]) (Ha Zx) HT (by kernel_rfl)
theorem Qgr:Wp Tryz.prog 83 (.list Qp):=UB (tl:=108) (by kernel_rfl:Tryz.prog.funcs[83]? = some Tryz.f83) (c:=Tryz.f83.body.getD .skip) (by kernel_rfl) (by kernel_rfl) (gt:=(some 38)) (hs:=[(135,(.list Ql))]) (Ha Zx) (UN Qjb HT) (by kernel_rfl)
theorem Qjc:Wp Tryz.prog 37 (.list Qj):=UB (tl:=32) (by kernel_rfl:Tryz.prog.funcs[37]? = some Tryz.f37) (c:=Tryz.f37.body.getD .skip) (by kernel_rfl) (by kernel_rfl) (gt:=(some 38)) (hs:=[(82,(.list Qr)),(83,(.list Qp))]) (Ha Zx) (UN Qh8 (UN Qgr HT)) (by kernel_rfl)
theorem Qh9:Wp Tryz.prog 13 Qe:=QxV (by kernel_rfl:Tryz.prog.funcs[13]? = some Tryz.f13) (c:=Tryz.f13.body.getD .skip) (by kernel_rfl) (by kernel_rfl) (gt:=none) (hs:=[(36,(.list QB)),(37,(.list Qj))]) Qzn (UN Qkk (UN Qjc HT)) (by kernel_rfl)
def QbD:Ctr:=QwJ 13 Qe fun x=>Qet Qe x.1 x.2.1
theorem Qia:G4 Tryz.prog QbD:=QvO (by kernel_rfl) (by kernel_rfl) (by kernel_rfl) Qh9
def QeW:Ctr:=toF 154 (.list QN)
def QiG:Kn:=⟨Tryz.f154,[([0,3],[.keep 0 0,.keep 0 3,.keep 0 4,.rows 0 7 QN])],[],[UR]⟩
theorem Qrm:Ok_ QeW:=QjO QiG (toC QN) 48 (fun x1 x2 x3=>LD_ QiG QeW [0,3] [.d (.list QN) x1,.msl 0 7,.d I64 x2,.d (.list QN) x3]) (by kernel_rfl) (Qc WG Qk) Y9 (fun _ _=>by kernel_rfl) (fun _ _ _ _=>by kernel_rfl)
def Qcf:Ctr:=toF 155 (.list .str)
def Qf1:Kn:=⟨Tryz.f155,[([0,3],[.keep 0 0,.keep 0 3,.keep 0 4,.rows 0 7 .str])],[],[]⟩
theorem Qop:Ok_ Qcf:=QjO Qf1 some 16 (fun x1 x2 x3=>LD_ Qf1 Qcf [0,3] [.d (.list .str) x1,.msl 0 7,.d I64 x2,.d (.list .str) x3]) (by kernel_rfl) Qk QwY (fun _ _=>by kernel_rfl) (fun _ _ _ _=>by kernel_rfl)
def Qkl:Ctr:=toF 107 Vi
theorem Qrn:Ok_ Qkl:=QgS ⟨Tryz.f107,[],[],[UR,QeW,Qcf]⟩ [false,true,true,true] (by kernel_rfl) (Qc WG (Qc Qrm (Qc Qop Qk))) fun _=>by kernel_rfl
def Qkm:Ctr:=toF 59 Vt
theorem Qro:Ok_ Qkm:=QgS ⟨Tryz.f59,[],[],[Qkl]⟩ [false,false,false,false,false,false,false,true] (by kernel_rfl) (Qc Qrn Qk) fun _=>by kernel_rfl
def Qkn:Ctr:=toF 25 QE
theorem Qrp:Ok_ Qkn:=QgS ⟨Tryz.f25,[],[],[Qkm]⟩ [false,true] (by kernel_rfl) (Qc Qro Qk) fun _=>by kernel_rfl
def Qdk:Ctr:=toF 8 (.list QE)
def Qhd:Kn:=⟨Tryz.f8,[([0,3],[.keep 0 0,.keep 0 3,.keep 0 4,.rows 0 7 QE])],[],[Qkn]⟩
theorem QpW:Ok_ Qdk:=QjO Qhd (toC QE) 224 (fun x1 x2 x3=>LD_ Qhd Qdk [0,3] [.d (.list QE) x1,.msl 0 7,.d I64 x2,.d (.list QE) x3]) (by kernel_rfl) (Qc Qrp Qk) Y9 (fun _ _=>by kernel_rfl) (fun _ _ _ _=>by kernel_rfl)
def Qdl:Ctr:=toP 154 (.list QN)
def Qhe:Kn:=⟨Tryz.f154,[([0,3],[.keep 0 0,.drb 0 3 QN,.keep 0 4])],[([1002],0)],[UR]⟩
theorem QpX:Ok_ Qdl:=Qew Qhe (toC QN) 48 (fun x1 x3 x2=>LP_ Qhe Qdl [0,3] [.d (.list QN) x1,.d (.list QN) x2,.d I64 x3]) (by kernel_rfl) (Qc WG Qk) Y9 (fun _ _=>by kernel_rfl) (fun _ _ _ _=>by kernel_rfl)
def Qbc:Ctr:=toP 155 (.list .str)
def QeX:Kn:=⟨Tryz.f155,[([0,3],[.keep 0 0,.drb 0 3 .str,.keep 0 4])],[([1002],0)],[]⟩
theorem Qnc:Ok_ Qbc:=Qew QeX some 16 (fun x1 x3 x2=>LP_ QeX Qbc [0,3] [.d (.list .str) x1,.d (.list .str) x2,.d I64 x3]) (by kernel_rfl) Qk QwY (fun _ _=>by kernel_rfl) (fun _ _ _ _=>by kernel_rfl)
def QiH:Ctr:=toP 107 Vi
theorem QpY:Ok_ QiH:=QjN ⟨Tryz.f107,[],[([4002],2000154),([5002],2000155)],[UR,Qdl,Qbc]⟩ [false,true,true,true] (by kernel_rfl) (Qc WG (Qc QpX (Qc Qnc Qk))) fun _=>by kernel_rfl
def QiI:Ctr:=toP 59 Vt
theorem QpZ:Ok_ QiI:=QjN ⟨Tryz.f59,[],[([9002],2000107)],[QiH]⟩ [false,false,false,false,false,false,false,true] (by kernel_rfl) (Qc QpY Qk) fun _=>by kernel_rfl
def QiJ:Ctr:=toP 25 QE
theorem Qp0:Ok_ QiJ:=QjN ⟨Tryz.f25,[],[([3002],2000059)],[QiI]⟩ [false,true] (by kernel_rfl) (Qc QpZ Qk) fun _=>by kernel_rfl
def Qcg:Ctr:=toP 8 (.list QE)
def Qf2:Kn:=⟨Tryz.f8,[([0,3],[.keep 0 0,.drb 0 3 QE,.keep 0 4])],[([1002],0),([5006],2000025)],[QiJ]⟩
theorem Qoq:Ok_ Qcg:=Qew Qf2 (toC QE) 224 (fun x1 x3 x2=>LP_ Qf2 Qcg [0,3] [.d (.list QE) x1,.d (.list QE) x2,.d I64 x3]) (by kernel_rfl) (Qc Qp0 Qk) Y9 (fun _ _=>by kernel_rfl) (fun _ _ _ _=>by kernel_rfl)
theorem Qnd:Wp Tryz.prog 39 (.list QN):=UB (tl:=60) (by kernel_rfl:Tryz.prog.funcs[39]? = some Tryz.f39) (c:=Tryz.f39.body.getD .skip) (by kernel_rfl) (by kernel_rfl) (gt:=(some 38)) (hs:=[]) (Ha Zx) HT (by kernel_rfl)
theorem Qko:Wp Tryz.prog 40 (.list .str):=UB (tl:=51) (by kernel_rfl:Tryz.prog.funcs[40]? = some Tryz.f40) (c:=Tryz.f40.body.getD .skip) (by kernel_rfl) (by kernel_rfl) (gt:=(some 38)) (hs:=[]) (Ha Zx) HT (by kernel_rfl)
theorem QlE:Wp Tryz.prog 14 (.list QE):=UB (tl:=36) (by kernel_rfl:Tryz.prog.funcs[14]? = some Tryz.f14) (c:=Tryz.f14.body.getD .skip) (by kernel_rfl) (by kernel_rfl) (gt:=(some 38)) (hs:=[(39,(.list QN)),(40,(.list .str))]) (Ha Zx) (UN Qnd (UN Qko HT)) (by kernel_rfl)
def QeY:Ctr:=QwJ 14 (.list QE) fun x=>Qet (.list QE) x.1 x.2.1
theorem QlF:G4 Tryz.prog QeY:=QvO (by kernel_rfl) (by kernel_rfl) (by kernel_rfl) QlE
theorem Qjd:Wp Tryz.prog 15 (.list Qt):=UB (tl:=29) (by kernel_rfl:Tryz.prog.funcs[15]? = some Tryz.f15) (c:=Tryz.f15.body.getD .skip) (by kernel_rfl) (by kernel_rfl) (gt:=(some 38)) (hs:=[]) (Ha Zx) HT (by kernel_rfl)
def QcX:Ctr:=QwJ 15 (.list Qt) fun x=>Qet (.list Qt) x.1 x.2.1
theorem Qje:G4 Tryz.prog QcX:=QvO (by kernel_rfl) (by kernel_rfl) (by kernel_rfl) Qjd
def Vd:List Qh→Int→Option Int | [],x2=>some x2 | e::rest,x2=>(G0 x2).bind fun y1=>bif !decide ((e).1=y1) then some (-1) else (G0 (IntKind.wrap .i64 (x2+1))).bind fun y2=>bif !decide (((e).2).1=y2) then some (-1) else bif !decide (((e).2).2=IntKind.wrap .i64 ((IntKind.wrap .i64 (x2+1))+1)) then some (-1) else Vd rest (IntKind.wrap .i64 ((IntKind.wrap .i64 ((IntKind.wrap .i64 (x2+1))+1))+1))
def YC (a0:(List Qh)) (a1:Int):Option Int:=QV a0 (Vd a0 a1)
def EA:Ctr:=⟨16,[(.list Qt),I64],[I64],fun x=>YC x.1 x.2.1⟩
def QcY:Kn:=⟨Tryz.f16,[([0,2],[.keep 0 0,.keep 0 1,.keep 0 5])],[],[Qdj]⟩
abbrev H6 (x1:(List Qh)) (x3:Int) (x2:Int) (n:Nat):Option Int:=LD_ QcY EA [0,2] [.d (.list Qt) x1,.d I64 x2,.d I64 x3] n
theorem Qhf {x1} (hl:Z2 x1):XF x1 (fun r _ x2=>Vd r x2) (H6 x1) :=
 X5 (d:=(Ty.dflt Qt)) hl (fun x3 x2 n=>(by kernel_rfl:_ =
  bif decide (x3<(x1.length:Int)) then
   bif inB x3 x1.length then
    (G0 x2).bind fun y1 =>
    bif !decide ((rd x1 x3 (Ty.dflt Qt)).1=y1) then
     some (-1:Int)
    else
     bif inB x3 x1.length then
      (G0 (IntKind.wrap .i64 (x2+1))).bind fun y2 =>
      bif !decide (((rd x1 x3 (Ty.dflt Qt)).2).1=y2) then
       some (-1:Int)
      else
       bif inB x3 x1.length then
        bif !decide (((rd x1 x3 (Ty.dflt Qt)).2).2=IntKind.wrap .i64 ((IntKind.wrap .i64 (x2+1))+1)) then
         some (-1:Int)
        else
         H6 x1 (QL x3) (QL (IntKind.wrap .i64 ((IntKind.wrap .i64 (x2+1))+1))) n
       else none
     else none
   else none
  else
   some x2))
 (fun _ x2=>Qb)
 (fun k _ q i x2=>(QI q (Qo fun y1=>(Qd Qb (QI q (Qo fun y2=>(Qd Qb (QI q (Qd Qb (i _))))))))))
theorem Qkp:Ok_ EA:=okD QcY (by kernel_rfl) (Qc Qhc Qk)
 fun ⟨a0,a1,_⟩=>QX (fun n=>(by kernel_rfl:_ =
  H6 a0 0 a1 n))
 (QD fun l=>Qhf l _ 0 rfl _)
def Qkq:Ctr:=szF 136 QO
theorem Qrq:Ok_ Qkq:=QgT ⟨Tryz.f136,[],[],[]⟩ [1,0] (by kernel_rfl) Qk fun _=>by kernel_rfl
def Qdm:Ctr:=szF 84 (.list QO)
def Qhg:Kn:=⟨Tryz.f84,[([0,5],[.keep 0 0,.keep 0 1,.keep 0 5])],[],[Qkq]⟩
theorem Qp1:Ok_ Qdm:=QlW Qhg (fun x1 x2 x3=>LD_ Qhg Qdm [0,5] [.d (.list QO) x1,.d I64 x2,.d I64 x3]) (by kernel_rfl) (Qc Qrq Qk) (fun _ _=>by kernel_rfl) (fun _ _ _ _=>by kernel_rfl)
def Qcx:Ctr:=szF 140 QN
theorem QeZ:Ok_ Qcx:=QgT ⟨Tryz.f140,[],[],[]⟩ [0,0,1,1] (by kernel_rfl) Qk fun _=>by kernel_rfl
def Qhh:Ctr:=szF 137 QP
theorem Qor:Ok_ Qhh:=QgT ⟨Tryz.f137,[],[],[Qcx]⟩ [1,0,1,2] (by kernel_rfl) (Qc QeZ Qk) fun _=>by kernel_rfl
def Qbd:Ctr:=szF 85 (.list QP)
def Qe0:Kn:=⟨Tryz.f85,[([0,5],[.keep 0 0,.keep 0 1,.keep 0 5])],[],[Qhh]⟩
theorem Qne:Ok_ Qbd:=QlW Qe0 (fun x1 x2 x3=>LD_ Qe0 Qbd [0,5] [.d (.list QP) x1,.d I64 x2,.d I64 x3]) (by kernel_rfl) (Qc Qor Qk) (fun _ _=>by kernel_rfl) (fun _ _ _ _=>by kernel_rfl)
def QiK:Ctr:=szF 41 QB
theorem Qp2:Ok_ QiK:=QgT ⟨Tryz.f41,[],[],[Qdm,Qbd]⟩ [1,2,2] (by kernel_rfl) (Qc Qp1 (Qc Qne Qk)) fun _=>by kernel_rfl
def Qch:Ctr:=szF 17 (.list QB)
def Qf3:Kn:=⟨Tryz.f17,[([0,5],[.keep 0 0,.keep 0 1,.keep 0 5])],[],[QiK]⟩
theorem Qos:Ok_ Qch:=QlW Qf3 (fun x1 x2 x3=>LD_ Qf3 Qch [0,5] [.d (.list QB) x1,.d I64 x2,.d I64 x3]) (by kernel_rfl) (Qc Qp2 Qk) (fun _ _=>by kernel_rfl) (fun _ _ _ _=>by kernel_rfl)
def QcZ:Ctr:=szF 195 Qg
theorem Qjf:Ok_ QcZ:=QgT ⟨Tryz.f195,[],[],[]⟩ [1,1,0,1] (by kernel_rfl) Qk fun _=>by kernel_rfl
def U0:Ctr:=szF 178 (.list Qg)
def Qbe:Kn:=⟨Tryz.f178,[([0,5],[.keep 0 0,.keep 0 1,.keep 0 5])],[],[QcZ]⟩
theorem Qib:Ok_ U0:=QlW Qbe (fun x1 x2 x3=>LD_ Qbe U0 [0,5] [.d (.list Qg) x1,.d I64 x2,.d I64 x3]) (by kernel_rfl) (Qc Qjf Qk) (fun _ _=>by kernel_rfl) (fun _ _ _ _=>by kernel_rfl)
def Qf4:Ctr:=szF 138 Qr
theorem Qnf:Ok_ Qf4:=QgT ⟨Tryz.f138,[],[],[U0]⟩ [1,2] (by kernel_rfl) (Qc Qib Qk) fun _=>by kernel_rfl
def Qah:Ctr:=szF 86 (.list Qr)
def QdK:Kn:=⟨Tryz.f86,[([0,5],[.keep 0 0,.keep 0 1,.keep 0 5])],[],[Qf4]⟩
theorem QlG:Ok_ Qah:=QlW QdK (fun x1 x2 x3=>LD_ QdK Qah [0,5] [.d (.list Qr) x1,.d I64 x2,.d I64 x3]) (by kernel_rfl) (Qc Qnf Qk) (fun _ _=>by kernel_rfl) (fun _ _ _ _=>by kernel_rfl)
def Qhi:Ctr:=szF 196 Ql
theorem Qot:Ok_ Qhi:=QgT ⟨Tryz.f196,[],[],[]⟩ [0,1,1] (by kernel_rfl) Qk fun _=>by kernel_rfl
def Qbf:Ctr:=szF 179 (.list Ql)
def Qe1:Kn:=⟨Tryz.f179,[([0,5],[.keep 0 0,.keep 0 1,.keep 0 5])],[],[Qhi]⟩
theorem Qng:Ok_ Qbf:=QlW Qe1 (fun x1 x2 x3=>LD_ Qe1 Qbf [0,5] [.d (.list Ql) x1,.d I64 x2,.d I64 x3]) (by kernel_rfl) (Qc Qot Qk) (fun _ _=>by kernel_rfl) (fun _ _ _ _=>by kernel_rfl)
def QdL:Ctr:=szF 139 Qp
theorem Qkr:Ok_ QdL:=QgT ⟨Tryz.f139,[],[],[Qbf]⟩ [1,2] (by kernel_rfl) (Qc Qng Qk) fun _=>by kernel_rfl
def WJ:Ctr:=szF 87 (.list Qp)
def QbE:Kn:=⟨Tryz.f87,[([0,5],[.keep 0 0,.keep 0 1,.keep 0 5])],[],[QdL]⟩
theorem Qjg:Ok_ WJ:=QlW QbE (fun x1 x2 x3=>LD_ QbE WJ [0,5] [.d (.list Qp) x1,.d I64 x2,.d I64 x3]) (by kernel_rfl) (Qc Qkr Qk) (fun _ _=>by kernel_rfl) (fun _ _ _ _=>by kernel_rfl)
def Qhj:Ctr:=szF 42 Qj
theorem Qou:Ok_ Qhj:=QgT ⟨Tryz.f42,[],[],[Qah,WJ]⟩ [1,2,2] (by kernel_rfl) (Qc QlG (Qc Qjg Qk)) fun _=>by kernel_rfl
def Qbg:Ctr:=szF 18 (.list Qj)
def Qe2:Kn:=⟨Tryz.f18,[([0,5],[.keep 0 0,.keep 0 1,.keep 0 5])],[],[Qhj]⟩
theorem Qnh:Ok_ Qbg:=QlW Qe2 (fun x1 x2 x3=>LD_ Qe2 Qbg [0,5] [.d (.list Qj) x1,.d I64 x2,.d I64 x3]) (by kernel_rfl) (Qc Qou Qk) (fun _ _=>by kernel_rfl) (fun _ _ _ _=>by kernel_rfl)
def Qe3:Ctr:=szF 4 Qe
theorem QlH:Ok_ Qe3:=QgT ⟨Tryz.f4,[],[],[Qch,Qbg]⟩ [2,2] (by kernel_rfl) (Qc Qos (Qc Qnh Qk)) fun _=>by kernel_rfl
def Qe4:Ctr:=szF 141 (.list QN)
def QiL:Kn:=⟨Tryz.f141,[([0,5],[.keep 0 0,.keep 0 1,.keep 0 5])],[],[Qcx]⟩
theorem Qrr:Ok_ Qe4:=QlW QiL (fun x1 x2 x3=>LD_ QiL Qe4 [0,5] [.d (.list QN) x1,.d I64 x2,.d I64 x3]) (by kernel_rfl) (Qc QeZ Qk) (fun _ _=>by kernel_rfl) (fun _ _ _ _=>by kernel_rfl)
def Qci:Ctr:=szF 142 (.list .str)
def Qf5:Kn:=⟨Tryz.f142,[([0,5],[.keep 0 0,.keep 0 1,.keep 0 5])],[],[]⟩
theorem Qov:Ok_ Qci:=QB2 Qf5 (fun x1 x2 x3=>LD_ Qf5 Qci [0,5] [.d (.list .str) x1,.d I64 x2,.d I64 x3]) (by kernel_rfl) Qk (fun _ _=>by kernel_rfl) (fun _ _ _ _=>by kernel_rfl)
def Qks:Ctr:=szF 88 Vi
theorem Qrs:Ok_ Qks:=QgT ⟨Tryz.f88,[],[],[Qcx,Qe4,Qci]⟩ [0,2,2,2] (by kernel_rfl) (Qc QeZ (Qc Qrr (Qc Qov Qk))) fun _=>by kernel_rfl
def Qkt:Ctr:=szF 43 Vt
theorem Qrt:Ok_ Qkt:=QgT ⟨Tryz.f43,[],[],[Qks]⟩ [1,1,1,1,1,1,1,2] (by kernel_rfl) (Qc Qrs Qk) fun _=>by kernel_rfl
def Qku:Ctr:=szF 19 QE
theorem Qru:Ok_ Qku:=QgT ⟨Tryz.f19,[],[],[Qkt]⟩ [0,2] (by kernel_rfl) (Qc Qrt Qk) fun _=>by kernel_rfl
def Qdn:Ctr:=szF 5 (.list QE)
def Qhk:Kn:=⟨Tryz.f5,[([0,5],[.keep 0 0,.keep 0 1,.keep 0 5])],[],[Qku]⟩
theorem Qp3:Ok_ Qdn:=QlW Qhk (fun x1 x2 x3=>LD_ Qhk Qdn [0,5] [.d (.list QE) x1,.d I64 x2,.d I64 x3]) (by kernel_rfl) (Qc Qru Qk) (fun _ _=>by kernel_rfl) (fun _ _ _ _=>by kernel_rfl)
def Qhl:Ctr:=eqF 32 Qt
theorem Qow:Ok_ Qhl:=QfK ⟨Tryz.f32,[],[],[]⟩ [0,0,0] (by kernel_rfl) Qk fun _=>by kernel_rfl
def Qbh:Ctr:=eqF 10 (.list Qt)
def Qe5:Kn:=⟨Tryz.f10,[([0,4],[.keep 0 0,.keep 0 1,.keep 0 5])],[],[Qhl]⟩
theorem Qni:Ok_ Qbh:=Qiq Qe5 1 (fun x1 x2 x3=>LD_ Qe5 Qbh [0,4] [.d (.list Qt) x1,.d (.list Qt) x2,.d I64 x3]) (by kernel_rfl) (Qc Qow Qk) (fun _ _=>by kernel_rfl) (fun _ _ _ _=>by kernel_rfl)
def Qkv:Ctr:=eqF 171 QO
theorem Qrv:Ok_ Qkv:=QfK ⟨Tryz.f171,[],[],[]⟩ [0,0] (by kernel_rfl) Qk fun _=>by kernel_rfl
def Qdo:Ctr:=eqF 129 (.list QO)
def Qhm:Kn:=⟨Tryz.f129,[([0,4],[.keep 0 0,.keep 0 1,.keep 0 5])],[],[Qkv]⟩
theorem Qp4:Ok_ Qdo:=Qiq Qhm 1 (fun x1 x2 x3=>LD_ Qhm Qdo [0,4] [.d (.list QO) x1,.d (.list QO) x2,.d I64 x3]) (by kernel_rfl) (Qc Qrv Qk) (fun _ _=>by kernel_rfl) (fun _ _ _ _=>by kernel_rfl)
def Qcy:Ctr:=eqF 175 QN
theorem Qe6:Ok_ Qcy:=QfK ⟨Tryz.f175,[],[],[]⟩ [0,0,0,0] (by kernel_rfl) Qk fun _=>by kernel_rfl
def Qhn:Ctr:=eqF 172 QP
theorem Qox:Ok_ Qhn:=QfK ⟨Tryz.f172,[],[],[Qcy]⟩ [0,0,0,1] (by kernel_rfl) (Qc Qe6 Qk) fun _=>by kernel_rfl
def Qbi:Ctr:=eqF 130 (.list QP)
def Qe7:Kn:=⟨Tryz.f130,[([0,4],[.keep 0 0,.keep 0 1,.keep 0 5])],[],[Qhn]⟩
theorem Qnj:Ok_ Qbi:=Qiq Qe7 1 (fun x1 x2 x3=>LD_ Qe7 Qbi [0,4] [.d (.list QP) x1,.d (.list QP) x2,.d I64 x3]) (by kernel_rfl) (Qc Qox Qk) (fun _ _=>by kernel_rfl) (fun _ _ _ _=>by kernel_rfl)
def QiM:Ctr:=eqF 77 QB
theorem Qp5:Ok_ QiM:=QfK ⟨Tryz.f77,[],[],[Qdo,Qbi]⟩ [0,1,1] (by kernel_rfl) (Qc Qp4 (Qc Qnj Qk)) fun _=>by kernel_rfl
def Qcj:Ctr:=eqF 33 (.list QB)
def Qf6:Kn:=⟨Tryz.f33,[([0,4],[.keep 0 0,.keep 0 1,.keep 0 5])],[],[QiM]⟩
theorem Qoy:Ok_ Qcj:=Qiq Qf6 1 (fun x1 x2 x3=>LD_ Qf6 Qcj [0,4] [.d (.list QB) x1,.d (.list QB) x2,.d I64 x3]) (by kernel_rfl) (Qc Qp5 Qk) (fun _ _=>by kernel_rfl) (fun _ _ _ _=>by kernel_rfl)
def Qc0:Ctr:=eqF 199 Qg
theorem Qjh:Ok_ Qc0:=QfK ⟨Tryz.f199,[],[],[]⟩ [0,0,0,0] (by kernel_rfl) Qk fun _=>by kernel_rfl
def U1:Ctr:=eqF 193 (.list Qg)
def Qbj:Kn:=⟨Tryz.f193,[([0,4],[.keep 0 0,.keep 0 1,.keep 0 5])],[],[Qc0]⟩
theorem Qic:Ok_ U1:=Qiq Qbj 1 (fun x1 x2 x3=>LD_ Qbj U1 [0,4] [.d (.list Qg) x1,.d (.list Qg) x2,.d I64 x3]) (by kernel_rfl) (Qc Qjh Qk) (fun _ _=>by kernel_rfl) (fun _ _ _ _=>by kernel_rfl)
def Qf7:Ctr:=eqF 173 Qr
theorem Qnk:Ok_ Qf7:=QfK ⟨Tryz.f173,[],[],[U1]⟩ [0,1] (by kernel_rfl) (Qc Qic Qk) fun _=>by kernel_rfl
def Qai:Ctr:=eqF 131 (.list Qr)
def QdM:Kn:=⟨Tryz.f131,[([0,4],[.keep 0 0,.keep 0 1,.keep 0 5])],[],[Qf7]⟩
theorem QlI:Ok_ Qai:=Qiq QdM 1 (fun x1 x2 x3=>LD_ QdM Qai [0,4] [.d (.list Qr) x1,.d (.list Qr) x2,.d I64 x3]) (by kernel_rfl) (Qc Qnk Qk) (fun _ _=>by kernel_rfl) (fun _ _ _ _=>by kernel_rfl)
def Qho:Ctr:=eqF 200 Ql
theorem Qoz:Ok_ Qho:=QfK ⟨Tryz.f200,[],[],[]⟩ [0,0,0] (by kernel_rfl) Qk fun _=>by kernel_rfl
def Qbk:Ctr:=eqF 194 (.list Ql)
def Qe8:Kn:=⟨Tryz.f194,[([0,4],[.keep 0 0,.keep 0 1,.keep 0 5])],[],[Qho]⟩
theorem Qnl:Ok_ Qbk:=Qiq Qe8 1 (fun x1 x2 x3=>LD_ Qe8 Qbk [0,4] [.d (.list Ql) x1,.d (.list Ql) x2,.d I64 x3]) (by kernel_rfl) (Qc Qoz Qk) (fun _ _=>by kernel_rfl) (fun _ _ _ _=>by kernel_rfl)
def QdN:Ctr:=eqF 174 Qp
theorem Qkw:Ok_ QdN:=QfK ⟨Tryz.f174,[],[],[Qbk]⟩ [0,1] (by kernel_rfl) (Qc Qnl Qk) fun _=>by kernel_rfl
def WK:Ctr:=eqF 132 (.list Qp)
def QbF:Kn:=⟨Tryz.f132,[([0,4],[.keep 0 0,.keep 0 1,.keep 0 5])],[],[QdN]⟩
theorem Qji:Ok_ WK:=Qiq QbF 1 (fun x1 x2 x3=>LD_ QbF WK [0,4] [.d (.list Qp) x1,.d (.list Qp) x2,.d I64 x3]) (by kernel_rfl) (Qc Qkw Qk) (fun _ _=>by kernel_rfl) (fun _ _ _ _=>by kernel_rfl)
def Qhp:Ctr:=eqF 78 Qj
theorem QoA:Ok_ Qhp:=QfK ⟨Tryz.f78,[],[],[Qai,WK]⟩ [0,1,1] (by kernel_rfl) (Qc QlI (Qc Qji Qk)) fun _=>by kernel_rfl
def Qbl:Ctr:=eqF 34 (.list Qj)
def Qe9:Kn:=⟨Tryz.f34,[([0,4],[.keep 0 0,.keep 0 1,.keep 0 5])],[],[Qhp]⟩
theorem Qnm:Ok_ Qbl:=Qiq Qe9 1 (fun x1 x2 x3=>LD_ Qe9 Qbl [0,4] [.d (.list Qj) x1,.d (.list Qj) x2,.d I64 x3]) (by kernel_rfl) (Qc QoA Qk) (fun _ _=>by kernel_rfl) (fun _ _ _ _=>by kernel_rfl)
def Qfa:Ctr:=eqF 11 Qe
theorem QlJ:Ok_ Qfa:=QfK ⟨Tryz.f11,[],[],[Qcj,Qbl]⟩ [1,1] (by kernel_rfl) (Qc Qoy (Qc Qnm Qk)) fun _=>by kernel_rfl
def Qfb:Ctr:=eqF 176 (.list QN)
def QiN:Kn:=⟨Tryz.f176,[([0,4],[.keep 0 0,.keep 0 1,.keep 0 5])],[],[Qcy]⟩
theorem Qrw:Ok_ Qfb:=Qiq QiN 1 (fun x1 x2 x3=>LD_ QiN Qfb [0,4] [.d (.list QN) x1,.d (.list QN) x2,.d I64 x3]) (by kernel_rfl) (Qc Qe6 Qk) (fun _ _=>by kernel_rfl) (fun _ _ _ _=>by kernel_rfl)
def Qck:Ctr:=eqF 177 (.list .str)
def Qf8:Kn:=⟨Tryz.f177,[([0,4],[.keep 0 0,.keep 0 1,.keep 0 5])],[],[]⟩
theorem QoB:Ok_ Qck:=Qiq Qf8 0 (fun x1 x2 x3=>LD_ Qf8 Qck [0,4] [.d (.list .str) x1,.d (.list .str) x2,.d I64 x3]) (by kernel_rfl) Qk (fun _ _=>by kernel_rfl) (fun _ _ _ _=>by kernel_rfl)
def Qkx:Ctr:=eqF 133 Vi
theorem Qrx:Ok_ Qkx:=QfK ⟨Tryz.f133,[],[],[Qcy,Qfb,Qck]⟩ [0,1,1,1] (by kernel_rfl) (Qc Qe6 (Qc Qrw (Qc QoB Qk))) fun _=>by kernel_rfl
def Qky:Ctr:=eqF 79 Vt
theorem Qry:Ok_ Qky:=QfK ⟨Tryz.f79,[],[],[Qkx]⟩ [0,0,0,0,0,0,0,1] (by kernel_rfl) (Qc Qrx Qk) fun _=>by kernel_rfl
def Qkz:Ctr:=eqF 35 QE
theorem Qrz:Ok_ Qkz:=QfK ⟨Tryz.f35,[],[],[Qky]⟩ [0,1] (by kernel_rfl) (Qc Qry Qk) fun _=>by kernel_rfl
def Qdp:Ctr:=eqF 12 (.list QE)
def Qhq:Kn:=⟨Tryz.f12,[([0,4],[.keep 0 0,.keep 0 1,.keep 0 5])],[],[Qkz]⟩
theorem Qp6:Ok_ Qdp:=Qiq Qhq 1 (fun x1 x2 x3=>LD_ Qhq Qdp [0,4] [.d (.list QE) x1,.d (.list QE) x2,.d I64 x3]) (by kernel_rfl) (Qc Qrz Qk) (fun _ _=>by kernel_rfl) (fun _ _ _ _=>by kernel_rfl)
def Xo (x1:(List Q5)) (x2:(List Qh)) (x3:(List Qh)) (x4:Qa):Option Bool:=Option.bind (Qet (.list Qt) x3 1) fun (y17:(Int × (List Qh)))=>(YC y17.2 1).bind fun y18=>bif decide (y18<0) then some false else bif !decide (y18=y17.1) then some false else Option.bind (toC Qe x4) fun (y19:Qa)=>Option.bind (toC (.list QE) x1) fun (y20:(List Q5))=>(GZ y19 y20).bind fun y21=>Option.bind (eqC (.list Qt) y21 x2) fun (y22:Bool)=>bif !(y22) then some false else (YC y17.2 1).bind fun y23=>bif decide (y23<0) then some false else bif !decide (y23=y17.1) then some false else some true
def Xp (a0:Qa) (a1:(List Q5)):Option Bool:=Option.bind (szC Qe a0 1048576) fun (y1:Int)=>bif decide (y1<0) then some true else Option.bind (szC (.list QE) a1 y1) fun (y2:Int)=>bif decide (y2<0) then some true else Option.bind (toC Qe a0) fun (y3:Qa)=>Option.bind (toC (.list QE) a1) fun (y4:(List Q5))=>(VS y3 y4).bind fun y5=>Option.bind (toC Qe a0) fun (y6:Qa)=>Option.bind (toC (.list QE) a1) fun (y7:(List Q5))=>(GZ y6 y7).bind fun y8=>Option.bind (eqC (.list Qt) y8 y5) fun (y9:Bool)=>bif !(y9) then some false else Option.bind (toC Qe a0) fun (y10:Qa)=>Option.bind (eqC Qe y6 y10) fun (y11:Bool)=>bif !(y11) then some false else Option.bind (toC (.list QE) a1) fun (y12:(List Q5))=>Option.bind (eqC (.list QE) y7 y12) fun (y13:Bool)=>bif !(y13) then some false else Option.bind (Qet Qe y6 1) fun (y14:(Int × Qa))=>Option.bind (Qet (.list QE) y7 y14.1) fun (y15:(Int × (List Q5)))=>bif decide (y15.1<0) then some false else Option.bind (eqC (.list Qt) y8 y5) fun (y16:Bool)=>bif !(y16) then some false else Xo a1 y5 y8 a0
def Qbm:Ctr:=⟨3,[Qe,(.list QE)],[.bool],fun x=>Xp x.1 x.2.1⟩
def Ve:Kn:=⟨Tryz.f3,[([1,23],[.keep 0 1,.keep 0 2,.keep 0 6,.drb 0 9 Qt,.boxd 0 2 Qe])],[([9001],2000007),([10001],2000008),([11002],2000009),([19002],3000013),([20002],3000014),([24002],3000015)],[Qe3,Qdn,QeT,Qdk,EU,QdJ,Qcg,H5,Qbh,Qfa,Qdp,QbD,QeY,QcX,EA,QiD]⟩
abbrev Wd (x1:(List Q5)) (x2:(List Qh)) (x3:(List Qh)) (x4:Qa) (n:Nat):Option Bool:=LD_ Ve Qbm [1,23] [.d (.list QE) x1,.ptr 0 2 0,.d (.list Qt) x2,.d (.list Qt) x3,.agg (Qm Qe x4)] n
theorem Qd6 {x1 x2 x3 x4}:Cm (Xo x1 x2 x3 x4) (Wd x1 x2 x3 x4) :=
 Jk (fun n=>(by kernel_rfl:_ =
  (Qet (.list Qt) x3 1).bind fun y17 =>
  (YC y17.2 1).bind fun y18 =>
  bif decide (y18<0) then
   some false
  else
   bif !decide (y18=y17.1) then
    some false
   else
    (toC Qe x4).bind fun y19 =>
    (toC (.list QE) x1).bind fun y20 =>
    (GZ y19 y20).bind fun y21 =>
    (eqC (.list Qt) y21 x2).bind fun y22 =>
    bif !(y22) then
     some false
    else
     (YC y17.2 1).bind fun y23 =>
     bif decide (y23<0) then
      some false
     else
      bif !decide (y23=y17.1) then
       some false
      else
       some true))
 (Qo fun y17=>(Qo fun y18=>(Qd Qb (Qd Qb (Qo fun y19=>(Qo fun y20=>(Qo fun y21=>(Qo fun y22=>(Qd Qb (Qo fun y23=>(Qd Qb (Qd Qb Qb))))))))))))
theorem Qgs:∀ x∈(Ve).cs,G4 Tryz.prog x:=(Qc QlH (Qc Qp3 (Qc Qlx (Qc QpW (Qc QpN (Qc Qkj (Qc Qoq (Qc QfU (Qc Qni (Qc QlJ (Qc Qp6 (Qc Qia (Qc QlF (Qc Qje (Qc Qkp (Qc QpT Qk))))))))))))))))
theorem Qid (a0:Qa) (a1:(List Q5)):Cm (Xp a0 a1) (Qs2 Tryz.prog noG Ve Qbm (a0,a1,())) :=
 QX (fun n=>(by kernel_rfl:_ =
  (szC Qe a0 1048576).bind fun y1 =>
  bif decide (y1<0) then
   some true
  else
   (szC (.list QE) a1 y1).bind fun y2 =>
   bif decide (y2<0) then
    some true
   else
    (toC Qe a0).bind fun y3 =>
    (toC (.list QE) a1).bind fun y4 =>
    (VS y3 y4).bind fun y5 =>
    (toC Qe a0).bind fun y6 =>
    (toC (.list QE) a1).bind fun y7 =>
    (GZ y6 y7).bind fun y8 =>
    (eqC (.list Qt) y8 y5).bind fun y9 =>
    bif !(y9) then
     some false
    else
     (toC Qe a0).bind fun y10 =>
     (eqC Qe y6 y10).bind fun y11 =>
     bif !(y11) then
      some false
     else
      (toC (.list QE) a1).bind fun y12 =>
      (eqC (.list QE) y7 y12).bind fun y13 =>
      bif !(y13) then
       some false
      else
       (Qet Qe y6 1).bind fun y14 =>
       (Qet (.list QE) y7 y14.1).bind fun y15 =>
       bif decide (y15.1<0) then
        some false
       else
        (eqC (.list Qt) y8 y5).bind fun y16 =>
        bif !(y16) then
         some false
        else
         Wd a1 y5 y8 a0 n))
 (Qo fun y1=>(Qd Qb (Qo fun y2=>(Qd Qb (Qo fun y3=>(Qo fun y4=>(Qo fun y5=>(Qo fun y6=>(Qo fun y7=>(Qo fun y8=>(Qo fun y9=>(Qd Qb (Qo fun y10=>(Qo fun y11=>(Qd Qb (Qo fun y12=>(Qo fun y13=>(Qd Qb (Qo fun y14=>(Qo fun y15=>(Qd Qb (Qo fun y16=>(Qd Qb Qd6)))))))))))))))))))))))
end
end Go.Ab
