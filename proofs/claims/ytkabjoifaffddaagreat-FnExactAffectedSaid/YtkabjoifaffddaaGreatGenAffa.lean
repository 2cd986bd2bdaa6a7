import Derived.Test.YtkabjoifaffddaaGreatCompact4Lay
import Derived.Test.YtkabjoifaffddaaGreatSim
import Derived.Test.YtkabjoifaffddaaGreatProg
import Derived.KernelRfl
namespace Go.Ab
noncomputable section
open Go.Proofs
set_option maxRecDepth 20000
set_option maxHeartbeats 1000000
abbrev I64:Ty:=.int .i64
abbrev U8:Ty:=.int .u8
abbrev LD_:=QB7 Tryz.prog noG
abbrev LO_:=QCa Tryz.prog noG
abbrev LP_:=QB8 Tryz.prog noG
abbrev Ok_:=G4 Tryz.prog
abbrev QO:Ty:=(.pair .str I64)
abbrev ZP:Type:=((List Int) × Int)
abbrev Qs:Ty:=(.pair .str .str)
abbrev Qi:Type:=((List Int) × (List Int))
abbrev Ql:Ty:=(.pair I64 (.pair .str .str))
abbrev Qz:Type:=(Int × ((List Int) × (List Int)))
abbrev QN:Ty:=(.pair I64 (.pair I64 (.pair .str .str)))
abbrev YT:Type:=(Int × (Int × ((List Int) × (List Int))))
abbrev QP:Ty:=(.pair .str (.pair I64 (.pair .str (.pair I64 (.pair I64 (.pair .str .str))))))
abbrev Vs:Type:=((List Int) × (Int × ((List Int) × (Int × (Int × ((List Int) × (List Int)))))))
abbrev QB:Ty:=(.pair .str (.pair (.list QO) (.list QP)))
abbrev Q0:Type:=((List Int) × ((List ZP) × (List Vs)))
abbrev Qg:Ty:=(.pair .str (.pair .str (.pair .bool .str)))
abbrev Qx:Type:=((List Int) × ((List Int) × (Bool × (List Int))))
abbrev Qr:Ty:=(.pair .str (.list Qg))
abbrev Qv:Type:=((List Int) × (List Qx))
abbrev Qp:Ty:=(.pair .str (.list Ql))
abbrev Qq:Type:=((List Int) × (List Qz))
abbrev Qj:Ty:=(.pair .str (.pair (.list Qr) (.list Qp)))
abbrev Qf:Type:=((List Int) × ((List Qv) × (List Qq)))
abbrev Qe:Ty:=(.pair (.list QB) (.list Qj))
abbrev Qa:Type:=((List Q0) × (List Qf))
abbrev Vi:Ty:=(.pair I64 (.pair QN (.pair (.list QN) (.list .str))))
abbrev Xg:Type:=(Int × (YT × ((List YT) × (List (List Int)))))
abbrev Vt:Ty:=(.pair .str (.pair .str (.pair .str (.pair .str (.pair .str (.pair .str (.pair .str (.pair I64 (.pair QN (.pair (.list QN) (.list .str)))))))))))
abbrev Xh:Type:=((List Int) × ((List Int) × ((List Int) × ((List Int) × ((List Int) × ((List Int) × ((List Int) × (Int × (YT × ((List YT) × (List (List Int))))))))))))
abbrev QE:Ty:=(.pair I64 (.pair .str (.pair .str (.pair .str (.pair .str (.pair .str (.pair .str (.pair .str (.pair I64 (.pair QN (.pair (.list QN) (.list .str))))))))))))
abbrev Q5:Type:=(Int × ((List Int) × ((List Int) × ((List Int) × ((List Int) × ((List Int) × ((List Int) × ((List Int) × (Int × (YT × ((List YT) × (List (List Int)))))))))))))
abbrev Qt:Ty:=(.pair .str (.pair .str I64))
abbrev Qh:Type:=((List Int) × ((List Int) × Int))
abbrev YU:Ty:=(.tree Ql)
abbrev Zt:Type:=(Tree Qz)
abbrev QJ:Ty:=(.pair I64 (.pair I64 .bool))
abbrev Qu:Type:=(Int × (Int × Bool))
abbrev ZF:Ty:=(.pair Qs .bool)
abbrev Qy:Type:=(Qi × Bool)
def Vu (a0:Int):Bool:=bif decide ((48:Int)≤a0) then decide (a0≤57) else false
def Qex:Ctr:=⟨99,[U8],[.bool],fun x=>some (Vu x.1)⟩
theorem Qir:Ok_ Qex:=okD ⟨Tryz.f99,[],[],[]⟩ (by kernel_rfl) Qk
 fun ⟨a0,_⟩=>QX (fun n=>(by kernel_rfl:_ =
  bif decide ((48:Int)≤a0) then
   some (decide (a0≤57))
  else
   some false))
 (Qev (Zj rfl rfl))
def GS (a0:Int):Bool:=bif decide ((97:Int)≤a0) then bif decide (a0≤122) then true else bif decide ((65:Int)≤a0) then decide (a0≤90) else false else bif decide ((65:Int)≤a0) then decide (a0≤90) else false
def Qc8:Ctr:=⟨98,[U8],[.bool],fun x=>some (GS x.1)⟩
theorem QgU:Ok_ Qc8:=okD ⟨Tryz.f98,[],[],[]⟩ (by kernel_rfl) Qk
 fun ⟨a0,_⟩=>QX (fun n=>(by kernel_rfl:_ =
  bif decide ((97:Int)≤a0) then
   bif decide (a0≤122) then
    some true
   else
    bif decide ((65:Int)≤a0) then
     some (decide (a0≤90))
    else
     some false
  else
   bif decide ((65:Int)≤a0) then
    some (decide (a0≤90))
   else
    some false))
 (Qev (Zj (Zj rfl (Zj rfl rfl)) (Zj rfl rfl)))
def Yw:List Int→Option Bool | []=>some true | e::rest=>bif !(GS (e)) then bif !(Vu (e)) then bif !decide (e=95) then some false else Yw rest else Yw rest else Yw rest
def Zc (a0:(List Int)):Option Bool:=bif decide ((a0.length:Int)<1) then some false else bif decide ((30:Int)<(a0.length:Int)) then some false else bif inB 0 a0.length then bif Vu (rd a0 0 0) then some false else QV a0 (Yw a0) else none
def Hc:Ctr:=⟨89,[.str],[.bool],fun x=>Zc x.1⟩
def QgV:Kn:=⟨Tryz.f89,[([0,4],[.keep 0 0,.keep 0 3])],[],[Qex,Qc8]⟩
abbrev G5 (x1:(List Int)) (x2:Int) (n:Nat):Option Bool:=LD_ QgV Hc [0,4] [.d .str x1,.d I64 x2] n
theorem Qlh {x1} (hl:Z2 x1):Jy x1 (fun r _=>Yw r) (G5 x1) :=
 JN (d:=0) hl (fun x2 n=>(by kernel_rfl:_ =
  bif decide (x2<(x1.length:Int)) then
   bif inB x2 x1.length then
    bif !(GS (rd x1 x2 0)) then
     bif inB x2 x1.length then
      bif !(Vu (rd x1 x2 0)) then
       bif inB x2 x1.length then
        bif !decide (rd x1 x2 0=95) then
         some false
        else
         G5 x1 (QL x2) n
       else none
      else
       G5 x1 (QL x2) n
     else none
    else
     G5 x1 (QL x2) n
   else none
  else
   some true))
 (fun _=>Qb)
 (fun k _ q i=>(QI q (Qd (QI q (Qd (QI q (Qd Qb i)) i)) i)))
theorem WW:Ok_ Hc:=okD QgV (by kernel_rfl) (Qc Qir (Qc QgU Qk))
 fun ⟨a0,_⟩=>QX (fun n=>(by kernel_rfl:_ =
  bif decide ((a0.length:Int)<1) then
   some false
  else
   bif decide ((30:Int)<(a0.length:Int)) then
    some false
   else
    bif inB 0 a0.length then
     bif Vu (rd a0 0 0) then
      some false
     else
      G5 a0 0 n
    else none))
 (Qd Qb (Qd Qb (Qd (Qd Qb (QD fun l=>Qlh l _ 0 rfl)) QC)))
def Z3 (a0:Int) (a1:Int):Int:=bif decide (a0<a1) then (-1) else bif decide (a1<a0) then 1 else 0
def Qc9:Ctr:=⟨91,[I64,I64],[I64],fun x=>some (Z3 x.1 x.2.1)⟩
theorem QgW:Ok_ Qc9:=okD ⟨Tryz.f91,[],[],[]⟩ (by kernel_rfl) Qk
 fun ⟨a0,a1,_⟩=>QX (fun n=>(by kernel_rfl:_ =
  bif decide (a0<a1) then
   some (-1:Int)
  else
   bif decide (a1<a0) then
    some (1:Int)
   else
    some (0:Int)))
 (Qev (Zj rfl (Zj rfl rfl)))
def Va (x1:(List Int)) (x2:(List Int)):List Int→Nat→Option Int | [],k=>some (Z3 (x1.length:Int) (x2.length:Int)) | e::rest,k=>bif decide ((k:Int)<(x2.length:Int)) then bif inB (k:Int) x2.length then bif !decide (e=rd x2 (k:Int) 0) then bif inB (k:Int) x2.length then some (Z3 (IntKind.wrap .i64 (e)) (IntKind.wrap .i64 (rd x2 (k:Int) 0))) else none else Va x1 x2 rest (k+1) else none else some (Z3 (x1.length:Int) (x2.length:Int))
def QW (a0:(List Int)) (a1:(List Int)):Option Int:=QV a0 (Va a0 a1 a0 0)
def Vb:Ctr:=⟨45,[.str,.str],[I64],fun x=>QW x.1 x.2.1⟩
def QfL:Kn:=⟨Tryz.f45,[([0,2],[.keep 0 0,.keep 0 1,.keep 0 5])],[],[Qc9]⟩
abbrev Wq (x1:(List Int)) (x2:(List Int)) (x3:Int) (n:Nat):Option Int:=LD_ QfL Vb [0,2] [.d .str x1,.d .str x2,.d I64 x3] n
theorem QjP {x1 x2} (hl:Z2 x1):Jy x1 (Va x1 x2) (Wq x1 x2) :=
 JN (d:=0) hl (fun x3 n=>(by kernel_rfl:_ =
  bif decide (x3<(x1.length:Int)) then
   bif decide (x3<(x2.length:Int)) then
    bif inB x3 x1.length then
     bif inB x3 x2.length then
      bif !decide (rd x1 x3 0=rd x2 x3 0) then
       bif inB x3 x1.length then
        bif inB x3 x2.length then
         some (Z3 (IntKind.wrap .i64 (rd x1 x3 0)) (IntKind.wrap .i64 (rd x2 x3 0)))
        else none
       else none
      else
       Wq x1 x2 (QL x3) n
     else none
    else none
   else
    some (Z3 (x1.length:Int) (x2.length:Int))
  else
   some (Z3 (x1.length:Int) (x2.length:Int))))
 (fun _=>Qb)
 (fun k _ q i=>(Qd (QI q (Qd (Qd (QI q (Qd Qb QC)) i) QC)) Qb))
theorem GI:Ok_ Vb:=okD QfL (by kernel_rfl) (Qc QgW Qk)
 fun ⟨a0,a1,_⟩=>QX (fun n=>(by kernel_rfl:_ =
  Wq a0 a1 0 n))
 (QD fun l=>QjP l _ 0 rfl)
def XG (x1:(List Int)):List ZP→Option (ZP × Bool) | []=>some ((([]:List Int),0),false) | e::rest=>bif decide ((e).1=x1) then some ((e),true) else XG x1 rest
def Gt (a0:(List ZP)) (a1:(List Int)):Option (ZP × Bool):=QV a0 (XG a1 a0)
def QaL:Ctr:=⟨101,[(.list QO),.str],[QO,.bool],fun x=>Gt x.1 x.2.1⟩
def Qis:Kn:=⟨Tryz.f101,[([0,2],[.keep 0 1,.keep 0 4,.keep 0 8,.keep 0 9,.keep 0 10,.boxd 0 4 QO])],[],[]⟩
abbrev E3 (x1:(List Int)) (x2:(List ZP)) (x3:Int) (x5:ZP) (x4:Int) (n:Nat):Option (ZP × Bool):=LD_ Qis QaL [0,2] [.d .str x1,.ptr 0 4 0,.d (.list QO) x2,.d I64 x3,.d I64 x4,.agg (Qm QO x5)] n
theorem QmQ {x1 x2 x5} (hl:Z2 x2):Jy x2 (fun r _=>XG x1 r) (E3 x1 x2 (x2.length:Int) x5) :=
 JN (d:=(Ty.dflt QO)) hl (fun x4 n=>(by kernel_rfl:_ =
  bif decide (x4<(x2.length:Int)) then
   bif inB x4 x2.length then
    bif decide ((rd x2 x4 (Ty.dflt QO)).1=x1) then
     some ((rd x2 x4 (Ty.dflt QO)),true)
    else
     E3 x1 x2 (x2.length:Int) x5 (QL x4) n
   else none
  else
   some ((([]:List Int),0),false)))
 (fun _=>Qb)
 (fun k _ q i=>(QI q (Qd Qb i)))
theorem Qit:Ok_ QaL:=okD Qis (by kernel_rfl) Qk
 fun ⟨a0,a1,_⟩=>QX (fun n=>(by kernel_rfl:_ =
  E3 a1 a0 (a0.length:Int) (([]:List Int),0) 0 n))
 (QD fun l=>QmQ l _ 0 rfl)
def Gu:List Int→Option Bool | []=>some true | e::rest=>bif decide (e<32) then some false else bif decide ((126:Int)<e) then some false else Gu rest
def Gb (a0:(List Int)):Option Bool:=QV a0 (Gu a0)
def QbV:Ctr:=⟨180,[.str],[.bool],fun x=>Gb x.1⟩
def QfM:Kn:=⟨Tryz.f180,[([0,2],[.keep 0 0,.keep 0 3])],[],[]⟩
abbrev Wr (x1:(List Int)) (x2:Int) (n:Nat):Option Bool:=LD_ QfM QbV [0,2] [.d .str x1,.d I64 x2] n
theorem QjQ {x1} (hl:Z2 x1):Jy x1 (fun r _=>Gu r) (Wr x1) :=
 JN (d:=0) hl (fun x2 n=>(by kernel_rfl:_ =
  bif decide (x2<(x1.length:Int)) then
   bif inB x2 x1.length then
    bif decide (rd x1 x2 0<32) then
     some false
    else
     bif inB x2 x1.length then
      bif decide ((126:Int)<rd x1 x2 0) then
       some false
      else
       Wr x1 (QL x2) n
     else none
   else none
  else
   some true))
 (fun _=>Qb)
 (fun k _ q i=>(QI q (Qd Qb (QI q (Qd Qb i)))))
theorem Qn2:Ok_ QbV:=okD QfM (by kernel_rfl) Qk
 fun ⟨a0,_⟩=>QX (fun n=>(by kernel_rfl:_ =
  Wr a0 0 n))
 (QD fun l=>QjQ l _ 0 rfl)
def GJ (x1:Int):Nat→Int→Int→Option Int | 0,_,_=>none | m+1,x2,x3=>bif decide (x3<x1) then GJ x1 m (IntKind.wrap .i64 (x2*2)) (IntKind.wrap .i64 (x3+1)) else some x2
def Qt1 (m:Nat) (a0:Int):Option Int:=GJ a0 m 1 0
def UO (a0:Int):Option Int:=QaF fun m=>Qt1 m a0
def Qcr:Ctr:=⟨181,[I64],[I64],fun x=>UO x.1⟩
def QjR:Kn:=⟨Tryz.f181,[([0,3],[.keep 0 0,.keep 0 3,.keep 0 4])],[],[]⟩
abbrev QaM (x1:Int) (x2:Int) (x3:Int) (n:Nat):Option Int:=LD_ QjR Qcr [0,3] [.d I64 x1,.d I64 x2,.d I64 x3] n
theorem Qn3 {x1}:∀ m x2 x3,Cm (GJ x1 m x2 x3) (QaM x1 x2 x3) :=
 QwX (p:=(GJ x1)) (fun x2 x3 n=>(by kernel_rfl:_ =
  bif decide (x3<x1) then
   QaM x1 (IntKind.wrap .i64 (x2*2)) (QL x3) n
  else
   some x2))
 (fun _ _=>rfl)
 (fun m i x2 x3=>(Qd (i _ _) Qb))
theorem QjS:Ok_ Qcr:=okD QjR (by kernel_rfl) Qk
 fun ⟨a0,_⟩=>QmO fun m=>QX (fun n=>(by kernel_rfl:_ =
  QaM a0 1 0 n))
 (Qn3 _ _ _)
def Ws (a0:YT):Option (Int × Int):=(UO (IntKind.wrap .i64 (32 - (Int.tmod a0.2.1 64)))).bind fun y1=>some (IntKind.wrap .i64 (Int.tdiv a0.2.1 64),y1)
def QjT:Ctr:=⟨182,[QN],[I64,I64],fun x=>Ws x.1⟩
theorem Qra:Ok_ QjT:=okS ⟨Tryz.f182,[],[],[Qcr]⟩ (by kernel_rfl) (Qc QjS Qk) fun _=>by kernel_rfl
def HK (x1:Int) (x2:Bool) (x3:YT):Option Bool:=bif x2 then some true else bif decide (x1=3) then bif decide (x3.2.1=0) then bif decide ((x3.2.2.1.length:Int)≤200) then (Gb x3.2.2.1).bind fun y1=>some y1 else some false else some false else bif decide (x1=4) then bif decide (x3.2.1=0) then (Zc x3.2.2.2).bind fun y2=>bif y2 then bif decide ((1:Int)≤(x3.2.2.1.length:Int)) then bif decide ((x3.2.2.1.length:Int)≤200) then (Gb x3.2.2.1).bind fun y3=>some y3 else some false else some false else some false else some false else bif decide (x1=6) then bif decide (x3.2.1<0) then some false else (UO 32).bind fun y4=>bif decide (IntKind.wrap .i64 (y4 - 1)<IntKind.wrap .i64 (Int.tdiv x3.2.1 64)) then some false else bif decide ((32:Int)<Int.tmod x3.2.1 64) then some false else (Ws x3).bind fun y5=>bif decide (y5.2=0) then none else some (decide (Int.tmod y5.1 y5.2=0)) else bif decide (x1=7) then bif decide (((-100000000000):Int)≤x3.2.1) then some (decide (x3.2.1≤100000000000)) else some false else some false
def JV (x1:YT):Option Bool:=bif decide (x1.1=1) then bif decide (x1.2.1=0) then some true else some (decide (x1.2.1=1)) else bif decide (x1.1=2) then HK x1.1 (decide (x1.1=2)) x1 else HK x1.1 (decide (x1.1=5)) x1
def YY (a0:YT):Option Bool:=bif !decide (a0.1=3) then bif !decide (a0.1=4) then bif !decide (a0.2.2.1=([]:List Int)) then some false else bif !decide (a0.1=4) then bif !decide (a0.2.2.2=([]:List Int)) then some false else JV a0 else JV a0 else bif !decide (a0.1=4) then bif !decide (a0.2.2.2=([]:List Int)) then some false else JV a0 else JV a0 else bif !decide (a0.1=4) then bif !decide (a0.2.2.2=([]:List Int)) then some false else JV a0 else JV a0
def UC:Ctr:=⟨143,[QN],[.bool],fun x=>YY x.1⟩
def QbW:Kn:=⟨Tryz.f143,[([1,3],[.keep 0 1,.boxd 0 1 QN]),([1,8],[.keep 0 1,.keep 0 29,.keep 0 40,.boxd 0 1 QN])],[],[QbV,Hc,Qcr,QjT]⟩
abbrev Yx (x1:YT) (n:Nat):Option Bool:=LD_ QbW UC [1,3] [.ptr 0 1 0,.agg (Qm QN x1)] n
abbrev El (x1:Int) (x2:Bool) (x3:YT) (n:Nat):Option Bool:=LD_ QbW UC [1,8] [.ptr 0 1 0,.d I64 x1,.d .bool x2,.agg (Qm QN x3)] n
theorem Qdz {x1 x2 x3}:Cm (HK x1 x2 x3) (El x1 x2 x3) :=
 Jk (fun n=>(by kernel_rfl:_ =
  bif x2 then
   some true
  else
   bif decide (x1=3) then
    bif decide (x3.2.1=0) then
     bif decide ((x3.2.2.1.length:Int)≤200) then
      (Gb x3.2.2.1).bind fun y1 =>
      some y1
     else
      some false
    else
     some false
   else
    bif decide (x1=4) then
     bif decide (x3.2.1=0) then
      (Zc x3.2.2.2).bind fun y2 =>
      bif y2 then
       bif decide ((1:Int)≤(x3.2.2.1.length:Int)) then
        bif decide ((x3.2.2.1.length:Int)≤200) then
         (Gb x3.2.2.1).bind fun y3 =>
         some y3
        else
         some false
       else
        some false
      else
       some false
     else
      some false
    else
     bif decide (x1=6) then
      bif decide (x3.2.1<0) then
       some false
      else
       (UO 32).bind fun y4 =>
       bif decide (IntKind.wrap .i64 (y4 - 1)<IntKind.wrap .i64 (Int.tdiv x3.2.1 64)) then
        some false
       else
        bif decide ((32:Int)<Int.tmod x3.2.1 64) then
         some false
        else
         (Ws x3).bind fun y5 =>
         bif decide (y5.2=0) then none else
         some (decide (Int.tmod y5.1 y5.2=0))
     else
      bif decide (x1=7) then
       bif decide (((-100000000000):Int)≤x3.2.1) then
        some (decide (x3.2.1≤100000000000))
       else
        some false
      else
       some false))
 (Qd Qb (Qd (Qd (Qd (Qo fun y1=>Qb) Qb) Qb) (Qd (Qd (Qo fun y2=>(Qd (Qd (Qd (Qo fun y3=>Qb) Qb) Qb) Qb)) Qb) (Qd (Qd Qb (Qo fun y4=>(Qd Qb (Qd Qb (Qo fun y5=>(Qd QC Qb)))))) (Qd (Qd Qb Qb) Qb)))))
theorem VM {x1}:Cm (JV x1) (Yx x1) :=
 Jk (fun n=>(by kernel_rfl:_ =
  bif decide (x1.1=1) then
   bif decide (x1.2.1=0) then
    some true
   else
    some (decide (x1.2.1=1))
  else
   bif decide (x1.1=2) then
    El x1.1 (decide (x1.1=2)) x1 n
   else
    El x1.1 (decide (x1.1=5)) x1 n))
 (Qd (Qd Qb Qb) (Qd Qdz Qdz))
theorem QgX:Ok_ UC:=okD QbW (by kernel_rfl) (Qc Qn2 (Qc WW (Qc QjS (Qc Qra Qk))))
 fun ⟨a0,_⟩=>QX (fun n=>(by kernel_rfl:_ =
  bif !decide (a0.1=3) then
   bif !decide (a0.1=4) then
    bif !decide (a0.2.2.1=([]:List Int)) then
     some false
    else
     bif !decide (a0.1=4) then
      bif !decide (a0.2.2.2=([]:List Int)) then
       some false
      else
       Yx a0 n
     else
      Yx a0 n
   else
    bif !decide (a0.1=4) then
     bif !decide (a0.2.2.2=([]:List Int)) then
      some false
     else
      Yx a0 n
    else
     Yx a0 n
  else
   bif !decide (a0.1=4) then
    bif !decide (a0.2.2.2=([]:List Int)) then
     some false
    else
     Yx a0 n
   else
    Yx a0 n))
 (Qd (Qd (Qd Qb (Qd (Qd Qb VM) VM)) (Qd (Qd Qb VM) VM)) (Qd (Qd Qb VM) VM))
def Vv (x1:Int) (x2:Bool) (x3:Vs):Option Bool:=bif x2 then bif decide (x1=2) then some true else bif decide (x1=3) then some true else bif decide (x1=5) then some true else some (decide (x1=7)) else bif decide (x3.2.1=4) then some (decide (x1=6)) else some false
def Vw (x1:Int) (x2:Vs) (x3:ZP):Option Bool:=bif !decide (x1=x3.2) then some false else bif decide (x2.2.1=1) then some true else bif decide (x2.2.1=2) then Vv x1 (decide (x2.2.1=2)) x2 else Vv x1 (decide (x2.2.1=3)) x2
def Hj (a0:Vs) (a1:(List ZP)):Option Bool:=(Gt a1 a0.1).bind fun y1=>bif !(y1.2) then some false else bif !decide (a0.2.2.1=([]:List Int)) then (Gt a1 a0.2.2.1).bind fun y2=>bif !(y2.2) then some false else bif !@decide (a0.2.2.2=(0,0,([]:List Int),([]:List Int))) (Ty.decEq QN a0.2.2.2 (0,0,([]:List Int),([]:List Int))) then some false else Vw y2.1.2 a0 y1.1 else (YY a0.2.2.2).bind fun y3=>bif !(y3) then some false else Vw a0.2.2.2.1 a0 y1.1
def U2:Ctr:=⟨90,[QP,(.list QO)],[.bool],fun x=>Hj x.1 x.2.1⟩
def E4:Kn:=⟨Tryz.f90,[([1,12],[.keep 0 2,.keep 0 5,.keep 0 7,.boxd 0 2 QP,.boxd 0 5 QO]),([1,19],[.keep 0 2,.keep 0 7,.keep 0 54,.boxd 0 2 QP])],[],[QaL,UC]⟩
abbrev Un (x1:Int) (x2:Vs) (x3:ZP) (n:Nat):Option Bool:=LD_ E4 U2 [1,12] [.ptr 0 2 0,.ptr 0 5 0,.d I64 x1,.agg (Qm QP x2),.agg (Qm QO x3)] n
abbrev Uo (x1:Int) (x2:Bool) (x3:Vs) (n:Nat):Option Bool:=LD_ E4 U2 [1,19] [.ptr 0 2 0,.d I64 x1,.d .bool x2,.agg (Qm QP x3)] n
theorem QaN {x1 x2 x3}:Cm (Vv x1 x2 x3) (Uo x1 x2 x3) :=
 Jk (fun n=>(by kernel_rfl:_ =
  bif x2 then
   bif decide (x1=2) then
    some true
   else
    bif decide (x1=3) then
     some true
    else
     bif decide (x1=5) then
      some true
     else
      some (decide (x1=7))
  else
   bif decide (x3.2.1=4) then
    some (decide (x1=6))
   else
    some false))
 (Qd (Qd Qb (Qd Qb (Qd Qb Qb))) (Qd Qb Qb))
theorem QaO {x1 x2 x3}:Cm (Vw x1 x2 x3) (Un x1 x2 x3) :=
 Jk (fun n=>(by kernel_rfl:_ =
  bif !decide (x1=x3.2) then
   some false
  else
   bif decide (x2.2.1=1) then
    some true
   else
    bif decide (x2.2.1=2) then
     Uo x1 (decide (x2.2.1=2)) x2 n
    else
     Uo x1 (decide (x2.2.1=3)) x2 n))
 (Qd Qb (Qd Qb (Qd QaN QaN)))
theorem QmR:Ok_ U2:=okD E4 (by kernel_rfl) (Qc Qit (Qc QgX Qk))
 fun ⟨a0,a1,_⟩=>QX (fun n=>(by kernel_rfl:_ =
  (Gt a1 a0.1).bind fun y1 =>
  bif !(y1.2) then
   some false
  else
   bif !decide (a0.2.2.1=([]:List Int)) then
    (Gt a1 a0.2.2.1).bind fun y2 =>
    bif !(y2.2) then
     some false
    else
     bif !@decide (a0.2.2.2=(0,0,([]:List Int),([]:List Int))) (Ty.decEq QN a0.2.2.2 (0,0,([]:List Int),([]:List Int))) then
      some false
     else
      Un y2.1.2 a0 y1.1 n
   else
    (YY a0.2.2.2).bind fun y3 =>
    bif !(y3) then
     some false
    else
     Un a0.2.2.2.1 a0 y1.1 n))
 (Qo fun y1=>(Qd Qb (Qd (Qo fun y2=>(Qd Qb (Qd Qb QaO))) (Qo fun y3=>(Qd Qb QaO)))))
def Vx (x4:Q0):List Vs→Option Bool | []=>some true | e::rest=>(Hj (e) x4.2.1).bind fun y4=>bif !(y4) then some false else Vx x4 rest
def JX (x4:Q0):List ZP→Nat→Option Bool | [],k=>QV x4.2.2 (Vx x4 x4.2.2) | e::rest,k=>(Zc ((e).1)).bind fun y2=>bif !(y2) then some false else bif decide ((e).1=([116,114,117,101]:List Int)) then some false else bif decide ((e).1=([102,97,108,115,101]:List Int)) then some false else bif decide ((e).2<1) then some false else bif decide ((7:Int)<(e).2) then some false else bif decide ((0:Int)<(k:Int)) then bif inB (IntKind.wrap .i64 ((k:Int) - 1)) x4.2.1.length then (QW ((rd x4.2.1 (IntKind.wrap .i64 ((k:Int) - 1)) (Ty.dflt QO)).1) ((e).1)).bind fun y3=>bif decide ((0:Int)≤y3) then some false else JX x4 rest (k+1) else none else JX x4 rest (k+1)
def Hk (a0:Q0):Option Bool:=(Zc a0.1).bind fun y1=>bif !(y1) then some false else bif decide ((a0.2.1.length:Int)<1) then some false else bif decide ((6:Int)<(a0.2.1.length:Int)) then some false else bif decide ((a0.2.2.length:Int)<1) then some false else bif decide ((6:Int)<(a0.2.2.length:Int)) then some false else QV a0.2.1 (JX a0 a0.2.1 0)
def U3:Ctr:=⟨44,[QB],[.bool],fun x=>Hk x.1⟩
def E5:Kn:=⟨Tryz.f44,[([0,4],[.keep 0 1,.keep 0 36,.keep 0 37,.keep 0 38,.boxd 0 1 QB]),([0,10],[.keep 0 1,.keep 0 86,.keep 0 87,.keep 0 88,.boxd 0 1 QB])],[],[Hc,Vb,U2]⟩
abbrev XW (x1:(List ZP)) (x2:Int) (x4:Q0) (x3:Int) (n:Nat):Option Bool:=LD_ E5 U3 [0,4] [.ptr 0 1 0,.d (.list QO) x1,.d I64 x2,.d I64 x3,.agg (Qm QB x4)] n
abbrev Up (x1:(List Vs)) (x2:Int) (x4:Q0) (x3:Int) (n:Nat):Option Bool:=LD_ E5 U3 [0,10] [.ptr 0 1 0,.d (.list QP) x1,.d I64 x2,.d I64 x3,.agg (Qm QB x4)] n
theorem QhZ {x1 x4} (hl:Z2 x1):Jy x1 (fun r _=>Vx x4 r) (Up x1 (x1.length:Int) x4) :=
 JN (d:=(Ty.dflt QP)) hl (fun x3 n=>(by kernel_rfl:_ =
  bif decide (x3<(x1.length:Int)) then
   bif inB x3 x1.length then
    (Hj (rd x1 x3 (Ty.dflt QP)) x4.2.1).bind fun y4 =>
    bif !(y4) then
     some false
    else
     Up x1 (x1.length:Int) x4 (QL x3) n
   else none
  else
   some true))
 (fun _=>Qb)
 (fun k _ q i=>(QI q (Qo fun y4=>(Qd Qb i))))
theorem QiX {x1 x4} (hl:Z2 x1):Jy x1 (JX x4) (XW x1 (x1.length:Int) x4) :=
 JN (d:=(Ty.dflt QO)) hl (fun x3 n=>(by kernel_rfl:_ =
  bif decide (x3<(x1.length:Int)) then
   bif inB x3 x1.length then
    (Zc ((rd x1 x3 (Ty.dflt QO)).1)).bind fun y2 =>
    bif !(y2) then
     some false
    else
     bif decide ((rd x1 x3 (Ty.dflt QO)).1=([116,114,117,101]:List Int)) then
      some false
     else
      bif decide ((rd x1 x3 (Ty.dflt QO)).1=([102,97,108,115,101]:List Int)) then
       some false
      else
       bif decide ((rd x1 x3 (Ty.dflt QO)).2<1) then
        some false
       else
        bif decide ((7:Int)<(rd x1 x3 (Ty.dflt QO)).2) then
         some false
        else
         bif decide ((0:Int)<x3) then
          bif inB (IntKind.wrap .i64 (x3 - 1)) x4.2.1.length then
           (QW ((rd x4.2.1 (IntKind.wrap .i64 (x3 - 1)) (Ty.dflt QO)).1) ((rd x1 x3 (Ty.dflt QO)).1)).bind fun y3 =>
           bif decide ((0:Int)≤y3) then
            some false
           else
            XW x1 (x1.length:Int) x4 (QL x3) n
          else none
         else
          XW x1 (x1.length:Int) x4 (QL x3) n
   else none
  else
   Up x4.2.2 (x4.2.2.length:Int) x4 0 n))
 (fun _=>(QD fun l=>QhZ l _ 0 rfl))
 (fun k _ q i=>(QI q (Qo fun y2=>(Qd Qb (Qd Qb (Qd Qb (Qd Qb (Qd Qb (Qd (Qd (Qo fun y3=>(Qd Qb i)) QC) i)))))))))
theorem QmS:Ok_ U3:=okD E5 (by kernel_rfl) (Qc WW (Qc GI (Qc QmR Qk)))
 fun ⟨a0,_⟩=>QX (fun n=>(by kernel_rfl:_ =
  (Zc a0.1).bind fun y1 =>
  bif !(y1) then
   some false
  else
   bif decide ((a0.2.1.length:Int)<1) then
    some false
   else
    bif decide ((6:Int)<(a0.2.1.length:Int)) then
     some false
    else
     bif decide ((a0.2.2.length:Int)<1) then
      some false
     else
      bif decide ((6:Int)<(a0.2.2.length:Int)) then
       some false
      else
       XW a0.2.1 (a0.2.1.length:Int) a0 0 n))
 (Qo fun y1=>(Qd Qb (Qd Qb (Qd Qb (Qd Qb (Qd Qb (QD fun l=>QiX l _ 0 rfl)))))))
def Hl (x1:(List Int)):List Qf→Option (Qf × Bool) | []=>some ((([]:List Int),[],[]),false) | e::rest=>bif decide ((e).1=x1) then some ((e),true) else Hl x1 rest
def Xt (a0:Qa) (a1:(List Int)):Option (Qf × Bool):=QV a0.2 (Hl a1 a0.2)
def EC:Ctr:=⟨48,[Qe,.str],[Qj,.bool],fun x=>Xt x.1 x.2.1⟩
def QjU:Kn:=⟨Tryz.f48,[([0,2],[.keep 0 1,.keep 0 4,.keep 0 9,.keep 0 10,.keep 0 11,.boxd 0 4 Qj])],[],[]⟩
abbrev QaP (x1:(List Int)) (x2:(List Qf)) (x3:Int) (x5:Qf) (x4:Int) (n:Nat):Option (Qf × Bool):=LD_ QjU EC [0,2] [.d .str x1,.ptr 0 4 0,.d (.list Qj) x2,.d I64 x3,.d I64 x4,.agg (Qm Qj x5)] n
theorem Qn4 {x1 x2 x5} (hl:Z2 x2):Jy x2 (fun r _=>Hl x1 r) (QaP x1 x2 (x2.length:Int) x5) :=
 JN (d:=(Ty.dflt Qj)) hl (fun x4 n=>(by kernel_rfl:_ =
  bif decide (x4<(x2.length:Int)) then
   bif inB x4 x2.length then
    bif decide ((rd x2 x4 (Ty.dflt Qj)).1=x1) then
     some ((rd x2 x4 (Ty.dflt Qj)),true)
    else
     QaP x1 x2 (x2.length:Int) x5 (QL x4) n
   else none
  else
   some ((([]:List Int),[],[]),false)))
 (fun _=>Qb)
 (fun k _ q i=>(QI q (Qd Qb i)))
theorem Qey:Ok_ EC:=okD QjU (by kernel_rfl) Qk
 fun ⟨a0,a1,_⟩=>QX (fun n=>(by kernel_rfl:_ =
  QaP a1 a0.2 (a0.2.length:Int) (([]:List Int),[],[]) 0 n))
 (QD fun l=>Qn4 l _ 0 rfl)
def V8 (x1:(List Int)):List Qv→Option (Qv × Bool) | []=>some ((([]:List Int),[]),false) | e::rest=>bif decide ((e).1=x1) then some ((e),true) else V8 x1 rest
def Zh (a0:Qf) (a1:(List Int)):Option (Qv × Bool):=QV a0.2.1 (V8 a1 a0.2.1)
def Vy:Ctr:=⟨49,[Qj,.str],[Qr,.bool],fun x=>Zh x.1 x.2.1⟩
def Qez:Kn:=⟨Tryz.f49,[([0,2],[.keep 0 1,.keep 0 4,.keep 0 9,.keep 0 10,.keep 0 11,.boxd 0 4 Qr])],[],[]⟩
abbrev UV (x1:(List Int)) (x2:(List Qv)) (x3:Int) (x5:Qv) (x4:Int) (n:Nat):Option (Qv × Bool):=LD_ Qez Vy [0,2] [.d .str x1,.ptr 0 4 0,.d (.list Qr) x2,.d I64 x3,.d I64 x4,.agg (Qm Qr x5)] n
theorem QiY {x1 x2 x5} (hl:Z2 x2):Jy x2 (fun r _=>V8 x1 r) (UV x1 x2 (x2.length:Int) x5) :=
 JN (d:=(Ty.dflt Qr)) hl (fun x4 n=>(by kernel_rfl:_ =
  bif decide (x4<(x2.length:Int)) then
   bif inB x4 x2.length then
    bif decide ((rd x2 x4 (Ty.dflt Qr)).1=x1) then
     some ((rd x2 x4 (Ty.dflt Qr)),true)
    else
     UV x1 x2 (x2.length:Int) x5 (QL x4) n
   else none
  else
   some ((([]:List Int),[]),false)))
 (fun _=>Qb)
 (fun k _ q i=>(QI q (Qd Qb i)))
theorem XH:Ok_ Vy:=okD Qez (by kernel_rfl) Qk
 fun ⟨a0,a1,_⟩=>QX (fun n=>(by kernel_rfl:_ =
  UV a1 a0.2.1 (a0.2.1.length:Int) (([]:List Int),[]) 0 n))
 (QD fun l=>QiY l _ 0 rfl)
def Vc (x1:(List Int)):List Qq→Option (Qq × Bool) | []=>some ((([]:List Int),[]),false) | e::rest=>bif decide ((e).1=x1) then some ((e),true) else Vc x1 rest
def HL (a0:Qf) (a1:(List Int)):Option (Qq × Bool):=QV a0.2.2 (Vc a1 a0.2.2)
def Em:Ctr:=⟨144,[Qj,.str],[Qp,.bool],fun x=>HL x.1 x.2.1⟩
def QcL:Kn:=⟨Tryz.f144,[([0,2],[.keep 0 1,.keep 0 4,.keep 0 9,.keep 0 10,.keep 0 11,.boxd 0 4 Qp])],[],[]⟩
abbrev HU (x1:(List Int)) (x2:(List Qq)) (x3:Int) (x5:Qq) (x4:Int) (n:Nat):Option (Qq × Bool):=LD_ QcL Em [0,2] [.d .str x1,.ptr 0 4 0,.d (.list Qp) x2,.d I64 x3,.d I64 x4,.agg (Qm Qp x5)] n
theorem QgY {x1 x2 x5} (hl:Z2 x2):Jy x2 (fun r _=>Vc x1 r) (HU x1 x2 (x2.length:Int) x5) :=
 JN (d:=(Ty.dflt Qp)) hl (fun x4 n=>(by kernel_rfl:_ =
  bif decide (x4<(x2.length:Int)) then
   bif inB x4 x2.length then
    bif decide ((rd x2 x4 (Ty.dflt Qp)).1=x1) then
     some ((rd x2 x4 (Ty.dflt Qp)),true)
    else
     HU x1 x2 (x2.length:Int) x5 (QL x4) n
   else none
  else
   some ((([]:List Int),[]),false)))
 (fun _=>Qb)
 (fun k _ q i=>(QI q (Qd Qb i)))
theorem QjV:Ok_ Em:=okD QcL (by kernel_rfl) Qk
 fun ⟨a0,a1,_⟩=>QX (fun n=>(by kernel_rfl:_ =
  HU a1 a0.2.2 (a0.2.2.length:Int) (([]:List Int),[]) 0 n))
 (QD fun l=>QgY l _ 0 rfl)
def Vz (a0:Qa) (a1:(List Int)) (a2:(List Int)):Option Bool:=(Xt a0 a1).bind fun y1=>(Zh y1.1 a2).bind fun y2=>(HL y1.1 a2).bind fun y3=>bif y1.2 then bif y2.2 then some true else some y3.2 else some false
def QaQ:Ctr:=⟨92,[Qe,.str,.str],[.bool],fun x=>Vz x.1 x.2.1 x.2.2.1⟩
theorem Qda:Ok_ QaQ:=okS ⟨Tryz.f92,[],[],[EC,Vy,Em]⟩ (by kernel_rfl) (Qc Qey (Qc XH (Qc QjV Qk))) fun _=>by kernel_rfl
def Yy (a0:Qx) (a1:Qx):Option Int:=(QW a0.1 a1.1).bind fun y1=>bif !decide (y1=0) then some y1 else (QW a0.2.1 a1.2.1).bind fun y2=>bif !decide (y2=0) then some y2 else bif a0.2.2.1 != a1.2.2.1 then bif a1.2.2.1 then some (-1) else some 1 else (QW a0.2.2.2 a1.2.2.2).bind fun y3=>some y3
def QdA:Ctr:=⟨93,[Qg,Qg],[I64],fun x=>Yy x.1 x.2.1⟩
theorem QjW:Ok_ QdA:=okS ⟨Tryz.f93,[],[],[Vb]⟩ (by kernel_rfl) (Qc GI Qk) fun _=>by kernel_rfl
def G6 (x1:(List Int)):List Q0→Option (Q0 × Bool) | []=>some ((([]:List Int),[],[]),false) | e::rest=>bif decide ((e).1=x1) then some ((e),true) else G6 x1 rest
def GT (a0:Qa) (a1:(List Int)):Option (Q0 × Bool):=QV a0.1 (G6 a1 a0.1)
def EQ:Ctr:=⟨52,[Qe,.str],[QB,.bool],fun x=>GT x.1 x.2.1⟩
def QgZ:Kn:=⟨Tryz.f52,[([0,2],[.keep 0 1,.keep 0 4,.keep 0 9,.keep 0 10,.keep 0 11,.boxd 0 4 QB])],[],[]⟩
abbrev En (x1:(List Int)) (x2:(List Q0)) (x3:Int) (x5:Q0) (x4:Int) (n:Nat):Option (Q0 × Bool):=LD_ QgZ EQ [0,2] [.d .str x1,.ptr 0 4 0,.d (.list QB) x2,.d I64 x3,.d I64 x4,.agg (Qm QB x5)] n
theorem Qli {x1 x2 x5} (hl:Z2 x2):Jy x2 (fun r _=>G6 x1 r) (En x1 x2 (x2.length:Int) x5) :=
 JN (d:=(Ty.dflt QB)) hl (fun x4 n=>(by kernel_rfl:_ =
  bif decide (x4<(x2.length:Int)) then
   bif inB x4 x2.length then
    bif decide ((rd x2 x4 (Ty.dflt QB)).1=x1) then
     some ((rd x2 x4 (Ty.dflt QB)),true)
    else
     En x1 x2 (x2.length:Int) x5 (QL x4) n
   else none
  else
   some ((([]:List Int),[],[]),false)))
 (fun _=>Qb)
 (fun k _ q i=>(QI q (Qd Qb i)))
theorem Qg0:Ok_ EQ:=okD QgZ (by kernel_rfl) Qk
 fun ⟨a0,a1,_⟩=>QX (fun n=>(by kernel_rfl:_ =
  En a1 a0.1 (a0.1.length:Int) (([]:List Int),[],[]) 0 n))
 (QD fun l=>Qli l _ 0 rfl)
def Ju (Rc:(List Qz)→Int→Int→Option (Zt × Int)) (x1:(List Qz)) (x3:Int):Nat→Int→Int→(List Zt)→Zt→Option (Zt × Int) | 0,_,_,_,_=>none | m+1,x2,x4,x6,x7=>bif decide (x4<2) then (Rc x1 x2 (IntKind.wrap .i64 (x3+1))).bind fun y1=>bif decide (y1.2<0) then some ((Tree.node (0,([]:List Int),([]:List Int)) ([])),(-1)) else bif decide (((x6.length:Int)+(([(Tree.node y1.1.val y1.1.kids)]:List Zt).length:Int))*64≤Q4)&&decide ((x6.length:Int)+(([(Tree.node y1.1.val y1.1.kids)]:List Zt).length:Int)≤Q4) then Ju Rc x1 x3 m y1.2 (IntKind.wrap .i64 (x4+1)) (x6++([(Tree.node y1.1.val y1.1.kids)]:List Zt)) (Tree.node x7.val (x6++([(Tree.node y1.1.val y1.1.kids)]:List Zt))) else none else some ((Tree.node x7.val x6),x2)
def QaR (Rc:(List Qz)→Int→Int→Option (Zt × Int)) (m:Nat) (x1:(List Qz)) (x2:Int) (x3:Int):Option (Zt × Int):=bif inB x2 x1.length then bif !decide ((rd x1 x2 (Ty.dflt Ql)).1=3) then bif !decide ((rd x1 x2 (Ty.dflt Ql)).1=4) then bif !decide ((rd x1 x2 (Ty.dflt Ql)).1=5) then some ((Tree.node (rd x1 x2 (Ty.dflt Ql)) ([])),IntKind.wrap .i64 (x2+1)) else Ju Rc x1 x3 m (IntKind.wrap .i64 (x2+1)) 0 [] (Tree.node (rd x1 x2 (Ty.dflt Ql)) ([])) else Ju Rc x1 x3 m (IntKind.wrap .i64 (x2+1)) 0 [] (Tree.node (rd x1 x2 (Ty.dflt Ql)) ([])) else Ju Rc x1 x3 m (IntKind.wrap .i64 (x2+1)) 0 [] (Tree.node (rd x1 x2 (Ty.dflt Ql)) ([])) else none
def Qgl (Rc:(List Qz)→Int→Int→Option (Zt × Int)) (m:Nat) (a0:(List Qz)) (a1:Int) (a2:Int):Option (Zt × Int):=bif decide ((a0.length:Int)≤a1) then some ((Tree.node (0,([]:List Int),([]:List Int)) ([])),(-1)) else bif decide ((10:Int)<a2) then some ((Tree.node (0,([]:List Int),([]:List Int)) ([])),(-1)) else QaR Rc m a0 a1 a2
def Xu:Nat→(List Qz)→Int→Int→Option (Zt × Int) | 0=>fun _ _ _=>none | d+1=>fun a0 a1 a2=>QaF fun m=>Qgl (Xu d) m a0 a1 a2
def Qgm (a0:(List Qz)) (a1:Int) (a2:Int):Option (Zt × Int):=QaF fun d=>Xu d a0 a1 a2
def Qcs:Ctr:=⟨145,[(.list Ql),I64,I64],[YU,I64],fun x=>Qgm x.1 x.2.1 x.2.2.1⟩
def QeA (Rc:(List Qz)→Int→Int→Option (Zt × Int)):Kn:=⟨Tryz.f145,[([1,3],[.keep 0 0,.keep 0 1,.keep 0 2,.keep 0 6,.boxd 0 6 YU]),([0,9],[.keep 0 0,.keep 0 1,.keep 0 2,.keep 0 6,.keep 0 8,.keep 0 10,.boxd 0 6 YU,.ownb 0 8 3 YU,.boxd 0 8 YU])],[],[⟨145,[(.list Ql),I64,I64],[YU,I64],fun x=>Rc x.1 x.2.1 x.2.2.1⟩]⟩
abbrev QfN (Rc:(List Qz)→Int→Int→Option (Zt × Int)) (x1:(List Qz)) (x2:Int) (x3:Int) (x4:Zt) (n:Nat):Option (Zt × Int):=LD_ (QeA Rc) Qcs [1,3] [.d (.list Ql) x1,.d I64 x2,.d I64 x3,.ptr 0 6 0,.agg (Qm YU x4)] n
abbrev Hm (Rc:(List Qz)→Int→Int→Option (Zt × Int)) (x1:(List Qz)) (x3:Int) (x2:Int) (x4:Int) (x5:Zt) (x6:(List Zt)) (x7:Zt) (n:Nat):Option (Zt × Int):=LD_ (QeA Rc) Qcs [0,9] [.d (.list Ql) x1,.d I64 x2,.d I64 x3,.ptr 0 6 0,.ptr 0 8 0,.d I64 x4,.agg (Qm YU x5),.own 0 YU x6,.agg (Qm YU x7)] n
theorem QaS {Rc:(List Qz)→Int→Int→Option (Zt × Int)} {x1 x3}:∀ m x2 x4 x5 x6 x7,Cm (Ju Rc x1 x3 m x2 x4 x6 x7) (Hm Rc x1 x3 x2 x4 x5 x6 x7) :=
 QBZ (p:=(fun m x2 x4 x5 x6 x7=>Ju Rc x1 x3 m x2 x4 x6 x7)) (fun x2 x4 x5 x6 x7 n=>(by kernel_rfl:_ =
  bif decide (x4<2) then
   (Rc x1 x2 (IntKind.wrap .i64 (x3+1))).bind fun y1 =>
   bif decide (y1.2<0) then
    some ((Tree.node (0,([]:List Int),([]:List Int)) ([])),(-1))
   else
    bif decide (((x6.length:Int)+(([(Tree.node y1.1.val y1.1.kids)]:List Zt).length:Int))*64≤Q4)&&decide ((x6.length:Int)+(([(Tree.node y1.1.val y1.1.kids)]:List Zt).length:Int)≤Q4) then
     Hm Rc x1 x3 y1.2 (QL x4) (Tree.node x5.val x5.kids) (x6++([(Tree.node y1.1.val y1.1.kids)]:List Zt)) (Tree.node x7.val (x6++([(Tree.node y1.1.val y1.1.kids)]:List Zt))) n
    else none
  else
   some ((Tree.node x7.val x6),x2)))
 (fun _ _ _ _ _=>rfl)
 (fun m i x2 x4 x5 x6 x7=>(Qd (Qo fun y1=>(Qd Qb (Qd (i _ _ _ _ _) QC))) Qb))
theorem Qn5 {Rc:(List Qz)→Int→Int→Option (Zt × Int)} {m:Nat} {x1 x2 x3 x4}:Cm (QaR Rc m x1 x2 x3) (QfN Rc x1 x2 x3 x4) :=
 Jk (fun n=>(by kernel_rfl:_ =
  bif inB x2 x1.length then
   bif !decide ((rd x1 x2 (Ty.dflt Ql)).1=3) then
    bif !decide ((rd x1 x2 (Ty.dflt Ql)).1=4) then
     bif !decide ((rd x1 x2 (Ty.dflt Ql)).1=5) then
      some ((Tree.node (rd x1 x2 (Ty.dflt Ql)) ([])),IntKind.wrap .i64 (x2+1))
     else
      Hm Rc x1 x3 (QL x2) 0 (Tree.node x4.val x4.kids) [] (Tree.node (rd x1 x2 (Ty.dflt Ql)) ([])) n
    else
     Hm Rc x1 x3 (QL x2) 0 (Tree.node x4.val x4.kids) [] (Tree.node (rd x1 x2 (Ty.dflt Ql)) ([])) n
   else
    Hm Rc x1 x3 (QL x2) 0 (Tree.node x4.val x4.kids) [] (Tree.node (rd x1 x2 (Ty.dflt Ql)) ([])) n
  else none))
 (Qd (Qd (Qd (Qd Qb (QaS _ _ _ _ _ _)) (QaS _ _ _ _ _ _)) (QaS _ _ _ _ _ _)) QC)
theorem Qs4:Ok_ Qcs:=okR (tys:=[(.list Ql),I64,I64]) (rets:=[YU,I64]) (f:=fun d x=>Xu d x.1 x.2.1 x.2.2.1) (fun _=>rfl) fun d ih=>okD (QeA (Xu d)) (by kernel_rfl) (Qc ih Qk)
 fun ⟨a0,a1,a2,_⟩=>QmO fun m=>QX (fun n=>(by kernel_rfl:_ =
  bif decide ((a0.length:Int)≤a1) then
   some ((Tree.node (0,([]:List Int),([]:List Int)) ([])),(-1))
  else
   bif decide ((10:Int)<a2) then
    some ((Tree.node (0,([]:List Int),([]:List Int)) ([])),(-1))
   else
    QfN (Xu d) a0 a1 a2 (Tree.node (0,([]:List Int),([]:List Int)) ([])) n))
 (Qd Qb (Qd Qb Qn5))
def Vp (a0:(List Qz)):Option (Zt × Bool):=bif decide ((a0.length:Int)<1) then some ((Tree.node (0,([]:List Int),([]:List Int)) ([])),false) else bif decide ((30:Int)<(a0.length:Int)) then some ((Tree.node (0,([]:List Int),([]:List Int)) ([])),false) else (Qgm a0 0 1).bind fun y1=>some ((Tree.node y1.1.val y1.1.kids),decide (y1.2=(a0.length:Int)))
def Qct:Ctr:=⟨94,[(.list Ql)],[YU,.bool],fun x=>Vp x.1⟩
theorem QeB:Ok_ Qct:=okS ⟨Tryz.f94,[],[],[Qcs]⟩ (by kernel_rfl) (Qc Qs4 Qk) fun _=>by kernel_rfl
def HV (x1:(List Int)):List (List Int)→Option Bool | []=>some false | e::rest=>bif decide (e=x1) then some true else HV x1 rest
def QaT (a0:(List (List Int))) (a1:(List Int)):Option Bool:=QV a0 (HV a1 a0)
def Qh0:Ctr:=⟨183,[(.list .str),.str],[.bool],fun x=>QaT x.1 x.2.1⟩
def QlX:Kn:=⟨Tryz.f183,[([0,2],[.keep 0 1,.keep 0 7,.keep 0 8,.keep 0 9])],[],[]⟩
abbrev QbX (x1:(List Int)) (x2:(List (List Int))) (x3:Int) (x4:Int) (n:Nat):Option Bool:=LD_ QlX Qh0 [0,2] [.d .str x1,.d (.list .str) x2,.d I64 x3,.d I64 x4] n
theorem QpG {x1 x2} (hl:Z2 x2):Jy x2 (fun r _=>HV x1 r) (QbX x1 x2 (x2.length:Int)) :=
 JN (d:=(Ty.dflt .str)) hl (fun x4 n=>(by kernel_rfl:_ =
  bif decide (x4<(x2.length:Int)) then
   bif inB x4 x2.length then
    bif decide (rd x2 x4 (Ty.dflt .str)=x1) then
     some true
    else
     QbX x1 x2 (x2.length:Int) (QL x4) n
   else none
  else
   some false))
 (fun _=>Qb)
 (fun k _ q i=>(QI q (Qd Qb i)))
theorem Qt2:Ok_ Qh0:=okD QlX (by kernel_rfl) Qk
 fun ⟨a0,a1,_⟩=>QX (fun n=>(by kernel_rfl:_ =
  QbX a1 a0 (a0.length:Int) 0 n))
 (QD fun l=>QpG l _ 0 rfl)
def J3 (x1:(List Int)) (x6:Qa):List Qx→(List (List Int))→Option (List (List Int)) | [],x2=>some x2 | e::rest,x2=>bif decide (((e).2).1=([]:List Int)) then bif !((((e).2).2).1) then (Vz x6 ((e).1) x1).bind fun y1=>bif y1 then (QaT x2 ((e).1)).bind fun y2=>bif !(y2) then bif decide (((x2.length:Int)+(([(e).1]:List (List Int)).length:Int))*16≤Q4)&&decide ((x2.length:Int)+(([(e).1]:List (List Int)).length:Int)≤Q4) then J3 x1 x6 rest (x2++([(e).1]:List (List Int))) else none else J3 x1 x6 rest x2 else J3 x1 x6 rest x2 else J3 x1 x6 rest x2 else J3 x1 x6 rest x2
def HC (a0:Qa) (a1:Qv) (a2:(List Int)):Option (List (List Int)):=QV a1.2 (J3 a2 a0 a1.2 [])
def Qcu:Ctr:=⟨146,[Qe,Qr,.str],[(.list .str)],fun x=>HC x.1 x.2.1 x.2.2.1⟩
def QjX:Kn:=⟨Tryz.f146,[([0,3],[.keep 0 2,.keep 0 3,.own 0 7 .str,.keep 0 11,.keep 0 12,.keep 0 13,.boxd 0 3 Qe])],[],[QaQ,Qh0]⟩
abbrev VA (x1:(List Int)) (x3:(List Qx)) (x4:Int) (x6:Qa) (x5:Int) (x2:(List (List Int))) (n:Nat):Option (List (List Int)):=LD_ QjX Qcu [0,3] [.d .str x1,.ptr 0 3 0,.own 0 .str x2,.d (.list Qg) x3,.d I64 x4,.d I64 x5,.agg (Qm Qe x6)] n
theorem Qn6 {x1 x3 x6} (hl:Z2 x3):XF x3 (fun r _ x2=>J3 x1 x6 r x2) (VA x1 x3 (x3.length:Int) x6) :=
 X5 (d:=(Ty.dflt Qg)) hl (fun x5 x2 n=>(by kernel_rfl:_ =
  bif decide (x5<(x3.length:Int)) then
   bif inB x5 x3.length then
    bif decide (((rd x3 x5 (Ty.dflt Qg)).2).1=([]:List Int)) then
     bif !((((rd x3 x5 (Ty.dflt Qg)).2).2).1) then
      (Vz x6 ((rd x3 x5 (Ty.dflt Qg)).1) x1).bind fun y1 =>
      bif y1 then
       (QaT x2 ((rd x3 x5 (Ty.dflt Qg)).1)).bind fun y2 =>
       bif !(y2) then
        bif decide (((x2.length:Int)+(([(rd x3 x5 (Ty.dflt Qg)).1]:List (List Int)).length:Int))*16≤Q4)&&decide ((x2.length:Int)+(([(rd x3 x5 (Ty.dflt Qg)).1]:List (List Int)).length:Int)≤Q4) then
         VA x1 x3 (x3.length:Int) x6 (QL x5) (x2++([(rd x3 x5 (Ty.dflt Qg)).1]:List (List Int))) n
        else none
       else
        VA x1 x3 (x3.length:Int) x6 (QL x5) x2 n
      else
       VA x1 x3 (x3.length:Int) x6 (QL x5) x2 n
     else
      VA x1 x3 (x3.length:Int) x6 (QL x5) x2 n
    else
     VA x1 x3 (x3.length:Int) x6 (QL x5) x2 n
   else none
  else
   some x2))
 (fun _ x2=>Qb)
 (fun k _ q i x2=>(QI q (Qd (Qd (Qo fun y1=>(Qd (Qo fun y2=>(Qd (Qd (i _) QC) (i _))) (i _))) (i _)) (i _))))
theorem QjY:Ok_ Qcu:=okD QjX (by kernel_rfl) (Qc Qda (Qc Qt2 Qk))
 fun ⟨a0,a1,a2,_⟩=>QX (fun n=>(by kernel_rfl:_ =
  VA a2 a1.2 (a1.2.length:Int) a0 0 [] n))
 (QD fun l=>Qn6 l _ 0 rfl _)
def JH (Rc:Qa→Qf→Zt→Option Bool) (x1:Bool) (x2:Qa) (x3:Qf) (x4:Zt) (x5:Qz):Option Bool:=bif x1 then bif decide (x5.2.1=([]:List Int)) then bif decide (x5.2.2=([]:List Int)) then bif inB 0 x4.kids.length then (Rc x2 x3 (Tree.node ((rd x4.kids 0 (Ty.dflt YU)).val) ((rd x4.kids 0 (Ty.dflt YU)).kids))).bind fun y4=>bif y4 then bif inB 1 x4.kids.length then (Rc x2 x3 (Tree.node ((rd x4.kids 1 (Ty.dflt YU)).val) ((rd x4.kids 1 (Ty.dflt YU)).kids))).bind fun y5=>some y5 else none else some false else none else some false else some false else some false
def U4 (Rc:Qa→Qf→Zt→Option Bool) (a0:Qa) (a1:Qf) (a2:Zt):Option Bool:=bif decide (a2.val.1=6) then bif decide (a2.val.2.1=([]:List Int)) then some (decide (a2.val.2.2=([]:List Int))) else some false else bif decide (a2.val.1=1) then bif decide (a2.val.2.1=([]:List Int)) then (Vz a0 a1.1 a2.val.2.2).bind fun y1=>some y1 else some false else bif decide (a2.val.1=2) then (Zh a1 a2.val.2.1).bind fun y2=>bif y2.2 then (HC a0 y2.1 a2.val.2.2).bind fun y3=>some (decide ((0:Int)<(y3.length:Int))) else some false else bif decide (a2.val.1=3) then JH Rc (decide (a2.val.1=3)) a0 a1 (Tree.node a2.val a2.kids) a2.val else bif decide (a2.val.1=4) then JH Rc (decide (a2.val.1=4)) a0 a1 (Tree.node a2.val a2.kids) a2.val else JH Rc (decide (a2.val.1=5)) a0 a1 (Tree.node a2.val a2.kids) a2.val
def Z6:Nat→Qa→Qf→Zt→Option Bool | 0=>fun _ _ _=>none | d+1=>fun a0 a1 a2=>U4 (Z6 d) a0 a1 a2
def VB (a0:Qa) (a1:Qf) (a2:Zt):Option Bool:=QaF fun d=>Z6 d a0 a1 a2
def QaU:Ctr:=⟨95,[Qe,Qj,YU],[.bool],fun x=>VB x.1 x.2.1 x.2.2.1⟩
def QeC (Rc:Qa→Qf→Zt→Option Bool):Kn:=⟨Tryz.f95,[([1,13],[.keep 0 3,.keep 0 4,.keep 0 5,.keep 0 7,.keep 0 56,.boxd 0 3 Qe,.boxd 0 4 Qj,.boxd 0 5 YU,.boxd 0 7 Ql])],[],[QaQ,Vy,Qcu,⟨95,[Qe,Qj,YU],[.bool],fun x=>Rc x.1 x.2.1 x.2.2.1⟩]⟩
abbrev Xi (Rc:Qa→Qf→Zt→Option Bool) (x1:Bool) (x2:Qa) (x3:Qf) (x4:Zt) (x5:Qz) (n:Nat):Option Bool:=LD_ (QeC Rc) QaU [1,13] [.ptr 0 3 0,.ptr 0 4 0,.ptr 0 5 0,.ptr 0 7 0,.d .bool x1,.agg (Qm Qe x2),.agg (Qm Qj x3),.agg (Qm YU x4),.agg (Qm Ql x5)] n
theorem Uq {Rc:Qa→Qf→Zt→Option Bool} {x1 x2 x3 x4 x5}:Cm (JH Rc x1 x2 x3 x4 x5) (Xi Rc x1 x2 x3 x4 x5) :=
 Jk (fun n=>(by kernel_rfl:_ =
  bif x1 then
   bif decide (x5.2.1=([]:List Int)) then
    bif decide (x5.2.2=([]:List Int)) then
     bif inB 0 x4.kids.length then
      (Rc x2 x3 (Tree.node ((rd x4.kids 0 (Ty.dflt YU)).val) ((rd x4.kids 0 (Ty.dflt YU)).kids))).bind fun y4 =>
      bif y4 then
       bif inB 1 x4.kids.length then
        (Rc x2 x3 (Tree.node ((rd x4.kids 1 (Ty.dflt YU)).val) ((rd x4.kids 1 (Ty.dflt YU)).kids))).bind fun y5 =>
        some y5
       else none
      else
       some false
     else none
    else
     some false
   else
    some false
  else
   some false))
 (Qd (Qd (Qd (Qd (Qo fun y4=>(Qd (Qd (Qo fun y5=>Qb) QC) Qb)) QC) Qb) Qb) Qb)
theorem QmT:Ok_ QaU:=okR (tys:=[Qe,Qj,YU]) (rets:=[.bool]) (f:=fun d x=>Z6 d x.1 x.2.1 x.2.2.1) (fun _=>rfl) fun d ih=>okD (QeC (Z6 d)) (by kernel_rfl) (Qc Qda (Qc XH (Qc QjY (Qc ih Qk))))
 fun ⟨a0,a1,a2,_⟩=>QX (fun n=>(by kernel_rfl:_ =
  bif decide (a2.val.1=6) then
   bif decide (a2.val.2.1=([]:List Int)) then
    some (decide (a2.val.2.2=([]:List Int)))
   else
    some false
  else
   bif decide (a2.val.1=1) then
    bif decide (a2.val.2.1=([]:List Int)) then
     (Vz a0 a1.1 a2.val.2.2).bind fun y1 =>
     some y1
    else
     some false
   else
    bif decide (a2.val.1=2) then
     (Zh a1 a2.val.2.1).bind fun y2 =>
     bif y2.2 then
      (HC a0 y2.1 a2.val.2.2).bind fun y3 =>
      some (decide ((0:Int)<(y3.length:Int)))
     else
      some false
    else
     bif decide (a2.val.1=3) then
      Xi (Z6 d) (decide (a2.val.1=3)) a0 a1 (Tree.node a2.val a2.kids) a2.val n
     else
      bif decide (a2.val.1=4) then
       Xi (Z6 d) (decide (a2.val.1=4)) a0 a1 (Tree.node a2.val a2.kids) a2.val n
      else
       Xi (Z6 d) (decide (a2.val.1=5)) a0 a1 (Tree.node a2.val a2.kids) a2.val n))
 (Qd (Qd Qb Qb) (Qd (Qd (Qo fun y1=>Qb) Qb) (Qd (Qo fun y2=>(Qd (Qo fun y3=>Qb) Qb)) (Qd Uq (Qd Uq Uq)))))
def JI (K1:Option Bool) (x7:Qa) (x10:Qx):Option Bool:=(GT x7 x10.2.2.2).bind fun y7=>bif !(y7.2) then bif !decide (x10.2.2.2=([]:List Int)) then some false else K1 else K1
def Zw (K0:Option Bool) (x7:Qa) (x9:Qv):List Qx→Nat→Option Bool | [],k=>K0 | e::rest,k=>(Xt x7 ((e).1)).bind fun y4=>bif !(y4.2) then some false else bif !decide (((e).2).1=([]:List Int)) then bif (((e).2).2).1 then some false else (Vz x7 ((e).1) (((e).2).1)).bind fun y5=>bif !(y5) then some false else bif decide ((0:Int)<(k:Int)) then bif inB (IntKind.wrap .i64 ((k:Int) - 1)) x9.2.length then (Yy (rd x9.2 (IntKind.wrap .i64 ((k:Int) - 1)) (Ty.dflt Qg)) (e)).bind fun y6=>bif decide ((0:Int)≤y6) then some false else JI (Zw K0 x7 x9 rest (k+1)) x7 (e) else none else JI (Zw K0 x7 x9 rest (k+1)) x7 (e) else bif decide ((0:Int)<(k:Int)) then bif inB (IntKind.wrap .i64 ((k:Int) - 1)) x9.2.length then (Yy (rd x9.2 (IntKind.wrap .i64 ((k:Int) - 1)) (Ty.dflt Qg)) (e)).bind fun y8=>bif decide ((0:Int)≤y8) then some false else JI (Zw K0 x7 x9 rest (k+1)) x7 (e) else none else JI (Zw K0 x7 x9 rest (k+1)) x7 (e)
def JJ (x4:Qa) (x5:Qf):List Qq→Nat→Option Bool | [],k=>some true | e::rest,k=>(Vp ((e).2)).bind fun y9=>(Zc ((e).1)).bind fun y10=>bif !(y10) then some false else bif decide ((e).1=([110,105,108]:List Int)) then some false else bif decide ((0:Int)<(k:Int)) then bif inB (IntKind.wrap .i64 ((k:Int) - 1)) x5.2.2.length then (QW ((rd x5.2.2 (IntKind.wrap .i64 ((k:Int) - 1)) (Ty.dflt Qp)).1) ((e).1)).bind fun y11=>bif decide ((0:Int)≤y11) then some false else bif !(y9.2) then some false else (VB x4 x5 (Tree.node y9.1.val y9.1.kids)).bind fun y12=>bif !(y12) then some false else (Zh x5 ((e).1)).bind fun y13=>bif y13.2 then some false else JJ x4 x5 rest (k+1) else none else bif !(y9.2) then some false else (VB x4 x5 (Tree.node y9.1.val y9.1.kids)).bind fun y14=>bif !(y14) then some false else (Zh x5 ((e).1)).bind fun y15=>bif y15.2 then some false else JJ x4 x5 rest (k+1)
def JY (x4:Qa) (x5:Qf):List Qv→Nat→Option Bool | [],k=>QV x5.2.2 (JJ x4 x5 x5.2.2 0) | e::rest,k=>(Zc ((e).1)).bind fun y2=>bif !(y2) then some false else bif decide ((e).1=([110,105,108]:List Int)) then some false else bif decide ((0:Int)<(k:Int)) then bif inB (IntKind.wrap .i64 ((k:Int) - 1)) x5.2.1.length then (QW ((rd x5.2.1 (IntKind.wrap .i64 ((k:Int) - 1)) (Ty.dflt Qr)).1) ((e).1)).bind fun y3=>bif decide ((0:Int)≤y3) then some false else bif decide ((((e).2).length:Int)<1) then some false else bif decide ((8:Int)<(((e).2).length:Int)) then some false else QV ((e).2) (Zw (JY x4 x5 rest (k+1)) x4 (e) ((e).2) 0) else none else bif decide ((((e).2).length:Int)<1) then some false else bif decide ((8:Int)<(((e).2).length:Int)) then some false else QV ((e).2) (Zw (JY x4 x5 rest (k+1)) x4 (e) ((e).2) 0)
def Hn (a0:Qa) (a1:Qf):Option Bool:=(Zc a1.1).bind fun y1=>bif !(y1) then some false else bif decide ((12:Int)<(a1.2.1.length:Int)) then some false else bif decide ((12:Int)<(a1.2.2.length:Int)) then some false else QV a1.2.1 (JY a0 a1 a1.2.1 0)
def GK:Ctr:=⟨46,[Qe,Qj],[.bool],fun x=>Hn x.1 x.2.1⟩
def XI:Kn:=⟨Tryz.f46,[([0,4],[.keep 0 2,.keep 0 3,.keep 0 36,.keep 0 37,.keep 0 38,.boxd 0 2 Qe,.boxd 0 3 Qj]),([0,9],[.keep 0 2,.keep 0 3,.keep 0 6,.keep 0 36,.keep 0 37,.keep 0 38,.keep 0 82,.keep 0 83,.keep 0 84,.boxd 0 2 Qe,.boxd 0 3 Qj,.boxd 0 6 Qr]),([1,14],[.keep 0 2,.keep 0 3,.keep 0 6,.keep 0 8,.keep 0 36,.keep 0 37,.keep 0 38,.keep 0 82,.keep 0 83,.keep 0 84,.boxd 0 2 Qe,.boxd 0 3 Qj,.boxd 0 6 Qr,.boxd 0 8 Qg]),([0,20],[.keep 0 2,.keep 0 3,.keep 0 148,.keep 0 149,.keep 0 150,.boxd 0 2 Qe,.boxd 0 3 Qj])],[],[Hc,Vb,EC,QaQ,QdA,EQ,Qct,QaU,Vy]⟩
abbrev XX (x1:(List Qv)) (x2:Int) (x4:Qa) (x5:Qf) (x3:Int) (n:Nat):Option Bool:=LD_ XI GK [0,4] [.ptr 0 2 0,.ptr 0 3 0,.d (.list Qr) x1,.d I64 x2,.d I64 x3,.agg (Qm Qe x4),.agg (Qm Qj x5)] n
abbrev YI (x1:(List Qv)) (x2:Int) (x3:Int) (x4:(List Qx)) (x5:Int) (x7:Qa) (x8:Qf) (x9:Qv) (x6:Int) (n:Nat):Option Bool:=LD_ XI GK [0,9] [.ptr 0 2 0,.ptr 0 3 0,.ptr 0 6 0,.d (.list Qr) x1,.d I64 x2,.d I64 x3,.d (.list Qg) x4,.d I64 x5,.d I64 x6,.agg (Qm Qe x7),.agg (Qm Qj x8),.agg (Qm Qr x9)] n
abbrev VC (x1:(List Qv)) (x2:Int) (x3:Int) (x4:(List Qx)) (x5:Int) (x6:Int) (x7:Qa) (x8:Qf) (x9:Qv) (x10:Qx) (n:Nat):Option Bool:=LD_ XI GK [1,14] [.ptr 0 2 0,.ptr 0 3 0,.ptr 0 6 0,.ptr 0 8 0,.d (.list Qr) x1,.d I64 x2,.d I64 x3,.d (.list Qg) x4,.d I64 x5,.d I64 x6,.agg (Qm Qe x7),.agg (Qm Qj x8),.agg (Qm Qr x9),.agg (Qm Qg x10)] n
abbrev Xj (x1:(List Qq)) (x2:Int) (x4:Qa) (x5:Qf) (x3:Int) (n:Nat):Option Bool:=LD_ XI GK [0,20] [.ptr 0 2 0,.ptr 0 3 0,.d (.list Qp) x1,.d I64 x2,.d I64 x3,.agg (Qm Qe x4),.agg (Qm Qj x5)] n
theorem Xk {K1} {x1 x2 x3 x4 x5 x6 x7 x8 x9 x10} (h1:Cm K1 (YI x1 x2 x3 x4 x5 x7 x8 x9 (QL x6))):Cm (JI K1 x7 x10) (VC x1 x2 x3 x4 x5 x6 x7 x8 x9 x10) :=
 Jk (fun n=>(by kernel_rfl:_ =
  (GT x7 x10.2.2.2).bind fun y7 =>
  bif !(y7.2) then
   bif !decide (x10.2.2.2=([]:List Int)) then
    some false
   else
    YI x1 x2 x3 x4 x5 x7 x8 x9 (QL x6) n
  else
   YI x1 x2 x3 x4 x5 x7 x8 x9 (QL x6) n))
 (Qo fun y7=>(Qd (Qd Qb h1) h1))
theorem Qbt {K0} {x1 x2 x3 x4 x7 x8 x9} (hl:Z2 x4) (h0:Cm K0 (XX x1 x2 x7 x8 (QL x3))):Jy x4 (Zw K0 x7 x9) (YI x1 x2 x3 x4 (x4.length:Int) x7 x8 x9) :=
 JN (d:=(Ty.dflt Qg)) hl (fun x6 n=>(by kernel_rfl:_ =
  bif decide (x6<(x4.length:Int)) then
   bif inB x6 x4.length then
    (Xt x7 ((rd x4 x6 (Ty.dflt Qg)).1)).bind fun y4 =>
    bif !(y4.2) then
     some false
    else
     bif !decide (((rd x4 x6 (Ty.dflt Qg)).2).1=([]:List Int)) then
      bif (((rd x4 x6 (Ty.dflt Qg)).2).2).1 then
       some false
      else
       (Vz x7 ((rd x4 x6 (Ty.dflt Qg)).1) (((rd x4 x6 (Ty.dflt Qg)).2).1)).bind fun y5 =>
       bif !(y5) then
        some false
       else
        bif decide ((0:Int)<x6) then
         bif inB (IntKind.wrap .i64 (x6 - 1)) x9.2.length then
          (Yy (rd x9.2 (IntKind.wrap .i64 (x6 - 1)) (Ty.dflt Qg)) (rd x4 x6 (Ty.dflt Qg))).bind fun y6 =>
          bif decide ((0:Int)≤y6) then
           some false
          else
           VC x1 x2 x3 x4 (x4.length:Int) x6 x7 x8 x9 (rd x4 x6 (Ty.dflt Qg)) n
         else none
        else
         VC x1 x2 x3 x4 (x4.length:Int) x6 x7 x8 x9 (rd x4 x6 (Ty.dflt Qg)) n
     else
      bif decide ((0:Int)<x6) then
       bif inB (IntKind.wrap .i64 (x6 - 1)) x9.2.length then
        (Yy (rd x9.2 (IntKind.wrap .i64 (x6 - 1)) (Ty.dflt Qg)) (rd x4 x6 (Ty.dflt Qg))).bind fun y8 =>
        bif decide ((0:Int)≤y8) then
         some false
        else
         VC x1 x2 x3 x4 (x4.length:Int) x6 x7 x8 x9 (rd x4 x6 (Ty.dflt Qg)) n
       else none
      else
       VC x1 x2 x3 x4 (x4.length:Int) x6 x7 x8 x9 (rd x4 x6 (Ty.dflt Qg)) n
   else none
  else
   XX x1 x2 x7 x8 (QL x3) n))
 (fun _=>h0)
 (fun k _ q i=>(QI q (Qo fun y4=>(Qd Qb (Qd (Qd Qb (Qo fun y5=>(Qd Qb (Qd (Qd (Qo fun y6=>(Qd Qb (Xk i))) QC) (Xk i))))) (Qd (Qd (Qo fun y8=>(Qd Qb (Xk i))) QC) (Xk i)))))))
theorem Qh1 {x1 x4 x5} (hl:Z2 x1):Jy x1 (JJ x4 x5) (Xj x1 (x1.length:Int) x4 x5) :=
 JN (d:=(Ty.dflt Qp)) hl (fun x3 n=>(by kernel_rfl:_ =
  bif decide (x3<(x1.length:Int)) then
   bif inB x3 x1.length then
    (Vp ((rd x1 x3 (Ty.dflt Qp)).2)).bind fun y9 =>
    (Zc ((rd x1 x3 (Ty.dflt Qp)).1)).bind fun y10 =>
    bif !(y10) then
     some false
    else
     bif decide ((rd x1 x3 (Ty.dflt Qp)).1=([110,105,108]:List Int)) then
      some false
     else
      bif decide ((0:Int)<x3) then
       bif inB (IntKind.wrap .i64 (x3 - 1)) x5.2.2.length then
        (QW ((rd x5.2.2 (IntKind.wrap .i64 (x3 - 1)) (Ty.dflt Qp)).1) ((rd x1 x3 (Ty.dflt Qp)).1)).bind fun y11 =>
        bif decide ((0:Int)≤y11) then
         some false
        else
         bif !(y9.2) then
          some false
         else
          (VB x4 x5 (Tree.node y9.1.val y9.1.kids)).bind fun y12 =>
          bif !(y12) then
           some false
          else
           (Zh x5 ((rd x1 x3 (Ty.dflt Qp)).1)).bind fun y13 =>
           bif y13.2 then
            some false
           else
            Xj x1 (x1.length:Int) x4 x5 (QL x3) n
       else none
      else
       bif !(y9.2) then
        some false
       else
        (VB x4 x5 (Tree.node y9.1.val y9.1.kids)).bind fun y14 =>
        bif !(y14) then
         some false
        else
         (Zh x5 ((rd x1 x3 (Ty.dflt Qp)).1)).bind fun y15 =>
         bif y15.2 then
          some false
         else
          Xj x1 (x1.length:Int) x4 x5 (QL x3) n
   else none
  else
   some true))
 (fun _=>Qb)
 (fun k _ q i=>(QI q (Qo fun y9=>(Qo fun y10=>(Qd Qb (Qd Qb (Qd (Qd (Qo fun y11=>(Qd Qb (Qd Qb (Qo fun y12=>(Qd Qb (Qo fun y13=>(Qd Qb i))))))) QC) (Qd Qb (Qo fun y14=>(Qd Qb (Qo fun y15=>(Qd Qb i))))))))))))
theorem QiZ {x1 x4 x5} (hl:Z2 x1):Jy x1 (JY x4 x5) (XX x1 (x1.length:Int) x4 x5) :=
 JN (d:=(Ty.dflt Qr)) hl (fun x3 n=>(by kernel_rfl:_ =
  bif decide (x3<(x1.length:Int)) then
   bif inB x3 x1.length then
    (Zc ((rd x1 x3 (Ty.dflt Qr)).1)).bind fun y2 =>
    bif !(y2) then
     some false
    else
     bif decide ((rd x1 x3 (Ty.dflt Qr)).1=([110,105,108]:List Int)) then
      some false
     else
      bif decide ((0:Int)<x3) then
       bif inB (IntKind.wrap .i64 (x3 - 1)) x5.2.1.length then
        (QW ((rd x5.2.1 (IntKind.wrap .i64 (x3 - 1)) (Ty.dflt Qr)).1) ((rd x1 x3 (Ty.dflt Qr)).1)).bind fun y3 =>
        bif decide ((0:Int)≤y3) then
         some false
        else
         bif decide ((((rd x1 x3 (Ty.dflt Qr)).2).length:Int)<1) then
          some false
         else
          bif decide ((8:Int)<(((rd x1 x3 (Ty.dflt Qr)).2).length:Int)) then
           some false
          else
           YI x1 (x1.length:Int) x3 ((rd x1 x3 (Ty.dflt Qr)).2) (((rd x1 x3 (Ty.dflt Qr)).2).length:Int) x4 x5 (rd x1 x3 (Ty.dflt Qr)) 0 n
       else none
      else
       bif decide ((((rd x1 x3 (Ty.dflt Qr)).2).length:Int)<1) then
        some false
       else
        bif decide ((8:Int)<(((rd x1 x3 (Ty.dflt Qr)).2).length:Int)) then
         some false
        else
         YI x1 (x1.length:Int) x3 ((rd x1 x3 (Ty.dflt Qr)).2) (((rd x1 x3 (Ty.dflt Qr)).2).length:Int) x4 x5 (rd x1 x3 (Ty.dflt Qr)) 0 n
   else none
  else
   Xj x5.2.2 (x5.2.2.length:Int) x4 x5 0 n))
 (fun _=>(QD fun l=>Qh1 l _ 0 rfl))
 (fun k _ q i=>(QI q (Qo fun y2=>(Qd Qb (Qd Qb (Qd (Qd (Qo fun y3=>(Qd Qb (Qd Qb (Qd Qb (QD fun l=>Qbt l i _ 0 rfl))))) QC) (Qd Qb (Qd Qb (QD fun l=>Qbt l i _ 0 rfl)))))))))
theorem QmU:Ok_ GK:=okD XI (by kernel_rfl) (Qc WW (Qc GI (Qc Qey (Qc Qda (Qc QjW (Qc Qg0 (Qc QeB (Qc QmT (Qc XH Qk)))))))))
 fun ⟨a0,a1,_⟩=>QX (fun n=>(by kernel_rfl:_ =
  (Zc a1.1).bind fun y1 =>
  bif !(y1) then
   some false
  else
   bif decide ((12:Int)<(a1.2.1.length:Int)) then
    some false
   else
    bif decide ((12:Int)<(a1.2.2.length:Int)) then
     some false
    else
     XX a1.2.1 (a1.2.1.length:Int) a0 a1 0 n))
 (Qo fun y1=>(Qd Qb (Qd Qb (Qd Qb (QD fun l=>QiZ l _ 0 rfl)))))
def VN (K0:(List Qh)→Option (List Qh)) (x8:Qf):List Qq→(List Qh)→Option (List Qh) | [],x1=>K0 x1 | e::rest,x1=>bif decide (((x1.length:Int)+(([(x8.1,(e).1,0)]:List Qh).length:Int))*40≤Q4)&&decide ((x1.length:Int)+(([(x8.1,(e).1,0)]:List Qh).length:Int)≤Q4) then VN K0 x8 rest (x1++([(x8.1,(e).1,0)]:List Qh)) else none
def Gc (K0:(List Qh)→Option (List Qh)) (x8:Qf):List Qv→(List Qh)→Option (List Qh) | [],x1=>QV x8.2.2 (VN K0 x8 x8.2.2 x1) | e::rest,x1=>bif decide (((x1.length:Int)+(([(x8.1,(e).1,0)]:List Qh).length:Int))*40≤Q4)&&decide ((x1.length:Int)+(([(x8.1,(e).1,0)]:List Qh).length:Int)≤Q4) then Gc K0 x8 rest (x1++([(x8.1,(e).1,0)]:List Qh)) else none
def Gd:List Qf→(List Qh)→Option (List Qh) | [],x1=>some x1 | e::rest,x1=>QV (((e).2).1) (Gc (fun s0=>Gd rest s0) (e) (((e).2).1) x1)
def HW (a0:Qa):Option (List Qh):=QV a0.2 (Gd a0.2 [])
def Hd (x1:(List Int)) (x2:(List Int)):List Qh→Nat→Option Int | [],k=>some (-1) | e::rest,k=>bif decide ((e).1=x1) then bif decide (((e).2).1=x2) then some (k:Int) else Hd x1 x2 rest (k+1) else Hd x1 x2 rest (k+1)
def Zz (a0:(List Qh)) (a1:(List Int)) (a2:(List Int)):Option Int:=QV a0 (Hd a1 a2 a0 0)
def Wt:Ctr:=⟨56,[(.list Qt),.str,.str],[I64],fun x=>Zz x.1 x.2.1 x.2.2.1⟩
def Qn7:Kn:=⟨Tryz.f56,[([0,2],[.keep 0 1,.keep 0 2,.keep 0 9,.keep 0 10,.keep 0 11])],[],[]⟩
abbrev ER (x1:(List Int)) (x2:(List Int)) (x3:(List Qh)) (x4:Int) (x5:Int) (n:Nat):Option Int:=LD_ Qn7 Wt [0,2] [.d .str x1,.d .str x2,.d (.list Qt) x3,.d I64 x4,.d I64 x5] n
theorem Qrb {x1 x2 x3} (hl:Z2 x3):Jy x3 (Hd x1 x2) (ER x1 x2 x3 (x3.length:Int)) :=
 JN (d:=(Ty.dflt Qt)) hl (fun x5 n=>(by kernel_rfl:_ =
  bif decide (x5<(x3.length:Int)) then
   bif inB x5 x3.length then
    bif decide ((rd x3 x5 (Ty.dflt Qt)).1=x1) then
     bif decide (((rd x3 x5 (Ty.dflt Qt)).2).1=x2) then
      some x5
     else
      ER x1 x2 x3 (x3.length:Int) (QL x5) n
    else
     ER x1 x2 x3 (x3.length:Int) (QL x5) n
   else none
  else
   some (-1:Int)))
 (fun _=>Qb)
 (fun k _ q i=>(QI q (Qd (Qd Qb i) i)))
theorem QaV:Ok_ Wt:=okD Qn7 (by kernel_rfl) Qk
 fun ⟨a0,a1,a2,_⟩=>QX (fun n=>(by kernel_rfl:_ =
  ER a1 a2 a0 (a0.length:Int) 0 n))
 (QD fun l=>Qrb l _ 0 rfl)
def J4 (Rc:Qa→Qf→(List Qh)→Int→Zt→Bool→(List Qu)→Option (List Qu)) (x1:(List Qh)) (x2:Int) (x3:Bool):List (List Int)→(List Qu)→Zt→Option (List Qu) | [],x4,x8=>some x4 | e::rest,x4,x8=>(Zz x1 (e) x8.val.2.2).bind fun y5=>bif decide (((x4.length:Int)+(([(x2,y5,x3)]:List Qu).length:Int))*24≤Q4)&&decide ((x4.length:Int)+(([(x2,y5,x3)]:List Qu).length:Int)≤Q4) then J4 Rc x1 x2 x3 rest (x4++([(x2,y5,x3)]:List Qu)) (Tree.node x8.val x8.kids) else none
def Za (Rc:Qa→Qf→(List Qh)→Int→Zt→Bool→(List Qu)→Option (List Qu)) (x1:(List Qh)) (x2:Int) (x3:Bool) (x8:Qa) (x9:Qf):List Zt→Nat→(List Qu)→Zt→Option (List Qu) | [],k,x4,x10=>some x4 | e::rest,k,x4,x10=>bif x3 then (Rc x8 x9 x1 x2 (Tree.node ((e).val) ((e).kids)) true x4).bind fun y6=>Za Rc x1 x2 x3 x8 x9 rest (k+1) y6 (Tree.node x10.val x10.kids) else bif decide ((k:Int)=1) then (Rc x8 x9 x1 x2 (Tree.node ((e).val) ((e).kids)) (decide (x10.val.1=5)) x4).bind fun y7=>Za Rc x1 x2 x3 x8 x9 rest (k+1) y7 (Tree.node x10.val x10.kids) else (Rc x8 x9 x1 x2 (Tree.node ((e).val) ((e).kids)) false x4).bind fun y8=>Za Rc x1 x2 x3 x8 x9 rest (k+1) y8 (Tree.node x10.val x10.kids)
def UP (Rc:Qa→Qf→(List Qh)→Int→Zt→Bool→(List Qu)→Option (List Qu)) (a0:Qa) (a1:Qf) (a2:(List Qh)) (a3:Int) (a4:Zt) (a5:Bool) (a6:(List Qu)):Option (List Qu):=bif decide (a4.val.1=1) then (Zz a2 a1.1 a4.val.2.2).bind fun y1=>bif decide (((a6.length:Int)+(([(a3,y1,a5)]:List Qu).length:Int))*24≤Q4)&&decide ((a6.length:Int)+(([(a3,y1,a5)]:List Qu).length:Int)≤Q4) then some (a6++([(a3,y1,a5)]:List Qu)) else none else bif decide (a4.val.1=2) then (Zz a2 a1.1 a4.val.2.1).bind fun y2=>bif decide (((a6.length:Int)+(([(a3,y2,a5)]:List Qu).length:Int))*24≤Q4)&&decide ((a6.length:Int)+(([(a3,y2,a5)]:List Qu).length:Int)≤Q4) then (Zh a1 a4.val.2.1).bind fun y3=>(HC a0 y3.1 a4.val.2.2).bind fun y4=>QV y4 (J4 Rc a2 a3 a5 y4 (a6++([(a3,y2,a5)]:List Qu)) (Tree.node a4.val a4.kids)) else none else QV a4.kids (Za Rc a2 a3 a5 a0 a1 a4.kids 0 a6 (Tree.node a4.val a4.kids))
def UQ:Nat→Qa→Qf→(List Qh)→Int→Zt→Bool→(List Qu)→Option (List Qu) | 0=>fun _ _ _ _ _ _ _=>none | d+1=>fun a0 a1 a2 a3 a4 a5 a6=>UP (UQ d) a0 a1 a2 a3 a4 a5 a6
def ED (a0:Qa) (a1:Qf) (a2:(List Qh)) (a3:Int) (a4:Zt) (a5:Bool) (a6:(List Qu)):Option (List Qu):=QaF fun d=>UQ d a0 a1 a2 a3 a4 a5 a6
def Qgn:Ctr:=QmN 147 6 [Qe,Qj,(.list Qt),I64,YU,.bool,(.list QJ)] QJ fun x=>ED x.1 x.2.1 x.2.2.1 x.2.2.2.1 x.2.2.2.2.1 x.2.2.2.2.2.1 x.2.2.2.2.2.2.1
def Qcv:List (List Nat × Ann):=[([0,8],[.keep 0 2,.keep 0 3,.keep 0 5,.own 0 6 QJ,.keep 0 11,.keep 0 67,.keep 0 68,.keep 0 69,.boxd 0 11 YU]),([0,14],[.keep 0 2,.keep 0 3,.keep 0 5,.own 0 6 QJ,.keep 0 7,.keep 0 8,.keep 0 11,.keep 0 88,.keep 0 89,.keep 0 90,.boxd 0 7 Qe,.boxd 0 8 Qj,.boxd 0 11 YU])]
def QaW:List (List Nat × Nat):=[([16017],4009414)]
def QaX (Rc:Qa→Qf→(List Qh)→Int→Zt→Bool→(List Qu)→Option (List Qu)):List Ctr:=[Wt,Vy,Qcu,(QmN 147 6 [Qe,Qj,(.list Qt),I64,YU,.bool,(.list QJ)] QJ fun x=>Rc x.1 x.2.1 x.2.2.1 x.2.2.2.1 x.2.2.2.2.1 x.2.2.2.2.2.1 x.2.2.2.2.2.2.1)]
def QlY (Rc:Qa→Qf→(List Qh)→Int→Zt→Bool→(List Qu)→Option (List Qu)) (n:Nat) (a0:Qa) (a1:Qf) (a2:(List Qh)) (a3:Int) (a4:Zt) (a5:Bool) (a6:(List Qu)):Option (List Qu):=QA7 Tryz.prog noG Qcv QaW (QaD (QaX Rc)) Tryz.f147 (Tryz.f147.body.getD .skip) (QhG Tryz.prog Tryz.f147 QJ) n (QvR 6 (Jh [Qe,Qj,(.list Qt),I64,YU,.bool,(.list QJ)] (a0,a1,a2,a3,a4,a5,a6,())))
abbrev Ho (Rc:Qa→Qf→(List Qh)→Int→Zt→Bool→(List Qu)→Option (List Qu)) (n:Nat) (x1:(List Qh)) (x2:Int) (x3:Bool) (x4:(List Qu)) (x5:(List (List Int))) (x6:Int) (x7:Int) (x8:Zt):Option (List Qu):=Qq7 Tryz.prog noG Qcv QaW (QaD (QaX Rc)) Tryz.f147 (Tryz.f147.body.getD .skip) (QhG Tryz.prog Tryz.f147 QJ) n [0,8] [.d (.list Qt) x1,.d I64 x2,.d .bool x3,.own 0 QJ x4,.ptr 0 11 0,.d (.list .str) x5,.d I64 x6,.d I64 x7,.agg (Qm YU x8)]
abbrev Y3 (Rc:Qa→Qf→(List Qh)→Int→Zt→Bool→(List Qu)→Option (List Qu)) (n:Nat) (x1:(List Qh)) (x2:Int) (x3:Bool) (x4:(List Qu)) (x5:(List Zt)) (x6:Int) (x7:Int) (x8:Qa) (x9:Qf) (x10:Zt):Option (List Qu):=Qq7 Tryz.prog noG Qcv QaW (QaD (QaX Rc)) Tryz.f147 (Tryz.f147.body.getD .skip) (QhG Tryz.prog Tryz.f147 QJ) n [0,14] [.d (.list Qt) x1,.d I64 x2,.d .bool x3,.own 0 QJ x4,.ptr 0 7 0,.ptr 0 8 0,.ptr 0 11 0,.d (.list YU) x5,.d I64 x6,.d I64 x7,.agg (Qm Qe x8),.agg (Qm Qj x9),.agg (Qm YU x10)]
theorem QpH (Rc:Qa→Qf→(List Qh)→Int→Zt→Bool→(List Qu)→Option (List Qu)) (n:Nat) (a0:Qa) (a1:Qf) (a2:(List Qh)) (a3:Int) (a4:Zt) (a5:Bool) (a6:(List Qu)):QlY Rc n a0 a1 a2 a3 a4 a5 a6=bif decide (a4.val.1=1) then (Zz a2 a1.1 a4.val.2.2).bind fun y1=>bif decide (((a6.length:Int)+(([(a3,y1,a5)]:List Qu).length:Int))*24≤Q4)&&decide ((a6.length:Int)+(([(a3,y1,a5)]:List Qu).length:Int)≤Q4) then some (a6++([(a3,y1,a5)]:List Qu)) else none else bif decide (a4.val.1=2) then (Zz a2 a1.1 a4.val.2.1).bind fun y2=>bif decide (((a6.length:Int)+(([(a3,y2,a5)]:List Qu).length:Int))*24≤Q4)&&decide ((a6.length:Int)+(([(a3,y2,a5)]:List Qu).length:Int)≤Q4) then (Zh a1 a4.val.2.1).bind fun y3=>(HC a0 y3.1 a4.val.2.2).bind fun y4=>Ho Rc n a2 a3 a5 (a6++([(a3,y2,a5)]:List Qu)) y4 (y4.length:Int) 0 (Tree.node a4.val a4.kids) else none else Y3 Rc n a2 a3 a5 a6 a4.kids (a4.kids.length:Int) 0 a0 a1 (Tree.node a4.val a4.kids):=by kernel_rfl
theorem QcM (Rc:Qa→Qf→(List Qh)→Int→Zt→Bool→(List Qu)→Option (List Qu)) (n:Nat) (x1:(List Qh)) (x2:Int) (x3:Bool) (x4:(List Qu)) (x5:(List (List Int))) (x6:Int) (x7:Int) (x8:Zt):Ho Rc (n+1) x1 x2 x3 x4 x5 x6 x7 x8=bif decide (x7<x6) then bif inB x7 x5.length then (Zz x1 (rd x5 x7 (Ty.dflt .str)) x8.val.2.2).bind fun y5=>bif decide (((x4.length:Int)+(([(x2,y5,x3)]:List Qu).length:Int))*24≤Q4)&&decide ((x4.length:Int)+(([(x2,y5,x3)]:List Qu).length:Int)≤Q4) then Ho Rc n x1 x2 x3 (x4++([(x2,y5,x3)]:List Qu)) x5 x6 (IntKind.wrap .i64 (x7+1)) (Tree.node x8.val x8.kids) else none else none else some x4:=by kernel_rfl
theorem Qbu (Rc:Qa→Qf→(List Qh)→Int→Zt→Bool→(List Qu)→Option (List Qu)) (n:Nat) (x1:(List Qh)) (x2:Int) (x3:Bool) (x4:(List Qu)) (x5:(List Zt)) (x6:Int) (x7:Int) (x8:Qa) (x9:Qf) (x10:Zt):Y3 Rc (n+1) x1 x2 x3 x4 x5 x6 x7 x8 x9 x10=bif decide (x7<x6) then bif inB x7 x5.length then bif x3 then (Rc x8 x9 x1 x2 (Tree.node ((rd x5 x7 (Ty.dflt YU)).val) ((rd x5 x7 (Ty.dflt YU)).kids)) true x4).bind fun y6=>Y3 Rc n x1 x2 x3 y6 x5 x6 (IntKind.wrap .i64 (x7+1)) x8 x9 (Tree.node x10.val x10.kids) else bif decide (x7=1) then (Rc x8 x9 x1 x2 (Tree.node ((rd x5 x7 (Ty.dflt YU)).val) ((rd x5 x7 (Ty.dflt YU)).kids)) (decide (x10.val.1=5)) x4).bind fun y7=>Y3 Rc n x1 x2 x3 y7 x5 x6 (IntKind.wrap .i64 (x7+1)) x8 x9 (Tree.node x10.val x10.kids) else (Rc x8 x9 x1 x2 (Tree.node ((rd x5 x7 (Ty.dflt YU)).val) ((rd x5 x7 (Ty.dflt YU)).kids)) false x4).bind fun y8=>Y3 Rc n x1 x2 x3 y8 x5 x6 (IntKind.wrap .i64 (x7+1)) x8 x9 (Tree.node x10.val x10.kids) else none else some x4:=by kernel_rfl
theorem Qn8 {Rc:Qa→Qf→(List Qh)→Int→Zt→Bool→(List Qu)→Option (List Qu)} {x1:(List Qh)} {x2:Int} {x3:Bool} {x5:(List (List Int))} (hl:x5.length≤maxLen):∀ (rest:List (List Int)) (k:Nat) (x4:(List Qu)) (x8:Zt) (r:(List Qu)),rest=x5.drop k→J4 Rc x1 x2 x3 rest x4 x8=some r→Ev (fun n=>Ho Rc n x1 x2 x3 x4 x5 (x5.length:Int) (k:Int) x8) r:=by
 intro rest
 induction rest with
 | nil =>
  intro k x4 x8 r hr h
  have hk:=Qes hr
  rw [J4] at h
  refine Ev.step ?_ (fun n=>QcM Rc n x1 x2 x3 x4 x5 (x5.length:Int) (k:Int) x8)
  rw [ltF hk]
  exact Ev.neg rfl (Ev.ofSome h)
 | cons e rest ih =>
  intro k x4 x8 r hr h
  obtain ⟨hk,hx,hr2⟩:=Qaq (d:=(Ty.dflt .str)) hr
  have hw:=GH hl hk
  have ih2:∀ (z4:(List Qu)) (z8:Zt) (r:(List Qu)),J4 Rc x1 x2 x3 rest z4 z8=some r→Ev (fun n=>Ho Rc n x1 x2 x3 z4 x5 (x5.length:Int) (IntKind.wrap .i64 ((k:Int)+1)) z8) r:=by
   intro z4 z8 r h;rw [hw];exact ih (k+1) z4 z8 r hr2 h
  rw [J4] at h
  refine Ev.step ?_ (fun n=>QcM Rc n x1 x2 x3 x4 x5 (x5.length:Int) (k:Int) x8)
  rw [ltT hk,YS hk,hx]
  exact Ev.pos rfl (Ev.pos rfl (Ev.ofBind h fun y5 h=>(Ev.ofBif h (fun h=>(ih2 _ _ _ h)) (fun h=>(Ev.ofNone h)))))
theorem QmV {Rc:Qa→Qf→(List Qh)→Int→Zt→Bool→(List Qu)→Option (List Qu)} {x1:(List Qh)} {x2:Int} {x3:Bool} {x5:(List Zt)} {x8:Qa} {x9:Qf} (hl:x5.length≤maxLen):∀ (rest:List Zt) (k:Nat) (x4:(List Qu)) (x10:Zt) (r:(List Qu)),rest=x5.drop k→Za Rc x1 x2 x3 x8 x9 rest k x4 x10=some r→Ev (fun n=>Y3 Rc n x1 x2 x3 x4 x5 (x5.length:Int) (k:Int) x8 x9 x10) r:=by
 intro rest
 induction rest with
 | nil =>
  intro k x4 x10 r hr h
  have hk:=Qes hr
  rw [Za] at h
  refine Ev.step ?_ (fun n=>Qbu Rc n x1 x2 x3 x4 x5 (x5.length:Int) (k:Int) x8 x9 x10)
  rw [ltF hk]
  exact Ev.neg rfl (Ev.ofSome h)
 | cons e rest ih =>
  intro k x4 x10 r hr h
  obtain ⟨hk,hx,hr2⟩:=Qaq (d:=(Ty.dflt YU)) hr
  have hw:=GH hl hk
  have ih2:∀ (z4:(List Qu)) (z10:Zt) (r:(List Qu)),Za Rc x1 x2 x3 x8 x9 rest (k+1) z4 z10=some r→Ev (fun n=>Y3 Rc n x1 x2 x3 z4 x5 (x5.length:Int) (IntKind.wrap .i64 ((k:Int)+1)) x8 x9 z10) r:=by
   intro z4 z10 r h;rw [hw];exact ih (k+1) z4 z10 r hr2 h
  rw [Za] at h
  refine Ev.step ?_ (fun n=>Qbu Rc n x1 x2 x3 x4 x5 (x5.length:Int) (k:Int) x8 x9 x10)
  rw [ltT hk,YS hk,hx]
  exact Ev.pos rfl (Ev.pos rfl (Ev.ofBif h (fun h=>(Ev.ofBind h fun y6 h=>(ih2 _ _ _ h))) (fun h=>(Ev.ofBif h (fun h=>(Ev.ofBind h fun y7 h=>(ih2 _ _ _ h))) (fun h=>(Ev.ofBind h fun y8 h=>(ih2 _ _ _ h)))))))
theorem Qt3 {Rc:Qa→Qf→(List Qh)→Int→Zt→Bool→(List Qu)→Option (List Qu)} (a0:Qa) (a1:Qf) (a2:(List Qh)) (a3:Int) (a4:Zt) (a5:Bool) (a6:(List Qu)) {r:(List Qu)} (h:UP Rc a0 a1 a2 a3 a4 a5 a6=some r):Ev (fun n=>QlY Rc n a0 a1 a2 a3 a4 a5 a6) r:=by
 rw [UP] at h
 refine Ev.of_eq ?_ (fun n=>QpH Rc n a0 a1 a2 a3 a4 a5 a6)
 exact (Ev.ofBif h (fun h=>(Ev.ofBind h fun y1 h=>(Ev.ofBif h (fun h=>(Ev.ofSome h)) (fun h=>(Ev.ofNone h))))) (fun h=>(Ev.ofBif h (fun h=>(Ev.ofBind h fun y2 h=>(Ev.ofBif h (fun h=>(Ev.ofBind h fun y3 h=>(Ev.ofBind h fun y4 h=>(Ev.ofLen h fun hl h=>Qn8 hl _ (0:Nat) _ _ _ rfl h)))) (fun h=>(Ev.ofNone h))))) (fun h=>(Ev.ofLen h fun hl h=>QmV hl _ (0:Nat) _ _ _ rfl h)))))
theorem Qrc:∀ d,G4 Tryz.prog (QmN 147 6 [Qe,Qj,(.list Qt),I64,YU,.bool,(.list QJ)] QJ fun x=>UQ d x.1 x.2.1 x.2.2.1 x.2.2.2.1 x.2.2.2.2.1 x.2.2.2.2.2.1 x.2.2.2.2.2.2.1):=by
 intro d
 induction d with
 | zero=>intro xs y hy;exact (nomatch (show (none:Option (List Qu))=some y from hy))
 | succ d ih =>
  refine QwT (i:=6) (by kernel_rfl) (by kernel_rfl) (by kernel_rfl) (by kernel_rfl:Tryz.prog.funcs[147]? = some Tryz.f147) (code:=Tryz.f147.body.getD .skip) (by kernel_rfl) (by kernel_rfl) (A:=Qcv) (I:=QaW) (cs:=QaX (UQ d)) (Qc QaV (Qc XH (Qc QjY (Qc ih Qk)))) ?_
  rintro ⟨a0,a1,a2,a3,a4,a5,a6,u⟩ y hy
  exact (Qt3 a0 a1 a2 a3 a4 a5 a6 hy).get
theorem QjZ:G4 Tryz.prog (Qgn):=by
 rintro ⟨a0,a1,a2,a3,a4,a5,a6,u⟩ y hy
 obtain ⟨d,hd⟩:=(Qk4 hy).get
 exact Qrc d (a0,a1,a2,a3,a4,a5,a6,u) y hd
def Yg (K1:(List Qu)→Option (List Qu)) (x1:(List Qh)) (x13:Qf) (x14:Qv):List Qx→(List Qu)→Option (List Qu) | [],x2=>K1 x2 | e::rest,x2=>bif !decide (((e).2).1=([]:List Int)) then (Zz x1 x13.1 x14.1).bind fun y1=>(Zz x1 ((e).1) (((e).2).1)).bind fun y2=>bif decide (((x2.length:Int)+(([(y1,y2,false)]:List Qu).length:Int))*24≤Q4)&&decide ((x2.length:Int)+(([(y1,y2,false)]:List Qu).length:Int)≤Q4) then Yg K1 x1 x13 x14 rest (x2++([(y1,y2,false)]:List Qu)) else none else Yg K1 x1 x13 x14 rest x2
def Yz (K0:(List Qu)→Option (List Qu)) (x1:(List Qh)) (x9:Qa) (x10:Qf):List Qq→(List Qu)→Option (List Qu) | [],x2=>K0 x2 | e::rest,x2=>(Vp ((e).2)).bind fun y3=>(Zz x1 x10.1 ((e).1)).bind fun y4=>(ED x9 x10 x1 y4 (Tree.node y3.1.val y3.1.kids) false x2).bind fun y5=>Yz K0 x1 x9 x10 rest y5
def Y4 (K0:(List Qu)→Option (List Qu)) (x1:(List Qh)) (x9:Qa) (x10:Qf):List Qv→(List Qu)→Option (List Qu) | [],x2=>QV x10.2.2 (Yz K0 x1 x9 x10 x10.2.2 x2) | e::rest,x2=>QV ((e).2) (Yg (fun s0=>Y4 K0 x1 x9 x10 rest s0) x1 x10 (e) ((e).2) x2)
def Y5 (x1:(List Qh)) (x6:Qa):List Qf→(List Qu)→Option (List Qu) | [],x2=>some x2 | e::rest,x2=>QV (((e).2).1) (Y4 (fun s0=>Y5 x1 x6 rest s0) x1 x6 (e) (((e).2).1) x2)
def VD (a0:Qa) (a1:(List Qh)):Option (List Qu):=QV a0.2 (Y5 a1 a0 a0.2 [])
def HX:Ctr:=⟨97,[Qe,(.list Qt)],[(.list QJ)],fun x=>VD x.1 x.2.1⟩
def UD:Kn:=⟨Tryz.f97,[([0,3],[.keep 0 1,.keep 0 2,.own 0 5 QJ,.keep 0 17,.keep 0 18,.keep 0 19,.boxd 0 2 Qe]),([0,6],[.keep 0 1,.keep 0 2,.own 0 5 QJ,.keep 0 7,.keep 0 17,.keep 0 18,.keep 0 19,.keep 0 24,.keep 0 25,.keep 0 26,.boxd 0 2 Qe,.boxd 0 7 Qj]),([0,9],[.keep 0 1,.keep 0 2,.own 0 5 QJ,.keep 0 7,.keep 0 9,.keep 0 17,.keep 0 18,.keep 0 19,.keep 0 24,.keep 0 25,.keep 0 26,.keep 0 31,.keep 0 32,.keep 0 33,.boxd 0 2 Qe,.boxd 0 7 Qj,.boxd 0 9 Qr]),([0,16],[.keep 0 1,.keep 0 2,.own 0 5 QJ,.keep 0 7,.keep 0 17,.keep 0 18,.keep 0 19,.keep 0 59,.keep 0 60,.keep 0 61,.boxd 0 2 Qe,.boxd 0 7 Qj])],[([19011],4009414)],[Wt,Qct,Qgn]⟩
abbrev XJ (x1:(List Qh)) (x3:(List Qf)) (x4:Int) (x6:Qa) (x5:Int) (x2:(List Qu)) (n:Nat):Option (List Qu):=LD_ UD HX [0,3] [.d (.list Qt) x1,.ptr 0 2 0,.own 0 QJ x2,.d (.list Qj) x3,.d I64 x4,.d I64 x5,.agg (Qm Qe x6)] n
abbrev Ur (x1:(List Qh)) (x3:(List Qf)) (x4:Int) (x5:Int) (x6:(List Qv)) (x7:Int) (x9:Qa) (x10:Qf) (x8:Int) (x2:(List Qu)) (n:Nat):Option (List Qu):=LD_ UD HX [0,6] [.d (.list Qt) x1,.ptr 0 2 0,.own 0 QJ x2,.ptr 0 7 0,.d (.list Qj) x3,.d I64 x4,.d I64 x5,.d (.list Qr) x6,.d I64 x7,.d I64 x8,.agg (Qm Qe x9),.agg (Qm Qj x10)] n
abbrev Us (x1:(List Qh)) (x3:(List Qf)) (x4:Int) (x5:Int) (x6:(List Qv)) (x7:Int) (x8:Int) (x9:(List Qx)) (x10:Int) (x12:Qa) (x13:Qf) (x14:Qv) (x11:Int) (x2:(List Qu)) (n:Nat):Option (List Qu):=LD_ UD HX [0,9] [.d (.list Qt) x1,.ptr 0 2 0,.own 0 QJ x2,.ptr 0 7 0,.ptr 0 9 0,.d (.list Qj) x3,.d I64 x4,.d I64 x5,.d (.list Qr) x6,.d I64 x7,.d I64 x8,.d (.list Qg) x9,.d I64 x10,.d I64 x11,.agg (Qm Qe x12),.agg (Qm Qj x13),.agg (Qm Qr x14)] n
abbrev Eo (x1:(List Qh)) (x3:(List Qf)) (x4:Int) (x5:Int) (x6:(List Qq)) (x7:Int) (x9:Qa) (x10:Qf) (x8:Int) (x2:(List Qu)) (n:Nat):Option (List Qu):=LD_ UD HX [0,16] [.d (.list Qt) x1,.ptr 0 2 0,.own 0 QJ x2,.ptr 0 7 0,.d (.list Qj) x3,.d I64 x4,.d I64 x5,.d (.list Qp) x6,.d I64 x7,.d I64 x8,.agg (Qm Qe x9),.agg (Qm Qj x10)] n
theorem QmW {K1} {x1 x3 x4 x5 x6 x7 x8 x9 x12 x13 x14} (hl:Z2 x9) (h1:Cm1 K1 (Ur x1 x3 x4 x5 x6 x7 x12 x13 (QL x8))):XF x9 (fun r _ x2=>Yg K1 x1 x13 x14 r x2) (Us x1 x3 x4 x5 x6 x7 x8 x9 (x9.length:Int) x12 x13 x14) :=
 X5 (d:=(Ty.dflt Qg)) hl (fun x11 x2 n=>(by kernel_rfl:_ =
  bif decide (x11<(x9.length:Int)) then
   bif inB x11 x9.length then
    bif !decide (((rd x9 x11 (Ty.dflt Qg)).2).1=([]:List Int)) then
     (Zz x1 x13.1 x14.1).bind fun y1 =>
     (Zz x1 ((rd x9 x11 (Ty.dflt Qg)).1) (((rd x9 x11 (Ty.dflt Qg)).2).1)).bind fun y2 =>
     bif decide (((x2.length:Int)+(([(y1,y2,false)]:List Qu).length:Int))*24≤Q4)&&decide ((x2.length:Int)+(([(y1,y2,false)]:List Qu).length:Int)≤Q4) then
      Us x1 x3 x4 x5 x6 x7 x8 x9 (x9.length:Int) x12 x13 x14 (QL x11) (x2++([(y1,y2,false)]:List Qu)) n
     else none
    else
     Us x1 x3 x4 x5 x6 x7 x8 x9 (x9.length:Int) x12 x13 x14 (QL x11) x2 n
   else none
  else
   Ur x1 x3 x4 x5 x6 x7 x12 x13 (QL x8) x2 n))
 (fun _ x2=>(h1 _))
 (fun k _ q i x2=>(QI q (Qd (Qo fun y1=>(Qo fun y2=>(Qd (i _) QC))) (i _))))
theorem Qlj {K0} {x1 x3 x4 x5 x6 x9 x10} (hl:Z2 x6) (h0:Cm1 K0 (XJ x1 x3 x4 x9 (QL x5))):XF x6 (fun r _ x2=>Yz K0 x1 x9 x10 r x2) (Eo x1 x3 x4 x5 x6 (x6.length:Int) x9 x10) :=
 X5 (d:=(Ty.dflt Qp)) hl (fun x8 x2 n=>(by kernel_rfl:_ =
  bif decide (x8<(x6.length:Int)) then
   bif inB x8 x6.length then
    (Vp ((rd x6 x8 (Ty.dflt Qp)).2)).bind fun y3 =>
    (Zz x1 x10.1 ((rd x6 x8 (Ty.dflt Qp)).1)).bind fun y4 =>
    (ED x9 x10 x1 y4 (Tree.node y3.1.val y3.1.kids) false x2).bind fun y5 =>
    Eo x1 x3 x4 x5 x6 (x6.length:Int) x9 x10 (QL x8) y5 n
   else none
  else
   XJ x1 x3 x4 x9 (QL x5) x2 n))
 (fun _ x2=>(h0 _))
 (fun k _ q i x2=>(QI q (Qo fun y3=>(Qo fun y4=>(Qo fun y5=>(i _))))))
theorem QmX {K0} {x1 x3 x4 x5 x6 x9 x10} (hl:Z2 x6) (h0:Cm1 K0 (XJ x1 x3 x4 x9 (QL x5))):XF x6 (fun r _ x2=>Y4 K0 x1 x9 x10 r x2) (Ur x1 x3 x4 x5 x6 (x6.length:Int) x9 x10) :=
 X5 (d:=(Ty.dflt Qr)) hl (fun x8 x2 n=>(by kernel_rfl:_ =
  bif decide (x8<(x6.length:Int)) then
   bif inB x8 x6.length then
    Us x1 x3 x4 x5 x6 (x6.length:Int) x8 ((rd x6 x8 (Ty.dflt Qr)).2) (((rd x6 x8 (Ty.dflt Qr)).2).length:Int) x9 x10 (rd x6 x8 (Ty.dflt Qr)) 0 x2 n
   else none
  else
   Eo x1 x3 x4 x5 x10.2.2 (x10.2.2.length:Int) x9 x10 0 x2 n))
 (fun _ x2=>(QD fun l=>Qlj l h0 _ 0 rfl _))
 (fun k _ q i x2=>(QI q (QD fun l=>QmW l i _ 0 rfl _)))
theorem QmY {x1 x3 x6} (hl:Z2 x3):XF x3 (fun r _ x2=>Y5 x1 x6 r x2) (XJ x1 x3 (x3.length:Int) x6) :=
 X5 (d:=(Ty.dflt Qj)) hl (fun x5 x2 n=>(by kernel_rfl:_ =
  bif decide (x5<(x3.length:Int)) then
   bif inB x5 x3.length then
    Ur x1 x3 (x3.length:Int) x5 (((rd x3 x5 (Ty.dflt Qj)).2).1) ((((rd x3 x5 (Ty.dflt Qj)).2).1).length:Int) x6 (rd x3 x5 (Ty.dflt Qj)) 0 x2 n
   else none
  else
   some x2))
 (fun _ x2=>Qb)
 (fun k _ q i x2=>(QI q (QD fun l=>QmX l i _ 0 rfl _)))
theorem Qrd:Ok_ HX:=okD UD (by kernel_rfl) (Qc QaV (Qc QeB (Qc QjZ Qk)))
 fun ⟨a0,a1,_⟩=>QX (fun n=>(by kernel_rfl:_ =
  XJ a1 a0.2 (a0.2.length:Int) a0 0 [] n))
 (QD fun l=>QmY l _ 0 rfl _)
def ES:Ctr:=QlT 96 [Qe] Qt fun x=>HW x.1
def WX:Kn:=⟨Tryz.f96,[([0,3],[.own 0 3 Qt,.keep 0 11,.keep 0 12,.keep 0 13]),([0,6],[.own 0 3 Qt,.keep 0 5,.keep 0 11,.keep 0 12,.keep 0 13,.keep 0 18,.keep 0 19,.keep 0 20,.boxd 0 5 Qj]),([0,11],[.own 0 3 Qt,.keep 0 5,.keep 0 11,.keep 0 12,.keep 0 13,.keep 0 34,.keep 0 35,.keep 0 36,.boxd 0 5 Qj])],[],[]⟩
abbrev G7 (x2:(List Qf)) (x3:Int) (x4:Int) (x1:(List Qh)) (n:Nat):Option (List Qh):=LO_ WX ES [0,3] [.own 0 Qt x1,.d (.list Qj) x2,.d I64 x3,.d I64 x4] n
abbrev Ep (x2:(List Qf)) (x3:Int) (x4:Int) (x5:(List Qv)) (x6:Int) (x8:Qf) (x7:Int) (x1:(List Qh)) (n:Nat):Option (List Qh):=LO_ WX ES [0,6] [.own 0 Qt x1,.ptr 0 5 0,.d (.list Qj) x2,.d I64 x3,.d I64 x4,.d (.list Qr) x5,.d I64 x6,.d I64 x7,.agg (Qm Qj x8)] n
abbrev Wu (x2:(List Qf)) (x3:Int) (x4:Int) (x5:(List Qq)) (x6:Int) (x8:Qf) (x7:Int) (x1:(List Qh)) (n:Nat):Option (List Qh):=LO_ WX ES [0,11] [.own 0 Qt x1,.ptr 0 5 0,.d (.list Qj) x2,.d I64 x3,.d I64 x4,.d (.list Qp) x5,.d I64 x6,.d I64 x7,.agg (Qm Qj x8)] n
theorem Qj0 {K0} {x2 x3 x4 x5 x8} (hl:Z2 x5) (h0:Cm1 K0 (G7 x2 x3 (QL x4))):XF x5 (fun r _ x1=>VN K0 x8 r x1) (Wu x2 x3 x4 x5 (x5.length:Int) x8) :=
 X5 (d:=(Ty.dflt Qp)) hl (fun x7 x1 n=>(by kernel_rfl:_ =
  bif decide (x7<(x5.length:Int)) then
   bif inB x7 x5.length then
    bif decide (((x1.length:Int)+(([(x8.1,(rd x5 x7 (Ty.dflt Qp)).1,0)]:List Qh).length:Int))*40≤Q4)&&decide ((x1.length:Int)+(([(x8.1,(rd x5 x7 (Ty.dflt Qp)).1,0)]:List Qh).length:Int)≤Q4) then
     Wu x2 x3 x4 x5 (x5.length:Int) x8 (QL x7) (x1++([(x8.1,(rd x5 x7 (Ty.dflt Qp)).1,0)]:List Qh)) n
    else none
   else none
  else
   G7 x2 x3 (QL x4) x1 n))
 (fun _ x1=>(h0 _))
 (fun k _ q i x1=>(QI q (Qd (i _) QC)))
theorem Qlk {K0} {x2 x3 x4 x5 x8} (hl:Z2 x5) (h0:Cm1 K0 (G7 x2 x3 (QL x4))):XF x5 (fun r _ x1=>Gc K0 x8 r x1) (Ep x2 x3 x4 x5 (x5.length:Int) x8) :=
 X5 (d:=(Ty.dflt Qr)) hl (fun x7 x1 n=>(by kernel_rfl:_ =
  bif decide (x7<(x5.length:Int)) then
   bif inB x7 x5.length then
    bif decide (((x1.length:Int)+(([(x8.1,(rd x5 x7 (Ty.dflt Qr)).1,0)]:List Qh).length:Int))*40≤Q4)&&decide ((x1.length:Int)+(([(x8.1,(rd x5 x7 (Ty.dflt Qr)).1,0)]:List Qh).length:Int)≤Q4) then
     Ep x2 x3 x4 x5 (x5.length:Int) x8 (QL x7) (x1++([(x8.1,(rd x5 x7 (Ty.dflt Qr)).1,0)]:List Qh)) n
    else none
   else none
  else
   Wu x2 x3 x4 x8.2.2 (x8.2.2.length:Int) x8 0 x1 n))
 (fun _ x1=>(QD fun l=>Qj0 l h0 _ 0 rfl _))
 (fun k _ q i x1=>(QI q (Qd (i _) QC)))
theorem Qll {x2} (hl:Z2 x2):XF x2 (fun r _ x1=>Gd r x1) (G7 x2 (x2.length:Int)) :=
 X5 (d:=(Ty.dflt Qj)) hl (fun x4 x1 n=>(by kernel_rfl:_ =
  bif decide (x4<(x2.length:Int)) then
   bif inB x4 x2.length then
    Ep x2 (x2.length:Int) x4 (((rd x2 x4 (Ty.dflt Qj)).2).1) ((((rd x2 x4 (Ty.dflt Qj)).2).1).length:Int) (rd x2 x4 (Ty.dflt Qj)) 0 x1 n
   else none
  else
   some x1))
 (fun _ x1=>Qb)
 (fun k _ q i x1=>(QI q (QD fun l=>Qlk l i _ 0 rfl _)))
theorem QpI:Ok_ ES:=okO WX (by kernel_rfl) Qk
 fun ⟨a0,_⟩=>QX (fun n=>(by kernel_rfl:_ =
  G7 a0.2 (a0.2.length:Int) 0 [] n))
 (QD fun l=>Qll l _ 0 rfl _)
def Qiu:Ctr:=Ek 96 [Qe] [(.list Qt)] fun x=>HW x.1
theorem QpJ:G4 Tryz.prog (Qiu):=QjF (by kernel_rfl) (by kernel_rfl) QpI
def UE:Ctr:=QlT 97 [Qe,(.list Qt)] QJ fun x=>VD x.1 x.2.1
def HY:Kn:=⟨Tryz.f97,[([0,3],[.keep 0 1,.keep 0 2,.own 0 5 QJ,.keep 0 17,.keep 0 18,.keep 0 19,.boxd 0 2 Qe]),([0,6],[.keep 0 1,.keep 0 2,.own 0 5 QJ,.keep 0 7,.keep 0 17,.keep 0 18,.keep 0 19,.keep 0 24,.keep 0 25,.keep 0 26,.boxd 0 2 Qe,.boxd 0 7 Qj]),([0,9],[.keep 0 1,.keep 0 2,.own 0 5 QJ,.keep 0 7,.keep 0 9,.keep 0 17,.keep 0 18,.keep 0 19,.keep 0 24,.keep 0 25,.keep 0 26,.keep 0 31,.keep 0 32,.keep 0 33,.boxd 0 2 Qe,.boxd 0 7 Qj,.boxd 0 9 Qr]),([0,16],[.keep 0 1,.keep 0 2,.own 0 5 QJ,.keep 0 7,.keep 0 17,.keep 0 18,.keep 0 19,.keep 0 59,.keep 0 60,.keep 0 61,.boxd 0 2 Qe,.boxd 0 7 Qj])],[([19011],4009414)],[Wt,Qct,Qgn]⟩
abbrev G8 (x1:(List Qh)) (x3:(List Qf)) (x4:Int) (x6:Qa) (x5:Int) (x2:(List Qu)) (n:Nat):Option (List Qu):=LO_ HY UE [0,3] [.d (.list Qt) x1,.ptr 0 2 0,.own 0 QJ x2,.d (.list Qj) x3,.d I64 x4,.d I64 x5,.agg (Qm Qe x6)] n
abbrev HM (x1:(List Qh)) (x3:(List Qf)) (x4:Int) (x5:Int) (x6:(List Qv)) (x7:Int) (x9:Qa) (x10:Qf) (x8:Int) (x2:(List Qu)) (n:Nat):Option (List Qu):=LO_ HY UE [0,6] [.d (.list Qt) x1,.ptr 0 2 0,.own 0 QJ x2,.ptr 0 7 0,.d (.list Qj) x3,.d I64 x4,.d I64 x5,.d (.list Qr) x6,.d I64 x7,.d I64 x8,.agg (Qm Qe x9),.agg (Qm Qj x10)] n
abbrev HN (x1:(List Qh)) (x3:(List Qf)) (x4:Int) (x5:Int) (x6:(List Qv)) (x7:Int) (x8:Int) (x9:(List Qx)) (x10:Int) (x12:Qa) (x13:Qf) (x14:Qv) (x11:Int) (x2:(List Qu)) (n:Nat):Option (List Qu):=LO_ HY UE [0,9] [.d (.list Qt) x1,.ptr 0 2 0,.own 0 QJ x2,.ptr 0 7 0,.ptr 0 9 0,.d (.list Qj) x3,.d I64 x4,.d I64 x5,.d (.list Qr) x6,.d I64 x7,.d I64 x8,.d (.list Qg) x9,.d I64 x10,.d I64 x11,.agg (Qm Qe x12),.agg (Qm Qj x13),.agg (Qm Qr x14)] n
abbrev Wv (x1:(List Qh)) (x3:(List Qf)) (x4:Int) (x5:Int) (x6:(List Qq)) (x7:Int) (x9:Qa) (x10:Qf) (x8:Int) (x2:(List Qu)) (n:Nat):Option (List Qu):=LO_ HY UE [0,16] [.d (.list Qt) x1,.ptr 0 2 0,.own 0 QJ x2,.ptr 0 7 0,.d (.list Qj) x3,.d I64 x4,.d I64 x5,.d (.list Qp) x6,.d I64 x7,.d I64 x8,.agg (Qm Qe x9),.agg (Qm Qj x10)] n
theorem Qlm {K1} {x1 x3 x4 x5 x6 x7 x8 x9 x12 x13 x14} (hl:Z2 x9) (h1:Cm1 K1 (HM x1 x3 x4 x5 x6 x7 x12 x13 (QL x8))):XF x9 (fun r _ x2=>Yg K1 x1 x13 x14 r x2) (HN x1 x3 x4 x5 x6 x7 x8 x9 (x9.length:Int) x12 x13 x14) :=
 X5 (d:=(Ty.dflt Qg)) hl (fun x11 x2 n=>(by kernel_rfl:_ =
  bif decide (x11<(x9.length:Int)) then
   bif inB x11 x9.length then
    bif !decide (((rd x9 x11 (Ty.dflt Qg)).2).1=([]:List Int)) then
     (Zz x1 x13.1 x14.1).bind fun y1 =>
     (Zz x1 ((rd x9 x11 (Ty.dflt Qg)).1) (((rd x9 x11 (Ty.dflt Qg)).2).1)).bind fun y2 =>
     bif decide (((x2.length:Int)+(([(y1,y2,false)]:List Qu).length:Int))*24≤Q4)&&decide ((x2.length:Int)+(([(y1,y2,false)]:List Qu).length:Int)≤Q4) then
      HN x1 x3 x4 x5 x6 x7 x8 x9 (x9.length:Int) x12 x13 x14 (QL x11) (x2++([(y1,y2,false)]:List Qu)) n
     else none
    else
     HN x1 x3 x4 x5 x6 x7 x8 x9 (x9.length:Int) x12 x13 x14 (QL x11) x2 n
   else none
  else
   HM x1 x3 x4 x5 x6 x7 x12 x13 (QL x8) x2 n))
 (fun _ x2=>(h1 _))
 (fun k _ q i x2=>(QI q (Qd (Qo fun y1=>(Qo fun y2=>(Qd (i _) QC))) (i _))))
theorem Qj1 {K0} {x1 x3 x4 x5 x6 x9 x10} (hl:Z2 x6) (h0:Cm1 K0 (G8 x1 x3 x4 x9 (QL x5))):XF x6 (fun r _ x2=>Yz K0 x1 x9 x10 r x2) (Wv x1 x3 x4 x5 x6 (x6.length:Int) x9 x10) :=
 X5 (d:=(Ty.dflt Qp)) hl (fun x8 x2 n=>(by kernel_rfl:_ =
  bif decide (x8<(x6.length:Int)) then
   bif inB x8 x6.length then
    (Vp ((rd x6 x8 (Ty.dflt Qp)).2)).bind fun y3 =>
    (Zz x1 x10.1 ((rd x6 x8 (Ty.dflt Qp)).1)).bind fun y4 =>
    (ED x9 x10 x1 y4 (Tree.node y3.1.val y3.1.kids) false x2).bind fun y5 =>
    Wv x1 x3 x4 x5 x6 (x6.length:Int) x9 x10 (QL x8) y5 n
   else none
  else
   G8 x1 x3 x4 x9 (QL x5) x2 n))
 (fun _ x2=>(h0 _))
 (fun k _ q i x2=>(QI q (Qo fun y3=>(Qo fun y4=>(Qo fun y5=>(i _))))))
theorem Qln {K0} {x1 x3 x4 x5 x6 x9 x10} (hl:Z2 x6) (h0:Cm1 K0 (G8 x1 x3 x4 x9 (QL x5))):XF x6 (fun r _ x2=>Y4 K0 x1 x9 x10 r x2) (HM x1 x3 x4 x5 x6 (x6.length:Int) x9 x10) :=
 X5 (d:=(Ty.dflt Qr)) hl (fun x8 x2 n=>(by kernel_rfl:_ =
  bif decide (x8<(x6.length:Int)) then
   bif inB x8 x6.length then
    HN x1 x3 x4 x5 x6 (x6.length:Int) x8 ((rd x6 x8 (Ty.dflt Qr)).2) (((rd x6 x8 (Ty.dflt Qr)).2).length:Int) x9 x10 (rd x6 x8 (Ty.dflt Qr)) 0 x2 n
   else none
  else
   Wv x1 x3 x4 x5 x10.2.2 (x10.2.2.length:Int) x9 x10 0 x2 n))
 (fun _ x2=>(QD fun l=>Qj1 l h0 _ 0 rfl _))
 (fun k _ q i x2=>(QI q (QD fun l=>Qlm l i _ 0 rfl _)))
theorem Qlo {x1 x3 x6} (hl:Z2 x3):XF x3 (fun r _ x2=>Y5 x1 x6 r x2) (G8 x1 x3 (x3.length:Int) x6) :=
 X5 (d:=(Ty.dflt Qj)) hl (fun x5 x2 n=>(by kernel_rfl:_ =
  bif decide (x5<(x3.length:Int)) then
   bif inB x5 x3.length then
    HM x1 x3 (x3.length:Int) x5 (((rd x3 x5 (Ty.dflt Qj)).2).1) ((((rd x3 x5 (Ty.dflt Qj)).2).1).length:Int) x6 (rd x3 x5 (Ty.dflt Qj)) 0 x2 n
   else none
  else
   some x2))
 (fun _ x2=>Qb)
 (fun k _ q i x2=>(QI q (QD fun l=>Qln l i _ 0 rfl _)))
theorem QpK:Ok_ UE:=okO HY (by kernel_rfl) (Qc QaV (Qc QeB (Qc QjZ Qk)))
 fun ⟨a0,a1,_⟩=>QX (fun n=>(by kernel_rfl:_ =
  G8 a1 a0.2 (a0.2.length:Int) a0 0 [] n))
 (QD fun l=>Qlo l _ 0 rfl _)
def Qiv:Ctr:=Ek 97 [Qe,(.list Qt)] [(.list QJ)] fun x=>VD x.1 x.2.1
theorem QpL:G4 Tryz.prog (Qiv):=QjF (by kernel_rfl) (by kernel_rfl) QpK
def Gv (K1:(List Qh)→Bool→Option ((List Qh) × Bool)) (x1:(List Qh)) (x4:Bool) (x5:Int) (x8:Qu):Option ((List Qh) × Bool):=bif inB x8.1 x1.length then bif inB x8.1 x1.length&&true then bif decide (((rd x1 x8.1 (Ty.dflt Qt)).2).2<x5) then bif inB x8.1 x1.length then bif inB x8.1 x1.length&&true&&true&&true&&true then bif decide (((x1.set (Int.toNat x8.1) ((rd x1 x8.1 (Ty.dflt Qt)).1,((rd x1 x8.1 (Ty.dflt Qt)).2).1,x5)).length:Int)<x5) then some ([],false) else K1 (x1.set (Int.toNat x8.1) ((rd x1 x8.1 (Ty.dflt Qt)).1,((rd x1 x8.1 (Ty.dflt Qt)).2).1,x5)) false else none else none else bif decide ((x1.length:Int)<x5) then some ([],false) else K1 x1 x4 else none else none
def QY (K0:(List Qh)→Int→Option ((List Qh) × Bool)) (x3:Int):List Qu→(List Qh)→Bool→Option ((List Qh) × Bool) | [],x1,x4=>bif x4 then some (x1,true) else K0 x1 (IntKind.wrap .i64 (x3+1)) | e::rest,x1,x4=>bif true&&true then bif inB (((e).2).1) x1.length then bif inB (((e).2).1) x1.length&&true then bif ((e).2).2 then Gv (fun s0 s1=>QY K0 x3 rest s0 s1) x1 x4 (IntKind.wrap .i64 ((((rd x1 (((e).2).1) (Ty.dflt Qt)).2).2)+1)) (e) else Gv (fun s0 s1=>QY K0 x3 rest s0 s1) x1 x4 (((rd x1 (((e).2).1) (Ty.dflt Qt)).2).2) (e) else none else none else none
def YA (x2:(List Qu)):Nat→(List Qh)→Int→Option ((List Qh) × Bool) | 0,_,_=>none | m+1,x1,x3=>bif decide (x3≤IntKind.wrap .i64 ((x1.length:Int)+1)) then QV x2 (QY (fun s0 s1=>YA x2 m s0 s1) x3 x2 x1 true) else some ([],false)
def Qdb (m:Nat) (a0:Qa):Option ((List Qh) × Bool):=(HW a0).bind fun y1=>(VD a0 y1).bind fun y2=>YA y2 m y1 0
def Q8 (a0:Qa):Option ((List Qh) × Bool):=QaF fun m=>Qdb m a0
def ET:Ctr:=⟨47,[Qe],[(.list Qt),.bool],fun x=>Q8 x.1⟩
def WY:Ctr:=Ek 47 [Qe] [(.list Qt),.bool] fun x=>Q8 x.1
def U5:Kn:=⟨Tryz.f47,[([0,4],[.drb 0 4 Qt,.drb 0 5 QJ,.keep 0 6]),([0,8],[.same 0 23 0 5,.drb 0 4 Qt,.drb 0 5 QJ,.keep 0 6,.keep 0 7,.keep 0 24,.keep 0 25]),([1,13],[.same 0 23 0 5,.drb 0 4 Qt,.drb 0 5 QJ,.keep 0 6,.keep 0 7,.keep 0 9,.keep 0 10,.keep 0 24,.keep 0 25,.boxd 0 9 QJ])],[([1001],2000096),([2002],2000097)],[Qiu,Qiv]⟩
abbrev Hp (x2:(List Qu)) (x1:(List Qh)) (x3:Int) (n:Nat):Option ((List Qh) × Bool):=LP_ U5 WY [0,4] [.d (.list Qt) x1,.d (.list QJ) x2,.d I64 x3] n
abbrev Gw (x2:(List Qu)) (x3:Int) (x5:Int) (x6:Int) (x1:(List Qh)) (x4:Bool) (n:Nat):Option ((List Qh) × Bool):=LP_ U5 WY [0,8] [.nils,.d (.list Qt) x1,.d (.list QJ) x2,.d I64 x3,.d .bool x4,.d I64 x5,.d I64 x6] n
abbrev UW (x1:(List Qh)) (x2:(List Qu)) (x3:Int) (x4:Bool) (x5:Int) (x6:Int) (x7:Int) (x8:Qu) (n:Nat):Option ((List Qh) × Bool):=LP_ U5 WY [1,13] [.nils,.d (.list Qt) x1,.d (.list QJ) x2,.d I64 x3,.d .bool x4,.ptr 0 9 0,.d I64 x5,.d I64 x6,.d I64 x7,.agg (Qm QJ x8)] n
theorem Qbv {K1} {x1 x2 x3 x4 x5 x6 x7 x8} (h1:Cm2 K1 (Gw x2 x3 x6 (QL x7))):Cm (Gv K1 x1 x4 x5 x8) (UW x1 x2 x3 x4 x5 x6 x7 x8) :=
 Jk (fun n=>(by kernel_rfl:_ =
  bif inB x8.1 x1.length then
   bif inB x8.1 x1.length&&true then
    bif decide (((rd x1 x8.1 (Ty.dflt Qt)).2).2<x5) then
     bif inB x8.1 x1.length then
      bif inB x8.1 x1.length&&true&&true&&true&&true then
       bif decide (((x1.set (Int.toNat x8.1) ((rd x1 x8.1 (Ty.dflt Qt)).1,((rd x1 x8.1 (Ty.dflt Qt)).2).1,x5)).length:Int)<x5) then
        some ([],false)
       else
        Gw x2 x3 x6 (QL x7) (x1.set (Int.toNat x8.1) ((rd x1 x8.1 (Ty.dflt Qt)).1,((rd x1 x8.1 (Ty.dflt Qt)).2).1,x5)) false n
      else none
     else none
    else
     bif decide ((x1.length:Int)<x5) then
      some ([],false)
     else
      Gw x2 x3 x6 (QL x7) x1 x4 n
   else none
  else none))
 (Qd (Qd (Qd (Qd (Qd (Qd Qb (h1 _ _)) QC) QC) (Qd Qb (h1 _ _))) QC) QC)
theorem Qj2 {K0} {x2 x3} (hl:Z2 x2) (h0:Cm2 K0 (Hp x2)):QuH x2 (fun r _ x1 x4=>QY K0 x3 r x1 x4) (Gw x2 x3 (x2.length:Int)) :=
 QwW (d:=(Ty.dflt QJ)) hl (fun x6 x1 x4 n=>(by kernel_rfl:_ =
  bif decide (x6<(x2.length:Int)) then
   bif inB x6 x2.length then
    bif inB x6 x2.length&&true then
     bif inB (((rd x2 x6 (Ty.dflt QJ)).2).1) x1.length then
      bif inB (((rd x2 x6 (Ty.dflt QJ)).2).1) x1.length&&true then
       bif ((rd x2 x6 (Ty.dflt QJ)).2).2 then
        UW x1 x2 x3 x4 (QL (((rd x1 (((rd x2 x6 (Ty.dflt QJ)).2).1) (Ty.dflt Qt)).2).2)) (x2.length:Int) x6 (rd x2 x6 (Ty.dflt QJ)) n
       else
        UW x1 x2 x3 x4 (((rd x1 (((rd x2 x6 (Ty.dflt QJ)).2).1) (Ty.dflt Qt)).2).2) (x2.length:Int) x6 (rd x2 x6 (Ty.dflt QJ)) n
      else none
     else none
    else none
   else none
  else
   bif x4 then
    some (x1,true)
   else
    Hp x2 x1 (QL x3) n))
 (fun _ x1 x4=>(Qd Qb (h0 _ _)))
 (fun k _ q i x1 x4=>(QI q (QAz (by rw [YS q]) (Qd (Qd (Qd (Qbv i) (Qbv i)) QC) QC) QC)))
theorem Qj3 {x2}:∀ m x1 x3,Cm (YA x2 m x1 x3) (Hp x2 x1 x3) :=
 QwX (p:=(YA x2)) (fun x1 x3 n=>(by kernel_rfl:_ =
  bif decide (x3≤IntKind.wrap .i64 ((x1.length:Int)+1)) then
   Gw x2 x3 (x2.length:Int) 0 x1 true n
  else
   some ([],false)))
 (fun _ _=>rfl)
 (fun m i x1 x3=>(Qd (QD fun l=>Qj2 l i _ 0 rfl _ _) Qb))
theorem Qn9:Ok_ WY:=okP U5 (by kernel_rfl) (Qc QpJ (Qc QpL Qk))
 fun ⟨a0,_⟩=>QmO fun m=>QX (fun n=>(by kernel_rfl:_ =
  (HW a0).bind fun y1 =>
  (VD a0 y1).bind fun y2 =>
  Hp y2 y1 0 n))
 (Qo fun y1=>(Qo fun y2=>(Qj3 _ _ _)))
theorem QbY:Ok_ ET:=QlV (by kernel_rfl) Qn9
def ZX (x4:Qa):List Qf→Nat→Option Bool | [],k=>(Q8 x4).bind fun y5=>some y5.2 | e::rest,k=>(Hn x4 (e)).bind fun y3=>bif !(y3) then some false else bif decide ((0:Int)<(k:Int)) then bif inB (IntKind.wrap .i64 ((k:Int) - 1)) x4.2.length then (QW ((rd x4.2 (IntKind.wrap .i64 ((k:Int) - 1)) (Ty.dflt Qj)).1) ((e).1)).bind fun y4=>bif decide ((0:Int)≤y4) then some false else ZX x4 rest (k+1) else none else ZX x4 rest (k+1)
def Ja (x4:Qa):List Q0→Nat→Option Bool | [],k=>QV x4.2 (ZX x4 x4.2 0) | e::rest,k=>(Hk (e)).bind fun y1=>bif !(y1) then some false else bif decide ((0:Int)<(k:Int)) then bif inB (IntKind.wrap .i64 ((k:Int) - 1)) x4.1.length then (QW ((rd x4.1 (IntKind.wrap .i64 ((k:Int) - 1)) (Ty.dflt QB)).1) ((e).1)).bind fun y2=>bif decide ((0:Int)≤y2) then some false else Ja x4 rest (k+1) else none else Ja x4 rest (k+1)
def QU (a0:Qa):Option Bool:=bif decide ((8:Int)<(a0.1.length:Int)) then some false else bif decide ((12:Int)<(a0.2.length:Int)) then some false else QV a0.1 (Ja a0 a0.1 0)
def Gx:Ctr:=⟨20,[Qe],[.bool],fun x=>QU x.1⟩
def UX:Kn:=⟨Tryz.f20,[([0,4],[.keep 0 1,.keep 0 20,.keep 0 21,.keep 0 22,.boxd 0 1 Qe]),([0,10],[.keep 0 1,.keep 0 49,.keep 0 50,.keep 0 51,.boxd 0 1 Qe])],[],[U3,Vb,GK,ET]⟩
abbrev Gp (x1:(List Q0)) (x2:Int) (x4:Qa) (x3:Int) (n:Nat):Option Bool:=LD_ UX Gx [0,4] [.ptr 0 1 0,.d (.list QB) x1,.d I64 x2,.d I64 x3,.agg (Qm Qe x4)] n
abbrev V0 (x1:(List Qf)) (x2:Int) (x4:Qa) (x3:Int) (n:Nat):Option Bool:=LD_ UX Gx [0,10] [.ptr 0 1 0,.d (.list Qj) x1,.d I64 x2,.d I64 x3,.agg (Qm Qe x4)] n
theorem Qfr {x1 x4} (hl:Z2 x1):Jy x1 (ZX x4) (V0 x1 (x1.length:Int) x4) :=
 JN (d:=(Ty.dflt Qj)) hl (fun x3 n=>(by kernel_rfl:_ =
  bif decide (x3<(x1.length:Int)) then
   bif inB x3 x1.length then
    (Hn x4 (rd x1 x3 (Ty.dflt Qj))).bind fun y3 =>
    bif !(y3) then
     some false
    else
     bif decide ((0:Int)<x3) then
      bif inB (IntKind.wrap .i64 (x3 - 1)) x4.2.length then
       (QW ((rd x4.2 (IntKind.wrap .i64 (x3 - 1)) (Ty.dflt Qj)).1) ((rd x1 x3 (Ty.dflt Qj)).1)).bind fun y4 =>
       bif decide ((0:Int)≤y4) then
        some false
       else
        V0 x1 (x1.length:Int) x4 (QL x3) n
      else none
     else
      V0 x1 (x1.length:Int) x4 (QL x3) n
   else none
  else
   (Q8 x4).bind fun y5 =>
   some y5.2))
 (fun _=>(Qo fun y5=>Qb))
 (fun k _ q i=>(QI q (Qo fun y3=>(Qd Qb (Qd (Qd (Qo fun y4=>(Qd Qb i)) QC) i)))))
theorem Qgo {x1 x4} (hl:Z2 x1):Jy x1 (Ja x4) (Gp x1 (x1.length:Int) x4) :=
 JN (d:=(Ty.dflt QB)) hl (fun x3 n=>(by kernel_rfl:_ =
  bif decide (x3<(x1.length:Int)) then
   bif inB x3 x1.length then
    (Hk (rd x1 x3 (Ty.dflt QB))).bind fun y1 =>
    bif !(y1) then
     some false
    else
     bif decide ((0:Int)<x3) then
      bif inB (IntKind.wrap .i64 (x3 - 1)) x4.1.length then
       (QW ((rd x4.1 (IntKind.wrap .i64 (x3 - 1)) (Ty.dflt QB)).1) ((rd x1 x3 (Ty.dflt QB)).1)).bind fun y2 =>
       bif decide ((0:Int)≤y2) then
        some false
       else
        Gp x1 (x1.length:Int) x4 (QL x3) n
      else none
     else
      Gp x1 (x1.length:Int) x4 (QL x3) n
   else none
  else
   V0 x4.2 (x4.2.length:Int) x4 0 n))
 (fun _=>(QD fun l=>Qfr l _ 0 rfl))
 (fun k _ q i=>(QI q (Qo fun y1=>(Qd Qb (Qd (Qd (Qo fun y2=>(Qd Qb i)) QC) i)))))
theorem Qbw:Ok_ Gx:=okD UX (by kernel_rfl) (Qc QmS (Qc GI (Qc QmU (Qc QbY Qk))))
 fun ⟨a0,_⟩=>QX (fun n=>(by kernel_rfl:_ =
  bif decide ((8:Int)<(a0.1.length:Int)) then
   some false
  else
   bif decide ((12:Int)<(a0.2.length:Int)) then
    some false
   else
    Gp a0.1 (a0.1.length:Int) a0 0 n))
 (Qd Qb (Qd Qb (QD fun l=>Qgo l _ 0 rfl)))
def Yk (x1:(List Int)):List Int→Option Bool | []=>bif decide ((1:Int)≤(x1.length:Int)) then some (decide ((x1.length:Int)≤40)) else some false | e::rest=>bif !(GS (e)) then bif !(Vu (e)) then bif !decide (e=95) then bif !decide (e=45) then bif !decide (e=46) then some false else Yk x1 rest else Yk x1 rest else Yk x1 rest else Yk x1 rest else Yk x1 rest
def Ww (a0:(List Int)):Option Bool:=QV a0 (Yk a0 a0)
def Qj4:Ctr:=⟨50,[.str],[.bool],fun x=>Ww x.1⟩
def Qoa:Kn:=⟨Tryz.f50,[([0,2],[.keep 0 0,.keep 0 3])],[],[Qc8,Qex]⟩
abbrev GU (x1:(List Int)) (x2:Int) (n:Nat):Option Bool:=LD_ Qoa Qj4 [0,2] [.d .str x1,.d I64 x2] n
theorem Qre {x1} (hl:Z2 x1):Jy x1 (fun r _=>Yk x1 r) (GU x1) :=
 JN (d:=0) hl (fun x2 n=>(by kernel_rfl:_ =
  bif decide (x2<(x1.length:Int)) then
   bif inB x2 x1.length then
    bif !(GS (rd x1 x2 0)) then
     bif inB x2 x1.length then
      bif !(Vu (rd x1 x2 0)) then
       bif inB x2 x1.length then
        bif !decide (rd x1 x2 0=95) then
         bif inB x2 x1.length then
          bif !decide (rd x1 x2 0=45) then
           bif inB x2 x1.length then
            bif !decide (rd x1 x2 0=46) then
             some false
            else
             GU x1 (QL x2) n
           else none
          else
           GU x1 (QL x2) n
         else none
        else
         GU x1 (QL x2) n
       else none
      else
       GU x1 (QL x2) n
     else none
    else
     GU x1 (QL x2) n
   else none
  else
   bif decide ((1:Int)≤(x1.length:Int)) then
    some (decide ((x1.length:Int)≤40))
   else
    some false))
 (fun _=>(Qd Qb Qb))
 (fun k _ q i=>(QI q (Qd (QI q (Qd (QI q (Qd (QI q (Qd (QI q (Qd Qb i)) i)) i)) i)) i)))
theorem QvU:Ok_ Qj4:=okD Qoa (by kernel_rfl) (Qc QgU (Qc Qir Qk))
 fun ⟨a0,_⟩=>QX (fun n=>(by kernel_rfl:_ =
  GU a0 0 n))
 (QD fun l=>Qre l _ 0 rfl)
def Wx (a0:Xg):Bool:=bif decide (a0.1=0) then bif @decide (a0.2.1=(0,0,([]:List Int),([]:List Int))) (Ty.decEq QN a0.2.1 (0,0,([]:List Int),([]:List Int))) then bif decide ((a0.2.2.1.length:Int)=0) then decide ((a0.2.2.2.length:Int)=0) else false else false else false
def Qj5:Ctr:=⟨51,[Vi],[.bool],fun x=>some (Wx x.1)⟩
theorem Qrf:Ok_ Qj5:=okD ⟨Tryz.f51,[],[],[]⟩ (by kernel_rfl) Qk
 fun ⟨a0,_⟩=>QX (fun n=>(by kernel_rfl:_ =
  bif decide (a0.1=0) then
   bif @decide (a0.2.1=(0,0,([]:List Int),([]:List Int))) (Ty.decEq QN a0.2.1 (0,0,([]:List Int),([]:List Int))) then
    bif decide ((a0.2.2.1.length:Int)=0) then
     some (decide ((a0.2.2.2.length:Int)=0))
    else
     some false
   else
    some false
  else
   some false))
 (Qev (Zj (Zj (Zj rfl rfl) rfl) rfl))
def QaY (a0:YT) (a1:YT):Option Int:=bif !decide (Z3 a0.1 a1.1=0) then some (Z3 a0.1 a1.1) else bif !decide (Z3 a0.2.1 a1.2.1=0) then some (Z3 a0.2.1 a1.2.1) else (QW a0.2.2.2 a1.2.2.2).bind fun y1=>bif !decide (y1=0) then some y1 else (QW a0.2.2.1 a1.2.2.1).bind fun y2=>some y2
def Qob:Ctr:=⟨148,[QN,QN],[I64],fun x=>QaY x.1 x.2.1⟩
theorem Qt4:Ok_ Qob:=okS ⟨Tryz.f148,[],[],[Qc9,Vb]⟩ (by kernel_rfl) (Qc QgW (Qc GI Qk)) fun _=>by kernel_rfl
def YJ (x4:Xg):List (List Int)→Nat→Option Bool | [],k=>some true | e::rest,k=>(Zc (e)).bind fun y4=>bif !(y4) then some false else bif decide ((0:Int)<(k:Int)) then bif inB (IntKind.wrap .i64 ((k:Int) - 1)) x4.2.2.2.length then (QW (rd x4.2.2.2 (IntKind.wrap .i64 ((k:Int) - 1)) (Ty.dflt .str)) (e)).bind fun y5=>bif decide ((0:Int)≤y5) then some false else YJ x4 rest (k+1) else none else YJ x4 rest (k+1)
def Jz (x4:Xg):List YT→Nat→Option Bool | [],k=>bif decide (x4.1=2) then some (decide ((x4.2.2.2.length:Int)=0)) else bif !decide ((x4.2.2.2.length:Int)=(x4.2.2.1.length:Int)) then some false else QV x4.2.2.2 (YJ x4 x4.2.2.2 0) | e::rest,k=>(YY (e)).bind fun y2=>bif !(y2) then some false else bif decide (x4.1=2) then bif decide ((0:Int)<(k:Int)) then bif inB (IntKind.wrap .i64 ((k:Int) - 1)) x4.2.2.1.length then (QaY (rd x4.2.2.1 (IntKind.wrap .i64 ((k:Int) - 1)) (Ty.dflt QN)) (e)).bind fun y3=>bif decide ((0:Int)≤y3) then some false else Jz x4 rest (k+1) else none else Jz x4 rest (k+1) else Jz x4 rest (k+1)
def Hq (x1:Bool) (x2:Xg):Option Bool:=bif x1 then bif !@decide (x2.2.1=(0,0,([]:List Int),([]:List Int))) (Ty.decEq QN x2.2.1 (0,0,([]:List Int),([]:List Int))) then some false else bif decide ((50:Int)<(x2.2.2.1.length:Int)) then some false else QV x2.2.2.1 (Jz x2 x2.2.2.1 0) else some false
def WZ (a0:Xg):Option Bool:=bif decide (a0.1=1) then (YY a0.2.1).bind fun y1=>bif y1 then bif decide ((a0.2.2.1.length:Int)=0) then some (decide ((a0.2.2.2.length:Int)=0)) else some false else some false else bif decide (a0.1=2) then Hq (decide (a0.1=2)) a0 else Hq (decide (a0.1=3)) a0
def HZ:Ctr:=⟨100,[Vi],[.bool],fun x=>WZ x.1⟩
def U6:Kn:=⟨Tryz.f100,[([1,6],[.keep 0 1,.keep 0 26,.boxd 0 1 Vi]),([0,9],[.keep 0 1,.keep 0 40,.keep 0 41,.keep 0 42,.boxd 0 1 Vi]),([0,19],[.keep 0 1,.keep 0 86,.keep 0 87,.keep 0 88,.boxd 0 1 Vi])],[],[UC,Qob,Hc,Vb]⟩
abbrev Wy (x1:Bool) (x2:Xg) (n:Nat):Option Bool:=LD_ U6 HZ [1,6] [.ptr 0 1 0,.d .bool x1,.agg (Qm Vi x2)] n
abbrev Gy (x1:(List YT)) (x2:Int) (x4:Xg) (x3:Int) (n:Nat):Option Bool:=LD_ U6 HZ [0,9] [.ptr 0 1 0,.d (.list QN) x1,.d I64 x2,.d I64 x3,.agg (Qm Vi x4)] n
abbrev XY (x1:(List (List Int))) (x2:Int) (x4:Xg) (x3:Int) (n:Nat):Option Bool:=LD_ U6 HZ [0,19] [.ptr 0 1 0,.d (.list .str) x1,.d I64 x2,.d I64 x3,.agg (Qm Vi x4)] n
theorem Qi0 {x1 x4} (hl:Z2 x1):Jy x1 (YJ x4) (XY x1 (x1.length:Int) x4) :=
 JN (d:=(Ty.dflt .str)) hl (fun x3 n=>(by kernel_rfl:_ =
  bif decide (x3<(x1.length:Int)) then
   bif inB x3 x1.length then
    (Zc (rd x1 x3 (Ty.dflt .str))).bind fun y4 =>
    bif !(y4) then
     some false
    else
     bif decide ((0:Int)<x3) then
      bif inB (IntKind.wrap .i64 (x3 - 1)) x4.2.2.2.length then
       (QW (rd x4.2.2.2 (IntKind.wrap .i64 (x3 - 1)) (Ty.dflt .str)) (rd x1 x3 (Ty.dflt .str))).bind fun y5 =>
       bif decide ((0:Int)≤y5) then
        some false
       else
        XY x1 (x1.length:Int) x4 (QL x3) n
      else none
     else
      XY x1 (x1.length:Int) x4 (QL x3) n
   else none
  else
   some true))
 (fun _=>Qb)
 (fun k _ q i=>(QI q (Qo fun y4=>(Qd Qb (Qd (Qd (Qo fun y5=>(Qd Qb i)) QC) i)))))
theorem Qj6 {x1 x4} (hl:Z2 x1):Jy x1 (Jz x4) (Gy x1 (x1.length:Int) x4) :=
 JN (d:=(Ty.dflt QN)) hl (fun x3 n=>(by kernel_rfl:_ =
  bif decide (x3<(x1.length:Int)) then
   bif inB x3 x1.length then
    (YY (rd x1 x3 (Ty.dflt QN))).bind fun y2 =>
    bif !(y2) then
     some false
    else
     bif decide (x4.1=2) then
      bif decide ((0:Int)<x3) then
       bif inB (IntKind.wrap .i64 (x3 - 1)) x4.2.2.1.length then
        (QaY (rd x4.2.2.1 (IntKind.wrap .i64 (x3 - 1)) (Ty.dflt QN)) (rd x1 x3 (Ty.dflt QN))).bind fun y3 =>
        bif decide ((0:Int)≤y3) then
         some false
        else
         Gy x1 (x1.length:Int) x4 (QL x3) n
       else none
      else
       Gy x1 (x1.length:Int) x4 (QL x3) n
     else
      Gy x1 (x1.length:Int) x4 (QL x3) n
   else none
  else
   bif decide (x4.1=2) then
    some (decide ((x4.2.2.2.length:Int)=0))
   else
    bif !decide ((x4.2.2.2.length:Int)=(x4.2.2.1.length:Int)) then
     some false
    else
     XY x4.2.2.2 (x4.2.2.2.length:Int) x4 0 n))
 (fun _=>(Qd Qb (Qd Qb (QD fun l=>Qi0 l _ 0 rfl))))
 (fun k _ q i=>(QI q (Qo fun y2=>(Qd Qb (Qd (Qd (Qd (Qo fun y3=>(Qd Qb i)) QC) i) i)))))
theorem QcN {x1 x2}:Cm (Hq x1 x2) (Wy x1 x2) :=
 Jk (fun n=>(by kernel_rfl:_ =
  bif x1 then
   bif !@decide (x2.2.1=(0,0,([]:List Int),([]:List Int))) (Ty.decEq QN x2.2.1 (0,0,([]:List Int),([]:List Int))) then
    some false
   else
    bif decide ((50:Int)<(x2.2.2.1.length:Int)) then
     some false
    else
     Gy x2.2.2.1 (x2.2.2.1.length:Int) x2 0 n
  else
   some false))
 (Qd (Qd Qb (Qd Qb (QD fun l=>Qj6 l _ 0 rfl))) Qb)
theorem Qoc:Ok_ HZ:=okD U6 (by kernel_rfl) (Qc QgX (Qc Qt4 (Qc WW (Qc GI Qk))))
 fun ⟨a0,_⟩=>QX (fun n=>(by kernel_rfl:_ =
  bif decide (a0.1=1) then
   (YY a0.2.1).bind fun y1 =>
   bif y1 then
    bif decide ((a0.2.2.1.length:Int)=0) then
     some (decide ((a0.2.2.2.length:Int)=0))
    else
     some false
   else
    some false
  else
   bif decide (a0.1=2) then
    Wy (decide (a0.1=2)) a0 n
   else
    Wy (decide (a0.1=3)) a0 n))
 (Qd (Qo fun y1=>(Qd (Qd Qb Qb) Qb)) (Qd QcN QcN))
def UF (a0:Xg):Option Bool:=bif decide (a0.1=3) then (WZ a0).bind fun y1=>some y1 else some false
def Qiw:Ctr:=⟨53,[Vi],[.bool],fun x=>UF x.1⟩
theorem QpM:Ok_ Qiw:=okS ⟨Tryz.f53,[],[],[HZ]⟩ (by kernel_rfl) (Qc Qoc Qk) fun _=>by kernel_rfl
def XK (x1:(List Int)) (x5:Xg):List (List Int)→Nat→Option (YT × Bool) | [],k=>some ((0,0,([]:List Int),([]:List Int)),false) | e::rest,k=>bif decide (e=x1) then bif inB (k:Int) x5.2.2.1.length then some ((rd x5.2.2.1 (k:Int) (Ty.dflt QN)),true) else none else XK x1 x5 rest (k+1)
def QaZ (a0:Xg) (a1:(List Int)):Option (YT × Bool):=QV a0.2.2.2 (XK a1 a0 a0.2.2.2 0)
def QeD:Ctr:=⟨102,[Vi,.str],[QN,.bool],fun x=>QaZ x.1 x.2.1⟩
def Qix:Kn:=⟨Tryz.f102,[([0,2],[.keep 0 1,.keep 0 2,.keep 0 4,.keep 0 9,.keep 0 10,.keep 0 11,.boxd 0 2 Vi,.boxd 0 4 QN])],[],[]⟩
abbrev E6 (x1:(List Int)) (x2:(List (List Int))) (x3:Int) (x5:Xg) (x6:YT) (x4:Int) (n:Nat):Option (YT × Bool):=LD_ Qix QeD [0,2] [.d .str x1,.ptr 0 2 0,.ptr 0 4 0,.d (.list .str) x2,.d I64 x3,.d I64 x4,.agg (Qm Vi x5),.agg (Qm QN x6)] n
theorem QmZ {x1 x2 x5 x6} (hl:Z2 x2):Jy x2 (XK x1 x5) (E6 x1 x2 (x2.length:Int) x5 x6) :=
 JN (d:=(Ty.dflt .str)) hl (fun x4 n=>(by kernel_rfl:_ =
  bif decide (x4<(x2.length:Int)) then
   bif inB x4 x2.length then
    bif decide (rd x2 x4 (Ty.dflt .str)=x1) then
     bif inB x4 x5.2.2.1.length then
      some ((rd x5.2.2.1 x4 (Ty.dflt QN)),true)
     else none
    else
     E6 x1 x2 (x2.length:Int) x5 x6 (QL x4) n
   else none
  else
   some ((0,0,([]:List Int),([]:List Int)),false)))
 (fun _=>Qb)
 (fun k _ q i=>(QI q (Qd (Qd Qb QC) i)))
theorem Qrg:Ok_ QeD:=okD Qix (by kernel_rfl) Qk
 fun ⟨a0,a1,_⟩=>QX (fun n=>(by kernel_rfl:_ =
  E6 a1 a0.2.2.2 (a0.2.2.2.length:Int) a0 (0,0,([]:List Int),([]:List Int)) 0 n))
 (QD fun l=>QmZ l _ 0 rfl)
def Wz (a0:(List ZP)) (a1:Xg) (a2:(List Int)):Option (YT × Bool):=(Gt a0 a2).bind fun y1=>(QaZ a1 a2).bind fun y2=>QF (bif y1.2 then bif y2.2 then QF (QF (some (y2.1,decide (y2.1.1=y1.1.2))) (some (y2.1,decide (y2.1.1=y1.1.2)))) (QF (QF (some (y2.1,decide (y2.1.1=y1.1.2))) (some (y2.1,decide (y2.1.1=y1.1.2)))) (some (y2.1,decide (y2.1.1=y1.1.2)))) else QF (QF (some (y2.1,false)) (some (y2.1,false))) (QF (QF (some (y2.1,false)) (some (y2.1,false))) (some (y2.1,false))) else QF (QF (some (y2.1,false)) (some (y2.1,false))) (QF (QF (some (y2.1,false)) (some (y2.1,false))) (some (y2.1,false)))) (QF (bif y1.2 then bif y2.2 then QF (QF (some (y2.1,decide (y2.1.1=y1.1.2))) (some (y2.1,decide (y2.1.1=y1.1.2)))) (QF (QF (some (y2.1,decide (y2.1.1=y1.1.2))) (some (y2.1,decide (y2.1.1=y1.1.2)))) (some (y2.1,decide (y2.1.1=y1.1.2)))) else QF (QF (some (y2.1,false)) (some (y2.1,false))) (QF (QF (some (y2.1,false)) (some (y2.1,false))) (some (y2.1,false))) else QF (QF (some (y2.1,false)) (some (y2.1,false))) (QF (QF (some (y2.1,false)) (some (y2.1,false))) (some (y2.1,false)))) (QF (bif y1.2 then bif y2.2 then QF (QF (some (y2.1,decide (y2.1.1=y1.1.2))) (some (y2.1,decide (y2.1.1=y1.1.2)))) (QF (QF (some (y2.1,decide (y2.1.1=y1.1.2))) (some (y2.1,decide (y2.1.1=y1.1.2)))) (some (y2.1,decide (y2.1.1=y1.1.2)))) else QF (QF (some (y2.1,false)) (some (y2.1,false))) (QF (QF (some (y2.1,false)) (some (y2.1,false))) (some (y2.1,false))) else QF (QF (some (y2.1,false)) (some (y2.1,false))) (QF (QF (some (y2.1,false)) (some (y2.1,false))) (some (y2.1,false)))) (bif y1.2 then QF (bif y2.2 then QF (QF (some (y2.1,decide (y2.1.1=y1.1.2))) (some (y2.1,decide (y2.1.1=y1.1.2)))) (QF (QF (some (y2.1,decide (y2.1.1=y1.1.2))) (some (y2.1,decide (y2.1.1=y1.1.2)))) (some (y2.1,decide (y2.1.1=y1.1.2)))) else QF (QF (some (y2.1,false)) (some (y2.1,false))) (QF (QF (some (y2.1,false)) (some (y2.1,false))) (some (y2.1,false)))) (QF (bif y2.2 then QF (QF (some (y2.1,decide (y2.1.1=y1.1.2))) (some (y2.1,decide (y2.1.1=y1.1.2)))) (QF (QF (some (y2.1,decide (y2.1.1=y1.1.2))) (some (y2.1,decide (y2.1.1=y1.1.2)))) (some (y2.1,decide (y2.1.1=y1.1.2)))) else QF (QF (some (y2.1,false)) (some (y2.1,false))) (QF (QF (some (y2.1,false)) (some (y2.1,false))) (some (y2.1,false)))) (QF (bif y2.2 then QF (QF (some (y2.1,decide (y2.1.1=y1.1.2))) (some (y2.1,decide (y2.1.1=y1.1.2)))) (QF (QF (some (y2.1,decide (y2.1.1=y1.1.2))) (some (y2.1,decide (y2.1.1=y1.1.2)))) (some (y2.1,decide (y2.1.1=y1.1.2)))) else QF (QF (some (y2.1,false)) (some (y2.1,false))) (QF (QF (some (y2.1,false)) (some (y2.1,false))) (some (y2.1,false)))) (QF (bif y2.2 then QF (QF (QF (some (y2.1,decide (y2.1.1=y1.1.2))) (some (y2.1,decide (y2.1.1=y1.1.2)))) (QF (QF (some (y2.1,decide (y2.1.1=y1.1.2))) (some (y2.1,decide (y2.1.1=y1.1.2)))) (some (y2.1,decide (y2.1.1=y1.1.2))))) (QF (QF (QF (some (y2.1,decide (y2.1.1=y1.1.2))) (some (y2.1,decide (y2.1.1=y1.1.2)))) (QF (QF (some (y2.1,decide (y2.1.1=y1.1.2))) (some (y2.1,decide (y2.1.1=y1.1.2)))) (some (y2.1,decide (y2.1.1=y1.1.2))))) (QF (QF (QF (some (y2.1,decide (y2.1.1=y1.1.2))) (some (y2.1,decide (y2.1.1=y1.1.2)))) (QF (QF (some (y2.1,decide (y2.1.1=y1.1.2))) (some (y2.1,decide (y2.1.1=y1.1.2)))) (some (y2.1,decide (y2.1.1=y1.1.2))))) (QF (QF (QF (some (y2.1,decide (y2.1.1=y1.1.2))) (some (y2.1,decide (y2.1.1=y1.1.2)))) (some (y2.1,decide (y2.1.1=y1.1.2)))) (QF (QF (some (y2.1,decide (y2.1.1=y1.1.2))) (some (y2.1,decide (y2.1.1=y1.1.2)))) (some (y2.1,decide (y2.1.1=y1.1.2))))))) else QF (QF (QF (some (y2.1,false)) (some (y2.1,false))) (QF (QF (some (y2.1,false)) (some (y2.1,false))) (some (y2.1,false)))) (QF (QF (QF (some (y2.1,false)) (some (y2.1,false))) (QF (QF (some (y2.1,false)) (some (y2.1,false))) (some (y2.1,false)))) (QF (QF (QF (some (y2.1,false)) (some (y2.1,false))) (QF (QF (some (y2.1,false)) (some (y2.1,false))) (some (y2.1,false)))) (QF (QF (QF (some (y2.1,false)) (some (y2.1,false))) (some (y2.1,false))) (QF (QF (some (y2.1,false)) (some (y2.1,false))) (some (y2.1,false))))))) (bif y2.2 then QF (QF (QF (some (y2.1,decide (y2.1.1=y1.1.2))) (some (y2.1,decide (y2.1.1=y1.1.2)))) (QF (QF (some (y2.1,decide (y2.1.1=y1.1.2))) (some (y2.1,decide (y2.1.1=y1.1.2)))) (some (y2.1,decide (y2.1.1=y1.1.2))))) (QF (QF (QF (QF (some (y2.1,decide (y2.1.1=y1.1.2))) (some (y2.1,decide (y2.1.1=y1.1.2)))) (QF (QF (some (y2.1,decide (y2.1.1=y1.1.2))) (some (y2.1,decide (y2.1.1=y1.1.2)))) (some (y2.1,decide (y2.1.1=y1.1.2))))) (QF (QF (QF (some (y2.1,decide (y2.1.1=y1.1.2))) (some (y2.1,decide (y2.1.1=y1.1.2)))) (some (y2.1,decide (y2.1.1=y1.1.2)))) (QF (QF (some (y2.1,decide (y2.1.1=y1.1.2))) (some (y2.1,decide (y2.1.1=y1.1.2)))) (some (y2.1,decide (y2.1.1=y1.1.2)))))) (QF (QF (some (y2.1,decide (y2.1.1=y1.1.2))) (some (y2.1,decide (y2.1.1=y1.1.2)))) (QF (QF (some (y2.1,decide (y2.1.1=y1.1.2))) (some (y2.1,decide (y2.1.1=y1.1.2)))) (some (y2.1,decide (y2.1.1=y1.1.2)))))) else QF (QF (QF (some (y2.1,false)) (some (y2.1,false))) (QF (QF (some (y2.1,false)) (some (y2.1,false))) (some (y2.1,false)))) (QF (QF (QF (QF (some (y2.1,false)) (some (y2.1,false))) (QF (QF (some (y2.1,false)) (some (y2.1,false))) (some (y2.1,false)))) (QF (QF (QF (some (y2.1,false)) (some (y2.1,false))) (some (y2.1,false))) (QF (QF (some (y2.1,false)) (some (y2.1,false))) (some (y2.1,false))))) (QF (QF (some (y2.1,false)) (some (y2.1,false))) (QF (QF (some (y2.1,false)) (some (y2.1,false))) (some (y2.1,false))))))))) else QF (QF (QF (some (y2.1,false)) (some (y2.1,false))) (QF (QF (some (y2.1,false)) (some (y2.1,false))) (some (y2.1,false)))) (QF (QF (QF (some (y2.1,false)) (some (y2.1,false))) (QF (QF (some (y2.1,false)) (some (y2.1,false))) (some (y2.1,false)))) (QF (QF (QF (some (y2.1,false)) (some (y2.1,false))) (QF (QF (some (y2.1,false)) (some (y2.1,false))) (some (y2.1,false)))) (QF (QF (QF (QF (some (y2.1,false)) (some (y2.1,false))) (QF (QF (some (y2.1,false)) (some (y2.1,false))) (some (y2.1,false)))) (QF (QF (QF (some (y2.1,false)) (some (y2.1,false))) (QF (QF (some (y2.1,false)) (some (y2.1,false))) (some (y2.1,false)))) (QF (QF (QF (some (y2.1,false)) (some (y2.1,false))) (QF (QF (some (y2.1,false)) (some (y2.1,false))) (some (y2.1,false)))) (QF (QF (QF (some (y2.1,false)) (some (y2.1,false))) (some (y2.1,false))) (QF (QF (some (y2.1,false)) (some (y2.1,false))) (some (y2.1,false))))))) (QF (QF (QF (some (y2.1,false)) (some (y2.1,false))) (QF (QF (some (y2.1,false)) (some (y2.1,false))) (some (y2.1,false)))) (QF (QF (QF (QF (some (y2.1,false)) (some (y2.1,false))) (QF (QF (some (y2.1,false)) (some (y2.1,false))) (some (y2.1,false)))) (QF (QF (QF (some (y2.1,false)) (some (y2.1,false))) (some (y2.1,false))) (QF (QF (some (y2.1,false)) (some (y2.1,false))) (some (y2.1,false))))) (QF (QF (some (y2.1,false)) (some (y2.1,false))) (QF (QF (some (y2.1,false)) (some (y2.1,false))) (some (y2.1,false))))))))))))
def Qj7:Ctr:=⟨54,[(.list QO),Vi,.str],[QN,.bool],fun x=>Wz x.1 x.2.1 x.2.2.1⟩
theorem Qrh:Ok_ Qj7:=okS ⟨Tryz.f54,[],[],[QaL,QeD]⟩ (by kernel_rfl) (Qc Qit (Qc Qrg Qk)) fun _=>by kernel_rfl
def XL (x4:Xh) (x5:Q0):List (List Int)→Option Bool | []=>some true | e::rest=>(Wz x5.2.1 x4.2.2.2.2.2.2.2 (e)).bind fun y7=>bif !(y7.2) then some false else XL x4 x5 rest
def Zk (x1:Bool) (x6:Qa) (x7:Xh):List Qx→Bool→Option Bool | [],x2=>bif !(x2) then some false else bif decide (x7.2.2.2.2.2.2.1=([]:List Int)) then some (Wx x7.2.2.2.2.2.2.2) else (GT x6 x7.2.2.2.2.2.2.1).bind fun y5=>(UF x7.2.2.2.2.2.2.2).bind fun y6=>bif !(y6) then some false else QV x7.2.2.2.2.2.2.2.2.2.2 (XL x7 y5.1 x7.2.2.2.2.2.2.2.2.2.2) | e::rest,x2=>bif x2 then Zk x1 x6 x7 rest true else bif decide ((e).1=x7.2.2.2.1) then bif decide (((e).2).1=x7.2.2.2.2.2.1) then bif ((((e).2).2).1) == x1 then Zk x1 x6 x7 rest (decide ((((e).2).2).2=x7.2.2.2.2.2.2.1)) else Zk x1 x6 x7 rest false else Zk x1 x6 x7 rest false else Zk x1 x6 x7 rest false
def Qa0 (x1:Qa) (x2:Xh) (x3:Qv):Option Bool:=bif !decide (x2.2.2.2.2.1=([42]:List Int)) then (Ww x2.2.2.2.2.1).bind fun y4=>bif !(y4) then some false else QV x3.2 (Zk (decide (x2.2.2.2.2.1=([42]:List Int))) x1 x2 x3.2 false) else QV x3.2 (Zk (decide (x2.2.2.2.2.1=([42]:List Int))) x1 x2 x3.2 false)
def EE (a0:Qa) (a1:Xh):Option Bool:=(Xt a0 a1.1).bind fun y1=>(Zh y1.1 a1.2.2.1).bind fun y2=>bif !(y1.2) then some false else bif !(y2.2) then some false else (Ww a1.2.1).bind fun y3=>bif !(y3) then some false else Qa0 a0 a1 y2.1
def EF:Ctr:=⟨21,[Qe,Vt],[.bool],fun x=>EE x.1 x.2.1⟩
def Qa1:Kn:=⟨Tryz.f21,[([1,5],[.keep 0 2,.keep 0 3,.keep 0 7,.boxd 0 2 Qe,.boxd 0 3 Vt,.boxd 0 7 Qr]),([0,10],[.keep 0 2,.keep 0 3,.keep 0 9,.keep 0 10,.keep 0 57,.keep 0 58,.keep 0 59,.boxd 0 2 Qe,.boxd 0 3 Vt]),([0,22],[.keep 0 3,.keep 0 13,.keep 0 113,.keep 0 114,.keep 0 115,.boxd 0 3 Vt,.boxd 0 13 QB])],[],[EC,Vy,Qj4,Qj5,EQ,Qiw,Qj7]⟩
abbrev QfO (x1:Qa) (x2:Xh) (x3:Qv) (n:Nat):Option Bool:=LD_ Qa1 EF [1,5] [.ptr 0 2 0,.ptr 0 3 0,.ptr 0 7 0,.agg (Qm Qe x1),.agg (Qm Vt x2),.agg (Qm Qr x3)] n
abbrev Yh (x1:Bool) (x3:(List Qx)) (x4:Int) (x6:Qa) (x7:Xh) (x5:Int) (x2:Bool) (n:Nat):Option Bool:=LD_ Qa1 EF [0,10] [.ptr 0 2 0,.ptr 0 3 0,.d .bool x1,.d .bool x2,.d (.list Qg) x3,.d I64 x4,.d I64 x5,.agg (Qm Qe x6),.agg (Qm Vt x7)] n
abbrev E7 (x1:(List (List Int))) (x2:Int) (x4:Xh) (x5:Q0) (x3:Int) (n:Nat):Option Bool:=LD_ Qa1 EF [0,22] [.ptr 0 3 0,.ptr 0 13 0,.d (.list .str) x1,.d I64 x2,.d I64 x3,.agg (Qm Vt x4),.agg (Qm QB x5)] n
theorem Qm0 {x1 x4 x5} (hl:Z2 x1):Jy x1 (fun r _=>XL x4 x5 r) (E7 x1 (x1.length:Int) x4 x5) :=
 JN (d:=(Ty.dflt .str)) hl (fun x3 n=>(by kernel_rfl:_ =
  bif decide (x3<(x1.length:Int)) then
   bif inB x3 x1.length then
    (Wz x5.2.1 x4.2.2.2.2.2.2.2 (rd x1 x3 (Ty.dflt .str))).bind fun y7 =>
    bif !(y7.2) then
     some false
    else
     E7 x1 (x1.length:Int) x4 x5 (QL x3) n
   else none
  else
   some true))
 (fun _=>Qb)
 (fun k _ q i=>(QI q (Qo fun y7=>(Qd Qb i))))
theorem QeE {x1 x3 x6 x7} (hl:Z2 x3):XF x3 (fun r _ x2=>Zk x1 x6 x7 r x2) (Yh x1 x3 (x3.length:Int) x6 x7) :=
 X5 (d:=(Ty.dflt Qg)) hl (fun x5 x2 n=>(by kernel_rfl:_ =
  bif decide (x5<(x3.length:Int)) then
   bif inB x5 x3.length then
    bif x2 then
     Yh x1 x3 (x3.length:Int) x6 x7 (QL x5) true n
    else
     bif decide ((rd x3 x5 (Ty.dflt Qg)).1=x7.2.2.2.1) then
      bif decide (((rd x3 x5 (Ty.dflt Qg)).2).1=x7.2.2.2.2.2.1) then
       bif ((((rd x3 x5 (Ty.dflt Qg)).2).2).1) == x1 then
        Yh x1 x3 (x3.length:Int) x6 x7 (QL x5) (decide ((((rd x3 x5 (Ty.dflt Qg)).2).2).2=x7.2.2.2.2.2.2.1)) n
       else
        Yh x1 x3 (x3.length:Int) x6 x7 (QL x5) false n
      else
       Yh x1 x3 (x3.length:Int) x6 x7 (QL x5) false n
     else
      Yh x1 x3 (x3.length:Int) x6 x7 (QL x5) false n
   else none
  else
   bif !(x2) then
    some false
   else
    bif decide (x7.2.2.2.2.2.2.1=([]:List Int)) then
     some (Wx x7.2.2.2.2.2.2.2)
    else
     (GT x6 x7.2.2.2.2.2.2.1).bind fun y5 =>
     (UF x7.2.2.2.2.2.2.2).bind fun y6 =>
     bif !(y6) then
      some false
     else
      E7 x7.2.2.2.2.2.2.2.2.2.2 (x7.2.2.2.2.2.2.2.2.2.2.length:Int) x7 y5.1 0 n))
 (fun _ x2=>(Qd Qb (Qd Qb (Qo fun y5=>(Qo fun y6=>(Qd Qb (QD fun l=>Qm0 l _ 0 rfl)))))))
 (fun k _ q i x2=>(QI q (Qd (i _) (Qd (Qd (Qd (i _) (i _)) (i _)) (i _)))))
theorem Qod {x1 x2 x3}:Cm (Qa0 x1 x2 x3) (QfO x1 x2 x3) :=
 Jk (fun n=>(by kernel_rfl:_ =
  bif !decide (x2.2.2.2.2.1=([42]:List Int)) then
   (Ww x2.2.2.2.2.1).bind fun y4 =>
   bif !(y4) then
    some false
   else
    Yh (decide (x2.2.2.2.2.1=([42]:List Int))) x3.2 (x3.2.length:Int) x1 x2 0 false n
  else
   Yh (decide (x2.2.2.2.2.1=([42]:List Int))) x3.2 (x3.2.length:Int) x1 x2 0 false n))
 (Qd (Qo fun y4=>(Qd Qb (QD fun l=>QeE l _ 0 rfl _))) (QD fun l=>QeE l _ 0 rfl _))
theorem Qs5:Ok_ EF:=okD Qa1 (by kernel_rfl) (Qc Qey (Qc XH (Qc QvU (Qc Qrf (Qc Qg0 (Qc QpM (Qc Qrh Qk)))))))
 fun ⟨a0,a1,_⟩=>QX (fun n=>(by kernel_rfl:_ =
  (Xt a0 a1.1).bind fun y1 =>
  (Zh y1.1 a1.2.2.1).bind fun y2 =>
  bif !(y1.2) then
   some false
  else
   bif !(y2.2) then
    some false
   else
    (Ww a1.2.1).bind fun y3 =>
    bif !(y3) then
     some false
    else
     QfO a0 a1 y2.1 n))
 (Qo fun y1=>(Qo fun y2=>(Qd Qb (Qd Qb (Qo fun y3=>(Qd Qb Qod))))))
def YK (K0:(List Bool)→Option (List Qh)):List Qu→(List Bool)→Option (List Qh) | [],x8=>K0 x8 | e::rest,x8=>bif inB ((e).1) x8.length then bif inB ((e).1) x8.length then bif rd x8 ((e).1) (Ty.dflt .bool) then bif inB ((e).1) x8.length then bif inB ((e).1) x8.length&&true&&true&&true&&true then YK K0 rest (x8.set (Int.toNat ((e).1)) true) else none else none else bif inB (((e).2).1) x8.length then bif inB (((e).2).1) x8.length then bif inB ((e).1) x8.length then bif inB ((e).1) x8.length&&true&&true&&true&&true then YK K0 rest (x8.set (Int.toNat ((e).1)) (rd x8 (((e).2).1) (Ty.dflt .bool))) else none else none else none else none else none else none
def JZ (x5:(List Bool)):List Qh→Nat→(List Qh)→Option (List Qh) | [],k,x1=>some x1 | e::rest,k,x1=>bif inB (k:Int) x5.length then bif inB (k:Int) x5.length then bif rd x5 (k:Int) (Ty.dflt .bool) then bif decide (((x1.length:Int)+(([(e)]:List Qh).length:Int))*40≤Q4)&&decide ((x1.length:Int)+(([(e)]:List Qh).length:Int)≤Q4) then JZ x5 rest (k+1) (x1++([(e)]:List Qh)) else none else JZ x5 rest (k+1) x1 else none else none
def YL (x1:(List Qh)) (x2:(List Qu)):List Qh→(List Bool)→Option (List Qh) | [],x5=>QV x1 (JZ x5 x1 0 []) | _::rest,x5=>QV x2 (YK (fun s0=>YL x1 x2 rest s0) x2 x5)
def H0 (a0:Qa) (a1:(List Int)) (a2:(List Int)):Option (List Qh):=(QU a0).bind fun y1=>bif !(y1) then some ([]) else (Q8 a0).bind fun y2=>(Zz y2.1 a1 a2).bind fun y3=>bif decide (y3<0) then some ([]) else bif decide ((y2.1.length:Int)=(y2.1.length:Int))&&decide ((0:Int)≤(y2.1.length:Int))&&decide ((y2.1.length:Int)*1≤Q4)&&true then bif inB y3 (List.replicate (Int.toNat (y2.1.length:Int)) false).length then bif inB y3 (List.replicate (Int.toNat (y2.1.length:Int)) false).length&&true&&true&&true&&true then (VD a0 y2.1).bind fun y4=>QV y2.1 (YL y2.1 y4 y2.1 ((List.replicate (Int.toNat (y2.1.length:Int)) false).set (Int.toNat y3) true)) else none else none else none
def H1:Ctr:=⟨55,[Qe,.str,.str],[(.list Qt)],fun x=>H0 x.1 x.2.1 x.2.2.1⟩
def U7:Kn:=⟨Tryz.f55,[([0,11],[.keep 0 7,.keep 0 10,.keep 0 11,.keep 0 41,.keep 0 42,.rows 0 33 .bool]),([0,13],[.keep 0 7,.keep 0 10,.keep 0 11,.keep 0 41,.keep 0 42,.keep 0 44,.keep 0 45,.keep 0 46,.rows 0 33 .bool]),([0,20],[.keep 0 10,.own 0 14 Qt,.keep 0 68,.keep 0 69,.keep 0 70,.rows 0 33 .bool])],[],[Gx,ET,Wt,HX]⟩
abbrev XZ (x1:(List Qh)) (x2:(List Qu)) (x3:Int) (x4:Int) (x5:(List Bool)) (n:Nat):Option (List Qh):=LD_ U7 H1 [0,11] [.d (.list Qt) x1,.msl 0 33,.d (.list QJ) x2,.d I64 x3,.d I64 x4,.d (.list .bool) x5] n
abbrev X0 (x1:(List Qh)) (x2:(List Qu)) (x3:Int) (x4:Int) (x5:(List Qu)) (x6:Int) (x7:Int) (x8:(List Bool)) (n:Nat):Option (List Qh):=LD_ U7 H1 [0,13] [.d (.list Qt) x1,.msl 0 33,.d (.list QJ) x2,.d I64 x3,.d I64 x4,.d (.list QJ) x5,.d I64 x6,.d I64 x7,.d (.list .bool) x8] n
abbrev X1 (x2:(List Qh)) (x3:Int) (x5:(List Bool)) (x4:Int) (x1:(List Qh)) (n:Nat):Option (List Qh):=LD_ U7 H1 [0,20] [.msl 0 33,.own 0 Qt x1,.d (.list Qt) x2,.d I64 x3,.d I64 x4,.d (.list .bool) x5] n
theorem Qi1 {K0} {x1 x2 x3 x4} (hl:Z2 x2) (h0:Cm1 K0 (XZ x1 x2 x3 (QL x4))):XF x2 (fun r _ x8=>YK K0 r x8) (X0 x1 x2 x3 x4 x2 (x2.length:Int)) :=
 X5 (d:=(Ty.dflt QJ)) hl (fun x7 x8 n=>(by kernel_rfl:_ =
  bif decide (x7<(x2.length:Int)) then
   bif inB x7 x2.length then
    bif inB ((rd x2 x7 (Ty.dflt QJ)).1) x8.length then
     bif inB ((rd x2 x7 (Ty.dflt QJ)).1) x8.length then
      bif rd x8 ((rd x2 x7 (Ty.dflt QJ)).1) (Ty.dflt .bool) then
       bif inB ((rd x2 x7 (Ty.dflt QJ)).1) x8.length then
        bif inB ((rd x2 x7 (Ty.dflt QJ)).1) x8.length&&true&&true&&true&&true then
         X0 x1 x2 x3 x4 x2 (x2.length:Int) (QL x7) (x8.set (Int.toNat ((rd x2 x7 (Ty.dflt QJ)).1)) true) n
        else none
       else none
      else
       bif inB (((rd x2 x7 (Ty.dflt QJ)).2).1) x8.length then
        bif inB (((rd x2 x7 (Ty.dflt QJ)).2).1) x8.length then
         bif inB ((rd x2 x7 (Ty.dflt QJ)).1) x8.length then
          bif inB ((rd x2 x7 (Ty.dflt QJ)).1) x8.length&&true&&true&&true&&true then
           X0 x1 x2 x3 x4 x2 (x2.length:Int) (QL x7) (x8.set (Int.toNat ((rd x2 x7 (Ty.dflt QJ)).1)) (rd x8 (((rd x2 x7 (Ty.dflt QJ)).2).1) (Ty.dflt .bool))) n
          else none
         else none
        else none
       else none
     else none
    else none
   else none
  else
   XZ x1 x2 x3 (QL x4) x8 n))
 (fun _ x8=>(h0 _))
 (fun k _ q i x8=>(QI q (Qd (Qd (Qd (Qd (Qd (i _) QC) QC) (Qd (Qd (Qd (Qd (i _) QC) QC) QC) QC)) QC) QC)))
theorem Qi2 {x2 x5} (hl:Z2 x2):XF x2 (JZ x5) (X1 x2 (x2.length:Int) x5) :=
 X5 (d:=(Ty.dflt Qt)) hl (fun x4 x1 n=>(by kernel_rfl:_ =
  bif decide (x4<(x2.length:Int)) then
   bif inB x4 x2.length then
    bif inB x4 x5.length then
     bif inB x4 x5.length then
      bif rd x5 x4 (Ty.dflt .bool) then
       bif decide (((x1.length:Int)+(([(rd x2 x4 (Ty.dflt Qt))]:List Qh).length:Int))*40≤Q4)&&decide ((x1.length:Int)+(([(rd x2 x4 (Ty.dflt Qt))]:List Qh).length:Int)≤Q4) then
        X1 x2 (x2.length:Int) x5 (QL x4) (x1++([(rd x2 x4 (Ty.dflt Qt))]:List Qh)) n
       else none
      else
       X1 x2 (x2.length:Int) x5 (QL x4) x1 n
     else none
    else none
   else none
  else
   some x1))
 (fun _ x1=>Qb)
 (fun k _ q i x1=>(QI q (Qd (Qd (Qd (Qd (i _) QC) (i _)) QC) QC)))
theorem Qi3 {x1 x2} (hl:Z2 x1):XF x1 (fun r _ x5=>YL x1 x2 r x5) (XZ x1 x2 (x1.length:Int)) :=
 X5 (d:=(Ty.dflt Qt)) hl (fun x4 x5 n=>(by kernel_rfl:_ =
  bif decide (x4<(x1.length:Int)) then
   X0 x1 x2 (x1.length:Int) x4 x2 (x2.length:Int) 0 x5 n
  else
   X1 x1 (x1.length:Int) x5 0 [] n))
 (fun _ x5=>(QD fun l=>Qi2 l _ 0 rfl _))
 (fun k _ q i x5=>(QD fun l=>Qi1 l i _ 0 rfl _))
theorem Qoe:Ok_ H1:=okD U7 (by kernel_rfl) (Qc Qbw (Qc QbY (Qc QaV (Qc Qrd Qk))))
 fun ⟨a0,a1,a2,_⟩=>QX (fun n=>(by kernel_rfl:_ =
  (QU a0).bind fun y1 =>
  bif !(y1) then
   some ([])
  else
   (Q8 a0).bind fun y2 =>
   (Zz y2.1 a1 a2).bind fun y3 =>
   bif decide (y3<0) then
    some ([])
   else
    bif decide ((y2.1.length:Int)=(y2.1.length:Int))&&decide ((0:Int)≤(y2.1.length:Int))&&decide ((y2.1.length:Int)*1≤Q4)&&true then
     bif inB y3 (List.replicate (Int.toNat (y2.1.length:Int)) false).length then
      bif inB y3 (List.replicate (Int.toNat (y2.1.length:Int)) false).length&&true&&true&&true&&true then
       (VD a0 y2.1).bind fun y4 =>
       XZ y2.1 y4 (y2.1.length:Int) 0 ((List.replicate (Int.toNat (y2.1.length:Int)) false).set (Int.toNat y3) true) n
      else none
     else none
    else none))
 (Qo fun y1=>(Qd Qb (Qo fun y2=>(Qo fun y3=>(Qd Qb (Qd (Qd (Qd (Qo fun y4=>(QD fun l=>Qi3 l _ 0 rfl _)) QC) QC) QC))))))
def J0 (K0:(List Qh)→Option (List Qh)) (x2:(List Qh)) (x10:Qa) (x11:Qh):List Q5→Bool→Option (List Qh) | [],x3=>bif x3 then bif decide (((x2.length:Int)+(([x11]:List Qh).length:Int))*40≤Q4)&&decide ((x2.length:Int)+(([x11]:List Qh).length:Int)≤Q4) then K0 (x2++([x11]:List Qh)) else none else K0 x2 | e::rest,x3=>(H0 x10 (((e).2).1) (((((e).2).2).2).1)).bind fun y2=>bif x3 then J0 K0 x2 x10 x11 rest true else (Zz y2 x11.1 x11.2.1).bind fun y3=>J0 K0 x2 x10 x11 rest (decide ((0:Int)≤y3))
def YM (x1:(List Q5)) (x6:Qa):List Qh→(List Qh)→Option (List Qh) | [],x2=>some x2 | e::rest,x2=>QV x1 (J0 (fun s0=>YM x1 x6 rest s0) x2 x6 (e) x1 false)
def Hr (a0:Qa) (a1:(List Q5)):Option (List Qh):=(Q8 a0).bind fun y1=>QV y1.1 (YM a1 a0 y1.1 [])
def U9:Ctr:=⟨22,[Qe,(.list QE)],[(.list Qt)],fun x=>Hr x.1 x.2.1⟩
def E8:Kn:=⟨Tryz.f22,[([0,4],[.keep 0 1,.keep 0 2,.own 0 7 Qt,.keep 0 19,.keep 0 20,.keep 0 21,.boxd 0 2 Qe]),([0,8],[.keep 0 1,.keep 0 2,.own 0 7 Qt,.keep 0 9,.keep 0 10,.keep 0 19,.keep 0 20,.keep 0 21,.keep 0 25,.keep 0 26,.keep 0 27,.boxd 0 2 Qe,.boxd 0 9 Qt])],[],[ET,H1,Wt]⟩
abbrev V9 (x1:(List Q5)) (x3:(List Qh)) (x4:Int) (x6:Qa) (x5:Int) (x2:(List Qh)) (n:Nat):Option (List Qh):=LD_ E8 U9 [0,4] [.d (.list QE) x1,.ptr 0 2 0,.own 0 Qt x2,.d (.list Qt) x3,.d I64 x4,.d I64 x5,.agg (Qm Qe x6)] n
abbrev X2 (x1:(List Q5)) (x2:(List Qh)) (x4:(List Qh)) (x5:Int) (x6:Int) (x7:(List Q5)) (x8:Int) (x10:Qa) (x11:Qh) (x9:Int) (x3:Bool) (n:Nat):Option (List Qh):=LD_ E8 U9 [0,8] [.d (.list QE) x1,.ptr 0 2 0,.own 0 Qt x2,.ptr 0 9 0,.d .bool x3,.d (.list Qt) x4,.d I64 x5,.d I64 x6,.d (.list QE) x7,.d I64 x8,.d I64 x9,.agg (Qm Qe x10),.agg (Qm Qt x11)] n
theorem Qi4 {K0} {x1 x2 x4 x5 x6 x10 x11} (hl:Z2 x1) (h0:Cm1 K0 (V9 x1 x4 x5 x10 (QL x6))):XF x1 (fun r _ x3=>J0 K0 x2 x10 x11 r x3) (X2 x1 x2 x4 x5 x6 x1 (x1.length:Int) x10 x11) :=
 X5 (d:=(Ty.dflt QE)) hl (fun x9 x3 n=>(by kernel_rfl:_ =
  bif decide (x9<(x1.length:Int)) then
   bif inB x9 x1.length then
    (H0 x10 (((rd x1 x9 (Ty.dflt QE)).2).1) (((((rd x1 x9 (Ty.dflt QE)).2).2).2).1)).bind fun y2 =>
    bif x3 then
     X2 x1 x2 x4 x5 x6 x1 (x1.length:Int) x10 x11 (QL x9) true n
    else
     (Zz y2 x11.1 x11.2.1).bind fun y3 =>
     X2 x1 x2 x4 x5 x6 x1 (x1.length:Int) x10 x11 (QL x9) (decide ((0:Int)≤y3)) n
   else none
  else
   bif x3 then
    bif decide (((x2.length:Int)+(([x11]:List Qh).length:Int))*40≤Q4)&&decide ((x2.length:Int)+(([x11]:List Qh).length:Int)≤Q4) then
     V9 x1 x4 x5 x10 (QL x6) (x2++([x11]:List Qh)) n
    else none
   else
    V9 x1 x4 x5 x10 (QL x6) x2 n))
 (fun _ x3=>(Qd (Qd (h0 _) QC) (h0 _)))
 (fun k _ q i x3=>(QI q (Qo fun y2=>(Qd (i _) (Qo fun y3=>(i _))))))
theorem Qi5 {x1 x3 x6} (hl:Z2 x3):XF x3 (fun r _ x2=>YM x1 x6 r x2) (V9 x1 x3 (x3.length:Int) x6) :=
 X5 (d:=(Ty.dflt Qt)) hl (fun x5 x2 n=>(by kernel_rfl:_ =
  bif decide (x5<(x3.length:Int)) then
   bif inB x5 x3.length then
    X2 x1 x2 x3 (x3.length:Int) x5 x1 (x1.length:Int) x6 (rd x3 x5 (Ty.dflt Qt)) 0 false n
   else none
  else
   some x2))
 (fun _ x2=>Qb)
 (fun k _ q i x2=>(QI q (QD fun l=>Qi4 l i _ 0 rfl _)))
theorem Qm1:Ok_ U9:=okD E8 (by kernel_rfl) (Qc QbY (Qc Qoe (Qc QaV Qk)))
 fun ⟨a0,a1,_⟩=>QX (fun n=>(by kernel_rfl:_ =
  (Q8 a0).bind fun y1 =>
  V9 a1 y1.1 (y1.1.length:Int) a0 0 [] n))
 (Qo fun y1=>(QD fun l=>Qi5 l _ 0 rfl _))
def JA (K0:(List Q5)→Option (List Qh)) (x1:(List Q5)) (x10:Q5):List Q5→Bool→Option (List Qh) | [],x2=>bif !(x2) then bif decide (((x1.length:Int)+(([x10]:List Q5).length:Int))*224≤Q4)&&decide ((x1.length:Int)+(([x10]:List Q5).length:Int)≤Q4) then K0 (x1++([x10]:List Q5)) else none else K0 x1 | e::rest,x2=>bif x2 then JA K0 x1 x10 rest true else bif decide (((e).2).1=x10.2.1) then JA K0 x1 x10 rest (decide (((((e).2).2).2).1=x10.2.2.2.1)) else JA K0 x1 x10 rest false
def VO (x5:Qa):List Q5→(List Q5)→Option (List Qh) | [],x1=>(Hr x5 x1).bind fun y3=>some y3 | e::rest,x1=>bif decide ((e).1<1) then some ([]) else bif decide ((3:Int)<(e).1) then some ([]) else (EE x5 ((e).2)).bind fun y2=>bif !(y2) then some ([]) else QV x1 (JA (fun s0=>VO x5 rest s0) x1 (e) x1 false)
def VS (a0:Qa) (a1:(List Q5)):Option (List Qh):=(QU a0).bind fun y1=>bif !(y1) then some ([]) else bif decide ((1000:Int)<(a1.length:Int)) then some ([]) else QV a1 (VO a0 a1 [])
def EU:Ctr:=⟨6,[Qe,(.list QE)],[(.list Qt)],fun x=>VS x.1 x.2.1⟩
def QbZ:Kn:=⟨Tryz.f6,[([0,5],[.keep 0 2,.own 0 5 QE,.keep 0 19,.keep 0 20,.keep 0 21,.boxd 0 2 Qe]),([0,11],[.keep 0 2,.own 0 5 QE,.keep 0 7,.keep 0 8,.keep 0 19,.keep 0 20,.keep 0 21,.keep 0 40,.keep 0 41,.keep 0 42,.boxd 0 2 Qe,.boxd 0 7 QE])],[],[Gx,EF,U9]⟩
abbrev G9 (x2:(List Q5)) (x3:Int) (x5:Qa) (x4:Int) (x1:(List Q5)) (n:Nat):Option (List Qh):=LD_ QbZ EU [0,5] [.ptr 0 2 0,.own 0 QE x1,.d (.list QE) x2,.d I64 x3,.d I64 x4,.agg (Qm Qe x5)] n
abbrev Gz (x1:(List Q5)) (x3:(List Q5)) (x4:Int) (x5:Int) (x6:(List Q5)) (x7:Int) (x9:Qa) (x10:Q5) (x8:Int) (x2:Bool) (n:Nat):Option (List Qh):=LD_ QbZ EU [0,11] [.ptr 0 2 0,.own 0 QE x1,.ptr 0 7 0,.d .bool x2,.d (.list QE) x3,.d I64 x4,.d I64 x5,.d (.list QE) x6,.d I64 x7,.d I64 x8,.agg (Qm Qe x9),.agg (Qm QE x10)] n
theorem Qj8 {K0} {x1 x3 x4 x5 x9 x10} (hl:Z2 x1) (h0:Cm1 K0 (G9 x3 x4 x9 (QL x5))):XF x1 (fun r _ x2=>JA K0 x1 x10 r x2) (Gz x1 x3 x4 x5 x1 (x1.length:Int) x9 x10) :=
 X5 (d:=(Ty.dflt QE)) hl (fun x8 x2 n=>(by kernel_rfl:_ =
  bif decide (x8<(x1.length:Int)) then
   bif inB x8 x1.length then
    bif x2 then
     Gz x1 x3 x4 x5 x1 (x1.length:Int) x9 x10 (QL x8) true n
    else
     bif decide (((rd x1 x8 (Ty.dflt QE)).2).1=x10.2.1) then
      Gz x1 x3 x4 x5 x1 (x1.length:Int) x9 x10 (QL x8) (decide (((((rd x1 x8 (Ty.dflt QE)).2).2).2).1=x10.2.2.2.1)) n
     else
      Gz x1 x3 x4 x5 x1 (x1.length:Int) x9 x10 (QL x8) false n
   else none
  else
   bif !(x2) then
    bif decide (((x1.length:Int)+(([x10]:List Q5).length:Int))*224≤Q4)&&decide ((x1.length:Int)+(([x10]:List Q5).length:Int)≤Q4) then
     G9 x3 x4 x9 (QL x5) (x1++([x10]:List Q5)) n
    else none
   else
    G9 x3 x4 x9 (QL x5) x1 n))
 (fun _ x2=>(Qd (Qd (h0 _) QC) (h0 _)))
 (fun k _ q i x2=>(QI q (Qd (i _) (Qd (i _) (i _)))))
theorem Qlp {x2 x5} (hl:Z2 x2):XF x2 (fun r _ x1=>VO x5 r x1) (G9 x2 (x2.length:Int) x5) :=
 X5 (d:=(Ty.dflt QE)) hl (fun x4 x1 n=>(by kernel_rfl:_ =
  bif decide (x4<(x2.length:Int)) then
   bif inB x4 x2.length then
    bif decide ((rd x2 x4 (Ty.dflt QE)).1<1) then
     some ([])
    else
     bif decide ((3:Int)<(rd x2 x4 (Ty.dflt QE)).1) then
      some ([])
     else
      (EE x5 ((rd x2 x4 (Ty.dflt QE)).2)).bind fun y2 =>
      bif !(y2) then
       some ([])
      else
       Gz x1 x2 (x2.length:Int) x4 x1 (x1.length:Int) x5 (rd x2 x4 (Ty.dflt QE)) 0 false n
   else none
  else
   (Hr x5 x1).bind fun y3 =>
   some y3))
 (fun _ x1=>(Qo fun y3=>Qb))
 (fun k _ q i x1=>(QI q (Qd Qb (Qd Qb (Qo fun y2=>(Qd Qb (QD fun l=>Qj8 l i _ 0 rfl _)))))))
theorem QpN:Ok_ EU:=okD QbZ (by kernel_rfl) (Qc Qbw (Qc Qs5 (Qc Qm1 Qk)))
 fun ⟨a0,a1,_⟩=>QX (fun n=>(by kernel_rfl:_ =
  (QU a0).bind fun y1 =>
  bif !(y1) then
   some ([])
  else
   bif decide ((1000:Int)<(a1.length:Int)) then
    some ([])
   else
    G9 a1 (a1.length:Int) a0 0 [] n))
 (Qo fun y1=>(Qd Qb (Qd Qb (QD fun l=>Qlp l _ 0 rfl _))))
def HD (a0:Int):Bool:=bif decide ((48:Int)≤a0) then decide (a0≤57) else false
def Qgp:Ctr:=⟨111,[U8],[.bool],fun x=>some (HD x.1)⟩
theorem Qj9:Ok_ Qgp:=okD ⟨Tryz.f111,[],[],[]⟩ (by kernel_rfl) Qk
 fun ⟨a0,_⟩=>QX (fun n=>(by kernel_rfl:_ =
  bif decide ((48:Int)≤a0) then
   some (decide (a0≤57))
  else
   some false))
 (Qev (Zj rfl rfl))
def WA (a0:Int):Bool:=bif decide ((97:Int)≤a0) then bif decide (a0≤122) then true else bif decide ((65:Int)≤a0) then decide (a0≤90) else false else bif decide ((65:Int)≤a0) then decide (a0≤90) else false
def Qka:Ctr:=⟨157,[U8],[.bool],fun x=>some (WA x.1)⟩
theorem Qri:Ok_ Qka:=okD ⟨Tryz.f157,[],[],[]⟩ (by kernel_rfl) Qk
 fun ⟨a0,_⟩=>QX (fun n=>(by kernel_rfl:_ =
  bif decide ((97:Int)≤a0) then
   bif decide (a0≤122) then
    some true
   else
    bif decide ((65:Int)≤a0) then
     some (decide (a0≤90))
    else
     some false
  else
   bif decide ((65:Int)≤a0) then
    some (decide (a0≤90))
   else
    some false))
 (Qev (Zj (Zj rfl (Zj rfl rfl)) (Zj rfl rfl)))
def Ge (a0:Int):Bool:=bif WA a0 then true else bif HD a0 then true else decide (a0=95)
def Qb0:Ctr:=⟨112,[U8],[.bool],fun x=>some (Ge x.1)⟩
theorem QfP:Ok_ Qb0:=okD ⟨Tryz.f112,[],[],[Qka,Qgp]⟩ (by kernel_rfl) (Qc Qri (Qc Qj9 Qk))
 fun ⟨a0,_⟩=>QX (fun n=>(by kernel_rfl:_ =
  bif WA a0 then
   some true
  else
   bif HD a0 then
    some true
   else
    some (decide (a0=95))))
 (Qev (Zj rfl (Zj rfl rfl)))
def Xa:List Int→Option Bool | []=>some true | e::rest=>bif !(Ge (e)) then some false else Xa rest
def Zd (a0:(List Int)):Option Bool:=bif decide (a0=([]:List Int)) then some false else bif decide ((30:Int)<(a0.length:Int)) then some false else bif inB 0 a0.length then bif HD (rd a0 0 0) then some false else QV a0 (Xa a0) else none
def He:Ctr:=⟨61,[.str],[.bool],fun x=>Zd x.1⟩
def Qg1:Kn:=⟨Tryz.f61,[([0,4],[.keep 0 0,.keep 0 17,.keep 0 18])],[],[Qgp,Qb0]⟩
abbrev Eq (x1:(List Int)) (x2:Int) (x3:Int) (n:Nat):Option Bool:=LD_ Qg1 He [0,4] [.d .str x1,.d I64 x2,.d I64 x3] n
theorem Qlq {x1} (hl:Z2 x1):Jy x1 (fun r _=>Xa r) (Eq x1 (x1.length:Int)) :=
 JN (d:=0) hl (fun x3 n=>(by kernel_rfl:_ =
  bif decide (x3<(x1.length:Int)) then
   bif inB x3 x1.length then
    bif !(Ge (rd x1 x3 0)) then
     some false
    else
     Eq x1 (x1.length:Int) (QL x3) n
   else none
  else
   some true))
 (fun _=>Qb)
 (fun k _ q i=>(QI q (Qd Qb i)))
theorem W0:Ok_ He:=okD Qg1 (by kernel_rfl) (Qc Qj9 (Qc QfP Qk))
 fun ⟨a0,_⟩=>QX (fun n=>(by kernel_rfl:_ =
  bif decide (a0=([]:List Int)) then
   some false
  else
   bif decide ((30:Int)<(a0.length:Int)) then
    some false
   else
    bif inB 0 a0.length then
     bif HD (rd a0 0 0) then
      some false
     else
      Eq a0 (a0.length:Int) 0 n
    else none))
 (Qd Qb (Qd Qb (Qd (Qd Qb (QD fun l=>Qlq l _ 0 rfl)) QC)))
def JB (x1:(List Int)):List ZP→Option (ZP × Bool) | []=>some ((([]:List Int),0),false) | e::rest=>bif decide ((e).1=x1) then some ((e),true) else JB x1 rest
def Z7 (a0:Q0) (a1:(List Int)):Option (ZP × Bool):=QV a0.2.1 (JB a1 a0.2.1)
def Hs:Ctr:=⟨73,[QB,.str],[QO,.bool],fun x=>Z7 x.1 x.2.1⟩
def Qbx:Kn:=⟨Tryz.f73,[([0,2,1003],[.keep 0 4,.keep 1 1,.keep 1 2,.keep 1 6,.keep 1 11,.keep 1 12,.keep 1 13,.boxd 0 4 QO,.boxd 1 6 QO])],[([1003],127),([4002,1003],128)],[]⟩
abbrev GA (x1:(List Int)) (x2:(List ZP)) (x3:Int) (x5:ZP) (x6:ZP) (x4:Int) (n:Nat):Option (ZP × Bool):=LD_ Qbx Hs [0,2,1003] [.ptr 0 4 0,.fn 128 [],.d .str x1,.ptr 1 6 0,.d (.list QO) x2,.d I64 x3,.d I64 x4,.agg (Qm QO x5),.agg (Qm QO x6)] n
theorem QcO {x1 x2 x5} (hl:Z2 x2):Jy x2 (fun r _=>JB x1 r) (GA x1 x2 (x2.length:Int) x5 x5) :=
 JN (d:=(Ty.dflt QO)) hl (fun x4 n=>(by kernel_rfl:_ =
  bif decide (x4<(x2.length:Int)) then
   bif inB x4 x2.length then
    bif decide ((rd x2 x4 (Ty.dflt QO)).1=x1) then
     some ((rd x2 x4 (Ty.dflt QO)),true)
    else
     GA x1 x2 (x2.length:Int) x5 x5 (QL x4) n
   else none
  else
   some ((([]:List Int),0),false)))
 (fun _=>Qb)
 (fun k _ q i=>(QI q (Qd Qb i)))
theorem Qby:Ok_ Hs:=okD Qbx (by kernel_rfl) Qk
 fun ⟨a0,a1,_⟩=>QX (fun n=>(by kernel_rfl:_ =
  GA a1 a0.2.1 (a0.2.1.length:Int) (([]:List Int),0) (([]:List Int),0) 0 n))
 (QD fun l=>QcO l _ 0 rfl)
def XM (x1:Int) (x2:Int) (x3:Bool):Option Bool:=bif x3 then bif decide (x1=2) then some true else bif decide (x1=3) then some true else bif decide (x1=5) then some true else some (decide (x1=7)) else bif decide (x2=4) then some (decide (x1=6)) else some false
def XN (a0:Int) (a1:Int):Option Bool:=bif decide (a0=1) then some true else bif decide (a0=2) then XM a1 a0 (decide (a0=2)) else XM a1 a0 (decide (a0=3))
def QeF:Ctr:=⟨110,[I64,I64],[.bool],fun x=>XN x.1 x.2.1⟩
def Qiy:Kn:=⟨Tryz.f110,[([1,6],[.keep 0 1,.keep 0 5,.keep 0 8])],[],[]⟩
abbrev E9 (x1:Int) (x2:Int) (x3:Bool) (n:Nat):Option Bool:=LD_ Qiy QeF [1,6] [.d I64 x1,.d I64 x2,.d .bool x3] n
theorem QeG {x1 x2 x3}:Cm (XM x1 x2 x3) (E9 x1 x2 x3) :=
 Jk (fun n=>(by kernel_rfl:_ =
  bif x3 then
   bif decide (x1=2) then
    some true
   else
    bif decide (x1=3) then
     some true
    else
     bif decide (x1=5) then
      some true
     else
      some (decide (x1=7))
  else
   bif decide (x2=4) then
    some (decide (x1=6))
   else
    some false))
 (Qd (Qd Qb (Qd Qb (Qd Qb Qb))) (Qd Qb Qb))
theorem Qrj:Ok_ QeF:=okD Qiy (by kernel_rfl) Qk
 fun ⟨a0,a1,_⟩=>QX (fun n=>(by kernel_rfl:_ =
  bif decide (a0=1) then
   some true
  else
   bif decide (a0=2) then
    E9 a1 a0 (decide (a0=2)) n
   else
    E9 a1 a0 (decide (a0=3)) n))
 (Qd Qb (Qd QeG QeG))
def Jl (a0:YT):Bool:=@decide (a0=(0,0,([]:List Int),([]:List Int))) (Ty.decEq QN a0 (0,0,([]:List Int),([]:List Int)))
def W1:Ctr:=⟨108,[QN],[.bool],fun x=>some (Jl x.1)⟩
theorem Qa2:Ok_ W1:=okS ⟨Tryz.f108,[],[],[]⟩ (by kernel_rfl) Qk fun _=>by kernel_rfl
def Xb:List Int→Option Bool | []=>some true | e::rest=>bif decide (e<32) then some false else bif decide ((126:Int)<e) then some false else Xb rest
def GV (a0:(List Int)) (a1:Int) (a2:Int):Option Bool:=bif decide ((a0.length:Int)<a1) then some false else bif decide (a2<(a0.length:Int)) then some false else QV a0 (Xb a0)
def Qdc:Ctr:=⟨156,[.str,I64,I64],[.bool],fun x=>GV x.1 x.2.1 x.2.2.1⟩
def Qg2:Kn:=⟨Tryz.f156,[([0,4],[.keep 0 0,.keep 0 19,.keep 0 20])],[],[]⟩
abbrev Er (x1:(List Int)) (x2:Int) (x3:Int) (n:Nat):Option Bool:=LD_ Qg2 Qdc [0,4] [.d .str x1,.d I64 x2,.d I64 x3] n
theorem Qlr {x1} (hl:Z2 x1):Jy x1 (fun r _=>Xb r) (Er x1 (x1.length:Int)) :=
 JN (d:=0) hl (fun x3 n=>(by kernel_rfl:_ =
  bif decide (x3<(x1.length:Int)) then
   bif inB x3 x1.length then
    bif decide (rd x1 x3 0<32) then
     some false
    else
     bif inB x3 x1.length then
      bif decide ((126:Int)<rd x1 x3 0) then
       some false
      else
       Er x1 (x1.length:Int) (QL x3) n
     else none
   else none
  else
   some true))
 (fun _=>Qb)
 (fun k _ q i=>(QI q (Qd Qb (QI q (Qd Qb i)))))
theorem QpO:Ok_ Qdc:=okD Qg2 (by kernel_rfl) Qk
 fun ⟨a0,a1,a2,_⟩=>QX (fun n=>(by kernel_rfl:_ =
  bif decide ((a0.length:Int)<a1) then
   some false
  else
   bif decide (a2<(a0.length:Int)) then
    some false
   else
    Er a0 (a0.length:Int) 0 n))
 (Qd Qb (Qd Qb (QD fun l=>Qlr l _ 0 rfl)))
def HO (x1:Bool) (x2:Int) (x3:Bool) (x4:YT):Option Bool:=bif x3 then some x1 else bif decide (x2=3) then bif decide (x4.2.1=0) then bif decide (x4.2.2.2=([]:List Int)) then (GV x4.2.2.1 0 200).bind fun y1=>some y1 else some false else some false else bif decide (x2=4) then bif decide (x4.2.1=0) then (Zd x4.2.2.2).bind fun y2=>bif y2 then (GV x4.2.2.1 1 200).bind fun y3=>some y3 else some false else some false else bif decide (x2=6) then bif !(x1) then some false else bif decide (x4.2.1<0) then some false else bif decide (Int.tmod x4.2.1 64≤32) then bif decide (IntKind.wrap .i64 (Int.tdiv x4.2.1 64)<4294967296) then bif decide ((0:Int)≤IntKind.wrap .i64 (32 - (Int.tmod x4.2.1 64))) then bif decide (IntKind.wrap .i64 (1*2 ^ (min (Int.toNat (IntKind.wrap .i64 (32 - (Int.tmod x4.2.1 64)))) 64))=0) then none else some (decide (Int.tmod (IntKind.wrap .i64 (Int.tdiv x4.2.1 64)) (IntKind.wrap .i64 (1*2 ^ (min (Int.toNat (IntKind.wrap .i64 (32 - (Int.tmod x4.2.1 64)))) 64)))=0)) else none else some false else some false else bif decide (x2=7) then bif x1 then bif decide (((-100000000000):Int)≤x4.2.1) then some (decide (x4.2.1≤100000000000)) else some false else some false else some false
def HP (x1:Bool) (x2:YT):Option Bool:=bif decide (x2.1=1) then bif x1 then bif decide (x2.2.1=0) then some true else some (decide (x2.2.1=1)) else some false else bif decide (x2.1=2) then HO x1 x2.1 (decide (x2.1=2)) x2 else HO x1 x2.1 (decide (x2.1=5)) x2
def JQ (a0:YT):Option Bool:=bif decide (a0.2.2.1=([]:List Int)) then HP (decide (a0.2.2.2=([]:List Int))) a0 else HP false a0
def Hf:Ctr:=⟨109,[QN],[.bool],fun x=>JQ x.1⟩
def Qb1:Kn:=⟨Tryz.f109,[([1,2],[.keep 0 1,.keep 0 3,.boxd 0 1 QN]),([1,7],[.keep 0 1,.keep 0 3,.keep 0 15,.keep 0 29,.boxd 0 1 QN])],[],[Qdc,He]⟩
abbrev Es (x1:Bool) (x2:YT) (n:Nat):Option Bool:=LD_ Qb1 Hf [1,2] [.ptr 0 1 0,.d .bool x1,.agg (Qm QN x2)] n
abbrev Et (x1:Bool) (x2:Int) (x3:Bool) (x4:YT) (n:Nat):Option Bool:=LD_ Qb1 Hf [1,7] [.ptr 0 1 0,.d .bool x1,.d I64 x2,.d .bool x3,.agg (Qm QN x4)] n
theorem QdB {x1 x2 x3 x4}:Cm (HO x1 x2 x3 x4) (Et x1 x2 x3 x4) :=
 Jk (fun n=>(by kernel_rfl:_ =
  bif x3 then
   some x1
  else
   bif decide (x2=3) then
    bif decide (x4.2.1=0) then
     bif decide (x4.2.2.2=([]:List Int)) then
      (GV x4.2.2.1 0 200).bind fun y1 =>
      some y1
     else
      some false
    else
     some false
   else
    bif decide (x2=4) then
     bif decide (x4.2.1=0) then
      (Zd x4.2.2.2).bind fun y2 =>
      bif y2 then
       (GV x4.2.2.1 1 200).bind fun y3 =>
       some y3
      else
       some false
     else
      some false
    else
     bif decide (x2=6) then
      bif !(x1) then
       some false
      else
       bif decide (x4.2.1<0) then
        some false
       else
        bif decide (Int.tmod x4.2.1 64≤32) then
         bif decide (IntKind.wrap .i64 (Int.tdiv x4.2.1 64)<4294967296) then
          bif decide ((0:Int)≤IntKind.wrap .i64 (32 - (Int.tmod x4.2.1 64))) then
           bif decide (IntKind.wrap .i64 (1*2 ^ (min (Int.toNat (IntKind.wrap .i64 (32 - (Int.tmod x4.2.1 64)))) 64))=0) then none else
           some (decide (Int.tmod (IntKind.wrap .i64 (Int.tdiv x4.2.1 64)) (IntKind.wrap .i64 (1*2 ^ (min (Int.toNat (IntKind.wrap .i64 (32 - (Int.tmod x4.2.1 64)))) 64)))=0))
          else none
         else
          some false
        else
         some false
     else
      bif decide (x2=7) then
       bif x1 then
        bif decide (((-100000000000):Int)≤x4.2.1) then
         some (decide (x4.2.1≤100000000000))
        else
         some false
       else
        some false
      else
       some false))
 (Qd Qb (Qd (Qd (Qd (Qo fun y1=>Qb) Qb) Qb) (Qd (Qd (Qo fun y2=>(Qd (Qo fun y3=>Qb) Qb)) Qb) (Qd (Qd Qb (Qd Qb (Qd (Qd (Qd (Qd QC Qb) QC) Qb) Qb))) (Qd (Qd (Qd Qb Qb) Qb) Qb)))))
theorem QdC {x1 x2}:Cm (HP x1 x2) (Es x1 x2) :=
 Jk (fun n=>(by kernel_rfl:_ =
  bif decide (x2.1=1) then
   bif x1 then
    bif decide (x2.2.1=0) then
     some true
    else
     some (decide (x2.2.1=1))
   else
    some false
  else
   bif decide (x2.1=2) then
    Et x1 x2.1 (decide (x2.1=2)) x2 n
   else
    Et x1 x2.1 (decide (x2.1=5)) x2 n))
 (Qd (Qd (Qd Qb Qb) Qb) (Qd QdB QdB))
theorem Qb2:Ok_ Hf:=okD Qb1 (by kernel_rfl) (Qc QpO (Qc W0 Qk))
 fun ⟨a0,_⟩=>QX (fun n=>(by kernel_rfl:_ =
  bif decide (a0.2.2.1=([]:List Int)) then
   Es (decide (a0.2.2.2=([]:List Int))) a0 n
  else
   Es false a0 n))
 (Qd QdC QdC)
def Xl (K1:Option Bool) (x4:Bool) (x6:Vs) (x7:ZP) (x8:ZP):Option Bool:=bif x4 then some false else bif !decide (x8.2=x7.2) then some false else (XN x6.2.1 x8.2).bind fun y5=>bif !(y5) then some false else K1
def JK (x4:Q0):List Vs→Option Bool | []=>some true | e::rest=>(Z7 x4 ((e).1)).bind fun y3=>bif !(y3.2) then some false else bif !decide ((((e).2).2).1=([]:List Int)) then (Z7 x4 ((((e).2).2).1)).bind fun y4=>bif !(y4.2) then Xl (JK x4 rest) true (e) y3.1 y4.1 else Xl (JK x4 rest) (!(Jl ((((e).2).2).2))) (e) y3.1 y4.1 else (JQ ((((e).2).2).2)).bind fun y6=>bif !(y6) then some false else bif !decide (((((e).2).2).2).1=y3.1.2) then some false else (XN (((e).2).1) (((((e).2).2).2).1)).bind fun y7=>bif !(y7) then some false else JK x4 rest
def J1 (x4:Q0):List ZP→Nat→Option Bool | [],k=>QV x4.2.2 (JK x4 x4.2.2) | e::rest,k=>(Zd ((e).1)).bind fun y2=>bif !(y2) then some false else bif decide ((e).1=([116,114,117,101]:List Int)) then some false else bif decide ((e).1=([102,97,108,115,101]:List Int)) then some false else bif decide ((0:Int)<(k:Int)) then bif inB (IntKind.wrap .i64 ((k:Int) - 1)) x4.2.1.length then bif !Zn ((rd x4.2.1 (IntKind.wrap .i64 ((k:Int) - 1)) (Ty.dflt QO)).1) ((e).1) then some false else bif decide ((e).2<1) then some false else bif decide ((7:Int)<(e).2) then some false else J1 x4 rest (k+1) else none else bif decide ((e).2<1) then some false else bif decide ((7:Int)<(e).2) then some false else J1 x4 rest (k+1)
def Ht (a0:Q0):Option Bool:=(Zd a0.1).bind fun y1=>bif !(y1) then some false else bif decide ((a0.2.1.length:Int)<1) then some false else bif decide ((6:Int)<(a0.2.1.length:Int)) then some false else bif decide ((a0.2.2.length:Int)<1) then some false else bif decide ((6:Int)<(a0.2.2.length:Int)) then some false else QV a0.2.1 (J1 a0 a0.2.1 0)
def Hu:Ctr:=⟨60,[QB],[.bool],fun x=>Ht x.1⟩
def Ut:Kn:=⟨Tryz.f60,[([0,4],[.keep 0 1,.keep 0 41,.keep 0 42,.keep 0 43,.boxd 0 1 QB]),([0,10],[.keep 0 1,.keep 0 90,.keep 0 91,.keep 0 92,.boxd 0 1 QB]),([1,19],[.keep 0 1,.keep 0 6,.keep 0 7,.keep 0 10,.keep 0 90,.keep 0 91,.keep 0 92,.keep 0 125,.boxd 0 1 QB,.boxd 0 6 QP,.boxd 0 7 QO,.boxd 0 10 QO])],[],[He,Hs,QeF,W1,Hf]⟩
abbrev X3 (x1:(List ZP)) (x2:Int) (x4:Q0) (x3:Int) (n:Nat):Option Bool:=LD_ Ut Hu [0,4] [.ptr 0 1 0,.d (.list QO) x1,.d I64 x2,.d I64 x3,.agg (Qm QB x4)] n
abbrev VE (x1:(List Vs)) (x2:Int) (x4:Q0) (x3:Int) (n:Nat):Option Bool:=LD_ Ut Hu [0,10] [.ptr 0 1 0,.d (.list QP) x1,.d I64 x2,.d I64 x3,.agg (Qm QB x4)] n
abbrev Uu (x1:(List Vs)) (x2:Int) (x3:Int) (x4:Bool) (x5:Q0) (x6:Vs) (x7:ZP) (x8:ZP) (n:Nat):Option Bool:=LD_ Ut Hu [1,19] [.ptr 0 1 0,.ptr 0 6 0,.ptr 0 7 0,.ptr 0 10 0,.d (.list QP) x1,.d I64 x2,.d I64 x3,.d .bool x4,.agg (Qm QB x5),.agg (Qm QP x6),.agg (Qm QO x7),.agg (Qm QO x8)] n
theorem Qa3 {K1} {x1 x2 x3 x4 x5 x6 x7 x8} (h1:Cm K1 (VE x1 x2 x5 (QL x3))):Cm (Xl K1 x4 x6 x7 x8) (Uu x1 x2 x3 x4 x5 x6 x7 x8) :=
 Jk (fun n=>(by kernel_rfl:_ =
  bif x4 then
   some false
  else
   bif !decide (x8.2=x7.2) then
    some false
   else
    (XN x6.2.1 x8.2).bind fun y5 =>
    bif !(y5) then
     some false
    else
     VE x1 x2 x5 (QL x3) n))
 (Qd Qb (Qd Qb (Qo fun y5=>(Qd Qb h1))))
theorem Qh2 {x1 x4} (hl:Z2 x1):Jy x1 (fun r _=>JK x4 r) (VE x1 (x1.length:Int) x4) :=
 JN (d:=(Ty.dflt QP)) hl (fun x3 n=>(by kernel_rfl:_ =
  bif decide (x3<(x1.length:Int)) then
   bif inB x3 x1.length then
    (Z7 x4 ((rd x1 x3 (Ty.dflt QP)).1)).bind fun y3 =>
    bif !(y3.2) then
     some false
    else
     bif !decide ((((rd x1 x3 (Ty.dflt QP)).2).2).1=([]:List Int)) then
      (Z7 x4 ((((rd x1 x3 (Ty.dflt QP)).2).2).1)).bind fun y4 =>
      bif !(y4.2) then
       Uu x1 (x1.length:Int) x3 true x4 (rd x1 x3 (Ty.dflt QP)) y3.1 y4.1 n
      else
       Uu x1 (x1.length:Int) x3 (!(Jl ((((rd x1 x3 (Ty.dflt QP)).2).2).2))) x4 (rd x1 x3 (Ty.dflt QP)) y3.1 y4.1 n
     else
      (JQ ((((rd x1 x3 (Ty.dflt QP)).2).2).2)).bind fun y6 =>
      bif !(y6) then
       some false
      else
       bif !decide (((((rd x1 x3 (Ty.dflt QP)).2).2).2).1=y3.1.2) then
        some false
       else
        (XN (((rd x1 x3 (Ty.dflt QP)).2).1) (((((rd x1 x3 (Ty.dflt QP)).2).2).2).1)).bind fun y7 =>
        bif !(y7) then
         some false
        else
         VE x1 (x1.length:Int) x4 (QL x3) n
   else none
  else
   some true))
 (fun _=>Qb)
 (fun k _ q i=>(QI q (Qo fun y3=>(Qd Qb (Qd (Qo fun y4=>(Qd (Qa3 i) (Qa3 i))) (Qo fun y6=>(Qd Qb (Qd Qb (Qo fun y7=>(Qd Qb i))))))))))
theorem Qi6 {x1 x4} (hl:Z2 x1):Jy x1 (J1 x4) (X3 x1 (x1.length:Int) x4) :=
 JN (d:=(Ty.dflt QO)) hl (fun x3 n=>(by kernel_rfl:_ =
  bif decide (x3<(x1.length:Int)) then
   bif inB x3 x1.length then
    (Zd ((rd x1 x3 (Ty.dflt QO)).1)).bind fun y2 =>
    bif !(y2) then
     some false
    else
     bif decide ((rd x1 x3 (Ty.dflt QO)).1=([116,114,117,101]:List Int)) then
      some false
     else
      bif decide ((rd x1 x3 (Ty.dflt QO)).1=([102,97,108,115,101]:List Int)) then
       some false
      else
       bif decide ((0:Int)<x3) then
        bif inB (IntKind.wrap .i64 (x3 - 1)) x4.2.1.length then
         bif !Zn ((rd x4.2.1 (IntKind.wrap .i64 (x3 - 1)) (Ty.dflt QO)).1) ((rd x1 x3 (Ty.dflt QO)).1) then
          some false
         else
          bif decide ((rd x1 x3 (Ty.dflt QO)).2<1) then
           some false
          else
           bif decide ((7:Int)<(rd x1 x3 (Ty.dflt QO)).2) then
            some false
           else
            X3 x1 (x1.length:Int) x4 (QL x3) n
        else none
       else
        bif decide ((rd x1 x3 (Ty.dflt QO)).2<1) then
         some false
        else
         bif decide ((7:Int)<(rd x1 x3 (Ty.dflt QO)).2) then
          some false
         else
          X3 x1 (x1.length:Int) x4 (QL x3) n
   else none
  else
   VE x4.2.2 (x4.2.2.length:Int) x4 0 n))
 (fun _=>(QD fun l=>Qh2 l _ 0 rfl))
 (fun k _ q i=>(QI q (Qo fun y2=>(Qd Qb (Qd Qb (Qd Qb (Qd (Qd (Qd Qb (Qd Qb (Qd Qb i))) QC) (Qd Qb (Qd Qb i)))))))))
theorem Qm2:Ok_ Hu:=okD Ut (by kernel_rfl) (Qc W0 (Qc Qby (Qc Qrj (Qc Qa2 (Qc Qb2 Qk)))))
 fun ⟨a0,_⟩=>QX (fun n=>(by kernel_rfl:_ =
  (Zd a0.1).bind fun y1 =>
  bif !(y1) then
   some false
  else
   bif decide ((a0.2.1.length:Int)<1) then
    some false
   else
    bif decide ((6:Int)<(a0.2.1.length:Int)) then
     some false
    else
     bif decide ((a0.2.2.length:Int)<1) then
      some false
     else
      bif decide ((6:Int)<(a0.2.2.length:Int)) then
       some false
      else
       X3 a0.2.1 (a0.2.1.length:Int) a0 0 n))
 (Qo fun y1=>(Qd Qb (Qd Qb (Qd Qb (Qd Qb (Qd Qb (QD fun l=>Qi6 l _ 0 rfl)))))))
def ZW (x1:(List Int)):List Qv→Option (Qv × Bool) | []=>some ((([]:List Int),[]),false) | e::rest=>bif decide ((e).1=x1) then some ((e),true) else ZW x1 rest
def QG (a0:Qf) (a1:(List Int)):Option (Qv × Bool):=QV a0.2.1 (ZW a1 a0.2.1)
def ZJ:Ctr:=⟨62,[Qj,.str],[Qr,.bool],fun x=>QG x.1 x.2.1⟩
def Ea:Kn:=⟨Tryz.f62,[([0,2,1003],[.keep 0 4,.keep 1 1,.keep 1 2,.keep 1 6,.keep 1 11,.keep 1 12,.keep 1 13,.boxd 0 4 Qr,.boxd 1 6 Qr])],[([1003],113),([4002,1003],114)],[]⟩
abbrev Vm (x1:(List Int)) (x2:(List Qv)) (x3:Int) (x5:Qv) (x6:Qv) (x4:Int) (n:Nat):Option (Qv × Bool):=LD_ Ea ZJ [0,2,1003] [.ptr 0 4 0,.fn 114 [],.d .str x1,.ptr 1 6 0,.d (.list Qr) x2,.d I64 x3,.d I64 x4,.agg (Qm Qr x5),.agg (Qm Qr x6)] n
theorem Qax {x1 x2 x5} (hl:Z2 x2):Jy x2 (fun r _=>ZW x1 r) (Vm x1 x2 (x2.length:Int) x5 x5) :=
 JN (d:=(Ty.dflt Qr)) hl (fun x4 n=>(by kernel_rfl:_ =
  bif decide (x4<(x2.length:Int)) then
   bif inB x4 x2.length then
    bif decide ((rd x2 x4 (Ty.dflt Qr)).1=x1) then
     some ((rd x2 x4 (Ty.dflt Qr)),true)
    else
     Vm x1 x2 (x2.length:Int) x5 x5 (QL x4) n
   else none
  else
   some ((([]:List Int),[]),false)))
 (fun _=>Qb)
 (fun k _ q i=>(QI q (Qd Qb i)))
theorem JC:Ok_ ZJ:=okD Ea (by kernel_rfl) Qk
 fun ⟨a0,a1,_⟩=>QX (fun n=>(by kernel_rfl:_ =
  Vm a1 a0.2.1 (a0.2.1.length:Int) (([]:List Int),[]) (([]:List Int),[]) 0 n))
 (QD fun l=>Qax l _ 0 rfl)
def Je (x1:(List Int)):List Qf→Option (Qf × Bool) | []=>some ((([]:List Int),[],[]),false) | e::rest=>bif decide ((e).1=x1) then some ((e),true) else Je x1 rest
def Zo (a0:Qa) (a1:(List Int)):Option (Qf × Bool):=QV a0.2 (Je a1 a0.2)
def Ym:Ctr:=⟨66,[Qe,.str],[Qj,.bool],fun x=>Zo x.1 x.2.1⟩
def Qas:Kn:=⟨Tryz.f66,[([0,2,1003],[.keep 0 4,.keep 1 1,.keep 1 2,.keep 1 6,.keep 1 11,.keep 1 12,.keep 1 13,.boxd 0 4 Qj,.boxd 1 6 Qj])],[([1003],123),([4002,1003],124)],[]⟩
abbrev VU (x1:(List Int)) (x2:(List Qf)) (x3:Int) (x5:Qf) (x6:Qf) (x4:Int) (n:Nat):Option (Qf × Bool):=LD_ Qas Ym [0,2,1003] [.ptr 0 4 0,.fn 124 [],.d .str x1,.ptr 1 6 0,.d (.list Qj) x2,.d I64 x3,.d I64 x4,.agg (Qm Qj x5),.agg (Qm Qj x6)] n
theorem Qbp {x1 x2 x5} (hl:Z2 x2):Jy x2 (fun r _=>Je x1 r) (VU x1 x2 (x2.length:Int) x5 x5) :=
 JN (d:=(Ty.dflt Qj)) hl (fun x4 n=>(by kernel_rfl:_ =
  bif decide (x4<(x2.length:Int)) then
   bif inB x4 x2.length then
    bif decide ((rd x2 x4 (Ty.dflt Qj)).1=x1) then
     some ((rd x2 x4 (Ty.dflt Qj)),true)
    else
     VU x1 x2 (x2.length:Int) x5 x5 (QL x4) n
   else none
  else
   some ((([]:List Int),[],[]),false)))
 (fun _=>Qb)
 (fun k _ q i=>(QI q (Qd Qb i)))
theorem GL:Ok_ Ym:=okD Qas (by kernel_rfl) Qk
 fun ⟨a0,a1,_⟩=>QX (fun n=>(by kernel_rfl:_ =
  VU a1 a0.2 (a0.2.length:Int) (([]:List Int),[],[]) (([]:List Int),[],[]) 0 n))
 (QD fun l=>Qbp l _ 0 rfl)
def JL (a0:(List Int)):Bool:=!decide (a0=a0)
def QeH:Ctr:=⟨186,[.str],[.bool],fun x=>some (JL x.1)⟩
theorem Qls:Ok_ QeH:=okS ⟨Tryz.f186,[],[],[]⟩ (by kernel_rfl) Qk fun _=>by kernel_rfl
def ZK (a0:(List Int)) (a1:(List Int)):Int:=bif JL a0 then bif JL a1 then 0 else (-1) else bif JL a1 then 1 else bif Zn a0 a1 then (-1) else bif Zn a1 a0 then 1 else 0
def WB:Ctr:=⟨160,[.str,.str],[I64],fun x=>some (ZK x.1 x.2.1)⟩
theorem Qbz:Ok_ WB:=okD ⟨Tryz.f160,[],[],[QeH]⟩ (by kernel_rfl) (Qc Qls Qk)
 fun ⟨a0,a1,_⟩=>QX (fun n=>(by kernel_rfl:_ =
  bif JL a0 then
   bif JL a1 then
    some (0:Int)
   else
    some (-1:Int)
  else
   bif JL a1 then
    some (1:Int)
   else
    bif Zn a0 a1 then
     some (-1:Int)
    else
     bif Zn a1 a0 then
      some (1:Int)
     else
      some (0:Int)))
 (Qev (Zj (Zj rfl rfl) (Zj rfl (Zj rfl (Zj rfl rfl)))))
def Hv (a0:Qx):Int:=bif a0.2.2.1 then 1 else 0
def QcP:Ctr:=⟨158,[Qg],[I64],fun x=>some (Hv x.1)⟩
theorem Qi7:Ok_ QcP:=okD ⟨Tryz.f158,[],[],[]⟩ (by kernel_rfl) Qk
 fun ⟨a0,_⟩=>QX (fun n=>(by kernel_rfl:_ =
  bif a0.2.2.1 then
   some (1:Int)
  else
   some (0:Int)))
 (Qev (Zj rfl rfl))
def YZ (a0:Int):Bool:=!decide (a0=a0)
def Qiz:Ctr:=⟨187,[I64],[.bool],fun x=>some (YZ x.1)⟩
theorem QpP:Ok_ Qiz:=okS ⟨Tryz.f187,[],[],[]⟩ (by kernel_rfl) Qk fun _=>by kernel_rfl
def YE (a0:Int) (a1:Int):Int:=bif YZ a0 then bif YZ a1 then 0 else (-1) else bif YZ a1 then 1 else bif decide (a0<a1) then (-1) else bif decide (a1<a0) then 1 else 0
def Qa4:Ctr:=⟨161,[I64,I64],[I64],fun x=>some (YE x.1 x.2.1)⟩
theorem QeI:Ok_ Qa4:=okD ⟨Tryz.f161,[],[],[Qiz]⟩ (by kernel_rfl) (Qc QpP Qk)
 fun ⟨a0,a1,_⟩=>QX (fun n=>(by kernel_rfl:_ =
  bif YZ a0 then
   bif YZ a1 then
    some (0:Int)
   else
    some (-1:Int)
  else
   bif YZ a1 then
    some (1:Int)
   else
    bif decide (a0<a1) then
     some (-1:Int)
    else
     bif decide (a1<a0) then
      some (1:Int)
     else
      some (0:Int)))
 (Qev (Zj (Zj rfl rfl) (Zj rfl (Zj rfl (Zj rfl rfl)))))
def H2:List Int→Option Int | []=>some (0:Int) | e::rest=>bif !decide (e=(0:Int)) then some e else H2 rest
def Qa5 (a0:(List Int)):Option Int:=QV a0 (H2 a0)
def QdZ:Ctr:=⟨159,[(.list I64)],[I64],fun x=>Qa5 x.1⟩
def QlZ:Kn:=⟨Tryz.f159,[([0,3],[.keep 0 3,.keep 0 6,.keep 0 7,.keep 0 8])],[],[]⟩
abbrev Qb3 (x1:Int) (x2:(List Int)) (x3:Int) (x4:Int) (n:Nat):Option Int:=LD_ QlZ QdZ [0,3] [.d I64 x1,.d (.list I64) x2,.d I64 x3,.d I64 x4] n
theorem QpQ {x2} (hl:Z2 x2):Jy x2 (fun r _=>H2 r) (Qb3 (0:Int) x2 (x2.length:Int)) :=
 JN (d:=(Ty.dflt I64)) hl (fun x4 n=>(by kernel_rfl:_ =
  bif decide (x4<(x2.length:Int)) then
   bif inB x4 x2.length then
    bif !decide (rd x2 x4 (Ty.dflt I64)=(0:Int)) then
     some (rd x2 x4 (Ty.dflt I64))
    else
     Qb3 (0:Int) x2 (x2.length:Int) (QL x4) n
   else none
  else
   some (0:Int)))
 (fun _=>Qb)
 (fun k _ q i=>(QI q (Qd Qb i)))
theorem Ql0:Ok_ QdZ:=okD QlZ (by kernel_rfl) Qk
 fun ⟨a0,_⟩=>QX (fun n=>(by kernel_rfl:_ =
  Qb3 0 a0 (a0.length:Int) 0 n))
 (QD fun l=>QpQ l _ 0 rfl)
def Y6 (a0:Qx) (a1:Qx):Option Int:=(Qa5 ([ZK a0.1 a1.1,ZK a0.2.1 a1.2.1,YE (Hv a0) (Hv a1),ZK a0.2.2.2 a1.2.2.2]:List Int)).bind fun y1=>some y1
def QeJ:Ctr:=⟨116,[Qg,Qg],[I64],fun x=>Y6 x.1 x.2.1⟩
theorem Qlt:Ok_ QeJ:=okS ⟨Tryz.f116,[],[],[WB,QcP,Qa4,QdZ]⟩ (by kernel_rfl) (Qc Qbz (Qc Qi7 (Qc QeI (Qc Ql0 Qk)))) fun _=>by kernel_rfl
def ZL (x1:(List Int)):List Qq→Option (Qq × Bool) | []=>some ((([]:List Int),[]),false) | e::rest=>bif decide ((e).1=x1) then some ((e),true) else ZL x1 rest
def Jm (a0:Qf) (a1:(List Int)):Option (Qq × Bool):=QV a0.2.2 (ZL a1 a0.2.2)
def VF:Ctr:=⟨162,[Qj,.str],[Qp,.bool],fun x=>Jm x.1 x.2.1⟩
def Wa:Kn:=⟨Tryz.f162,[([0,2,1003],[.keep 0 4,.keep 1 1,.keep 1 2,.keep 1 6,.keep 1 11,.keep 1 12,.keep 1 13,.boxd 0 4 Qp,.boxd 1 6 Qp])],[([1003],188),([4002,1003],189)],[]⟩
abbrev YV (x1:(List Int)) (x2:(List Qq)) (x3:Int) (x5:Qq) (x6:Qq) (x4:Int) (n:Nat):Option (Qq × Bool):=LD_ Wa VF [0,2,1003] [.ptr 0 4 0,.fn 189 [],.d .str x1,.ptr 1 6 0,.d (.list Qp) x2,.d I64 x3,.d I64 x4,.agg (Qm Qp x5),.agg (Qm Qp x6)] n
theorem EG {x1 x2 x5} (hl:Z2 x2):Jy x2 (fun r _=>ZL x1 r) (YV x1 x2 (x2.length:Int) x5 x5) :=
 JN (d:=(Ty.dflt Qp)) hl (fun x4 n=>(by kernel_rfl:_ =
  bif decide (x4<(x2.length:Int)) then
   bif inB x4 x2.length then
    bif decide ((rd x2 x4 (Ty.dflt Qp)).1=x1) then
     some ((rd x2 x4 (Ty.dflt Qp)),true)
    else
     YV x1 x2 (x2.length:Int) x5 x5 (QL x4) n
   else none
  else
   some ((([]:List Int),[]),false)))
 (fun _=>Qb)
 (fun k _ q i=>(QI q (Qd Qb i)))
theorem Wb:Ok_ VF:=okD Wa (by kernel_rfl) Qk
 fun ⟨a0,a1,_⟩=>QX (fun n=>(by kernel_rfl:_ =
  YV a1 a0.2.2 (a0.2.2.length:Int) (([]:List Int),[]) (([]:List Int),[]) 0 n))
 (QD fun l=>EG l _ 0 rfl)
def QQ (a0:Qa) (a1:(List Int)) (a2:(List Int)):Option Bool:=(Zo a0 a1).bind fun y1=>(QG y1.1 a2).bind fun y2=>(Jm y1.1 a2).bind fun y3=>bif y1.2 then bif y2.2 then some true else some y3.2 else some false
def X4:Ctr:=⟨117,[Qe,.str,.str],[.bool],fun x=>QQ x.1 x.2.1 x.2.2.1⟩
theorem Uv:Ok_ X4:=okS ⟨Tryz.f117,[],[],[Ym,ZJ,VF]⟩ (by kernel_rfl) (Qc GL (Qc JC (Qc Wb Qk))) fun _=>by kernel_rfl
def Q7 (K0:Option Bool) (x1:Int) (x2:Bool) (x6:(List Int)) (x10:Qa) (x11:Qv) (x12:Qx):List Q0→Option Bool | []=>bif decide ((0:Int)<x1) then bif inB (IntKind.wrap .i64 (x1 - 1)) x11.2.length then (Y6 (rd x11.2 (IntKind.wrap .i64 (x1 - 1)) (Ty.dflt Qg)) x12).bind fun y5=>bif decide ((0:Int)≤y5) then some false else bif !(x2) then some false else bif !decide (x12.2.1=([]:List Int)) then bif x12.2.2.1 then some false else (QQ x10 x12.1 x12.2.1).bind fun y6=>bif !(y6) then some false else bif !decide (x12.2.2.2=([]:List Int)) then some false else K0 else bif !decide (x12.2.2.2=([]:List Int)) then some false else K0 else none else bif !(x2) then some false else bif !decide (x12.2.1=([]:List Int)) then bif x12.2.2.1 then some false else (QQ x10 x12.1 x12.2.1).bind fun y7=>bif !(y7) then some false else bif !decide (x12.2.2.2=([]:List Int)) then some false else K0 else bif !decide (x12.2.2.2=([]:List Int)) then some false else K0 | e::rest=>bif decide ((e).1=x6) then bif decide ((0:Int)<x1) then bif inB (IntKind.wrap .i64 (x1 - 1)) x11.2.length then (Y6 (rd x11.2 (IntKind.wrap .i64 (x1 - 1)) (Ty.dflt Qg)) x12).bind fun y2=>bif decide ((0:Int)≤y2) then some false else bif !(x2) then some false else bif !decide (x12.2.1=([]:List Int)) then bif x12.2.2.1 then some false else (QQ x10 x12.1 x12.2.1).bind fun y3=>bif !(y3) then some false else bif !decide (x12.2.2.2=([]:List Int)) then K0 else K0 else bif !decide (x12.2.2.2=([]:List Int)) then K0 else K0 else none else bif !(x2) then some false else bif !decide (x12.2.1=([]:List Int)) then bif x12.2.2.1 then some false else (QQ x10 x12.1 x12.2.1).bind fun y4=>bif !(y4) then some false else bif !decide (x12.2.2.2=([]:List Int)) then K0 else K0 else bif !decide (x12.2.2.2=([]:List Int)) then K0 else K0 else Q7 K0 x1 x2 x6 x10 x11 x12 rest
def Zl (x4:Qa) (x5:Qv):List Qx→Nat→Option Bool | [],k=>some true | e::rest,k=>(Zo x4 ((e).1)).bind fun y1=>QV x4.1 (Q7 (Zl x4 x5 rest (k+1)) (k:Int) y1.2 ((((e).2).2).2) x4 x5 (e) x4.1)
def Jn (a0:Qa) (a1:Qv):Option Bool:=bif decide ((a1.2.length:Int)<1) then some false else bif decide ((8:Int)<(a1.2.length:Int)) then some false else QV a1.2 (Zl a0 a1 a1.2 0)
def Yn:Ctr:=⟨63,[Qe,Qr],[.bool],fun x=>Jn x.1 x.2.1⟩
def VV:Kn:=⟨Tryz.f63,[([0,4],[.keep 0 2,.keep 0 3,.keep 0 22,.keep 0 23,.keep 0 24,.boxd 0 2 Qe,.boxd 0 3 Qr]),([0,2,7004],[.keep 0 2,.keep 0 3,.keep 0 5,.keep 0 6,.keep 0 8,.keep 0 22,.keep 0 23,.keep 0 24,.keep 1 1,.keep 1 2,.keep 1 6,.keep 1 11,.keep 1 12,.keep 1 13,.boxd 0 2 Qe,.boxd 0 3 Qr,.boxd 0 6 Qg,.boxd 1 6 QB])],[([7004],70),([4002,7004],115)],[Ym,QeJ,X4]⟩
abbrev QA (x1:(List Qx)) (x2:Int) (x4:Qa) (x5:Qv) (x3:Int) (n:Nat):Option Bool:=LD_ VV Yn [0,4] [.ptr 0 2 0,.ptr 0 3 0,.d (.list Qg) x1,.d I64 x2,.d I64 x3,.agg (Qm Qe x4),.agg (Qm Qr x5)] n
abbrev J9 (x1:Int) (x2:Bool) (x3:(List Qx)) (x4:Int) (x5:Int) (x6:(List Int)) (x7:(List Q0)) (x8:Int) (x10:Qa) (x11:Qv) (x12:Qx) (x13:Q0) (x9:Int) (n:Nat):Option Bool:=LD_ VV Yn [0,2,7004] [.ptr 0 2 0,.ptr 0 3 0,.d I64 x1,.ptr 0 6 0,.d .bool x2,.d (.list Qg) x3,.d I64 x4,.d I64 x5,.fn 115 [],.d .str x6,.ptr 1 6 0,.d (.list QB) x7,.d I64 x8,.d I64 x9,.agg (Qm Qe x10),.agg (Qm Qr x11),.agg (Qm Qg x12),.agg (Qm QB x13)] n
theorem Wg {K0} {x1 x2 x3 x4 x6 x7 x10 x11 x12 x13} (hl:Z2 x7) (h0:Cm K0 (QA x3 x4 x10 x11 (QL x1))):Jy x7 (fun r _=>Q7 K0 x1 x2 x6 x10 x11 x12 r) (J9 x1 x2 x3 x4 x1 x6 x7 (x7.length:Int) x10 x11 x12 x13) :=
 JN (d:=(Ty.dflt QB)) hl (fun x9 n=>(by kernel_rfl:_ =
  bif decide (x9<(x7.length:Int)) then
   bif inB x9 x7.length then
    bif decide ((rd x7 x9 (Ty.dflt QB)).1=x6) then
     bif decide ((0:Int)<x1) then
      bif inB (IntKind.wrap .i64 (x1 - 1)) x11.2.length then
       (Y6 (rd x11.2 (IntKind.wrap .i64 (x1 - 1)) (Ty.dflt Qg)) x12).bind fun y2 =>
       bif decide ((0:Int)≤y2) then
        some false
       else
        bif !(x2) then
         some false
        else
         bif !decide (x12.2.1=([]:List Int)) then
          bif x12.2.2.1 then
           some false
          else
           (QQ x10 x12.1 x12.2.1).bind fun y3 =>
           bif !(y3) then
            some false
           else
            bif !decide (x12.2.2.2=([]:List Int)) then
             QA x3 x4 x10 x11 (QL x1) n
            else
             QA x3 x4 x10 x11 (QL x1) n
         else
          bif !decide (x12.2.2.2=([]:List Int)) then
           QA x3 x4 x10 x11 (QL x1) n
          else
           QA x3 x4 x10 x11 (QL x1) n
      else none
     else
      bif !(x2) then
       some false
      else
       bif !decide (x12.2.1=([]:List Int)) then
        bif x12.2.2.1 then
         some false
        else
         (QQ x10 x12.1 x12.2.1).bind fun y4 =>
         bif !(y4) then
          some false
         else
          bif !decide (x12.2.2.2=([]:List Int)) then
           QA x3 x4 x10 x11 (QL x1) n
          else
           QA x3 x4 x10 x11 (QL x1) n
       else
        bif !decide (x12.2.2.2=([]:List Int)) then
         QA x3 x4 x10 x11 (QL x1) n
        else
         QA x3 x4 x10 x11 (QL x1) n
    else
     J9 x1 x2 x3 x4 x1 x6 x7 (x7.length:Int) x10 x11 x12 x13 (QL x9) n
   else none
  else
   bif decide ((0:Int)<x1) then
    bif inB (IntKind.wrap .i64 (x1 - 1)) x11.2.length then
     (Y6 (rd x11.2 (IntKind.wrap .i64 (x1 - 1)) (Ty.dflt Qg)) x12).bind fun y5 =>
     bif decide ((0:Int)≤y5) then
      some false
     else
      bif !(x2) then
       some false
      else
       bif !decide (x12.2.1=([]:List Int)) then
        bif x12.2.2.1 then
         some false
        else
         (QQ x10 x12.1 x12.2.1).bind fun y6 =>
         bif !(y6) then
          some false
         else
          bif !decide (x12.2.2.2=([]:List Int)) then
           some false
          else
           QA x3 x4 x10 x11 (QL x1) n
       else
        bif !decide (x12.2.2.2=([]:List Int)) then
         some false
        else
         QA x3 x4 x10 x11 (QL x1) n
    else none
   else
    bif !(x2) then
     some false
    else
     bif !decide (x12.2.1=([]:List Int)) then
      bif x12.2.2.1 then
       some false
      else
       (QQ x10 x12.1 x12.2.1).bind fun y7 =>
       bif !(y7) then
        some false
       else
        bif !decide (x12.2.2.2=([]:List Int)) then
         some false
        else
         QA x3 x4 x10 x11 (QL x1) n
     else
      bif !decide (x12.2.2.2=([]:List Int)) then
       some false
      else
       QA x3 x4 x10 x11 (QL x1) n))
 (fun _=>(Qd (Qd (Qo fun y5=>(Qd Qb (Qd Qb (Qd (Qd Qb (Qo fun y6=>(Qd Qb (Qd Qb h0)))) (Qd Qb h0))))) QC) (Qd Qb (Qd (Qd Qb (Qo fun y7=>(Qd Qb (Qd Qb h0)))) (Qd Qb h0)))))
 (fun k _ q i=>(QI q (Qd (Qd (Qd (Qo fun y2=>(Qd Qb (Qd Qb (Qd (Qd Qb (Qo fun y3=>(Qd Qb (Qd h0 h0)))) (Qd h0 h0))))) QC) (Qd Qb (Qd (Qd Qb (Qo fun y4=>(Qd Qb (Qd h0 h0)))) (Qd h0 h0)))) i)))
theorem Qaa {x1 x4 x5} (hl:Z2 x1):Jy x1 (Zl x4 x5) (QA x1 (x1.length:Int) x4 x5) :=
 JN (d:=(Ty.dflt Qg)) hl (fun x3 n=>(by kernel_rfl:_ =
  bif decide (x3<(x1.length:Int)) then
   bif inB x3 x1.length then
    (Zo x4 ((rd x1 x3 (Ty.dflt Qg)).1)).bind fun y1 =>
    J9 x3 y1.2 x1 (x1.length:Int) x3 ((((rd x1 x3 (Ty.dflt Qg)).2).2).2) x4.1 (x4.1.length:Int) x4 x5 (rd x1 x3 (Ty.dflt Qg)) (([]:List Int),[],[]) 0 n
   else none
  else
   some true))
 (fun _=>Qb)
 (fun k _ q i=>(QI q (Qo fun y1=>(QD fun l=>Wg l i _ 0 rfl))))
theorem Qbq:Ok_ Yn:=okD VV (by kernel_rfl) (Qc GL (Qc Qlt (Qc Uv Qk)))
 fun ⟨a0,a1,_⟩=>QX (fun n=>(by kernel_rfl:_ =
  bif decide ((a1.2.length:Int)<1) then
   some false
  else
   bif decide ((8:Int)<(a1.2.length:Int)) then
    some false
   else
    QA a1.2 (a1.2.length:Int) a0 a1 0 n))
 (Qd Qb (Qd Qb (QD fun l=>Qaa l _ 0 rfl)))
def Qb4 (Rc:(List Qz)→Int→Int→Option Int) (x1:(List Qz)) (x2:Int) (x3:Int):Option Int:=bif inB x2 x1.length then bif decide ((rd x1 x2 (Ty.dflt Ql)).1=3) then (Rc x1 (IntKind.wrap .i64 (x2+1)) (IntKind.wrap .i64 (x3+1))).bind fun y1=>bif decide (y1<0) then some (-1) else (Rc x1 y1 (IntKind.wrap .i64 (x3+1))).bind fun y2=>some y2 else bif decide ((rd x1 x2 (Ty.dflt Ql)).1=4) then (Rc x1 (IntKind.wrap .i64 (x2+1)) (IntKind.wrap .i64 (x3+1))).bind fun y3=>bif decide (y3<0) then some (-1) else (Rc x1 y3 (IntKind.wrap .i64 (x3+1))).bind fun y4=>some y4 else bif decide ((rd x1 x2 (Ty.dflt Ql)).1=5) then (Rc x1 (IntKind.wrap .i64 (x2+1)) (IntKind.wrap .i64 (x3+1))).bind fun y5=>bif decide (y5<0) then some (-1) else (Rc x1 y5 (IntKind.wrap .i64 (x3+1))).bind fun y6=>some y6 else some (IntKind.wrap .i64 (x2+1)) else none
def Qh3 (Rc:(List Qz)→Int→Int→Option Int) (a0:(List Qz)) (a1:Int) (a2:Int):Option Int:=bif decide ((a0.length:Int)≤a1) then some (-1) else bif decide ((10:Int)<a2) then some (-1) else Qb4 Rc a0 a1 a2
def Xm:Nat→(List Qz)→Int→Int→Option Int | 0=>fun _ _ _=>none | d+1=>fun a0 a1 a2=>Qh3 (Xm d) a0 a1 a2
def Qd0 (a0:(List Qz)) (a1:Int) (a2:Int):Option Int:=QaF fun d=>Xm d a0 a1 a2
def Qh4:Ctr:=⟨118,[(.list Ql),I64,I64],[I64],fun x=>Qd0 x.1 x.2.1 x.2.2.1⟩
def Ql1 (Rc:(List Qz)→Int→Int→Option Int):Kn:=⟨Tryz.f118,[([1,3],[.keep 0 0,.keep 0 1,.keep 0 2])],[],[⟨118,[(.list Ql),I64,I64],[I64],fun x=>Rc x.1 x.2.1 x.2.2.1⟩]⟩
abbrev Qg3 (Rc:(List Qz)→Int→Int→Option Int) (x1:(List Qz)) (x2:Int) (x3:Int) (n:Nat):Option Int:=LD_ (Ql1 Rc) Qh4 [1,3] [.d (.list Ql) x1,.d I64 x2,.d I64 x3] n
theorem QpR {Rc:(List Qz)→Int→Int→Option Int} {x1 x2 x3}:Cm (Qb4 Rc x1 x2 x3) (Qg3 Rc x1 x2 x3) :=
 Jk (fun n=>(by kernel_rfl:_ =
  bif inB x2 x1.length then
   bif decide ((rd x1 x2 (Ty.dflt Ql)).1=3) then
    (Rc x1 (IntKind.wrap .i64 (x2+1)) (IntKind.wrap .i64 (x3+1))).bind fun y1 =>
    bif decide (y1<0) then
     some (-1:Int)
    else
     (Rc x1 y1 (IntKind.wrap .i64 (x3+1))).bind fun y2 =>
     some y2
   else
    bif decide ((rd x1 x2 (Ty.dflt Ql)).1=4) then
     (Rc x1 (IntKind.wrap .i64 (x2+1)) (IntKind.wrap .i64 (x3+1))).bind fun y3 =>
     bif decide (y3<0) then
      some (-1:Int)
     else
      (Rc x1 y3 (IntKind.wrap .i64 (x3+1))).bind fun y4 =>
      some y4
    else
     bif decide ((rd x1 x2 (Ty.dflt Ql)).1=5) then
      (Rc x1 (IntKind.wrap .i64 (x2+1)) (IntKind.wrap .i64 (x3+1))).bind fun y5 =>
      bif decide (y5<0) then
       some (-1:Int)
      else
       (Rc x1 y5 (IntKind.wrap .i64 (x3+1))).bind fun y6 =>
       some y6
     else
      some (IntKind.wrap .i64 (x2+1))
  else none))
 (Qd (Qd (Qo fun y1=>(Qd Qb (Qo fun y2=>Qb))) (Qd (Qo fun y3=>(Qd Qb (Qo fun y4=>Qb))) (Qd (Qo fun y5=>(Qd Qb (Qo fun y6=>Qb))) Qb))) QC)
theorem Qt5:Ok_ Qh4:=okR (tys:=[(.list Ql),I64,I64]) (rets:=[I64]) (f:=fun d x=>Xm d x.1 x.2.1 x.2.2.1) (fun _=>rfl) fun d ih=>okD (Ql1 (Xm d)) (by kernel_rfl) (Qc ih Qk)
 fun ⟨a0,a1,a2,_⟩=>QX (fun n=>(by kernel_rfl:_ =
  bif decide ((a0.length:Int)≤a1) then
   some (-1:Int)
  else
   bif decide ((10:Int)<a2) then
    some (-1:Int)
   else
    Qg3 (Xm d) a0 a1 a2 n))
 (Qd Qb (Qd Qb QpR))
def H3:Ctr:=QwV 164 [.list .str] .str fun x=>some (V7 x.1)
theorem Qbr:G4 Tryz.prog H3:=Qx2 (by kernel_rfl) Qzs
def YF:List Qx→(List (List Int))→Option (List (List Int)) | [],x1=>some (V7 x1) | e::rest,x1=>bif decide (((e).2).1=([]:List Int)) then bif !((((e).2).2).1) then bif decide (((x1.length:Int)+(([(e).1]:List (List Int)).length:Int))*16≤Q4)&&decide ((x1.length:Int)+(([(e).1]:List (List Int)).length:Int)≤Q4) then YF rest (x1++([(e).1]:List (List Int))) else none else YF rest x1 else YF rest x1
def YW (a0:Qv):Option (List (List Int)):=QV a0.2 (YF a0.2 [])
def Qcw:Ctr:=⟨120,[Qr],[(.list .str)],fun x=>YW x.1⟩
def Qkb:Kn:=⟨Tryz.f120,[([0,3],[.raw 0 3 .str,.keep 0 7,.keep 0 8,.keep 0 9])],[([8001],200000164)],[H3]⟩
abbrev Hw (x2:(List Qx)) (x3:Int) (x4:Int) (x1:(List (List Int))) (n:Nat):Option (List (List Int)):=LD_ Qkb Qcw [0,3] [.own 0 .str x1,.d (.list Qg) x2,.d I64 x3,.d I64 x4] n
theorem Qof {x2} (hl:Z2 x2):XF x2 (fun r _ x1=>YF r x1) (Hw x2 (x2.length:Int)) :=
 X5 (d:=(Ty.dflt Qg)) hl (fun x4 x1 n=>(by kernel_rfl:_ =
  bif decide (x4<(x2.length:Int)) then
   bif inB x4 x2.length then
    bif decide (((rd x2 x4 (Ty.dflt Qg)).2).1=([]:List Int)) then
     bif !((((rd x2 x4 (Ty.dflt Qg)).2).2).1) then
      bif decide (((x1.length:Int)+(([(rd x2 x4 (Ty.dflt Qg)).1]:List (List Int)).length:Int))*16≤Q4)&&decide ((x1.length:Int)+(([(rd x2 x4 (Ty.dflt Qg)).1]:List (List Int)).length:Int)≤Q4) then
       Hw x2 (x2.length:Int) (QL x4) (x1++([(rd x2 x4 (Ty.dflt Qg)).1]:List (List Int))) n
      else none
     else
      Hw x2 (x2.length:Int) (QL x4) x1 n
    else
     Hw x2 (x2.length:Int) (QL x4) x1 n
   else none
  else
   some (V7 x1)))
 (fun _ x1=>Qb)
 (fun k _ q i x1=>(QI q (Qd (Qd (Qd (i _) QC) (i _)) (i _))))
theorem Qkc:Ok_ Qcw:=okD Qkb (by kernel_rfl) (Qc Qbr Qk)
 fun ⟨a0,_⟩=>QX (fun n=>(by kernel_rfl:_ =
  Hw a0.2 (a0.2.length:Int) 0 [] n))
 (QD fun l=>Qof l _ 0 rfl _)
end
end Go.Ab
