import Derived.Test.YtedpigpcdllpaaaGreatGenAska
import Derived.Test.YtedpigpcdllpaaaGreatProg
import Derived.KernelRfl
namespace Go.Ab
noncomputable section
open Go.Proofs
set_option maxRecDepth 20000
def Yg : List Int → Option Bool
 | [] =>
   some true
 | e :: rest =>
   bif decide (e < 32) then
    some false
   else
    bif decide ((126 : Int) < e) then
     some false
    else
     Yg rest
def Vb (a0 : (List Int)) (a1 : Int) (a2 : Int) : Option Bool :=
 bif decide ((a0.length : Int) < a1) then
  some false
 else
  bif decide (a2 < (a0.length : Int)) then
   some false
  else
   ZF a0 (Yg a0)
def QeF : Ctr:=⟨109,[.str,I64,I64],[.bool],fun x=>Vb x.1 x.2.1 x.2.2.1⟩
def QeG : List (List Nat × Ann):=[([0,4],[.keep 0 0,.keep 0 19,.keep 0 20])]
def Qdb : List (List Nat × Nat):=[]
def Qdc : List Ctr:=[]
def QlX (n : Nat) (a0 : (List Int)) (a1 : Int) (a2 : Int) : Option Bool:=run Tryz.prog QeG Qdb (Qv Qdc) Tryz.f109 (Tryz.f109.body.getD .skip) (Qy [.bool]) n (QE [.str,I64,I64] (a0,a1,a2,()))
abbrev GD (n : Nat) (x1 : (List Int)) (x2 : Int) (x3 : Int) : Option Bool:=lam Tryz.prog QeG Qdb (Qv Qdc) Tryz.f109 (Tryz.f109.body.getD .skip) (Qy [.bool]) n [0,4] [.d .str x1,.d I64 x2,.d I64 x3]
theorem QrF (n : Nat) (a0 : (List Int)) (a1 : Int) (a2 : Int) : QlX n a0 a1 a2 =
  bif decide ((a0.length : Int) < a1) then
   some false
  else
   bif decide (a2 < (a0.length : Int)) then
    some false
   else
    GD n a0 (a0.length : Int) 0:=by kernel_rfl
theorem QbP (n : Nat) (x1 : (List Int)) (x2 : Int) (x3 : Int) : GD (n + 1) x1 x2 x3 =
  bif decide (x3 < x2) then
   bif inB x3 x1.length then
    bif decide (rd x1 x3 0 < 32) then
     some false
    else
     bif inB x3 x1.length then
      bif decide ((126 : Int) < rd x1 x3 0) then
       some false
      else
       GD n x1 x2 (IntKind.wrap .i64 (x3 + 1))
     else none
   else none
  else
   some true:=by kernel_rfl
theorem Qpx {x1 : (List Int)} (hl : x1.length ≤ maxLen) : ∀ (rest : List Int) (k : Nat) (r : Bool),rest = x1.drop k → Yg rest = some r → Ev (fun n=>GD n x1 (x1.length : Int) (k : Int)) r:=by
 intro rest
 induction rest with
 | nil =>
  intro k r hr h
  have hk:=QR hr
  rw [Yg] at h
  refine Ev.step ?_ (fun n=>QbP n x1 (x1.length : Int) (k : Int))
  rw [show decide ((k : Int) < (x1.length : Int)) = false from decide_eq_false (by omega)]
  exact Ev.neg rfl (Ev.ofSome h)
 | cons e rest ih =>
  intro k r hr h
  obtain ⟨hk,hx,hr2⟩:=QJ (d:=0) hr
  have hw:=QG hl hk
  have ih2 : ∀ (r : Bool),Yg rest = some r → Ev (fun n=>GD n x1 (x1.length : Int) (IntKind.wrap .i64 ((k : Int) + 1))) r:=by
   intro r h; rw [hw]; exact ih (k + 1) r hr2 h
  rw [Yg] at h
  refine Ev.step ?_ (fun n=>QbP n x1 (x1.length : Int) (k : Int))
  rw [show decide ((k : Int) < (x1.length : Int)) = true from decide_eq_true (by omega),QM hk,hx]
  exact Ev.pos rfl (Ev.pos rfl (Ev.ofBif h (fun h=>(Ev.ofSome h)) (fun h=>(Ev.pos rfl (Ev.ofBif h (fun h=>(Ev.ofSome h)) (fun h=>(ih2  _ h)))))))
theorem Qxp (a0 : (List Int)) (a1 : Int) (a2 : Int) {r : Bool} (h : Vb a0 a1 a2 = some r) : Ev (fun n=>QlX n a0 a1 a2) r:=by
 rw [Vb] at h
 refine Ev.of_eq ?_ (fun n=>QrF n a0 a1 a2)
 exact (Ev.ofBif h (fun h=>(Ev.ofSome h)) (fun h=>(Ev.ofBif h (fun h=>(Ev.ofSome h)) (fun h=>(Ev.ofLen h fun hl h=>Qpx hl _ (0 : Nat) _ rfl h)))))
theorem QtA : ∀ x ∈ Qdc,Qo Tryz.prog x:=Qt
theorem QvK : Qo Tryz.prog (QeF):=by
 refine Qq (c:=QeF) (by kernel_rfl) (by kernel_rfl : Tryz.prog.funcs[109]? = some Tryz.f109) (code:=Tryz.f109.body.getD .skip) (by kernel_rfl) (by kernel_rfl) (by kernel_rfl) (A:=QeG) (I:=Qdb) (QtA) ?_
 rintro ⟨a0,a1,a2,u⟩ y hy
 exact (Qxp a0 a1 a2 hy).get
def GE (x1 : Bool) (x2 : Int) (x3 : Bool) (x4 : YB) : Option Bool :=
 bif x3 then
  some x1
 else
  bif decide (x2 = 3) then
   bif decide (x4.2.1 = 0) then
    bif decide (x4.2.2.2 = ([] : List Int)) then
     Option.bind (Vb x4.2.2.1 0 200) fun (y1 : Bool) =>
     some y1
    else
     some false
   else
    some false
  else
   bif decide (x2 = 4) then
    bif decide (x4.2.1 = 0) then
     Option.bind (Zw x4.2.2.2) fun (y2 : Bool) =>
     bif y2 then
      Option.bind (Vb x4.2.2.1 1 200) fun (y3 : Bool) =>
      some y3
     else
      some false
    else
     some false
   else
    bif decide (x2 = 6) then
     bif !(x1) then
      some false
     else
      bif decide (x4.2.1 < 0) then
       some false
      else
       bif decide (Int.tmod x4.2.1 64 ≤ 32) then
        bif decide (IntKind.wrap .i64 (Int.tdiv x4.2.1 64) < 4294967296) then
         bif decide ((0 : Int) ≤ IntKind.wrap .i64 (32 - (Int.tmod x4.2.1 64))) then
          bif decide (IntKind.wrap .i64 (1 * 2 ^ (min (Int.toNat (IntKind.wrap .i64 (32 - (Int.tmod x4.2.1 64)))) 64)) = 0) then none else
          some (decide (Int.tmod (IntKind.wrap .i64 (Int.tdiv x4.2.1 64)) (IntKind.wrap .i64 (1 * 2 ^ (min (Int.toNat (IntKind.wrap .i64 (32 - (Int.tmod x4.2.1 64)))) 64))) = 0))
         else none
        else
         some false
       else
        some false
    else
     bif decide (x2 = 7) then
      bif x1 then
       bif decide (((-100000000000) : Int) ≤ x4.2.1) then
        some (decide (x4.2.1 ≤ 100000000000))
       else
        some false
      else
       some false
     else
      some false
def GF (x1 : Bool) (x2 : YB) : Option Bool :=
 bif decide (x2.1 = 1) then
  bif x1 then
   bif decide (x2.2.1 = 0) then
    some true
   else
    some (decide (x2.2.1 = 1))
  else
   some false
 else
  bif decide (x2.1 = 2) then
   GE x1 x2.1 (decide (x2.1 = 2)) x2
  else
   GE x1 x2.1 (decide (x2.1 = 5)) x2
def Gw (a0 : YB) : Option Bool :=
 bif decide (a0.2.2.1 = ([] : List Int)) then
  GF (decide (a0.2.2.2 = ([] : List Int))) a0
 else
  GF false a0
def QeH : Ctr:=⟨62,[Zz],[.bool],fun x=>Gw x.1⟩
def Qat : List (List Nat × Ann):=[([1,2],[.keep 0 1,.keep 0 3,.boxd 0 1 Zz]),([1,7],[.keep 0 1,.keep 0 3,.keep 0 15,.keep 0 29,.boxd 0 1 Zz])]
def Ej : List (List Nat × Nat):=[]
def Ek : List Ctr:=[QeF,UA]
def QlY (n : Nat) (a0 : YB) : Option Bool:=run Tryz.prog Qat Ej (Qv Ek) Tryz.f62 (Tryz.f62.body.getD .skip) (Qy [.bool]) n (QE [Zz] (a0,()))
abbrev Hm (n : Nat) (x1 : Bool) (x2 : YB) : Option Bool:=lam Tryz.prog Qat Ej (Qv Ek) Tryz.f62 (Tryz.f62.body.getD .skip) (Qy [.bool]) n [1,2] [.ptr 0 1 0,.d .bool x1,.agg (QA Zz x2)]
abbrev Hn (n : Nat) (x1 : Bool) (x2 : Int) (x3 : Bool) (x4 : YB) : Option Bool:=lam Tryz.prog Qat Ej (Qv Ek) Tryz.f62 (Tryz.f62.body.getD .skip) (Qy [.bool]) n [1,7] [.ptr 0 1 0,.d .bool x1,.d I64 x2,.d .bool x3,.agg (QA Zz x4)]
theorem QrG (n : Nat) (a0 : YB) : QlY n a0 =
  bif decide (a0.2.2.1 = ([] : List Int)) then
   Hm n (decide (a0.2.2.2 = ([] : List Int))) a0
  else
   Hm n false a0:=by kernel_rfl
theorem QkV (n : Nat) (x1 : Bool) (x2 : YB) : Hm (n + 1) x1 x2 =
  bif decide (x2.1 = 1) then
   bif x1 then
    bif decide (x2.2.1 = 0) then
     some true
    else
     some (decide (x2.2.1 = 1))
   else
    some false
  else
   bif decide (x2.1 = 2) then
    Hn n x1 x2.1 (decide (x2.1 = 2)) x2
   else
    Hn n x1 x2.1 (decide (x2.1 = 5)) x2:=by kernel_rfl
theorem QkW (n : Nat) (x1 : Bool) (x2 : Int) (x3 : Bool) (x4 : YB) : Hn (n + 1) x1 x2 x3 x4 =
  bif x3 then
   some x1
  else
   bif decide (x2 = 3) then
    bif decide (x4.2.1 = 0) then
     bif decide (x4.2.2.2 = ([] : List Int)) then
      Option.bind (Vb x4.2.2.1 0 200) fun (y1 : Bool) =>
      some y1
     else
      some false
    else
     some false
   else
    bif decide (x2 = 4) then
     bif decide (x4.2.1 = 0) then
      Option.bind (Zw x4.2.2.2) fun (y2 : Bool) =>
      bif y2 then
       Option.bind (Vb x4.2.2.1 1 200) fun (y3 : Bool) =>
       some y3
      else
       some false
     else
      some false
    else
     bif decide (x2 = 6) then
      bif !(x1) then
       some false
      else
       bif decide (x4.2.1 < 0) then
        some false
       else
        bif decide (Int.tmod x4.2.1 64 ≤ 32) then
         bif decide (IntKind.wrap .i64 (Int.tdiv x4.2.1 64) < 4294967296) then
          bif decide ((0 : Int) ≤ IntKind.wrap .i64 (32 - (Int.tmod x4.2.1 64))) then
           bif decide (IntKind.wrap .i64 (1 * 2 ^ (min (Int.toNat (IntKind.wrap .i64 (32 - (Int.tmod x4.2.1 64)))) 64)) = 0) then none else
           some (decide (Int.tmod (IntKind.wrap .i64 (Int.tdiv x4.2.1 64)) (IntKind.wrap .i64 (1 * 2 ^ (min (Int.toNat (IntKind.wrap .i64 (32 - (Int.tmod x4.2.1 64)))) 64))) = 0))
          else none
         else
          some false
        else
         some false
     else
      bif decide (x2 = 7) then
       bif x1 then
        bif decide (((-100000000000) : Int) ≤ x4.2.1) then
         some (decide (x4.2.1 ≤ 100000000000))
        else
         some false
       else
        some false
      else
       some false:=by kernel_rfl
theorem Qfa {x1 : Bool} {x2 : Int} {x3 : Bool} {x4 : YB} {r : Bool} (h : GE x1 x2 x3 x4 = some r) : Ev (fun n=>Hn n x1 x2 x3 x4) r:=by
 rw [GE] at h
 refine Ev.step ?_ (fun n=>QkW n x1 x2 x3 x4)
 exact (Ev.ofBif h (fun h=>(Ev.ofSome h)) (fun h=>(Ev.ofBif h (fun h=>(Ev.ofBif h (fun h=>(Ev.ofBif h (fun h=>(Ev.ofBind h fun y1 h=>(Ev.ofSome h))) (fun h=>(Ev.ofSome h)))) (fun h=>(Ev.ofSome h)))) (fun h=>(Ev.ofBif h (fun h=>(Ev.ofBif h (fun h=>(Ev.ofBind h fun y2 h=>(Ev.ofBif h (fun h=>(Ev.ofBind h fun y3 h=>(Ev.ofSome h))) (fun h=>(Ev.ofSome h))))) (fun h=>(Ev.ofSome h)))) (fun h=>(Ev.ofBif h (fun h=>(Ev.ofBif h (fun h=>(Ev.ofSome h)) (fun h=>(Ev.ofBif h (fun h=>(Ev.ofSome h)) (fun h=>(Ev.ofBif h (fun h=>(Ev.ofBif h (fun h=>(Ev.ofBif h (fun h=>(Ev.ofBif h (fun h=>(Ev.ofNone h)) (fun h=>(Ev.ofSome h)))) (fun h=>(Ev.ofNone h)))) (fun h=>(Ev.ofSome h)))) (fun h=>(Ev.ofSome h)))))))) (fun h=>(Ev.ofBif h (fun h=>(Ev.ofBif h (fun h=>(Ev.ofBif h (fun h=>(Ev.ofSome h)) (fun h=>(Ev.ofSome h)))) (fun h=>(Ev.ofSome h)))) (fun h=>(Ev.ofSome h)))))))))))
theorem Qfb {x1 : Bool} {x2 : YB} {r : Bool} (h : GF x1 x2 = some r) : Ev (fun n=>Hm n x1 x2) r:=by
 rw [GF] at h
 refine Ev.step ?_ (fun n=>QkV n x1 x2)
 exact (Ev.ofBif h (fun h=>(Ev.ofBif h (fun h=>(Ev.ofBif h (fun h=>(Ev.ofSome h)) (fun h=>(Ev.ofSome h)))) (fun h=>(Ev.ofSome h)))) (fun h=>(Ev.ofBif h (fun h=>(Qfa h)) (fun h=>(Qfa h)))))
theorem Qxq (a0 : YB) {r : Bool} (h : Gw a0 = some r) : Ev (fun n=>QlY n a0) r:=by
 rw [Gw] at h
 refine Ev.of_eq ?_ (fun n=>QrG n a0)
 exact (Ev.ofBif h (fun h=>(Qfb h)) (fun h=>(Qfb h)))
theorem QtB : ∀ x ∈ Ek,Qo Tryz.prog x:=(Ql QvK (Ql Qc9 Qt))
theorem QvL : Qo Tryz.prog (QeH):=by
 refine Qq (c:=QeH) (by kernel_rfl) (by kernel_rfl : Tryz.prog.funcs[62]? = some Tryz.f62) (code:=Tryz.f62.body.getD .skip) (by kernel_rfl) (by kernel_rfl) (by kernel_rfl) (A:=Qat) (I:=Ej) (QtB) ?_
 rintro ⟨a0,u⟩ y hy
 exact (Qxq a0 hy).get
def VE (K1 : Option Bool) (x4 : Bool) (x6 : QH) (x7 : QF) (x8 : QF) : Option Bool :=
 bif x4 then
  some false
 else
  bif !decide (x8.2 = x7.2) then
   some false
  else
   Option.bind (VD x6.2.1 x8.2) fun (y5 : Bool) =>
   bif !(y5) then
    some false
   else
    K1
def ZE (x4 : QC) : List QH → Option Bool
 | [] =>
   some true
 | e :: rest =>
   Option.bind (Jn x4 ((e).1)) fun (y3 : (QF × Bool)) =>
   bif !(y3.2) then
    some false
   else
    bif !decide ((((e).2).2).1 = ([] : List Int)) then
     Option.bind (Jn x4 ((((e).2).2).1)) fun (y4 : (QF × Bool)) =>
     bif !(y4.2) then
      VE (ZE x4 rest) true (e) y3.1 y4.1
     else
      VE (ZE x4 rest) (!(G3 ((((e).2).2).2))) (e) y3.1 y4.1
    else
     Option.bind (Gw ((((e).2).2).2)) fun (y6 : Bool) =>
     bif !(y6) then
      some false
     else
      bif !decide (((((e).2).2).2).1 = y3.1.2) then
       some false
      else
       Option.bind (VD (((e).2).1) (((((e).2).2).2).1)) fun (y7 : Bool) =>
       bif !(y7) then
        some false
       else
        ZE x4 rest
def ZI (x4 : QC) : List QF → Nat → Option Bool
 | [],k =>
   ZF x4.2.2 (ZE x4 x4.2.2)
 | e :: rest,k =>
   Option.bind (Zw ((e).1)) fun (y2 : Bool) =>
   bif !(y2) then
    some false
   else
    bif decide ((e).1 = ([116,114,117,101] : List Int)) then
     some false
    else
     bif decide ((e).1 = ([102,97,108,115,101] : List Int)) then
      some false
     else
      bif decide ((0 : Int) < (k : Int)) then
       bif inB (IntKind.wrap .i64 ((k : Int) - 1)) x4.2.1.length then
        bif !Jg ((rd x4.2.1 (IntKind.wrap .i64 ((k : Int) - 1)) (Ty.dflt Qz)).1) ((e).1) then
         some false
        else
         bif decide ((e).2 < 1) then
          some false
         else
          bif decide ((7 : Int) < (e).2) then
           some false
          else
           ZI x4 rest (k + 1)
       else none
      else
       bif decide ((e).2 < 1) then
        some false
       else
        bif decide ((7 : Int) < (e).2) then
         some false
        else
         ZI x4 rest (k + 1)
def VF (a0 : QC) : Option Bool :=
 Option.bind (Zw a0.1) fun (y1 : Bool) =>
 bif !(y1) then
  some false
 else
  bif decide ((a0.2.1.length : Int) < 1) then
   some false
  else
   bif decide ((6 : Int) < (a0.2.1.length : Int)) then
    some false
   else
    bif decide ((a0.2.2.length : Int) < 1) then
     some false
    else
     bif decide ((6 : Int) < (a0.2.2.length : Int)) then
      some false
     else
      ZF a0.2.1 (ZI a0 a0.2.1 0)
def QbQ : Ctr:=⟨82,[Qu],[.bool],fun x=>VF x.1⟩
def XU : List (List Nat × Ann):=[([0,4],[.keep 0 1,.keep 0 41,.keep 0 42,.keep 0 43,.boxd 0 1 Qu]),([0,10],[.keep 0 1,.keep 0 90,.keep 0 91,.keep 0 92,.boxd 0 1 Qu]),([1,19],[.keep 0 1,.keep 0 6,.keep 0 7,.keep 0 10,.keep 0 90,.keep 0 91,.keep 0 92,.keep 0 125,.boxd 0 1 Qu,.boxd 0 6 Qw,.boxd 0 7 Qz,.boxd 0 10 Qz])]
def Xb : List (List Nat × Nat):=[]
def Xc : List Ctr:=[UA,WM,Qgk,Qda,QeH]
def QhJ (n : Nat) (a0 : QC) : Option Bool:=run Tryz.prog XU Xb (Qv Xc) Tryz.f82 (Tryz.f82.body.getD .skip) (Qy [.bool]) n (QE [Qu] (a0,()))
abbrev YZ (n : Nat) (x1 : (List QF)) (x2 : Int) (x3 : Int) (x4 : QC) : Option Bool:=lam Tryz.prog XU Xb (Qv Xc) Tryz.f82 (Tryz.f82.body.getD .skip) (Qy [.bool]) n [0,4] [.ptr 0 1 0,.d (.list Qz) x1,.d I64 x2,.d I64 x3,.agg (QA Qu x4)]
abbrev J0 (n : Nat) (x1 : (List QH)) (x2 : Int) (x3 : Int) (x4 : QC) : Option Bool:=lam Tryz.prog XU Xb (Qv Xc) Tryz.f82 (Tryz.f82.body.getD .skip) (Qy [.bool]) n [0,10] [.ptr 0 1 0,.d (.list Qw) x1,.d I64 x2,.d I64 x3,.agg (QA Qu x4)]
abbrev GL (n : Nat) (x1 : (List QH)) (x2 : Int) (x3 : Int) (x4 : Bool) (x5 : QC) (x6 : QH) (x7 : QF) (x8 : QF) : Option Bool:=lam Tryz.prog XU Xb (Qv Xc) Tryz.f82 (Tryz.f82.body.getD .skip) (Qy [.bool]) n [1,19] [.ptr 0 1 0,.ptr 0 6 0,.ptr 0 7 0,.ptr 0 10 0,.d (.list Qw) x1,.d I64 x2,.d I64 x3,.d .bool x4,.agg (QA Qu x5),.agg (QA Qw x6),.agg (QA Qz x7),.agg (QA Qz x8)]
theorem Qn2 (n : Nat) (a0 : QC) : QhJ n a0 =
  Option.bind (Zw a0.1) fun (y1 : Bool) =>
  bif !(y1) then
   some false
  else
   bif decide ((a0.2.1.length : Int) < 1) then
    some false
   else
    bif decide ((6 : Int) < (a0.2.1.length : Int)) then
     some false
    else
     bif decide ((a0.2.2.length : Int) < 1) then
      some false
     else
      bif decide ((6 : Int) < (a0.2.2.length : Int)) then
       some false
      else
       YZ n a0.2.1 (a0.2.1.length : Int) 0 a0:=by kernel_rfl
theorem Qae (n : Nat) (x1 : (List QF)) (x2 : Int) (x3 : Int) (x4 : QC) : YZ (n + 1) x1 x2 x3 x4 =
  bif decide (x3 < x2) then
   bif inB x3 x1.length then
    Option.bind (Zw ((rd x1 x3 (Ty.dflt Qz)).1)) fun (y2 : Bool) =>
    bif !(y2) then
     some false
    else
     bif decide ((rd x1 x3 (Ty.dflt Qz)).1 = ([116,114,117,101] : List Int)) then
      some false
     else
      bif decide ((rd x1 x3 (Ty.dflt Qz)).1 = ([102,97,108,115,101] : List Int)) then
       some false
      else
       bif decide ((0 : Int) < x3) then
        bif inB (IntKind.wrap .i64 (x3 - 1)) x4.2.1.length then
         bif !Jg ((rd x4.2.1 (IntKind.wrap .i64 (x3 - 1)) (Ty.dflt Qz)).1) ((rd x1 x3 (Ty.dflt Qz)).1) then
          some false
         else
          bif decide ((rd x1 x3 (Ty.dflt Qz)).2 < 1) then
           some false
          else
           bif decide ((7 : Int) < (rd x1 x3 (Ty.dflt Qz)).2) then
            some false
           else
            YZ n x1 x2 (IntKind.wrap .i64 (x3 + 1)) x4
        else none
       else
        bif decide ((rd x1 x3 (Ty.dflt Qz)).2 < 1) then
         some false
        else
         bif decide ((7 : Int) < (rd x1 x3 (Ty.dflt Qz)).2) then
          some false
         else
          YZ n x1 x2 (IntKind.wrap .i64 (x3 + 1)) x4
   else none
  else
   J0 n x4.2.2 (x4.2.2.length : Int) 0 x4:=by kernel_rfl
theorem EH (n : Nat) (x1 : (List QH)) (x2 : Int) (x3 : Int) (x4 : QC) : J0 (n + 1) x1 x2 x3 x4 =
  bif decide (x3 < x2) then
   bif inB x3 x1.length then
    Option.bind (Jn x4 ((rd x1 x3 (Ty.dflt Qw)).1)) fun (y3 : (QF × Bool)) =>
    bif !(y3.2) then
     some false
    else
     bif !decide ((((rd x1 x3 (Ty.dflt Qw)).2).2).1 = ([] : List Int)) then
      Option.bind (Jn x4 ((((rd x1 x3 (Ty.dflt Qw)).2).2).1)) fun (y4 : (QF × Bool)) =>
      bif !(y4.2) then
       GL n x1 x2 x3 true x4 (rd x1 x3 (Ty.dflt Qw)) y3.1 y4.1
      else
       GL n x1 x2 x3 (!(G3 ((((rd x1 x3 (Ty.dflt Qw)).2).2).2))) x4 (rd x1 x3 (Ty.dflt Qw)) y3.1 y4.1
     else
      Option.bind (Gw ((((rd x1 x3 (Ty.dflt Qw)).2).2).2)) fun (y6 : Bool) =>
      bif !(y6) then
       some false
      else
       bif !decide (((((rd x1 x3 (Ty.dflt Qw)).2).2).2).1 = y3.1.2) then
        some false
       else
        Option.bind (VD (((rd x1 x3 (Ty.dflt Qw)).2).1) (((((rd x1 x3 (Ty.dflt Qw)).2).2).2).1)) fun (y7 : Bool) =>
        bif !(y7) then
         some false
        else
         J0 n x1 x2 (IntKind.wrap .i64 (x3 + 1)) x4
   else none
  else
   some true:=by kernel_rfl
theorem Qg7 (n : Nat) (x1 : (List QH)) (x2 : Int) (x3 : Int) (x4 : Bool) (x5 : QC) (x6 : QH) (x7 : QF) (x8 : QF) : GL (n + 1) x1 x2 x3 x4 x5 x6 x7 x8 =
  bif x4 then
   some false
  else
   bif !decide (x8.2 = x7.2) then
    some false
   else
    Option.bind (VD x6.2.1 x8.2) fun (y5 : Bool) =>
    bif !(y5) then
     some false
    else
     J0 n x1 x2 (IntKind.wrap .i64 (x3 + 1)) x5:=by kernel_rfl
theorem QbR {K1 : Option Bool} {x1 : (List QH)} {x2 : Int} {x3 : Int} {x4 : Bool} {x5 : QC} {x6 : QH} {x7 : QF} {x8 : QF} (hK1 : ∀  (r : Bool),K1 = some r → Ev (fun n=>J0 n x1 x2 (IntKind.wrap .i64 (x3 + 1)) x5) r) {r : Bool} (h : VE K1 x4 x6 x7 x8 = some r) : Ev (fun n=>GL n x1 x2 x3 x4 x5 x6 x7 x8) r:=by
 rw [VE] at h
 refine Ev.step ?_ (fun n=>Qg7 n x1 x2 x3 x4 x5 x6 x7 x8)
 exact (Ev.ofBif h (fun h=>(Ev.ofSome h)) (fun h=>(Ev.ofBif h (fun h=>(Ev.ofSome h)) (fun h=>(Ev.ofBind h fun y5 h=>(Ev.ofBif h (fun h=>(Ev.ofSome h)) (fun h=>(hK1  _ h))))))))
theorem QkX {x1 : (List QH)} {x4 : QC} (hl : x1.length ≤ maxLen) : ∀ (rest : List QH) (k : Nat) (r : Bool),rest = x1.drop k → ZE x4 rest = some r → Ev (fun n=>J0 n x1 (x1.length : Int) (k : Int) x4) r:=by
 intro rest
 induction rest with
 | nil =>
  intro k r hr h
  have hk:=QR hr
  rw [ZE] at h
  refine Ev.step ?_ (fun n=>EH n x1 (x1.length : Int) (k : Int) x4)
  rw [show decide ((k : Int) < (x1.length : Int)) = false from decide_eq_false (by omega)]
  exact Ev.neg rfl (Ev.ofSome h)
 | cons e rest ih =>
  intro k r hr h
  obtain ⟨hk,hx,hr2⟩:=QJ (d:=(Ty.dflt Qw)) hr
  have hw:=QG hl hk
  have ih2 : ∀ (r : Bool),ZE x4 rest = some r → Ev (fun n=>J0 n x1 (x1.length : Int) (IntKind.wrap .i64 ((k : Int) + 1)) x4) r:=by
   intro r h; rw [hw]; exact ih (k + 1) r hr2 h
  rw [ZE] at h
  refine Ev.step ?_ (fun n=>EH n x1 (x1.length : Int) (k : Int) x4)
  rw [show decide ((k : Int) < (x1.length : Int)) = true from decide_eq_true (by omega),QM hk,hx]
  exact Ev.pos rfl (Ev.pos rfl (Ev.ofBind h fun y3 h=>(Ev.ofBif h (fun h=>(Ev.ofSome h)) (fun h=>(Ev.ofBif h (fun h=>(Ev.ofBind h fun y4 h=>(Ev.ofBif h (fun h=>(QbR ih2 h)) (fun h=>(QbR ih2 h))))) (fun h=>(Ev.ofBind h fun y6 h=>(Ev.ofBif h (fun h=>(Ev.ofSome h)) (fun h=>(Ev.ofBif h (fun h=>(Ev.ofSome h)) (fun h=>(Ev.ofBind h fun y7 h=>(Ev.ofBif h (fun h=>(Ev.ofSome h)) (fun h=>(ih2  _ h)))))))))))))))
theorem Qmv {x1 : (List QF)} {x4 : QC} (hl : x1.length ≤ maxLen) : ∀ (rest : List QF) (k : Nat) (r : Bool),rest = x1.drop k → ZI x4 rest k = some r → Ev (fun n=>YZ n x1 (x1.length : Int) (k : Int) x4) r:=by
 intro rest
 induction rest with
 | nil =>
  intro k r hr h
  have hk:=QR hr
  rw [ZI] at h
  refine Ev.step ?_ (fun n=>Qae n x1 (x1.length : Int) (k : Int) x4)
  rw [show decide ((k : Int) < (x1.length : Int)) = false from decide_eq_false (by omega)]
  exact Ev.neg rfl (Ev.ofLen h fun hl h=>QkX hl _ (0 : Nat) _ rfl h)
 | cons e rest ih =>
  intro k r hr h
  obtain ⟨hk,hx,hr2⟩:=QJ (d:=(Ty.dflt Qz)) hr
  have hw:=QG hl hk
  have ih2 : ∀ (r : Bool),ZI x4 rest (k + 1) = some r → Ev (fun n=>YZ n x1 (x1.length : Int) (IntKind.wrap .i64 ((k : Int) + 1)) x4) r:=by
   intro r h; rw [hw]; exact ih (k + 1) r hr2 h
  rw [ZI] at h
  refine Ev.step ?_ (fun n=>Qae n x1 (x1.length : Int) (k : Int) x4)
  rw [show decide ((k : Int) < (x1.length : Int)) = true from decide_eq_true (by omega),QM hk,hx]
  exact Ev.pos rfl (Ev.pos rfl (Ev.ofBind h fun y2 h=>(Ev.ofBif h (fun h=>(Ev.ofSome h)) (fun h=>(Ev.ofBif h (fun h=>(Ev.ofSome h)) (fun h=>(Ev.ofBif h (fun h=>(Ev.ofSome h)) (fun h=>(Ev.ofBif h (fun h=>(Ev.ofBif h (fun h=>(Ev.ofBif h (fun h=>(Ev.ofSome h)) (fun h=>(Ev.ofBif h (fun h=>(Ev.ofSome h)) (fun h=>(Ev.ofBif h (fun h=>(Ev.ofSome h)) (fun h=>(ih2  _ h)))))))) (fun h=>(Ev.ofNone h)))) (fun h=>(Ev.ofBif h (fun h=>(Ev.ofSome h)) (fun h=>(Ev.ofBif h (fun h=>(Ev.ofSome h)) (fun h=>(ih2  _ h)))))))))))))))
theorem QtC (a0 : QC) {r : Bool} (h : VF a0 = some r) : Ev (fun n=>QhJ n a0) r:=by
 rw [VF] at h
 refine Ev.of_eq ?_ (fun n=>Qn2 n a0)
 exact (Ev.ofBind h fun y1 h=>(Ev.ofBif h (fun h=>(Ev.ofSome h)) (fun h=>(Ev.ofBif h (fun h=>(Ev.ofSome h)) (fun h=>(Ev.ofBif h (fun h=>(Ev.ofSome h)) (fun h=>(Ev.ofBif h (fun h=>(Ev.ofSome h)) (fun h=>(Ev.ofBif h (fun h=>(Ev.ofSome h)) (fun h=>(Ev.ofLen h fun hl h=>Qmv hl _ (0 : Nat) _ rfl h))))))))))))
theorem Qpy : ∀ x ∈ Xc,Qo Tryz.prog x:=(Ql Qc9 (Ql Qmt (Ql Qxo (Ql Qtz (Ql QvL Qt)))))
theorem QrH : Qo Tryz.prog (QbQ):=by
 refine Qq (c:=QbQ) (by kernel_rfl) (by kernel_rfl : Tryz.prog.funcs[82]? = some Tryz.f82) (code:=Tryz.f82.body.getD .skip) (by kernel_rfl) (by kernel_rfl) (by kernel_rfl) (A:=XU) (I:=Xb) (Qpy) ?_
 rintro ⟨a0,u⟩ y hy
 exact (QtC a0 hy).get
def Q4 (x1 : (List Int)) : List Qf → Option (Qf × Bool)
 | [] =>
   some ((([] : List Int),[]),false)
 | e :: rest =>
   bif decide ((e).1 = x1) then
    some ((e),true)
   else
    Q4 x1 rest
def QK (a0 : Qb) (a1 : (List Int)) : Option (Qf × Bool) :=
 ZF a0.2.1 (Q4 a1 a0.2.1)
def Js : Ctr:=⟨84,[Qe,.str],[Qj,.bool],fun x=>QK x.1 x.2.1⟩
def Ha : List (List Nat × Ann):=[([0,2,1003],[.keep 0 4,.keep 1 1,.keep 1 2,.keep 1 6,.keep 1 11,.keep 1 12,.keep 1 13,.boxd 0 4 Qj,.boxd 1 6 Qj])]
def Xx : List (List Nat × Nat):=[([1003],149),([4002,1003],150)]
def Xy : List Ctr:=[]
def Qaf (n : Nat) (a0 : Qb) (a1 : (List Int)) : Option (Qf × Bool):=run Tryz.prog Ha Xx (Qv Xy) Tryz.f84 (Tryz.f84.body.getD .skip) (Qy [Qj,.bool]) n (QE [Qe,.str] (a0,a1,()))
abbrev Z6 (n : Nat) (x1 : (List Int)) (x2 : (List Qf)) (x3 : Int) (x4 : Int) (x5 : Qf) (x6 : Qf) : Option (Qf × Bool):=lam Tryz.prog Ha Xx (Qv Xy) Tryz.f84 (Tryz.f84.body.getD .skip) (Qy [Qj,.bool]) n [0,2,1003] [.ptr 0 4 0,.fn 150 [],.d .str x1,.ptr 1 6 0,.d (.list Qj) x2,.d I64 x3,.d I64 x4,.agg (QA Qj x5),.agg (QA Qj x6)]
theorem Qfx (n : Nat) (a0 : Qb) (a1 : (List Int)) : Qaf n a0 a1 =
  Z6 n a1 a0.2.1 (a0.2.1.length : Int) 0 (([] : List Int),[]) (([] : List Int),[]):=by kernel_rfl
theorem GG (n : Nat) (x1 : (List Int)) (x2 : (List Qf)) (x3 : Int) (x4 : Int) (x5 : Qf) (x6 : Qf) : Z6 (n + 1) x1 x2 x3 x4 x5 x6 =
  bif decide (x4 < x3) then
   bif inB x4 x2.length then
    bif decide ((rd x2 x4 (Ty.dflt Qj)).1 = x1) then
     some ((rd x2 x4 (Ty.dflt Qj)),true)
    else
     Z6 n x1 x2 x3 (IntKind.wrap .i64 (x4 + 1)) x5 x6
   else none
  else
   some ((([] : List Int),[]),false):=by kernel_rfl
theorem Qbe {x1 : (List Int)} {x2 : (List Qf)} {x5 : Qf} (hl : x2.length ≤ maxLen) : ∀ (rest : List Qf) (k : Nat) (r : (Qf × Bool)),rest = x2.drop k → Q4 x1 rest = some r → Ev (fun n=>Z6 n x1 x2 (x2.length : Int) (k : Int) x5 x5) r:=by
 intro rest
 induction rest with
 | nil =>
  intro k r hr h
  have hk:=QR hr
  rw [Q4] at h
  refine Ev.step ?_ (fun n=>GG n x1 x2 (x2.length : Int) (k : Int) x5 x5)
  rw [show decide ((k : Int) < (x2.length : Int)) = false from decide_eq_false (by omega)]
  exact Ev.neg rfl (Ev.ofSome h)
 | cons e rest ih =>
  intro k r hr h
  obtain ⟨hk,hx,hr2⟩:=QJ (d:=(Ty.dflt Qj)) hr
  have hw:=QG hl hk
  have ih2 : ∀ (r : (Qf × Bool)),Q4 x1 rest = some r → Ev (fun n=>Z6 n x1 x2 (x2.length : Int) (IntKind.wrap .i64 ((k : Int) + 1)) x5 x5) r:=by
   intro r h; rw [hw]; exact ih (k + 1) r hr2 h
  rw [Q4] at h
  refine Ev.step ?_ (fun n=>GG n x1 x2 (x2.length : Int) (k : Int) x5 x5)
  rw [show decide ((k : Int) < (x2.length : Int)) = true from decide_eq_true (by omega),QM hk,hx]
  exact Ev.pos rfl (Ev.pos rfl (Ev.ofBif h (fun h=>(Ev.ofSome h)) (fun h=>(ih2  _ h))))
theorem Qiu (a0 : Qb) (a1 : (List Int)) {r : (Qf × Bool)} (h : QK a0 a1 = some r) : Ev (fun n=>Qaf n a0 a1) r:=by
 rw [QK] at h
 refine Ev.of_eq ?_ (fun n=>Qfx n a0 a1)
 exact (Ev.ofLen h fun hl h=>Qbe hl _ (0 : Nat) _ rfl h)
theorem Qgn : ∀ x ∈ Xy,Qo Tryz.prog x:=Qt
theorem YL : Qo Tryz.prog (Js):=by
 refine Qq (c:=Js) (by kernel_rfl) (by kernel_rfl : Tryz.prog.funcs[84]? = some Tryz.f84) (code:=Tryz.f84.body.getD .skip) (by kernel_rfl) (by kernel_rfl) (by kernel_rfl) (A:=Ha) (I:=Xx) (Qgn) ?_
 rintro ⟨a0,a1,u⟩ y hy
 exact (Qiu a0 a1 hy).get
def Zd (x1 : (List Int)) : List Qb → Option (Qb × Bool)
 | [] =>
   some ((([] : List Int),[],[]),false)
 | e :: rest =>
   bif decide ((e).1 = x1) then
    some ((e),true)
   else
    Zd x1 rest
def Q2 (a0 : Qa) (a1 : (List Int)) : Option (Qb × Bool) :=
 ZF a0.2 (Zd a1 a0.2)
def YI : Ctr:=⟨88,[Qi,.str],[Qe,.bool],fun x=>Q2 x.1 x.2.1⟩
def H8 : List (List Nat × Ann):=[([0,2,1003],[.keep 0 4,.keep 1 1,.keep 1 2,.keep 1 6,.keep 1 11,.keep 1 12,.keep 1 13,.boxd 0 4 Qe,.boxd 1 6 Qe])]
def HD : List (List Nat × Nat):=[([1003],160),([4002,1003],161)]
def HE : List Ctr:=[]
def QbS (n : Nat) (a0 : Qa) (a1 : (List Int)) : Option (Qb × Bool):=run Tryz.prog H8 HD (Qv HE) Tryz.f88 (Tryz.f88.body.getD .skip) (Qy [Qe,.bool]) n (QE [Qi,.str] (a0,a1,()))
abbrev Jw (n : Nat) (x1 : (List Int)) (x2 : (List Qb)) (x3 : Int) (x4 : Int) (x5 : Qb) (x6 : Qb) : Option (Qb × Bool):=lam Tryz.prog H8 HD (Qv HE) Tryz.f88 (Tryz.f88.body.getD .skip) (Qy [Qe,.bool]) n [0,2,1003] [.ptr 0 4 0,.fn 161 [],.d .str x1,.ptr 1 6 0,.d (.list Qe) x2,.d I64 x3,.d I64 x4,.agg (QA Qe x5),.agg (QA Qe x6)]
theorem Qg8 (n : Nat) (a0 : Qa) (a1 : (List Int)) : QbS n a0 a1 =
  Jw n a1 a0.2 (a0.2.length : Int) 0 (([] : List Int),[],[]) (([] : List Int),[],[]):=by kernel_rfl
theorem Xd (n : Nat) (x1 : (List Int)) (x2 : (List Qb)) (x3 : Int) (x4 : Int) (x5 : Qb) (x6 : Qb) : Jw (n + 1) x1 x2 x3 x4 x5 x6 =
  bif decide (x4 < x3) then
   bif inB x4 x2.length then
    bif decide ((rd x2 x4 (Ty.dflt Qe)).1 = x1) then
     some ((rd x2 x4 (Ty.dflt Qe)),true)
    else
     Jw n x1 x2 x3 (IntKind.wrap .i64 (x4 + 1)) x5 x6
   else none
  else
   some ((([] : List Int),[],[]),false):=by kernel_rfl
theorem Qcp {x1 : (List Int)} {x2 : (List Qb)} {x5 : Qb} (hl : x2.length ≤ maxLen) : ∀ (rest : List Qb) (k : Nat) (r : (Qb × Bool)),rest = x2.drop k → Zd x1 rest = some r → Ev (fun n=>Jw n x1 x2 (x2.length : Int) (k : Int) x5 x5) r:=by
 intro rest
 induction rest with
 | nil =>
  intro k r hr h
  have hk:=QR hr
  rw [Zd] at h
  refine Ev.step ?_ (fun n=>Xd n x1 x2 (x2.length : Int) (k : Int) x5 x5)
  rw [show decide ((k : Int) < (x2.length : Int)) = false from decide_eq_false (by omega)]
  exact Ev.neg rfl (Ev.ofSome h)
 | cons e rest ih =>
  intro k r hr h
  obtain ⟨hk,hx,hr2⟩:=QJ (d:=(Ty.dflt Qe)) hr
  have hw:=QG hl hk
  have ih2 : ∀ (r : (Qb × Bool)),Zd x1 rest = some r → Ev (fun n=>Jw n x1 x2 (x2.length : Int) (IntKind.wrap .i64 ((k : Int) + 1)) x5 x5) r:=by
   intro r h; rw [hw]; exact ih (k + 1) r hr2 h
  rw [Zd] at h
  refine Ev.step ?_ (fun n=>Xd n x1 x2 (x2.length : Int) (k : Int) x5 x5)
  rw [show decide ((k : Int) < (x2.length : Int)) = true from decide_eq_true (by omega),QM hk,hx]
  exact Ev.pos rfl (Ev.pos rfl (Ev.ofBif h (fun h=>(Ev.ofSome h)) (fun h=>(ih2  _ h))))
theorem QkY (a0 : Qa) (a1 : (List Int)) {r : (Qb × Bool)} (h : Q2 a0 a1 = some r) : Ev (fun n=>QbS n a0 a1) r:=by
 rw [Q2] at h
 refine Ev.of_eq ?_ (fun n=>Qg8 n a0 a1)
 exact (Ev.ofLen h fun hl h=>Qcp hl _ (0 : Nat) _ rfl h)
theorem Qiv : ∀ x ∈ HE,Qo Tryz.prog x:=Qt
theorem Gn : Qo Tryz.prog (YI):=by
 refine Qq (c:=YI) (by kernel_rfl) (by kernel_rfl : Tryz.prog.funcs[88]? = some Tryz.f88) (code:=Tryz.f88.body.getD .skip) (by kernel_rfl) (by kernel_rfl) (by kernel_rfl) (A:=H8) (I:=HD) (Qiv) ?_
 rintro ⟨a0,a1,u⟩ y hy
 exact (QkY a0 a1 hy).get
def J1 (a0 : (List Int)) : Bool :=
 !decide (a0 = a0)
def QaJ : Ctr:=⟨123,[.str],[.bool],fun x=>some (J1 x.1)⟩
def Qgo : List (List Nat × Ann):=[]
def Qfc : List (List Nat × Nat):=[]
def Qfd : List Ctr:=[]
def Qgp (n : Nat) (a0 : (List Int)) : Option Bool:=run Tryz.prog Qgo Qfc (Qv Qfd) Tryz.f123 (Tryz.f123.body.getD .skip) (Qy [.bool]) n (QE [.str] (a0,()))
theorem Qmw (n : Nat) (a0 : (List Int)) : Qgp n a0 =
  some (!decide (a0 = a0)):=by kernel_rfl
theorem QrI (n : Nat) (a0 : (List Int)) : Qgp n a0 = some (J1 a0):=(Qmw n a0).trans rfl
theorem Qn3 : ∀ x ∈ Qfd,Qo Tryz.prog x:=Qt
theorem Qpz : Qo Tryz.prog (QaJ):=by
 refine Qq (c:=QaJ) (by kernel_rfl) (by kernel_rfl : Tryz.prog.funcs[123]? = some Tryz.f123) (code:=Tryz.f123.body.getD .skip) (by kernel_rfl) (by kernel_rfl) (by kernel_rfl) (A:=Qgo) (I:=Qfc) (Qn3) ?_
 rintro ⟨a0,u⟩ y hy
 exact ⟨0,(QrI 0 a0).trans hy⟩
def ZR (a0 : (List Int)) (a1 : (List Int)) : Int :=
 bif J1 a0 then
  bif J1 a1 then
   0
  else
   (-1)
 else
  bif J1 a1 then
   1
  else
   bif Jg a0 a1 then
    (-1)
   else
    bif Jg a1 a0 then
     1
    else
     0
def WO : Ctr:=⟨68,[.str,.str],[I64],fun x=>some (ZR x.1 x.2.1)⟩
def QdZ : List (List Nat × Ann):=[]
def Qcw : List (List Nat × Nat):=[]
def Qcx : List Ctr:=[QaJ]
def Qd0 (n : Nat) (a0 : (List Int)) (a1 : (List Int)) : Option Int:=run Tryz.prog QdZ Qcw (Qv Qcx) Tryz.f68 (Tryz.f68.body.getD .skip) (Qy [I64]) n (QE [.str,.str] (a0,a1,()))
theorem Qjv (n : Nat) (a0 : (List Int)) (a1 : (List Int)) : Qd0 n a0 a1 =
  bif J1 a0 then
   bif J1 a1 then
    some 0
   else
    some (-1)
  else
   bif J1 a1 then
    some 1
   else
    bif Jg a0 a1 then
     some (-1)
    else
     bif Jg a1 a0 then
      some 1
     else
      some 0:=by kernel_rfl
theorem Qn4 (n : Nat) (a0 : (List Int)) (a1 : (List Int)) : Qd0 n a0 a1 = some (ZR a0 a1):=(Qjv n a0 a1).trans (Je (Je rfl rfl) (Je rfl (Je rfl (Je rfl rfl))))
theorem QkZ : ∀ x ∈ Qcx,Qo Tryz.prog x:=(Ql Qpz Qt)
theorem Qmx : Qo Tryz.prog (WO):=by
 refine Qq (c:=WO) (by kernel_rfl) (by kernel_rfl : Tryz.prog.funcs[68]? = some Tryz.f68) (code:=Tryz.f68.body.getD .skip) (by kernel_rfl) (by kernel_rfl) (by kernel_rfl) (A:=QdZ) (I:=Qcw) (QkZ) ?_
 rintro ⟨a0,a1,u⟩ y hy
 exact ⟨0,(Qn4 0 a0 a1).trans hy⟩
def Yx (a0 : Qm) : Int :=
 bif a0.2.2.1 then
  1
 else
  0
def WP : Ctr:=⟨192,[Qd],[I64],fun x=>some (Yx x.1)⟩
def Qd1 : List (List Nat × Ann):=[]
def Qcy : List (List Nat × Nat):=[]
def Qcz : List Ctr:=[]
def Qd2 (n : Nat) (a0 : Qm) : Option Int:=run Tryz.prog Qd1 Qcy (Qv Qcz) Tryz.f192 (Tryz.f192.body.getD .skip) (Qy [I64]) n (QE [Qd] (a0,()))
theorem Qjw (n : Nat) (a0 : Qm) : Qd2 n a0 =
  bif a0.2.2.1 then
   some 1
  else
   some 0:=by kernel_rfl
theorem Qn5 (n : Nat) (a0 : Qm) : Qd2 n a0 = some (Yx a0):=(Qjw n a0).trans (Je rfl rfl)
theorem Qk0 : ∀ x ∈ Qcz,Qo Tryz.prog x:=Qt
theorem Qmy : Qo Tryz.prog (WP):=by
 refine Qq (c:=WP) (by kernel_rfl) (by kernel_rfl : Tryz.prog.funcs[192]? = some Tryz.f192) (code:=Tryz.f192.body.getD .skip) (by kernel_rfl) (by kernel_rfl) (by kernel_rfl) (A:=Qd1) (I:=Qcy) (Qk0) ?_
 rintro ⟨a0,u⟩ y hy
 exact ⟨0,(Qn5 0 a0).trans hy⟩
def Vc (a0 : Int) : Bool :=
 !decide (a0 = a0)
def QeI : Ctr:=⟨122,[I64],[.bool],fun x=>some (Vc x.1)⟩
def QlZ : List (List Nat × Ann):=[]
def Qjx : List (List Nat × Nat):=[]
def Qjy : List Ctr:=[]
def Ql0 (n : Nat) (a0 : Int) : Option Bool:=run Tryz.prog QlZ Qjx (Qv Qjy) Tryz.f122 (Tryz.f122.body.getD .skip) (Qy [.bool]) n (QE [I64] (a0,()))
theorem QrJ (n : Nat) (a0 : Int) : Ql0 n a0 =
  some (!decide (a0 = a0)):=by kernel_rfl
theorem Qxr (n : Nat) (a0 : Int) : Ql0 n a0 = some (Vc a0):=(QrJ n a0).trans rfl
theorem QtD : ∀ x ∈ Qjy,Qo Tryz.prog x:=Qt
theorem QvM : Qo Tryz.prog (QeI):=by
 refine Qq (c:=QeI) (by kernel_rfl) (by kernel_rfl : Tryz.prog.funcs[122]? = some Tryz.f122) (code:=Tryz.f122.body.getD .skip) (by kernel_rfl) (by kernel_rfl) (by kernel_rfl) (A:=QlZ) (I:=Qjx) (QtD) ?_
 rintro ⟨a0,u⟩ y hy
 exact ⟨0,(Qxr 0 a0).trans hy⟩
def Gp (a0 : Int) (a1 : Int) : Int :=
 bif Vc a0 then
  bif Vc a1 then
   0
  else
   (-1)
 else
  bif Vc a1 then
   1
  else
   bif decide (a0 < a1) then
    (-1)
   else
    bif decide (a1 < a0) then
     1
    else
     0
def QbT : Ctr:=⟨67,[I64,I64],[I64],fun x=>some (Gp x.1 x.2.1)⟩
def QhK : List (List Nat × Ann):=[]
def Qgq : List (List Nat × Nat):=[]
def Qgr : List Ctr:=[QeI]
def QhL (n : Nat) (a0 : Int) (a1 : Int) : Option Int:=run Tryz.prog QhK Qgq (Qv Qgr) Tryz.f67 (Tryz.f67.body.getD .skip) (Qy [I64]) n (QE [I64,I64] (a0,a1,()))
theorem Qn6 (n : Nat) (a0 : Int) (a1 : Int) : QhL n a0 a1 =
  bif Vc a0 then
   bif Vc a1 then
    some 0
   else
    some (-1)
  else
   bif Vc a1 then
    some 1
   else
    bif decide (a0 < a1) then
     some (-1)
    else
     bif decide (a1 < a0) then
      some 1
     else
      some 0:=by kernel_rfl
theorem QtE (n : Nat) (a0 : Int) (a1 : Int) : QhL n a0 a1 = some (Gp a0 a1):=(Qn6 n a0 a1).trans (Je (Je rfl rfl) (Je rfl (Je rfl (Je rfl rfl))))
theorem QpA : ∀ x ∈ Qgr,Qo Tryz.prog x:=(Ql QvM Qt)
theorem QrK : Qo Tryz.prog (QbT):=by
 refine Qq (c:=QbT) (by kernel_rfl) (by kernel_rfl : Tryz.prog.funcs[67]? = some Tryz.f67) (code:=Tryz.f67.body.getD .skip) (by kernel_rfl) (by kernel_rfl) (by kernel_rfl) (A:=QhK) (I:=Qgq) (QpA) ?_
 rintro ⟨a0,a1,u⟩ y hy
 exact ⟨0,(QtE 0 a0 a1).trans hy⟩
def V1 : List Int → Option Int
 | [] =>
   some (0 : Int)
 | e :: rest =>
   bif !decide (e = (0 : Int)) then
    some e
   else
    V1 rest
def El (a0 : (List Int)) : Option Int :=
 ZF a0 (V1 a0)
def Qk1 : Ctr:=⟨66,[(.list I64)],[I64],fun x=>El x.1⟩
def Qk2 : List (List Nat × Ann):=[([0,3],[.keep 0 3,.keep 0 6,.keep 0 7,.keep 0 8])]
def Qiw : List (List Nat × Nat):=[]
def Qix : List Ctr:=[]
def QtF (n : Nat) (a0 : (List Int)) : Option Int:=run Tryz.prog Qk2 Qiw (Qv Qix) Tryz.f66 (Tryz.f66.body.getD .skip) (Qy [I64]) n (QE [(.list I64)] (a0,()))
abbrev HF (n : Nat) (x1 : Int) (x2 : (List Int)) (x3 : Int) (x4 : Int) : Option Int:=lam Tryz.prog Qk2 Qiw (Qv Qix) Tryz.f66 (Tryz.f66.body.getD .skip) (Qy [I64]) n [0,3] [.d I64 x1,.d (.list I64) x2,.d I64 x3,.d I64 x4]
theorem Qxs (n : Nat) (a0 : (List Int)) : QtF n a0 =
  HF n 0 a0 (a0.length : Int) 0:=by kernel_rfl
theorem Qfe (n : Nat) (x1 : Int) (x2 : (List Int)) (x3 : Int) (x4 : Int) : HF (n + 1) x1 x2 x3 x4 =
  bif decide (x4 < x3) then
   bif inB x4 x2.length then
    bif !decide (rd x2 x4 (Ty.dflt I64) = x1) then
     some (rd x2 x4 (Ty.dflt I64))
    else
     HF n x1 x2 x3 (IntKind.wrap .i64 (x4 + 1))
   else none
  else
   some x1:=by kernel_rfl
theorem QvN {x2 : (List Int)} (hl : x2.length ≤ maxLen) : ∀ (rest : List Int) (k : Nat) (r : Int),rest = x2.drop k → V1 rest = some r → Ev (fun n=>HF n (0 : Int) x2 (x2.length : Int) (k : Int)) r:=by
 intro rest
 induction rest with
 | nil =>
  intro k r hr h
  have hk:=QR hr
  rw [V1] at h
  refine Ev.step ?_ (fun n=>Qfe n (0 : Int) x2 (x2.length : Int) (k : Int))
  rw [show decide ((k : Int) < (x2.length : Int)) = false from decide_eq_false (by omega)]
  exact Ev.neg rfl (Ev.ofSome h)
 | cons e rest ih =>
  intro k r hr h
  obtain ⟨hk,hx,hr2⟩:=QJ (d:=(Ty.dflt I64)) hr
  have hw:=QG hl hk
  have ih2 : ∀ (r : Int),V1 rest = some r → Ev (fun n=>HF n (0 : Int) x2 (x2.length : Int) (IntKind.wrap .i64 ((k : Int) + 1))) r:=by
   intro r h; rw [hw]; exact ih (k + 1) r hr2 h
  rw [V1] at h
  refine Ev.step ?_ (fun n=>Qfe n (0 : Int) x2 (x2.length : Int) (k : Int))
  rw [show decide ((k : Int) < (x2.length : Int)) = true from decide_eq_true (by omega),QM hk,hx]
  exact Ev.pos rfl (Ev.pos rfl (Ev.ofBif h (fun h=>(Ev.ofSome h)) (fun h=>(ih2  _ h))))
theorem QB1 (a0 : (List Int)) {r : Int} (h : El a0 = some r) : Ev (fun n=>QtF n a0) r:=by
 rw [El] at h
 refine Ev.of_eq ?_ (fun n=>Qxs n a0)
 exact (Ev.ofLen h fun hl h=>QvN hl _ (0 : Nat) _ rfl h)
theorem Qzl : ∀ x ∈ Qix,Qo Tryz.prog x:=Qt
theorem QAr : Qo Tryz.prog (Qk1):=by
 refine Qq (c:=Qk1) (by kernel_rfl) (by kernel_rfl : Tryz.prog.funcs[66]? = some Tryz.f66) (code:=Tryz.f66.body.getD .skip) (by kernel_rfl) (by kernel_rfl) (by kernel_rfl) (A:=Qk2) (I:=Qiw) (Qzl) ?_
 rintro ⟨a0,u⟩ y hy
 exact (QB1 a0 hy).get
def J2 (a0 : Qm) (a1 : Qm) : Option Int :=
 Option.bind (El ([ZR a0.1 a1.1,ZR a0.2.1 a1.2.1,Gp (Yx a0) (Yx a1),ZR a0.2.2.2 a1.2.2.2] : List Int)) fun (y1 : Int) =>
 some y1
def QaK : Ctr:=⟨153,[Qd,Qd],[I64],fun x=>J2 x.1 x.2.1⟩
def Qgs : List (List Nat × Ann):=[]
def Qff : List (List Nat × Nat):=[]
def Qfg : List Ctr:=[WO,WP,QbT,Qk1]
def Qgt (n : Nat) (a0 : Qm) (a1 : Qm) : Option Int:=run Tryz.prog Qgs Qff (Qv Qfg) Tryz.f153 (Tryz.f153.body.getD .skip) (Qy [I64]) n (QE [Qd,Qd] (a0,a1,()))
theorem Qmz (n : Nat) (a0 : Qm) (a1 : Qm) : Qgt n a0 a1 =
  Option.bind (El ([ZR a0.1 a1.1,ZR a0.2.1 a1.2.1,Gp (Yx a0) (Yx a1),ZR a0.2.2.2 a1.2.2.2] : List Int)) fun (y1 : Int) =>
  some y1:=by kernel_rfl
theorem QrL (a0 : Qm) (a1 : Qm) {r : Int} (h : J2 a0 a1 = some r) : Ev (fun n=>Qgt n a0 a1) r:=by
 rw [J2] at h
 refine Ev.of_eq ?_ (fun n=>Qmz n a0 a1)
 exact (Ev.ofBind h fun y1 h=>(Ev.ofSome h))
theorem Qn7 : ∀ x ∈ Qfg,Qo Tryz.prog x:=(Ql Qmx (Ql Qmy (Ql QrK (Ql QAr Qt))))
theorem QpB : Qo Tryz.prog (QaK):=by
 refine Qq (c:=QaK) (by kernel_rfl) (by kernel_rfl : Tryz.prog.funcs[153]? = some Tryz.f153) (code:=Tryz.f153.body.getD .skip) (by kernel_rfl) (by kernel_rfl) (by kernel_rfl) (A:=Qgs) (I:=Qff) (Qn7) ?_
 rintro ⟨a0,a1,u⟩ y hy
 exact (QrL a0 a1 hy).get
def QZ (x1 : (List Int)) : List Qc → Option (Qc × Bool)
 | [] =>
   some ((([] : List Int),[]),false)
 | e :: rest =>
   bif decide ((e).1 = x1) then
    some ((e),true)
   else
    QZ x1 rest
def Zu (a0 : Qb) (a1 : (List Int)) : Option (Qc × Bool) :=
 ZF a0.2.2 (QZ a1 a0.2.2)
def VG : Ctr:=⟨162,[Qe,.str],[Qh,.bool],fun x=>Zu x.1 x.2.1⟩
def Xe : List (List Nat × Ann):=[([0,2,1003],[.keep 0 4,.keep 1 1,.keep 1 2,.keep 1 6,.keep 1 11,.keep 1 12,.keep 1 13,.boxd 0 4 Qh,.boxd 1 6 Qh])]
def GM : List (List Nat × Nat):=[([1003],196),([4002,1003],197)]
def GN : List Ctr:=[]
def WQ (n : Nat) (a0 : Qb) (a1 : (List Int)) : Option (Qc × Bool):=run Tryz.prog Xe GM (Qv GN) Tryz.f162 (Tryz.f162.body.getD .skip) (Qy [Qh,.bool]) n (QE [Qe,.str] (a0,a1,()))
abbrev ZS (n : Nat) (x1 : (List Int)) (x2 : (List Qc)) (x3 : Int) (x4 : Int) (x5 : Qc) (x6 : Qc) : Option (Qc × Bool):=lam Tryz.prog Xe GM (Qv GN) Tryz.f162 (Tryz.f162.body.getD .skip) (Qy [Qh,.bool]) n [0,2,1003] [.ptr 0 4 0,.fn 197 [],.d .str x1,.ptr 1 6 0,.d (.list Qh) x2,.d I64 x3,.d I64 x4,.agg (QA Qh x5),.agg (QA Qh x6)]
theorem Qd3 (n : Nat) (a0 : Qb) (a1 : (List Int)) : WQ n a0 a1 =
  ZS n a1 a0.2.2 (a0.2.2.length : Int) 0 (([] : List Int),[]) (([] : List Int),[]):=by kernel_rfl
theorem Ge (n : Nat) (x1 : (List Int)) (x2 : (List Qc)) (x3 : Int) (x4 : Int) (x5 : Qc) (x6 : Qc) : ZS (n + 1) x1 x2 x3 x4 x5 x6 =
  bif decide (x4 < x3) then
   bif inB x4 x2.length then
    bif decide ((rd x2 x4 (Ty.dflt Qh)).1 = x1) then
     some ((rd x2 x4 (Ty.dflt Qh)),true)
    else
     ZS n x1 x2 x3 (IntKind.wrap .i64 (x4 + 1)) x5 x6
   else none
  else
   some ((([] : List Int),[]),false):=by kernel_rfl
theorem Qag {x1 : (List Int)} {x2 : (List Qc)} {x5 : Qc} (hl : x2.length ≤ maxLen) : ∀ (rest : List Qc) (k : Nat) (r : (Qc × Bool)),rest = x2.drop k → QZ x1 rest = some r → Ev (fun n=>ZS n x1 x2 (x2.length : Int) (k : Int) x5 x5) r:=by
 intro rest
 induction rest with
 | nil =>
  intro k r hr h
  have hk:=QR hr
  rw [QZ] at h
  refine Ev.step ?_ (fun n=>Ge n x1 x2 (x2.length : Int) (k : Int) x5 x5)
  rw [show decide ((k : Int) < (x2.length : Int)) = false from decide_eq_false (by omega)]
  exact Ev.neg rfl (Ev.ofSome h)
 | cons e rest ih =>
  intro k r hr h
  obtain ⟨hk,hx,hr2⟩:=QJ (d:=(Ty.dflt Qh)) hr
  have hw:=QG hl hk
  have ih2 : ∀ (r : (Qc × Bool)),QZ x1 rest = some r → Ev (fun n=>ZS n x1 x2 (x2.length : Int) (IntKind.wrap .i64 ((k : Int) + 1)) x5 x5) r:=by
   intro r h; rw [hw]; exact ih (k + 1) r hr2 h
  rw [QZ] at h
  refine Ev.step ?_ (fun n=>Ge n x1 x2 (x2.length : Int) (k : Int) x5 x5)
  rw [show decide ((k : Int) < (x2.length : Int)) = true from decide_eq_true (by omega),QM hk,hx]
  exact Ev.pos rfl (Ev.pos rfl (Ev.ofBif h (fun h=>(Ev.ofSome h)) (fun h=>(ih2  _ h))))
theorem Qgu (a0 : Qb) (a1 : (List Int)) {r : (Qc × Bool)} (h : Zu a0 a1 = some r) : Ev (fun n=>WQ n a0 a1) r:=by
 rw [Zu] at h
 refine Ev.of_eq ?_ (fun n=>Qd3 n a0 a1)
 exact (Ev.ofLen h fun hl h=>Qag hl _ (0 : Nat) _ rfl h)
theorem QeJ : ∀ x ∈ GN,Qo Tryz.prog x:=Qt
theorem Wi : Qo Tryz.prog (VG):=by
 refine Qq (c:=VG) (by kernel_rfl) (by kernel_rfl : Tryz.prog.funcs[162]? = some Tryz.f162) (code:=Tryz.f162.body.getD .skip) (by kernel_rfl) (by kernel_rfl) (by kernel_rfl) (A:=Xe) (I:=GM) (QeJ) ?_
 rintro ⟨a0,a1,u⟩ y hy
 exact (Qgu a0 a1 hy).get
def QI (a0 : Qa) (a1 : (List Int)) (a2 : (List Int)) : Option Bool :=
 Option.bind (Q2 a0 a1) fun (y1 : (Qb × Bool)) =>
 Option.bind (QK y1.1 a2) fun (y2 : (Qf × Bool)) =>
 Option.bind (Zu y1.1 a2) fun (y3 : (Qc × Bool)) =>
 bif y1.2 then
  bif y2.2 then
   some true
  else
   some y3.2
 else
  some false
def Y0 : Ctr:=⟨89,[Qi,.str,.str],[.bool],fun x=>QI x.1 x.2.1 x.2.2.1⟩
def QcA : List (List Nat × Ann):=[]
def QbU : List (List Nat × Nat):=[]
def QbV : List Ctr:=[YI,Js,VG]
def QcB (n : Nat) (a0 : Qa) (a1 : (List Int)) (a2 : (List Int)) : Option Bool:=run Tryz.prog QcA QbU (Qv QbV) Tryz.f89 (Tryz.f89.body.getD .skip) (Qy [.bool]) n (QE [Qi,.str,.str] (a0,a1,a2,()))
theorem Qiy (n : Nat) (a0 : Qa) (a1 : (List Int)) (a2 : (List Int)) : QcB n a0 a1 a2 =
  Option.bind (Q2 a0 a1) fun (y1 : (Qb × Bool)) =>
  Option.bind (QK y1.1 a2) fun (y2 : (Qf × Bool)) =>
  Option.bind (Zu y1.1 a2) fun (y3 : (Qc × Bool)) =>
  bif y1.2 then
   bif y2.2 then
    some true
   else
    some y3.2
  else
   some false:=by kernel_rfl
theorem QmA (a0 : Qa) (a1 : (List Int)) (a2 : (List Int)) {r : Bool} (h : QI a0 a1 a2 = some r) : Ev (fun n=>QcB n a0 a1 a2) r:=by
 rw [QI] at h
 refine Ev.of_eq ?_ (fun n=>Qiy n a0 a1 a2)
 exact (Ev.ofBind h fun y1 h=>(Ev.ofBind h fun y2 h=>(Ev.ofBind h fun y3 h=>(Ev.ofBif h (fun h=>(Ev.ofBif h (fun h=>(Ev.ofSome h)) (fun h=>(Ev.ofSome h)))) (fun h=>(Ev.ofSome h))))))
theorem Qjz : ∀ x ∈ QbV,Qo Tryz.prog x:=(Ql Gn (Ql YL (Ql Wi Qt)))
theorem GO : Qo Tryz.prog (Y0):=by
 refine Qq (c:=Y0) (by kernel_rfl) (by kernel_rfl : Tryz.prog.funcs[89]? = some Tryz.f89) (code:=Tryz.f89.body.getD .skip) (by kernel_rfl) (by kernel_rfl) (by kernel_rfl) (A:=QcA) (I:=QbU) (Qjz) ?_
 rintro ⟨a0,a1,a2,u⟩ y hy
 exact (QmA a0 a1 a2 hy).get
def QS (K0 : Option Bool) (x1 : Int) (x2 : Bool) (x6 : (List Int)) (x10 : Qa) (x11 : Qf) (x12 : Qm) : List QC → Option Bool
 | [] =>
   bif decide ((0 : Int) < x1) then
    bif inB (IntKind.wrap .i64 (x1 - 1)) x11.2.length then
     Option.bind (J2 (rd x11.2 (IntKind.wrap .i64 (x1 - 1)) (Ty.dflt Qd)) x12) fun (y5 : Int) =>
     bif decide ((0 : Int) ≤ y5) then
      some false
     else
      bif !(x2) then
       some false
      else
       bif !decide (x12.2.1 = ([] : List Int)) then
        bif x12.2.2.1 then
         some false
        else
         Option.bind (QI x10 x12.1 x12.2.1) fun (y6 : Bool) =>
         bif !(y6) then
          some false
         else
          bif !decide (x12.2.2.2 = ([] : List Int)) then
           some false
          else
           K0
       else
        bif !decide (x12.2.2.2 = ([] : List Int)) then
         some false
        else
         K0
    else none
   else
    bif !(x2) then
     some false
    else
     bif !decide (x12.2.1 = ([] : List Int)) then
      bif x12.2.2.1 then
       some false
      else
       Option.bind (QI x10 x12.1 x12.2.1) fun (y7 : Bool) =>
       bif !(y7) then
        some false
       else
        bif !decide (x12.2.2.2 = ([] : List Int)) then
         some false
        else
         K0
     else
      bif !decide (x12.2.2.2 = ([] : List Int)) then
       some false
      else
       K0
 | e :: rest =>
   bif decide ((e).1 = x6) then
    bif decide ((0 : Int) < x1) then
     bif inB (IntKind.wrap .i64 (x1 - 1)) x11.2.length then
      Option.bind (J2 (rd x11.2 (IntKind.wrap .i64 (x1 - 1)) (Ty.dflt Qd)) x12) fun (y2 : Int) =>
      bif decide ((0 : Int) ≤ y2) then
       some false
      else
       bif !(x2) then
        some false
       else
        bif !decide (x12.2.1 = ([] : List Int)) then
         bif x12.2.2.1 then
          some false
         else
          Option.bind (QI x10 x12.1 x12.2.1) fun (y3 : Bool) =>
          bif !(y3) then
           some false
          else
           bif !decide (x12.2.2.2 = ([] : List Int)) then
            K0
           else
            K0
        else
         bif !decide (x12.2.2.2 = ([] : List Int)) then
          K0
         else
          K0
     else none
    else
     bif !(x2) then
      some false
     else
      bif !decide (x12.2.1 = ([] : List Int)) then
       bif x12.2.2.1 then
        some false
       else
        Option.bind (QI x10 x12.1 x12.2.1) fun (y4 : Bool) =>
        bif !(y4) then
         some false
        else
         bif !decide (x12.2.2.2 = ([] : List Int)) then
          K0
         else
          K0
      else
       bif !decide (x12.2.2.2 = ([] : List Int)) then
        K0
       else
        K0
   else
    QS K0 x1 x2 x6 x10 x11 x12 rest
def QW (x4 : Qa) (x5 : Qf) : List Qm → Nat → Option Bool
 | [],k =>
   some true
 | e :: rest,k =>
   Option.bind (Q2 x4 ((e).1)) fun (y1 : (Qb × Bool)) =>
   ZF x4.1 (QS (QW x4 x5 rest (k + 1)) (k : Int) y1.2 ((((e).2).2).2) x4 x5 (e) x4.1)
def ZA (a0 : Qa) (a1 : Qf) : Option Bool :=
 bif decide ((a1.2.length : Int) < 1) then
  some false
 else
  bif decide ((8 : Int) < (a1.2.length : Int)) then
   some false
  else
   ZF a1.2 (QW a0 a1 a1.2 0)
def V2 : Ctr:=⟨85,[Qi,Qj],[.bool],fun x=>ZA x.1 x.2.1⟩
def YJ : List (List Nat × Ann):=[([0,4],[.keep 0 2,.keep 0 3,.keep 0 22,.keep 0 23,.keep 0 24,.boxd 0 2 Qi,.boxd 0 3 Qj]),([0,2,7004],[.keep 0 2,.keep 0 3,.keep 0 5,.keep 0 6,.keep 0 8,.keep 0 22,.keep 0 23,.keep 0 24,.keep 1 1,.keep 1 2,.keep 1 6,.keep 1 11,.keep 1 12,.keep 1 13,.boxd 0 2 Qi,.boxd 0 3 Qj,.boxd 0 6 Qd,.boxd 1 6 Qu])]
def Yq : List (List Nat × Nat):=[([7004],151),([4002,7004],152)]
def Yr : List Ctr:=[YI,QaK,Y0]
def HG (n : Nat) (a0 : Qa) (a1 : Qf) : Option Bool:=run Tryz.prog YJ Yq (Qv Yr) Tryz.f85 (Tryz.f85.body.getD .skip) (Qy [.bool]) n (QE [Qi,Qj] (a0,a1,()))
abbrev QD (n : Nat) (x1 : (List Qm)) (x2 : Int) (x3 : Int) (x4 : Qa) (x5 : Qf) : Option Bool:=lam Tryz.prog YJ Yq (Qv Yr) Tryz.f85 (Tryz.f85.body.getD .skip) (Qy [.bool]) n [0,4] [.ptr 0 2 0,.ptr 0 3 0,.d (.list Qd) x1,.d I64 x2,.d I64 x3,.agg (QA Qi x4),.agg (QA Qj x5)]
abbrev ZC (n : Nat) (x1 : Int) (x2 : Bool) (x3 : (List Qm)) (x4 : Int) (x5 : Int) (x6 : (List Int)) (x7 : (List QC)) (x8 : Int) (x9 : Int) (x10 : Qa) (x11 : Qf) (x12 : Qm) (x13 : QC) : Option Bool:=lam Tryz.prog YJ Yq (Qv Yr) Tryz.f85 (Tryz.f85.body.getD .skip) (Qy [.bool]) n [0,2,7004] [.ptr 0 2 0,.ptr 0 3 0,.d I64 x1,.ptr 0 6 0,.d .bool x2,.d (.list Qd) x3,.d I64 x4,.d I64 x5,.fn 152 [],.d .str x6,.ptr 1 6 0,.d (.list Qu) x7,.d I64 x8,.d I64 x9,.agg (QA Qi x10),.agg (QA Qj x11),.agg (QA Qd x12),.agg (QA Qu x13)]
theorem Qbf (n : Nat) (a0 : Qa) (a1 : Qf) : HG n a0 a1 =
  bif decide ((a1.2.length : Int) < 1) then
   some false
  else
   bif decide ((8 : Int) < (a1.2.length : Int)) then
    some false
   else
    QD n a1.2 (a1.2.length : Int) 0 a0 a1:=by kernel_rfl
theorem Gq (n : Nat) (x1 : (List Qm)) (x2 : Int) (x3 : Int) (x4 : Qa) (x5 : Qf) : QD (n + 1) x1 x2 x3 x4 x5 =
  bif decide (x3 < x2) then
   bif inB x3 x1.length then
    Option.bind (Q2 x4 ((rd x1 x3 (Ty.dflt Qd)).1)) fun (y1 : (Qb × Bool)) =>
    ZC n x3 y1.2 x1 x2 x3 ((((rd x1 x3 (Ty.dflt Qd)).2).2).2) x4.1 (x4.1.length : Int) 0 x4 x5 (rd x1 x3 (Ty.dflt Qd)) (([] : List Int),[],[])
   else none
  else
   some true:=by kernel_rfl
theorem VH (n : Nat) (x1 : Int) (x2 : Bool) (x3 : (List Qm)) (x4 : Int) (x5 : Int) (x6 : (List Int)) (x7 : (List QC)) (x8 : Int) (x9 : Int) (x10 : Qa) (x11 : Qf) (x12 : Qm) (x13 : QC) : ZC (n + 1) x1 x2 x3 x4 x5 x6 x7 x8 x9 x10 x11 x12 x13 =
  bif decide (x9 < x8) then
   bif inB x9 x7.length then
    bif decide ((rd x7 x9 (Ty.dflt Qu)).1 = x6) then
     bif decide ((0 : Int) < x1) then
      bif inB (IntKind.wrap .i64 (x1 - 1)) x11.2.length then
       Option.bind (J2 (rd x11.2 (IntKind.wrap .i64 (x1 - 1)) (Ty.dflt Qd)) x12) fun (y2 : Int) =>
       bif decide ((0 : Int) ≤ y2) then
        some false
       else
        bif !(x2) then
         some false
        else
         bif !decide (x12.2.1 = ([] : List Int)) then
          bif x12.2.2.1 then
           some false
          else
           Option.bind (QI x10 x12.1 x12.2.1) fun (y3 : Bool) =>
           bif !(y3) then
            some false
           else
            bif !decide (x12.2.2.2 = ([] : List Int)) then
             QD n x3 x4 (IntKind.wrap .i64 (x5 + 1)) x10 x11
            else
             QD n x3 x4 (IntKind.wrap .i64 (x5 + 1)) x10 x11
         else
          bif !decide (x12.2.2.2 = ([] : List Int)) then
           QD n x3 x4 (IntKind.wrap .i64 (x5 + 1)) x10 x11
          else
           QD n x3 x4 (IntKind.wrap .i64 (x5 + 1)) x10 x11
      else none
     else
      bif !(x2) then
       some false
      else
       bif !decide (x12.2.1 = ([] : List Int)) then
        bif x12.2.2.1 then
         some false
        else
         Option.bind (QI x10 x12.1 x12.2.1) fun (y4 : Bool) =>
         bif !(y4) then
          some false
         else
          bif !decide (x12.2.2.2 = ([] : List Int)) then
           QD n x3 x4 (IntKind.wrap .i64 (x5 + 1)) x10 x11
          else
           QD n x3 x4 (IntKind.wrap .i64 (x5 + 1)) x10 x11
       else
        bif !decide (x12.2.2.2 = ([] : List Int)) then
         QD n x3 x4 (IntKind.wrap .i64 (x5 + 1)) x10 x11
        else
         QD n x3 x4 (IntKind.wrap .i64 (x5 + 1)) x10 x11
    else
     ZC n x1 x2 x3 x4 x5 x6 x7 x8 (IntKind.wrap .i64 (x9 + 1)) x10 x11 x12 x13
   else none
  else
   bif decide ((0 : Int) < x1) then
    bif inB (IntKind.wrap .i64 (x1 - 1)) x11.2.length then
     Option.bind (J2 (rd x11.2 (IntKind.wrap .i64 (x1 - 1)) (Ty.dflt Qd)) x12) fun (y5 : Int) =>
     bif decide ((0 : Int) ≤ y5) then
      some false
     else
      bif !(x2) then
       some false
      else
       bif !decide (x12.2.1 = ([] : List Int)) then
        bif x12.2.2.1 then
         some false
        else
         Option.bind (QI x10 x12.1 x12.2.1) fun (y6 : Bool) =>
         bif !(y6) then
          some false
         else
          bif !decide (x12.2.2.2 = ([] : List Int)) then
           some false
          else
           QD n x3 x4 (IntKind.wrap .i64 (x5 + 1)) x10 x11
       else
        bif !decide (x12.2.2.2 = ([] : List Int)) then
         some false
        else
         QD n x3 x4 (IntKind.wrap .i64 (x5 + 1)) x10 x11
    else none
   else
    bif !(x2) then
     some false
    else
     bif !decide (x12.2.1 = ([] : List Int)) then
      bif x12.2.2.1 then
       some false
      else
       Option.bind (QI x10 x12.1 x12.2.1) fun (y7 : Bool) =>
       bif !(y7) then
        some false
       else
        bif !decide (x12.2.2.2 = ([] : List Int)) then
         some false
        else
         QD n x3 x4 (IntKind.wrap .i64 (x5 + 1)) x10 x11
     else
      bif !decide (x12.2.2.2 = ([] : List Int)) then
       some false
      else
       QD n x3 x4 (IntKind.wrap .i64 (x5 + 1)) x10 x11:=by kernel_rfl
theorem WA {K0 : Option Bool} {x1 : Int} {x2 : Bool} {x3 : (List Qm)} {x4 : Int} {x6 : (List Int)} {x7 : (List QC)} {x10 : Qa} {x11 : Qf} {x12 : Qm} {x13 : QC} (hl : x7.length ≤ maxLen) (hK0 : ∀  (r : Bool),K0 = some r → Ev (fun n=>QD n x3 x4 (IntKind.wrap .i64 (x1 + 1)) x10 x11) r) : ∀ (rest : List QC) (k : Nat) (r : Bool),rest = x7.drop k → QS K0 x1 x2 x6 x10 x11 x12 rest = some r → Ev (fun n=>ZC n x1 x2 x3 x4 x1 x6 x7 (x7.length : Int) (k : Int) x10 x11 x12 x13) r:=by
 intro rest
 induction rest with
 | nil =>
  intro k r hr h
  have hk:=QR hr
  rw [QS] at h
  refine Ev.step ?_ (fun n=>VH n x1 x2 x3 x4 x1 x6 x7 (x7.length : Int) (k : Int) x10 x11 x12 x13)
  rw [show decide ((k : Int) < (x7.length : Int)) = false from decide_eq_false (by omega)]
  exact Ev.neg rfl (Ev.ofBif h (fun h=>(Ev.ofBif h (fun h=>(Ev.ofBind h fun y5 h=>(Ev.ofBif h (fun h=>(Ev.ofSome h)) (fun h=>(Ev.ofBif h (fun h=>(Ev.ofSome h)) (fun h=>(Ev.ofBif h (fun h=>(Ev.ofBif h (fun h=>(Ev.ofSome h)) (fun h=>(Ev.ofBind h fun y6 h=>(Ev.ofBif h (fun h=>(Ev.ofSome h)) (fun h=>(Ev.ofBif h (fun h=>(Ev.ofSome h)) (fun h=>(hK0  _ h))))))))) (fun h=>(Ev.ofBif h (fun h=>(Ev.ofSome h)) (fun h=>(hK0  _ h))))))))))) (fun h=>(Ev.ofNone h)))) (fun h=>(Ev.ofBif h (fun h=>(Ev.ofSome h)) (fun h=>(Ev.ofBif h (fun h=>(Ev.ofBif h (fun h=>(Ev.ofSome h)) (fun h=>(Ev.ofBind h fun y7 h=>(Ev.ofBif h (fun h=>(Ev.ofSome h)) (fun h=>(Ev.ofBif h (fun h=>(Ev.ofSome h)) (fun h=>(hK0  _ h))))))))) (fun h=>(Ev.ofBif h (fun h=>(Ev.ofSome h)) (fun h=>(hK0  _ h)))))))))
 | cons e rest ih =>
  intro k r hr h
  obtain ⟨hk,hx,hr2⟩:=QJ (d:=(Ty.dflt Qu)) hr
  have hw:=QG hl hk
  have ih2 : ∀ (r : Bool),QS K0 x1 x2 x6 x10 x11 x12 rest = some r → Ev (fun n=>ZC n x1 x2 x3 x4 x1 x6 x7 (x7.length : Int) (IntKind.wrap .i64 ((k : Int) + 1)) x10 x11 x12 x13) r:=by
   intro r h; rw [hw]; exact ih (k + 1) r hr2 h
  rw [QS] at h
  refine Ev.step ?_ (fun n=>VH n x1 x2 x3 x4 x1 x6 x7 (x7.length : Int) (k : Int) x10 x11 x12 x13)
  rw [show decide ((k : Int) < (x7.length : Int)) = true from decide_eq_true (by omega),QM hk,hx]
  exact Ev.pos rfl (Ev.pos rfl (Ev.ofBif h (fun h=>(Ev.ofBif h (fun h=>(Ev.ofBif h (fun h=>(Ev.ofBind h fun y2 h=>(Ev.ofBif h (fun h=>(Ev.ofSome h)) (fun h=>(Ev.ofBif h (fun h=>(Ev.ofSome h)) (fun h=>(Ev.ofBif h (fun h=>(Ev.ofBif h (fun h=>(Ev.ofSome h)) (fun h=>(Ev.ofBind h fun y3 h=>(Ev.ofBif h (fun h=>(Ev.ofSome h)) (fun h=>(Ev.ofBif h (fun h=>(hK0  _ h)) (fun h=>(hK0  _ h))))))))) (fun h=>(Ev.ofBif h (fun h=>(hK0  _ h)) (fun h=>(hK0  _ h))))))))))) (fun h=>(Ev.ofNone h)))) (fun h=>(Ev.ofBif h (fun h=>(Ev.ofSome h)) (fun h=>(Ev.ofBif h (fun h=>(Ev.ofBif h (fun h=>(Ev.ofSome h)) (fun h=>(Ev.ofBind h fun y4 h=>(Ev.ofBif h (fun h=>(Ev.ofSome h)) (fun h=>(Ev.ofBif h (fun h=>(hK0  _ h)) (fun h=>(hK0  _ h))))))))) (fun h=>(Ev.ofBif h (fun h=>(hK0  _ h)) (fun h=>(hK0  _ h)))))))))) (fun h=>(ih2  _ h))))
theorem QaL {x1 : (List Qm)} {x4 : Qa} {x5 : Qf} (hl : x1.length ≤ maxLen) : ∀ (rest : List Qm) (k : Nat) (r : Bool),rest = x1.drop k → QW x4 x5 rest k = some r → Ev (fun n=>QD n x1 (x1.length : Int) (k : Int) x4 x5) r:=by
 intro rest
 induction rest with
 | nil =>
  intro k r hr h
  have hk:=QR hr
  rw [QW] at h
  refine Ev.step ?_ (fun n=>Gq n x1 (x1.length : Int) (k : Int) x4 x5)
  rw [show decide ((k : Int) < (x1.length : Int)) = false from decide_eq_false (by omega)]
  exact Ev.neg rfl (Ev.ofSome h)
 | cons e rest ih =>
  intro k r hr h
  obtain ⟨hk,hx,hr2⟩:=QJ (d:=(Ty.dflt Qd)) hr
  have hw:=QG hl hk
  have ih2 : ∀ (r : Bool),QW x4 x5 rest (k + 1) = some r → Ev (fun n=>QD n x1 (x1.length : Int) (IntKind.wrap .i64 ((k : Int) + 1)) x4 x5) r:=by
   intro r h; rw [hw]; exact ih (k + 1) r hr2 h
  rw [QW] at h
  refine Ev.step ?_ (fun n=>Gq n x1 (x1.length : Int) (k : Int) x4 x5)
  rw [show decide ((k : Int) < (x1.length : Int)) = true from decide_eq_true (by omega),QM hk,hx]
  exact Ev.pos rfl (Ev.pos rfl (Ev.ofBind h fun y1 h=>(Ev.ofLen h fun hl h=>WA hl ih2 _ (0 : Nat) _ rfl h)))
theorem Qdd (a0 : Qa) (a1 : Qf) {r : Bool} (h : ZA a0 a1 = some r) : Ev (fun n=>HG n a0 a1) r:=by
 rw [ZA] at h
 refine Ev.of_eq ?_ (fun n=>Qbf n a0 a1)
 exact (Ev.ofBif h (fun h=>(Ev.ofSome h)) (fun h=>(Ev.ofBif h (fun h=>(Ev.ofSome h)) (fun h=>(Ev.ofLen h fun hl h=>QaL hl _ (0 : Nat) _ rfl h)))))
theorem QbW : ∀ x ∈ Yr,Qo Tryz.prog x:=(Ql Gn (Ql QpB (Ql GO Qt)))
theorem Qcq : Qo Tryz.prog (V2):=by
 refine Qq (c:=V2) (by kernel_rfl) (by kernel_rfl : Tryz.prog.funcs[85]? = some Tryz.f85) (code:=Tryz.f85.body.getD .skip) (by kernel_rfl) (by kernel_rfl) (by kernel_rfl) (A:=YJ) (I:=Yq) (QbW) ?_
 rintro ⟨a0,a1,u⟩ y hy
 exact (Qdd a0 a1 hy).get
def Em (Rc : (List Qp) → Int → Int → Option Int) (x1 : (List Qp)) (x2 : Int) (x3 : Int) : Option Int :=
 bif inB x2 x1.length then
  bif decide ((rd x1 x2 (Ty.dflt Qg)).1 = 3) then
   Option.bind (Rc x1 (IntKind.wrap .i64 (x2 + 1)) (IntKind.wrap .i64 (x3 + 1))) fun (y1 : Int) =>
   bif decide (y1 < 0) then
    some (-1)
   else
    Option.bind (Rc x1 y1 (IntKind.wrap .i64 (x3 + 1))) fun (y2 : Int) =>
    some y2
  else
   bif decide ((rd x1 x2 (Ty.dflt Qg)).1 = 4) then
    Option.bind (Rc x1 (IntKind.wrap .i64 (x2 + 1)) (IntKind.wrap .i64 (x3 + 1))) fun (y3 : Int) =>
    bif decide (y3 < 0) then
     some (-1)
    else
     Option.bind (Rc x1 y3 (IntKind.wrap .i64 (x3 + 1))) fun (y4 : Int) =>
     some y4
   else
    bif decide ((rd x1 x2 (Ty.dflt Qg)).1 = 5) then
     Option.bind (Rc x1 (IntKind.wrap .i64 (x2 + 1)) (IntKind.wrap .i64 (x3 + 1))) fun (y5 : Int) =>
     bif decide (y5 < 0) then
      some (-1)
     else
      Option.bind (Rc x1 y5 (IntKind.wrap .i64 (x3 + 1))) fun (y6 : Int) =>
      some y6
    else
     some (IntKind.wrap .i64 (x2 + 1))
 else none
def QbX (Rc : (List Qp) → Int → Int → Option Int) (a0 : (List Qp)) (a1 : Int) (a2 : Int) : Option Int :=
 bif decide ((a0.length : Int) ≤ a1) then
  some (-1)
 else
  bif decide ((10 : Int) < a2) then
   some (-1)
  else
   Em Rc a0 a1 a2
def XV : Nat → (List Qp) → Int → Int → Option Int
 | 0=>fun _ _ _=>none
 | d + 1=>fun a0 a1 a2=>QbX (XV d) a0 a1 a2
def Qfy (a0 : (List Qp)) (a1 : Int) (a2 : Int) : Option Int:=Qhw fun d=>XV d a0 a1 a2
def QtG : Ctr:=⟨154,[(.list Qg),I64,I64],[I64],fun x=>Qfy x.1 x.2.1 x.2.2.1⟩
def Qk3 : List (List Nat × Ann):=[([1,3],[.keep 0 0,.keep 0 1,.keep 0 2])]
def Qiz : List (List Nat × Nat):=[]
def QiA (Rc : (List Qp) → Int → Int → Option Int) : List Ctr:=[⟨154,[(.list Qg),I64,I64],[I64],fun x=>Rc x.1 x.2.1 x.2.2.1⟩]
def QtH (Rc : (List Qp) → Int → Int → Option Int) (n : Nat) (a0 : (List Qp)) (a1 : Int) (a2 : Int) : Option Int:=run Tryz.prog Qk3 Qiz (Qv (QiA Rc)) Tryz.f154 (Tryz.f154.body.getD .skip) (Qy [I64]) n (QE [(.list Qg),I64,I64] (a0,a1,a2,()))
abbrev Qde (Rc : (List Qp) → Int → Int → Option Int) (n : Nat) (x1 : (List Qp)) (x2 : Int) (x3 : Int) : Option Int:=lam Tryz.prog Qk3 Qiz (Qv (QiA Rc)) Tryz.f154 (Tryz.f154.body.getD .skip) (Qy [I64]) n [1,3] [.d (.list Qg) x1,.d I64 x2,.d I64 x3]
theorem Qxt (Rc : (List Qp) → Int → Int → Option Int) (n : Nat) (a0 : (List Qp)) (a1 : Int) (a2 : Int) : QtH Rc n a0 a1 a2 =
  bif decide ((a0.length : Int) ≤ a1) then
   some (-1)
  else
   bif decide ((10 : Int) < a2) then
    some (-1)
   else
    Qde Rc n a0 a1 a2:=by kernel_rfl
theorem QpC (Rc : (List Qp) → Int → Int → Option Int) (n : Nat) (x1 : (List Qp)) (x2 : Int) (x3 : Int) : Qde Rc (n + 1) x1 x2 x3 =
  bif inB x2 x1.length then
   bif decide ((rd x1 x2 (Ty.dflt Qg)).1 = 3) then
    Option.bind (Rc x1 (IntKind.wrap .i64 (x2 + 1)) (IntKind.wrap .i64 (x3 + 1))) fun (y1 : Int) =>
    bif decide (y1 < 0) then
     some (-1)
    else
     Option.bind (Rc x1 y1 (IntKind.wrap .i64 (x3 + 1))) fun (y2 : Int) =>
     some y2
   else
    bif decide ((rd x1 x2 (Ty.dflt Qg)).1 = 4) then
     Option.bind (Rc x1 (IntKind.wrap .i64 (x2 + 1)) (IntKind.wrap .i64 (x3 + 1))) fun (y3 : Int) =>
     bif decide (y3 < 0) then
      some (-1)
     else
      Option.bind (Rc x1 y3 (IntKind.wrap .i64 (x3 + 1))) fun (y4 : Int) =>
      some y4
    else
     bif decide ((rd x1 x2 (Ty.dflt Qg)).1 = 5) then
      Option.bind (Rc x1 (IntKind.wrap .i64 (x2 + 1)) (IntKind.wrap .i64 (x3 + 1))) fun (y5 : Int) =>
      bif decide (y5 < 0) then
       some (-1)
      else
       Option.bind (Rc x1 y5 (IntKind.wrap .i64 (x3 + 1))) fun (y6 : Int) =>
       some y6
     else
      some (IntKind.wrap .i64 (x2 + 1))
  else none:=by kernel_rfl
theorem QvO {Rc : (List Qp) → Int → Int → Option Int} {x1 : (List Qp)} {x2 : Int} {x3 : Int} {r : Int} (h : Em Rc x1 x2 x3 = some r) : Ev (fun n=>Qde Rc n x1 x2 x3) r:=by
 rw [Em] at h
 refine Ev.step ?_ (fun n=>QpC Rc n x1 x2 x3)
 exact (Ev.ofBif h (fun h=>(Ev.ofBif h (fun h=>(Ev.ofBind h fun y1 h=>(Ev.ofBif h (fun h=>(Ev.ofSome h)) (fun h=>(Ev.ofBind h fun y2 h=>(Ev.ofSome h)))))) (fun h=>(Ev.ofBif h (fun h=>(Ev.ofBind h fun y3 h=>(Ev.ofBif h (fun h=>(Ev.ofSome h)) (fun h=>(Ev.ofBind h fun y4 h=>(Ev.ofSome h)))))) (fun h=>(Ev.ofBif h (fun h=>(Ev.ofBind h fun y5 h=>(Ev.ofBif h (fun h=>(Ev.ofSome h)) (fun h=>(Ev.ofBind h fun y6 h=>(Ev.ofSome h)))))) (fun h=>(Ev.ofSome h)))))))) (fun h=>(Ev.ofNone h)))
theorem QB2 {Rc : (List Qp) → Int → Int → Option Int} (a0 : (List Qp)) (a1 : Int) (a2 : Int) {r : Int} (h : QbX Rc a0 a1 a2 = some r) : Ev (fun n=>QtH Rc n a0 a1 a2) r:=by
 rw [QbX] at h
 refine Ev.of_eq ?_ (fun n=>Qxt Rc n a0 a1 a2)
 exact (Ev.ofBif h (fun h=>(Ev.ofSome h)) (fun h=>(Ev.ofBif h (fun h=>(Ev.ofSome h)) (fun h=>(QvO h)))))
theorem Qzm : ∀ d,Qo Tryz.prog (⟨154,[(.list Qg),I64,I64],[I64],fun x=>XV d x.1 x.2.1 x.2.2.1⟩ : Ctr):=by
 intro d
 induction d with
 | zero=>intro xs y hy; exact (nomatch (show (none : Option Int) = some y from hy))
 | succ d ih =>
  refine Qq (by kernel_rfl) (by kernel_rfl : Tryz.prog.funcs[154]? = some Tryz.f154) (code:=Tryz.f154.body.getD .skip) (by kernel_rfl) (by kernel_rfl) (by kernel_rfl) (A:=Qk3) (I:=Qiz) (cs:=QiA (XV d)) (Ql ih Qt) ?_
  rintro ⟨a0,a1,a2,u⟩ y hy
  exact (QB2 a0 a1 a2 hy).get
theorem QAs : Qo Tryz.prog (QtG):=by
 rintro ⟨a0,a1,a2,u⟩ y hy
 obtain ⟨d,hd⟩:=(Ee hy).get
 exact Qzm d (a0,a1,a2,u) y hd
def HH : Ctr:=QCO 194 [.list .str] .str fun x=>some (VV x.1)
theorem Qcr : Qo Tryz.prog HH:=QDH (by kernel_rfl) QET
def Jo : List Qm → (List (List Int)) → Option (List (List Int))
 | [],x1 =>
   some (VV x1)
 | e :: rest,x1 =>
   bif decide (((e).2).1 = ([] : List Int)) then
    bif !((((e).2).2).1) then
     bif decide (((x1.length : Int) + (([(e).1] : List (List Int)).length : Int)) * 16 ≤ ZB) && decide ((x1.length : Int) + (([(e).1] : List (List Int)).length : Int) ≤ ZB) then
      Jo rest (x1 ++ ([(e).1] : List (List Int)))
     else none
    else
     Jo rest x1
   else
    Jo rest x1
def J9 (a0 : Qf) : Option (List (List Int)) :=
 ZF a0.2 (Jo a0.2 [])
def QdC : Ctr:=⟨156,[Qj],[(.list .str)],fun x=>J9 x.1⟩
def QiB : List (List Nat × Ann):=[([0,3],[.raw 0 3 .str,.keep 0 7,.keep 0 8,.keep 0 9])]
def Qgv : List (List Nat × Nat):=[([8001],200000194)]
def Qgw : List Ctr:=[HH]
def Qqx (n : Nat) (a0 : Qf) : Option (List (List Int)):=run Tryz.prog QiB Qgv (Qv Qgw) Tryz.f156 (Tryz.f156.body.getD .skip) (Qy [(.list .str)]) n (QE [Qj] (a0,()))
abbrev VI (n : Nat) (x1 : (List (List Int))) (x2 : (List Qm)) (x3 : Int) (x4 : Int) : Option (List (List Int)):=lam Tryz.prog QiB Qgv (Qv Qgw) Tryz.f156 (Tryz.f156.body.getD .skip) (Qy [(.list .str)]) n [0,3] [.own 0 .str x1,.d (.list Qd) x2,.d I64 x3,.d I64 x4]
theorem QvP (n : Nat) (a0 : Qf) : Qqx n a0 =
  VI n [] a0.2 (a0.2.length : Int) 0:=by kernel_rfl
theorem Qd4 (n : Nat) (x1 : (List (List Int))) (x2 : (List Qm)) (x3 : Int) (x4 : Int) : VI (n + 1) x1 x2 x3 x4 =
  bif decide (x4 < x3) then
   bif inB x4 x2.length then
    bif decide (((rd x2 x4 (Ty.dflt Qd)).2).1 = ([] : List Int)) then
     bif !((((rd x2 x4 (Ty.dflt Qd)).2).2).1) then
      bif decide (((x1.length : Int) + (([(rd x2 x4 (Ty.dflt Qd)).1] : List (List Int)).length : Int)) * 16 ≤ ZB) && decide ((x1.length : Int) + (([(rd x2 x4 (Ty.dflt Qd)).1] : List (List Int)).length : Int) ≤ ZB) then
       VI n (x1 ++ ([(rd x2 x4 (Ty.dflt Qd)).1] : List (List Int))) x2 x3 (IntKind.wrap .i64 (x4 + 1))
      else none
     else
      VI n x1 x2 x3 (IntKind.wrap .i64 (x4 + 1))
    else
     VI n x1 x2 x3 (IntKind.wrap .i64 (x4 + 1))
   else none
  else
   some (VV x1):=by kernel_rfl
theorem QtI {x2 : (List Qm)} (hl : x2.length ≤ maxLen) : ∀ (rest : List Qm) (k : Nat) (x1 : (List (List Int))) (r : (List (List Int))),rest = x2.drop k → Jo rest x1 = some r → Ev (fun n=>VI n x1 x2 (x2.length : Int) (k : Int)) r:=by
 intro rest
 induction rest with
 | nil =>
  intro k x1 r hr h
  have hk:=QR hr
  rw [Jo] at h
  refine Ev.step ?_ (fun n=>Qd4 n x1 x2 (x2.length : Int) (k : Int))
  rw [show decide ((k : Int) < (x2.length : Int)) = false from decide_eq_false (by omega)]
  exact Ev.neg rfl (Ev.ofSome h)
 | cons e rest ih =>
  intro k x1 r hr h
  obtain ⟨hk,hx,hr2⟩:=QJ (d:=(Ty.dflt Qd)) hr
  have hw:=QG hl hk
  have ih2 : ∀ (z1 : (List (List Int))) (r : (List (List Int))),Jo rest z1 = some r → Ev (fun n=>VI n z1 x2 (x2.length : Int) (IntKind.wrap .i64 ((k : Int) + 1))) r:=by
   intro z1 r h; rw [hw]; exact ih (k + 1) z1 r hr2 h
  rw [Jo] at h
  refine Ev.step ?_ (fun n=>Qd4 n x1 x2 (x2.length : Int) (k : Int))
  rw [show decide ((k : Int) < (x2.length : Int)) = true from decide_eq_true (by omega),QM hk,hx]
  exact Ev.pos rfl (Ev.pos rfl (Ev.ofBif h (fun h=>(Ev.ofBif h (fun h=>(Ev.ofBif h (fun h=>(ih2 _ _ h)) (fun h=>(Ev.ofNone h)))) (fun h=>(ih2 _ _ h)))) (fun h=>(ih2 _ _ h))))
theorem QAt (a0 : Qf) {r : (List (List Int))} (h : J9 a0 = some r) : Ev (fun n=>Qqx n a0) r:=by
 rw [J9] at h
 refine Ev.of_eq ?_ (fun n=>QvP n a0)
 exact (Ev.ofLen h fun hl h=>QtI hl _ (0 : Nat) _ _ rfl h)
theorem Qxu : ∀ x ∈ Qgw,Qo Tryz.prog x:=(Ql Qcr Qt)
theorem Qn8 : Qo Tryz.prog (QdC):=by
 refine Qq (c:=QdC) (by kernel_rfl) (by kernel_rfl : Tryz.prog.funcs[156]? = some Tryz.f156) (code:=Tryz.f156.body.getD .skip) (by kernel_rfl) (by kernel_rfl) (by kernel_rfl) (A:=QiB) (I:=Qgv) (Qxu) ?_
 rintro ⟨a0,u⟩ y hy
 exact (QAt a0 hy).get
def QT (K0 : Option Bool) (x8 : Qa) (x10 : Qp) : List (List Int) → Nat → Option Bool
 | [],k =>
   bif false then
    some false
   else
    some false
 | e :: rest,k =>
   Option.bind (QI x8 (e) x10.2.2) fun (y5 : Bool) =>
   bif y5 then
    bif false then
     some false
    else
     bif !decide ((0 : Int) ≤ (k : Int)) then
      some false
     else
      K0
   else
    QT K0 x8 x10 rest (k + 1)
def Ze (K0 : Option Bool) (x4 : Int) (x5 : Bool) (x6 : Qa) (x7 : Qb) (x8 : Qp) : Option Bool :=
 bif x5 then
  bif !decide (x8.2.1 = ([] : List Int)) then
   some false
  else
   bif !decide (x8.2.2 = ([] : List Int)) then
    some false
   else
    K0
 else
  bif decide (x4 = 1) then
   bif !decide (x8.2.1 = ([] : List Int)) then
    some false
   else
    Option.bind (QI x6 x7.1 x8.2.2) fun (y2 : Bool) =>
    bif !(y2) then
     some false
    else
     K0
  else
   bif decide (x4 = 2) then
    Option.bind (QK x7 x8.2.1) fun (y3 : (Qf × Bool)) =>
    bif !(y3.2) then
     some false
    else
     Option.bind (J9 y3.1) fun (y4 : (List (List Int))) =>
     ZF y4 (QT K0 x6 x8 y4 0)
   else
    some false
def QP (x4 : Qa) (x5 : Qb) : List Qp → Option Bool
 | [] =>
   some true
 | e :: rest =>
   bif decide ((e).1 = 3) then
    Ze (QP x4 x5 rest) ((e).1) (decide ((e).1 = 3)) x4 x5 (e)
   else
    bif decide ((e).1 = 4) then
     Ze (QP x4 x5 rest) ((e).1) (decide ((e).1 = 4)) x4 x5 (e)
    else
     bif decide ((e).1 = 5) then
      Ze (QP x4 x5 rest) ((e).1) (decide ((e).1 = 5)) x4 x5 (e)
     else
      Ze (QP x4 x5 rest) ((e).1) (decide ((e).1 = 6)) x4 x5 (e)
def ZY (a0 : Qa) (a1 : Qb) (a2 : (List Qp)) : Option Bool :=
 bif decide ((a2.length : Int) = 0) then
  some false
 else
  bif decide ((30 : Int) < (a2.length : Int)) then
   some false
  else
   Option.bind (Qfy a2 0 1) fun (y1 : Int) =>
   bif !decide (y1 = (a2.length : Int)) then
    some false
   else
    ZF a2 (QP a0 a1 a2)
def Xf : Ctr:=⟨86,[Qi,Qe,(.list Qg)],[.bool],fun x=>ZY x.1 x.2.1 x.2.2.1⟩
def Yy : List (List Nat × Ann):=[([0,4],[.keep 0 3,.keep 0 4,.keep 0 26,.keep 0 27,.keep 0 28,.boxd 0 3 Qi,.boxd 0 4 Qe]),([1,12],[.keep 0 3,.keep 0 4,.keep 0 8,.keep 0 26,.keep 0 27,.keep 0 28,.keep 0 33,.keep 0 34,.boxd 0 3 Qi,.boxd 0 4 Qe,.boxd 0 8 Qg]),([0,2,1002,19006],[.keep 0 3,.keep 0 4,.keep 0 26,.keep 0 27,.keep 0 28,.keep 0 72,.keep 2 0,.keep 2 1,.keep 2 7,.keep 2 8,.boxd 0 3 Qi,.boxd 0 4 Qe,.boxd 0 8 Qg])]
def Yl : List (List Nat × Nat):=[([19006],155),([1002,19006],193),([4005,1002,19006],157)]
def Ym : List Ctr:=[QtG,Y0,Js,QdC]
def WR (n : Nat) (a0 : Qa) (a1 : Qb) (a2 : (List Qp)) : Option Bool:=run Tryz.prog Yy Yl (Qv Ym) Tryz.f86 (Tryz.f86.body.getD .skip) (Qy [.bool]) n (QE [Qi,Qe,(.list Qg)] (a0,a1,a2,()))
abbrev Q3 (n : Nat) (x1 : (List Qp)) (x2 : Int) (x3 : Int) (x4 : Qa) (x5 : Qb) : Option Bool:=lam Tryz.prog Yy Yl (Qv Ym) Tryz.f86 (Tryz.f86.body.getD .skip) (Qy [.bool]) n [0,4] [.ptr 0 3 0,.ptr 0 4 0,.d (.list Qg) x1,.d I64 x2,.d I64 x3,.agg (QA Qi x4),.agg (QA Qe x5)]
abbrev ZM (n : Nat) (x1 : (List Qp)) (x2 : Int) (x3 : Int) (x4 : Int) (x5 : Bool) (x6 : Qa) (x7 : Qb) (x8 : Qp) : Option Bool:=lam Tryz.prog Yy Yl (Qv Ym) Tryz.f86 (Tryz.f86.body.getD .skip) (Qy [.bool]) n [1,12] [.ptr 0 3 0,.ptr 0 4 0,.ptr 0 8 0,.d (.list Qg) x1,.d I64 x2,.d I64 x3,.d I64 x4,.d .bool x5,.agg (QA Qi x6),.agg (QA Qe x7),.agg (QA Qg x8)]
abbrev Zx (n : Nat) (x1 : (List Qp)) (x2 : Int) (x3 : Int) (x4 : Bool) (x5 : (List (List Int))) (x6 : Int) (x7 : Int) (x8 : Qa) (x9 : Qb) (x10 : Qp) : Option Bool:=lam Tryz.prog Yy Yl (Qv Ym) Tryz.f86 (Tryz.f86.body.getD .skip) (Qy [.bool]) n [0,2,1002,19006] [.ptr 0 3 0,.ptr 0 4 0,.d (.list Qg) x1,.d I64 x2,.d I64 x3,.d .bool x4,.d (.list .str) x5,.fn 157 [.ptr 0 3 0,.ptr 0 8 0],.d I64 x6,.d I64 x7,.agg (QA Qi x8),.agg (QA Qe x9),.agg (QA Qg x10)]
theorem Qd5 (n : Nat) (a0 : Qa) (a1 : Qb) (a2 : (List Qp)) : WR n a0 a1 a2 =
  bif decide ((a2.length : Int) = 0) then
   some false
  else
   bif decide ((30 : Int) < (a2.length : Int)) then
    some false
   else
    Option.bind (Qfy a2 0 1) fun (y1 : Int) =>
    bif !decide (y1 = (a2.length : Int)) then
     some false
    else
     Q3 n a2 (a2.length : Int) 0 a0 a1:=by kernel_rfl
theorem Xw (n : Nat) (x1 : (List Qp)) (x2 : Int) (x3 : Int) (x4 : Qa) (x5 : Qb) : Q3 (n + 1) x1 x2 x3 x4 x5 =
  bif decide (x3 < x2) then
   bif inB x3 x1.length then
    bif decide ((rd x1 x3 (Ty.dflt Qg)).1 = 3) then
     ZM n x1 x2 x3 ((rd x1 x3 (Ty.dflt Qg)).1) (decide ((rd x1 x3 (Ty.dflt Qg)).1 = 3)) x4 x5 (rd x1 x3 (Ty.dflt Qg))
    else
     bif decide ((rd x1 x3 (Ty.dflt Qg)).1 = 4) then
      ZM n x1 x2 x3 ((rd x1 x3 (Ty.dflt Qg)).1) (decide ((rd x1 x3 (Ty.dflt Qg)).1 = 4)) x4 x5 (rd x1 x3 (Ty.dflt Qg))
     else
      bif decide ((rd x1 x3 (Ty.dflt Qg)).1 = 5) then
       ZM n x1 x2 x3 ((rd x1 x3 (Ty.dflt Qg)).1) (decide ((rd x1 x3 (Ty.dflt Qg)).1 = 5)) x4 x5 (rd x1 x3 (Ty.dflt Qg))
      else
       ZM n x1 x2 x3 ((rd x1 x3 (Ty.dflt Qg)).1) (decide ((rd x1 x3 (Ty.dflt Qg)).1 = 6)) x4 x5 (rd x1 x3 (Ty.dflt Qg))
   else none
  else
   some true:=by kernel_rfl
theorem QaM (n : Nat) (x1 : (List Qp)) (x2 : Int) (x3 : Int) (x4 : Int) (x5 : Bool) (x6 : Qa) (x7 : Qb) (x8 : Qp) : ZM (n + 1) x1 x2 x3 x4 x5 x6 x7 x8 =
  bif x5 then
   bif !decide (x8.2.1 = ([] : List Int)) then
    some false
   else
    bif !decide (x8.2.2 = ([] : List Int)) then
     some false
    else
     Q3 n x1 x2 (IntKind.wrap .i64 (x3 + 1)) x6 x7
  else
   bif decide (x4 = 1) then
    bif !decide (x8.2.1 = ([] : List Int)) then
     some false
    else
     Option.bind (QI x6 x7.1 x8.2.2) fun (y2 : Bool) =>
     bif !(y2) then
      some false
     else
      Q3 n x1 x2 (IntKind.wrap .i64 (x3 + 1)) x6 x7
   else
    bif decide (x4 = 2) then
     Option.bind (QK x7 x8.2.1) fun (y3 : (Qf × Bool)) =>
     bif !(y3.2) then
      some false
     else
      Option.bind (J9 y3.1) fun (y4 : (List (List Int))) =>
      Zx n x1 x2 x3 false y4 (y4.length : Int) 0 x6 x7 x8
    else
     some false:=by kernel_rfl
theorem Vl (n : Nat) (x1 : (List Qp)) (x2 : Int) (x3 : Int) (x4 : Bool) (x5 : (List (List Int))) (x6 : Int) (x7 : Int) (x8 : Qa) (x9 : Qb) (x10 : Qp) : Zx (n + 1) x1 x2 x3 x4 x5 x6 x7 x8 x9 x10 =
  bif decide (x7 < x6) then
   bif inB x7 x5.length then
    Option.bind (QI x8 (rd x5 x7 (Ty.dflt .str)) x10.2.2) fun (y5 : Bool) =>
    bif y5 then
     bif x4 then
      some false
     else
      bif !decide ((0 : Int) ≤ x7) then
       some false
      else
       Q3 n x1 x2 (IntKind.wrap .i64 (x3 + 1)) x8 x9
    else
     Zx n x1 x2 x3 x4 x5 x6 (IntKind.wrap .i64 (x7 + 1)) x8 x9 x10
   else none
  else
   bif x4 then
    some false
   else
    some false:=by kernel_rfl
theorem UB {K0 : Option Bool} {x1 : (List Qp)} {x2 : Int} {x3 : Int} {x5 : (List (List Int))} {x8 : Qa} {x9 : Qb} {x10 : Qp} (hl : x5.length ≤ maxLen) (hK0 : ∀  (r : Bool),K0 = some r → Ev (fun n=>Q3 n x1 x2 (IntKind.wrap .i64 (x3 + 1)) x8 x9) r) : ∀ (rest : List (List Int)) (k : Nat) (r : Bool),rest = x5.drop k → QT K0 x8 x10 rest k = some r → Ev (fun n=>Zx n x1 x2 x3 false x5 (x5.length : Int) (k : Int) x8 x9 x10) r:=by
 intro rest
 induction rest with
 | nil =>
  intro k r hr h
  have hk:=QR hr
  rw [QT] at h
  refine Ev.step ?_ (fun n=>Vl n x1 x2 x3 false x5 (x5.length : Int) (k : Int) x8 x9 x10)
  rw [show decide ((k : Int) < (x5.length : Int)) = false from decide_eq_false (by omega)]
  exact Ev.neg rfl (Ev.ofBif h (fun h=>(Ev.ofSome h)) (fun h=>(Ev.ofSome h)))
 | cons e rest ih =>
  intro k r hr h
  obtain ⟨hk,hx,hr2⟩:=QJ (d:=(Ty.dflt .str)) hr
  have hw:=QG hl hk
  have ih2 : ∀ (r : Bool),QT K0 x8 x10 rest (k + 1) = some r → Ev (fun n=>Zx n x1 x2 x3 false x5 (x5.length : Int) (IntKind.wrap .i64 ((k : Int) + 1)) x8 x9 x10) r:=by
   intro r h; rw [hw]; exact ih (k + 1) r hr2 h
  rw [QT] at h
  refine Ev.step ?_ (fun n=>Vl n x1 x2 x3 false x5 (x5.length : Int) (k : Int) x8 x9 x10)
  rw [show decide ((k : Int) < (x5.length : Int)) = true from decide_eq_true (by omega),QM hk,hx]
  exact Ev.pos rfl (Ev.pos rfl (Ev.ofBind h fun y5 h=>(Ev.ofBif h (fun h=>(Ev.ofBif h (fun h=>(Ev.ofSome h)) (fun h=>(Ev.ofBif h (fun h=>(Ev.ofSome h)) (fun h=>(hK0  _ h)))))) (fun h=>(ih2  _ h)))))
theorem Ys {K0 : Option Bool} {x1 : (List Qp)} {x2 : Int} {x3 : Int} {x4 : Int} {x5 : Bool} {x6 : Qa} {x7 : Qb} {x8 : Qp} (hK0 : ∀  (r : Bool),K0 = some r → Ev (fun n=>Q3 n x1 x2 (IntKind.wrap .i64 (x3 + 1)) x6 x7) r) {r : Bool} (h : Ze K0 x4 x5 x6 x7 x8 = some r) : Ev (fun n=>ZM n x1 x2 x3 x4 x5 x6 x7 x8) r:=by
 rw [Ze] at h
 refine Ev.step ?_ (fun n=>QaM n x1 x2 x3 x4 x5 x6 x7 x8)
 exact (Ev.ofBif h (fun h=>(Ev.ofBif h (fun h=>(Ev.ofSome h)) (fun h=>(Ev.ofBif h (fun h=>(Ev.ofSome h)) (fun h=>(hK0  _ h)))))) (fun h=>(Ev.ofBif h (fun h=>(Ev.ofBif h (fun h=>(Ev.ofSome h)) (fun h=>(Ev.ofBind h fun y2 h=>(Ev.ofBif h (fun h=>(Ev.ofSome h)) (fun h=>(hK0  _ h))))))) (fun h=>(Ev.ofBif h (fun h=>(Ev.ofBind h fun y3 h=>(Ev.ofBif h (fun h=>(Ev.ofSome h)) (fun h=>(Ev.ofBind h fun y4 h=>(Ev.ofLen h fun hl h=>UB hl hK0 _ (0 : Nat) _ rfl h)))))) (fun h=>(Ev.ofSome h)))))))
theorem Qdf {x1 : (List Qp)} {x4 : Qa} {x5 : Qb} (hl : x1.length ≤ maxLen) : ∀ (rest : List Qp) (k : Nat) (r : Bool),rest = x1.drop k → QP x4 x5 rest = some r → Ev (fun n=>Q3 n x1 (x1.length : Int) (k : Int) x4 x5) r:=by
 intro rest
 induction rest with
 | nil =>
  intro k r hr h
  have hk:=QR hr
  rw [QP] at h
  refine Ev.step ?_ (fun n=>Xw n x1 (x1.length : Int) (k : Int) x4 x5)
  rw [show decide ((k : Int) < (x1.length : Int)) = false from decide_eq_false (by omega)]
  exact Ev.neg rfl (Ev.ofSome h)
 | cons e rest ih =>
  intro k r hr h
  obtain ⟨hk,hx,hr2⟩:=QJ (d:=(Ty.dflt Qg)) hr
  have hw:=QG hl hk
  have ih2 : ∀ (r : Bool),QP x4 x5 rest = some r → Ev (fun n=>Q3 n x1 (x1.length : Int) (IntKind.wrap .i64 ((k : Int) + 1)) x4 x5) r:=by
   intro r h; rw [hw]; exact ih (k + 1) r hr2 h
  rw [QP] at h
  refine Ev.step ?_ (fun n=>Xw n x1 (x1.length : Int) (k : Int) x4 x5)
  rw [show decide ((k : Int) < (x1.length : Int)) = true from decide_eq_true (by omega),QM hk,hx]
  exact Ev.pos rfl (Ev.pos rfl (Ev.ofBif h (fun h=>(Ys ih2 h)) (fun h=>(Ev.ofBif h (fun h=>(Ys ih2 h)) (fun h=>(Ev.ofBif h (fun h=>(Ys ih2 h)) (fun h=>(Ys ih2 h))))))))
theorem Qgx (a0 : Qa) (a1 : Qb) (a2 : (List Qp)) {r : Bool} (h : ZY a0 a1 a2 = some r) : Ev (fun n=>WR n a0 a1 a2) r:=by
 rw [ZY] at h
 refine Ev.of_eq ?_ (fun n=>Qd5 n a0 a1 a2)
 exact (Ev.ofBif h (fun h=>(Ev.ofSome h)) (fun h=>(Ev.ofBif h (fun h=>(Ev.ofSome h)) (fun h=>(Ev.ofBind h fun y1 h=>(Ev.ofBif h (fun h=>(Ev.ofSome h)) (fun h=>(Ev.ofLen h fun hl h=>Qdf hl _ (0 : Nat) _ rfl h))))))))
theorem QeK : ∀ x ∈ Ym,Qo Tryz.prog x:=(Ql QAs (Ql GO (Ql YL (Ql Qn8 Qt))))
theorem Qfz : Qo Tryz.prog (Xf):=by
 refine Qq (c:=Xf) (by kernel_rfl) (by kernel_rfl : Tryz.prog.funcs[86]? = some Tryz.f86) (code:=Tryz.f86.body.getD .skip) (by kernel_rfl) (by kernel_rfl) (by kernel_rfl) (A:=Yy) (I:=Yl) (QeK) ?_
 rintro ⟨a0,a1,a2,u⟩ y hy
 exact (Qgx a0 a1 a2 hy).get
def Zf (K0 : (List Qk) → Option (List Qk)) (x8 : Qb) : List Qc → (List Qk) → Option (List Qk)
 | [],x1 =>
   K0 x1
 | e :: rest,x1 =>
   bif decide (((x1.length : Int) + (([(x8.1,(e).1)] : List Qk).length : Int)) * 32 ≤ ZB) && decide ((x1.length : Int) + (([(x8.1,(e).1)] : List Qk).length : Int) ≤ ZB) then
    Zf K0 x8 rest (x1 ++ ([(x8.1,(e).1)] : List Qk))
   else none
def Zl (K0 : (List Qk) → Option (List Qk)) (x8 : Qb) : List Qf → (List Qk) → Option (List Qk)
 | [],x1 =>
   ZF x8.2.2 (Zf K0 x8 x8.2.2 x1)
 | e :: rest,x1 =>
   bif decide (((x1.length : Int) + (([(x8.1,(e).1)] : List Qk).length : Int)) * 32 ≤ ZB) && decide ((x1.length : Int) + (([(x8.1,(e).1)] : List Qk).length : Int) ≤ ZB) then
    Zl K0 x8 rest (x1 ++ ([(x8.1,(e).1)] : List Qk))
   else none
def Zm : List Qb → (List Qk) → Option (List Qk)
 | [],x1 =>
   some x1
 | e :: rest,x1 =>
   ZF (((e).2).1) (Zl (fun s0=>Zm rest s0) (e) (((e).2).1) x1)
def JH (a0 : Qa) : Option (List Qk) :=
 ZF a0.2 (Zm a0.2 [])
def HJ : Ctr:=⟨158,[Qi],[(.list QB)],fun x=>JH x.1⟩
def Vm : List (List Nat × Ann):=[([0,3],[.own 0 3 QB,.keep 0 11,.keep 0 12,.keep 0 13]),([0,6],[.own 0 3 QB,.keep 0 5,.keep 0 11,.keep 0 12,.keep 0 13,.keep 0 18,.keep 0 19,.keep 0 20,.boxd 0 5 Qe]),([0,11],[.own 0 3 QB,.keep 0 5,.keep 0 11,.keep 0 12,.keep 0 13,.keep 0 34,.keep 0 35,.keep 0 36,.boxd 0 5 Qe])]
def Y6 : List (List Nat × Nat):=[]
def Y7 : List Ctr:=[]
def Qa9 (n : Nat) (a0 : Qa) : Option (List Qk):=run Tryz.prog Vm Y6 (Qv Y7) Tryz.f158 (Tryz.f158.body.getD .skip) (Qy [(.list QB)]) n (QE [Qi] (a0,()))
abbrev ZO (n : Nat) (x1 : (List Qk)) (x2 : (List Qb)) (x3 : Int) (x4 : Int) : Option (List Qk):=lam Tryz.prog Vm Y6 (Qv Y7) Tryz.f158 (Tryz.f158.body.getD .skip) (Qy [(.list QB)]) n [0,3] [.own 0 QB x1,.d (.list Qe) x2,.d I64 x3,.d I64 x4]
abbrev Yn (n : Nat) (x1 : (List Qk)) (x2 : (List Qb)) (x3 : Int) (x4 : Int) (x5 : (List Qf)) (x6 : Int) (x7 : Int) (x8 : Qb) : Option (List Qk):=lam Tryz.prog Vm Y6 (Qv Y7) Tryz.f158 (Tryz.f158.body.getD .skip) (Qy [(.list QB)]) n [0,6] [.own 0 QB x1,.ptr 0 5 0,.d (.list Qe) x2,.d I64 x3,.d I64 x4,.d (.list Qj) x5,.d I64 x6,.d I64 x7,.agg (QA Qe x8)]
abbrev J4 (n : Nat) (x1 : (List Qk)) (x2 : (List Qb)) (x3 : Int) (x4 : Int) (x5 : (List Qc)) (x6 : Int) (x7 : Int) (x8 : Qb) : Option (List Qk):=lam Tryz.prog Vm Y6 (Qv Y7) Tryz.f158 (Tryz.f158.body.getD .skip) (Qy [(.list QB)]) n [0,11] [.own 0 QB x1,.ptr 0 5 0,.d (.list Qe) x2,.d I64 x3,.d I64 x4,.d (.list Qh) x5,.d I64 x6,.d I64 x7,.agg (QA Qe x8)]
theorem Qgy (n : Nat) (a0 : Qa) : Qa9 n a0 =
  ZO n [] a0.2 (a0.2.length : Int) 0:=by kernel_rfl
theorem HK (n : Nat) (x1 : (List Qk)) (x2 : (List Qb)) (x3 : Int) (x4 : Int) : ZO (n + 1) x1 x2 x3 x4 =
  bif decide (x4 < x3) then
   bif inB x4 x2.length then
    Yn n x1 x2 x3 x4 (((rd x2 x4 (Ty.dflt Qe)).2).1) ((((rd x2 x4 (Ty.dflt Qe)).2).1).length : Int) 0 (rd x2 x4 (Ty.dflt Qe))
   else none
  else
   some x1:=by kernel_rfl
theorem HL (n : Nat) (x1 : (List Qk)) (x2 : (List Qb)) (x3 : Int) (x4 : Int) (x5 : (List Qf)) (x6 : Int) (x7 : Int) (x8 : Qb) : Yn (n + 1) x1 x2 x3 x4 x5 x6 x7 x8 =
  bif decide (x7 < x6) then
   bif inB x7 x5.length then
    bif decide (((x1.length : Int) + (([(x8.1,(rd x5 x7 (Ty.dflt Qj)).1)] : List Qk).length : Int)) * 32 ≤ ZB) && decide ((x1.length : Int) + (([(x8.1,(rd x5 x7 (Ty.dflt Qj)).1)] : List Qk).length : Int) ≤ ZB) then
     Yn n (x1 ++ ([(x8.1,(rd x5 x7 (Ty.dflt Qj)).1)] : List Qk)) x2 x3 x4 x5 x6 (IntKind.wrap .i64 (x7 + 1)) x8
    else none
   else none
  else
   J4 n x1 x2 x3 x4 x8.2.2 (x8.2.2.length : Int) 0 x8:=by kernel_rfl
theorem Hi (n : Nat) (x1 : (List Qk)) (x2 : (List Qb)) (x3 : Int) (x4 : Int) (x5 : (List Qc)) (x6 : Int) (x7 : Int) (x8 : Qb) : J4 (n + 1) x1 x2 x3 x4 x5 x6 x7 x8 =
  bif decide (x7 < x6) then
   bif inB x7 x5.length then
    bif decide (((x1.length : Int) + (([(x8.1,(rd x5 x7 (Ty.dflt Qh)).1)] : List Qk).length : Int)) * 32 ≤ ZB) && decide ((x1.length : Int) + (([(x8.1,(rd x5 x7 (Ty.dflt Qh)).1)] : List Qk).length : Int) ≤ ZB) then
     J4 n (x1 ++ ([(x8.1,(rd x5 x7 (Ty.dflt Qh)).1)] : List Qk)) x2 x3 x4 x5 x6 (IntKind.wrap .i64 (x7 + 1)) x8
    else none
   else none
  else
   ZO n x1 x2 x3 (IntKind.wrap .i64 (x4 + 1)):=by kernel_rfl
theorem QeL {K0 : (List Qk) → Option (List Qk)} {x2 : (List Qb)} {x3 : Int} {x4 : Int} {x5 : (List Qc)} {x8 : Qb} (hl : x5.length ≤ maxLen) (hK0 : ∀ (z1 : (List Qk)) (r : (List Qk)),K0 z1 = some r → Ev (fun n=>ZO n z1 x2 x3 (IntKind.wrap .i64 (x4 + 1))) r) : ∀ (rest : List Qc) (k : Nat) (x1 : (List Qk)) (r : (List Qk)),rest = x5.drop k → Zf K0 x8 rest x1 = some r → Ev (fun n=>J4 n x1 x2 x3 x4 x5 (x5.length : Int) (k : Int) x8) r:=by
 intro rest
 induction rest with
 | nil =>
  intro k x1 r hr h
  have hk:=QR hr
  rw [Zf] at h
  refine Ev.step ?_ (fun n=>Hi n x1 x2 x3 x4 x5 (x5.length : Int) (k : Int) x8)
  rw [show decide ((k : Int) < (x5.length : Int)) = false from decide_eq_false (by omega)]
  exact Ev.neg rfl (hK0 _ _ h)
 | cons e rest ih =>
  intro k x1 r hr h
  obtain ⟨hk,hx,hr2⟩:=QJ (d:=(Ty.dflt Qh)) hr
  have hw:=QG hl hk
  have ih2 : ∀ (z1 : (List Qk)) (r : (List Qk)),Zf K0 x8 rest z1 = some r → Ev (fun n=>J4 n z1 x2 x3 x4 x5 (x5.length : Int) (IntKind.wrap .i64 ((k : Int) + 1)) x8) r:=by
   intro z1 r h; rw [hw]; exact ih (k + 1) z1 r hr2 h
  rw [Zf] at h
  refine Ev.step ?_ (fun n=>Hi n x1 x2 x3 x4 x5 (x5.length : Int) (k : Int) x8)
  rw [show decide ((k : Int) < (x5.length : Int)) = true from decide_eq_true (by omega),QM hk,hx]
  exact Ev.pos rfl (Ev.pos rfl (Ev.ofBif h (fun h=>(ih2 _ _ h)) (fun h=>(Ev.ofNone h))))
theorem QfA {K0 : (List Qk) → Option (List Qk)} {x2 : (List Qb)} {x3 : Int} {x4 : Int} {x5 : (List Qf)} {x8 : Qb} (hl : x5.length ≤ maxLen) (hK0 : ∀ (z1 : (List Qk)) (r : (List Qk)),K0 z1 = some r → Ev (fun n=>ZO n z1 x2 x3 (IntKind.wrap .i64 (x4 + 1))) r) : ∀ (rest : List Qf) (k : Nat) (x1 : (List Qk)) (r : (List Qk)),rest = x5.drop k → Zl K0 x8 rest x1 = some r → Ev (fun n=>Yn n x1 x2 x3 x4 x5 (x5.length : Int) (k : Int) x8) r:=by
 intro rest
 induction rest with
 | nil =>
  intro k x1 r hr h
  have hk:=QR hr
  rw [Zl] at h
  refine Ev.step ?_ (fun n=>HL n x1 x2 x3 x4 x5 (x5.length : Int) (k : Int) x8)
  rw [show decide ((k : Int) < (x5.length : Int)) = false from decide_eq_false (by omega)]
  exact Ev.neg rfl (Ev.ofLen h fun hl h=>QeL hl hK0 _ (0 : Nat) _ _ rfl h)
 | cons e rest ih =>
  intro k x1 r hr h
  obtain ⟨hk,hx,hr2⟩:=QJ (d:=(Ty.dflt Qj)) hr
  have hw:=QG hl hk
  have ih2 : ∀ (z1 : (List Qk)) (r : (List Qk)),Zl K0 x8 rest z1 = some r → Ev (fun n=>Yn n z1 x2 x3 x4 x5 (x5.length : Int) (IntKind.wrap .i64 ((k : Int) + 1)) x8) r:=by
   intro z1 r h; rw [hw]; exact ih (k + 1) z1 r hr2 h
  rw [Zl] at h
  refine Ev.step ?_ (fun n=>HL n x1 x2 x3 x4 x5 (x5.length : Int) (k : Int) x8)
  rw [show decide ((k : Int) < (x5.length : Int)) = true from decide_eq_true (by omega),QM hk,hx]
  exact Ev.pos rfl (Ev.pos rfl (Ev.ofBif h (fun h=>(ih2 _ _ h)) (fun h=>(Ev.ofNone h))))
theorem QfB {x2 : (List Qb)} (hl : x2.length ≤ maxLen) : ∀ (rest : List Qb) (k : Nat) (x1 : (List Qk)) (r : (List Qk)),rest = x2.drop k → Zm rest x1 = some r → Ev (fun n=>ZO n x1 x2 (x2.length : Int) (k : Int)) r:=by
 intro rest
 induction rest with
 | nil =>
  intro k x1 r hr h
  have hk:=QR hr
  rw [Zm] at h
  refine Ev.step ?_ (fun n=>HK n x1 x2 (x2.length : Int) (k : Int))
  rw [show decide ((k : Int) < (x2.length : Int)) = false from decide_eq_false (by omega)]
  exact Ev.neg rfl (Ev.ofSome h)
 | cons e rest ih =>
  intro k x1 r hr h
  obtain ⟨hk,hx,hr2⟩:=QJ (d:=(Ty.dflt Qe)) hr
  have hw:=QG hl hk
  have ih2 : ∀ (z1 : (List Qk)) (r : (List Qk)),Zm rest z1 = some r → Ev (fun n=>ZO n z1 x2 (x2.length : Int) (IntKind.wrap .i64 ((k : Int) + 1))) r:=by
   intro z1 r h; rw [hw]; exact ih (k + 1) z1 r hr2 h
  rw [Zm] at h
  refine Ev.step ?_ (fun n=>HK n x1 x2 (x2.length : Int) (k : Int))
  rw [show decide ((k : Int) < (x2.length : Int)) = true from decide_eq_true (by omega),QM hk,hx]
  exact Ev.pos rfl (Ev.pos rfl (Ev.ofLen h fun hl h=>QfA hl ih2 _ (0 : Nat) _ _ rfl h))
theorem QjA (a0 : Qa) {r : (List Qk)} (h : JH a0 = some r) : Ev (fun n=>Qa9 n a0) r:=by
 rw [JH] at h
 refine Ev.of_eq ?_ (fun n=>Qgy n a0)
 exact (Ev.ofLen h fun hl h=>QfB hl _ (0 : Nat) _ _ rfl h)
theorem Qg9 : ∀ x ∈ Y7,Qo Tryz.prog x:=Qt
theorem QiC : Qo Tryz.prog (HJ):=by
 refine Qq (c:=HJ) (by kernel_rfl) (by kernel_rfl : Tryz.prog.funcs[158]? = some Tryz.f158) (code:=Tryz.f158.body.getD .skip) (by kernel_rfl) (by kernel_rfl) (by kernel_rfl) (A:=Vm) (I:=Y6) (Qg9) ?_
 rintro ⟨a0,u⟩ y hy
 exact (QjA a0 hy).get
def QQ (Rc : Int → Bool → Qc → Bool → (List Qx) → Qk → Qb → Qa → Option (Int × Qc × Bool × (List Qx) × Qk × Qb × Qa)) (x1 : Int) (x2 : Bool) (x6 : Qc) (x8 : Qk) (x9 : Qb) (x10 : Qa) (x11 : Qp) : List (List Int) → (List Qx) → Option (Int × Qc × Bool × (List Qx) × Qk × Qb × Qa)
 | [],x7 =>
   some (IntKind.wrap .i64 (x1 + 1),x6,true,x7,x8,x9,x10)
 | e :: rest,x7 =>
   Option.bind (QI x10 (e) x11.2.2) fun (y6 : Bool) =>
   bif y6 then
    bif decide (((x7.length : Int) + (([((e,x11.2.2),x2)] : List Qx).length : Int)) * 40 ≤ ZB) && decide ((x7.length : Int) + (([((e,x11.2.2),x2)] : List Qx).length : Int) ≤ ZB) then
     QQ Rc x1 x2 x6 x8 x9 x10 x11 rest (x7 ++ ([((e,x11.2.2),x2)] : List Qx))
    else none
   else
    QQ Rc x1 x2 x6 x8 x9 x10 x11 rest x7
def YM (Rc : Int → Bool → Qc → Bool → (List Qx) → Qk → Qb → Qa → Option (Int × Qc × Bool × (List Qx) × Qk × Qb × Qa)) (a0 : Int) (a1 : Bool) (a2 : Qc) (a3 : Bool) (a4 : (List Qx)) (a5 : Qk) (a6 : Qb) (a7 : Qa) : Option (Int × Qc × Bool × (List Qx) × Qk × Qb × Qa) :=
 bif inB a0 a2.2.length then
  bif decide ((rd a2.2 a0 (Ty.dflt Qg)).1 = 3) then
   bif decide ((rd a2.2 a0 (Ty.dflt Qg)).1 = 3) then
    Option.bind (Rc (IntKind.wrap .i64 (a0 + 1)) a1 a2 true a4 a5 a6 a7) fun (y1 : (Int × Qc × Bool × (List Qx) × Qk × Qb × Qa)) =>
    bif a1 then
     Option.bind (Rc y1.1 true y1.2.1 true y1.2.2.2.1 y1.2.2.2.2.1 y1.2.2.2.2.2.1 y1.2.2.2.2.2.2) fun (y2 : (Int × Qc × Bool × (List Qx) × Qk × Qb × Qa)) =>
     some (y2.1,y2.2.1,true,y2.2.2.2.1,y2.2.2.2.2.1,y2.2.2.2.2.2.1,y2.2.2.2.2.2.2)
    else
     Option.bind (Rc y1.1 (decide ((rd a2.2 a0 (Ty.dflt Qg)).1 = 5)) y1.2.1 true y1.2.2.2.1 y1.2.2.2.2.1 y1.2.2.2.2.2.1 y1.2.2.2.2.2.2) fun (y3 : (Int × Qc × Bool × (List Qx) × Qk × Qb × Qa)) =>
     some (y3.1,y3.2.1,true,y3.2.2.2.1,y3.2.2.2.2.1,y3.2.2.2.2.2.1,y3.2.2.2.2.2.2)
   else
    bif decide ((rd a2.2 a0 (Ty.dflt Qg)).1 = 1) then
     bif decide (((a4.length : Int) + (([((a5.1,((rd a2.2 a0 (Ty.dflt Qg)).2).2),a1)] : List Qx).length : Int)) * 40 ≤ ZB) && decide ((a4.length : Int) + (([((a5.1,((rd a2.2 a0 (Ty.dflt Qg)).2).2),a1)] : List Qx).length : Int) ≤ ZB) then
      some (IntKind.wrap .i64 (a0 + 1),a2,true,a4 ++ ([((a5.1,((rd a2.2 a0 (Ty.dflt Qg)).2).2),a1)] : List Qx),a5,a6,a7)
     else none
    else
     bif decide ((rd a2.2 a0 (Ty.dflt Qg)).1 = 2) then
      bif decide (((a4.length : Int) + (([((a5.1,((rd a2.2 a0 (Ty.dflt Qg)).2).1),a1)] : List Qx).length : Int)) * 40 ≤ ZB) && decide ((a4.length : Int) + (([((a5.1,((rd a2.2 a0 (Ty.dflt Qg)).2).1),a1)] : List Qx).length : Int) ≤ ZB) then
       Option.bind (QK a6 (((rd a2.2 a0 (Ty.dflt Qg)).2).1)) fun (y4 : (Qf × Bool)) =>
       Option.bind (J9 y4.1) fun (y5 : (List (List Int))) =>
       ZF y5 (QQ Rc a0 a1 a2 a5 a6 a7 (rd a2.2 a0 (Ty.dflt Qg)) y5 (a4 ++ ([((a5.1,((rd a2.2 a0 (Ty.dflt Qg)).2).1),a1)] : List Qx)))
      else none
     else
      some (IntKind.wrap .i64 (a0 + 1),a2,true,a4,a5,a6,a7)
  else
   bif decide ((rd a2.2 a0 (Ty.dflt Qg)).1 = 4) then
    bif decide ((rd a2.2 a0 (Ty.dflt Qg)).1 = 4) then
     Option.bind (Rc (IntKind.wrap .i64 (a0 + 1)) a1 a2 true a4 a5 a6 a7) fun (y7 : (Int × Qc × Bool × (List Qx) × Qk × Qb × Qa)) =>
     bif a1 then
      Option.bind (Rc y7.1 true y7.2.1 true y7.2.2.2.1 y7.2.2.2.2.1 y7.2.2.2.2.2.1 y7.2.2.2.2.2.2) fun (y8 : (Int × Qc × Bool × (List Qx) × Qk × Qb × Qa)) =>
      some (y8.1,y8.2.1,true,y8.2.2.2.1,y8.2.2.2.2.1,y8.2.2.2.2.2.1,y8.2.2.2.2.2.2)
     else
      Option.bind (Rc y7.1 (decide ((rd a2.2 a0 (Ty.dflt Qg)).1 = 5)) y7.2.1 true y7.2.2.2.1 y7.2.2.2.2.1 y7.2.2.2.2.2.1 y7.2.2.2.2.2.2) fun (y9 : (Int × Qc × Bool × (List Qx) × Qk × Qb × Qa)) =>
      some (y9.1,y9.2.1,true,y9.2.2.2.1,y9.2.2.2.2.1,y9.2.2.2.2.2.1,y9.2.2.2.2.2.2)
    else
     bif decide ((rd a2.2 a0 (Ty.dflt Qg)).1 = 1) then
      bif decide (((a4.length : Int) + (([((a5.1,((rd a2.2 a0 (Ty.dflt Qg)).2).2),a1)] : List Qx).length : Int)) * 40 ≤ ZB) && decide ((a4.length : Int) + (([((a5.1,((rd a2.2 a0 (Ty.dflt Qg)).2).2),a1)] : List Qx).length : Int) ≤ ZB) then
       some (IntKind.wrap .i64 (a0 + 1),a2,true,a4 ++ ([((a5.1,((rd a2.2 a0 (Ty.dflt Qg)).2).2),a1)] : List Qx),a5,a6,a7)
      else none
     else
      bif decide ((rd a2.2 a0 (Ty.dflt Qg)).1 = 2) then
       bif decide (((a4.length : Int) + (([((a5.1,((rd a2.2 a0 (Ty.dflt Qg)).2).1),a1)] : List Qx).length : Int)) * 40 ≤ ZB) && decide ((a4.length : Int) + (([((a5.1,((rd a2.2 a0 (Ty.dflt Qg)).2).1),a1)] : List Qx).length : Int) ≤ ZB) then
        Option.bind (QK a6 (((rd a2.2 a0 (Ty.dflt Qg)).2).1)) fun (y10 : (Qf × Bool)) =>
        Option.bind (J9 y10.1) fun (y11 : (List (List Int))) =>
        ZF y11 (QQ Rc a0 a1 a2 a5 a6 a7 (rd a2.2 a0 (Ty.dflt Qg)) y11 (a4 ++ ([((a5.1,((rd a2.2 a0 (Ty.dflt Qg)).2).1),a1)] : List Qx)))
       else none
      else
       some (IntKind.wrap .i64 (a0 + 1),a2,true,a4,a5,a6,a7)
   else
    bif decide ((rd a2.2 a0 (Ty.dflt Qg)).1 = 5) then
     Option.bind (Rc (IntKind.wrap .i64 (a0 + 1)) a1 a2 true a4 a5 a6 a7) fun (y12 : (Int × Qc × Bool × (List Qx) × Qk × Qb × Qa)) =>
     bif a1 then
      Option.bind (Rc y12.1 true y12.2.1 true y12.2.2.2.1 y12.2.2.2.2.1 y12.2.2.2.2.2.1 y12.2.2.2.2.2.2) fun (y13 : (Int × Qc × Bool × (List Qx) × Qk × Qb × Qa)) =>
      some (y13.1,y13.2.1,true,y13.2.2.2.1,y13.2.2.2.2.1,y13.2.2.2.2.2.1,y13.2.2.2.2.2.2)
     else
      Option.bind (Rc y12.1 (decide ((rd a2.2 a0 (Ty.dflt Qg)).1 = 5)) y12.2.1 true y12.2.2.2.1 y12.2.2.2.2.1 y12.2.2.2.2.2.1 y12.2.2.2.2.2.2) fun (y14 : (Int × Qc × Bool × (List Qx) × Qk × Qb × Qa)) =>
      some (y14.1,y14.2.1,true,y14.2.2.2.1,y14.2.2.2.2.1,y14.2.2.2.2.2.1,y14.2.2.2.2.2.2)
    else
     bif decide ((rd a2.2 a0 (Ty.dflt Qg)).1 = 1) then
      bif decide (((a4.length : Int) + (([((a5.1,((rd a2.2 a0 (Ty.dflt Qg)).2).2),a1)] : List Qx).length : Int)) * 40 ≤ ZB) && decide ((a4.length : Int) + (([((a5.1,((rd a2.2 a0 (Ty.dflt Qg)).2).2),a1)] : List Qx).length : Int) ≤ ZB) then
       some (IntKind.wrap .i64 (a0 + 1),a2,true,a4 ++ ([((a5.1,((rd a2.2 a0 (Ty.dflt Qg)).2).2),a1)] : List Qx),a5,a6,a7)
      else none
     else
      bif decide ((rd a2.2 a0 (Ty.dflt Qg)).1 = 2) then
       bif decide (((a4.length : Int) + (([((a5.1,((rd a2.2 a0 (Ty.dflt Qg)).2).1),a1)] : List Qx).length : Int)) * 40 ≤ ZB) && decide ((a4.length : Int) + (([((a5.1,((rd a2.2 a0 (Ty.dflt Qg)).2).1),a1)] : List Qx).length : Int) ≤ ZB) then
        Option.bind (QK a6 (((rd a2.2 a0 (Ty.dflt Qg)).2).1)) fun (y15 : (Qf × Bool)) =>
        Option.bind (J9 y15.1) fun (y16 : (List (List Int))) =>
        ZF y16 (QQ Rc a0 a1 a2 a5 a6 a7 (rd a2.2 a0 (Ty.dflt Qg)) y16 (a4 ++ ([((a5.1,((rd a2.2 a0 (Ty.dflt Qg)).2).1),a1)] : List Qx)))
       else none
      else
       some (IntKind.wrap .i64 (a0 + 1),a2,true,a4,a5,a6,a7)
 else none
def JU : Nat → Int → Bool → Qc → Bool → (List Qx) → Qk → Qb → Qa → Option (Int × Qc × Bool × (List Qx) × Qk × Qb × Qa)
 | 0=>fun _ _ _ _ _ _ _ _=>none
 | d + 1=>fun a0 a1 a2 a3 a4 a5 a6 a7=>YM (JU d) a0 a1 a2 a3 a4 a5 a6 a7
def VS (a0 : Int) (a1 : Bool) (a2 : Qc) (a3 : Bool) (a4 : (List Qx)) (a5 : Qk) (a6 : Qb) (a7 : Qa) : Option (Int × Qc × Bool × (List Qx) × Qk × Qb × Qa):=Qhw fun d=>JU d a0 a1 a2 a3 a4 a5 a6 a7
def EI : Ctr:=QA6 195 [I64,.bool,Qh,.bool,(.list ZV),QB,Qe,Qi] [I64,Qh,.bool,(.list ZV),QB,Qe,Qi] fun x=>VS x.1 x.2.1 x.2.2.1 x.2.2.2.1 x.2.2.2.2.1 x.2.2.2.2.2.1 x.2.2.2.2.2.2.1 x.2.2.2.2.2.2.2.1
def Xz : List (List Nat × Ann):=[([0,14,0],[.keep 0 1,.keep 0 2,.keep 0 3,.keep 0 4,.keep 0 5,.keep 0 6,.keep 1 0,.keep 1 1,.keep 1 4,.keep 1 7,.keep 1 11,.keep 1 74,.keep 1 75,.keep 1 76,.boxd 0 1 Qh,.box 0 2 1,.ownb 0 3 0 ZV,.box 0 3 1,.boxd 0 4 QB,.boxd 0 5 Qe,.boxd 0 6 Qi,.boxd 1 11 Qg])]
def Xg : List (List Nat × Nat):=[([6004,0],100000195),([7008,0],100000195)]
def Xh (Rc : Int → Bool → Qc → Bool → (List Qx) → Qk → Qb → Qa → Option (Int × Qc × Bool × (List Qx) × Qk × Qb × Qa)) : List Ctr:=[(QA6 195 [I64,.bool,Qh,.bool,(.list ZV),QB,Qe,Qi] [I64,Qh,.bool,(.list ZV),QB,Qe,Qi] fun x=>Rc x.1 x.2.1 x.2.2.1 x.2.2.2.1 x.2.2.2.2.1 x.2.2.2.2.2.1 x.2.2.2.2.2.2.1 x.2.2.2.2.2.2.2.1),Js,QdC,Y0]
def EJ (Rc : Int → Bool → Qc → Bool → (List Qx) → Qk → Qb → Qa → Option (Int × Qc × Bool × (List Qx) × Qk × Qb × Qa)) (n : Nat) (a0 : Int) (a1 : Bool) (a2 : Qc) (a3 : Bool) (a4 : (List Qx)) (a5 : Qk) (a6 : Qb) (a7 : Qa) : Option (Int × Qc × Bool × (List Qx) × Qk × Qb × Qa):=QG7 Tryz.prog noG Xz Xg (Qv (Xh Rc)) 195 6 (QEQ 195 6 [I64,Qh,.bool,(.list ZV),QB,Qe,Qi]) n ((QE [I64,.bool,Qh,.bool,(.list ZV),QB,Qe,Qi] (a0,a1,a2,a3,a4,a5,a6,a7,())).take 2) ((QE [I64,.bool,Qh,.bool,(.list ZV),QB,Qe,Qi] (a0,a1,a2,a3,a4,a5,a6,a7,())).drop 2)
abbrev Za (Rc : Int → Bool → Qc → Bool → (List Qx) → Qk → Qb → Qa → Option (Int × Qc × Bool × (List Qx) × Qk × Qb × Qa)) (n : Nat) (x1 : Int) (x2 : Bool) (x3 : (List (List Int))) (x4 : Int) (x5 : Int) (x6 : Qc) (x7 : (List Qx)) (x8 : Qk) (x9 : Qb) (x10 : Qa) (x11 : Qp) : Option (Int × Qc × Bool × (List Qx) × Qk × Qb × Qa):=QDE Tryz.prog noG Xz Xg (Qv (Xh Rc)) 195 (QEQ 195 6 [I64,Qh,.bool,(.list ZV),QB,Qe,Qi]) n [0,14,0] [.ptr 0 1 0,.ptr 0 2 0,.ptr 0 3 0,.ptr 0 4 0,.ptr 0 5 0,.ptr 0 6 0,.d I64 x1,.d .bool x2,.ptr 0 3 0,.ptr 0 6 0,.ptr 1 11 0,.d (.list .str) x3,.d I64 x4,.d I64 x5,.agg (QA Qh x6),.agg [.fn 195 [.ptr 0 1 0,.ptr 0 2 0,.ptr 0 3 0,.ptr 0 4 0,.ptr 0 5 0,.ptr 0 6 0]],.own 0 ZV x7,.agg [.any],.agg (QA QB x8),.agg (QA Qe x9),.agg (QA Qi x10),.agg (QA Qg x11)]
theorem QeM (Rc : Int → Bool → Qc → Bool → (List Qx) → Qk → Qb → Qa → Option (Int × Qc × Bool × (List Qx) × Qk × Qb × Qa)) (n : Nat) (a0 : Int) (a1 : Bool) (a2 : Qc) (a3 : Bool) (a4 : (List Qx)) (a5 : Qk) (a6 : Qb) (a7 : Qa) : EJ Rc n a0 a1 a2 a3 a4 a5 a6 a7 =
  bif inB a0 a2.2.length then
   bif decide ((rd a2.2 a0 (Ty.dflt Qg)).1 = 3) then
    bif decide ((rd a2.2 a0 (Ty.dflt Qg)).1 = 3) then
     Option.bind (Rc (IntKind.wrap .i64 (a0 + 1)) a1 a2 true a4 a5 a6 a7) fun (y1 : (Int × Qc × Bool × (List Qx) × Qk × Qb × Qa)) =>
     bif a1 then
      Option.bind (Rc y1.1 true y1.2.1 true y1.2.2.2.1 y1.2.2.2.2.1 y1.2.2.2.2.2.1 y1.2.2.2.2.2.2) fun (y2 : (Int × Qc × Bool × (List Qx) × Qk × Qb × Qa)) =>
      some (y2.1,y2.2.1,true,y2.2.2.2.1,y2.2.2.2.2.1,y2.2.2.2.2.2.1,y2.2.2.2.2.2.2)
     else
      Option.bind (Rc y1.1 (decide ((rd a2.2 a0 (Ty.dflt Qg)).1 = 5)) y1.2.1 true y1.2.2.2.1 y1.2.2.2.2.1 y1.2.2.2.2.2.1 y1.2.2.2.2.2.2) fun (y3 : (Int × Qc × Bool × (List Qx) × Qk × Qb × Qa)) =>
      some (y3.1,y3.2.1,true,y3.2.2.2.1,y3.2.2.2.2.1,y3.2.2.2.2.2.1,y3.2.2.2.2.2.2)
    else
     bif decide ((rd a2.2 a0 (Ty.dflt Qg)).1 = 1) then
      bif decide (((a4.length : Int) + (([((a5.1,((rd a2.2 a0 (Ty.dflt Qg)).2).2),a1)] : List Qx).length : Int)) * 40 ≤ ZB) && decide ((a4.length : Int) + (([((a5.1,((rd a2.2 a0 (Ty.dflt Qg)).2).2),a1)] : List Qx).length : Int) ≤ ZB) then
       some (IntKind.wrap .i64 (a0 + 1),a2,true,a4 ++ ([((a5.1,((rd a2.2 a0 (Ty.dflt Qg)).2).2),a1)] : List Qx),a5,a6,a7)
      else none
     else
      bif decide ((rd a2.2 a0 (Ty.dflt Qg)).1 = 2) then
       bif decide (((a4.length : Int) + (([((a5.1,((rd a2.2 a0 (Ty.dflt Qg)).2).1),a1)] : List Qx).length : Int)) * 40 ≤ ZB) && decide ((a4.length : Int) + (([((a5.1,((rd a2.2 a0 (Ty.dflt Qg)).2).1),a1)] : List Qx).length : Int) ≤ ZB) then
        Option.bind (QK a6 (((rd a2.2 a0 (Ty.dflt Qg)).2).1)) fun (y4 : (Qf × Bool)) =>
        Option.bind (J9 y4.1) fun (y5 : (List (List Int))) =>
        Za Rc n a0 a1 y5 (y5.length : Int) 0 a2 (a4 ++ ([((a5.1,((rd a2.2 a0 (Ty.dflt Qg)).2).1),a1)] : List Qx)) a5 a6 a7 (rd a2.2 a0 (Ty.dflt Qg))
       else none
      else
       some (IntKind.wrap .i64 (a0 + 1),a2,true,a4,a5,a6,a7)
   else
    bif decide ((rd a2.2 a0 (Ty.dflt Qg)).1 = 4) then
     bif decide ((rd a2.2 a0 (Ty.dflt Qg)).1 = 4) then
      Option.bind (Rc (IntKind.wrap .i64 (a0 + 1)) a1 a2 true a4 a5 a6 a7) fun (y7 : (Int × Qc × Bool × (List Qx) × Qk × Qb × Qa)) =>
      bif a1 then
       Option.bind (Rc y7.1 true y7.2.1 true y7.2.2.2.1 y7.2.2.2.2.1 y7.2.2.2.2.2.1 y7.2.2.2.2.2.2) fun (y8 : (Int × Qc × Bool × (List Qx) × Qk × Qb × Qa)) =>
       some (y8.1,y8.2.1,true,y8.2.2.2.1,y8.2.2.2.2.1,y8.2.2.2.2.2.1,y8.2.2.2.2.2.2)
      else
       Option.bind (Rc y7.1 (decide ((rd a2.2 a0 (Ty.dflt Qg)).1 = 5)) y7.2.1 true y7.2.2.2.1 y7.2.2.2.2.1 y7.2.2.2.2.2.1 y7.2.2.2.2.2.2) fun (y9 : (Int × Qc × Bool × (List Qx) × Qk × Qb × Qa)) =>
       some (y9.1,y9.2.1,true,y9.2.2.2.1,y9.2.2.2.2.1,y9.2.2.2.2.2.1,y9.2.2.2.2.2.2)
     else
      bif decide ((rd a2.2 a0 (Ty.dflt Qg)).1 = 1) then
       bif decide (((a4.length : Int) + (([((a5.1,((rd a2.2 a0 (Ty.dflt Qg)).2).2),a1)] : List Qx).length : Int)) * 40 ≤ ZB) && decide ((a4.length : Int) + (([((a5.1,((rd a2.2 a0 (Ty.dflt Qg)).2).2),a1)] : List Qx).length : Int) ≤ ZB) then
        some (IntKind.wrap .i64 (a0 + 1),a2,true,a4 ++ ([((a5.1,((rd a2.2 a0 (Ty.dflt Qg)).2).2),a1)] : List Qx),a5,a6,a7)
       else none
      else
       bif decide ((rd a2.2 a0 (Ty.dflt Qg)).1 = 2) then
        bif decide (((a4.length : Int) + (([((a5.1,((rd a2.2 a0 (Ty.dflt Qg)).2).1),a1)] : List Qx).length : Int)) * 40 ≤ ZB) && decide ((a4.length : Int) + (([((a5.1,((rd a2.2 a0 (Ty.dflt Qg)).2).1),a1)] : List Qx).length : Int) ≤ ZB) then
         Option.bind (QK a6 (((rd a2.2 a0 (Ty.dflt Qg)).2).1)) fun (y10 : (Qf × Bool)) =>
         Option.bind (J9 y10.1) fun (y11 : (List (List Int))) =>
         Za Rc n a0 a1 y11 (y11.length : Int) 0 a2 (a4 ++ ([((a5.1,((rd a2.2 a0 (Ty.dflt Qg)).2).1),a1)] : List Qx)) a5 a6 a7 (rd a2.2 a0 (Ty.dflt Qg))
        else none
       else
        some (IntKind.wrap .i64 (a0 + 1),a2,true,a4,a5,a6,a7)
    else
     bif decide ((rd a2.2 a0 (Ty.dflt Qg)).1 = 5) then
      Option.bind (Rc (IntKind.wrap .i64 (a0 + 1)) a1 a2 true a4 a5 a6 a7) fun (y12 : (Int × Qc × Bool × (List Qx) × Qk × Qb × Qa)) =>
      bif a1 then
       Option.bind (Rc y12.1 true y12.2.1 true y12.2.2.2.1 y12.2.2.2.2.1 y12.2.2.2.2.2.1 y12.2.2.2.2.2.2) fun (y13 : (Int × Qc × Bool × (List Qx) × Qk × Qb × Qa)) =>
       some (y13.1,y13.2.1,true,y13.2.2.2.1,y13.2.2.2.2.1,y13.2.2.2.2.2.1,y13.2.2.2.2.2.2)
      else
       Option.bind (Rc y12.1 (decide ((rd a2.2 a0 (Ty.dflt Qg)).1 = 5)) y12.2.1 true y12.2.2.2.1 y12.2.2.2.2.1 y12.2.2.2.2.2.1 y12.2.2.2.2.2.2) fun (y14 : (Int × Qc × Bool × (List Qx) × Qk × Qb × Qa)) =>
       some (y14.1,y14.2.1,true,y14.2.2.2.1,y14.2.2.2.2.1,y14.2.2.2.2.2.1,y14.2.2.2.2.2.2)
     else
      bif decide ((rd a2.2 a0 (Ty.dflt Qg)).1 = 1) then
       bif decide (((a4.length : Int) + (([((a5.1,((rd a2.2 a0 (Ty.dflt Qg)).2).2),a1)] : List Qx).length : Int)) * 40 ≤ ZB) && decide ((a4.length : Int) + (([((a5.1,((rd a2.2 a0 (Ty.dflt Qg)).2).2),a1)] : List Qx).length : Int) ≤ ZB) then
        some (IntKind.wrap .i64 (a0 + 1),a2,true,a4 ++ ([((a5.1,((rd a2.2 a0 (Ty.dflt Qg)).2).2),a1)] : List Qx),a5,a6,a7)
       else none
      else
       bif decide ((rd a2.2 a0 (Ty.dflt Qg)).1 = 2) then
        bif decide (((a4.length : Int) + (([((a5.1,((rd a2.2 a0 (Ty.dflt Qg)).2).1),a1)] : List Qx).length : Int)) * 40 ≤ ZB) && decide ((a4.length : Int) + (([((a5.1,((rd a2.2 a0 (Ty.dflt Qg)).2).1),a1)] : List Qx).length : Int) ≤ ZB) then
         Option.bind (QK a6 (((rd a2.2 a0 (Ty.dflt Qg)).2).1)) fun (y15 : (Qf × Bool)) =>
         Option.bind (J9 y15.1) fun (y16 : (List (List Int))) =>
         Za Rc n a0 a1 y16 (y16.length : Int) 0 a2 (a4 ++ ([((a5.1,((rd a2.2 a0 (Ty.dflt Qg)).2).1),a1)] : List Qx)) a5 a6 a7 (rd a2.2 a0 (Ty.dflt Qg))
        else none
       else
        some (IntKind.wrap .i64 (a0 + 1),a2,true,a4,a5,a6,a7)
  else none:=by kernel_rfl
theorem GV (Rc : Int → Bool → Qc → Bool → (List Qx) → Qk → Qb → Qa → Option (Int × Qc × Bool × (List Qx) × Qk × Qb × Qa)) (n : Nat) (x1 : Int) (x2 : Bool) (x3 : (List (List Int))) (x4 : Int) (x5 : Int) (x6 : Qc) (x7 : (List Qx)) (x8 : Qk) (x9 : Qb) (x10 : Qa) (x11 : Qp) : Za Rc (n + 1) x1 x2 x3 x4 x5 x6 x7 x8 x9 x10 x11 =
  bif decide (x5 < x4) then
   bif inB x5 x3.length then
    Option.bind (QI x10 (rd x3 x5 (Ty.dflt .str)) x11.2.2) fun (y6 : Bool) =>
    bif y6 then
     bif decide (((x7.length : Int) + (([((rd x3 x5 (Ty.dflt .str),x11.2.2),x2)] : List Qx).length : Int)) * 40 ≤ ZB) && decide ((x7.length : Int) + (([((rd x3 x5 (Ty.dflt .str),x11.2.2),x2)] : List Qx).length : Int) ≤ ZB) then
      Za Rc n x1 x2 x3 x4 (IntKind.wrap .i64 (x5 + 1)) x6 (x7 ++ ([((rd x3 x5 (Ty.dflt .str),x11.2.2),x2)] : List Qx)) x8 x9 x10 x11
     else none
    else
     Za Rc n x1 x2 x3 x4 (IntKind.wrap .i64 (x5 + 1)) x6 x7 x8 x9 x10 x11
   else none
  else
   some (IntKind.wrap .i64 (x1 + 1),x6,true,x7,x8,x9,x10):=by kernel_rfl
theorem VJ {Rc : Int → Bool → Qc → Bool → (List Qx) → Qk → Qb → Qa → Option (Int × Qc × Bool × (List Qx) × Qk × Qb × Qa)} {x1 : Int} {x2 : Bool} {x3 : (List (List Int))} {x6 : Qc} {x8 : Qk} {x9 : Qb} {x10 : Qa} {x11 : Qp} (hl : x3.length ≤ maxLen) : ∀ (rest : List (List Int)) (k : Nat) (x7 : (List Qx)) (r : (Int × Qc × Bool × (List Qx) × Qk × Qb × Qa)),rest = x3.drop k → QQ Rc x1 x2 x6 x8 x9 x10 x11 rest x7 = some r → Ev (fun n=>Za Rc n x1 x2 x3 (x3.length : Int) (k : Int) x6 x7 x8 x9 x10 x11) r:=by
 intro rest
 induction rest with
 | nil =>
  intro k x7 r hr h
  have hk:=QR hr
  rw [QQ] at h
  refine Ev.step ?_ (fun n=>GV Rc n x1 x2 x3 (x3.length : Int) (k : Int) x6 x7 x8 x9 x10 x11)
  rw [show decide ((k : Int) < (x3.length : Int)) = false from decide_eq_false (by omega)]
  exact Ev.neg rfl (Ev.ofSome h)
 | cons e rest ih =>
  intro k x7 r hr h
  obtain ⟨hk,hx,hr2⟩:=QJ (d:=(Ty.dflt .str)) hr
  have hw:=QG hl hk
  have ih2 : ∀ (z7 : (List Qx)) (r : (Int × Qc × Bool × (List Qx) × Qk × Qb × Qa)),QQ Rc x1 x2 x6 x8 x9 x10 x11 rest z7 = some r → Ev (fun n=>Za Rc n x1 x2 x3 (x3.length : Int) (IntKind.wrap .i64 ((k : Int) + 1)) x6 z7 x8 x9 x10 x11) r:=by
   intro z7 r h; rw [hw]; exact ih (k + 1) z7 r hr2 h
  rw [QQ] at h
  refine Ev.step ?_ (fun n=>GV Rc n x1 x2 x3 (x3.length : Int) (k : Int) x6 x7 x8 x9 x10 x11)
  rw [show decide ((k : Int) < (x3.length : Int)) = true from decide_eq_true (by omega),QM hk,hx]
  exact Ev.pos rfl (Ev.pos rfl (Ev.ofBind h fun y6 h=>(Ev.ofBif h (fun h=>(Ev.ofBif h (fun h=>(ih2 _ _ h)) (fun h=>(Ev.ofNone h)))) (fun h=>(ih2 _ _ h)))))
theorem Qha {Rc : Int → Bool → Qc → Bool → (List Qx) → Qk → Qb → Qa → Option (Int × Qc × Bool × (List Qx) × Qk × Qb × Qa)} (a0 : Int) (a1 : Bool) (a2 : Qc) (a3 : Bool) (a4 : (List Qx)) (a5 : Qk) (a6 : Qb) (a7 : Qa) {r : (Int × Qc × Bool × (List Qx) × Qk × Qb × Qa)} (h : YM Rc a0 a1 a2 a3 a4 a5 a6 a7 = some r) : Ev (fun n=>EJ Rc n a0 a1 a2 a3 a4 a5 a6 a7) r:=by
 rw [YM] at h
 refine Ev.of_eq ?_ (fun n=>QeM Rc n a0 a1 a2 a3 a4 a5 a6 a7)
 exact (Ev.ofBif h (fun h=>(Ev.ofBif h (fun h=>(Ev.ofBif h (fun h=>(Ev.ofBind h fun y1 h=>(Ev.ofBif h (fun h=>(Ev.ofBind h fun y2 h=>(Ev.ofSome h))) (fun h=>(Ev.ofBind h fun y3 h=>(Ev.ofSome h)))))) (fun h=>(Ev.ofBif h (fun h=>(Ev.ofBif h (fun h=>(Ev.ofSome h)) (fun h=>(Ev.ofNone h)))) (fun h=>(Ev.ofBif h (fun h=>(Ev.ofBif h (fun h=>(Ev.ofBind h fun y4 h=>(Ev.ofBind h fun y5 h=>(Ev.ofLen h fun hl h=>VJ hl _ (0 : Nat) _ _ rfl h)))) (fun h=>(Ev.ofNone h)))) (fun h=>(Ev.ofSome h)))))))) (fun h=>(Ev.ofBif h (fun h=>(Ev.ofBif h (fun h=>(Ev.ofBind h fun y7 h=>(Ev.ofBif h (fun h=>(Ev.ofBind h fun y8 h=>(Ev.ofSome h))) (fun h=>(Ev.ofBind h fun y9 h=>(Ev.ofSome h)))))) (fun h=>(Ev.ofBif h (fun h=>(Ev.ofBif h (fun h=>(Ev.ofSome h)) (fun h=>(Ev.ofNone h)))) (fun h=>(Ev.ofBif h (fun h=>(Ev.ofBif h (fun h=>(Ev.ofBind h fun y10 h=>(Ev.ofBind h fun y11 h=>(Ev.ofLen h fun hl h=>VJ hl _ (0 : Nat) _ _ rfl h)))) (fun h=>(Ev.ofNone h)))) (fun h=>(Ev.ofSome h)))))))) (fun h=>(Ev.ofBif h (fun h=>(Ev.ofBind h fun y12 h=>(Ev.ofBif h (fun h=>(Ev.ofBind h fun y13 h=>(Ev.ofSome h))) (fun h=>(Ev.ofBind h fun y14 h=>(Ev.ofSome h)))))) (fun h=>(Ev.ofBif h (fun h=>(Ev.ofBif h (fun h=>(Ev.ofSome h)) (fun h=>(Ev.ofNone h)))) (fun h=>(Ev.ofBif h (fun h=>(Ev.ofBif h (fun h=>(Ev.ofBind h fun y15 h=>(Ev.ofBind h fun y16 h=>(Ev.ofLen h fun hl h=>VJ hl _ (0 : Nat) _ _ rfl h)))) (fun h=>(Ev.ofNone h)))) (fun h=>(Ev.ofSome h)))))))))))) (fun h=>(Ev.ofNone h)))
theorem QfC : ∀ d,Qo Tryz.prog (QA6 195 [I64,.bool,Qh,.bool,(.list ZV),QB,Qe,Qi] [I64,Qh,.bool,(.list ZV),QB,Qe,Qi] fun x=>JU d x.1 x.2.1 x.2.2.1 x.2.2.2.1 x.2.2.2.2.1 x.2.2.2.2.2.1 x.2.2.2.2.2.2.1 x.2.2.2.2.2.2.2.1):=by
 intro d
 induction d with
 | zero=>intro xs y hy; exact (nomatch (show (none : Option (Int × Qc × Bool × (List Qx) × Qk × Qb × Qa)) = some y from hy))
 | succ d ih =>
  refine QDG (k:=6) (n0:=2) (by kernel_rfl) (by kernel_rfl) (by kernel_rfl) (by kernel_rfl) (A:=Xz) (I:=Xg) (cs:=Xh (JU d)) (Ql ih (Ql YL (Ql Qn8 (Ql GO Qt)))) ?_
  rintro ⟨a0,a1,a2,a3,a4,a5,a6,a7,u⟩ y hy
  exact (Qha a0 a1 a2 a3 a4 a5 a6 a7 hy).get
theorem Qgz : Qo Tryz.prog (EI):=by
 rintro ⟨a0,a1,a2,a3,a4,a5,a6,a7,u⟩ y hy
 obtain ⟨d,hd⟩:=(Ee hy).get
 exact QfC d (a0,a1,a2,a3,a4,a5,a6,a7,u) y hd
def Q9 : List Qm → (List Qx) → Option (List Qx)
 | [],x4 =>
   some x4
 | e :: rest,x4 =>
   bif !decide (((e).2).1 = ([] : List Int)) then
    bif decide (((x4.length : Int) + (([(((e).1,((e).2).1),false)] : List Qx).length : Int)) * 40 ≤ ZB) && decide ((x4.length : Int) + (([(((e).1,((e).2).1),false)] : List Qx).length : Int) ≤ ZB) then
     Q9 rest (x4 ++ ([(((e).1,((e).2).1),false)] : List Qx))
    else none
   else
    Q9 rest x4
def JI (a0 : Qa) (a1 : Qk) : Option (List Qx) :=
 Option.bind (Q2 a0 a1.1) fun (y1 : (Qb × Bool)) =>
 Option.bind (QK y1.1 a1.2) fun (y2 : (Qf × Bool)) =>
 bif y2.2 then
  ZF y2.1.2 (Q9 y2.1.2 [])
 else
  Option.bind (Zu y1.1 a1.2) fun (y3 : (Qc × Bool)) =>
  Option.bind (VS 0 false y3.1 true ([]) a1 y1.1 a0) fun (y4 : (Int × Qc × Bool × (List Qx) × Qk × Qb × Qa)) =>
  some y4.2.2.2.1
def HM : Ctr:=⟨159,[Qi,QB],[(.list ZV)],fun x=>JI x.1 x.2.1⟩
def HN : List (List Nat × Ann):=[([0,6],[.keep 0 5,.keep 0 31,.keep 0 32,.keep 0 33,.ownb 0 5 0 ZV,.box 0 5 1])]
def Hb : List (List Nat × Nat):=[([15001],100000195)]
def Hc : List Ctr:=[YI,Js,VG,EI]
def Qba (n : Nat) (a0 : Qa) (a1 : Qk) : Option (List Qx):=run Tryz.prog HN Hb (Qv Hc) Tryz.f159 (Tryz.f159.body.getD .skip) (Qy [(.list ZV)]) n (QE [Qi,QB] (a0,a1,()))
abbrev Jv (n : Nat) (x1 : (List Qm)) (x2 : Int) (x3 : Int) (x4 : (List Qx)) : Option (List Qx):=lam Tryz.prog HN Hb (Qv Hc) Tryz.f159 (Tryz.f159.body.getD .skip) (Qy [(.list ZV)]) n [0,6] [.ptr 0 5 0,.d (.list Qd) x1,.d I64 x2,.d I64 x3,.own 0 ZV x4,.agg [.any]]
theorem QgA (n : Nat) (a0 : Qa) (a1 : Qk) : Qba n a0 a1 =
  Option.bind (Q2 a0 a1.1) fun (y1 : (Qb × Bool)) =>
  Option.bind (QK y1.1 a1.2) fun (y2 : (Qf × Bool)) =>
  bif y2.2 then
   Jv n y2.1.2 (y2.1.2.length : Int) 0 []
  else
   Option.bind (Zu y1.1 a1.2) fun (y3 : (Qc × Bool)) =>
   Option.bind (VS 0 false y3.1 true ([]) a1 y1.1 a0) fun (y4 : (Int × Qc × Bool × (List Qx) × Qk × Qb × Qa)) =>
   some y4.2.2.2.1:=by kernel_rfl
theorem HO (n : Nat) (x1 : (List Qm)) (x2 : Int) (x3 : Int) (x4 : (List Qx)) : Jv (n + 1) x1 x2 x3 x4 =
  bif decide (x3 < x2) then
   bif inB x3 x1.length then
    bif !decide (((rd x1 x3 (Ty.dflt Qd)).2).1 = ([] : List Int)) then
     bif decide (((x4.length : Int) + (([(((rd x1 x3 (Ty.dflt Qd)).1,((rd x1 x3 (Ty.dflt Qd)).2).1),false)] : List Qx).length : Int)) * 40 ≤ ZB) && decide ((x4.length : Int) + (([(((rd x1 x3 (Ty.dflt Qd)).1,((rd x1 x3 (Ty.dflt Qd)).2).1),false)] : List Qx).length : Int) ≤ ZB) then
      Jv n x1 x2 (IntKind.wrap .i64 (x3 + 1)) (x4 ++ ([(((rd x1 x3 (Ty.dflt Qd)).1,((rd x1 x3 (Ty.dflt Qd)).2).1),false)] : List Qx))
     else none
    else
     Jv n x1 x2 (IntKind.wrap .i64 (x3 + 1)) x4
   else none
  else
   some x4:=by kernel_rfl
theorem QfD {x1 : (List Qm)} (hl : x1.length ≤ maxLen) : ∀ (rest : List Qm) (k : Nat) (x4 : (List Qx)) (r : (List Qx)),rest = x1.drop k → Q9 rest x4 = some r → Ev (fun n=>Jv n x1 (x1.length : Int) (k : Int) x4) r:=by
 intro rest
 induction rest with
 | nil =>
  intro k x4 r hr h
  have hk:=QR hr
  rw [Q9] at h
  refine Ev.step ?_ (fun n=>HO n x1 (x1.length : Int) (k : Int) x4)
  rw [show decide ((k : Int) < (x1.length : Int)) = false from decide_eq_false (by omega)]
  exact Ev.neg rfl (Ev.ofSome h)
 | cons e rest ih =>
  intro k x4 r hr h
  obtain ⟨hk,hx,hr2⟩:=QJ (d:=(Ty.dflt Qd)) hr
  have hw:=QG hl hk
  have ih2 : ∀ (z4 : (List Qx)) (r : (List Qx)),Q9 rest z4 = some r → Ev (fun n=>Jv n x1 (x1.length : Int) (IntKind.wrap .i64 ((k : Int) + 1)) z4) r:=by
   intro z4 r h; rw [hw]; exact ih (k + 1) z4 r hr2 h
  rw [Q9] at h
  refine Ev.step ?_ (fun n=>HO n x1 (x1.length : Int) (k : Int) x4)
  rw [show decide ((k : Int) < (x1.length : Int)) = true from decide_eq_true (by omega),QM hk,hx]
  exact Ev.pos rfl (Ev.pos rfl (Ev.ofBif h (fun h=>(Ev.ofBif h (fun h=>(ih2 _ _ h)) (fun h=>(Ev.ofNone h)))) (fun h=>(ih2 _ _ h))))
theorem QjB (a0 : Qa) (a1 : Qk) {r : (List Qx)} (h : JI a0 a1 = some r) : Ev (fun n=>Qba n a0 a1) r:=by
 rw [JI] at h
 refine Ev.of_eq ?_ (fun n=>QgA n a0 a1)
 exact (Ev.ofBind h fun y1 h=>(Ev.ofBind h fun y2 h=>(Ev.ofBif h (fun h=>(Ev.ofLen h fun hl h=>QfD hl _ (0 : Nat) _ _ rfl h)) (fun h=>(Ev.ofBind h fun y3 h=>(Ev.ofBind h fun y4 h=>(Ev.ofSome h)))))))
theorem Qhb : ∀ x ∈ Hc,Qo Tryz.prog x:=(Ql Gn (Ql YL (Ql Wi (Ql Qgz Qt))))
theorem QiD : Qo Tryz.prog (HM):=by
 refine Qq (c:=HM) (by kernel_rfl) (by kernel_rfl : Tryz.prog.funcs[159]? = some Tryz.f159) (code:=Tryz.f159.body.getD .skip) (by kernel_rfl) (by kernel_rfl) (by kernel_rfl) (A:=HN) (I:=Hb) (Qhb) ?_
 rintro ⟨a0,a1,u⟩ y hy
 exact (QjB a0 a1 hy).get
def QO (K3 : Bool → (List (Qk × Int)) → Option ((List (Qk × Int)) × Bool)) (x1 : (List Qk)) (x11 : Qk) : List Qx → Bool → (List (Qk × Int)) → Option ((List (Qk × Int)) × Bool)
 | [],x2,x10 =>
   K3 x2 x10
 | e :: rest,x2,x10 =>
   bif (e).2 then
    bif decide (Hk QB x10 x11 0 < IntKind.wrap .i64 ((Hk QB x10 ((e).1) 0) + 1)) then
     bif decide ((x1.length : Int) < IntKind.wrap .i64 ((Hk QB x10 ((e).1) 0) + 1)) then
      some (([] : List (Qk × Int)),false)
     else
      QO K3 x1 x11 rest true (QaA QB x10 x11 (IntKind.wrap .i64 ((Hk QB x10 ((e).1) 0) + 1)))
    else
     bif decide ((x1.length : Int) < IntKind.wrap .i64 ((Hk QB x10 ((e).1) 0) + 1)) then
      some (([] : List (Qk × Int)),false)
     else
      QO K3 x1 x11 rest x2 x10
   else
    bif decide (Hk QB x10 x11 0 < Hk QB x10 ((e).1) 0) then
     bif decide ((x1.length : Int) < Hk QB x10 ((e).1) 0) then
      some (([] : List (Qk × Int)),false)
     else
      QO K3 x1 x11 rest true (QaA QB x10 x11 (Hk QB x10 ((e).1) 0))
    else
     bif decide ((x1.length : Int) < Hk QB x10 ((e).1) 0) then
      some (([] : List (Qk × Int)),false)
     else
      QO K3 x1 x11 rest x2 x10
def Zb (K2 : Bool → (List (Qk × Int)) → Option ((List (Qk × Int)) × Bool)) (x1 : (List Qk)) (x6 : (List (Qk × (List Qx)))) : List Qk → Bool → (List (Qk × Int)) → Option ((List (Qk × Int)) × Bool)
 | [],x2,x7 =>
   K2 x2 x7
 | e :: rest,x2,x7 =>
   ZF (Hk QB x6 (e) ([])) (QO (fun s0 s1=>Zb K2 x1 x6 rest s0 s1) x1 (e) (Hk QB x6 (e) ([])) x2 x7)
def Zo (x1 : (List Qk)) (x3 : (List (Qk × (List Qx)))) : Nat → Bool → (List (Qk × Int)) → Option ((List (Qk × Int)) × Bool)
 | 0,_,_=>none
 | m + 1,x2,x4 =>
   bif x2 then
    ZF x1 (Zb (fun s0 s1=>Zo x1 x3 m s0 s1) x1 x3 x1 false x4)
   else
    some (x4,true)
def Q0 (m : Nat) (x1 : (List Qk)) (x5 : (List (Qk × (List Qx)))) : List Qk → (List (Qk × Int)) → Option ((List (Qk × Int)) × Bool)
 | [],x6 =>
   Zo x1 x5 m true x6
 | e :: rest,x6 =>
   Q0 m x1 x5 rest (QaA QB x6 (e) 0)
def Zg (m : Nat) (x1 : (List Qk)) (x5 : Qa) : List Qk → (List (Qk × (List Qx))) → Option ((List (Qk × Int)) × Bool)
 | [],x6 =>
   ZF x1 (Q0 m x1 x6 x1 [])
 | e :: rest,x6 =>
   Option.bind (JI x5 (e)) fun (y2 : (List Qx)) =>
   Zg m x1 x5 rest (QaA QB x6 (e) y2)
def Y8 (m : Nat) (a0 : Qa) : Option ((List (Qk × Int)) × Bool) :=
 Option.bind (JH a0) fun (y1 : (List Qk)) =>
 ZF y1 (Zg m y1 a0 y1 [])
def ZT (a0 : Qa) : Option ((List (Qk × Int)) × Bool):=Qhw fun m=>Y8 m a0
def Hd : Ctr:=⟨87,[Qi],[(.map QB I64),.bool],fun x=>ZT x.1⟩
def Jt : List (List Nat × Ann):=[([0,4],[.keep 0 1,.keep 0 4,.keep 0 5,.keep 0 20,.keep 0 21,.keep 0 22,.boxd 0 1 Qi,.mapb 0 19 QB (.list ZV)]),([0,10],[.keep 0 4,.keep 0 5,.keep 0 8,.keep 0 33,.keep 0 34,.keep 0 35,.mapb 0 19 QB (.list ZV),.mapb 0 32 QB I64]),([0,15],[.keep 0 4,.keep 0 5,.keep 0 8,.keep 0 11,.mapb 0 19 QB (.list ZV),.mapb 0 32 QB I64]),([0,18],[.keep 0 4,.keep 0 5,.keep 0 8,.keep 0 11,.keep 0 43,.keep 0 44,.keep 0 45,.mapb 0 19 QB (.list ZV),.mapb 0 32 QB I64]),([0,21],[.keep 0 4,.keep 0 5,.keep 0 8,.keep 0 11,.keep 0 13,.keep 0 43,.keep 0 44,.keep 0 45,.keep 0 51,.keep 0 52,.keep 0 53,.mapb 0 19 QB (.list ZV),.mapb 0 32 QB I64,.boxd 0 13 QB])]
def Z8 : List (List Nat × Nat):=[]
def Z9 : List Ctr:=[HJ,HM]
def Qah (n : Nat) (a0 : Qa) : Option ((List (Qk × Int)) × Bool):=run Tryz.prog Jt Z8 (Qv Z9) Tryz.f87 (Tryz.f87.body.getD .skip) (Qy [(.map QB I64),.bool]) n (QE [Qi] (a0,()))
abbrev J5 (n : Nat) (x1 : (List Qk)) (x2 : (List Qk)) (x3 : Int) (x4 : Int) (x5 : Qa) (x6 : (List (Qk × (List Qx)))) : Option ((List (Qk × Int)) × Bool):=lam Tryz.prog Jt Z8 (Qv Z9) Tryz.f87 (Tryz.f87.body.getD .skip) (Qy [(.map QB I64),.bool]) n [0,4] [.ptr 0 1 0,.d (.list QB) x1,.mp 0 19,.d (.list QB) x2,.d I64 x3,.d I64 x4,.agg (QA Qi x5),.d (.map QB (.list ZV)) x6]
abbrev JQ (n : Nat) (x1 : (List Qk)) (x2 : (List Qk)) (x3 : Int) (x4 : Int) (x5 : (List (Qk × (List Qx)))) (x6 : (List (Qk × Int))) : Option ((List (Qk × Int)) × Bool):=lam Tryz.prog Jt Z8 (Qv Z9) Tryz.f87 (Tryz.f87.body.getD .skip) (Qy [(.map QB I64),.bool]) n [0,10] [.d (.list QB) x1,.mp 0 19,.mp 0 32,.d (.list QB) x2,.d I64 x3,.d I64 x4,.d (.map QB (.list ZV)) x5,.d (.map QB I64) x6]
abbrev JR (n : Nat) (x1 : (List Qk)) (x2 : Bool) (x3 : (List (Qk × (List Qx)))) (x4 : (List (Qk × Int))) : Option ((List (Qk × Int)) × Bool):=lam Tryz.prog Jt Z8 (Qv Z9) Tryz.f87 (Tryz.f87.body.getD .skip) (Qy [(.map QB I64),.bool]) n [0,15] [.d (.list QB) x1,.mp 0 19,.mp 0 32,.d .bool x2,.d (.map QB (.list ZV)) x3,.d (.map QB I64) x4]
abbrev Z4 (n : Nat) (x1 : (List Qk)) (x2 : Bool) (x3 : (List Qk)) (x4 : Int) (x5 : Int) (x6 : (List (Qk × (List Qx)))) (x7 : (List (Qk × Int))) : Option ((List (Qk × Int)) × Bool):=lam Tryz.prog Jt Z8 (Qv Z9) Tryz.f87 (Tryz.f87.body.getD .skip) (Qy [(.map QB I64),.bool]) n [0,18] [.d (.list QB) x1,.mp 0 19,.mp 0 32,.d .bool x2,.d (.list QB) x3,.d I64 x4,.d I64 x5,.d (.map QB (.list ZV)) x6,.d (.map QB I64) x7]
abbrev Zp (n : Nat) (x1 : (List Qk)) (x2 : Bool) (x3 : (List Qk)) (x4 : Int) (x5 : Int) (x6 : (List Qx)) (x7 : Int) (x8 : Int) (x9 : (List (Qk × (List Qx)))) (x10 : (List (Qk × Int))) (x11 : Qk) : Option ((List (Qk × Int)) × Bool):=lam Tryz.prog Jt Z8 (Qv Z9) Tryz.f87 (Tryz.f87.body.getD .skip) (Qy [(.map QB I64),.bool]) n [0,21] [.d (.list QB) x1,.mp 0 19,.mp 0 32,.d .bool x2,.ptr 0 13 0,.d (.list QB) x3,.d I64 x4,.d I64 x5,.d (.list ZV) x6,.d I64 x7,.d I64 x8,.d (.map QB (.list ZV)) x9,.d (.map QB I64) x10,.agg (QA QB x11)]
theorem QfE (n : Nat) (a0 : Qa) : Qah n a0 =
  Option.bind (JH a0) fun (y1 : (List Qk)) =>
  J5 n y1 y1 (y1.length : Int) 0 a0 []:=by kernel_rfl
theorem Hj (n : Nat) (x1 : (List Qk)) (x2 : (List Qk)) (x3 : Int) (x4 : Int) (x5 : Qa) (x6 : (List (Qk × (List Qx)))) : J5 (n + 1) x1 x2 x3 x4 x5 x6 =
  bif decide (x4 < x3) then
   bif inB x4 x2.length then
    Option.bind (JI x5 (rd x2 x4 (Ty.dflt QB))) fun (y2 : (List Qx)) =>
    J5 n x1 x2 x3 (IntKind.wrap .i64 (x4 + 1)) x5 (QaA QB x6 (rd x2 x4 (Ty.dflt QB)) y2)
   else none
  else
   JQ n x1 x1 (x1.length : Int) 0 x6 []:=by kernel_rfl
theorem XW (n : Nat) (x1 : (List Qk)) (x2 : (List Qk)) (x3 : Int) (x4 : Int) (x5 : (List (Qk × (List Qx)))) (x6 : (List (Qk × Int))) : JQ (n + 1) x1 x2 x3 x4 x5 x6 =
  bif decide (x4 < x3) then
   bif inB x4 x2.length then
    JQ n x1 x2 x3 (IntKind.wrap .i64 (x4 + 1)) x5 (QaA QB x6 (rd x2 x4 (Ty.dflt QB)) 0)
   else none
  else
   JR n x1 true x5 x6:=by kernel_rfl
theorem QbY (n : Nat) (x1 : (List Qk)) (x2 : Bool) (x3 : (List (Qk × (List Qx)))) (x4 : (List (Qk × Int))) : JR (n + 1) x1 x2 x3 x4 =
  bif x2 then
   Z4 n x1 false x1 (x1.length : Int) 0 x3 x4
  else
   some (x4,true):=by kernel_rfl
theorem XX (n : Nat) (x1 : (List Qk)) (x2 : Bool) (x3 : (List Qk)) (x4 : Int) (x5 : Int) (x6 : (List (Qk × (List Qx)))) (x7 : (List (Qk × Int))) : Z4 (n + 1) x1 x2 x3 x4 x5 x6 x7 =
  bif decide (x5 < x4) then
   bif inB x5 x3.length then
    Zp n x1 x2 x3 x4 x5 (Hk QB x6 (rd x3 x5 (Ty.dflt QB)) ([])) ((Hk QB x6 (rd x3 x5 (Ty.dflt QB)) ([])).length : Int) 0 x6 x7 (rd x3 x5 (Ty.dflt QB))
   else none
  else
   JR n x1 x2 x6 x7:=by kernel_rfl
theorem XY (n : Nat) (x1 : (List Qk)) (x2 : Bool) (x3 : (List Qk)) (x4 : Int) (x5 : Int) (x6 : (List Qx)) (x7 : Int) (x8 : Int) (x9 : (List (Qk × (List Qx)))) (x10 : (List (Qk × Int))) (x11 : Qk) : Zp (n + 1) x1 x2 x3 x4 x5 x6 x7 x8 x9 x10 x11 =
  bif decide (x8 < x7) then
   bif inB x8 x6.length then
    bif (rd x6 x8 (Ty.dflt ZV)).2 then
     bif decide (Hk QB x10 x11 0 < IntKind.wrap .i64 ((Hk QB x10 ((rd x6 x8 (Ty.dflt ZV)).1) 0) + 1)) then
      bif decide ((x1.length : Int) < IntKind.wrap .i64 ((Hk QB x10 ((rd x6 x8 (Ty.dflt ZV)).1) 0) + 1)) then
       some (([] : List (Qk × Int)),false)
      else
       Zp n x1 true x3 x4 x5 x6 x7 (IntKind.wrap .i64 (x8 + 1)) x9 (QaA QB x10 x11 (IntKind.wrap .i64 ((Hk QB x10 ((rd x6 x8 (Ty.dflt ZV)).1) 0) + 1))) x11
     else
      bif decide ((x1.length : Int) < IntKind.wrap .i64 ((Hk QB x10 ((rd x6 x8 (Ty.dflt ZV)).1) 0) + 1)) then
       some (([] : List (Qk × Int)),false)
      else
       Zp n x1 x2 x3 x4 x5 x6 x7 (IntKind.wrap .i64 (x8 + 1)) x9 x10 x11
    else
     bif decide (Hk QB x10 x11 0 < Hk QB x10 ((rd x6 x8 (Ty.dflt ZV)).1) 0) then
      bif decide ((x1.length : Int) < Hk QB x10 ((rd x6 x8 (Ty.dflt ZV)).1) 0) then
       some (([] : List (Qk × Int)),false)
      else
       Zp n x1 true x3 x4 x5 x6 x7 (IntKind.wrap .i64 (x8 + 1)) x9 (QaA QB x10 x11 (Hk QB x10 ((rd x6 x8 (Ty.dflt ZV)).1) 0)) x11
     else
      bif decide ((x1.length : Int) < Hk QB x10 ((rd x6 x8 (Ty.dflt ZV)).1) 0) then
       some (([] : List (Qk × Int)),false)
      else
       Zp n x1 x2 x3 x4 x5 x6 x7 (IntKind.wrap .i64 (x8 + 1)) x9 x10 x11
   else none
  else
   Z4 n x1 x2 x3 x4 (IntKind.wrap .i64 (x5 + 1)) x9 x10:=by kernel_rfl
theorem Qd6 {K3 : Bool → (List (Qk × Int)) → Option ((List (Qk × Int)) × Bool)} {x1 : (List Qk)} {x4 : Int} {x5 : Int} {x6 : (List Qx)} {x9 : (List (Qk × (List Qx)))} {x11 : Qk} (hl : x6.length ≤ maxLen) (hK3 : ∀ (z2 : Bool) (z7 : (List (Qk × Int))) (r : ((List (Qk × Int)) × Bool)),K3 z2 z7 = some r → Ev (fun n=>Z4 n x1 z2 x1 x4 (IntKind.wrap .i64 (x5 + 1)) x9 z7) r) : ∀ (rest : List Qx) (k : Nat) (x2 : Bool) (x10 : (List (Qk × Int))) (r : ((List (Qk × Int)) × Bool)),rest = x6.drop k → QO K3 x1 x11 rest x2 x10 = some r → Ev (fun n=>Zp n x1 x2 x1 x4 x5 x6 (x6.length : Int) (k : Int) x9 x10 x11) r:=by
 intro rest
 induction rest with
 | nil =>
  intro k x2 x10 r hr h
  have hk:=QR hr
  rw [QO] at h
  refine Ev.step ?_ (fun n=>XY n x1 x2 x1 x4 x5 x6 (x6.length : Int) (k : Int) x9 x10 x11)
  rw [show decide ((k : Int) < (x6.length : Int)) = false from decide_eq_false (by omega)]
  exact Ev.neg rfl (hK3 _ _ _ h)
 | cons e rest ih =>
  intro k x2 x10 r hr h
  obtain ⟨hk,hx,hr2⟩:=QJ (d:=(Ty.dflt ZV)) hr
  have hw:=QG hl hk
  have ih2 : ∀ (z2 : Bool) (z10 : (List (Qk × Int))) (r : ((List (Qk × Int)) × Bool)),QO K3 x1 x11 rest z2 z10 = some r → Ev (fun n=>Zp n x1 z2 x1 x4 x5 x6 (x6.length : Int) (IntKind.wrap .i64 ((k : Int) + 1)) x9 z10 x11) r:=by
   intro z2 z10 r h; rw [hw]; exact ih (k + 1) z2 z10 r hr2 h
  rw [QO] at h
  refine Ev.step ?_ (fun n=>XY n x1 x2 x1 x4 x5 x6 (x6.length : Int) (k : Int) x9 x10 x11)
  rw [show decide ((k : Int) < (x6.length : Int)) = true from decide_eq_true (by omega),QM hk,hx]
  exact Ev.pos rfl (Ev.pos rfl (Ev.ofBif h (fun h=>(Ev.ofBif h (fun h=>(Ev.ofBif h (fun h=>(Ev.ofSome h)) (fun h=>(ih2 _ _ _ h)))) (fun h=>(Ev.ofBif h (fun h=>(Ev.ofSome h)) (fun h=>(ih2 _ _ _ h)))))) (fun h=>(Ev.ofBif h (fun h=>(Ev.ofBif h (fun h=>(Ev.ofSome h)) (fun h=>(ih2 _ _ _ h)))) (fun h=>(Ev.ofBif h (fun h=>(Ev.ofSome h)) (fun h=>(ih2 _ _ _ h))))))))
theorem Qd7 {K2 : Bool → (List (Qk × Int)) → Option ((List (Qk × Int)) × Bool)} {x1 : (List Qk)} {x6 : (List (Qk × (List Qx)))} (hl : x1.length ≤ maxLen) (hK2 : ∀ (z2 : Bool) (z4 : (List (Qk × Int))) (r : ((List (Qk × Int)) × Bool)),K2 z2 z4 = some r → Ev (fun n=>JR n x1 z2 x6 z4) r) : ∀ (rest : List Qk) (k : Nat) (x2 : Bool) (x7 : (List (Qk × Int))) (r : ((List (Qk × Int)) × Bool)),rest = x1.drop k → Zb K2 x1 x6 rest x2 x7 = some r → Ev (fun n=>Z4 n x1 x2 x1 (x1.length : Int) (k : Int) x6 x7) r:=by
 intro rest
 induction rest with
 | nil =>
  intro k x2 x7 r hr h
  have hk:=QR hr
  rw [Zb] at h
  refine Ev.step ?_ (fun n=>XX n x1 x2 x1 (x1.length : Int) (k : Int) x6 x7)
  rw [show decide ((k : Int) < (x1.length : Int)) = false from decide_eq_false (by omega)]
  exact Ev.neg rfl (hK2 _ _ _ h)
 | cons e rest ih =>
  intro k x2 x7 r hr h
  obtain ⟨hk,hx,hr2⟩:=QJ (d:=(Ty.dflt QB)) hr
  have hw:=QG hl hk
  have ih2 : ∀ (z2 : Bool) (z7 : (List (Qk × Int))) (r : ((List (Qk × Int)) × Bool)),Zb K2 x1 x6 rest z2 z7 = some r → Ev (fun n=>Z4 n x1 z2 x1 (x1.length : Int) (IntKind.wrap .i64 ((k : Int) + 1)) x6 z7) r:=by
   intro z2 z7 r h; rw [hw]; exact ih (k + 1) z2 z7 r hr2 h
  rw [Zb] at h
  refine Ev.step ?_ (fun n=>XX n x1 x2 x1 (x1.length : Int) (k : Int) x6 x7)
  rw [show decide ((k : Int) < (x1.length : Int)) = true from decide_eq_true (by omega),QM hk,hx]
  exact Ev.pos rfl (Ev.pos rfl (Ev.ofLen h fun hl h=>Qd6 hl ih2 _ (0 : Nat) _ _ _ rfl h))
theorem Qd8 {x1 : (List Qk)} {x3 : (List (Qk × (List Qx)))} : ∀ (m : Nat) (x2 : Bool) (x4 : (List (Qk × Int))) (r : ((List (Qk × Int)) × Bool)),Zo x1 x3 m x2 x4 = some r → Ev (fun n=>JR n x1 x2 x3 x4) r:=by
 intro m
 induction m with
 | zero=>intro x2 x4 r h; rw [Zo] at h; exact Ev.ofNone h
 | succ m ih2 =>
  intro x2 x4 r h
  rw [Zo] at h
  refine Ev.step ?_ (fun n=>QbY n x1 x2 x3 x4)
  exact (Ev.ofBif h (fun h=>(Ev.ofLen h fun hl h=>Qd7 hl ih2 _ (0 : Nat) _ _ _ rfl h)) (fun h=>(Ev.ofSome h)))
theorem Qd9 {m : Nat} {x1 : (List Qk)} {x5 : (List (Qk × (List Qx)))} (hl : x1.length ≤ maxLen) : ∀ (rest : List Qk) (k : Nat) (x6 : (List (Qk × Int))) (r : ((List (Qk × Int)) × Bool)),rest = x1.drop k → Q0 m x1 x5 rest x6 = some r → Ev (fun n=>JQ n x1 x1 (x1.length : Int) (k : Int) x5 x6) r:=by
 intro rest
 induction rest with
 | nil =>
  intro k x6 r hr h
  have hk:=QR hr
  rw [Q0] at h
  refine Ev.step ?_ (fun n=>XW n x1 x1 (x1.length : Int) (k : Int) x5 x6)
  rw [show decide ((k : Int) < (x1.length : Int)) = false from decide_eq_false (by omega)]
  exact Ev.neg rfl (Qd8 _ _ _ _ h)
 | cons e rest ih =>
  intro k x6 r hr h
  obtain ⟨hk,hx,hr2⟩:=QJ (d:=(Ty.dflt QB)) hr
  have hw:=QG hl hk
  have ih2 : ∀ (z6 : (List (Qk × Int))) (r : ((List (Qk × Int)) × Bool)),Q0 m x1 x5 rest z6 = some r → Ev (fun n=>JQ n x1 x1 (x1.length : Int) (IntKind.wrap .i64 ((k : Int) + 1)) x5 z6) r:=by
   intro z6 r h; rw [hw]; exact ih (k + 1) z6 r hr2 h
  rw [Q0] at h
  refine Ev.step ?_ (fun n=>XW n x1 x1 (x1.length : Int) (k : Int) x5 x6)
  rw [show decide ((k : Int) < (x1.length : Int)) = true from decide_eq_true (by omega),QM hk,hx]
  exact Ev.pos rfl (Ev.pos rfl (ih2 _ _ h))
theorem QeN {m : Nat} {x1 : (List Qk)} {x5 : Qa} (hl : x1.length ≤ maxLen) : ∀ (rest : List Qk) (k : Nat) (x6 : (List (Qk × (List Qx)))) (r : ((List (Qk × Int)) × Bool)),rest = x1.drop k → Zg m x1 x5 rest x6 = some r → Ev (fun n=>J5 n x1 x1 (x1.length : Int) (k : Int) x5 x6) r:=by
 intro rest
 induction rest with
 | nil =>
  intro k x6 r hr h
  have hk:=QR hr
  rw [Zg] at h
  refine Ev.step ?_ (fun n=>Hj n x1 x1 (x1.length : Int) (k : Int) x5 x6)
  rw [show decide ((k : Int) < (x1.length : Int)) = false from decide_eq_false (by omega)]
  exact Ev.neg rfl (Ev.ofLen h fun hl h=>Qd9 hl _ (0 : Nat) _ _ rfl h)
 | cons e rest ih =>
  intro k x6 r hr h
  obtain ⟨hk,hx,hr2⟩:=QJ (d:=(Ty.dflt QB)) hr
  have hw:=QG hl hk
  have ih2 : ∀ (z6 : (List (Qk × (List Qx)))) (r : ((List (Qk × Int)) × Bool)),Zg m x1 x5 rest z6 = some r → Ev (fun n=>J5 n x1 x1 (x1.length : Int) (IntKind.wrap .i64 ((k : Int) + 1)) x5 z6) r:=by
   intro z6 r h; rw [hw]; exact ih (k + 1) z6 r hr2 h
  rw [Zg] at h
  refine Ev.step ?_ (fun n=>Hj n x1 x1 (x1.length : Int) (k : Int) x5 x6)
  rw [show decide ((k : Int) < (x1.length : Int)) = true from decide_eq_true (by omega),QM hk,hx]
  exact Ev.pos rfl (Ev.pos rfl (Ev.ofBind h fun y2 h=>(ih2 _ _ h)))
theorem QiE {m : Nat} (a0 : Qa) {r : ((List (Qk × Int)) × Bool)} (h : Y8 m a0 = some r) : Ev (fun n=>Qah n a0) r:=by
 rw [Y8] at h
 refine Ev.of_eq ?_ (fun n=>QfE n a0)
 exact (Ev.ofBind h fun y1 h=>(Ev.ofLen h fun hl h=>QeN hl _ (0 : Nat) _ _ rfl h))
theorem QgB : ∀ x ∈ Z9,Qo Tryz.prog x:=(Ql QiC (Ql QiD Qt))
theorem Qhc : Qo Tryz.prog (Hd):=by
 refine Qq (c:=Hd) (by kernel_rfl) (by kernel_rfl : Tryz.prog.funcs[87]? = some Tryz.f87) (code:=Tryz.f87.body.getD .skip) (by kernel_rfl) (by kernel_rfl) (by kernel_rfl) (A:=Jt) (I:=Z8) (QgB) ?_
 rintro ⟨a0,u⟩ y hy
 exact let ⟨_,h⟩:=(Ee hy).get; (QiE a0 h).get
def Zj (K1 : Option Bool) (x8 : Qb) : List Qc → Nat → Option Bool
 | [],k =>
   K1
 | e :: rest,k =>
   Option.bind (QK x8 ((e).1)) fun (y4 : (Qf × Bool)) =>
   Option.bind (Zw ((e).1)) fun (y5 : Bool) =>
   bif !(y5) then
    some false
   else
    bif decide ((e).1 = ([110,105,108] : List Int)) then
     some false
    else
     bif y4.2 then
      some false
     else
      bif decide ((0 : Int) < (k : Int)) then
       bif inB (IntKind.wrap .i64 ((k : Int) - 1)) x8.2.2.length then
        bif !Jg ((rd x8.2.2 (IntKind.wrap .i64 ((k : Int) - 1)) (Ty.dflt Qh)).1) ((e).1) then
         some false
        else
         Zj K1 x8 rest (k + 1)
       else none
      else
       Zj K1 x8 rest (k + 1)
def Q8 (K1 : Option Bool) (x8 : Qb) : List Qf → Nat → Option Bool
 | [],k =>
   ZF x8.2.2 (Zj K1 x8 x8.2.2 0)
 | e :: rest,k =>
   Option.bind (Zw ((e).1)) fun (y3 : Bool) =>
   bif !(y3) then
    some false
   else
    bif decide ((e).1 = ([110,105,108] : List Int)) then
     some false
    else
     bif decide ((0 : Int) < (k : Int)) then
      bif inB (IntKind.wrap .i64 ((k : Int) - 1)) x8.2.1.length then
       bif !Jg ((rd x8.2.1 (IntKind.wrap .i64 ((k : Int) - 1)) (Ty.dflt Qj)).1) ((e).1) then
        some false
       else
        Q8 K1 x8 rest (k + 1)
      else none
     else
      Q8 K1 x8 rest (k + 1)
def ZJ (K4 : Option Bool) (x7 : Qa) (x8 : Qb) : List Qc → Option Bool
 | [] =>
   K4
 | e :: rest =>
   Option.bind (ZY x7 x8 ((e).2)) fun (y7 : Bool) =>
   bif !(y7) then
    some false
   else
    ZJ K4 x7 x8 rest
def Zy (K4 : Option Bool) (x7 : Qa) (x8 : Qb) : List Qf → Option Bool
 | [] =>
   ZF x8.2.2 (ZJ K4 x7 x8 x8.2.2)
 | e :: rest =>
   Option.bind (ZA x7 (e)) fun (y6 : Bool) =>
   bif !(y6) then
    some false
   else
    Zy K4 x7 x8 rest
def ZK (x4 : Qa) : List Qb → Option Bool
 | [] =>
   Option.bind (ZT x4) fun (y8 : ((List (Qk × Int)) × Bool)) =>
   some y8.2
 | e :: rest =>
   ZF (((e).2).1) (Zy (ZK x4 rest) x4 (e) (((e).2).1))
def Zk (x4 : Qa) : List Qb → Nat → Option Bool
 | [],k =>
   ZF x4.2 (ZK x4 x4.2)
 | e :: rest,k =>
   Option.bind (Zw ((e).1)) fun (y2 : Bool) =>
   bif !(y2) then
    some false
   else
    bif decide ((0 : Int) < (k : Int)) then
     bif inB (IntKind.wrap .i64 ((k : Int) - 1)) x4.2.length then
      bif !Jg ((rd x4.2 (IntKind.wrap .i64 ((k : Int) - 1)) (Ty.dflt Qe)).1) ((e).1) then
       some false
      else
       bif decide ((12 : Int) < ((((e).2).1).length : Int)) then
        some false
       else
        bif decide ((12 : Int) < ((((e).2).2).length : Int)) then
         some false
        else
         ZF (((e).2).1) (Q8 (Zk x4 rest (k + 1)) (e) (((e).2).1) 0)
     else none
    else
     bif decide ((12 : Int) < ((((e).2).1).length : Int)) then
      some false
     else
      bif decide ((12 : Int) < ((((e).2).2).length : Int)) then
       some false
      else
       ZF (((e).2).1) (Q8 (Zk x4 rest (k + 1)) (e) (((e).2).1) 0)
def Zr (x4 : Qa) : List QC → Nat → Option Bool
 | [],k =>
   ZF x4.2 (Zk x4 x4.2 0)
 | e :: rest,k =>
   Option.bind (VF (e)) fun (y1 : Bool) =>
   bif !(y1) then
    some false
   else
    bif decide ((0 : Int) < (k : Int)) then
     bif inB (IntKind.wrap .i64 ((k : Int) - 1)) x4.1.length then
      bif !Jg ((rd x4.1 (IntKind.wrap .i64 ((k : Int) - 1)) (Ty.dflt Qu)).1) ((e).1) then
       some false
      else
       Zr x4 rest (k + 1)
     else none
    else
     Zr x4 rest (k + 1)
def JS (a0 : Qa) : Option Bool :=
 bif decide ((8 : Int) < (a0.1.length : Int)) then
  some false
 else
  bif decide ((12 : Int) < (a0.2.length : Int)) then
   some false
  else
   ZF a0.1 (Zr a0 a0.1 0)
def WS : Ctr:=⟨44,[Qi],[.bool],fun x=>JS x.1⟩
def Jp : List (List Nat × Ann):=[([0,4],[.keep 0 1,.keep 0 32,.keep 0 33,.keep 0 34,.boxd 0 1 Qi]),([0,10],[.keep 0 1,.keep 0 60,.keep 0 61,.keep 0 62,.boxd 0 1 Qi]),([0,15],[.keep 0 1,.keep 0 6,.keep 0 60,.keep 0 61,.keep 0 62,.keep 0 100,.keep 0 101,.keep 0 102,.boxd 0 1 Qi,.boxd 0 6 Qe]),([0,21],[.keep 0 1,.keep 0 6,.keep 0 60,.keep 0 61,.keep 0 62,.keep 0 134,.keep 0 135,.keep 0 136,.boxd 0 1 Qi,.boxd 0 6 Qe]),([0,29],[.keep 0 1,.keep 0 179,.keep 0 180,.keep 0 181,.boxd 0 1 Qi]),([0,32],[.keep 0 1,.keep 0 14,.keep 0 179,.keep 0 180,.keep 0 181,.keep 0 186,.keep 0 187,.keep 0 188,.boxd 0 1 Qi,.boxd 0 14 Qe]),([0,38],[.keep 0 1,.keep 0 14,.keep 0 179,.keep 0 180,.keep 0 181,.keep 0 198,.keep 0 199,.keep 0 200,.boxd 0 1 Qi,.boxd 0 14 Qe])]
def Z1 : List (List Nat × Nat):=[]
def Z2 : List Ctr:=[QbQ,UA,Js,V2,Xf,Hd]
def Qea (n : Nat) (a0 : Qa) : Option Bool:=run Tryz.prog Jp Z1 (Qv Z2) Tryz.f44 (Tryz.f44.body.getD .skip) (Qy [.bool]) n (QE [Qi] (a0,()))
abbrev Ya (n : Nat) (x1 : (List QC)) (x2 : Int) (x3 : Int) (x4 : Qa) : Option Bool:=lam Tryz.prog Jp Z1 (Qv Z2) Tryz.f44 (Tryz.f44.body.getD .skip) (Qy [.bool]) n [0,4] [.ptr 0 1 0,.d (.list Qu) x1,.d I64 x2,.d I64 x3,.agg (QA Qi x4)]
abbrev Ja (n : Nat) (x1 : (List Qb)) (x2 : Int) (x3 : Int) (x4 : Qa) : Option Bool:=lam Tryz.prog Jp Z1 (Qv Z2) Tryz.f44 (Tryz.f44.body.getD .skip) (Qy [.bool]) n [0,10] [.ptr 0 1 0,.d (.list Qe) x1,.d I64 x2,.d I64 x3,.agg (QA Qi x4)]
abbrev Jb (n : Nat) (x1 : (List Qb)) (x2 : Int) (x3 : Int) (x4 : (List Qf)) (x5 : Int) (x6 : Int) (x7 : Qa) (x8 : Qb) : Option Bool:=lam Tryz.prog Jp Z1 (Qv Z2) Tryz.f44 (Tryz.f44.body.getD .skip) (Qy [.bool]) n [0,15] [.ptr 0 1 0,.ptr 0 6 0,.d (.list Qe) x1,.d I64 x2,.d I64 x3,.d (.list Qj) x4,.d I64 x5,.d I64 x6,.agg (QA Qi x7),.agg (QA Qe x8)]
abbrev JV (n : Nat) (x1 : (List Qb)) (x2 : Int) (x3 : Int) (x4 : (List Qc)) (x5 : Int) (x6 : Int) (x7 : Qa) (x8 : Qb) : Option Bool:=lam Tryz.prog Jp Z1 (Qv Z2) Tryz.f44 (Tryz.f44.body.getD .skip) (Qy [.bool]) n [0,21] [.ptr 0 1 0,.ptr 0 6 0,.d (.list Qe) x1,.d I64 x2,.d I64 x3,.d (.list Qh) x4,.d I64 x5,.d I64 x6,.agg (QA Qi x7),.agg (QA Qe x8)]
abbrev Jc (n : Nat) (x1 : (List Qb)) (x2 : Int) (x3 : Int) (x4 : Qa) : Option Bool:=lam Tryz.prog Jp Z1 (Qv Z2) Tryz.f44 (Tryz.f44.body.getD .skip) (Qy [.bool]) n [0,29] [.ptr 0 1 0,.d (.list Qe) x1,.d I64 x2,.d I64 x3,.agg (QA Qi x4)]
abbrev YN (n : Nat) (x1 : (List Qb)) (x2 : Int) (x3 : Int) (x4 : (List Qf)) (x5 : Int) (x6 : Int) (x7 : Qa) (x8 : Qb) : Option Bool:=lam Tryz.prog Jp Z1 (Qv Z2) Tryz.f44 (Tryz.f44.body.getD .skip) (Qy [.bool]) n [0,32] [.ptr 0 1 0,.ptr 0 14 0,.d (.list Qe) x1,.d I64 x2,.d I64 x3,.d (.list Qj) x4,.d I64 x5,.d I64 x6,.agg (QA Qi x7),.agg (QA Qe x8)]
abbrev YO (n : Nat) (x1 : (List Qb)) (x2 : Int) (x3 : Int) (x4 : (List Qc)) (x5 : Int) (x6 : Int) (x7 : Qa) (x8 : Qb) : Option Bool:=lam Tryz.prog Jp Z1 (Qv Z2) Tryz.f44 (Tryz.f44.body.getD .skip) (Qy [.bool]) n [0,38] [.ptr 0 1 0,.ptr 0 14 0,.d (.list Qe) x1,.d I64 x2,.d I64 x3,.d (.list Qh) x4,.d I64 x5,.d I64 x6,.agg (QA Qi x7),.agg (QA Qe x8)]
theorem QjC (n : Nat) (a0 : Qa) : Qea n a0 =
  bif decide ((8 : Int) < (a0.1.length : Int)) then
   some false
  else
   bif decide ((12 : Int) < (a0.2.length : Int)) then
    some false
   else
    Ya n a0.1 (a0.1.length : Int) 0 a0:=by kernel_rfl
theorem Wj (n : Nat) (x1 : (List QC)) (x2 : Int) (x3 : Int) (x4 : Qa) : Ya (n + 1) x1 x2 x3 x4 =
  bif decide (x3 < x2) then
   bif inB x3 x1.length then
    Option.bind (VF (rd x1 x3 (Ty.dflt Qu))) fun (y1 : Bool) =>
    bif !(y1) then
     some false
    else
     bif decide ((0 : Int) < x3) then
      bif inB (IntKind.wrap .i64 (x3 - 1)) x4.1.length then
       bif !Jg ((rd x4.1 (IntKind.wrap .i64 (x3 - 1)) (Ty.dflt Qu)).1) ((rd x1 x3 (Ty.dflt Qu)).1) then
        some false
       else
        Ya n x1 x2 (IntKind.wrap .i64 (x3 + 1)) x4
      else none
     else
      Ya n x1 x2 (IntKind.wrap .i64 (x3 + 1)) x4
   else none
  else
   Ja n x4.2 (x4.2.length : Int) 0 x4:=by kernel_rfl
theorem UC (n : Nat) (x1 : (List Qb)) (x2 : Int) (x3 : Int) (x4 : Qa) : Ja (n + 1) x1 x2 x3 x4 =
  bif decide (x3 < x2) then
   bif inB x3 x1.length then
    Option.bind (Zw ((rd x1 x3 (Ty.dflt Qe)).1)) fun (y2 : Bool) =>
    bif !(y2) then
     some false
    else
     bif decide ((0 : Int) < x3) then
      bif inB (IntKind.wrap .i64 (x3 - 1)) x4.2.length then
       bif !Jg ((rd x4.2 (IntKind.wrap .i64 (x3 - 1)) (Ty.dflt Qe)).1) ((rd x1 x3 (Ty.dflt Qe)).1) then
        some false
       else
        bif decide ((12 : Int) < ((((rd x1 x3 (Ty.dflt Qe)).2).1).length : Int)) then
         some false
        else
         bif decide ((12 : Int) < ((((rd x1 x3 (Ty.dflt Qe)).2).2).length : Int)) then
          some false
         else
          Jb n x1 x2 x3 (((rd x1 x3 (Ty.dflt Qe)).2).1) ((((rd x1 x3 (Ty.dflt Qe)).2).1).length : Int) 0 x4 (rd x1 x3 (Ty.dflt Qe))
      else none
     else
      bif decide ((12 : Int) < ((((rd x1 x3 (Ty.dflt Qe)).2).1).length : Int)) then
       some false
      else
       bif decide ((12 : Int) < ((((rd x1 x3 (Ty.dflt Qe)).2).2).length : Int)) then
        some false
       else
        Jb n x1 x2 x3 (((rd x1 x3 (Ty.dflt Qe)).2).1) ((((rd x1 x3 (Ty.dflt Qe)).2).1).length : Int) 0 x4 (rd x1 x3 (Ty.dflt Qe))
   else none
  else
   Jc n x4.2 (x4.2.length : Int) 0 x4:=by kernel_rfl
theorem UD (n : Nat) (x1 : (List Qb)) (x2 : Int) (x3 : Int) (x4 : (List Qf)) (x5 : Int) (x6 : Int) (x7 : Qa) (x8 : Qb) : Jb (n + 1) x1 x2 x3 x4 x5 x6 x7 x8 =
  bif decide (x6 < x5) then
   bif inB x6 x4.length then
    Option.bind (Zw ((rd x4 x6 (Ty.dflt Qj)).1)) fun (y3 : Bool) =>
    bif !(y3) then
     some false
    else
     bif decide ((rd x4 x6 (Ty.dflt Qj)).1 = ([110,105,108] : List Int)) then
      some false
     else
      bif decide ((0 : Int) < x6) then
       bif inB (IntKind.wrap .i64 (x6 - 1)) x8.2.1.length then
        bif !Jg ((rd x8.2.1 (IntKind.wrap .i64 (x6 - 1)) (Ty.dflt Qj)).1) ((rd x4 x6 (Ty.dflt Qj)).1) then
         some false
        else
         Jb n x1 x2 x3 x4 x5 (IntKind.wrap .i64 (x6 + 1)) x7 x8
       else none
      else
       Jb n x1 x2 x3 x4 x5 (IntKind.wrap .i64 (x6 + 1)) x7 x8
   else none
  else
   JV n x1 x2 x3 x8.2.2 (x8.2.2.length : Int) 0 x7 x8:=by kernel_rfl
theorem UE (n : Nat) (x1 : (List Qb)) (x2 : Int) (x3 : Int) (x4 : (List Qc)) (x5 : Int) (x6 : Int) (x7 : Qa) (x8 : Qb) : JV (n + 1) x1 x2 x3 x4 x5 x6 x7 x8 =
  bif decide (x6 < x5) then
   bif inB x6 x4.length then
    Option.bind (QK x8 ((rd x4 x6 (Ty.dflt Qh)).1)) fun (y4 : (Qf × Bool)) =>
    Option.bind (Zw ((rd x4 x6 (Ty.dflt Qh)).1)) fun (y5 : Bool) =>
    bif !(y5) then
     some false
    else
     bif decide ((rd x4 x6 (Ty.dflt Qh)).1 = ([110,105,108] : List Int)) then
      some false
     else
      bif y4.2 then
       some false
      else
       bif decide ((0 : Int) < x6) then
        bif inB (IntKind.wrap .i64 (x6 - 1)) x8.2.2.length then
         bif !Jg ((rd x8.2.2 (IntKind.wrap .i64 (x6 - 1)) (Ty.dflt Qh)).1) ((rd x4 x6 (Ty.dflt Qh)).1) then
          some false
         else
          JV n x1 x2 x3 x4 x5 (IntKind.wrap .i64 (x6 + 1)) x7 x8
        else none
       else
        JV n x1 x2 x3 x4 x5 (IntKind.wrap .i64 (x6 + 1)) x7 x8
   else none
  else
   Ja n x1 x2 (IntKind.wrap .i64 (x3 + 1)) x7:=by kernel_rfl
theorem UF (n : Nat) (x1 : (List Qb)) (x2 : Int) (x3 : Int) (x4 : Qa) : Jc (n + 1) x1 x2 x3 x4 =
  bif decide (x3 < x2) then
   bif inB x3 x1.length then
    YN n x1 x2 x3 (((rd x1 x3 (Ty.dflt Qe)).2).1) ((((rd x1 x3 (Ty.dflt Qe)).2).1).length : Int) 0 x4 (rd x1 x3 (Ty.dflt Qe))
   else none
  else
   Option.bind (ZT x4) fun (y8 : ((List (Qk × Int)) × Bool)) =>
   some y8.2:=by kernel_rfl
theorem UG (n : Nat) (x1 : (List Qb)) (x2 : Int) (x3 : Int) (x4 : (List Qf)) (x5 : Int) (x6 : Int) (x7 : Qa) (x8 : Qb) : YN (n + 1) x1 x2 x3 x4 x5 x6 x7 x8 =
  bif decide (x6 < x5) then
   bif inB x6 x4.length then
    Option.bind (ZA x7 (rd x4 x6 (Ty.dflt Qj))) fun (y6 : Bool) =>
    bif !(y6) then
     some false
    else
     YN n x1 x2 x3 x4 x5 (IntKind.wrap .i64 (x6 + 1)) x7 x8
   else none
  else
   YO n x1 x2 x3 x8.2.2 (x8.2.2.length : Int) 0 x7 x8:=by kernel_rfl
theorem UH (n : Nat) (x1 : (List Qb)) (x2 : Int) (x3 : Int) (x4 : (List Qc)) (x5 : Int) (x6 : Int) (x7 : Qa) (x8 : Qb) : YO (n + 1) x1 x2 x3 x4 x5 x6 x7 x8 =
  bif decide (x6 < x5) then
   bif inB x6 x4.length then
    Option.bind (ZY x7 x8 ((rd x4 x6 (Ty.dflt Qh)).2)) fun (y7 : Bool) =>
    bif !(y7) then
     some false
    else
     YO n x1 x2 x3 x4 x5 (IntKind.wrap .i64 (x6 + 1)) x7 x8
   else none
  else
   Jc n x1 x2 (IntKind.wrap .i64 (x3 + 1)) x7:=by kernel_rfl
theorem Qhd {K1 : Option Bool} {x1 : (List Qb)} {x2 : Int} {x3 : Int} {x4 : (List Qc)} {x7 : Qa} {x8 : Qb} (hl : x4.length ≤ maxLen) (hK1 : ∀  (r : Bool),K1 = some r → Ev (fun n=>Ja n x1 x2 (IntKind.wrap .i64 (x3 + 1)) x7) r) : ∀ (rest : List Qc) (k : Nat) (r : Bool),rest = x4.drop k → Zj K1 x8 rest k = some r → Ev (fun n=>JV n x1 x2 x3 x4 (x4.length : Int) (k : Int) x7 x8) r:=by
 intro rest
 induction rest with
 | nil =>
  intro k r hr h
  have hk:=QR hr
  rw [Zj] at h
  refine Ev.step ?_ (fun n=>UE n x1 x2 x3 x4 (x4.length : Int) (k : Int) x7 x8)
  rw [show decide ((k : Int) < (x4.length : Int)) = false from decide_eq_false (by omega)]
  exact Ev.neg rfl (hK1  _ h)
 | cons e rest ih =>
  intro k r hr h
  obtain ⟨hk,hx,hr2⟩:=QJ (d:=(Ty.dflt Qh)) hr
  have hw:=QG hl hk
  have ih2 : ∀ (r : Bool),Zj K1 x8 rest (k + 1) = some r → Ev (fun n=>JV n x1 x2 x3 x4 (x4.length : Int) (IntKind.wrap .i64 ((k : Int) + 1)) x7 x8) r:=by
   intro r h; rw [hw]; exact ih (k + 1) r hr2 h
  rw [Zj] at h
  refine Ev.step ?_ (fun n=>UE n x1 x2 x3 x4 (x4.length : Int) (k : Int) x7 x8)
  rw [show decide ((k : Int) < (x4.length : Int)) = true from decide_eq_true (by omega),QM hk,hx]
  exact Ev.pos rfl (Ev.pos rfl (Ev.ofBind h fun y4 h=>(Ev.ofBind h fun y5 h=>(Ev.ofBif h (fun h=>(Ev.ofSome h)) (fun h=>(Ev.ofBif h (fun h=>(Ev.ofSome h)) (fun h=>(Ev.ofBif h (fun h=>(Ev.ofSome h)) (fun h=>(Ev.ofBif h (fun h=>(Ev.ofBif h (fun h=>(Ev.ofBif h (fun h=>(Ev.ofSome h)) (fun h=>(ih2  _ h)))) (fun h=>(Ev.ofNone h)))) (fun h=>(ih2  _ h))))))))))))
theorem EK {K1 : Option Bool} {x1 : (List Qb)} {x2 : Int} {x3 : Int} {x4 : (List Qf)} {x7 : Qa} {x8 : Qb} (hl : x4.length ≤ maxLen) (hK1 : ∀  (r : Bool),K1 = some r → Ev (fun n=>Ja n x1 x2 (IntKind.wrap .i64 (x3 + 1)) x7) r) : ∀ (rest : List Qf) (k : Nat) (r : Bool),rest = x4.drop k → Q8 K1 x8 rest k = some r → Ev (fun n=>Jb n x1 x2 x3 x4 (x4.length : Int) (k : Int) x7 x8) r:=by
 intro rest
 induction rest with
 | nil =>
  intro k r hr h
  have hk:=QR hr
  rw [Q8] at h
  refine Ev.step ?_ (fun n=>UD n x1 x2 x3 x4 (x4.length : Int) (k : Int) x7 x8)
  rw [show decide ((k : Int) < (x4.length : Int)) = false from decide_eq_false (by omega)]
  exact Ev.neg rfl (Ev.ofLen h fun hl h=>Qhd hl hK1 _ (0 : Nat) _ rfl h)
 | cons e rest ih =>
  intro k r hr h
  obtain ⟨hk,hx,hr2⟩:=QJ (d:=(Ty.dflt Qj)) hr
  have hw:=QG hl hk
  have ih2 : ∀ (r : Bool),Q8 K1 x8 rest (k + 1) = some r → Ev (fun n=>Jb n x1 x2 x3 x4 (x4.length : Int) (IntKind.wrap .i64 ((k : Int) + 1)) x7 x8) r:=by
   intro r h; rw [hw]; exact ih (k + 1) r hr2 h
  rw [Q8] at h
  refine Ev.step ?_ (fun n=>UD n x1 x2 x3 x4 (x4.length : Int) (k : Int) x7 x8)
  rw [show decide ((k : Int) < (x4.length : Int)) = true from decide_eq_true (by omega),QM hk,hx]
  exact Ev.pos rfl (Ev.pos rfl (Ev.ofBind h fun y3 h=>(Ev.ofBif h (fun h=>(Ev.ofSome h)) (fun h=>(Ev.ofBif h (fun h=>(Ev.ofSome h)) (fun h=>(Ev.ofBif h (fun h=>(Ev.ofBif h (fun h=>(Ev.ofBif h (fun h=>(Ev.ofSome h)) (fun h=>(ih2  _ h)))) (fun h=>(Ev.ofNone h)))) (fun h=>(ih2  _ h)))))))))
theorem Qhe {K4 : Option Bool} {x1 : (List Qb)} {x2 : Int} {x3 : Int} {x4 : (List Qc)} {x7 : Qa} {x8 : Qb} (hl : x4.length ≤ maxLen) (hK4 : ∀  (r : Bool),K4 = some r → Ev (fun n=>Jc n x1 x2 (IntKind.wrap .i64 (x3 + 1)) x7) r) : ∀ (rest : List Qc) (k : Nat) (r : Bool),rest = x4.drop k → ZJ K4 x7 x8 rest = some r → Ev (fun n=>YO n x1 x2 x3 x4 (x4.length : Int) (k : Int) x7 x8) r:=by
 intro rest
 induction rest with
 | nil =>
  intro k r hr h
  have hk:=QR hr
  rw [ZJ] at h
  refine Ev.step ?_ (fun n=>UH n x1 x2 x3 x4 (x4.length : Int) (k : Int) x7 x8)
  rw [show decide ((k : Int) < (x4.length : Int)) = false from decide_eq_false (by omega)]
  exact Ev.neg rfl (hK4  _ h)
 | cons e rest ih =>
  intro k r hr h
  obtain ⟨hk,hx,hr2⟩:=QJ (d:=(Ty.dflt Qh)) hr
  have hw:=QG hl hk
  have ih2 : ∀ (r : Bool),ZJ K4 x7 x8 rest = some r → Ev (fun n=>YO n x1 x2 x3 x4 (x4.length : Int) (IntKind.wrap .i64 ((k : Int) + 1)) x7 x8) r:=by
   intro r h; rw [hw]; exact ih (k + 1) r hr2 h
  rw [ZJ] at h
  refine Ev.step ?_ (fun n=>UH n x1 x2 x3 x4 (x4.length : Int) (k : Int) x7 x8)
  rw [show decide ((k : Int) < (x4.length : Int)) = true from decide_eq_true (by omega),QM hk,hx]
  exact Ev.pos rfl (Ev.pos rfl (Ev.ofBind h fun y7 h=>(Ev.ofBif h (fun h=>(Ev.ofSome h)) (fun h=>(ih2  _ h)))))
theorem Qhf {K4 : Option Bool} {x1 : (List Qb)} {x2 : Int} {x3 : Int} {x4 : (List Qf)} {x7 : Qa} {x8 : Qb} (hl : x4.length ≤ maxLen) (hK4 : ∀  (r : Bool),K4 = some r → Ev (fun n=>Jc n x1 x2 (IntKind.wrap .i64 (x3 + 1)) x7) r) : ∀ (rest : List Qf) (k : Nat) (r : Bool),rest = x4.drop k → Zy K4 x7 x8 rest = some r → Ev (fun n=>YN n x1 x2 x3 x4 (x4.length : Int) (k : Int) x7 x8) r:=by
 intro rest
 induction rest with
 | nil =>
  intro k r hr h
  have hk:=QR hr
  rw [Zy] at h
  refine Ev.step ?_ (fun n=>UG n x1 x2 x3 x4 (x4.length : Int) (k : Int) x7 x8)
  rw [show decide ((k : Int) < (x4.length : Int)) = false from decide_eq_false (by omega)]
  exact Ev.neg rfl (Ev.ofLen h fun hl h=>Qhe hl hK4 _ (0 : Nat) _ rfl h)
 | cons e rest ih =>
  intro k r hr h
  obtain ⟨hk,hx,hr2⟩:=QJ (d:=(Ty.dflt Qj)) hr
  have hw:=QG hl hk
  have ih2 : ∀ (r : Bool),Zy K4 x7 x8 rest = some r → Ev (fun n=>YN n x1 x2 x3 x4 (x4.length : Int) (IntKind.wrap .i64 ((k : Int) + 1)) x7 x8) r:=by
   intro r h; rw [hw]; exact ih (k + 1) r hr2 h
  rw [Zy] at h
  refine Ev.step ?_ (fun n=>UG n x1 x2 x3 x4 (x4.length : Int) (k : Int) x7 x8)
  rw [show decide ((k : Int) < (x4.length : Int)) = true from decide_eq_true (by omega),QM hk,hx]
  exact Ev.pos rfl (Ev.pos rfl (Ev.ofBind h fun y6 h=>(Ev.ofBif h (fun h=>(Ev.ofSome h)) (fun h=>(ih2  _ h)))))
theorem Qhg {x1 : (List Qb)} {x4 : Qa} (hl : x1.length ≤ maxLen) : ∀ (rest : List Qb) (k : Nat) (r : Bool),rest = x1.drop k → ZK x4 rest = some r → Ev (fun n=>Jc n x1 (x1.length : Int) (k : Int) x4) r:=by
 intro rest
 induction rest with
 | nil =>
  intro k r hr h
  have hk:=QR hr
  rw [ZK] at h
  refine Ev.step ?_ (fun n=>UF n x1 (x1.length : Int) (k : Int) x4)
  rw [show decide ((k : Int) < (x1.length : Int)) = false from decide_eq_false (by omega)]
  exact Ev.neg rfl (Ev.ofBind h fun y8 h=>(Ev.ofSome h))
 | cons e rest ih =>
  intro k r hr h
  obtain ⟨hk,hx,hr2⟩:=QJ (d:=(Ty.dflt Qe)) hr
  have hw:=QG hl hk
  have ih2 : ∀ (r : Bool),ZK x4 rest = some r → Ev (fun n=>Jc n x1 (x1.length : Int) (IntKind.wrap .i64 ((k : Int) + 1)) x4) r:=by
   intro r h; rw [hw]; exact ih (k + 1) r hr2 h
  rw [ZK] at h
  refine Ev.step ?_ (fun n=>UF n x1 (x1.length : Int) (k : Int) x4)
  rw [show decide ((k : Int) < (x1.length : Int)) = true from decide_eq_true (by omega),QM hk,hx]
  exact Ev.pos rfl (Ev.pos rfl (Ev.ofLen h fun hl h=>Qhf hl ih2 _ (0 : Nat) _ rfl h))
theorem Qhh {x1 : (List Qb)} {x4 : Qa} (hl : x1.length ≤ maxLen) : ∀ (rest : List Qb) (k : Nat) (r : Bool),rest = x1.drop k → Zk x4 rest k = some r → Ev (fun n=>Ja n x1 (x1.length : Int) (k : Int) x4) r:=by
 intro rest
 induction rest with
 | nil =>
  intro k r hr h
  have hk:=QR hr
  rw [Zk] at h
  refine Ev.step ?_ (fun n=>UC n x1 (x1.length : Int) (k : Int) x4)
  rw [show decide ((k : Int) < (x1.length : Int)) = false from decide_eq_false (by omega)]
  exact Ev.neg rfl (Ev.ofLen h fun hl h=>Qhg hl _ (0 : Nat) _ rfl h)
 | cons e rest ih =>
  intro k r hr h
  obtain ⟨hk,hx,hr2⟩:=QJ (d:=(Ty.dflt Qe)) hr
  have hw:=QG hl hk
  have ih2 : ∀ (r : Bool),Zk x4 rest (k + 1) = some r → Ev (fun n=>Ja n x1 (x1.length : Int) (IntKind.wrap .i64 ((k : Int) + 1)) x4) r:=by
   intro r h; rw [hw]; exact ih (k + 1) r hr2 h
  rw [Zk] at h
  refine Ev.step ?_ (fun n=>UC n x1 (x1.length : Int) (k : Int) x4)
  rw [show decide ((k : Int) < (x1.length : Int)) = true from decide_eq_true (by omega),QM hk,hx]
  exact Ev.pos rfl (Ev.pos rfl (Ev.ofBind h fun y2 h=>(Ev.ofBif h (fun h=>(Ev.ofSome h)) (fun h=>(Ev.ofBif h (fun h=>(Ev.ofBif h (fun h=>(Ev.ofBif h (fun h=>(Ev.ofSome h)) (fun h=>(Ev.ofBif h (fun h=>(Ev.ofSome h)) (fun h=>(Ev.ofBif h (fun h=>(Ev.ofSome h)) (fun h=>(Ev.ofLen h fun hl h=>EK hl ih2 _ (0 : Nat) _ rfl h)))))))) (fun h=>(Ev.ofNone h)))) (fun h=>(Ev.ofBif h (fun h=>(Ev.ofSome h)) (fun h=>(Ev.ofBif h (fun h=>(Ev.ofSome h)) (fun h=>(Ev.ofLen h fun hl h=>EK hl ih2 _ (0 : Nat) _ rfl h)))))))))))
theorem QiF {x1 : (List QC)} {x4 : Qa} (hl : x1.length ≤ maxLen) : ∀ (rest : List QC) (k : Nat) (r : Bool),rest = x1.drop k → Zr x4 rest k = some r → Ev (fun n=>Ya n x1 (x1.length : Int) (k : Int) x4) r:=by
 intro rest
 induction rest with
 | nil =>
  intro k r hr h
  have hk:=QR hr
  rw [Zr] at h
  refine Ev.step ?_ (fun n=>Wj n x1 (x1.length : Int) (k : Int) x4)
  rw [show decide ((k : Int) < (x1.length : Int)) = false from decide_eq_false (by omega)]
  exact Ev.neg rfl (Ev.ofLen h fun hl h=>Qhh hl _ (0 : Nat) _ rfl h)
 | cons e rest ih =>
  intro k r hr h
  obtain ⟨hk,hx,hr2⟩:=QJ (d:=(Ty.dflt Qu)) hr
  have hw:=QG hl hk
  have ih2 : ∀ (r : Bool),Zr x4 rest (k + 1) = some r → Ev (fun n=>Ya n x1 (x1.length : Int) (IntKind.wrap .i64 ((k : Int) + 1)) x4) r:=by
   intro r h; rw [hw]; exact ih (k + 1) r hr2 h
  rw [Zr] at h
  refine Ev.step ?_ (fun n=>Wj n x1 (x1.length : Int) (k : Int) x4)
  rw [show decide ((k : Int) < (x1.length : Int)) = true from decide_eq_true (by omega),QM hk,hx]
  exact Ev.pos rfl (Ev.pos rfl (Ev.ofBind h fun y1 h=>(Ev.ofBif h (fun h=>(Ev.ofSome h)) (fun h=>(Ev.ofBif h (fun h=>(Ev.ofBif h (fun h=>(Ev.ofBif h (fun h=>(Ev.ofSome h)) (fun h=>(ih2  _ h)))) (fun h=>(Ev.ofNone h)))) (fun h=>(ih2  _ h)))))))
theorem Qn9 (a0 : Qa) {r : Bool} (h : JS a0 = some r) : Ev (fun n=>Qea n a0) r:=by
 rw [JS] at h
 refine Ev.of_eq ?_ (fun n=>QjC n a0)
 exact (Ev.ofBif h (fun h=>(Ev.ofSome h)) (fun h=>(Ev.ofBif h (fun h=>(Ev.ofSome h)) (fun h=>(Ev.ofLen h fun hl h=>QiF hl _ (0 : Nat) _ rfl h)))))
theorem Qk4 : ∀ x ∈ Z2,Qo Tryz.prog x:=(Ql QrH (Ql Qc9 (Ql YL (Ql Qcq (Ql Qfz (Ql Qhc Qt))))))
theorem QmB : Qo Tryz.prog (WS):=by
 refine Qq (c:=WS) (by kernel_rfl) (by kernel_rfl : Tryz.prog.funcs[44]? = some Tryz.f44) (code:=Tryz.f44.body.getD .skip) (by kernel_rfl) (by kernel_rfl) (by kernel_rfl) (A:=Jp) (I:=Z1) (Qk4) ?_
 rintro ⟨a0,u⟩ y hy
 exact (Qn9 a0 hy).get
def Ju : List Int → Option Bool
 | [] =>
   some true
 | e :: rest =>
   bif !(Vk (e)) then
    bif !decide (e = 45) then
     bif !decide (e = 46) then
      some false
     else
      Ju rest
    else
     Ju rest
   else
    Ju rest
def VK (a0 : (List Int)) : Option Bool :=
 bif decide ((a0.length : Int) < 1) then
  some false
 else
  bif decide ((40 : Int) < (a0.length : Int)) then
   some false
  else
   ZF a0 (Ju a0)
def QgC : Ctr:=⟨90,[.str],[.bool],fun x=>VK x.1⟩
def QgD : List (List Nat × Ann):=[([0,4],[.keep 0 0,.keep 0 13,.keep 0 14])]
def QeO : List (List Nat × Nat):=[]
def QeP : List Ctr:=[Ei]
def Qoa (n : Nat) (a0 : (List Int)) : Option Bool:=run Tryz.prog QgD QeO (Qv QeP) Tryz.f90 (Tryz.f90.body.getD .skip) (Qy [.bool]) n (QE [.str] (a0,()))
abbrev Ve (n : Nat) (x1 : (List Int)) (x2 : Int) (x3 : Int) : Option Bool:=lam Tryz.prog QgD QeO (Qv QeP) Tryz.f90 (Tryz.f90.body.getD .skip) (Qy [.bool]) n [0,4] [.d .str x1,.d I64 x2,.d I64 x3]
theorem QtJ (n : Nat) (a0 : (List Int)) : Qoa n a0 =
  bif decide ((a0.length : Int) < 1) then
   some false
  else
   bif decide ((40 : Int) < (a0.length : Int)) then
    some false
   else
    Ve n a0 (a0.length : Int) 0:=by kernel_rfl
theorem QcC (n : Nat) (x1 : (List Int)) (x2 : Int) (x3 : Int) : Ve (n + 1) x1 x2 x3 =
  bif decide (x3 < x2) then
   bif inB x3 x1.length then
    bif !(Vk (rd x1 x3 0)) then
     bif inB x3 x1.length then
      bif !decide (rd x1 x3 0 = 45) then
       bif inB x3 x1.length then
        bif !decide (rd x1 x3 0 = 46) then
         some false
        else
         Ve n x1 x2 (IntKind.wrap .i64 (x3 + 1))
       else none
      else
       Ve n x1 x2 (IntKind.wrap .i64 (x3 + 1))
     else none
    else
     Ve n x1 x2 (IntKind.wrap .i64 (x3 + 1))
   else none
  else
   some true:=by kernel_rfl
theorem QrM {x1 : (List Int)} (hl : x1.length ≤ maxLen) : ∀ (rest : List Int) (k : Nat) (r : Bool),rest = x1.drop k → Ju rest = some r → Ev (fun n=>Ve n x1 (x1.length : Int) (k : Int)) r:=by
 intro rest
 induction rest with
 | nil =>
  intro k r hr h
  have hk:=QR hr
  rw [Ju] at h
  refine Ev.step ?_ (fun n=>QcC n x1 (x1.length : Int) (k : Int))
  rw [show decide ((k : Int) < (x1.length : Int)) = false from decide_eq_false (by omega)]
  exact Ev.neg rfl (Ev.ofSome h)
 | cons e rest ih =>
  intro k r hr h
  obtain ⟨hk,hx,hr2⟩:=QJ (d:=0) hr
  have hw:=QG hl hk
  have ih2 : ∀ (r : Bool),Ju rest = some r → Ev (fun n=>Ve n x1 (x1.length : Int) (IntKind.wrap .i64 ((k : Int) + 1))) r:=by
   intro r h; rw [hw]; exact ih (k + 1) r hr2 h
  rw [Ju] at h
  refine Ev.step ?_ (fun n=>QcC n x1 (x1.length : Int) (k : Int))
  rw [show decide ((k : Int) < (x1.length : Int)) = true from decide_eq_true (by omega),QM hk,hx]
  exact Ev.pos rfl (Ev.pos rfl (Ev.ofBif h (fun h=>(Ev.pos rfl (Ev.ofBif h (fun h=>(Ev.pos rfl (Ev.ofBif h (fun h=>(Ev.ofSome h)) (fun h=>(ih2  _ h))))) (fun h=>(ih2  _ h))))) (fun h=>(ih2  _ h))))
theorem Qzn (a0 : (List Int)) {r : Bool} (h : VK a0 = some r) : Ev (fun n=>Qoa n a0) r:=by
 rw [VK] at h
 refine Ev.of_eq ?_ (fun n=>QtJ n a0)
 exact (Ev.ofBif h (fun h=>(Ev.ofSome h)) (fun h=>(Ev.ofBif h (fun h=>(Ev.ofSome h)) (fun h=>(Ev.ofLen h fun hl h=>QrM hl _ (0 : Nat) _ rfl h)))))
theorem QvQ : ∀ x ∈ QeP,Qo Tryz.prog x:=(Ql QhG Qt)
theorem Qxv : Qo Tryz.prog (QgC):=by
 refine Qq (c:=QgC) (by kernel_rfl) (by kernel_rfl : Tryz.prog.funcs[90]? = some Tryz.f90) (code:=Tryz.f90.body.getD .skip) (by kernel_rfl) (by kernel_rfl) (by kernel_rfl) (A:=QgD) (I:=QeO) (QvQ) ?_
 rintro ⟨a0,u⟩ y hy
 exact (Qzn a0 hy).get
def Jd (a0 : Qa) (a1 : Ef) : Option Bool :=
 Option.bind (Q2 a0 a1.2.2.2.1) fun (y1 : (Qb × Bool)) =>
 Option.bind (QI a0 a1.1 a1.2.2.1) fun (y2 : Bool) =>
 bif y2 then
  Option.bind (VK a1.2.1) fun (y3 : Bool) =>
  bif y3 then
   bif y1.2 then
    Option.bind (VK a1.2.2.2.2.1) fun (y4 : Bool) =>
    bif y4 then
     bif decide (a1.2.2.2.2.2 = ([] : List Int)) then
      some true
     else
      Option.bind (QI a0 a1.2.2.2.1 a1.2.2.2.2.2) fun (y5 : Bool) =>
      some y5
    else
     some false
   else
    some false
  else
   some false
 else
  some false
def XA : Ctr:=⟨45,[Qi,G7],[.bool],fun x=>Jd x.1 x.2.1⟩
def EL : List (List Nat × Ann):=[]
def WT : List (List Nat × Nat):=[]
def WU : List Ctr:=[YI,Y0,QgC]
def EM (n : Nat) (a0 : Qa) (a1 : Ef) : Option Bool:=run Tryz.prog EL WT (Qv WU) Tryz.f45 (Tryz.f45.body.getD .skip) (Qy [.bool]) n (QE [Qi,G7] (a0,a1,()))
theorem QeQ (n : Nat) (a0 : Qa) (a1 : Ef) : EM n a0 a1 =
  Option.bind (Q2 a0 a1.2.2.2.1) fun (y1 : (Qb × Bool)) =>
  Option.bind (QI a0 a1.1 a1.2.2.1) fun (y2 : Bool) =>
  bif y2 then
   Option.bind (VK a1.2.1) fun (y3 : Bool) =>
   bif y3 then
    bif y1.2 then
     Option.bind (VK a1.2.2.2.2.1) fun (y4 : Bool) =>
     bif y4 then
      bif decide (a1.2.2.2.2.2 = ([] : List Int)) then
       some true
      else
       Option.bind (QI a0 a1.2.2.2.1 a1.2.2.2.2.2) fun (y5 : Bool) =>
       some y5
     else
      some false
    else
     some false
   else
    some false
  else
   some false:=by kernel_rfl
theorem Qhi (a0 : Qa) (a1 : Ef) {r : Bool} (h : Jd a0 a1 = some r) : Ev (fun n=>EM n a0 a1) r:=by
 rw [Jd] at h
 refine Ev.of_eq ?_ (fun n=>QeQ n a0 a1)
 exact (Ev.ofBind h fun y1 h=>(Ev.ofBind h fun y2 h=>(Ev.ofBif h (fun h=>(Ev.ofBind h fun y3 h=>(Ev.ofBif h (fun h=>(Ev.ofBif h (fun h=>(Ev.ofBind h fun y4 h=>(Ev.ofBif h (fun h=>(Ev.ofBif h (fun h=>(Ev.ofSome h)) (fun h=>(Ev.ofBind h fun y5 h=>(Ev.ofSome h))))) (fun h=>(Ev.ofSome h))))) (fun h=>(Ev.ofSome h)))) (fun h=>(Ev.ofSome h))))) (fun h=>(Ev.ofSome h)))))
theorem QfF : ∀ x ∈ WU,Qo Tryz.prog x:=(Ql Gn (Ql GO (Ql Qxv Qt)))
theorem QgE : Qo Tryz.prog (XA):=by
 refine Qq (c:=XA) (by kernel_rfl) (by kernel_rfl : Tryz.prog.funcs[45]? = some Tryz.f45) (code:=Tryz.f45.body.getD .skip) (by kernel_rfl) (by kernel_rfl) (by kernel_rfl) (A:=EL) (I:=WT) (QfF) ?_
 rintro ⟨a0,a1,u⟩ y hy
 exact (Qhi a0 a1 hy).get
def Xi (a0 : Qa) (a1 : Ef) : Option Bool :=
 Option.bind (JS a0) fun (y1 : Bool) =>
 bif y1 then
  Option.bind (Jd a0 a1) fun (y2 : Bool) =>
  some y2
 else
  some false
def QgF : Ctr:=⟨21,[Qi,G7],[.bool],fun x=>Xi x.1 x.2.1⟩
def Qob : List (List Nat × Ann):=[]
def Ql1 : List (List Nat × Nat):=[]
def Ql2 : List Ctr:=[WS,XA]
def Qoc (n : Nat) (a0 : Qa) (a1 : Ef) : Option Bool:=run Tryz.prog Qob Ql1 (Qv Ql2) Tryz.f21 (Tryz.f21.body.getD .skip) (Qy [.bool]) n (QE [Qi,G7] (a0,a1,()))
theorem QtK (n : Nat) (a0 : Qa) (a1 : Ef) : Qoc n a0 a1 =
  Option.bind (JS a0) fun (y1 : Bool) =>
  bif y1 then
   Option.bind (Jd a0 a1) fun (y2 : Bool) =>
   some y2
  else
   some false:=by kernel_rfl
theorem Qzo (a0 : Qa) (a1 : Ef) {r : Bool} (h : Xi a0 a1 = some r) : Ev (fun n=>Qoc n a0 a1) r:=by
 rw [Xi] at h
 refine Ev.of_eq ?_ (fun n=>QtK n a0 a1)
 exact (Ev.ofBind h fun y1 h=>(Ev.ofBif h (fun h=>(Ev.ofBind h fun y2 h=>(Ev.ofSome h))) (fun h=>(Ev.ofSome h))))
theorem QvR : ∀ x ∈ Ql2,Qo Tryz.prog x:=(Ql QmB (Ql QgE Qt))
theorem Qxw : Qo Tryz.prog (QgF):=by
 refine Qq (c:=QgF) (by kernel_rfl) (by kernel_rfl : Tryz.prog.funcs[21]? = some Tryz.f21) (code:=Tryz.f21.body.getD .skip) (by kernel_rfl) (by kernel_rfl) (by kernel_rfl) (A:=Qob) (I:=Ql1) (QvR) ?_
 rintro ⟨a0,a1,u⟩ y hy
 exact (Qzo a0 a1 hy).get
def QbZ : Ctr:=⟨176,[Qz,I64],[I64],fun x=>szC Qz x.1 x.2.1⟩
def Qod : List (List Nat × Ann):=[]
def Ql3 : List (List Nat × Nat):=[]
def QeR : List Ctr:=[]
def Qoe (n : Nat) (a0 : QF) (a1 : Int) : Option Int:=run Tryz.prog Qod Ql3 (Qv QeR) Tryz.f176 (Tryz.f176.body.getD .skip) (Qy [I64]) n (QE [Qz,I64] (a0,a1,()))
theorem QtL (n : Nat) (a0 : QF) (a1 : Int) : Qoe n a0 a1 =
  bif decide (IntKind.wrap .i64 (a1 - (a0.1.length : Int)) < 0) then
   some (-1)
  else
   some (IntKind.wrap .i64 (a1 - (a0.1.length : Int))):=by kernel_rfl
theorem Qxx (hcs : ∀ x ∈ QeR,Qo Tryz.prog x) (h : ∀ (a0 : QF) (a1 : Int) y,szC Qz a0 a1 = some y → ∃ n,Qoe n a0 a1 = some y) : Qo Tryz.prog QbZ:=by
 refine Qq (c:=QbZ) (by kernel_rfl) (by kernel_rfl : Tryz.prog.funcs[176]? = some Tryz.f176) (code:=Tryz.f176.body.getD .skip) (by kernel_rfl) (by kernel_rfl) (by kernel_rfl) (A:=Qod) (I:=Ql3) hcs ?_
 rintro ⟨a0,a1,u⟩ y hy
 exact h a0 a1 y hy
theorem QvS : ∀ x ∈ QeR,Qo Tryz.prog x:=Qt
theorem Qxy : Qo Tryz.prog QbZ:=Qxx QvS fun a0 a1 y hy=>by
 obtain ⟨hw,h0,h1,rfl⟩:=Qao hy
 have hw2 : wfD .str a0.1 ∧ wfD I64 a0.2:=hw
 have hsz : Ty.size Qz a0 = Ty.size .str a0.1 + (Ty.size I64 a0.2):=rfl
 have z1 : Ty.size I64 a0.2 = 0:=rfl
 have z0 : Ty.size .str a0.1 = a0.1.length:=rfl
 refine ⟨0,?_⟩
 rw [QtL,hsz]
 have hn0 : a0.1.length ≤ maxLen:=by have:=(hw2.1).1; unfold maxLen; omega
 rw [Jq (left:=a1) (n:=a0.1.length) (by omega) (by omega) hn0]
 rcases Int.lt_or_le (a1) (a0.1.length : Int) with h | h
 ·rw [decide_eq_true (show (a1 - (a0.1.length : Int)) < 0 by omega)]; simp only [cond_true]; unfold QY; rw [if_neg (by omega)]
 rw [decide_eq_false (show ¬ (a1 - (a0.1.length : Int)) < 0 by omega)]; simp only [cond_false]
 have h_0:=h; clear h
 unfold QY; rw [if_pos (by omega)]; congr 1 <;> omega
def Qau : Ctr:=⟨125,[(.list Qz),I64],[I64],fun x=>szC (.list Qz) x.1 x.2.1⟩
def QeS : List (List Nat × Ann):=[([0,5],[.keep 0 0,.keep 0 1,.keep 0 5])]
def Qdg : List (List Nat × Nat):=[]
def En : List Ctr:=[QbZ]
def Ql4 (n : Nat) (a0 : (List QF)) (a1 : Int) : Option Int:=run Tryz.prog QeS Qdg (Qv En) Tryz.f125 (Tryz.f125.body.getD .skip) (Qy [I64]) n (QE [(.list Qz),I64] (a0,a1,()))
abbrev EV (n : Nat) (x1 : (List QF)) (x2 : Int) (x3 : Int) : Option Int:=lam Tryz.prog QeS Qdg (Qv En) Tryz.f125 (Tryz.f125.body.getD .skip) (Qy [I64]) n [0,5] [.d (.list Qz) x1,.d I64 x2,.d I64 x3]
theorem QrN (n : Nat) (a0 : (List QF)) (a1 : Int) : Ql4 n a0 a1 =
  bif decide (IntKind.wrap .i64 (a1 - (a0.length : Int)) < 0) then
   some (-1)
  else
   EV n a0 (IntKind.wrap .i64 (a1 - (a0.length : Int))) 0:=by kernel_rfl
theorem Qk5 (n : Nat) (x1 : (List QF)) (x2 : Int) (x3 : Int) : EV (n + 1) x1 x2 x3 =
  bif decide (x3 < (x1.length : Int)) then
   bif inB x3 x1.length then
    Option.bind (szC Qz (rd x1 x3 (Ty.dflt Qz)) x2) fun (y1 : Int) =>
    bif decide (y1 < 0) then
     some (-1)
    else
     EV n x1 y1 (IntKind.wrap .i64 (x3 + 1))
   else none
  else
   some x2:=by kernel_rfl
theorem QvT (hcs : ∀ x ∈ En,Qo Tryz.prog x) (h : ∀ (a0 : (List QF)) (a1 : Int) y,szC (.list Qz) a0 a1 = some y → ∃ n,Ql4 n a0 a1 = some y) : Qo Tryz.prog Qau:=by
 refine Qq (c:=Qau) (by kernel_rfl) (by kernel_rfl : Tryz.prog.funcs[125]? = some Tryz.f125) (code:=Tryz.f125.body.getD .skip) (by kernel_rfl) (by kernel_rfl) (by kernel_rfl) (A:=QeS) (I:=Qdg) hcs ?_
 rintro ⟨a0,a1,u⟩ y hy
 exact h a0 a1 y hy
theorem QtM : ∀ x ∈ En,Qo Tryz.prog x:=(Ql Qxy Qt)
theorem QvU : Qo Tryz.prog Qau:=QvT QtM fun a0 a1 y hy=>by
 obtain ⟨n,hn⟩:=QdQ (fun n xs s i=>Qk5 n xs s i) hy
 exact ⟨n,(QrN n a0 a1).trans hn⟩
def QdD : Ctr:=⟨6,[Zz,I64],[I64],fun x=>szC Zz x.1 x.2.1⟩
def Qqy : List (List Nat × Ann):=[]
def Qof : List (List Nat × Nat):=[]
def QgG : List Ctr:=[]
def Qqz (n : Nat) (a0 : YB) (a1 : Int) : Option Int:=run Tryz.prog Qqy Qof (Qv QgG) Tryz.f6 (Tryz.f6.body.getD .skip) (Qy [I64]) n (QE [Zz,I64] (a0,a1,()))
theorem QvV (n : Nat) (a0 : YB) (a1 : Int) : Qqz n a0 a1 =
  bif decide (IntKind.wrap .i64 (a1 - (a0.2.2.1.length : Int)) < 0) then
   some (-1)
  else
   bif decide (IntKind.wrap .i64 ((IntKind.wrap .i64 (a1 - (a0.2.2.1.length : Int))) - (a0.2.2.2.length : Int)) < 0) then
    some (-1)
   else
    some (IntKind.wrap .i64 ((IntKind.wrap .i64 (a1 - (a0.2.2.1.length : Int))) - (a0.2.2.2.length : Int))):=by kernel_rfl
theorem Qzp (hcs : ∀ x ∈ QgG,Qo Tryz.prog x) (h : ∀ (a0 : YB) (a1 : Int) y,szC Zz a0 a1 = some y → ∃ n,Qqz n a0 a1 = some y) : Qo Tryz.prog QdD:=by
 refine Qq (c:=QdD) (by kernel_rfl) (by kernel_rfl : Tryz.prog.funcs[6]? = some Tryz.f6) (code:=Tryz.f6.body.getD .skip) (by kernel_rfl) (by kernel_rfl) (by kernel_rfl) (A:=Qqy) (I:=Qof) hcs ?_
 rintro ⟨a0,a1,u⟩ y hy
 exact h a0 a1 y hy
theorem Qxz : ∀ x ∈ QgG,Qo Tryz.prog x:=Qt
theorem Qzq : Qo Tryz.prog QdD:=Qzp Qxz fun a0 a1 y hy=>by
 obtain ⟨hw,h0,h1,rfl⟩:=Qao hy
 have hw2 : wfD I64 a0.1 ∧ wfD I64 a0.2.1 ∧ wfD .str a0.2.2.1 ∧ wfD .str a0.2.2.2:=hw
 have hsz : Ty.size Zz a0 = Ty.size I64 a0.1 + (Ty.size I64 a0.2.1 + (Ty.size .str a0.2.2.1 + (Ty.size .str a0.2.2.2))):=rfl
 have z0 : Ty.size I64 a0.1 = 0:=rfl
 have z1 : Ty.size I64 a0.2.1 = 0:=rfl
 have z2 : Ty.size .str a0.2.2.1 = a0.2.2.1.length:=rfl
 have z3 : Ty.size .str a0.2.2.2 = a0.2.2.2.length:=rfl
 refine ⟨0,?_⟩
 rw [QvV,hsz]
 have hn2 : a0.2.2.1.length ≤ maxLen:=by have:=(hw2.2.2.1).1; unfold maxLen; omega
 rw [Jq (left:=a1) (n:=a0.2.2.1.length) (by omega) (by omega) hn2]
 rcases Int.lt_or_le (a1) (a0.2.2.1.length : Int) with h | h
 ·rw [decide_eq_true (show (a1 - (a0.2.2.1.length : Int)) < 0 by omega)]; simp only [cond_true]; unfold QY; rw [if_neg (by omega)]
 rw [decide_eq_false (show ¬ (a1 - (a0.2.2.1.length : Int)) < 0 by omega)]; simp only [cond_false]
 have h_2:=h; clear h
 have hn3 : a0.2.2.2.length ≤ maxLen:=by have:=(hw2.2.2.2).1; unfold maxLen; omega
 rw [Jq (left:=(a1 - (a0.2.2.1.length : Int))) (n:=a0.2.2.2.length) (by omega) (by omega) hn3]
 rcases Int.lt_or_le ((a1 - (a0.2.2.1.length : Int))) (a0.2.2.2.length : Int) with h | h
 ·rw [decide_eq_true (show ((a1 - (a0.2.2.1.length : Int)) - (a0.2.2.2.length : Int)) < 0 by omega)]; simp only [cond_true]; unfold QY; rw [if_neg (by omega)]
 rw [decide_eq_false (show ¬ ((a1 - (a0.2.2.1.length : Int)) - (a0.2.2.2.length : Int)) < 0 by omega)]; simp only [cond_false]
 have h_3:=h; clear h
 unfold QY; rw [if_pos (by omega)]; congr 1 <;> omega
def Eo : Ctr:=⟨177,[Qw,I64],[I64],fun x=>szC Qw x.1 x.2.1⟩
def QjD : List (List Nat × Ann):=[]
def QhM : List (List Nat × Nat):=[]
def Qb0 : List Ctr:=[QdD]
def QjE (n : Nat) (a0 : QH) (a1 : Int) : Option Int:=run Tryz.prog QjD QhM (Qv Qb0) Tryz.f177 (Tryz.f177.body.getD .skip) (Qy [I64]) n (QE [Qw,I64] (a0,a1,()))
theorem QpD (n : Nat) (a0 : QH) (a1 : Int) : QjE n a0 a1 =
  bif decide (IntKind.wrap .i64 (a1 - (a0.1.length : Int)) < 0) then
   some (-1)
  else
   bif decide (IntKind.wrap .i64 ((IntKind.wrap .i64 (a1 - (a0.1.length : Int))) - (a0.2.2.1.length : Int)) < 0) then
    some (-1)
   else
    Option.bind (szC Zz a0.2.2.2 (IntKind.wrap .i64 ((IntKind.wrap .i64 (a1 - (a0.1.length : Int))) - (a0.2.2.1.length : Int)))) fun (y1 : Int) =>
    bif decide (y1 < 0) then
     some (-1)
    else
     some y1:=by kernel_rfl
theorem QtN (hcs : ∀ x ∈ Qb0,Qo Tryz.prog x) (h : ∀ (a0 : QH) (a1 : Int) y,szC Qw a0 a1 = some y → ∃ n,QjE n a0 a1 = some y) : Qo Tryz.prog Eo:=by
 refine Qq (c:=Eo) (by kernel_rfl) (by kernel_rfl : Tryz.prog.funcs[177]? = some Tryz.f177) (code:=Tryz.f177.body.getD .skip) (by kernel_rfl) (by kernel_rfl) (by kernel_rfl) (A:=QjD) (I:=QhM) hcs ?_
 rintro ⟨a0,a1,u⟩ y hy
 exact h a0 a1 y hy
theorem QrO : ∀ x ∈ Qb0,Qo Tryz.prog x:=(Ql Qzq Qt)
theorem QtO : Qo Tryz.prog Eo:=QtN QrO fun a0 a1 y hy=>by
 obtain ⟨hw,h0,h1,rfl⟩:=Qao hy
 have hw2 : wfD .str a0.1 ∧ wfD I64 a0.2.1 ∧ wfD .str a0.2.2.1 ∧ wfD Zz a0.2.2.2:=hw
 have hsz : Ty.size Qw a0 = Ty.size .str a0.1 + (Ty.size I64 a0.2.1 + (Ty.size .str a0.2.2.1 + (Ty.size Zz a0.2.2.2))):=rfl
 have z1 : Ty.size I64 a0.2.1 = 0:=rfl
 have z0 : Ty.size .str a0.1 = a0.1.length:=rfl
 have z2 : Ty.size .str a0.2.2.1 = a0.2.2.1.length:=rfl
 refine ⟨0,?_⟩
 rw [QpD,hsz]
 have hn0 : a0.1.length ≤ maxLen:=by have:=(hw2.1).1; unfold maxLen; omega
 rw [Jq (left:=a1) (n:=a0.1.length) (by omega) (by omega) hn0]
 rcases Int.lt_or_le (a1) (a0.1.length : Int) with h | h
 ·rw [decide_eq_true (show (a1 - (a0.1.length : Int)) < 0 by omega)]; simp only [cond_true]; unfold QY; rw [if_neg (by omega)]
 rw [decide_eq_false (show ¬ (a1 - (a0.1.length : Int)) < 0 by omega)]; simp only [cond_false]
 have h_0:=h; clear h
 have hn2 : a0.2.2.1.length ≤ maxLen:=by have:=(hw2.2.2.1).1; unfold maxLen; omega
 rw [Jq (left:=(a1 - (a0.1.length : Int))) (n:=a0.2.2.1.length) (by omega) (by omega) hn2]
 rcases Int.lt_or_le ((a1 - (a0.1.length : Int))) (a0.2.2.1.length : Int) with h | h
 ·rw [decide_eq_true (show ((a1 - (a0.1.length : Int)) - (a0.2.2.1.length : Int)) < 0 by omega)]; simp only [cond_true]; unfold QY; rw [if_neg (by omega)]
 rw [decide_eq_false (show ¬ ((a1 - (a0.1.length : Int)) - (a0.2.2.1.length : Int)) < 0 by omega)]; simp only [cond_false]
 have h_2:=h; clear h
 rw [Uv hw2.2.2.2 (show 0 ≤ ((a1 - (a0.1.length : Int)) - (a0.2.2.1.length : Int)) by omega) (by omega)]
 simp only [Option.bind_some]
 rcases Int.lt_or_le (((a1 - (a0.1.length : Int)) - (a0.2.2.1.length : Int))) ((Ty.size Zz a0.2.2.2 : Nat) : Int) with h | h
 ·rw [show QY (((a1 - (a0.1.length : Int)) - (a0.2.2.1.length : Int))) (Ty.size Zz a0.2.2.2) = -1 by unfold QY; rw [if_neg (by omega)]]; rw [decide_eq_true (show (-1 : Int) < 0 by omega)]; simp only [cond_true]; unfold QY; rw [if_neg (by omega)]
 rw [show QY (((a1 - (a0.1.length : Int)) - (a0.2.2.1.length : Int))) (Ty.size Zz a0.2.2.2) = (((a1 - (a0.1.length : Int)) - (a0.2.2.1.length : Int)) - ((Ty.size Zz a0.2.2.2 : Nat) : Int)) by unfold QY; rw [if_pos h]]; rw [decide_eq_false (show ¬ (((a1 - (a0.1.length : Int)) - (a0.2.2.1.length : Int)) - ((Ty.size Zz a0.2.2.2 : Nat) : Int)) < 0 by omega)]; simp only [cond_false]
 have h_3:=h; clear h
 unfold QY; rw [if_pos (by omega)]; congr 1 <;> omega
def Wk : Ctr:=⟨126,[(.list Qw),I64],[I64],fun x=>szC (.list Qw) x.1 x.2.1⟩
def Qb1 : List (List Nat × Ann):=[([0,5],[.keep 0 0,.keep 0 1,.keep 0 5])]
def QaN : List (List Nat × Nat):=[]
def H9 : List Ctr:=[Eo]
def QhN (n : Nat) (a0 : (List QH)) (a1 : Int) : Option Int:=run Tryz.prog Qb1 QaN (Qv H9) Tryz.f126 (Tryz.f126.body.getD .skip) (Qy [I64]) n (QE [(.list Qw),I64] (a0,a1,()))
abbrev UQ (n : Nat) (x1 : (List QH)) (x2 : Int) (x3 : Int) : Option Int:=lam Tryz.prog Qb1 QaN (Qv H9) Tryz.f126 (Tryz.f126.body.getD .skip) (Qy [I64]) n [0,5] [.d (.list Qw) x1,.d I64 x2,.d I64 x3]
theorem Qog (n : Nat) (a0 : (List QH)) (a1 : Int) : QhN n a0 a1 =
  bif decide (IntKind.wrap .i64 (a1 - (a0.length : Int)) < 0) then
   some (-1)
  else
   UQ n a0 (IntKind.wrap .i64 (a1 - (a0.length : Int))) 0:=by kernel_rfl
theorem QiG (n : Nat) (x1 : (List QH)) (x2 : Int) (x3 : Int) : UQ (n + 1) x1 x2 x3 =
  bif decide (x3 < (x1.length : Int)) then
   bif inB x3 x1.length then
    Option.bind (szC Qw (rd x1 x3 (Ty.dflt Qw)) x2) fun (y1 : Int) =>
    bif decide (y1 < 0) then
     some (-1)
    else
     UQ n x1 y1 (IntKind.wrap .i64 (x3 + 1))
   else none
  else
   some x2:=by kernel_rfl
theorem QrP (hcs : ∀ x ∈ H9,Qo Tryz.prog x) (h : ∀ (a0 : (List QH)) (a1 : Int) y,szC (.list Qw) a0 a1 = some y → ∃ n,QhN n a0 a1 = some y) : Qo Tryz.prog Wk:=by
 refine Qq (c:=Wk) (by kernel_rfl) (by kernel_rfl : Tryz.prog.funcs[126]? = some Tryz.f126) (code:=Tryz.f126.body.getD .skip) (by kernel_rfl) (by kernel_rfl) (by kernel_rfl) (A:=Qb1) (I:=QaN) hcs ?_
 rintro ⟨a0,a1,u⟩ y hy
 exact h a0 a1 y hy
theorem QpE : ∀ x ∈ H9,Qo Tryz.prog x:=(Ql QtO Qt)
theorem QrQ : Qo Tryz.prog Wk:=QrP QpE fun a0 a1 y hy=>by
 obtain ⟨n,hn⟩:=QdQ (fun n xs s i=>QiG n xs s i) hy
 exact ⟨n,(Qog n a0 a1).trans hn⟩
def Qav : Ctr:=⟨71,[Qu,I64],[I64],fun x=>szC Qu x.1 x.2.1⟩
def Ql5 : List (List Nat × Ann):=[]
def QjF : List (List Nat × Nat):=[]
def Qdh : List Ctr:=[Qau,Wk]
def Ql6 (n : Nat) (a0 : QC) (a1 : Int) : Option Int:=run Tryz.prog Ql5 QjF (Qv Qdh) Tryz.f71 (Tryz.f71.body.getD .skip) (Qy [I64]) n (QE [Qu,I64] (a0,a1,()))
theorem QrR (n : Nat) (a0 : QC) (a1 : Int) : Ql6 n a0 a1 =
  bif decide (IntKind.wrap .i64 (a1 - (a0.1.length : Int)) < 0) then
   some (-1)
  else
   Option.bind (szC (.list Qz) a0.2.1 (IntKind.wrap .i64 (a1 - (a0.1.length : Int)))) fun (y1 : Int) =>
   bif decide (y1 < 0) then
    some (-1)
   else
    Option.bind (szC (.list Qw) a0.2.2 y1) fun (y2 : Int) =>
    bif decide (y2 < 0) then
     some (-1)
    else
     some y2:=by kernel_rfl
theorem QvW (hcs : ∀ x ∈ Qdh,Qo Tryz.prog x) (h : ∀ (a0 : QC) (a1 : Int) y,szC Qu a0 a1 = some y → ∃ n,Ql6 n a0 a1 = some y) : Qo Tryz.prog Qav:=by
 refine Qq (c:=Qav) (by kernel_rfl) (by kernel_rfl : Tryz.prog.funcs[71]? = some Tryz.f71) (code:=Tryz.f71.body.getD .skip) (by kernel_rfl) (by kernel_rfl) (by kernel_rfl) (A:=Ql5) (I:=QjF) hcs ?_
 rintro ⟨a0,a1,u⟩ y hy
 exact h a0 a1 y hy
theorem QtP : ∀ x ∈ Qdh,Qo Tryz.prog x:=(Ql QvU (Ql QrQ Qt))
theorem QvX : Qo Tryz.prog Qav:=QvW QtP fun a0 a1 y hy=>by
 obtain ⟨hw,h0,h1,rfl⟩:=Qao hy
 have hw2 : wfD .str a0.1 ∧ wfD (.list Qz) a0.2.1 ∧ wfD (.list Qw) a0.2.2:=hw
 have hsz : Ty.size Qu a0 = Ty.size .str a0.1 + (Ty.size (.list Qz) a0.2.1 + (Ty.size (.list Qw) a0.2.2)):=rfl
 have z0 : Ty.size .str a0.1 = a0.1.length:=rfl
 refine ⟨0,?_⟩
 rw [QrR,hsz]
 have hn0 : a0.1.length ≤ maxLen:=by have:=(hw2.1).1; unfold maxLen; omega
 rw [Jq (left:=a1) (n:=a0.1.length) (by omega) (by omega) hn0]
 rcases Int.lt_or_le (a1) (a0.1.length : Int) with h | h
 ·rw [decide_eq_true (show (a1 - (a0.1.length : Int)) < 0 by omega)]; simp only [cond_true]; unfold QY; rw [if_neg (by omega)]
 rw [decide_eq_false (show ¬ (a1 - (a0.1.length : Int)) < 0 by omega)]; simp only [cond_false]
 have h_0:=h; clear h
 rw [Uv hw2.2.1 (show 0 ≤ (a1 - (a0.1.length : Int)) by omega) (by omega)]
 simp only [Option.bind_some]
 rcases Int.lt_or_le ((a1 - (a0.1.length : Int))) ((Ty.size (.list Qz) a0.2.1 : Nat) : Int) with h | h
 ·rw [show QY ((a1 - (a0.1.length : Int))) (Ty.size (.list Qz) a0.2.1) = -1 by unfold QY; rw [if_neg (by omega)]]; rw [decide_eq_true (show (-1 : Int) < 0 by omega)]; simp only [cond_true]; unfold QY; rw [if_neg (by omega)]
 rw [show QY ((a1 - (a0.1.length : Int))) (Ty.size (.list Qz) a0.2.1) = ((a1 - (a0.1.length : Int)) - ((Ty.size (.list Qz) a0.2.1 : Nat) : Int)) by unfold QY; rw [if_pos h]]; rw [decide_eq_false (show ¬ ((a1 - (a0.1.length : Int)) - ((Ty.size (.list Qz) a0.2.1 : Nat) : Int)) < 0 by omega)]; simp only [cond_false]
 have h_1:=h; clear h
 rw [Uv hw2.2.2 (show 0 ≤ ((a1 - (a0.1.length : Int)) - ((Ty.size (.list Qz) a0.2.1 : Nat) : Int)) by omega) (by omega)]
 simp only [Option.bind_some]
 rcases Int.lt_or_le (((a1 - (a0.1.length : Int)) - ((Ty.size (.list Qz) a0.2.1 : Nat) : Int))) ((Ty.size (.list Qw) a0.2.2 : Nat) : Int) with h | h
 ·rw [show QY (((a1 - (a0.1.length : Int)) - ((Ty.size (.list Qz) a0.2.1 : Nat) : Int))) (Ty.size (.list Qw) a0.2.2) = -1 by unfold QY; rw [if_neg (by omega)]]; rw [decide_eq_true (show (-1 : Int) < 0 by omega)]; simp only [cond_true]; unfold QY; rw [if_neg (by omega)]
 rw [show QY (((a1 - (a0.1.length : Int)) - ((Ty.size (.list Qz) a0.2.1 : Nat) : Int))) (Ty.size (.list Qw) a0.2.2) = (((a1 - (a0.1.length : Int)) - ((Ty.size (.list Qz) a0.2.1 : Nat) : Int)) - ((Ty.size (.list Qw) a0.2.2 : Nat) : Int)) by unfold QY; rw [if_pos h]]; rw [decide_eq_false (show ¬ (((a1 - (a0.1.length : Int)) - ((Ty.size (.list Qz) a0.2.1 : Nat) : Int)) - ((Ty.size (.list Qw) a0.2.2 : Nat) : Int)) < 0 by omega)]; simp only [cond_false]
 have h_2:=h; clear h
 unfold QY; rw [if_pos (by omega)]; congr 1 <;> omega
def Ep : Ctr:=⟨38,[(.list Qu),I64],[I64],fun x=>szC (.list Qu) x.1 x.2.1⟩
def Qdi : List (List Nat × Ann):=[([0,5],[.keep 0 0,.keep 0 1,.keep 0 5])]
def Qb2 : List (List Nat × Nat):=[]
def Wl : List Ctr:=[Qav]
def QjG (n : Nat) (a0 : (List QC)) (a1 : Int) : Option Int:=run Tryz.prog Qdi Qb2 (Qv Wl) Tryz.f38 (Tryz.f38.body.getD .skip) (Qy [I64]) n (QE [(.list Qu),I64] (a0,a1,()))
abbrev WV (n : Nat) (x1 : (List QC)) (x2 : Int) (x3 : Int) : Option Int:=lam Tryz.prog Qdi Qb2 (Qv Wl) Tryz.f38 (Tryz.f38.body.getD .skip) (Qy [I64]) n [0,5] [.d (.list Qu) x1,.d I64 x2,.d I64 x3]
theorem QpF (n : Nat) (a0 : (List QC)) (a1 : Int) : QjG n a0 a1 =
  bif decide (IntKind.wrap .i64 (a1 - (a0.length : Int)) < 0) then
   some (-1)
  else
   WV n a0 (IntKind.wrap .i64 (a1 - (a0.length : Int))) 0:=by kernel_rfl
theorem QjH (n : Nat) (x1 : (List QC)) (x2 : Int) (x3 : Int) : WV (n + 1) x1 x2 x3 =
  bif decide (x3 < (x1.length : Int)) then
   bif inB x3 x1.length then
    Option.bind (szC Qu (rd x1 x3 (Ty.dflt Qu)) x2) fun (y1 : Int) =>
    bif decide (y1 < 0) then
     some (-1)
    else
     WV n x1 y1 (IntKind.wrap .i64 (x3 + 1))
   else none
  else
   some x2:=by kernel_rfl
theorem QtQ (hcs : ∀ x ∈ Wl,Qo Tryz.prog x) (h : ∀ (a0 : (List QC)) (a1 : Int) y,szC (.list Qu) a0 a1 = some y → ∃ n,QjG n a0 a1 = some y) : Qo Tryz.prog Ep:=by
 refine Qq (c:=Ep) (by kernel_rfl) (by kernel_rfl : Tryz.prog.funcs[38]? = some Tryz.f38) (code:=Tryz.f38.body.getD .skip) (by kernel_rfl) (by kernel_rfl) (by kernel_rfl) (A:=Qdi) (I:=Qb2) hcs ?_
 rintro ⟨a0,a1,u⟩ y hy
 exact h a0 a1 y hy
theorem QrS : ∀ x ∈ Wl,Qo Tryz.prog x:=(Ql QvX Qt)
theorem QtR : Qo Tryz.prog Ep:=QtQ QrS fun a0 a1 y hy=>by
 obtain ⟨n,hn⟩:=QdQ (fun n xs s i=>QjH n xs s i) hy
 exact ⟨n,(QpF n a0 a1).trans hn⟩
def XZ : Ctr:=⟨210,[Qd,I64],[I64],fun x=>szC Qd x.1 x.2.1⟩
def Qeb : List (List Nat × Ann):=[]
def QcD : List (List Nat × Nat):=[]
def UR : List Ctr:=[]
def Qec (n : Nat) (a0 : Qm) (a1 : Int) : Option Int:=run Tryz.prog Qeb QcD (Qv UR) Tryz.f210 (Tryz.f210.body.getD .skip) (Qy [I64]) n (QE [Qd,I64] (a0,a1,()))
theorem QjI (n : Nat) (a0 : Qm) (a1 : Int) : Qec n a0 a1 =
  bif decide (IntKind.wrap .i64 (a1 - (a0.1.length : Int)) < 0) then
   some (-1)
  else
   bif decide (IntKind.wrap .i64 ((IntKind.wrap .i64 (a1 - (a0.1.length : Int))) - (a0.2.1.length : Int)) < 0) then
    some (-1)
   else
    bif decide (IntKind.wrap .i64 ((IntKind.wrap .i64 ((IntKind.wrap .i64 (a1 - (a0.1.length : Int))) - (a0.2.1.length : Int))) - (a0.2.2.2.length : Int)) < 0) then
     some (-1)
    else
     some (IntKind.wrap .i64 ((IntKind.wrap .i64 ((IntKind.wrap .i64 (a1 - (a0.1.length : Int))) - (a0.2.1.length : Int))) - (a0.2.2.2.length : Int))):=by kernel_rfl
theorem QmC (hcs : ∀ x ∈ UR,Qo Tryz.prog x) (h : ∀ (a0 : Qm) (a1 : Int) y,szC Qd a0 a1 = some y → ∃ n,Qec n a0 a1 = some y) : Qo Tryz.prog XZ:=by
 refine Qq (c:=XZ) (by kernel_rfl) (by kernel_rfl : Tryz.prog.funcs[210]? = some Tryz.f210) (code:=Tryz.f210.body.getD .skip) (by kernel_rfl) (by kernel_rfl) (by kernel_rfl) (A:=Qeb) (I:=QcD) hcs ?_
 rintro ⟨a0,a1,u⟩ y hy
 exact h a0 a1 y hy
theorem Qk6 : ∀ x ∈ UR,Qo Tryz.prog x:=Qt
theorem QmD : Qo Tryz.prog XZ:=QmC Qk6 fun a0 a1 y hy=>by
 obtain ⟨hw,h0,h1,rfl⟩:=Qao hy
 have hw2 : wfD .str a0.1 ∧ wfD .str a0.2.1 ∧ wfD .bool a0.2.2.1 ∧ wfD .str a0.2.2.2:=hw
 have hsz : Ty.size Qd a0 = Ty.size .str a0.1 + (Ty.size .str a0.2.1 + (Ty.size .bool a0.2.2.1 + (Ty.size .str a0.2.2.2))):=rfl
 have z2 : Ty.size .bool a0.2.2.1 = 0:=rfl
 have z0 : Ty.size .str a0.1 = a0.1.length:=rfl
 have z1 : Ty.size .str a0.2.1 = a0.2.1.length:=rfl
 have z3 : Ty.size .str a0.2.2.2 = a0.2.2.2.length:=rfl
 refine ⟨0,?_⟩
 rw [QjI,hsz]
 have hn0 : a0.1.length ≤ maxLen:=by have:=(hw2.1).1; unfold maxLen; omega
 rw [Jq (left:=a1) (n:=a0.1.length) (by omega) (by omega) hn0]
 rcases Int.lt_or_le (a1) (a0.1.length : Int) with h | h
 ·rw [decide_eq_true (show (a1 - (a0.1.length : Int)) < 0 by omega)]; simp only [cond_true]; unfold QY; rw [if_neg (by omega)]
 rw [decide_eq_false (show ¬ (a1 - (a0.1.length : Int)) < 0 by omega)]; simp only [cond_false]
 have h_0:=h; clear h
 have hn1 : a0.2.1.length ≤ maxLen:=by have:=(hw2.2.1).1; unfold maxLen; omega
 rw [Jq (left:=(a1 - (a0.1.length : Int))) (n:=a0.2.1.length) (by omega) (by omega) hn1]
 rcases Int.lt_or_le ((a1 - (a0.1.length : Int))) (a0.2.1.length : Int) with h | h
 ·rw [decide_eq_true (show ((a1 - (a0.1.length : Int)) - (a0.2.1.length : Int)) < 0 by omega)]; simp only [cond_true]; unfold QY; rw [if_neg (by omega)]
 rw [decide_eq_false (show ¬ ((a1 - (a0.1.length : Int)) - (a0.2.1.length : Int)) < 0 by omega)]; simp only [cond_false]
 have h_1:=h; clear h
 have hn3 : a0.2.2.2.length ≤ maxLen:=by have:=(hw2.2.2.2).1; unfold maxLen; omega
 rw [Jq (left:=((a1 - (a0.1.length : Int)) - (a0.2.1.length : Int))) (n:=a0.2.2.2.length) (by omega) (by omega) hn3]
 rcases Int.lt_or_le (((a1 - (a0.1.length : Int)) - (a0.2.1.length : Int))) (a0.2.2.2.length : Int) with h | h
 ·rw [decide_eq_true (show (((a1 - (a0.1.length : Int)) - (a0.2.1.length : Int)) - (a0.2.2.2.length : Int)) < 0 by omega)]; simp only [cond_true]; unfold QY; rw [if_neg (by omega)]
 rw [decide_eq_false (show ¬ (((a1 - (a0.1.length : Int)) - (a0.2.1.length : Int)) - (a0.2.2.2.length : Int)) < 0 by omega)]; simp only [cond_false]
 have h_3:=h; clear h
 unfold QY; rw [if_pos (by omega)]; congr 1 <;> omega
def Xp : Ctr:=⟨203,[(.list Qd),I64],[I64],fun x=>szC (.list Qd) x.1 x.2.1⟩
def US : List (List Nat × Ann):=[([0,5],[.keep 0 0,.keep 0 1,.keep 0 5])]
def Ua : List (List Nat × Nat):=[]
def GP : List Ctr:=[XZ]
def QcE (n : Nat) (a0 : (List Qm)) (a1 : Int) : Option Int:=run Tryz.prog US Ua (Qv GP) Tryz.f203 (Tryz.f203.body.getD .skip) (Qy [I64]) n (QE [(.list Qd),I64] (a0,a1,()))
abbrev XB (n : Nat) (x1 : (List Qm)) (x2 : Int) (x3 : Int) : Option Int:=lam Tryz.prog US Ua (Qv GP) Tryz.f203 (Tryz.f203.body.getD .skip) (Qy [I64]) n [0,5] [.d (.list Qd) x1,.d I64 x2,.d I64 x3]
theorem QiH (n : Nat) (a0 : (List Qm)) (a1 : Int) : QcE n a0 a1 =
  bif decide (IntKind.wrap .i64 (a1 - (a0.length : Int)) < 0) then
   some (-1)
  else
   XB n a0 (IntKind.wrap .i64 (a1 - (a0.length : Int))) 0:=by kernel_rfl
theorem QeT (n : Nat) (x1 : (List Qm)) (x2 : Int) (x3 : Int) : XB (n + 1) x1 x2 x3 =
  bif decide (x3 < (x1.length : Int)) then
   bif inB x3 x1.length then
    Option.bind (szC Qd (rd x1 x3 (Ty.dflt Qd)) x2) fun (y1 : Int) =>
    bif decide (y1 < 0) then
     some (-1)
    else
     XB n x1 y1 (IntKind.wrap .i64 (x3 + 1))
   else none
  else
   some x2:=by kernel_rfl
theorem Qk7 (hcs : ∀ x ∈ GP,Qo Tryz.prog x) (h : ∀ (a0 : (List Qm)) (a1 : Int) y,szC (.list Qd) a0 a1 = some y → ∃ n,QcE n a0 a1 = some y) : Qo Tryz.prog Xp:=by
 refine Qq (c:=Xp) (by kernel_rfl) (by kernel_rfl : Tryz.prog.funcs[203]? = some Tryz.f203) (code:=Tryz.f203.body.getD .skip) (by kernel_rfl) (by kernel_rfl) (by kernel_rfl) (A:=US) (I:=Ua) hcs ?_
 rintro ⟨a0,a1,u⟩ y hy
 exact h a0 a1 y hy
theorem QjJ : ∀ x ∈ GP,Qo Tryz.prog x:=(Ql QmD Qt)
theorem Qk8 : Qo Tryz.prog Xp:=Qk7 QjJ fun a0 a1 y hy=>by
 obtain ⟨n,hn⟩:=QdQ (fun n xs s i=>QeT n xs s i) hy
 exact ⟨n,(QiH n a0 a1).trans hn⟩
def Wm : Ctr:=⟨178,[Qj,I64],[I64],fun x=>szC Qj x.1 x.2.1⟩
def QhO : List (List Nat × Ann):=[]
def QgH : List (List Nat × Nat):=[]
def QaO : List Ctr:=[Xp]
def QhP (n : Nat) (a0 : Qf) (a1 : Int) : Option Int:=run Tryz.prog QhO QgH (Qv QaO) Tryz.f178 (Tryz.f178.body.getD .skip) (Qy [I64]) n (QE [Qj,I64] (a0,a1,()))
theorem Qoh (n : Nat) (a0 : Qf) (a1 : Int) : QhP n a0 a1 =
  bif decide (IntKind.wrap .i64 (a1 - (a0.1.length : Int)) < 0) then
   some (-1)
  else
   Option.bind (szC (.list Qd) a0.2 (IntKind.wrap .i64 (a1 - (a0.1.length : Int)))) fun (y1 : Int) =>
   bif decide (y1 < 0) then
    some (-1)
   else
    some y1:=by kernel_rfl
theorem QrT (hcs : ∀ x ∈ QaO,Qo Tryz.prog x) (h : ∀ (a0 : Qf) (a1 : Int) y,szC Qj a0 a1 = some y → ∃ n,QhP n a0 a1 = some y) : Qo Tryz.prog Wm:=by
 refine Qq (c:=Wm) (by kernel_rfl) (by kernel_rfl : Tryz.prog.funcs[178]? = some Tryz.f178) (code:=Tryz.f178.body.getD .skip) (by kernel_rfl) (by kernel_rfl) (by kernel_rfl) (A:=QhO) (I:=QgH) hcs ?_
 rintro ⟨a0,a1,u⟩ y hy
 exact h a0 a1 y hy
theorem QpG : ∀ x ∈ QaO,Qo Tryz.prog x:=(Ql Qk8 Qt)
theorem QrU : Qo Tryz.prog Wm:=QrT QpG fun a0 a1 y hy=>by
 obtain ⟨hw,h0,h1,rfl⟩:=Qao hy
 have hw2 : wfD .str a0.1 ∧ wfD (.list Qd) a0.2:=hw
 have hsz : Ty.size Qj a0 = Ty.size .str a0.1 + (Ty.size (.list Qd) a0.2):=rfl
 have z0 : Ty.size .str a0.1 = a0.1.length:=rfl
 refine ⟨0,?_⟩
 rw [Qoh,hsz]
 have hn0 : a0.1.length ≤ maxLen:=by have:=(hw2.1).1; unfold maxLen; omega
 rw [Jq (left:=a1) (n:=a0.1.length) (by omega) (by omega) hn0]
 rcases Int.lt_or_le (a1) (a0.1.length : Int) with h | h
 ·rw [decide_eq_true (show (a1 - (a0.1.length : Int)) < 0 by omega)]; simp only [cond_true]; unfold QY; rw [if_neg (by omega)]
 rw [decide_eq_false (show ¬ (a1 - (a0.1.length : Int)) < 0 by omega)]; simp only [cond_false]
 have h_0:=h; clear h
 rw [Uv hw2.2 (show 0 ≤ (a1 - (a0.1.length : Int)) by omega) (by omega)]
 simp only [Option.bind_some]
 rcases Int.lt_or_le ((a1 - (a0.1.length : Int))) ((Ty.size (.list Qd) a0.2 : Nat) : Int) with h | h
 ·rw [show QY ((a1 - (a0.1.length : Int))) (Ty.size (.list Qd) a0.2) = -1 by unfold QY; rw [if_neg (by omega)]]; rw [decide_eq_true (show (-1 : Int) < 0 by omega)]; simp only [cond_true]; unfold QY; rw [if_neg (by omega)]
 rw [show QY ((a1 - (a0.1.length : Int))) (Ty.size (.list Qd) a0.2) = ((a1 - (a0.1.length : Int)) - ((Ty.size (.list Qd) a0.2 : Nat) : Int)) by unfold QY; rw [if_pos h]]; rw [decide_eq_false (show ¬ ((a1 - (a0.1.length : Int)) - ((Ty.size (.list Qd) a0.2 : Nat) : Int)) < 0 by omega)]; simp only [cond_false]
 have h_1:=h; clear h
 unfold QY; rw [if_pos (by omega)]; congr 1 <;> omega
def Ub : Ctr:=⟨127,[(.list Qj),I64],[I64],fun x=>szC (.list Qj) x.1 x.2.1⟩
def QaP : List (List Nat × Ann):=[([0,5],[.keep 0 0,.keep 0 1,.keep 0 5])]
def EW : List (List Nat × Nat):=[]
def Ho : List Ctr:=[Wm]
def QgI (n : Nat) (a0 : (List Qf)) (a1 : Int) : Option Int:=run Tryz.prog QaP EW (Qv Ho) Tryz.f127 (Tryz.f127.body.getD .skip) (Qy [I64]) n (QE [(.list Qj),I64] (a0,a1,()))
abbrev Uc (n : Nat) (x1 : (List Qf)) (x2 : Int) (x3 : Int) : Option Int:=lam Tryz.prog QaP EW (Qv Ho) Tryz.f127 (Tryz.f127.body.getD .skip) (Qy [I64]) n [0,5] [.d (.list Qj) x1,.d I64 x2,.d I64 x3]
theorem QmE (n : Nat) (a0 : (List Qf)) (a1 : Int) : QgI n a0 a1 =
  bif decide (IntKind.wrap .i64 (a1 - (a0.length : Int)) < 0) then
   some (-1)
  else
   Uc n a0 (IntKind.wrap .i64 (a1 - (a0.length : Int))) 0:=by kernel_rfl
theorem Qhj (n : Nat) (x1 : (List Qf)) (x2 : Int) (x3 : Int) : Uc (n + 1) x1 x2 x3 =
  bif decide (x3 < (x1.length : Int)) then
   bif inB x3 x1.length then
    Option.bind (szC Qj (rd x1 x3 (Ty.dflt Qj)) x2) fun (y1 : Int) =>
    bif decide (y1 < 0) then
     some (-1)
    else
     Uc n x1 y1 (IntKind.wrap .i64 (x3 + 1))
   else none
  else
   some x2:=by kernel_rfl
theorem QpH (hcs : ∀ x ∈ Ho,Qo Tryz.prog x) (h : ∀ (a0 : (List Qf)) (a1 : Int) y,szC (.list Qj) a0 a1 = some y → ∃ n,QgI n a0 a1 = some y) : Qo Tryz.prog Ub:=by
 refine Qq (c:=Ub) (by kernel_rfl) (by kernel_rfl : Tryz.prog.funcs[127]? = some Tryz.f127) (code:=Tryz.f127.body.getD .skip) (by kernel_rfl) (by kernel_rfl) (by kernel_rfl) (A:=QaP) (I:=EW) hcs ?_
 rintro ⟨a0,a1,u⟩ y hy
 exact h a0 a1 y hy
theorem Qoi : ∀ x ∈ Ho,Qo Tryz.prog x:=(Ql QrU Qt)
theorem QpI : Qo Tryz.prog Ub:=QpH Qoi fun a0 a1 y hy=>by
 obtain ⟨n,hn⟩:=QdQ (fun n xs s i=>Qhj n xs s i) hy
 exact ⟨n,(QmE n a0 a1).trans hn⟩
def Eq : Ctr:=⟨211,[Qg,I64],[I64],fun x=>szC Qg x.1 x.2.1⟩
def QjK : List (List Nat × Ann):=[]
def QhQ : List (List Nat × Nat):=[]
def Qb3 : List Ctr:=[]
def QjL (n : Nat) (a0 : Qp) (a1 : Int) : Option Int:=run Tryz.prog QjK QhQ (Qv Qb3) Tryz.f211 (Tryz.f211.body.getD .skip) (Qy [I64]) n (QE [Qg,I64] (a0,a1,()))
theorem QpJ (n : Nat) (a0 : Qp) (a1 : Int) : QjL n a0 a1 =
  bif decide (IntKind.wrap .i64 (a1 - (a0.2.1.length : Int)) < 0) then
   some (-1)
  else
   bif decide (IntKind.wrap .i64 ((IntKind.wrap .i64 (a1 - (a0.2.1.length : Int))) - (a0.2.2.length : Int)) < 0) then
    some (-1)
   else
    some (IntKind.wrap .i64 ((IntKind.wrap .i64 (a1 - (a0.2.1.length : Int))) - (a0.2.2.length : Int))):=by kernel_rfl
theorem QtS (hcs : ∀ x ∈ Qb3,Qo Tryz.prog x) (h : ∀ (a0 : Qp) (a1 : Int) y,szC Qg a0 a1 = some y → ∃ n,QjL n a0 a1 = some y) : Qo Tryz.prog Eq:=by
 refine Qq (c:=Eq) (by kernel_rfl) (by kernel_rfl : Tryz.prog.funcs[211]? = some Tryz.f211) (code:=Tryz.f211.body.getD .skip) (by kernel_rfl) (by kernel_rfl) (by kernel_rfl) (A:=QjK) (I:=QhQ) hcs ?_
 rintro ⟨a0,a1,u⟩ y hy
 exact h a0 a1 y hy
theorem QrV : ∀ x ∈ Qb3,Qo Tryz.prog x:=Qt
theorem QtT : Qo Tryz.prog Eq:=QtS QrV fun a0 a1 y hy=>by
 obtain ⟨hw,h0,h1,rfl⟩:=Qao hy
 have hw2 : wfD I64 a0.1 ∧ wfD .str a0.2.1 ∧ wfD .str a0.2.2:=hw
 have hsz : Ty.size Qg a0 = Ty.size I64 a0.1 + (Ty.size .str a0.2.1 + (Ty.size .str a0.2.2)):=rfl
 have z0 : Ty.size I64 a0.1 = 0:=rfl
 have z1 : Ty.size .str a0.2.1 = a0.2.1.length:=rfl
 have z2 : Ty.size .str a0.2.2 = a0.2.2.length:=rfl
 refine ⟨0,?_⟩
 rw [QpJ,hsz]
 have hn1 : a0.2.1.length ≤ maxLen:=by have:=(hw2.2.1).1; unfold maxLen; omega
 rw [Jq (left:=a1) (n:=a0.2.1.length) (by omega) (by omega) hn1]
 rcases Int.lt_or_le (a1) (a0.2.1.length : Int) with h | h
 ·rw [decide_eq_true (show (a1 - (a0.2.1.length : Int)) < 0 by omega)]; simp only [cond_true]; unfold QY; rw [if_neg (by omega)]
 rw [decide_eq_false (show ¬ (a1 - (a0.2.1.length : Int)) < 0 by omega)]; simp only [cond_false]
 have h_1:=h; clear h
 have hn2 : a0.2.2.length ≤ maxLen:=by have:=(hw2.2.2).1; unfold maxLen; omega
 rw [Jq (left:=(a1 - (a0.2.1.length : Int))) (n:=a0.2.2.length) (by omega) (by omega) hn2]
 rcases Int.lt_or_le ((a1 - (a0.2.1.length : Int))) (a0.2.2.length : Int) with h | h
 ·rw [decide_eq_true (show ((a1 - (a0.2.1.length : Int)) - (a0.2.2.length : Int)) < 0 by omega)]; simp only [cond_true]; unfold QY; rw [if_neg (by omega)]
 rw [decide_eq_false (show ¬ ((a1 - (a0.2.1.length : Int)) - (a0.2.2.length : Int)) < 0 by omega)]; simp only [cond_false]
 have h_2:=h; clear h
 unfold QY; rw [if_pos (by omega)]; congr 1 <;> omega
def Wn : Ctr:=⟨204,[(.list Qg),I64],[I64],fun x=>szC (.list Qg) x.1 x.2.1⟩
def Qb4 : List (List Nat × Ann):=[([0,5],[.keep 0 0,.keep 0 1,.keep 0 5])]
def QaQ : List (List Nat × Nat):=[]
def Ud : List Ctr:=[Eq]
def QhR (n : Nat) (a0 : (List Qp)) (a1 : Int) : Option Int:=run Tryz.prog Qb4 QaQ (Qv Ud) Tryz.f204 (Tryz.f204.body.getD .skip) (Qy [I64]) n (QE [(.list Qg),I64] (a0,a1,()))
abbrev UT (n : Nat) (x1 : (List Qp)) (x2 : Int) (x3 : Int) : Option Int:=lam Tryz.prog Qb4 QaQ (Qv Ud) Tryz.f204 (Tryz.f204.body.getD .skip) (Qy [I64]) n [0,5] [.d (.list Qg) x1,.d I64 x2,.d I64 x3]
theorem Qoj (n : Nat) (a0 : (List Qp)) (a1 : Int) : QhR n a0 a1 =
  bif decide (IntKind.wrap .i64 (a1 - (a0.length : Int)) < 0) then
   some (-1)
  else
   UT n a0 (IntKind.wrap .i64 (a1 - (a0.length : Int))) 0:=by kernel_rfl
theorem QiI (n : Nat) (x1 : (List Qp)) (x2 : Int) (x3 : Int) : UT (n + 1) x1 x2 x3 =
  bif decide (x3 < (x1.length : Int)) then
   bif inB x3 x1.length then
    Option.bind (szC Qg (rd x1 x3 (Ty.dflt Qg)) x2) fun (y1 : Int) =>
    bif decide (y1 < 0) then
     some (-1)
    else
     UT n x1 y1 (IntKind.wrap .i64 (x3 + 1))
   else none
  else
   some x2:=by kernel_rfl
theorem QrW (hcs : ∀ x ∈ Ud,Qo Tryz.prog x) (h : ∀ (a0 : (List Qp)) (a1 : Int) y,szC (.list Qg) a0 a1 = some y → ∃ n,QhR n a0 a1 = some y) : Qo Tryz.prog Wn:=by
 refine Qq (c:=Wn) (by kernel_rfl) (by kernel_rfl : Tryz.prog.funcs[204]? = some Tryz.f204) (code:=Tryz.f204.body.getD .skip) (by kernel_rfl) (by kernel_rfl) (by kernel_rfl) (A:=Qb4) (I:=QaQ) hcs ?_
 rintro ⟨a0,a1,u⟩ y hy
 exact h a0 a1 y hy
theorem QpK : ∀ x ∈ Ud,Qo Tryz.prog x:=(Ql QtT Qt)
theorem QrX : Qo Tryz.prog Wn:=QrW QpK fun a0 a1 y hy=>by
 obtain ⟨n,hn⟩:=QdQ (fun n xs s i=>QiI n xs s i) hy
 exact ⟨n,(Qoj n a0 a1).trans hn⟩
def Hp : Ctr:=⟨179,[Qh,I64],[I64],fun x=>szC Qh x.1 x.2.1⟩
def Qfh : List (List Nat × Ann):=[]
def Qed : List (List Nat × Nat):=[]
def WW : List Ctr:=[Wn]
def Qfi (n : Nat) (a0 : Qc) (a1 : Int) : Option Int:=run Tryz.prog Qfh Qed (Qv WW) Tryz.f179 (Tryz.f179.body.getD .skip) (Qy [I64]) n (QE [Qh,I64] (a0,a1,()))
theorem Qk9 (n : Nat) (a0 : Qc) (a1 : Int) : Qfi n a0 a1 =
  bif decide (IntKind.wrap .i64 (a1 - (a0.1.length : Int)) < 0) then
   some (-1)
  else
   Option.bind (szC (.list Qg) a0.2 (IntKind.wrap .i64 (a1 - (a0.1.length : Int)))) fun (y1 : Int) =>
   bif decide (y1 < 0) then
    some (-1)
   else
    some y1:=by kernel_rfl
theorem Qok (hcs : ∀ x ∈ WW,Qo Tryz.prog x) (h : ∀ (a0 : Qc) (a1 : Int) y,szC Qh a0 a1 = some y → ∃ n,Qfi n a0 a1 = some y) : Qo Tryz.prog Hp:=by
 refine Qq (c:=Hp) (by kernel_rfl) (by kernel_rfl : Tryz.prog.funcs[179]? = some Tryz.f179) (code:=Tryz.f179.body.getD .skip) (by kernel_rfl) (by kernel_rfl) (by kernel_rfl) (A:=Qfh) (I:=Qed) hcs ?_
 rintro ⟨a0,a1,u⟩ y hy
 exact h a0 a1 y hy
theorem QmF : ∀ x ∈ WW,Qo Tryz.prog x:=(Ql QrX Qt)
theorem Qol : Qo Tryz.prog Hp:=Qok QmF fun a0 a1 y hy=>by
 obtain ⟨hw,h0,h1,rfl⟩:=Qao hy
 have hw2 : wfD .str a0.1 ∧ wfD (.list Qg) a0.2:=hw
 have hsz : Ty.size Qh a0 = Ty.size .str a0.1 + (Ty.size (.list Qg) a0.2):=rfl
 have z0 : Ty.size .str a0.1 = a0.1.length:=rfl
 refine ⟨0,?_⟩
 rw [Qk9,hsz]
 have hn0 : a0.1.length ≤ maxLen:=by have:=(hw2.1).1; unfold maxLen; omega
 rw [Jq (left:=a1) (n:=a0.1.length) (by omega) (by omega) hn0]
 rcases Int.lt_or_le (a1) (a0.1.length : Int) with h | h
 ·rw [decide_eq_true (show (a1 - (a0.1.length : Int)) < 0 by omega)]; simp only [cond_true]; unfold QY; rw [if_neg (by omega)]
 rw [decide_eq_false (show ¬ (a1 - (a0.1.length : Int)) < 0 by omega)]; simp only [cond_false]
 have h_0:=h; clear h
 rw [Uv hw2.2 (show 0 ≤ (a1 - (a0.1.length : Int)) by omega) (by omega)]
 simp only [Option.bind_some]
 rcases Int.lt_or_le ((a1 - (a0.1.length : Int))) ((Ty.size (.list Qg) a0.2 : Nat) : Int) with h | h
 ·rw [show QY ((a1 - (a0.1.length : Int))) (Ty.size (.list Qg) a0.2) = -1 by unfold QY; rw [if_neg (by omega)]]; rw [decide_eq_true (show (-1 : Int) < 0 by omega)]; simp only [cond_true]; unfold QY; rw [if_neg (by omega)]
 rw [show QY ((a1 - (a0.1.length : Int))) (Ty.size (.list Qg) a0.2) = ((a1 - (a0.1.length : Int)) - ((Ty.size (.list Qg) a0.2 : Nat) : Int)) by unfold QY; rw [if_pos h]]; rw [decide_eq_false (show ¬ ((a1 - (a0.1.length : Int)) - ((Ty.size (.list Qg) a0.2 : Nat) : Int)) < 0 by omega)]; simp only [cond_false]
 have h_1:=h; clear h
 unfold QY; rw [if_pos (by omega)]; congr 1 <;> omega
end
end Go.Ab
