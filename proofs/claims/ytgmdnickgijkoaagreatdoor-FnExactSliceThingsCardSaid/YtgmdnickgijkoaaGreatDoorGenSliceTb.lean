import Derived.Test.YtgmdnickgijkoaaGreatDoorGenSliceTa
import Derived.Test.YtgmdnickgijkoaaGreatDoorProg
import Derived.KernelRfl
namespace Go.Ab
noncomputable section
open Go.Proofs
set_option maxRecDepth 20000
def Zk (x1 : (List Qb)) : List Qb → Nat → Option Bool
 | [],k =>
   some true
 | e :: rest,k =>
   Option.bind (Zp (e)) fun (y1 : Bool) =>
   bif !(y1) then
    some false
   else
    bif decide ((0 : Int) < (k : Int)) then
     bif inB (IntKind.wrap .i64 ((k : Int) - 1)) x1.length then
      Option.bind (YY (rd x1 (IntKind.wrap .i64 ((k : Int) - 1)) (Ty.dflt Qa)) (e)) fun (y2 : Int) =>
      bif decide ((0 : Int) ≤ y2) then
       some false
      else
       Zk x1 rest (k + 1)
     else none
    else
     Zk x1 rest (k + 1)
def Jb (a0 : (List Qb)) : Option Bool :=
 Zu a0 (Zk a0 a0 0)
def XX : Ctr:=⟨107,[(.list Qa)],[.bool],fun x=>Jb x.1⟩
def W2 : List (List Nat × Ann):=[([0,2],[.keep 0 0,.keep 0 5,.keep 0 6,.keep 0 7])]
def UR : List (List Nat × Nat):=[]
def US : List Ctr:=[Xm,EM]
def QfD (n : Nat) (a0 : (List Qb)) : Option Bool:=run Tryz.prog W2 UR (Qn US) Tryz.f107 (Tryz.f107.body.getD .skip) (Qp [.bool]) n (Qt [(.list Qa)] (a0,()))
abbrev J9 (n : Nat) (x1 : (List Qb)) (x2 : (List Qb)) (x3 : Int) (x4 : Int) : Option Bool:=lam Tryz.prog W2 UR (Qn US) Tryz.f107 (Tryz.f107.body.getD .skip) (Qp [.bool]) n [0,2] [.d (.list Qa) x1,.d (.list Qa) x2,.d I64 x3,.d I64 x4]
theorem QlF (n : Nat) (a0 : (List Qb)) : QfD n a0 =
  J9 n a0 a0 (a0.length : Int) 0:=by kernel_rfl
theorem UT (n : Nat) (x1 : (List Qb)) (x2 : (List Qb)) (x3 : Int) (x4 : Int) : J9 (n + 1) x1 x2 x3 x4 =
  bif decide (x4 < x3) then
   bif inB x4 x2.length then
    Option.bind (Zp (rd x2 x4 (Ty.dflt Qa))) fun (y1 : Bool) =>
    bif !(y1) then
     some false
    else
     bif decide ((0 : Int) < x4) then
      bif inB (IntKind.wrap .i64 (x4 - 1)) x1.length then
       Option.bind (YY (rd x1 (IntKind.wrap .i64 (x4 - 1)) (Ty.dflt Qa)) (rd x2 x4 (Ty.dflt Qa))) fun (y2 : Int) =>
       bif decide ((0 : Int) ≤ y2) then
        some false
       else
        J9 n x1 x2 x3 (IntKind.wrap .i64 (x4 + 1))
      else none
     else
      J9 n x1 x2 x3 (IntKind.wrap .i64 (x4 + 1))
   else none
  else
   some true:=by kernel_rfl
theorem QjX {x1 : (List Qb)} (hl : x1.length ≤ maxLen) : ∀ (rest : List Qb) (k : Nat) (r : Bool),rest = x1.drop k → Zk x1 rest k = some r → Ev (fun n=>J9 n x1 x1 (x1.length : Int) (k : Int)) r:=by
 intro rest
 induction rest with
 | nil =>
  intro k r hr h
  have hk:=QH hr
  rw [Zk] at h
  refine Ev.step ?_ (fun n=>UT n x1 x1 (x1.length : Int) (k : Int))
  rw [show decide ((k : Int) < (x1.length : Int)) = false from decide_eq_false (by omega)]
  exact Ev.neg rfl (Ev.ofSome h)
 | cons e rest ih =>
  intro k r hr h
  obtain ⟨hk,hx,hr2⟩:=Qz (d:=(Ty.dflt Qa)) hr
  have hw:=Qy hl hk
  have ih2 : ∀ (r : Bool),Zk x1 rest (k + 1) = some r → Ev (fun n=>J9 n x1 x1 (x1.length : Int) (IntKind.wrap .i64 ((k : Int) + 1))) r:=by
   intro r h; rw [hw]; exact ih (k + 1) r hr2 h
  rw [Zk] at h
  refine Ev.step ?_ (fun n=>UT n x1 x1 (x1.length : Int) (k : Int))
  rw [show decide ((k : Int) < (x1.length : Int)) = true from decide_eq_true (by omega),Qx hk,hx]
  exact Ev.pos rfl (Ev.pos rfl (Ev.ofBind h fun y1 h=>(Ev.ofBif h (fun h=>(Ev.ofSome h)) (fun h=>(Ev.ofBif h (fun h=>(Ev.ofBif h (fun h=>(Ev.ofBind h fun y2 h=>(Ev.ofBif h (fun h=>(Ev.ofSome h)) (fun h=>(ih2  _ h))))) (fun h=>(Ev.ofNone h)))) (fun h=>(ih2  _ h)))))))
theorem QqX (a0 : (List Qb)) {r : Bool} (h : Jb a0 = some r) : Ev (fun n=>QfD n a0) r:=by
 rw [Jb] at h
 refine Ev.of_eq ?_ (fun n=>QlF n a0)
 exact (Ev.ofLen h fun hl h=>QjX hl _ (0 : Nat) _ rfl h)
theorem QnK : ∀ x ∈ US,Qh Tryz.prog x:=(Qd Wt (Qd QjW Qk))
theorem Qel : Qh Tryz.prog (XX):=by
 refine Qj (c:=XX) (by kernel_rfl) (by kernel_rfl : Tryz.prog.funcs[107]? = some Tryz.f107) (code:=Tryz.f107.body.getD .skip) (by kernel_rfl) (by kernel_rfl) (by kernel_rfl) (A:=W2) (I:=UR) (QnK) ?_
 rintro ⟨a0,u⟩ y hy
 exact (QqX a0 hy).get
def Q3 : List Qb → Nat → Option Bool
 | [],k =>
   some true
 | e :: rest,k =>
   bif !decide ((e).1 = 4) then
    some (!decide ((0 : Int) ≤ (k : Int)))
   else
    Q3 rest (k + 1)
def Yq (a0 : (List Qb)) (a1 : Int) : Option Bool :=
 bif decide ((a0.length : Int) ≤ a1) then
  Option.bind (Jb a0) fun (y1 : Bool) =>
  bif y1 then
   Zu a0 (Q3 a0 0)
  else
   some false
 else
  some false
def Qdb : Ctr:=⟨77,[(.list Qa),I64],[.bool],fun x=>Yq x.1 x.2.1⟩
def Qdc : List (List Nat × Ann):=[([0,2,1002,1010],[.keep 0 13,.keep 2 0,.keep 2 1,.keep 2 7,.keep 2 8])]
def Qbv : List (List Nat × Nat):=[([1010],108),([1002,1010],132),([4005,1002,1010],109)]
def Qbw : List Ctr:=[XX]
def QjY (n : Nat) (a0 : (List Qb)) (a1 : Int) : Option Bool:=run Tryz.prog Qdc Qbv (Qn Qbw) Tryz.f77 (Tryz.f77.body.getD .skip) (Qp [.bool]) n (Qt [(.list Qa),I64] (a0,a1,()))
abbrev Jg (n : Nat) (x1 : Bool) (x2 : (List Qb)) (x3 : Int) (x4 : Int) : Option Bool:=lam Tryz.prog Qdc Qbv (Qn Qbw) Tryz.f77 (Tryz.f77.body.getD .skip) (Qp [.bool]) n [0,2,1002,1010] [.d .bool x1,.d (.list Qa) x2,.fn 109 [],.d I64 x3,.d I64 x4]
theorem QqY (n : Nat) (a0 : (List Qb)) (a1 : Int) : QjY n a0 a1 =
  bif decide ((a0.length : Int) ≤ a1) then
   Option.bind (Jb a0) fun (y1 : Bool) =>
   bif y1 then
    Jg n true a0 (a0.length : Int) 0
   else
    some false
  else
   some false:=by kernel_rfl
theorem Xc (n : Nat) (x1 : Bool) (x2 : (List Qb)) (x3 : Int) (x4 : Int) : Jg (n + 1) x1 x2 x3 x4 =
  bif decide (x4 < x3) then
   bif inB x4 x2.length then
    bif !decide ((rd x2 x4 (Ty.dflt Qa)).1 = 4) then
     bif x1 then
      some (!decide ((0 : Int) ≤ x4))
     else
      some false
    else
     Jg n x1 x2 x3 (IntKind.wrap .i64 (x4 + 1))
   else none
  else
   bif x1 then
    some true
   else
    some false:=by kernel_rfl
theorem Qdd {x2 : (List Qb)} (hl : x2.length ≤ maxLen) : ∀ (rest : List Qb) (k : Nat) (r : Bool),rest = x2.drop k → Q3 rest k = some r → Ev (fun n=>Jg n true x2 (x2.length : Int) (k : Int)) r:=by
 intro rest
 induction rest with
 | nil =>
  intro k r hr h
  have hk:=QH hr
  rw [Q3] at h
  refine Ev.step ?_ (fun n=>Xc n true x2 (x2.length : Int) (k : Int))
  rw [show decide ((k : Int) < (x2.length : Int)) = false from decide_eq_false (by omega)]
  exact Ev.neg rfl (Ev.pos rfl (Ev.ofSome h))
 | cons e rest ih =>
  intro k r hr h
  obtain ⟨hk,hx,hr2⟩:=Qz (d:=(Ty.dflt Qa)) hr
  have hw:=Qy hl hk
  have ih2 : ∀ (r : Bool),Q3 rest (k + 1) = some r → Ev (fun n=>Jg n true x2 (x2.length : Int) (IntKind.wrap .i64 ((k : Int) + 1))) r:=by
   intro r h; rw [hw]; exact ih (k + 1) r hr2 h
  rw [Q3] at h
  refine Ev.step ?_ (fun n=>Xc n true x2 (x2.length : Int) (k : Int))
  rw [show decide ((k : Int) < (x2.length : Int)) = true from decide_eq_true (by omega),Qx hk,hx]
  exact Ev.pos rfl (Ev.pos rfl (Ev.ofBif h (fun h=>(Ev.pos rfl (Ev.ofSome h))) (fun h=>(ih2  _ h))))
theorem QxB (a0 : (List Qb)) (a1 : Int) {r : Bool} (h : Yq a0 a1 = some r) : Ev (fun n=>QjY n a0 a1) r:=by
 rw [Yq] at h
 refine Ev.of_eq ?_ (fun n=>QqY n a0 a1)
 exact (Ev.ofBif h (fun h=>(Ev.ofBind h fun y1 h=>(Ev.ofBif h (fun h=>(Ev.ofLen h fun hl h=>Qdd hl _ (0 : Nat) _ rfl h)) (fun h=>(Ev.ofSome h))))) (fun h=>(Ev.ofSome h)))
theorem Qte : ∀ x ∈ Qbw,Qh Tryz.prog x:=(Qd Qel Qk)
theorem Qvi : Qh Tryz.prog (Qdb):=by
 refine Qj (c:=Qdb) (by kernel_rfl) (by kernel_rfl : Tryz.prog.funcs[77]? = some Tryz.f77) (code:=Tryz.f77.body.getD .skip) (by kernel_rfl) (by kernel_rfl) (by kernel_rfl) (A:=Qdc) (I:=Qbv) (Qte) ?_
 rintro ⟨a0,a1,u⟩ y hy
 exact (QxB a0 a1 hy).get
def Q4 : List (List Int) → Nat → Option Bool
 | [],k =>
   some true
 | e :: rest,k =>
   Option.bind (ZN (e)) fun (y1 : Bool) =>
   bif !(y1) then
    some (!decide ((0 : Int) ≤ (k : Int)))
   else
    Q4 rest (k + 1)
def Yr (a0 : (List (List Int))) : Option Bool :=
 Zu a0 (Q4 a0 0)
def Wv : Ctr:=⟨110,[(.list .str)],[.bool],fun x=>Yr x.1⟩
def Qde : List (List Nat × Ann):=[([0,2,1002,1001],[.keep 2 0,.keep 2 1,.keep 2 7,.keep 2 8])]
def Qbx : List (List Nat × Nat):=[([1001],133),([1002,1001],151),([4005,1002,1001],134)]
def Qby : List Ctr:=[Xl]
def QjZ (n : Nat) (a0 : (List (List Int))) : Option Bool:=run Tryz.prog Qde Qbx (Qn Qby) Tryz.f110 (Tryz.f110.body.getD .skip) (Qp [.bool]) n (Qt [(.list .str)] (a0,()))
abbrev Jh (n : Nat) (x1 : (List (List Int))) (x2 : Int) (x3 : Int) : Option Bool:=lam Tryz.prog Qde Qbx (Qn Qby) Tryz.f110 (Tryz.f110.body.getD .skip) (Qp [.bool]) n [0,2,1002,1001] [.d (.list .str) x1,.fn 134 [],.d I64 x2,.d I64 x3]
theorem QqZ (n : Nat) (a0 : (List (List Int))) : QjZ n a0 =
  Jh n a0 (a0.length : Int) 0:=by kernel_rfl
theorem Xd (n : Nat) (x1 : (List (List Int))) (x2 : Int) (x3 : Int) : Jh (n + 1) x1 x2 x3 =
  bif decide (x3 < x2) then
   bif inB x3 x1.length then
    Option.bind (ZN (rd x1 x3 (Ty.dflt .str))) fun (y1 : Bool) =>
    bif !(y1) then
     some (!decide ((0 : Int) ≤ x3))
    else
     Jh n x1 x2 (IntKind.wrap .i64 (x3 + 1))
   else none
  else
   some true:=by kernel_rfl
theorem Qdf {x1 : (List (List Int))} (hl : x1.length ≤ maxLen) : ∀ (rest : List (List Int)) (k : Nat) (r : Bool),rest = x1.drop k → Q4 rest k = some r → Ev (fun n=>Jh n x1 (x1.length : Int) (k : Int)) r:=by
 intro rest
 induction rest with
 | nil =>
  intro k r hr h
  have hk:=QH hr
  rw [Q4] at h
  refine Ev.step ?_ (fun n=>Xd n x1 (x1.length : Int) (k : Int))
  rw [show decide ((k : Int) < (x1.length : Int)) = false from decide_eq_false (by omega)]
  exact Ev.neg rfl (Ev.ofSome h)
 | cons e rest ih =>
  intro k r hr h
  obtain ⟨hk,hx,hr2⟩:=Qz (d:=(Ty.dflt .str)) hr
  have hw:=Qy hl hk
  have ih2 : ∀ (r : Bool),Q4 rest (k + 1) = some r → Ev (fun n=>Jh n x1 (x1.length : Int) (IntKind.wrap .i64 ((k : Int) + 1))) r:=by
   intro r h; rw [hw]; exact ih (k + 1) r hr2 h
  rw [Q4] at h
  refine Ev.step ?_ (fun n=>Xd n x1 (x1.length : Int) (k : Int))
  rw [show decide ((k : Int) < (x1.length : Int)) = true from decide_eq_true (by omega),Qx hk,hx]
  exact Ev.pos rfl (Ev.pos rfl (Ev.ofBind h fun y1 h=>(Ev.ofBif h (fun h=>(Ev.ofSome h)) (fun h=>(ih2  _ h)))))
theorem QxC (a0 : (List (List Int))) {r : Bool} (h : Yr a0 = some r) : Ev (fun n=>QjZ n a0) r:=by
 rw [Yr] at h
 refine Ev.of_eq ?_ (fun n=>QqZ n a0)
 exact (Ev.ofLen h fun hl h=>Qdf hl _ (0 : Nat) _ rfl h)
theorem Qtf : ∀ x ∈ Qby,Qh Tryz.prog x:=(Qd Wq Qk)
theorem Qib : Qh Tryz.prog (Wv):=by
 refine Qj (c:=Wv) (by kernel_rfl) (by kernel_rfl : Tryz.prog.funcs[110]? = some Tryz.f110) (code:=Tryz.f110.body.getD .skip) (by kernel_rfl) (by kernel_rfl) (by kernel_rfl) (A:=Qde) (I:=Qbx) (Qtf) ?_
 rintro ⟨a0,u⟩ y hy
 exact (QxC a0 hy).get
def JH (x1 : (List (List Int))) : List (List Int) → Nat → Option Bool
 | [],k =>
   some true
 | e :: rest,k =>
   bif decide ((0 : Int) < (k : Int)) then
    bif inB (IntKind.wrap .i64 ((k : Int) - 1)) x1.length then
     bif !Z4 (rd x1 (IntKind.wrap .i64 ((k : Int) - 1)) (Ty.dflt .str)) (e) then
      some false
     else
      JH x1 rest (k + 1)
    else none
   else
    JH x1 rest (k + 1)
def Vs (a0 : (List (List Int))) : Option Bool :=
 Zu a0 (JH a0 a0 0)
def Qbz : Ctr:=⟨111,[(.list .str)],[.bool],fun x=>Vs x.1⟩
def QgW : List (List Nat × Ann):=[([0,2],[.keep 0 0,.keep 0 5,.keep 0 6,.keep 0 7])]
def QeK : List (List Nat × Nat):=[]
def QeL : List Ctr:=[]
def Qpq (n : Nat) (a0 : (List (List Int))) : Option Bool:=run Tryz.prog QgW QeK (Qn QeL) Tryz.f111 (Tryz.f111.body.getD .skip) (Qp [.bool]) n (Qt [(.list .str)] (a0,()))
abbrev VS (n : Nat) (x1 : (List (List Int))) (x2 : (List (List Int))) (x3 : Int) (x4 : Int) : Option Bool:=lam Tryz.prog QgW QeK (Qn QeL) Tryz.f111 (Tryz.f111.body.getD .skip) (Qp [.bool]) n [0,2] [.d (.list .str) x1,.d (.list .str) x2,.d I64 x3,.d I64 x4]
theorem Qvj (n : Nat) (a0 : (List (List Int))) : Qpq n a0 =
  VS n a0 a0 (a0.length : Int) 0:=by kernel_rfl
theorem QcE (n : Nat) (x1 : (List (List Int))) (x2 : (List (List Int))) (x3 : Int) (x4 : Int) : VS (n + 1) x1 x2 x3 x4 =
  bif decide (x4 < x3) then
   bif inB x4 x2.length then
    bif decide ((0 : Int) < x4) then
     bif inB (IntKind.wrap .i64 (x4 - 1)) x1.length then
      bif !Z4 (rd x1 (IntKind.wrap .i64 (x4 - 1)) (Ty.dflt .str)) (rd x2 x4 (Ty.dflt .str)) then
       some false
      else
       VS n x1 x2 x3 (IntKind.wrap .i64 (x4 + 1))
     else none
    else
     VS n x1 x2 x3 (IntKind.wrap .i64 (x4 + 1))
   else none
  else
   some true:=by kernel_rfl
theorem Qtg {x1 : (List (List Int))} (hl : x1.length ≤ maxLen) : ∀ (rest : List (List Int)) (k : Nat) (r : Bool),rest = x1.drop k → JH x1 rest k = some r → Ev (fun n=>VS n x1 x1 (x1.length : Int) (k : Int)) r:=by
 intro rest
 induction rest with
 | nil =>
  intro k r hr h
  have hk:=QH hr
  rw [JH] at h
  refine Ev.step ?_ (fun n=>QcE n x1 x1 (x1.length : Int) (k : Int))
  rw [show decide ((k : Int) < (x1.length : Int)) = false from decide_eq_false (by omega)]
  exact Ev.neg rfl (Ev.ofSome h)
 | cons e rest ih =>
  intro k r hr h
  obtain ⟨hk,hx,hr2⟩:=Qz (d:=(Ty.dflt .str)) hr
  have hw:=Qy hl hk
  have ih2 : ∀ (r : Bool),JH x1 rest (k + 1) = some r → Ev (fun n=>VS n x1 x1 (x1.length : Int) (IntKind.wrap .i64 ((k : Int) + 1))) r:=by
   intro r h; rw [hw]; exact ih (k + 1) r hr2 h
  rw [JH] at h
  refine Ev.step ?_ (fun n=>QcE n x1 x1 (x1.length : Int) (k : Int))
  rw [show decide ((k : Int) < (x1.length : Int)) = true from decide_eq_true (by omega),Qx hk,hx]
  exact Ev.pos rfl (Ev.pos rfl (Ev.ofBif h (fun h=>(Ev.ofBif h (fun h=>(Ev.ofBif h (fun h=>(Ev.ofSome h)) (fun h=>(ih2  _ h)))) (fun h=>(Ev.ofNone h)))) (fun h=>(ih2  _ h))))
theorem QBK (a0 : (List (List Int))) {r : Bool} (h : Vs a0 = some r) : Ev (fun n=>Qpq n a0) r:=by
 rw [Vs] at h
 refine Ev.of_eq ?_ (fun n=>Qvj n a0)
 exact (Ev.ofLen h fun hl h=>Qtg hl _ (0 : Nat) _ rfl h)
theorem QxD : ∀ x ∈ QeL,Qh Tryz.prog x:=Qk
theorem QmS : Qh Tryz.prog (Qbz):=by
 refine Qj (c:=Qbz) (by kernel_rfl) (by kernel_rfl : Tryz.prog.funcs[111]? = some Tryz.f111) (code:=Tryz.f111.body.getD .skip) (by kernel_rfl) (by kernel_rfl) (by kernel_rfl) (A:=QgW) (I:=QeK) (QxD) ?_
 rintro ⟨a0,u⟩ y hy
 exact (QBK a0 hy).get
def QU (a0 : Qb) : Bool :=
 @decide (a0 = (0,0,([] : List Int),([] : List Int))) (Ty.decEq Qa a0 (0,0,([] : List Int),([] : List Int)))
def He : Ctr:=⟨136,[Qa],[.bool],fun x=>some (QU x.1)⟩
def Qj0 : List (List Nat × Ann):=[]
def Qic : List (List Nat × Nat):=[]
def Qid : List Ctr:=[]
def Qj1 (n : Nat) (a0 : Qb) : Option Bool:=run Tryz.prog Qj0 Qic (Qn Qid) Tryz.f136 (Tryz.f136.body.getD .skip) (Qp [.bool]) n (Qt [Qa] (a0,()))
theorem Qq0 (n : Nat) (a0 : Qb) : Qj1 n a0 =
  some (@decide (a0 = (0,0,([] : List Int),([] : List Int))) (Ty.decEq Qa a0 (0,0,([] : List Int),([] : List Int)))):=by kernel_rfl
theorem QxE (n : Nat) (a0 : Qb) : Qj1 n a0 = some (QU a0):=(Qq0 n a0).trans rfl
theorem Qth : ∀ x ∈ Qid,Qh Tryz.prog x:=Qk
theorem QbA : Qh Tryz.prog (He):=by
 refine Qj (c:=He) (by kernel_rfl) (by kernel_rfl : Tryz.prog.funcs[136]? = some Tryz.f136) (code:=Tryz.f136.body.getD .skip) (by kernel_rfl) (by kernel_rfl) (by kernel_rfl) (A:=Qj0) (I:=Qic) (Qth) ?_
 rintro ⟨a0,u⟩ y hy
 exact ⟨0,(QxE 0 a0).trans hy⟩
def Q5 : List Qb → Nat → Option Bool
 | [],k =>
   some true
 | e :: rest,k =>
   Option.bind (Zp (e)) fun (y5 : Bool) =>
   bif !(y5) then
    some (!decide ((0 : Int) ≤ (k : Int)))
   else
    Q5 rest (k + 1)
def VT (a0 : Ql) : Option Bool :=
 bif decide (a0.1 = 1) then
  Option.bind (Zp a0.2.1) fun (y1 : Bool) =>
  bif y1 then
   bif decide ((a0.2.2.1.length : Int) = 0) then
    some (decide ((a0.2.2.2.length : Int) = 0))
   else
    some false
  else
   some false
 else
  bif decide (a0.1 = 2) then
   bif QU a0.2.1 then
    bif decide ((a0.2.2.1.length : Int) ≤ 50) then
     bif decide ((a0.2.2.2.length : Int) = 0) then
      Option.bind (Jb a0.2.2.1) fun (y2 : Bool) =>
      some y2
     else
      some false
    else
     some false
   else
    some false
  else
   bif decide (a0.1 = 3) then
    bif QU a0.2.1 then
     bif decide ((a0.2.2.2.length : Int) ≤ 50) then
      bif decide ((a0.2.2.1.length : Int) = (a0.2.2.2.length : Int)) then
       Option.bind (Yr a0.2.2.2) fun (y3 : Bool) =>
       bif y3 then
        Option.bind (Vs a0.2.2.2) fun (y4 : Bool) =>
        bif y4 then
         Zu a0.2.2.1 (Q5 a0.2.2.1 0)
        else
         some false
       else
        some false
      else
       some false
     else
      some false
    else
     some false
   else
    some false
def Qdg : Ctr:=⟨114,[Qf],[.bool],fun x=>VT x.1⟩
def Qdh : List (List Nat × Ann):=[([0,2,1002,7031],[.keep 0 74,.keep 2 0,.keep 2 1,.keep 2 7,.keep 2 8])]
def QbB : List (List Nat × Nat):=[([7031],108),([1002,7031],132),([4005,1002,7031],137)]
def QbC : List Ctr:=[Xm,He,XX,Wv,Qbz]
def Qj2 (n : Nat) (a0 : Ql) : Option Bool:=run Tryz.prog Qdh QbB (Qn QbC) Tryz.f114 (Tryz.f114.body.getD .skip) (Qp [.bool]) n (Qt [Qf] (a0,()))
abbrev Ji (n : Nat) (x1 : Bool) (x2 : (List Qb)) (x3 : Int) (x4 : Int) : Option Bool:=lam Tryz.prog Qdh QbB (Qn QbC) Tryz.f114 (Tryz.f114.body.getD .skip) (Qp [.bool]) n [0,2,1002,7031] [.d .bool x1,.d (.list Qa) x2,.fn 137 [],.d I64 x3,.d I64 x4]
theorem Qq1 (n : Nat) (a0 : Ql) : Qj2 n a0 =
  bif decide (a0.1 = 1) then
   Option.bind (Zp a0.2.1) fun (y1 : Bool) =>
   bif y1 then
    bif decide ((a0.2.2.1.length : Int) = 0) then
     some (decide ((a0.2.2.2.length : Int) = 0))
    else
     some false
   else
    some false
  else
   bif decide (a0.1 = 2) then
    bif QU a0.2.1 then
     bif decide ((a0.2.2.1.length : Int) ≤ 50) then
      bif decide ((a0.2.2.2.length : Int) = 0) then
       Option.bind (Jb a0.2.2.1) fun (y2 : Bool) =>
       some y2
      else
       some false
     else
      some false
    else
     some false
   else
    bif decide (a0.1 = 3) then
     bif QU a0.2.1 then
      bif decide ((a0.2.2.2.length : Int) ≤ 50) then
       bif decide ((a0.2.2.1.length : Int) = (a0.2.2.2.length : Int)) then
        Option.bind (Yr a0.2.2.2) fun (y3 : Bool) =>
        bif y3 then
         Option.bind (Vs a0.2.2.2) fun (y4 : Bool) =>
         bif y4 then
          Ji n true a0.2.2.1 (a0.2.2.1.length : Int) 0
         else
          some false
        else
         some false
       else
        some false
      else
       some false
     else
      some false
    else
     some false:=by kernel_rfl
theorem Xe (n : Nat) (x1 : Bool) (x2 : (List Qb)) (x3 : Int) (x4 : Int) : Ji (n + 1) x1 x2 x3 x4 =
  bif decide (x4 < x3) then
   bif inB x4 x2.length then
    Option.bind (Zp (rd x2 x4 (Ty.dflt Qa))) fun (y5 : Bool) =>
    bif !(y5) then
     bif x1 then
      some (!decide ((0 : Int) ≤ x4))
     else
      some false
    else
     Ji n x1 x2 x3 (IntKind.wrap .i64 (x4 + 1))
   else none
  else
   bif x1 then
    some true
   else
    some false:=by kernel_rfl
theorem Qdi {x2 : (List Qb)} (hl : x2.length ≤ maxLen) : ∀ (rest : List Qb) (k : Nat) (r : Bool),rest = x2.drop k → Q5 rest k = some r → Ev (fun n=>Ji n true x2 (x2.length : Int) (k : Int)) r:=by
 intro rest
 induction rest with
 | nil =>
  intro k r hr h
  have hk:=QH hr
  rw [Q5] at h
  refine Ev.step ?_ (fun n=>Xe n true x2 (x2.length : Int) (k : Int))
  rw [show decide ((k : Int) < (x2.length : Int)) = false from decide_eq_false (by omega)]
  exact Ev.neg rfl (Ev.pos rfl (Ev.ofSome h))
 | cons e rest ih =>
  intro k r hr h
  obtain ⟨hk,hx,hr2⟩:=Qz (d:=(Ty.dflt Qa)) hr
  have hw:=Qy hl hk
  have ih2 : ∀ (r : Bool),Q5 rest (k + 1) = some r → Ev (fun n=>Ji n true x2 (x2.length : Int) (IntKind.wrap .i64 ((k : Int) + 1))) r:=by
   intro r h; rw [hw]; exact ih (k + 1) r hr2 h
  rw [Q5] at h
  refine Ev.step ?_ (fun n=>Xe n true x2 (x2.length : Int) (k : Int))
  rw [show decide ((k : Int) < (x2.length : Int)) = true from decide_eq_true (by omega),Qx hk,hx]
  exact Ev.pos rfl (Ev.pos rfl (Ev.ofBind h fun y5 h=>(Ev.ofBif h (fun h=>(Ev.pos rfl (Ev.ofSome h))) (fun h=>(ih2  _ h)))))
theorem QxF (a0 : Ql) {r : Bool} (h : VT a0 = some r) : Ev (fun n=>Qj2 n a0) r:=by
 rw [VT] at h
 refine Ev.of_eq ?_ (fun n=>Qq1 n a0)
 exact (Ev.ofBif h (fun h=>(Ev.ofBind h fun y1 h=>(Ev.ofBif h (fun h=>(Ev.ofBif h (fun h=>(Ev.ofSome h)) (fun h=>(Ev.ofSome h)))) (fun h=>(Ev.ofSome h))))) (fun h=>(Ev.ofBif h (fun h=>(Ev.ofBif h (fun h=>(Ev.ofBif h (fun h=>(Ev.ofBif h (fun h=>(Ev.ofBind h fun y2 h=>(Ev.ofSome h))) (fun h=>(Ev.ofSome h)))) (fun h=>(Ev.ofSome h)))) (fun h=>(Ev.ofSome h)))) (fun h=>(Ev.ofBif h (fun h=>(Ev.ofBif h (fun h=>(Ev.ofBif h (fun h=>(Ev.ofBif h (fun h=>(Ev.ofBind h fun y3 h=>(Ev.ofBif h (fun h=>(Ev.ofBind h fun y4 h=>(Ev.ofBif h (fun h=>(Ev.ofLen h fun hl h=>Qdi hl _ (0 : Nat) _ rfl h)) (fun h=>(Ev.ofSome h))))) (fun h=>(Ev.ofSome h))))) (fun h=>(Ev.ofSome h)))) (fun h=>(Ev.ofSome h)))) (fun h=>(Ev.ofSome h)))) (fun h=>(Ev.ofSome h)))))))
theorem Qti : ∀ x ∈ QbC,Qh Tryz.prog x:=(Qd Wt (Qd QbA (Qd Qel (Qd Qib (Qd QmS Qk)))))
theorem Qvk : Qh Tryz.prog (Qdg):=by
 refine Qj (c:=Qdg) (by kernel_rfl) (by kernel_rfl : Tryz.prog.funcs[114]? = some Tryz.f114) (code:=Tryz.f114.body.getD .skip) (by kernel_rfl) (by kernel_rfl) (by kernel_rfl) (A:=Qdh) (I:=QbB) (Qti) ?_
 rintro ⟨a0,u⟩ y hy
 exact (QxF a0 hy).get
def QW : List Ql → Nat → Option Bool
 | [],k =>
   some true
 | e :: rest,k =>
   bif decide ((e).1 = 3) then
    some (!decide ((0 : Int) ≤ (k : Int)))
   else
    Option.bind (VT (e)) fun (y3 : Bool) =>
    bif !(y3) then
     some (!decide ((0 : Int) ≤ (k : Int)))
    else
     QW rest (k + 1)
def ZC (a0 : (List (List Int))) (a1 : (List Ql)) : Option Bool :=
 bif decide ((a0.length : Int) ≤ 20) then
  bif decide ((a0.length : Int) = (a1.length : Int)) then
   Option.bind (Yr a0) fun (y1 : Bool) =>
   bif y1 then
    Option.bind (Vs a0) fun (y2 : Bool) =>
    bif y2 then
     Zu a1 (QW a1 0)
    else
     some false
   else
    some false
  else
   some false
 else
  some false
def HL : Ctr:=⟨78,[(.list .str),(.list Qf)],[.bool],fun x=>ZC x.1 x.2.1⟩
def Qad : List (List Nat × Ann):=[([0,2,1002,1020],[.keep 0 23,.keep 2 0,.keep 2 1,.keep 2 7,.keep 2 8])]
def W3 : List (List Nat × Nat):=[([1020],112),([1002,1020],135),([4005,1002,1020],113)]
def W4 : List Ctr:=[Wv,Qbz,Qdg]
def QgX (n : Nat) (a0 : (List (List Int))) (a1 : (List Ql)) : Option Bool:=run Tryz.prog Qad W3 (Qn W4) Tryz.f78 (Tryz.f78.body.getD .skip) (Qp [.bool]) n (Qt [(.list .str),(.list Qf)] (a0,a1,()))
abbrev ZV (n : Nat) (x1 : Bool) (x2 : (List Ql)) (x3 : Int) (x4 : Int) : Option Bool:=lam Tryz.prog Qad W3 (Qn W4) Tryz.f78 (Tryz.f78.body.getD .skip) (Qp [.bool]) n [0,2,1002,1020] [.d .bool x1,.d (.list Qf) x2,.fn 113 [],.d I64 x3,.d I64 x4]
theorem QnL (n : Nat) (a0 : (List (List Int))) (a1 : (List Ql)) : QgX n a0 a1 =
  bif decide ((a0.length : Int) ≤ 20) then
   bif decide ((a0.length : Int) = (a1.length : Int)) then
    Option.bind (Yr a0) fun (y1 : Bool) =>
    bif y1 then
     Option.bind (Vs a0) fun (y2 : Bool) =>
     bif y2 then
      ZV n true a1 (a1.length : Int) 0
     else
      some false
    else
     some false
   else
    some false
  else
   some false:=by kernel_rfl
theorem GI (n : Nat) (x1 : Bool) (x2 : (List Ql)) (x3 : Int) (x4 : Int) : ZV (n + 1) x1 x2 x3 x4 =
  bif decide (x4 < x3) then
   bif inB x4 x2.length then
    bif decide ((rd x2 x4 (Ty.dflt Qf)).1 = 3) then
     bif x1 then
      some (!decide ((0 : Int) ≤ x4))
     else
      some false
    else
     Option.bind (VT (rd x2 x4 (Ty.dflt Qf))) fun (y3 : Bool) =>
     bif !(y3) then
      bif x1 then
       some (!decide ((0 : Int) ≤ x4))
      else
       some false
     else
      ZV n x1 x2 x3 (IntKind.wrap .i64 (x4 + 1))
   else none
  else
   bif x1 then
    some true
   else
    some false:=by kernel_rfl
theorem QbD {x2 : (List Ql)} (hl : x2.length ≤ maxLen) : ∀ (rest : List Ql) (k : Nat) (r : Bool),rest = x2.drop k → QW rest k = some r → Ev (fun n=>ZV n true x2 (x2.length : Int) (k : Int)) r:=by
 intro rest
 induction rest with
 | nil =>
  intro k r hr h
  have hk:=QH hr
  rw [QW] at h
  refine Ev.step ?_ (fun n=>GI n true x2 (x2.length : Int) (k : Int))
  rw [show decide ((k : Int) < (x2.length : Int)) = false from decide_eq_false (by omega)]
  exact Ev.neg rfl (Ev.pos rfl (Ev.ofSome h))
 | cons e rest ih =>
  intro k r hr h
  obtain ⟨hk,hx,hr2⟩:=Qz (d:=(Ty.dflt Qf)) hr
  have hw:=Qy hl hk
  have ih2 : ∀ (r : Bool),QW rest (k + 1) = some r → Ev (fun n=>ZV n true x2 (x2.length : Int) (IntKind.wrap .i64 ((k : Int) + 1))) r:=by
   intro r h; rw [hw]; exact ih (k + 1) r hr2 h
  rw [QW] at h
  refine Ev.step ?_ (fun n=>GI n true x2 (x2.length : Int) (k : Int))
  rw [show decide ((k : Int) < (x2.length : Int)) = true from decide_eq_true (by omega),Qx hk,hx]
  exact Ev.pos rfl (Ev.pos rfl (Ev.ofBif h (fun h=>(Ev.pos rfl (Ev.ofSome h))) (fun h=>(Ev.ofBind h fun y3 h=>(Ev.ofBif h (fun h=>(Ev.pos rfl (Ev.ofSome h))) (fun h=>(ih2  _ h)))))))
theorem Qtj (a0 : (List (List Int))) (a1 : (List Ql)) {r : Bool} (h : ZC a0 a1 = some r) : Ev (fun n=>QgX n a0 a1) r:=by
 rw [ZC] at h
 refine Ev.of_eq ?_ (fun n=>QnL n a0 a1)
 exact (Ev.ofBif h (fun h=>(Ev.ofBif h (fun h=>(Ev.ofBind h fun y1 h=>(Ev.ofBif h (fun h=>(Ev.ofBind h fun y2 h=>(Ev.ofBif h (fun h=>(Ev.ofLen h fun hl h=>QbD hl _ (0 : Nat) _ rfl h)) (fun h=>(Ev.ofSome h))))) (fun h=>(Ev.ofSome h))))) (fun h=>(Ev.ofSome h)))) (fun h=>(Ev.ofSome h)))
theorem Qpr : ∀ x ∈ W4,Qh Tryz.prog x:=(Qd Qib (Qd QmS (Qd Qvk Qk)))
theorem QfE : Qh Tryz.prog (HL):=by
 refine Qj (c:=HL) (by kernel_rfl) (by kernel_rfl : Tryz.prog.funcs[78]? = some Tryz.f78) (code:=Tryz.f78.body.getD .skip) (by kernel_rfl) (by kernel_rfl) (by kernel_rfl) (A:=Qad) (I:=W3) (Qpr) ?_
 rintro ⟨a0,a1,u⟩ y hy
 exact (Qtj a0 a1 hy).get
def ZI (x1 : (List Qc)) : List Qc → Nat → Option Bool
 | [],k =>
   some true
 | e :: rest,k =>
   Option.bind (Zq ((e).1)) fun (y1 : Bool) =>
   bif !(y1) then
    some false
   else
    bif decide ((0 : Int) < (k : Int)) then
     bif inB (IntKind.wrap .i64 ((k : Int) - 1)) x1.length then
      Option.bind (YY ((rd x1 (IntKind.wrap .i64 ((k : Int) - 1)) (Ty.dflt Qe)).1) ((e).1)) fun (y2 : Int) =>
      bif decide ((0 : Int) ≤ y2) then
       some false
      else
       Option.bind (Yq (((e).2).1) 50) fun (y3 : Bool) =>
       bif !(y3) then
        some false
       else
        Option.bind (ZC ((((e).2).2).1) ((((e).2).2).2)) fun (y4 : Bool) =>
        bif !(y4) then
         some false
        else
         ZI x1 rest (k + 1)
     else none
    else
     Option.bind (Yq (((e).2).1) 50) fun (y5 : Bool) =>
     bif !(y5) then
      some false
     else
      Option.bind (ZC ((((e).2).2).1) ((((e).2).2).2)) fun (y6 : Bool) =>
      bif !(y6) then
       some false
      else
       ZI x1 rest (k + 1)
def YE (a0 : (List Qc)) : Option Bool :=
 bif decide ((100 : Int) < (a0.length : Int)) then
  some false
 else
  Zu a0 (ZI a0 a0 0)
def Uh : Ctr:=⟨38,[(.list Qe)],[.bool],fun x=>YE x.1⟩
def QbE : List (List Nat × Ann):=[([0,4],[.keep 0 0,.keep 0 8,.keep 0 9,.keep 0 10])]
def Qae : List (List Nat × Nat):=[]
def Qaf : List Ctr:=[HS,EM,Qdb,HL]
def Qie (n : Nat) (a0 : (List Qc)) : Option Bool:=run Tryz.prog QbE Qae (Qn Qaf) Tryz.f38 (Tryz.f38.body.getD .skip) (Qp [.bool]) n (Qt [(.list Qe)] (a0,()))
abbrev YL (n : Nat) (x1 : (List Qc)) (x2 : (List Qc)) (x3 : Int) (x4 : Int) : Option Bool:=lam Tryz.prog QbE Qae (Qn Qaf) Tryz.f38 (Tryz.f38.body.getD .skip) (Qp [.bool]) n [0,4] [.d (.list Qe) x1,.d (.list Qe) x2,.d I64 x3,.d I64 x4]
theorem Qps (n : Nat) (a0 : (List Qc)) : Qie n a0 =
  bif decide ((100 : Int) < (a0.length : Int)) then
   some false
  else
   YL n a0 a0 (a0.length : Int) 0:=by kernel_rfl
theorem Ei (n : Nat) (x1 : (List Qc)) (x2 : (List Qc)) (x3 : Int) (x4 : Int) : YL (n + 1) x1 x2 x3 x4 =
  bif decide (x4 < x3) then
   bif inB x4 x2.length then
    Option.bind (Zq ((rd x2 x4 (Ty.dflt Qe)).1)) fun (y1 : Bool) =>
    bif !(y1) then
     some false
    else
     bif decide ((0 : Int) < x4) then
      bif inB (IntKind.wrap .i64 (x4 - 1)) x1.length then
       Option.bind (YY ((rd x1 (IntKind.wrap .i64 (x4 - 1)) (Ty.dflt Qe)).1) ((rd x2 x4 (Ty.dflt Qe)).1)) fun (y2 : Int) =>
       bif decide ((0 : Int) ≤ y2) then
        some false
       else
        Option.bind (Yq (((rd x2 x4 (Ty.dflt Qe)).2).1) 50) fun (y3 : Bool) =>
        bif !(y3) then
         some false
        else
         Option.bind (ZC ((((rd x2 x4 (Ty.dflt Qe)).2).2).1) ((((rd x2 x4 (Ty.dflt Qe)).2).2).2)) fun (y4 : Bool) =>
         bif !(y4) then
          some false
         else
          YL n x1 x2 x3 (IntKind.wrap .i64 (x4 + 1))
      else none
     else
      Option.bind (Yq (((rd x2 x4 (Ty.dflt Qe)).2).1) 50) fun (y5 : Bool) =>
      bif !(y5) then
       some false
      else
       Option.bind (ZC ((((rd x2 x4 (Ty.dflt Qe)).2).2).1) ((((rd x2 x4 (Ty.dflt Qe)).2).2).2)) fun (y6 : Bool) =>
       bif !(y6) then
        some false
       else
        YL n x1 x2 x3 (IntKind.wrap .i64 (x4 + 1))
   else none
  else
   some true:=by kernel_rfl
theorem QnM {x1 : (List Qc)} (hl : x1.length ≤ maxLen) : ∀ (rest : List Qc) (k : Nat) (r : Bool),rest = x1.drop k → ZI x1 rest k = some r → Ev (fun n=>YL n x1 x1 (x1.length : Int) (k : Int)) r:=by
 intro rest
 induction rest with
 | nil =>
  intro k r hr h
  have hk:=QH hr
  rw [ZI] at h
  refine Ev.step ?_ (fun n=>Ei n x1 x1 (x1.length : Int) (k : Int))
  rw [show decide ((k : Int) < (x1.length : Int)) = false from decide_eq_false (by omega)]
  exact Ev.neg rfl (Ev.ofSome h)
 | cons e rest ih =>
  intro k r hr h
  obtain ⟨hk,hx,hr2⟩:=Qz (d:=(Ty.dflt Qe)) hr
  have hw:=Qy hl hk
  have ih2 : ∀ (r : Bool),ZI x1 rest (k + 1) = some r → Ev (fun n=>YL n x1 x1 (x1.length : Int) (IntKind.wrap .i64 ((k : Int) + 1))) r:=by
   intro r h; rw [hw]; exact ih (k + 1) r hr2 h
  rw [ZI] at h
  refine Ev.step ?_ (fun n=>Ei n x1 x1 (x1.length : Int) (k : Int))
  rw [show decide ((k : Int) < (x1.length : Int)) = true from decide_eq_true (by omega),Qx hk,hx]
  exact Ev.pos rfl (Ev.pos rfl (Ev.ofBind h fun y1 h=>(Ev.ofBif h (fun h=>(Ev.ofSome h)) (fun h=>(Ev.ofBif h (fun h=>(Ev.ofBif h (fun h=>(Ev.ofBind h fun y2 h=>(Ev.ofBif h (fun h=>(Ev.ofSome h)) (fun h=>(Ev.ofBind h fun y3 h=>(Ev.ofBif h (fun h=>(Ev.ofSome h)) (fun h=>(Ev.ofBind h fun y4 h=>(Ev.ofBif h (fun h=>(Ev.ofSome h)) (fun h=>(ih2  _ h))))))))))) (fun h=>(Ev.ofNone h)))) (fun h=>(Ev.ofBind h fun y5 h=>(Ev.ofBif h (fun h=>(Ev.ofSome h)) (fun h=>(Ev.ofBind h fun y6 h=>(Ev.ofBif h (fun h=>(Ev.ofSome h)) (fun h=>(ih2  _ h)))))))))))))
theorem Qvl (a0 : (List Qc)) {r : Bool} (h : YE a0 = some r) : Ev (fun n=>Qie n a0) r:=by
 rw [YE] at h
 refine Ev.of_eq ?_ (fun n=>Qps n a0)
 exact (Ev.ofBif h (fun h=>(Ev.ofSome h)) (fun h=>(Ev.ofLen h fun hl h=>QnM hl _ (0 : Nat) _ rfl h)))
theorem Qq2 : ∀ x ∈ Qaf,Qh Tryz.prog x:=(Qd Qda (Qd QjW (Qd Qvi (Qd QfE Qk))))
theorem QgY : Qh Tryz.prog (Uh):=by
 refine Qj (c:=Uh) (by kernel_rfl) (by kernel_rfl : Tryz.prog.funcs[38]? = some Tryz.f38) (code:=Tryz.f38.body.getD .skip) (by kernel_rfl) (by kernel_rfl) (by kernel_rfl) (A:=QbE) (I:=Qae) (Qq2) ?_
 rintro ⟨a0,u⟩ y hy
 exact (Qvl a0 hy).get
def Yh (a0 : QD) : Option Bool :=
 Option.bind (Zq a0.1) fun (y1 : Bool) =>
 bif y1 then
  Option.bind (Zq a0.2.1) fun (y2 : Bool) =>
  bif y2 then
   Option.bind (Zq a0.2.2.1) fun (y3 : Bool) =>
   bif y3 then
    Option.bind (ZC a0.2.2.2.1 a0.2.2.2.2) fun (y4 : Bool) =>
    some y4
   else
    some false
  else
   some false
 else
  some false
def HM : Ctr:=⟨39,[Qu],[.bool],fun x=>Yh x.1⟩
def QgZ : List (List Nat × Ann):=[]
def QfF : List (List Nat × Nat):=[]
def QfG : List Ctr:=[HS,HL]
def Qg0 (n : Nat) (a0 : QD) : Option Bool:=run Tryz.prog QgZ QfF (Qn QfG) Tryz.f39 (Tryz.f39.body.getD .skip) (Qp [.bool]) n (Qt [Qu] (a0,()))
theorem QnN (n : Nat) (a0 : QD) : Qg0 n a0 =
  Option.bind (Zq a0.1) fun (y1 : Bool) =>
  bif y1 then
   Option.bind (Zq a0.2.1) fun (y2 : Bool) =>
   bif y2 then
    Option.bind (Zq a0.2.2.1) fun (y3 : Bool) =>
    bif y3 then
     Option.bind (ZC a0.2.2.2.1 a0.2.2.2.2) fun (y4 : Bool) =>
     some y4
    else
     some false
   else
    some false
  else
   some false:=by kernel_rfl
theorem Qtk (a0 : QD) {r : Bool} (h : Yh a0 = some r) : Ev (fun n=>Qg0 n a0) r:=by
 rw [Yh] at h
 refine Ev.of_eq ?_ (fun n=>QnN n a0)
 exact (Ev.ofBind h fun y1 h=>(Ev.ofBif h (fun h=>(Ev.ofBind h fun y2 h=>(Ev.ofBif h (fun h=>(Ev.ofBind h fun y3 h=>(Ev.ofBif h (fun h=>(Ev.ofBind h fun y4 h=>(Ev.ofSome h))) (fun h=>(Ev.ofSome h))))) (fun h=>(Ev.ofSome h))))) (fun h=>(Ev.ofSome h))))
theorem Qpt : ∀ x ∈ QfG,Qh Tryz.prog x:=(Qd Qda (Qd QfE Qk))
theorem QfH : Qh Tryz.prog (HM):=by
 refine Qj (c:=HM) (by kernel_rfl) (by kernel_rfl : Tryz.prog.funcs[39]? = some Tryz.f39) (code:=Tryz.f39.body.getD .skip) (by kernel_rfl) (by kernel_rfl) (by kernel_rfl) (A:=QgZ) (I:=QfF) (Qpt) ?_
 rintro ⟨a0,u⟩ y hy
 exact (Qtk a0 hy).get
def Zm (x1 : (List Qi)) : List Qi → Nat → Option Bool
 | [],k =>
   some true
 | e :: rest,k =>
   bif decide ((0 : Int) < (k : Int)) then
    bif inB (IntKind.wrap .i64 ((k : Int) - 1)) x1.length then
     bif !Z4 ((rd x1 (IntKind.wrap .i64 ((k : Int) - 1)) (Ty.dflt Qg)).1) ((e).1) then
      some false
     else
      Zm x1 rest (k + 1)
    else none
   else
    Zm x1 rest (k + 1)
def Gk (a0 : (List Qi)) : Option Bool :=
 Zu a0 (Zm a0 a0 0)
def QbF : Ctr:=⟨79,[(.list Qg)],[.bool],fun x=>Gk x.1⟩
def QbG : List (List Nat × Ann):=[([0,2],[.keep 0 0,.keep 0 5,.keep 0 6])]
def Qag : List (List Nat × Nat):=[]
def Qah : List Ctr:=[]
def Qif (n : Nat) (a0 : (List Qi)) : Option Bool:=run Tryz.prog QbG Qag (Qn Qah) Tryz.f79 (Tryz.f79.body.getD .skip) (Qp [.bool]) n (Qt [(.list Qg)] (a0,()))
abbrev YM (n : Nat) (x1 : (List Qi)) (x2 : Int) (x3 : Int) : Option Bool:=lam Tryz.prog QbG Qag (Qn Qah) Tryz.f79 (Tryz.f79.body.getD .skip) (Qp [.bool]) n [0,2] [.d (.list Qg) x1,.d I64 x2,.d I64 x3]
theorem Qpu (n : Nat) (a0 : (List Qi)) : Qif n a0 =
  YM n a0 (a0.length : Int) 0:=by kernel_rfl
theorem Ej (n : Nat) (x1 : (List Qi)) (x2 : Int) (x3 : Int) : YM (n + 1) x1 x2 x3 =
  bif decide (x3 < x2) then
   bif decide ((0 : Int) < x3) then
    bif inB (IntKind.wrap .i64 (x3 - 1)) x1.length then
     bif inB x3 x1.length then
      bif !Z4 ((rd x1 (IntKind.wrap .i64 (x3 - 1)) (Ty.dflt Qg)).1) ((rd x1 x3 (Ty.dflt Qg)).1) then
       some false
      else
       YM n x1 x2 (IntKind.wrap .i64 (x3 + 1))
     else none
    else none
   else
    YM n x1 x2 (IntKind.wrap .i64 (x3 + 1))
  else
   some true:=by kernel_rfl
theorem QnO {x1 : (List Qi)} (hl : x1.length ≤ maxLen) : ∀ (rest : List Qi) (k : Nat) (r : Bool),rest = x1.drop k → Zm x1 rest k = some r → Ev (fun n=>YM n x1 (x1.length : Int) (k : Int)) r:=by
 intro rest
 induction rest with
 | nil =>
  intro k r hr h
  have hk:=QH hr
  rw [Zm] at h
  refine Ev.step ?_ (fun n=>Ej n x1 (x1.length : Int) (k : Int))
  rw [show decide ((k : Int) < (x1.length : Int)) = false from decide_eq_false (by omega)]
  exact Ev.neg rfl (Ev.ofSome h)
 | cons e rest ih =>
  intro k r hr h
  obtain ⟨hk,hx,hr2⟩:=Qz (d:=(Ty.dflt Qg)) hr
  have hw:=Qy hl hk
  have ih2 : ∀ (r : Bool),Zm x1 rest (k + 1) = some r → Ev (fun n=>YM n x1 (x1.length : Int) (IntKind.wrap .i64 ((k : Int) + 1))) r:=by
   intro r h; rw [hw]; exact ih (k + 1) r hr2 h
  rw [Zm] at h
  refine Ev.step ?_ (fun n=>Ej n x1 (x1.length : Int) (k : Int))
  rw [show decide ((k : Int) < (x1.length : Int)) = true from decide_eq_true (by omega),Qx hk,hx]
  exact Ev.pos rfl (Ev.ofBif h (fun h=>(Ev.ofBif h (fun h=>(Ev.pos rfl (Ev.ofBif h (fun h=>(Ev.ofSome h)) (fun h=>(ih2  _ h))))) (fun h=>(Ev.ofNone h)))) (fun h=>(ih2  _ h)))
theorem Qvm (a0 : (List Qi)) {r : Bool} (h : Gk a0 = some r) : Ev (fun n=>Qif n a0) r:=by
 rw [Gk] at h
 refine Ev.of_eq ?_ (fun n=>Qpu n a0)
 exact (Ev.ofLen h fun hl h=>QnO hl _ (0 : Nat) _ rfl h)
theorem Qq3 : ∀ x ∈ Qah,Qh Tryz.prog x:=Qk
theorem Qtl : Qh Tryz.prog (QbF):=by
 refine Qj (c:=QbF) (by kernel_rfl) (by kernel_rfl : Tryz.prog.funcs[79]? = some Tryz.f79) (code:=Tryz.f79.body.getD .skip) (by kernel_rfl) (by kernel_rfl) (by kernel_rfl) (A:=QbG) (I:=Qag) (Qq3) ?_
 rintro ⟨a0,u⟩ y hy
 exact (Qvm a0 hy).get
def Z2 : List Int → Option Bool
 | [] =>
   some true
 | e :: rest =>
   bif !(Ve (e)) then
    bif !decide (e = 45) then
     bif !decide (e = 46) then
      some false
     else
      Z2 rest
    else
     Z2 rest
   else
    Z2 rest
def G1 (a0 : (List Int)) : Option Bool :=
 bif decide ((a0.length : Int) < 1) then
  some false
 else
  bif decide ((40 : Int) < (a0.length : Int)) then
   some false
  else
   Zu a0 (Z2 a0)
def Qg1 : Ctr:=⟨116,[.str],[.bool],fun x=>G1 x.1⟩
def Qg2 : List (List Nat × Ann):=[([0,4],[.keep 0 0,.keep 0 13,.keep 0 14])]
def QeM : List (List Nat × Nat):=[]
def QeN : List Ctr:=[Wp]
def Qpv (n : Nat) (a0 : (List Int)) : Option Bool:=run Tryz.prog Qg2 QeM (Qn QeN) Tryz.f116 (Tryz.f116.body.getD .skip) (Qp [.bool]) n (Qt [.str] (a0,()))
abbrev Y3 (n : Nat) (x1 : (List Int)) (x2 : Int) (x3 : Int) : Option Bool:=lam Tryz.prog Qg2 QeM (Qn QeN) Tryz.f116 (Tryz.f116.body.getD .skip) (Qp [.bool]) n [0,4] [.d .str x1,.d I64 x2,.d I64 x3]
theorem Qvn (n : Nat) (a0 : (List Int)) : Qpv n a0 =
  bif decide ((a0.length : Int) < 1) then
   some false
  else
   bif decide ((40 : Int) < (a0.length : Int)) then
    some false
   else
    Y3 n a0 (a0.length : Int) 0:=by kernel_rfl
theorem QcF (n : Nat) (x1 : (List Int)) (x2 : Int) (x3 : Int) : Y3 (n + 1) x1 x2 x3 =
  bif decide (x3 < x2) then
   bif inB x3 x1.length then
    bif !(Ve (rd x1 x3 0)) then
     bif inB x3 x1.length then
      bif !decide (rd x1 x3 0 = 45) then
       bif inB x3 x1.length then
        bif !decide (rd x1 x3 0 = 46) then
         some false
        else
         Y3 n x1 x2 (IntKind.wrap .i64 (x3 + 1))
       else none
      else
       Y3 n x1 x2 (IntKind.wrap .i64 (x3 + 1))
     else none
    else
     Y3 n x1 x2 (IntKind.wrap .i64 (x3 + 1))
   else none
  else
   some true:=by kernel_rfl
theorem Qtm {x1 : (List Int)} (hl : x1.length ≤ maxLen) : ∀ (rest : List Int) (k : Nat) (r : Bool),rest = x1.drop k → Z2 rest = some r → Ev (fun n=>Y3 n x1 (x1.length : Int) (k : Int)) r:=by
 intro rest
 induction rest with
 | nil =>
  intro k r hr h
  have hk:=QH hr
  rw [Z2] at h
  refine Ev.step ?_ (fun n=>QcF n x1 (x1.length : Int) (k : Int))
  rw [show decide ((k : Int) < (x1.length : Int)) = false from decide_eq_false (by omega)]
  exact Ev.neg rfl (Ev.ofSome h)
 | cons e rest ih =>
  intro k r hr h
  obtain ⟨hk,hx,hr2⟩:=Qz (d:=0) hr
  have hw:=Qy hl hk
  have ih2 : ∀ (r : Bool),Z2 rest = some r → Ev (fun n=>Y3 n x1 (x1.length : Int) (IntKind.wrap .i64 ((k : Int) + 1))) r:=by
   intro r h; rw [hw]; exact ih (k + 1) r hr2 h
  rw [Z2] at h
  refine Ev.step ?_ (fun n=>QcF n x1 (x1.length : Int) (k : Int))
  rw [show decide ((k : Int) < (x1.length : Int)) = true from decide_eq_true (by omega),Qx hk,hx]
  exact Ev.pos rfl (Ev.pos rfl (Ev.ofBif h (fun h=>(Ev.pos rfl (Ev.ofBif h (fun h=>(Ev.pos rfl (Ev.ofBif h (fun h=>(Ev.ofSome h)) (fun h=>(ih2  _ h))))) (fun h=>(ih2  _ h))))) (fun h=>(ih2  _ h))))
theorem QBL (a0 : (List Int)) {r : Bool} (h : G1 a0 = some r) : Ev (fun n=>Qpv n a0) r:=by
 rw [G1] at h
 refine Ev.of_eq ?_ (fun n=>Qvn n a0)
 exact (Ev.ofBif h (fun h=>(Ev.ofSome h)) (fun h=>(Ev.ofBif h (fun h=>(Ev.ofSome h)) (fun h=>(Ev.ofLen h fun hl h=>Qtm hl _ (0 : Nat) _ rfl h)))))
theorem QxG : ∀ x ∈ QeN,Qh Tryz.prog x:=(Qd Qh8 Qk)
theorem Qzy : Qh Tryz.prog (Qg1):=by
 refine Qj (c:=Qg1) (by kernel_rfl) (by kernel_rfl : Tryz.prog.funcs[116]? = some Tryz.f116) (code:=Tryz.f116.body.getD .skip) (by kernel_rfl) (by kernel_rfl) (by kernel_rfl) (A:=Qg2) (I:=QeM) (QxG) ?_
 rintro ⟨a0,u⟩ y hy
 exact (QBL a0 hy).get
def YN (x1 : Bool) (x2 : Bool) (x3 : J6) : Option Bool :=
 bif x2 then
  bif QU x3.2.1 then
   bif decide (x3.2.2 = ([] : List Int)) then
    some (!(x1))
   else
    some false
  else
   some false
 else
  some false
def Vf (x1 : Bool) (x2 : Int) (x3 : Bool) (x4 : J6) : Option Bool :=
 bif x3 then
  Option.bind (Zq x4.2.1) fun (y1 : Bool) =>
  bif y1 then
   some (decide (x4.2.2 = ([] : List Int)))
  else
   some false
 else
  bif decide (x2 = 4) then
   bif QU x4.2.1 then
    Option.bind (ZN x4.2.2) fun (y2 : Bool) =>
    some y2
   else
    some false
  else
   bif decide (x2 = 5) then
    YN x1 (decide (x2 = 5)) x4
   else
    YN x1 (decide (x2 = 6)) x4
def Zy (a0 : J6) (a1 : Bool) : Option Bool :=
 bif decide (a0.1 = 1) then
  bif QU a0.2.1 then
   some (decide (a0.2.2 = ([] : List Int)))
  else
   some false
 else
  bif decide (a0.1 = 2) then
   Vf a1 a0.1 (decide (a0.1 = 2)) a0
  else
   Vf a1 a0.1 (decide (a0.1 = 3)) a0
def Qdj : Ctr:=⟨117,[Qs,.bool],[.bool],fun x=>Zy x.1 x.2.1⟩
def Ww : List (List Nat × Ann):=[([1,6],[.keep 0 1,.keep 0 2,.keep 0 6,.keep 0 17,.boxd 0 2 Qs]),([1,11],[.keep 0 1,.keep 0 2,.keep 0 38,.boxd 0 2 Qs])]
def Ui : List (List Nat × Nat):=[]
def Uj : List Ctr:=[He,HS,Xl]
def Qj3 (n : Nat) (a0 : J6) (a1 : Bool) : Option Bool:=run Tryz.prog Ww Ui (Qn Uj) Tryz.f117 (Tryz.f117.body.getD .skip) (Qp [.bool]) n (Qt [Qs,.bool] (a0,a1,()))
abbrev XE (n : Nat) (x1 : Bool) (x2 : Int) (x3 : Bool) (x4 : J6) : Option Bool:=lam Tryz.prog Ww Ui (Qn Uj) Tryz.f117 (Tryz.f117.body.getD .skip) (Qp [.bool]) n [1,6] [.d .bool x1,.ptr 0 2 0,.d I64 x2,.d .bool x3,.agg (Qq Qs x4)]
abbrev G6 (n : Nat) (x1 : Bool) (x2 : Bool) (x3 : J6) : Option Bool:=lam Tryz.prog Ww Ui (Qn Uj) Tryz.f117 (Tryz.f117.body.getD .skip) (Qp [.bool]) n [1,11] [.d .bool x1,.ptr 0 2 0,.d .bool x2,.agg (Qq Qs x3)]
theorem Qq4 (n : Nat) (a0 : J6) (a1 : Bool) : Qj3 n a0 a1 =
  bif decide (a0.1 = 1) then
   bif QU a0.2.1 then
    some (decide (a0.2.2 = ([] : List Int)))
   else
    some false
  else
   bif decide (a0.1 = 2) then
    XE n a1 a0.1 (decide (a0.1 = 2)) a0
   else
    XE n a1 a0.1 (decide (a0.1 = 3)) a0:=by kernel_rfl
theorem Qj4 (n : Nat) (x1 : Bool) (x2 : Int) (x3 : Bool) (x4 : J6) : XE (n + 1) x1 x2 x3 x4 =
  bif x3 then
   Option.bind (Zq x4.2.1) fun (y1 : Bool) =>
   bif y1 then
    some (decide (x4.2.2 = ([] : List Int)))
   else
    some false
  else
   bif decide (x2 = 4) then
    bif QU x4.2.1 then
     Option.bind (ZN x4.2.2) fun (y2 : Bool) =>
     some y2
    else
     some false
   else
    bif decide (x2 = 5) then
     G6 n x1 (decide (x2 = 5)) x4
    else
     G6 n x1 (decide (x2 = 6)) x4:=by kernel_rfl
theorem QiX (n : Nat) (x1 : Bool) (x2 : Bool) (x3 : J6) : G6 (n + 1) x1 x2 x3 =
  bif x2 then
   bif QU x3.2.1 then
    bif decide (x3.2.2 = ([] : List Int)) then
     some (!(x1))
    else
     some false
   else
    some false
  else
   some false:=by kernel_rfl
theorem QcG {x1 : Bool} {x2 : Bool} {x3 : J6} {r : Bool} (h : YN x1 x2 x3 = some r) : Ev (fun n=>G6 n x1 x2 x3) r:=by
 rw [YN] at h
 refine Ev.step ?_ (fun n=>QiX n x1 x2 x3)
 exact (Ev.ofBif h (fun h=>(Ev.ofBif h (fun h=>(Ev.ofBif h (fun h=>(Ev.ofSome h)) (fun h=>(Ev.ofSome h)))) (fun h=>(Ev.ofSome h)))) (fun h=>(Ev.ofSome h)))
theorem Qem {x1 : Bool} {x2 : Int} {x3 : Bool} {x4 : J6} {r : Bool} (h : Vf x1 x2 x3 x4 = some r) : Ev (fun n=>XE n x1 x2 x3 x4) r:=by
 rw [Vf] at h
 refine Ev.step ?_ (fun n=>Qj4 n x1 x2 x3 x4)
 exact (Ev.ofBif h (fun h=>(Ev.ofBind h fun y1 h=>(Ev.ofBif h (fun h=>(Ev.ofSome h)) (fun h=>(Ev.ofSome h))))) (fun h=>(Ev.ofBif h (fun h=>(Ev.ofBif h (fun h=>(Ev.ofBind h fun y2 h=>(Ev.ofSome h))) (fun h=>(Ev.ofSome h)))) (fun h=>(Ev.ofBif h (fun h=>(QcG h)) (fun h=>(QcG h)))))))
theorem QxH (a0 : J6) (a1 : Bool) {r : Bool} (h : Zy a0 a1 = some r) : Ev (fun n=>Qj3 n a0 a1) r:=by
 rw [Zy] at h
 refine Ev.of_eq ?_ (fun n=>Qq4 n a0 a1)
 exact (Ev.ofBif h (fun h=>(Ev.ofBif h (fun h=>(Ev.ofSome h)) (fun h=>(Ev.ofSome h)))) (fun h=>(Ev.ofBif h (fun h=>(Qem h)) (fun h=>(Qem h)))))
theorem Qtn : ∀ x ∈ Uj,Qh Tryz.prog x:=(Qd QbA (Qd Qda (Qd Wq Qk)))
theorem Qvo : Qh Tryz.prog (Qdj):=by
 refine Qj (c:=Qdj) (by kernel_rfl) (by kernel_rfl : Tryz.prog.funcs[117]? = some Tryz.f117) (code:=Tryz.f117.body.getD .skip) (by kernel_rfl) (by kernel_rfl) (by kernel_rfl) (A:=Ww) (I:=Ui) (Qtn) ?_
 rintro ⟨a0,a1,u⟩ y hy
 exact (QxH a0 a1 hy).get
def G2 (x1 : Int) (x2 : Bool) : Option (Int × Int) :=
 bif x2 then
  some (0,0)
 else
  bif decide (x1 = 2) then
   some (0,10)
  else
   bif decide (x1 = 4) then
    bif decide (x1 = 4) then
     some (1,1)
    else
     bif decide (x1 = 10) then
      some (3,3)
     else
      some (2,2)
   else
    bif decide (x1 = 5) then
     bif decide (x1 = 5) then
      some (1,1)
     else
      bif decide (x1 = 10) then
       some (3,3)
      else
       some (2,2)
    else
     bif decide (x1 = 6) then
      bif decide (x1 = 6) then
       some (1,1)
      else
       bif decide (x1 = 10) then
        some (3,3)
       else
        some (2,2)
     else
      bif decide (x1 = 7) then
       bif decide (x1 = 7) then
        some (1,1)
       else
        bif decide (x1 = 10) then
         some (3,3)
        else
         some (2,2)
      else
       bif decide (x1 = 20) then
        bif decide (x1 = 20) then
         some (1,1)
        else
         bif decide (x1 = 10) then
          some (3,3)
         else
          some (2,2)
       else
        bif decide (x1 = 21) then
         some (1,1)
        else
         bif decide (x1 = 10) then
          some (3,3)
         else
          some (2,2)
def G3 (a0 : Int) : Option (Int × Int) :=
 bif decide (a0 = 1) then
  G2 a0 (decide (a0 = 1))
 else
  G2 a0 (decide (a0 = 3))
def Qg3 : Ctr:=⟨154,[I64],[I64,I64],fun x=>G3 x.1⟩
def Qg4 : List (List Nat × Ann):=[([1,4],[.keep 0 4,.keep 0 5])]
def QeO : List (List Nat × Nat):=[]
def QeP : List Ctr:=[]
def Qpw (n : Nat) (a0 : Int) : Option (Int × Int):=run Tryz.prog Qg4 QeO (Qn QeP) Tryz.f154 (Tryz.f154.body.getD .skip) (Qp [I64,I64]) n (Qt [I64] (a0,()))
abbrev HN (n : Nat) (x1 : Int) (x2 : Bool) : Option (Int × Int):=lam Tryz.prog Qg4 QeO (Qn QeP) Tryz.f154 (Tryz.f154.body.getD .skip) (Qp [I64,I64]) n [1,4] [.d I64 x1,.d .bool x2]
theorem Qvp (n : Nat) (a0 : Int) : Qpw n a0 =
  bif decide (a0 = 1) then
   HN n a0 (decide (a0 = 1))
  else
   HN n a0 (decide (a0 = 3)):=by kernel_rfl
theorem QnP (n : Nat) (x1 : Int) (x2 : Bool) : HN (n + 1) x1 x2 =
  bif x2 then
   some (0,0)
  else
   bif decide (x1 = 2) then
    some (0,10)
   else
    bif decide (x1 = 4) then
     bif decide (x1 = 4) then
      some (1,1)
     else
      bif decide (x1 = 10) then
       some (3,3)
      else
       some (2,2)
    else
     bif decide (x1 = 5) then
      bif decide (x1 = 5) then
       some (1,1)
      else
       bif decide (x1 = 10) then
        some (3,3)
       else
        some (2,2)
     else
      bif decide (x1 = 6) then
       bif decide (x1 = 6) then
        some (1,1)
       else
        bif decide (x1 = 10) then
         some (3,3)
        else
         some (2,2)
      else
       bif decide (x1 = 7) then
        bif decide (x1 = 7) then
         some (1,1)
        else
         bif decide (x1 = 10) then
          some (3,3)
         else
          some (2,2)
       else
        bif decide (x1 = 20) then
         bif decide (x1 = 20) then
          some (1,1)
         else
          bif decide (x1 = 10) then
           some (3,3)
          else
           some (2,2)
        else
         bif decide (x1 = 21) then
          some (1,1)
         else
          bif decide (x1 = 10) then
           some (3,3)
          else
           some (2,2):=by kernel_rfl
theorem Qg5 {x1 : Int} {x2 : Bool} {r : (Int × Int)} (h : G2 x1 x2 = some r) : Ev (fun n=>HN n x1 x2) r:=by
 rw [G2] at h
 refine Ev.step ?_ (fun n=>QnP n x1 x2)
 exact (Ev.ofBif h (fun h=>(Ev.ofSome h)) (fun h=>(Ev.ofBif h (fun h=>(Ev.ofSome h)) (fun h=>(Ev.ofBif h (fun h=>(Ev.ofBif h (fun h=>(Ev.ofSome h)) (fun h=>(Ev.ofBif h (fun h=>(Ev.ofSome h)) (fun h=>(Ev.ofSome h)))))) (fun h=>(Ev.ofBif h (fun h=>(Ev.ofBif h (fun h=>(Ev.ofSome h)) (fun h=>(Ev.ofBif h (fun h=>(Ev.ofSome h)) (fun h=>(Ev.ofSome h)))))) (fun h=>(Ev.ofBif h (fun h=>(Ev.ofBif h (fun h=>(Ev.ofSome h)) (fun h=>(Ev.ofBif h (fun h=>(Ev.ofSome h)) (fun h=>(Ev.ofSome h)))))) (fun h=>(Ev.ofBif h (fun h=>(Ev.ofBif h (fun h=>(Ev.ofSome h)) (fun h=>(Ev.ofBif h (fun h=>(Ev.ofSome h)) (fun h=>(Ev.ofSome h)))))) (fun h=>(Ev.ofBif h (fun h=>(Ev.ofBif h (fun h=>(Ev.ofSome h)) (fun h=>(Ev.ofBif h (fun h=>(Ev.ofSome h)) (fun h=>(Ev.ofSome h)))))) (fun h=>(Ev.ofBif h (fun h=>(Ev.ofSome h)) (fun h=>(Ev.ofBif h (fun h=>(Ev.ofSome h)) (fun h=>(Ev.ofSome h)))))))))))))))))))
theorem QBM (a0 : Int) {r : (Int × Int)} (h : G3 a0 = some r) : Ev (fun n=>Qpw n a0) r:=by
 rw [G3] at h
 refine Ev.of_eq ?_ (fun n=>Qvp n a0)
 exact (Ev.ofBif h (fun h=>(Qg5 h)) (fun h=>(Qg5 h)))
theorem QxI : ∀ x ∈ QeP,Qh Tryz.prog x:=Qk
theorem Qzz : Qh Tryz.prog (Qg3):=by
 refine Qj (c:=Qg3) (by kernel_rfl) (by kernel_rfl : Tryz.prog.funcs[154]? = some Tryz.f154) (code:=Tryz.f154.body.getD .skip) (by kernel_rfl) (by kernel_rfl) (by kernel_rfl) (A:=Qg4) (I:=QeO) (QxI) ?_
 rintro ⟨a0,u⟩ y hy
 exact (QBM a0 hy).get
def QX (x2 : (List Int)) : List (List Int) → Nat → Option Int
 | [],k =>
   some (-1)
 | e :: rest,k =>
   bif decide (x2 = e) then
    some (k : Int)
   else
    QX x2 rest (k + 1)
def ZO (a0 : (List (List Int))) (a1 : (List Int)) : Option Int :=
 Zu a0 (QX a1 a0 0)
def Gq : Ctr:=⟨159,[(.list .str),.str],[I64],fun x=>ZO x.1 x.2.1⟩
def Gr : List (List Nat × Ann):=[([0,2],[.keep 0 0,.keep 0 1,.keep 0 7,.keep 0 8])]
def Ga : List (List Nat × Nat):=[]
def Gb : List Ctr:=[]
def HT (n : Nat) (a0 : (List (List Int))) (a1 : (List Int)) : Option Int:=run Tryz.prog Gr Ga (Qn Gb) Tryz.f159 (Tryz.f159.body.getD .skip) (Qp [I64]) n (Qt [(.list .str),.str] (a0,a1,()))
abbrev ZW (n : Nat) (x1 : (List (List Int))) (x2 : (List Int)) (x3 : Int) (x4 : Int) : Option Int:=lam Tryz.prog Gr Ga (Qn Gb) Tryz.f159 (Tryz.f159.body.getD .skip) (Qp [I64]) n [0,2] [.d (.list .str) x1,.d .str x2,.d I64 x3,.d I64 x4]
theorem Qcr (n : Nat) (a0 : (List (List Int))) (a1 : (List Int)) : HT n a0 a1 =
  ZW n a0 a1 (a0.length : Int) 0:=by kernel_rfl
theorem GJ (n : Nat) (x1 : (List (List Int))) (x2 : (List Int)) (x3 : Int) (x4 : Int) : ZW (n + 1) x1 x2 x3 x4 =
  bif decide (x4 < x3) then
   bif inB x4 x1.length then
    bif decide (x2 = rd x1 x4 (Ty.dflt .str)) then
     some x4
    else
     ZW n x1 x2 x3 (IntKind.wrap .i64 (x4 + 1))
   else none
  else
   some (-1):=by kernel_rfl
theorem QbH {x1 : (List (List Int))} {x2 : (List Int)} (hl : x1.length ≤ maxLen) : ∀ (rest : List (List Int)) (k : Nat) (r : Int),rest = x1.drop k → QX x2 rest k = some r → Ev (fun n=>ZW n x1 x2 (x1.length : Int) (k : Int)) r:=by
 intro rest
 induction rest with
 | nil =>
  intro k r hr h
  have hk:=QH hr
  rw [QX] at h
  refine Ev.step ?_ (fun n=>GJ n x1 x2 (x1.length : Int) (k : Int))
  rw [show decide ((k : Int) < (x1.length : Int)) = false from decide_eq_false (by omega)]
  exact Ev.neg rfl (Ev.ofSome h)
 | cons e rest ih =>
  intro k r hr h
  obtain ⟨hk,hx,hr2⟩:=Qz (d:=(Ty.dflt .str)) hr
  have hw:=Qy hl hk
  have ih2 : ∀ (r : Int),QX x2 rest (k + 1) = some r → Ev (fun n=>ZW n x1 x2 (x1.length : Int) (IntKind.wrap .i64 ((k : Int) + 1))) r:=by
   intro r h; rw [hw]; exact ih (k + 1) r hr2 h
  rw [QX] at h
  refine Ev.step ?_ (fun n=>GJ n x1 x2 (x1.length : Int) (k : Int))
  rw [show decide ((k : Int) < (x1.length : Int)) = true from decide_eq_true (by omega),Qx hk,hx]
  exact Ev.pos rfl (Ev.pos rfl (Ev.ofBif h (fun h=>(Ev.ofSome h)) (fun h=>(ih2  _ h))))
theorem QeQ (a0 : (List (List Int))) (a1 : (List Int)) {r : Int} (h : ZO a0 a1 = some r) : Ev (fun n=>HT n a0 a1) r:=by
 rw [ZO] at h
 refine Ev.of_eq ?_ (fun n=>Qcr n a0 a1)
 exact (Ev.ofLen h fun hl h=>QbH hl _ (0 : Nat) _ rfl h)
theorem Qdk : ∀ x ∈ Gb,Qh Tryz.prog x:=Qk
theorem Qen : Qh Tryz.prog (Gq):=by
 refine Qj (c:=Gq) (by kernel_rfl) (by kernel_rfl : Tryz.prog.funcs[159]? = some Tryz.f159) (code:=Tryz.f159.body.getD .skip) (by kernel_rfl) (by kernel_rfl) (by kernel_rfl) (A:=Gr) (I:=Ga) (Qdk) ?_
 rintro ⟨a0,a1,u⟩ y hy
 exact (QeQ a0 a1 hy).get
def Q0 (a0 : (List (List Int))) (a1 : (List Int)) : Option Bool :=
 Option.bind (ZO a0 a1) fun (y1 : Int) =>
 some (decide ((0 : Int) ≤ y1))
def VC : Ctr:=⟨155,[(.list .str),.str],[.bool],fun x=>Q0 x.1 x.2.1⟩
def XP : List (List Nat × Ann):=[]
def XF : List (List Nat × Nat):=[]
def XG : List Ctr:=[Gq]
def XQ (n : Nat) (a0 : (List (List Int))) (a1 : (List Int)) : Option Bool:=run Tryz.prog XP XF (Qn XG) Tryz.f155 (Tryz.f155.body.getD .skip) (Qp [.bool]) n (Qt [(.list .str),.str] (a0,a1,()))
theorem Qai (n : Nat) (a0 : (List (List Int))) (a1 : (List Int)) : XQ n a0 a1 =
  Option.bind (ZO a0 a1) fun (y1 : Int) =>
  some (decide ((0 : Int) ≤ y1)):=by kernel_rfl
theorem Qcs (a0 : (List (List Int))) (a1 : (List Int)) {r : Bool} (h : Q0 a0 a1 = some r) : Ev (fun n=>XQ n a0 a1) r:=by
 rw [Q0] at h
 refine Ev.of_eq ?_ (fun n=>Qai n a0 a1)
 exact (Ev.ofBind h fun y1 h=>(Ev.ofSome h))
theorem QaX : ∀ x ∈ XG,Qh Tryz.prog x:=(Qd Qen Qk)
theorem QbI : Qh Tryz.prog (VC):=by
 refine Qj (c:=VC) (by kernel_rfl) (by kernel_rfl : Tryz.prog.funcs[155]? = some Tryz.f155) (code:=Tryz.f155.body.getD .skip) (by kernel_rfl) (by kernel_rfl) (by kernel_rfl) (A:=XP) (I:=XF) (QaX) ?_
 rintro ⟨a0,a1,u⟩ y hy
 exact (Qcs a0 a1 hy).get
def Zf (x1 : (List Int)) : Nat → (List Int) → Int → Option ((List Int) × Bool)
 | 0,_,_=>none
 | m + 1,x2,x3 =>
   bif decide (x3 < (x1.length : Int)) then
    bif inB x3 x1.length then
     bif decide (rd x1 x3 0 = 42) then
      bif decide (((x2.length : Int) + (([(-1)] : List Int).length : Int)) * 8 ≤ Qv) && decide ((x2.length : Int) + (([(-1)] : List Int).length : Int) ≤ Qv) then
       Zf x1 m (x2 ++ ([(-1)] : List Int)) (IntKind.wrap .i64 (x3 + 1))
      else none
     else
      bif inB x3 x1.length then
       bif decide (rd x1 x3 0 = 92) then
        bif decide ((x1.length : Int) ≤ IntKind.wrap .i64 (x3 + 1)) then
         some ([],false)
        else
         bif inB (IntKind.wrap .i64 (x3 + 1)) x1.length then
          bif !decide (rd x1 (IntKind.wrap .i64 (x3 + 1)) 0 = 42) then
           bif inB (IntKind.wrap .i64 (x3 + 1)) x1.length then
            bif !decide (rd x1 (IntKind.wrap .i64 (x3 + 1)) 0 = 92) then
             some ([],false)
            else
             bif inB (IntKind.wrap .i64 (x3 + 1)) x1.length then
              bif decide (((x2.length : Int) + (([IntKind.wrap .i64 (rd x1 (IntKind.wrap .i64 (x3 + 1)) 0)] : List Int).length : Int)) * 8 ≤ Qv) && decide ((x2.length : Int) + (([IntKind.wrap .i64 (rd x1 (IntKind.wrap .i64 (x3 + 1)) 0)] : List Int).length : Int) ≤ Qv) then
               Zf x1 m (x2 ++ ([IntKind.wrap .i64 (rd x1 (IntKind.wrap .i64 (x3 + 1)) 0)] : List Int)) (IntKind.wrap .i64 ((IntKind.wrap .i64 (x3 + 1)) + 1))
              else none
             else none
           else none
          else
           bif inB (IntKind.wrap .i64 (x3 + 1)) x1.length then
            bif decide (((x2.length : Int) + (([IntKind.wrap .i64 (rd x1 (IntKind.wrap .i64 (x3 + 1)) 0)] : List Int).length : Int)) * 8 ≤ Qv) && decide ((x2.length : Int) + (([IntKind.wrap .i64 (rd x1 (IntKind.wrap .i64 (x3 + 1)) 0)] : List Int).length : Int) ≤ Qv) then
             Zf x1 m (x2 ++ ([IntKind.wrap .i64 (rd x1 (IntKind.wrap .i64 (x3 + 1)) 0)] : List Int)) (IntKind.wrap .i64 ((IntKind.wrap .i64 (x3 + 1)) + 1))
            else none
           else none
         else none
       else
        bif inB x3 x1.length then
         bif decide (((x2.length : Int) + (([IntKind.wrap .i64 (rd x1 x3 0)] : List Int).length : Int)) * 8 ≤ Qv) && decide ((x2.length : Int) + (([IntKind.wrap .i64 (rd x1 x3 0)] : List Int).length : Int) ≤ Qv) then
          Zf x1 m (x2 ++ ([IntKind.wrap .i64 (rd x1 x3 0)] : List Int)) (IntKind.wrap .i64 (x3 + 1))
         else none
        else none
      else none
    else none
   else
    some (x2,true)
def QeR (m : Nat) (a0 : (List Int)) : Option ((List Int) × Bool) :=
 Zf a0 m [] 0
def EN (a0 : (List Int)) : Option ((List Int) × Bool):=Qcw fun m=>QeR m a0
def QeS : Ctr:=⟨156,[.str],[(.list I64),.bool],fun x=>EN x.1⟩
def QeT : List (List Nat × Ann):=[([0,3],[.keep 0 0,.own 0 4 I64,.keep 0 5])]
def Qdl : List (List Nat × Nat):=[]
def Qdm : List Ctr:=[]
def QmT (n : Nat) (a0 : (List Int)) : Option ((List Int) × Bool):=run Tryz.prog QeT Qdl (Qn Qdm) Tryz.f156 (Tryz.f156.body.getD .skip) (Qp [(.list I64),.bool]) n (Qt [.str] (a0,()))
abbrev Yz (n : Nat) (x1 : (List Int)) (x2 : (List Int)) (x3 : Int) : Option ((List Int) × Bool):=lam Tryz.prog QeT Qdl (Qn Qdm) Tryz.f156 (Tryz.f156.body.getD .skip) (Qp [(.list I64),.bool]) n [0,3] [.d .str x1,.own 0 I64 x2,.d I64 x3]
theorem Qto (n : Nat) (a0 : (List Int)) : QmT n a0 =
  Yz n a0 [] 0:=by kernel_rfl
theorem QlG (n : Nat) (x1 : (List Int)) (x2 : (List Int)) (x3 : Int) : Yz (n + 1) x1 x2 x3 =
  bif decide (x3 < (x1.length : Int)) then
   bif inB x3 x1.length then
    bif decide (rd x1 x3 0 = 42) then
     bif decide (((x2.length : Int) + (([(-1)] : List Int).length : Int)) * 8 ≤ Qv) && decide ((x2.length : Int) + (([(-1)] : List Int).length : Int) ≤ Qv) then
      Yz n x1 (x2 ++ ([(-1)] : List Int)) (IntKind.wrap .i64 (x3 + 1))
     else none
    else
     bif inB x3 x1.length then
      bif decide (rd x1 x3 0 = 92) then
       bif decide ((x1.length : Int) ≤ IntKind.wrap .i64 (x3 + 1)) then
        some ([],false)
       else
        bif inB (IntKind.wrap .i64 (x3 + 1)) x1.length then
         bif !decide (rd x1 (IntKind.wrap .i64 (x3 + 1)) 0 = 42) then
          bif inB (IntKind.wrap .i64 (x3 + 1)) x1.length then
           bif !decide (rd x1 (IntKind.wrap .i64 (x3 + 1)) 0 = 92) then
            some ([],false)
           else
            bif inB (IntKind.wrap .i64 (x3 + 1)) x1.length then
             bif decide (((x2.length : Int) + (([IntKind.wrap .i64 (rd x1 (IntKind.wrap .i64 (x3 + 1)) 0)] : List Int).length : Int)) * 8 ≤ Qv) && decide ((x2.length : Int) + (([IntKind.wrap .i64 (rd x1 (IntKind.wrap .i64 (x3 + 1)) 0)] : List Int).length : Int) ≤ Qv) then
              Yz n x1 (x2 ++ ([IntKind.wrap .i64 (rd x1 (IntKind.wrap .i64 (x3 + 1)) 0)] : List Int)) (IntKind.wrap .i64 ((IntKind.wrap .i64 (x3 + 1)) + 1))
             else none
            else none
          else none
         else
          bif inB (IntKind.wrap .i64 (x3 + 1)) x1.length then
           bif decide (((x2.length : Int) + (([IntKind.wrap .i64 (rd x1 (IntKind.wrap .i64 (x3 + 1)) 0)] : List Int).length : Int)) * 8 ≤ Qv) && decide ((x2.length : Int) + (([IntKind.wrap .i64 (rd x1 (IntKind.wrap .i64 (x3 + 1)) 0)] : List Int).length : Int) ≤ Qv) then
            Yz n x1 (x2 ++ ([IntKind.wrap .i64 (rd x1 (IntKind.wrap .i64 (x3 + 1)) 0)] : List Int)) (IntKind.wrap .i64 ((IntKind.wrap .i64 (x3 + 1)) + 1))
           else none
          else none
        else none
      else
       bif inB x3 x1.length then
        bif decide (((x2.length : Int) + (([IntKind.wrap .i64 (rd x1 x3 0)] : List Int).length : Int)) * 8 ≤ Qv) && decide ((x2.length : Int) + (([IntKind.wrap .i64 (rd x1 x3 0)] : List Int).length : Int) ≤ Qv) then
         Yz n x1 (x2 ++ ([IntKind.wrap .i64 (rd x1 x3 0)] : List Int)) (IntKind.wrap .i64 (x3 + 1))
        else none
       else none
     else none
   else none
  else
   some (x2,true):=by kernel_rfl
theorem Qq5 {x1 : (List Int)} : ∀ (m : Nat) (x2 : (List Int)) (x3 : Int) (r : ((List Int) × Bool)),Zf x1 m x2 x3 = some r → Ev (fun n=>Yz n x1 x2 x3) r:=by
 intro m
 induction m with
 | zero=>intro x2 x3 r h; rw [Zf] at h; exact Ev.ofNone h
 | succ m ih2 =>
  intro x2 x3 r h
  rw [Zf] at h
  refine Ev.step ?_ (fun n=>QlG n x1 x2 x3)
  exact (Ev.ofBif h (fun h=>(Ev.ofBif h (fun h=>(Ev.ofBif h (fun h=>(Ev.ofBif h (fun h=>(ih2 _ _ _ h)) (fun h=>(Ev.ofNone h)))) (fun h=>(Ev.ofBif h (fun h=>(Ev.ofBif h (fun h=>(Ev.ofBif h (fun h=>(Ev.ofSome h)) (fun h=>(Ev.ofBif h (fun h=>(Ev.ofBif h (fun h=>(Ev.ofBif h (fun h=>(Ev.ofBif h (fun h=>(Ev.ofSome h)) (fun h=>(Ev.ofBif h (fun h=>(Ev.ofBif h (fun h=>(ih2 _ _ _ h)) (fun h=>(Ev.ofNone h)))) (fun h=>(Ev.ofNone h)))))) (fun h=>(Ev.ofNone h)))) (fun h=>(Ev.ofBif h (fun h=>(Ev.ofBif h (fun h=>(ih2 _ _ _ h)) (fun h=>(Ev.ofNone h)))) (fun h=>(Ev.ofNone h)))))) (fun h=>(Ev.ofNone h)))))) (fun h=>(Ev.ofBif h (fun h=>(Ev.ofBif h (fun h=>(ih2 _ _ _ h)) (fun h=>(Ev.ofNone h)))) (fun h=>(Ev.ofNone h)))))) (fun h=>(Ev.ofNone h)))))) (fun h=>(Ev.ofNone h)))) (fun h=>(Ev.ofSome h)))
theorem QzA {m : Nat} (a0 : (List Int)) {r : ((List Int) × Bool)} (h : QeR m a0 = some r) : Ev (fun n=>QmT n a0) r:=by
 rw [QeR] at h
 refine Ev.of_eq ?_ (fun n=>Qto n a0)
 exact (Qq5 _ _ _ _ h)
theorem Qvq : ∀ x ∈ Qdm,Qh Tryz.prog x:=Qk
theorem QxJ : Qh Tryz.prog (QeS):=by
 refine Qj (c:=QeS) (by kernel_rfl) (by kernel_rfl : Tryz.prog.funcs[156]? = some Tryz.f156) (code:=Tryz.f156.body.getD .skip) (by kernel_rfl) (by kernel_rfl) (by kernel_rfl) (A:=QeT) (I:=Qdl) (Qvq) ?_
 rintro ⟨a0,u⟩ y hy
 exact let ⟨_,h⟩:=(GL hy).get; (QzA a0 h).get
def JA (g0 : (List (List Int))) (x1 : Int) (x2 : Bool) (x3 : Qr) : Option Bool :=
 bif x2 then
  Option.bind (ZN x3.2.1) fun (y4 : Bool) =>
  some y4
 else
  bif decide (x1 = 20) then
   Option.bind (EN x3.2.1) fun (y5 : ((List Int) × Bool)) =>
   bif y5.2 then
    Option.bind (JK x3.2.1 0 200) fun (y6 : Bool) =>
    some y6
   else
    some false
  else
   some (decide (x3.2.1 = ([] : List Int)))
def YS (g0 : (List (List Int))) (x1 : Qr) : Option Bool :=
 bif decide (x1.1 = 1) then
  bif decide (x1.2.1 = ([] : List Int)) then
   Option.bind (Zp x1.2.2.1) fun (y2 : Bool) =>
   some y2
  else
   some false
 else
  bif decide (x1.1 = 3) then
   Option.bind (Q0 g0 x1.2.1) fun (y3 : Bool) =>
   some y3
  else
   bif decide (x1.1 = 4) then
    JA g0 x1.1 (decide (x1.1 = 4)) x1
   else
    bif decide (x1.1 = 5) then
     JA g0 x1.1 (decide (x1.1 = 5)) x1
    else
     JA g0 x1.1 (decide (x1.1 = 21)) x1
def V0 (g0 : (List (List Int))) (x1 : Qr) : Option Bool :=
 Option.bind (G3 x1.1) fun (y1 : (Int × Int)) =>
 bif decide (x1.2.2.2 < y1.1) then
  some false
 else
  bif decide (y1.2 < x1.2.2.2) then
   some false
  else
   bif !decide (x1.1 = 1) then
    bif !(QU x1.2.2.1) then
     some false
    else
     YS g0 x1
   else
    YS g0 x1
def Yi (g0 : (List (List Int))) (a0 : Qr) : Option Bool :=
 bif decide (a0.1 < 1) then
  some false
 else
  bif decide ((21 : Int) < a0.1) then
   some false
  else
   V0 g0 a0
def UU (g0 : (List (List Int))) : Ctr:=⟨141,[Qo],[.bool],fun x=>Yi g0 x.1⟩
def Gc : List (List Nat × Ann):=[([1,3],[.keep 0 1,.boxd 0 1 Qo]),([1,6],[.keep 0 1,.boxd 0 1 Qo]),([1,14],[.keep 0 1,.keep 0 43,.keep 0 60,.boxd 0 1 Qo])]
def VJ : List (List Nat × Nat):=[]
def VK (g0 : (List (List Int))) : List Ctr:=[Qg3,He,Xm,VC,Xl,QeS,EK]
def Qeo (g0 : (List (List Int))) (n : Nat) (a0 : Qr) : Option Bool:=WV Tryz.prog (Xt [(0,Qq (.list .str) g0)]) Gc VJ (Qn (VK g0)) Tryz.f141 (Tryz.f141.body.getD .skip) (QfX Tryz.prog Tryz.f141 (Qp [.bool])) n (Qt [Qo] (a0,()))
abbrev XO (g0 : (List (List Int))) (n : Nat) (x1 : Qr) : Option Bool:=Uy Tryz.prog (Xt [(0,Qq (.list .str) g0)]) Gc VJ (Qn (VK g0)) Tryz.f141 (Tryz.f141.body.getD .skip) (QfX Tryz.prog Tryz.f141 (Qp [.bool])) n [1,3] [.ptr 0 1 0,.agg (Qq Qo x1)]
abbrev V1 (g0 : (List (List Int))) (n : Nat) (x1 : Qr) : Option Bool:=Uy Tryz.prog (Xt [(0,Qq (.list .str) g0)]) Gc VJ (Qn (VK g0)) Tryz.f141 (Tryz.f141.body.getD .skip) (QfX Tryz.prog Tryz.f141 (Qp [.bool])) n [1,6] [.ptr 0 1 0,.agg (Qq Qo x1)]
abbrev Yv (g0 : (List (List Int))) (n : Nat) (x1 : Int) (x2 : Bool) (x3 : Qr) : Option Bool:=Uy Tryz.prog (Xt [(0,Qq (.list .str) g0)]) Gc VJ (Qn (VK g0)) Tryz.f141 (Tryz.f141.body.getD .skip) (QfX Tryz.prog Tryz.f141 (Qp [.bool])) n [1,14] [.ptr 0 1 0,.d I64 x1,.d .bool x2,.agg (Qq Qo x3)]
theorem Qj5 (g0 : (List (List Int))) (n : Nat) (a0 : Qr) : Qeo g0 n a0 =
  bif decide (a0.1 < 1) then
   some false
  else
   bif decide ((21 : Int) < a0.1) then
    some false
   else
    XO g0 n a0:=by kernel_rfl
theorem Qf6 (g0 : (List (List Int))) (n : Nat) (x1 : Qr) : XO g0 (n + 1) x1 =
  Option.bind (G3 x1.1) fun (y1 : (Int × Int)) =>
  bif decide (x1.2.2.2 < y1.1) then
   some false
  else
   bif decide (y1.2 < x1.2.2.2) then
    some false
   else
    bif !decide (x1.1 = 1) then
     bif !(QU x1.2.2.1) then
      some false
     else
      V1 g0 n x1
    else
     V1 g0 n x1:=by kernel_rfl
theorem Qf7 (g0 : (List (List Int))) (n : Nat) (x1 : Qr) : V1 g0 (n + 1) x1 =
  bif decide (x1.1 = 1) then
   bif decide (x1.2.1 = ([] : List Int)) then
    Option.bind (Zp x1.2.2.1) fun (y2 : Bool) =>
    some y2
   else
    some false
  else
   bif decide (x1.1 = 3) then
    Option.bind (Q0 g0 x1.2.1) fun (y3 : Bool) =>
    some y3
   else
    bif decide (x1.1 = 4) then
     Yv g0 n x1.1 (decide (x1.1 = 4)) x1
    else
     bif decide (x1.1 = 5) then
      Yv g0 n x1.1 (decide (x1.1 = 5)) x1
     else
      Yv g0 n x1.1 (decide (x1.1 = 21)) x1:=by kernel_rfl
theorem QeU (g0 : (List (List Int))) (n : Nat) (x1 : Int) (x2 : Bool) (x3 : Qr) : Yv g0 (n + 1) x1 x2 x3 =
  bif x2 then
   Option.bind (ZN x3.2.1) fun (y4 : Bool) =>
   some y4
  else
   bif decide (x1 = 20) then
    Option.bind (EN x3.2.1) fun (y5 : ((List Int) × Bool)) =>
    bif y5.2 then
     Option.bind (JK x3.2.1 0 200) fun (y6 : Bool) =>
     some y6
    else
     some false
   else
    some (decide (x3.2.1 = ([] : List Int))):=by kernel_rfl
theorem Xf {g0 : (List (List Int))} {x1 : Int} {x2 : Bool} {x3 : Qr} {r : Bool} (h : JA g0 x1 x2 x3 = some r) : Ev (fun n=>Yv g0 n x1 x2 x3) r:=by
 rw [JA] at h
 refine Ev.step ?_ (fun n=>QeU g0 n x1 x2 x3)
 exact (Ev.ofBif h (fun h=>(Ev.ofBind h fun y4 h=>(Ev.ofSome h))) (fun h=>(Ev.ofBif h (fun h=>(Ev.ofBind h fun y5 h=>(Ev.ofBif h (fun h=>(Ev.ofBind h fun y6 h=>(Ev.ofSome h))) (fun h=>(Ev.ofSome h))))) (fun h=>(Ev.ofSome h)))))
theorem Ek {g0 : (List (List Int))} {x1 : Qr} {r : Bool} (h : YS g0 x1 = some r) : Ev (fun n=>V1 g0 n x1) r:=by
 rw [YS] at h
 refine Ev.step ?_ (fun n=>Qf7 g0 n x1)
 exact (Ev.ofBif h (fun h=>(Ev.ofBif h (fun h=>(Ev.ofBind h fun y2 h=>(Ev.ofSome h))) (fun h=>(Ev.ofSome h)))) (fun h=>(Ev.ofBif h (fun h=>(Ev.ofBind h fun y3 h=>(Ev.ofSome h))) (fun h=>(Ev.ofBif h (fun h=>(Xf h)) (fun h=>(Ev.ofBif h (fun h=>(Xf h)) (fun h=>(Xf h)))))))))
theorem QiY {g0 : (List (List Int))} {x1 : Qr} {r : Bool} (h : V0 g0 x1 = some r) : Ev (fun n=>XO g0 n x1) r:=by
 rw [V0] at h
 refine Ev.step ?_ (fun n=>Qf6 g0 n x1)
 exact (Ev.ofBind h fun y1 h=>(Ev.ofBif h (fun h=>(Ev.ofSome h)) (fun h=>(Ev.ofBif h (fun h=>(Ev.ofSome h)) (fun h=>(Ev.ofBif h (fun h=>(Ev.ofBif h (fun h=>(Ev.ofSome h)) (fun h=>(Ek h)))) (fun h=>(Ek h))))))))
theorem Qpx {g0 : (List (List Int))} (a0 : Qr) {r : Bool} (h : Yi g0 a0 = some r) : Ev (fun n=>Qeo g0 n a0) r:=by
 rw [Yi] at h
 refine Ev.of_eq ?_ (fun n=>Qj5 g0 n a0)
 exact (Ev.ofBif h (fun h=>(Ev.ofSome h)) (fun h=>(Ev.ofBif h (fun h=>(Ev.ofSome h)) (fun h=>(QiY h)))))
theorem QlH (g0 : (List (List Int))) : ∀ x ∈ VK g0,CtrOkG Tryz.prog (Xt [(0,Qq (.list .str) g0)]) x:=(Qd Qzz.any (Qd QbA.any (Qd Wt.any (Qd QbI.any (Qd Wq.any (Qd QxJ.any (Qd QjM.any Qk)))))))
theorem QnQ (g0 : (List (List Int))) : CtrOkG Tryz.prog (Xt [(0,Qq (.list .str) g0)]) (UU g0):=by
 refine Qj (c:=UU g0) (by kernel_rfl) (by kernel_rfl : Tryz.prog.funcs[141]? = some Tryz.f141) (code:=Tryz.f141.body.getD .skip) (by kernel_rfl) (by kernel_rfl) (by kernel_rfl) (A:=Gc) (I:=VJ) (QlH g0) ?_
 rintro ⟨a0,u⟩ y hy
 exact (Qpx a0 hy).get
def Jc (Rc : (List Qr) → Int → Int → Option Int) (x1 : (List Qr)) (x3 : Int) (x4 : Int) (x6 : Qr) : Nat → Int → Int → Option Int
 | 0,_,_=>none
 | m + 1,x2,x5 =>
   bif decide (x5 < x4) then
    bif decide (x6.1 = 2) then
     bif decide ((x1.length : Int) ≤ x2) then
      some (-1)
     else
      bif inB x2 x1.length then
       bif !decide ((rd x1 x2 (Ty.dflt Qo)).1 = 1) then
        some (-1)
       else
        Option.bind (Rc x1 x2 (IntKind.wrap .i64 (x3 + 1))) fun (y1 : Int) =>
        bif decide (y1 < 0) then
         some (-1)
        else
         Jc Rc x1 x3 x4 x6 m y1 (IntKind.wrap .i64 (x5 + 1))
      else none
    else
     Option.bind (Rc x1 x2 (IntKind.wrap .i64 (x3 + 1))) fun (y2 : Int) =>
     bif decide (y2 < 0) then
      some (-1)
     else
      Jc Rc x1 x3 x4 x6 m y2 (IntKind.wrap .i64 (x5 + 1))
   else
    some x2
def HU (Rc : (List Qr) → Int → Int → Option Int) (m : Nat) (a0 : (List Qr)) (a1 : Int) (a2 : Int) : Option Int :=
 bif decide ((a0.length : Int) ≤ a1) then
  some (-1)
 else
  bif decide ((12 : Int) < a2) then
   some (-1)
  else
   bif inB a1 a0.length then
    Jc Rc a0 a2 ((((rd a0 a1 (Ty.dflt Qo)).2).2).2) (rd a0 a1 (Ty.dflt Qo)) m (IntKind.wrap .i64 (a1 + 1)) 0
   else none
def Gs : Nat → (List Qr) → Int → Int → Option Int
 | 0=>fun _ _ _=>none
 | d + 1=>fun a0 a1 a2=>Qcw fun m=>HU (Gs d) m a0 a1 a2
def Gt (a0 : (List Qr)) (a1 : Int) (a2 : Int) : Option Int:=Qcw fun d=>Gs d a0 a1 a2
def QmU : Ctr:=⟨142,[(.list Qo),I64,I64],[I64],fun x=>Gt x.1 x.2.1 x.2.2.1⟩
def QeV : List (List Nat × Ann):=[([0,6],[.keep 0 0,.keep 0 1,.keep 0 2,.keep 0 7,.keep 0 23,.keep 0 24,.boxd 0 7 Qo])]
def Qdn : List (List Nat × Nat):=[]
def Qdo (Rc : (List Qr) → Int → Int → Option Int) : List Ctr:=[⟨142,[(.list Qo),I64,I64],[I64],fun x=>Rc x.1 x.2.1 x.2.2.1⟩]
def QmV (Rc : (List Qr) → Int → Int → Option Int) (n : Nat) (a0 : (List Qr)) (a1 : Int) (a2 : Int) : Option Int:=run Tryz.prog QeV Qdn (Qn (Qdo Rc)) Tryz.f142 (Tryz.f142.body.getD .skip) (Qp [I64]) n (Qt [(.list Qo),I64,I64] (a0,a1,a2,()))
abbrev GD (Rc : (List Qr) → Int → Int → Option Int) (n : Nat) (x1 : (List Qr)) (x2 : Int) (x3 : Int) (x4 : Int) (x5 : Int) (x6 : Qr) : Option Int:=lam Tryz.prog QeV Qdn (Qn (Qdo Rc)) Tryz.f142 (Tryz.f142.body.getD .skip) (Qp [I64]) n [0,6] [.d (.list Qo) x1,.d I64 x2,.d I64 x3,.ptr 0 7 0,.d I64 x4,.d I64 x5,.agg (Qq Qo x6)]
theorem Qtp (Rc : (List Qr) → Int → Int → Option Int) (n : Nat) (a0 : (List Qr)) (a1 : Int) (a2 : Int) : QmV Rc n a0 a1 a2 =
  bif decide ((a0.length : Int) ≤ a1) then
   some (-1)
  else
   bif decide ((12 : Int) < a2) then
    some (-1)
   else
    bif inB a1 a0.length then
     GD Rc n a0 (IntKind.wrap .i64 (a1 + 1)) a2 ((((rd a0 a1 (Ty.dflt Qo)).2).2).2) 0 (rd a0 a1 (Ty.dflt Qo))
    else none:=by kernel_rfl
theorem QlI (Rc : (List Qr) → Int → Int → Option Int) (n : Nat) (x1 : (List Qr)) (x2 : Int) (x3 : Int) (x4 : Int) (x5 : Int) (x6 : Qr) : GD Rc (n + 1) x1 x2 x3 x4 x5 x6 =
  bif decide (x5 < x4) then
   bif decide (x6.1 = 2) then
    bif decide ((x1.length : Int) ≤ x2) then
     some (-1)
    else
     bif inB x2 x1.length then
      bif !decide ((rd x1 x2 (Ty.dflt Qo)).1 = 1) then
       some (-1)
      else
       Option.bind (Rc x1 x2 (IntKind.wrap .i64 (x3 + 1))) fun (y1 : Int) =>
       bif decide (y1 < 0) then
        some (-1)
       else
        GD Rc n x1 y1 x3 x4 (IntKind.wrap .i64 (x5 + 1)) x6
     else none
   else
    Option.bind (Rc x1 x2 (IntKind.wrap .i64 (x3 + 1))) fun (y2 : Int) =>
    bif decide (y2 < 0) then
     some (-1)
    else
     GD Rc n x1 y2 x3 x4 (IntKind.wrap .i64 (x5 + 1)) x6
  else
   some x2:=by kernel_rfl
theorem Qq6 {Rc : (List Qr) → Int → Int → Option Int} {x1 : (List Qr)} {x3 : Int} {x4 : Int} {x6 : Qr} : ∀ (m : Nat) (x2 : Int) (x5 : Int) (r : Int),Jc Rc x1 x3 x4 x6 m x2 x5 = some r → Ev (fun n=>GD Rc n x1 x2 x3 x4 x5 x6) r:=by
 intro m
 induction m with
 | zero=>intro x2 x5 r h; rw [Jc] at h; exact Ev.ofNone h
 | succ m ih2 =>
  intro x2 x5 r h
  rw [Jc] at h
  refine Ev.step ?_ (fun n=>QlI Rc n x1 x2 x3 x4 x5 x6)
  exact (Ev.ofBif h (fun h=>(Ev.ofBif h (fun h=>(Ev.ofBif h (fun h=>(Ev.ofSome h)) (fun h=>(Ev.ofBif h (fun h=>(Ev.ofBif h (fun h=>(Ev.ofSome h)) (fun h=>(Ev.ofBind h fun y1 h=>(Ev.ofBif h (fun h=>(Ev.ofSome h)) (fun h=>(ih2 _ _ _ h))))))) (fun h=>(Ev.ofNone h)))))) (fun h=>(Ev.ofBind h fun y2 h=>(Ev.ofBif h (fun h=>(Ev.ofSome h)) (fun h=>(ih2 _ _ _ h))))))) (fun h=>(Ev.ofSome h)))
theorem QzB {Rc : (List Qr) → Int → Int → Option Int} {m : Nat} (a0 : (List Qr)) (a1 : Int) (a2 : Int) {r : Int} (h : HU Rc m a0 a1 a2 = some r) : Ev (fun n=>QmV Rc n a0 a1 a2) r:=by
 rw [HU] at h
 refine Ev.of_eq ?_ (fun n=>Qtp Rc n a0 a1 a2)
 exact (Ev.ofBif h (fun h=>(Ev.ofSome h)) (fun h=>(Ev.ofBif h (fun h=>(Ev.ofSome h)) (fun h=>(Ev.ofBif h (fun h=>(Qq6 _ _ _ _ h)) (fun h=>(Ev.ofNone h)))))))
theorem Qvr : ∀ d,Qh Tryz.prog (⟨142,[(.list Qo),I64,I64],[I64],fun x=>Gs d x.1 x.2.1 x.2.2.1⟩ : Ctr):=by
 intro d
 induction d with
 | zero=>intro xs y hy; exact (nomatch (show (none : Option Int) = some y from hy))
 | succ d ih =>
  refine Qj (by kernel_rfl) (by kernel_rfl : Tryz.prog.funcs[142]? = some Tryz.f142) (code:=Tryz.f142.body.getD .skip) (by kernel_rfl) (by kernel_rfl) (by kernel_rfl) (A:=QeV) (I:=Qdn) (cs:=Qdo (Gs d)) (Qd ih Qk) ?_
  rintro ⟨a0,a1,a2,u⟩ y hy
  exact let ⟨_,h⟩:=(GL hy).get; (QzB a0 a1 a2 h).get
theorem QxK : Qh Tryz.prog (QmU):=by
 rintro ⟨a0,a1,a2,u⟩ y hy
 obtain ⟨d,hd⟩:=(GL hy).get
 exact Qvr d (a0,a1,a2,u) y hd
def QY (g0 : (List (List Int))) (x1 : (List Qr)) : List Qr → Nat → Option Bool
 | [],k =>
   bif false then
    some false
   else
    Option.bind (Gt x1 0 1) fun (y3 : Int) =>
    some (decide (y3 = (x1.length : Int)))
 | e :: rest,k =>
   Option.bind (Yi g0 (e)) fun (y1 : Bool) =>
   bif !(y1) then
    bif false then
     some false
    else
     bif decide ((0 : Int) ≤ (k : Int)) then
      some false
     else
      Option.bind (Gt x1 0 1) fun (y2 : Int) =>
      some (decide (y2 = (x1.length : Int)))
   else
    QY g0 x1 rest (k + 1)
def Gu (g0 : (List (List Int))) (a0 : (List Qr)) : Option Bool :=
 bif decide ((a0.length : Int) = 0) then
  some false
 else
  bif decide ((60 : Int) < (a0.length : Int)) then
   some false
  else
   Zu a0 (QY g0 a0 a0 0)
def QeW (g0 : (List (List Int))) : Ctr:=⟨118,[(.list Qo)],[.bool],fun x=>Gu g0 x.1⟩
def QeX : List (List Nat × Ann):=[([0,2,1002,1010],[.keep 0 0,.keep 0 11,.keep 2 0,.keep 2 1,.keep 2 7,.keep 2 8])]
def Qdp : List (List Nat × Nat):=[([1010],139),([1002,1010],153),([4005,1002,1010],140)]
def Qdq (g0 : (List (List Int))) : List Ctr:=[(UU g0),QmU]
def QmW (g0 : (List (List Int))) (n : Nat) (a0 : (List Qr)) : Option Bool:=WV Tryz.prog (Xt [(0,Qq (.list .str) g0)]) QeX Qdp (Qn (Qdq g0)) Tryz.f118 (Tryz.f118.body.getD .skip) (QfX Tryz.prog Tryz.f118 (Qp [.bool])) n (Qt [(.list Qo)] (a0,()))
abbrev Jv (g0 : (List (List Int))) (n : Nat) (x1 : (List Qr)) (x2 : Bool) (x3 : (List Qr)) (x4 : Int) (x5 : Int) : Option Bool:=Uy Tryz.prog (Xt [(0,Qq (.list .str) g0)]) QeX Qdp (Qn (Qdq g0)) Tryz.f118 (Tryz.f118.body.getD .skip) (QfX Tryz.prog Tryz.f118 (Qp [.bool])) n [0,2,1002,1010] [.d (.list Qo) x1,.d .bool x2,.d (.list Qo) x3,.fn 140 [],.d I64 x4,.d I64 x5]
theorem Qtq (g0 : (List (List Int))) (n : Nat) (a0 : (List Qr)) : QmW g0 n a0 =
  bif decide ((a0.length : Int) = 0) then
   some false
  else
   bif decide ((60 : Int) < (a0.length : Int)) then
    some false
   else
    Jv g0 n a0 false a0 (a0.length : Int) 0:=by kernel_rfl
theorem XH (g0 : (List (List Int))) (n : Nat) (x1 : (List Qr)) (x2 : Bool) (x3 : (List Qr)) (x4 : Int) (x5 : Int) : Jv g0 (n + 1) x1 x2 x3 x4 x5 =
  bif decide (x5 < x4) then
   bif inB x5 x3.length then
    Option.bind (Yi g0 (rd x3 x5 (Ty.dflt Qo))) fun (y1 : Bool) =>
    bif !(y1) then
     bif x2 then
      some false
     else
      bif decide ((0 : Int) ≤ x5) then
       some false
      else
       Option.bind (Gt x1 0 1) fun (y2 : Int) =>
       some (decide (y2 = (x1.length : Int)))
    else
     Jv g0 n x1 x2 x3 x4 (IntKind.wrap .i64 (x5 + 1))
   else none
  else
   bif x2 then
    some false
   else
    Option.bind (Gt x1 0 1) fun (y3 : Int) =>
    some (decide (y3 = (x1.length : Int))):=by kernel_rfl
theorem Qep {g0 : (List (List Int))} {x1 : (List Qr)} (hl : x1.length ≤ maxLen) : ∀ (rest : List Qr) (k : Nat) (r : Bool),rest = x1.drop k → QY g0 x1 rest k = some r → Ev (fun n=>Jv g0 n x1 false x1 (x1.length : Int) (k : Int)) r:=by
 intro rest
 induction rest with
 | nil =>
  intro k r hr h
  have hk:=QH hr
  rw [QY] at h
  refine Ev.step ?_ (fun n=>XH g0 n x1 false x1 (x1.length : Int) (k : Int))
  rw [show decide ((k : Int) < (x1.length : Int)) = false from decide_eq_false (by omega)]
  exact Ev.neg rfl (Ev.ofBif h (fun h=>(Ev.ofSome h)) (fun h=>(Ev.ofBind h fun y3 h=>(Ev.ofSome h))))
 | cons e rest ih =>
  intro k r hr h
  obtain ⟨hk,hx,hr2⟩:=Qz (d:=(Ty.dflt Qo)) hr
  have hw:=Qy hl hk
  have ih2 : ∀ (r : Bool),QY g0 x1 rest (k + 1) = some r → Ev (fun n=>Jv g0 n x1 false x1 (x1.length : Int) (IntKind.wrap .i64 ((k : Int) + 1))) r:=by
   intro r h; rw [hw]; exact ih (k + 1) r hr2 h
  rw [QY] at h
  refine Ev.step ?_ (fun n=>XH g0 n x1 false x1 (x1.length : Int) (k : Int))
  rw [show decide ((k : Int) < (x1.length : Int)) = true from decide_eq_true (by omega),Qx hk,hx]
  exact Ev.pos rfl (Ev.pos rfl (Ev.ofBind h fun y1 h=>(Ev.ofBif h (fun h=>(Ev.ofBif h (fun h=>(Ev.ofSome h)) (fun h=>(Ev.ofBif h (fun h=>(Ev.ofSome h)) (fun h=>(Ev.ofBind h fun y2 h=>(Ev.ofSome h))))))) (fun h=>(ih2  _ h)))))
theorem QzC {g0 : (List (List Int))} (a0 : (List Qr)) {r : Bool} (h : Gu g0 a0 = some r) : Ev (fun n=>QmW g0 n a0) r:=by
 rw [Gu] at h
 refine Ev.of_eq ?_ (fun n=>Qtq g0 n a0)
 exact (Ev.ofBif h (fun h=>(Ev.ofSome h)) (fun h=>(Ev.ofBif h (fun h=>(Ev.ofSome h)) (fun h=>(Ev.ofLen h fun hl h=>Qep hl _ (0 : Nat) _ rfl h)))))
theorem Qvs (g0 : (List (List Int))) : ∀ x ∈ Qdq g0,CtrOkG Tryz.prog (Xt [(0,Qq (.list .str) g0)]) x:=(Qd (QnQ g0) (Qd QxK.any Qk))
theorem QxL (g0 : (List (List Int))) : CtrOkG Tryz.prog (Xt [(0,Qq (.list .str) g0)]) (QeW g0):=by
 refine Qj (c:=QeW g0) (by kernel_rfl) (by kernel_rfl : Tryz.prog.funcs[118]? = some Tryz.f118) (code:=Tryz.f118.body.getD .skip) (by kernel_rfl) (by kernel_rfl) (by kernel_rfl) (A:=QeX) (I:=Qdp) (Qvs g0) ?_
 rintro ⟨a0,u⟩ y hy
 exact (QzC a0 hy).get
def Vt (g0 : (List (List Int))) (a0 : Qi) : Option Bool :=
 Option.bind (G1 a0.1) fun (y1 : Bool) =>
 bif y1 then
  Option.bind (Zy a0.2.2.1 false) fun (y2 : Bool) =>
  bif y2 then
   Option.bind (Zy a0.2.2.2.1 true) fun (y3 : Bool) =>
   bif y3 then
    Option.bind (Zy a0.2.2.2.2.1 false) fun (y4 : Bool) =>
    bif y4 then
     bif decide ((a0.2.2.2.2.2.length : Int) = 0) then
      some true
     else
      Option.bind (Gu g0 a0.2.2.2.2.2) fun (y5 : Bool) =>
      some y5
    else
     some false
   else
    some false
  else
   some false
 else
  some false
def QbJ (g0 : (List (List Int))) : Ctr:=⟨82,[Qg],[.bool],fun x=>Vt g0 x.1⟩
def Qig : List (List Nat × Ann):=[]
def Qg6 : List (List Nat × Nat):=[]
def Qg7 (g0 : (List (List Int))) : List Ctr:=[Qg1,Qdj,(QeW g0)]
def Qih (g0 : (List (List Int))) (n : Nat) (a0 : Qi) : Option Bool:=WV Tryz.prog (Xt [(0,Qq (.list .str) g0)]) Qig Qg6 (Qn (Qg7 g0)) Tryz.f82 (Tryz.f82.body.getD .skip) (QfX Tryz.prog Tryz.f82 (Qp [.bool])) n (Qt [Qg] (a0,()))
theorem Qpy (g0 : (List (List Int))) (n : Nat) (a0 : Qi) : Qih g0 n a0 =
  Option.bind (G1 a0.1) fun (y1 : Bool) =>
  bif y1 then
   Option.bind (Zy a0.2.2.1 false) fun (y2 : Bool) =>
   bif y2 then
    Option.bind (Zy a0.2.2.2.1 true) fun (y3 : Bool) =>
    bif y3 then
     Option.bind (Zy a0.2.2.2.2.1 false) fun (y4 : Bool) =>
     bif y4 then
      bif decide ((a0.2.2.2.2.2.length : Int) = 0) then
       some true
      else
       Option.bind (Gu g0 a0.2.2.2.2.2) fun (y5 : Bool) =>
       some y5
     else
      some false
    else
     some false
   else
    some false
  else
   some false:=by kernel_rfl
theorem Qvt {g0 : (List (List Int))} (a0 : Qi) {r : Bool} (h : Vt g0 a0 = some r) : Ev (fun n=>Qih g0 n a0) r:=by
 rw [Vt] at h
 refine Ev.of_eq ?_ (fun n=>Qpy g0 n a0)
 exact (Ev.ofBind h fun y1 h=>(Ev.ofBif h (fun h=>(Ev.ofBind h fun y2 h=>(Ev.ofBif h (fun h=>(Ev.ofBind h fun y3 h=>(Ev.ofBif h (fun h=>(Ev.ofBind h fun y4 h=>(Ev.ofBif h (fun h=>(Ev.ofBif h (fun h=>(Ev.ofSome h)) (fun h=>(Ev.ofBind h fun y5 h=>(Ev.ofSome h))))) (fun h=>(Ev.ofSome h))))) (fun h=>(Ev.ofSome h))))) (fun h=>(Ev.ofSome h))))) (fun h=>(Ev.ofSome h))))
theorem Qq7 (g0 : (List (List Int))) : ∀ x ∈ Qg7 g0,CtrOkG Tryz.prog (Xt [(0,Qq (.list .str) g0)]) x:=(Qd Qzy.any (Qd Qvo.any (Qd (QxL g0) Qk)))
theorem Qtr (g0 : (List (List Int))) : CtrOkG Tryz.prog (Xt [(0,Qq (.list .str) g0)]) (QbJ g0):=by
 refine Qj (c:=QbJ g0) (by kernel_rfl) (by kernel_rfl : Tryz.prog.funcs[82]? = some Tryz.f82) (code:=Tryz.f82.body.getD .skip) (by kernel_rfl) (by kernel_rfl) (by kernel_rfl) (A:=Qig) (I:=Qg6) (Qq7 g0) ?_
 rintro ⟨a0,u⟩ y hy
 exact (Qvt a0 hy).get
def QR (g0 : (List (List Int))) : List Qi → Nat → Option Bool
 | [],k =>
   some true
 | e :: rest,k =>
   Option.bind (Vt g0 (e)) fun (y2 : Bool) =>
   bif !(y2) then
    some (!decide ((0 : Int) ≤ (k : Int)))
   else
    QR g0 rest (k + 1)
def Jw (g0 : (List (List Int))) (a0 : (List Qi)) : Option Bool :=
 bif decide ((a0.length : Int) ≤ 40) then
  Option.bind (Gk a0) fun (y1 : Bool) =>
  bif y1 then
   Zu a0 (QR g0 a0 0)
  else
   some false
 else
  some false
def XI (g0 : (List (List Int))) : Ctr:=⟨40,[(.list Qg)],[.bool],fun x=>Jw g0 x.1⟩
def UV : List (List Nat × Ann):=[([0,2,1002,1009],[.keep 0 10,.keep 2 0,.keep 2 1,.keep 2 7,.keep 2 8])]
def H9 : List (List Nat × Nat):=[([1009],80),([1002,1009],115),([4005,1002,1009],81)]
def Ua (g0 : (List (List Int))) : List Ctr:=[QbF,(QbJ g0)]
def Qeq (g0 : (List (List Int))) (n : Nat) (a0 : (List Qi)) : Option Bool:=WV Tryz.prog (Xt [(0,Qq (.list .str) g0)]) UV H9 (Qn (Ua g0)) Tryz.f40 (Tryz.f40.body.getD .skip) (QfX Tryz.prog Tryz.f40 (Qp [.bool])) n (Qt [(.list Qg)] (a0,()))
abbrev ZD (g0 : (List (List Int))) (n : Nat) (x1 : Bool) (x2 : (List Qi)) (x3 : Int) (x4 : Int) : Option Bool:=Uy Tryz.prog (Xt [(0,Qq (.list .str) g0)]) UV H9 (Qn (Ua g0)) Tryz.f40 (Tryz.f40.body.getD .skip) (QfX Tryz.prog Tryz.f40 (Qp [.bool])) n [0,2,1002,1009] [.d .bool x1,.d (.list Qg) x2,.fn 81 [],.d I64 x3,.d I64 x4]
theorem Qj6 (g0 : (List (List Int))) (n : Nat) (a0 : (List Qi)) : Qeq g0 n a0 =
  bif decide ((a0.length : Int) ≤ 40) then
   Option.bind (Gk a0) fun (y1 : Bool) =>
   bif y1 then
    ZD g0 n true a0 (a0.length : Int) 0
   else
    some false
  else
   some false:=by kernel_rfl
theorem Gl (g0 : (List (List Int))) (n : Nat) (x1 : Bool) (x2 : (List Qi)) (x3 : Int) (x4 : Int) : ZD g0 (n + 1) x1 x2 x3 x4 =
  bif decide (x4 < x3) then
   bif inB x4 x2.length then
    Option.bind (Vt g0 (rd x2 x4 (Ty.dflt Qg))) fun (y2 : Bool) =>
    bif !(y2) then
     bif x1 then
      some (!decide ((0 : Int) ≤ x4))
     else
      some false
    else
     ZD g0 n x1 x2 x3 (IntKind.wrap .i64 (x4 + 1))
   else none
  else
   bif x1 then
    some true
   else
    some false:=by kernel_rfl
theorem Qaj {g0 : (List (List Int))} {x2 : (List Qi)} (hl : x2.length ≤ maxLen) : ∀ (rest : List Qi) (k : Nat) (r : Bool),rest = x2.drop k → QR g0 rest k = some r → Ev (fun n=>ZD g0 n true x2 (x2.length : Int) (k : Int)) r:=by
 intro rest
 induction rest with
 | nil =>
  intro k r hr h
  have hk:=QH hr
  rw [QR] at h
  refine Ev.step ?_ (fun n=>Gl g0 n true x2 (x2.length : Int) (k : Int))
  rw [show decide ((k : Int) < (x2.length : Int)) = false from decide_eq_false (by omega)]
  exact Ev.neg rfl (Ev.pos rfl (Ev.ofSome h))
 | cons e rest ih =>
  intro k r hr h
  obtain ⟨hk,hx,hr2⟩:=Qz (d:=(Ty.dflt Qg)) hr
  have hw:=Qy hl hk
  have ih2 : ∀ (r : Bool),QR g0 rest (k + 1) = some r → Ev (fun n=>ZD g0 n true x2 (x2.length : Int) (IntKind.wrap .i64 ((k : Int) + 1))) r:=by
   intro r h; rw [hw]; exact ih (k + 1) r hr2 h
  rw [QR] at h
  refine Ev.step ?_ (fun n=>Gl g0 n true x2 (x2.length : Int) (k : Int))
  rw [show decide ((k : Int) < (x2.length : Int)) = true from decide_eq_true (by omega),Qx hk,hx]
  exact Ev.pos rfl (Ev.pos rfl (Ev.ofBind h fun y2 h=>(Ev.ofBif h (fun h=>(Ev.pos rfl (Ev.ofSome h))) (fun h=>(ih2  _ h)))))
theorem Qpz {g0 : (List (List Int))} (a0 : (List Qi)) {r : Bool} (h : Jw g0 a0 = some r) : Ev (fun n=>Qeq g0 n a0) r:=by
 rw [Jw] at h
 refine Ev.of_eq ?_ (fun n=>Qj6 g0 n a0)
 exact (Ev.ofBif h (fun h=>(Ev.ofBind h fun y1 h=>(Ev.ofBif h (fun h=>(Ev.ofLen h fun hl h=>Qaj hl _ (0 : Nat) _ rfl h)) (fun h=>(Ev.ofSome h))))) (fun h=>(Ev.ofSome h)))
theorem QlJ (g0 : (List (List Int))) : ∀ x ∈ Ua g0,CtrOkG Tryz.prog (Xt [(0,Qq (.list .str) g0)]) x:=(Qd Qtl.any (Qd (Qtr g0) Qk))
theorem QcH (g0 : (List (List Int))) : CtrOkG Tryz.prog (Xt [(0,Qq (.list .str) g0)]) (XI g0):=by
 refine Qj (c:=XI g0) (by kernel_rfl) (by kernel_rfl : Tryz.prog.funcs[40]? = some Tryz.f40) (code:=Tryz.f40.body.getD .skip) (by kernel_rfl) (by kernel_rfl) (by kernel_rfl) (A:=UV) (I:=H9) (QlJ g0) ?_
 rintro ⟨a0,u⟩ y hy
 exact (Qpz a0 hy).get
def Qw (a0 : Ql) : (List Qb) :=
 bif decide (a0.1 = 1) then
  ([a0.2.1] : List Qb)
 else
  a0.2.2.1
def EO : Ctr:=⟨41,[Qf],[(.list Qa)],fun x=>some (Qw x.1)⟩
def QmX : List (List Nat × Ann):=[]
def Qj7 : List (List Nat × Nat):=[]
def Qj8 : List Ctr:=[]
def QmY (n : Nat) (a0 : Ql) : Option (List Qb):=run Tryz.prog QmX Qj7 (Qn Qj8) Tryz.f41 (Tryz.f41.body.getD .skip) (Qp [(.list Qa)]) n (Qt [Qf] (a0,()))
theorem Qts (n : Nat) (a0 : Ql) : QmY n a0 =
  bif decide (a0.1 = 1) then
   some ([a0.2.1] : List Qb)
  else
   some a0.2.2.1:=by kernel_rfl
theorem QzD (n : Nat) (a0 : Ql) : QmY n a0 = some (Qw a0):=(Qts n a0).trans (ZL rfl rfl)
theorem Qvu : ∀ x ∈ Qj8,Qh Tryz.prog x:=Qk
theorem Qj9 : Qh Tryz.prog (EO):=by
 refine Qj (c:=EO) (by kernel_rfl) (by kernel_rfl : Tryz.prog.funcs[41]? = some Tryz.f41) (code:=Tryz.f41.body.getD .skip) (by kernel_rfl) (by kernel_rfl) (by kernel_rfl) (A:=QmX) (I:=Qj7) (Qvu) ?_
 rintro ⟨a0,u⟩ y hy
 exact ⟨0,(QzD 0 a0).trans hy⟩
def Q8 (x6 : Qb) : List Qc → Nat → Option (Qc × Bool)
 | [],k =>
   some (((0,0,([] : List Int),([] : List Int)),[],[],[]),false)
 | e :: rest,k =>
   bif @decide (((e).1) = x6) (Ty.decEq Qa ((e).1) x6) then
    bif decide ((k : Int) < 0) then
     some (((0,0,([] : List Int),([] : List Int)),[],[],[]),false)
    else
     some ((((e).1),((e).2)),true)
   else
    Q8 x6 rest (k + 1)
def YF (a0 : (List Qc)) (a1 : Qb) : Option (Qc × Bool) :=
 Zu a0 (Q8 a1 a0 0)
def Uk : Ctr:=⟨42,[(.list Qe),Qa],[Qe,.bool],fun x=>YF x.1 x.2.1⟩
def QbK : List (List Nat × Ann):=[([0,2,1002],[.keep 0 0,.keep 0 4,.keep 1 0,.keep 1 1,.keep 1 7,.keep 1 8,.boxd 0 4 Qe,.boxd 0 3 Qa])]
def Qak : List (List Nat × Nat):=[([1002],83),([4005,1002],84)]
def Qal : List Ctr:=[]
def Qii (n : Nat) (a0 : (List Qc)) (a1 : Qb) : Option (Qc × Bool):=run Tryz.prog QbK Qak (Qn Qal) Tryz.f42 (Tryz.f42.body.getD .skip) (Qp [Qe,.bool]) n (Qt [(.list Qe),Qa] (a0,a1,()))
abbrev Yj (n : Nat) (x1 : (List Qc)) (x2 : (List Qc)) (x3 : Int) (x4 : Int) (x5 : Qc) (x6 : Qb) : Option (Qc × Bool):=lam Tryz.prog QbK Qak (Qn Qal) Tryz.f42 (Tryz.f42.body.getD .skip) (Qp [Qe,.bool]) n [0,2,1002] [.d (.list Qe) x1,.ptr 0 4 0,.d (.list Qe) x2,.fn 84 [.ptr 0 3 0],.d I64 x3,.d I64 x4,.agg (Qq Qe x5),.agg (Qq Qa x6)]
theorem QpA (n : Nat) (a0 : (List Qc)) (a1 : Qb) : Qii n a0 a1 =
  Yj n a0 a0 (a0.length : Int) 0 ((0,0,([] : List Int),([] : List Int)),[],[],[]) a1:=by kernel_rfl
theorem Hq (n : Nat) (x1 : (List Qc)) (x2 : (List Qc)) (x3 : Int) (x4 : Int) (x5 : Qc) (x6 : Qb) : Yj (n + 1) x1 x2 x3 x4 x5 x6 =
  bif decide (x4 < x3) then
   bif inB x4 x2.length then
    bif @decide (((rd x2 x4 (Ty.dflt Qe)).1) = x6) (Ty.decEq Qa ((rd x2 x4 (Ty.dflt Qe)).1) x6) then
     bif decide (x4 < 0) then
      some (((0,0,([] : List Int),([] : List Int)),[],[],[]),false)
     else
      bif inB x4 x1.length then
       some ((((rd x1 x4 (Ty.dflt Qe)).1),((rd x1 x4 (Ty.dflt Qe)).2)),true)
      else none
    else
     Yj n x1 x2 x3 (IntKind.wrap .i64 (x4 + 1)) x5 x6
   else none
  else
   some (((0,0,([] : List Int),([] : List Int)),[],[],[]),false):=by kernel_rfl
theorem Qg8 {x1 : (List Qc)} {x5 : Qc} {x6 : Qb} (hl : x1.length ≤ maxLen) : ∀ (rest : List Qc) (k : Nat) (r : (Qc × Bool)),rest = x1.drop k → Q8 x6 rest k = some r → Ev (fun n=>Yj n x1 x1 (x1.length : Int) (k : Int) x5 x6) r:=by
 intro rest
 induction rest with
 | nil =>
  intro k r hr h
  have hk:=QH hr
  rw [Q8] at h
  refine Ev.step ?_ (fun n=>Hq n x1 x1 (x1.length : Int) (k : Int) x5 x6)
  rw [show decide ((k : Int) < (x1.length : Int)) = false from decide_eq_false (by omega)]
  exact Ev.neg rfl (Ev.ofSome h)
 | cons e rest ih =>
  intro k r hr h
  obtain ⟨hk,hx,hr2⟩:=Qz (d:=(Ty.dflt Qe)) hr
  have hw:=Qy hl hk
  have ih2 : ∀ (r : (Qc × Bool)),Q8 x6 rest (k + 1) = some r → Ev (fun n=>Yj n x1 x1 (x1.length : Int) (IntKind.wrap .i64 ((k : Int) + 1)) x5 x6) r:=by
   intro r h; rw [hw]; exact ih (k + 1) r hr2 h
  rw [Q8] at h
  refine Ev.step ?_ (fun n=>Hq n x1 x1 (x1.length : Int) (k : Int) x5 x6)
  rw [show decide ((k : Int) < (x1.length : Int)) = true from decide_eq_true (by omega),Qx hk,hx]
  exact Ev.pos rfl (Ev.pos rfl (Ev.ofBif h (fun h=>(Ev.ofBif h (fun h=>(Ev.ofSome h)) (fun h=>(Ev.pos rfl (Ev.ofSome h))))) (fun h=>(ih2  _ h))))
theorem Qvv (a0 : (List Qc)) (a1 : Qb) {r : (Qc × Bool)} (h : YF a0 a1 = some r) : Ev (fun n=>Qii n a0 a1) r:=by
 rw [YF] at h
 refine Ev.of_eq ?_ (fun n=>QpA n a0 a1)
 exact (Ev.ofLen h fun hl h=>Qg8 hl _ (0 : Nat) _ rfl h)
theorem Qq8 : ∀ x ∈ Qal,Qh Tryz.prog x:=Qk
theorem Qg9 : Qh Tryz.prog (Uk):=by
 refine Qj (c:=Uk) (by kernel_rfl) (by kernel_rfl : Tryz.prog.funcs[42]? = some Tryz.f42) (code:=Tryz.f42.body.getD .skip) (by kernel_rfl) (by kernel_rfl) (by kernel_rfl) (A:=QbK) (I:=Qak) (Qq8) ?_
 rintro ⟨a0,a1,u⟩ y hy
 exact (Qvv a0 a1 hy).get
def Yk (a0 : (List Qb)) : Option (List Qb) :=
 bif decide (0 < a0.length) then
  bif decide (((([] : List Qb).length : Int) + (a0.length : Int)) * 48 ≤ Qv) && decide ((([] : List Qb).length : Int) + (a0.length : Int) ≤ Qv) then
   some (([] : List Qb) ++ a0)
  else none
 else
  Qof
   (some ([]))
   (bif decide (((([] : List Qb).length : Int) + (a0.length : Int)) * 48 ≤ Qv) && decide ((([] : List Qb).length : Int) + (a0.length : Int) ≤ Qv) then
    some (([] : List Qb) ++ a0)
   else none)
def Qij : Ctr:=⟨85,[(.list Qa)],[(.list Qa)],fun x=>Yk x.1⟩
def QyR : List (List Nat × Ann):=[]
def Qvw : List (List Nat × Nat):=[]
def Qvx : List Ctr:=[]
def QyS (n : Nat) (a0 : (List Qb)) : Option (List Qb):=run Tryz.prog QyR Qvw (Qn Qvx) Tryz.f85 (Tryz.f85.body.getD .skip) (Qp [(.list Qa)]) n (Qt [(.list Qa)] (a0,()))
theorem QBN (n : Nat) (a0 : (List Qb)) : QyS n a0 =
  bif decide (0 < a0.length) then
   bif decide (((([] : List Qb).length : Int) + (a0.length : Int)) * 48 ≤ Qv) && decide ((([] : List Qb).length : Int) + (a0.length : Int) ≤ Qv) then
    some (([] : List Qb) ++ a0)
   else none
  else
   Qof
    (some ([]))
    (bif decide (((([] : List Qb).length : Int) + (a0.length : Int)) * 48 ≤ Qv) && decide ((([] : List Qb).length : Int) + (a0.length : Int) ≤ Qv) then
     some (([] : List Qb) ++ a0)
    else none):=by kernel_rfl
theorem QEV (a0 : (List Qb)) {r : (List Qb)} (h : Yk a0 = some r) : Ev (fun n=>QyS n a0) r:=by
 rw [Yk] at h
 refine Ev.of_eq ?_ (fun n=>QBN n a0)
 exact (Ev.ofBif h (fun h=>(Ev.ofBif h (fun h=>(Ev.ofSome h)) (fun h=>(Ev.ofNone h)))) (fun h=>(Ev.ofBoth h (fun h=>(Ev.ofSome h)) (fun h=>(Ev.ofBif h (fun h=>(Ev.ofSome h)) (fun h=>(Ev.ofNone h)))))))
theorem QCJ : ∀ x ∈ Qvx,Qh Tryz.prog x:=Qk
theorem Qvy : Qh Tryz.prog (Qij):=by
 refine Qj (c:=Qij) (by kernel_rfl) (by kernel_rfl : Tryz.prog.funcs[85]? = some Tryz.f85) (code:=Tryz.f85.body.getD .skip) (by kernel_rfl) (by kernel_rfl) (by kernel_rfl) (A:=QyR) (I:=Qvw) (QCJ) ?_
 rintro ⟨a0,u⟩ y hy
 exact (QEV a0 hy).get
def QC (a0 : (List (List Int))) : Option (List (List Int)) :=
 bif decide (0 < a0.length) then
  bif decide (((([] : List (List Int)).length : Int) + (a0.length : Int)) * 16 ≤ Qv) && decide ((([] : List (List Int)).length : Int) + (a0.length : Int) ≤ Qv) then
   some (([] : List (List Int)) ++ a0)
  else none
 else
  Qof
   (some ([]))
   (bif decide (((([] : List (List Int)).length : Int) + (a0.length : Int)) * 16 ≤ Qv) && decide ((([] : List (List Int)).length : Int) + (a0.length : Int) ≤ Qv) then
    some (([] : List (List Int)) ++ a0)
   else none)
def YZ : Ctr:=⟨86,[(.list .str)],[(.list .str)],fun x=>QC x.1⟩
def HV : List (List Nat × Ann):=[]
def Hr : List (List Nat × Nat):=[]
def Hs : List Ctr:=[]
def HW (n : Nat) (a0 : (List (List Int))) : Option (List (List Int)):=run Tryz.prog HV Hr (Qn Hs) Tryz.f86 (Tryz.f86.body.getD .skip) (Qp [(.list .str)]) n (Qt [(.list .str)] (a0,()))
theorem Qct (n : Nat) (a0 : (List (List Int))) : HW n a0 =
  bif decide (0 < a0.length) then
   bif decide (((([] : List (List Int)).length : Int) + (a0.length : Int)) * 16 ≤ Qv) && decide ((([] : List (List Int)).length : Int) + (a0.length : Int) ≤ Qv) then
    some (([] : List (List Int)) ++ a0)
   else none
  else
   Qof
    (some ([]))
    (bif decide (((([] : List (List Int)).length : Int) + (a0.length : Int)) * 16 ≤ Qv) && decide ((([] : List (List Int)).length : Int) + (a0.length : Int) ≤ Qv) then
     some (([] : List (List Int)) ++ a0)
    else none):=by kernel_rfl
theorem QeY (a0 : (List (List Int))) {r : (List (List Int))} (h : QC a0 = some r) : Ev (fun n=>HW n a0) r:=by
 rw [QC] at h
 refine Ev.of_eq ?_ (fun n=>Qct n a0)
 exact (Ev.ofBif h (fun h=>(Ev.ofBif h (fun h=>(Ev.ofSome h)) (fun h=>(Ev.ofNone h)))) (fun h=>(Ev.ofBoth h (fun h=>(Ev.ofSome h)) (fun h=>(Ev.ofBif h (fun h=>(Ev.ofSome h)) (fun h=>(Ev.ofNone h)))))))
theorem Qdr : ∀ x ∈ Hs,Qh Tryz.prog x:=Qk
theorem Ht : Qh Tryz.prog (YZ):=by
 refine Qj (c:=YZ) (by kernel_rfl) (by kernel_rfl : Tryz.prog.funcs[86]? = some Tryz.f86) (code:=Tryz.f86.body.getD .skip) (by kernel_rfl) (by kernel_rfl) (by kernel_rfl) (A:=HV) (I:=Hr) (Qdr) ?_
 rintro ⟨a0,u⟩ y hy
 exact (QeY a0 hy).get
def ZX (a0 : Ql) : Option Ql :=
 Option.bind (Yk a0.2.2.1) fun (y1 : (List Qb)) =>
 Option.bind (QC a0.2.2.2) fun (y2 : (List (List Int))) =>
 some (a0.1,a0.2.1,y1,y2)
def QbL : Ctr:=⟨87,[Qf],[Qf],fun x=>ZX x.1⟩
def Qik : List (List Nat × Ann):=[]
def Qha : List (List Nat × Nat):=[]
def Qhb : List Ctr:=[Qij,YZ]
def Qil (n : Nat) (a0 : Ql) : Option Ql:=run Tryz.prog Qik Qha (Qn Qhb) Tryz.f87 (Tryz.f87.body.getD .skip) (Qp [Qf]) n (Qt [Qf] (a0,()))
theorem QpB (n : Nat) (a0 : Ql) : Qil n a0 =
  Option.bind (Yk a0.2.2.1) fun (y1 : (List Qb)) =>
  Option.bind (QC a0.2.2.2) fun (y2 : (List (List Int))) =>
  some (a0.1,a0.2.1,y1,y2):=by kernel_rfl
theorem Qvz (a0 : Ql) {r : Ql} (h : ZX a0 = some r) : Ev (fun n=>Qil n a0) r:=by
 rw [ZX] at h
 refine Ev.of_eq ?_ (fun n=>QpB n a0)
 exact (Ev.ofBind h fun y1 h=>(Ev.ofBind h fun y2 h=>(Ev.ofSome h)))
theorem Qq9 : ∀ x ∈ Qhb,Qh Tryz.prog x:=(Qd Qvy (Qd Ht Qk))
theorem Qtt : Qh Tryz.prog (QbL):=by
 refine Qj (c:=QbL) (by kernel_rfl) (by kernel_rfl : Tryz.prog.funcs[87]? = some Tryz.f87) (code:=Tryz.f87.body.getD .skip) (by kernel_rfl) (by kernel_rfl) (by kernel_rfl) (A:=Qik) (I:=Qha) (Qq9) ?_
 rintro ⟨a0,u⟩ y hy
 exact (Qvz a0 hy).get
def QZ (x5 : Int) (x6 : Int) (x7 : (List Int)) (x8 : (List Int)) (x9 : (List Qb)) (x10 : (List (List Int))) : List Ql → (List Ql) → Option Qc
 | [],x1 =>
   some ((x5,x6,x7,x8),x9,x10,x1)
 | e :: rest,x1 =>
   Option.bind (ZX (e)) fun (y3 : Ql) =>
   bif decide (((x1.length : Int) + (([y3] : List Ql).length : Int)) * 104 ≤ Qv) && decide ((x1.length : Int) + (([y3] : List Ql).length : Int) ≤ Qv) then
    QZ x5 x6 x7 x8 x9 x10 rest (x1 ++ ([y3] : List Ql))
   else none
def ZA (a0 : Qc) : Option Qc :=
 Option.bind (Yk a0.2.1) fun (y1 : (List Qb)) =>
 Option.bind (QC a0.2.2.1) fun (y2 : (List (List Int))) =>
 Zu a0.2.2.2 (QZ a0.1.1 a0.1.2.1 a0.1.2.2.1 a0.1.2.2.2 y1 y2 a0.2.2.2 [])
def QbM : Ctr:=⟨43,[Qe],[Qe],fun x=>ZA x.1⟩
def QbN : List (List Nat × Ann):=[([0,4],[.keep 0 1,.keep 0 2,.own 0 3 Qf,.keep 0 15,.keep 0 16,.keep 0 17,.box 0 1 7,.box 0 2 7])]
def Qam : List (List Nat × Nat):=[]
def Qan : List Ctr:=[Qij,YZ,QbL]
def Qim (n : Nat) (a0 : Qc) : Option Qc:=run Tryz.prog QbN Qam (Qn Qan) Tryz.f43 (Tryz.f43.body.getD .skip) (Qp [Qe]) n (Qt [Qe] (a0,()))
abbrev VL (n : Nat) (x1 : (List Ql)) (x2 : (List Ql)) (x3 : Int) (x4 : Int) (x5 : Int) (x6 : Int) (x7 : (List Int)) (x8 : (List Int)) (x9 : (List Qb)) (x10 : (List (List Int))) (x11 : (List Ql)) (x12 : Int) (x13 : Int) (x14 : (List Int)) (x15 : (List Int)) : Option Qc:=lam Tryz.prog QbN Qam (Qn Qan) Tryz.f43 (Tryz.f43.body.getD .skip) (Qp [Qe]) n [0,4] [.ptr 0 1 0,.ptr 0 2 0,.own 0 Qf x1,.d (.list Qf) x2,.d I64 x3,.d I64 x4,.agg [.d I64 x5,.d I64 x6,.d .str x7,.d .str x8,.d (.list Qa) x9,.d (.list .str) x10,.d (.list Qf) x11],.agg [.d I64 x12,.d I64 x13,.d .str x14,.d .str x15,.nils,.nils,.nils]]
theorem QpC (n : Nat) (a0 : Qc) : Qim n a0 =
  Option.bind (Yk a0.2.1) fun (y1 : (List Qb)) =>
  Option.bind (QC a0.2.2.1) fun (y2 : (List (List Int))) =>
  VL n [] a0.2.2.2 (a0.2.2.2.length : Int) 0 a0.1.1 a0.1.2.1 a0.1.2.2.1 a0.1.2.2.2 y1 y2 a0.2.2.2 0 0 ([] : List Int) ([] : List Int):=by kernel_rfl
theorem El (n : Nat) (x1 : (List Ql)) (x2 : (List Ql)) (x3 : Int) (x4 : Int) (x5 : Int) (x6 : Int) (x7 : (List Int)) (x8 : (List Int)) (x9 : (List Qb)) (x10 : (List (List Int))) (x11 : (List Ql)) (x12 : Int) (x13 : Int) (x14 : (List Int)) (x15 : (List Int)) : VL (n + 1) x1 x2 x3 x4 x5 x6 x7 x8 x9 x10 x11 x12 x13 x14 x15 =
  bif decide (x4 < x3) then
   bif inB x4 x2.length then
    Option.bind (ZX (rd x2 x4 (Ty.dflt Qf))) fun (y3 : Ql) =>
    bif decide (((x1.length : Int) + (([y3] : List Ql).length : Int)) * 104 ≤ Qv) && decide ((x1.length : Int) + (([y3] : List Ql).length : Int) ≤ Qv) then
     VL n (x1 ++ ([y3] : List Ql)) x2 x3 (IntKind.wrap .i64 (x4 + 1)) x5 x6 x7 x8 x9 x10 x11 x12 x13 x14 x15
    else none
   else none
  else
   some ((x5,x6,x7,x8),x9,x10,x1):=by kernel_rfl
theorem QnR {x2 : (List Ql)} {x5 : Int} {x6 : Int} {x7 : (List Int)} {x8 : (List Int)} {x9 : (List Qb)} {x10 : (List (List Int))} {x14 : (List Int)} (hl : x2.length ≤ maxLen) : ∀ (rest : List Ql) (k : Nat) (x1 : (List Ql)) (r : Qc),rest = x2.drop k → QZ x5 x6 x7 x8 x9 x10 rest x1 = some r → Ev (fun n=>VL n x1 x2 (x2.length : Int) (k : Int) x5 x6 x7 x8 x9 x10 x2 (0 : Int) (0 : Int) x14 x14) r:=by
 intro rest
 induction rest with
 | nil =>
  intro k x1 r hr h
  have hk:=QH hr
  rw [QZ] at h
  refine Ev.step ?_ (fun n=>El n x1 x2 (x2.length : Int) (k : Int) x5 x6 x7 x8 x9 x10 x2 (0 : Int) (0 : Int) x14 x14)
  rw [show decide ((k : Int) < (x2.length : Int)) = false from decide_eq_false (by omega)]
  exact Ev.neg rfl (Ev.ofSome h)
 | cons e rest ih =>
  intro k x1 r hr h
  obtain ⟨hk,hx,hr2⟩:=Qz (d:=(Ty.dflt Qf)) hr
  have hw:=Qy hl hk
  have ih2 : ∀ (z1 : (List Ql)) (r : Qc),QZ x5 x6 x7 x8 x9 x10 rest z1 = some r → Ev (fun n=>VL n z1 x2 (x2.length : Int) (IntKind.wrap .i64 ((k : Int) + 1)) x5 x6 x7 x8 x9 x10 x2 (0 : Int) (0 : Int) x14 x14) r:=by
   intro z1 r h; rw [hw]; exact ih (k + 1) z1 r hr2 h
  rw [QZ] at h
  refine Ev.step ?_ (fun n=>El n x1 x2 (x2.length : Int) (k : Int) x5 x6 x7 x8 x9 x10 x2 (0 : Int) (0 : Int) x14 x14)
  rw [show decide ((k : Int) < (x2.length : Int)) = true from decide_eq_true (by omega),Qx hk,hx]
  exact Ev.pos rfl (Ev.pos rfl (Ev.ofBind h fun y3 h=>(Ev.ofBif h (fun h=>(ih2 _ _ h)) (fun h=>(Ev.ofNone h)))))
theorem QvA (a0 : Qc) {r : Qc} (h : ZA a0 = some r) : Ev (fun n=>Qim n a0) r:=by
 rw [ZA] at h
 refine Ev.of_eq ?_ (fun n=>QpC n a0)
 exact (Ev.ofBind h fun y1 h=>(Ev.ofBind h fun y2 h=>(Ev.ofLen h fun hl h=>QnR hl _ (0 : Nat) _ _ rfl h)))
theorem Qra : ∀ x ∈ Qan,Qh Tryz.prog x:=(Qd Qvy (Qd Ht (Qd Qtt Qk)))
theorem Qtu : Qh Tryz.prog (QbM):=by
 refine Qj (c:=QbM) (by kernel_rfl) (by kernel_rfl : Tryz.prog.funcs[43]? = some Tryz.f43) (code:=Tryz.f43.body.getD .skip) (by kernel_rfl) (by kernel_rfl) (by kernel_rfl) (A:=QbN) (I:=Qam) (Qra) ?_
 rintro ⟨a0,u⟩ y hy
 exact (QvA a0 hy).get
def QN (g0 : (List (List Int))) (K1 : (List Qb) → Option (List Qc)) : List Qr → (List Qb) → Option (List Qc)
 | [],x2 =>
   K1 x2
 | e :: rest,x2 =>
   bif decide (((x2.length : Int) + (([((((e).2).2).1)] : List Qb).length : Int)) * 48 ≤ Qv) && decide ((x2.length : Int) + (([((((e).2).2).1)] : List Qb).length : Int) ≤ Qv) then
    QN g0 K1 rest (x2 ++ ([((((e).2).2).1)] : List Qb))
   else none
def QO (g0 : (List (List Int))) (K3 : (List Qb) → (List (Qb × Bool)) → Option (List Qc)) (x6 : (List (Qb × Bool))) : List Ql → (List Qb) → Option (List Qc)
 | [],x2 =>
   bif true && decide ((1 : Int) ≤ (x2.length : Int)) then
    K3 (cut x2 1 (x2.length : Int)) x6
   else none
 | e :: rest,x2 =>
   bif decide (((x2.length : Int) + ((Qw (e)).length : Int)) * 48 ≤ Qv) && decide ((x2.length : Int) + ((Qw (e)).length : Int) ≤ Qv) then
    QO g0 K3 x6 rest (x2 ++ (Qw (e)))
   else none
def QI (g0 : (List (List Int))) (x5 : (List (Qb × Bool))) : List Qc → (List Qc) → Option (List Qc)
 | [],x1 =>
   some x1
 | e :: rest,x1 =>
   bif QcJ Qa x5 ((e).1) false then
    Option.bind (ZA (((e).1),((e).2))) fun (y5 : Qc) =>
    bif decide (((x1.length : Int) + (([y5] : List Qc).length : Int)) * 120 ≤ Qv) && decide ((x1.length : Int) + (([y5] : List Qc).length : Int) ≤ Qv) then
     QI g0 x5 rest (x1 ++ ([y5] : List Qc))
    else none
   else
    QI g0 x5 rest x1
def QB (g0 : (List (List Int))) (x1 : (List Qc)) : Nat → (List Qb) → (List (Qb × Bool)) → Option (List Qc)
 | 0,_,_=>none
 | m + 1,x2,x3 =>
   bif decide ((0 : Int) < (x2.length : Int)) then
    bif inB 0 x2.length then
     bif !decide ((rd x2 0 (Ty.dflt Qa)).1 = 4) then
      bif true && decide ((1 : Int) ≤ (x2.length : Int)) then
       QB g0 x1 m (cut x2 1 (x2.length : Int)) x3
      else none
     else
      bif QcJ Qa x3 (rd x2 0 (Ty.dflt Qa)) false then
       bif true && decide ((1 : Int) ≤ (x2.length : Int)) then
        QB g0 x1 m (cut x2 1 (x2.length : Int)) x3
       else none
      else
       Option.bind (YF x1 (rd x2 0 (Ty.dflt Qa))) fun (y4 : (Qc × Bool)) =>
       bif decide (((x2.length : Int) + (y4.1.2.1.length : Int)) * 48 ≤ Qv) && decide ((x2.length : Int) + (y4.1.2.1.length : Int) ≤ Qv) then
        Zu y4.1.2.2.2 (QO g0 (fun s0 s1=>QB g0 x1 m s0 s1) (QiG Qa x3 (rd x2 0 (Ty.dflt Qa)) true) y4.1.2.2.2 (x2 ++ y4.1.2.1))
       else none
    else none
   else
    Zu x1 (QI g0 x3 x1 [])
def QK (g0 : (List (List Int))) (m : Nat) (x1 : (List Qc)) (x6 : (List (Qb × Bool))) : List Qi → (List Qb) → Option (List Qc)
 | [],x2 =>
   QB g0 x1 m x2 x6
 | e :: rest,x2 =>
   Zu ((((((e).2).2).2).2).2) (QN g0 (fun s0=>QK g0 m x1 x6 rest s0) ((((((e).2).2).2).2).2) x2)
def QV (g0 : (List (List Int))) (m : Nat) (x1 : (List Qc)) (x2 : (List Qi)) (x7 : (List (Qb × Bool))) : List Ql → (List Qb) → Option (List Qc)
 | [],x3 =>
   Zu x2 (QK g0 m x1 x7 x2 x3)
 | e :: rest,x3 =>
   bif decide (((x3.length : Int) + ((Qw (e)).length : Int)) * 48 ≤ Qv) && decide ((x3.length : Int) + ((Qw (e)).length : Int) ≤ Qv) then
    QV g0 m x1 x2 x7 rest (x3 ++ (Qw (e)))
   else none
def Zd (g0 : (List (List Int))) (m : Nat) (a0 : (List Qc)) (a1 : QD) (a2 : (List Qi)) : Option (List Qc) :=
 Option.bind (YE a0) fun (y1 : Bool) =>
 bif !(y1) then
  some ([])
 else
  Option.bind (Yh a1) fun (y2 : Bool) =>
  bif !(y2) then
   some ([])
  else
   Option.bind (Jw g0 a2) fun (y3 : Bool) =>
   bif !(y3) then
    some ([])
   else
    Zu a1.2.2.2.2 (QV g0 m a0 a2 [] a1.2.2.2.2 ([a1.1,a1.2.1,a1.2.2.1] : List Qb))
def Y4 (g0 : (List (List Int))) (a0 : (List Qc)) (a1 : QD) (a2 : (List Qi)) : Option (List Qc):=Qcw fun m=>Zd g0 m a0 a1 a2
def Qao (g0 : (List (List Int))) : Ctr:=⟨12,[(.list Qe),Qu,(.list Qg)],[(.list Qe)],fun x=>Y4 g0 x.1 x.2.1 x.2.2.1⟩
def Yl : List (List Nat × Ann):=[([0,6],[.keep 0 0,.keep 0 2,.keep 0 7,.own 0 8 Qa,.keep 0 45,.keep 0 46,.keep 0 47,.mapb 0 36 Qa .bool]),([0,11],[.keep 0 0,.keep 0 7,.own 0 8 Qa,.keep 0 56,.keep 0 57,.keep 0 58,.mapb 0 36 Qa .bool]),([0,14],[.keep 0 0,.keep 0 7,.own 0 8 Qa,.keep 0 56,.keep 0 57,.keep 0 58,.keep 0 63,.keep 0 64,.keep 0 65,.mapb 0 36 Qa .bool]),([0,19],[.keep 0 0,.keep 0 7,.own 0 8 Qa,.mapb 0 36 Qa .bool]),([0,27],[.keep 0 0,.keep 0 7,.own 0 8 Qa,.keep 0 105,.keep 0 106,.keep 0 107,.mapb 0 36 Qa .bool]),([0,33],[.keep 0 7,.own 0 20 Qe,.keep 0 116,.keep 0 117,.keep 0 118,.mapb 0 36 Qa .bool])]
def JZ : List (List Nat × Nat):=[]
def J0 (g0 : (List (List Int))) : List Ctr:=[Uh,HM,(XI g0),EO,Uk,QbM]
def Qhc (g0 : (List (List Int))) (n : Nat) (a0 : (List Qc)) (a1 : QD) (a2 : (List Qi)) : Option (List Qc):=WV Tryz.prog (Xt [(0,Qq (.list .str) g0)]) Yl JZ (Qn (J0 g0)) Tryz.f12 (Tryz.f12.body.getD .skip) (QfX Tryz.prog Tryz.f12 (Qp [(.list Qe)])) n (Qt [(.list Qe),Qu,(.list Qg)] (a0,a1,a2,()))
abbrev Vu (g0 : (List (List Int))) (n : Nat) (x1 : (List Qc)) (x2 : (List Qi)) (x3 : (List Qb)) (x4 : (List Ql)) (x5 : Int) (x6 : Int) (x7 : (List (Qb × Bool))) : Option (List Qc):=Uy Tryz.prog (Xt [(0,Qq (.list .str) g0)]) Yl JZ (Qn (J0 g0)) Tryz.f12 (Tryz.f12.body.getD .skip) (QfX Tryz.prog Tryz.f12 (Qp [(.list Qe)])) n [0,6] [.d (.list Qe) x1,.d (.list Qg) x2,.mp 0 36,.own 0 Qa x3,.d (.list Qf) x4,.d I64 x5,.d I64 x6,.d (.map Qa .bool) x7]
abbrev Ya (g0 : (List (List Int))) (n : Nat) (x1 : (List Qc)) (x2 : (List Qb)) (x3 : (List Qi)) (x4 : Int) (x5 : Int) (x6 : (List (Qb × Bool))) : Option (List Qc):=Uy Tryz.prog (Xt [(0,Qq (.list .str) g0)]) Yl JZ (Qn (J0 g0)) Tryz.f12 (Tryz.f12.body.getD .skip) (QfX Tryz.prog Tryz.f12 (Qp [(.list Qe)])) n [0,11] [.d (.list Qe) x1,.mp 0 36,.own 0 Qa x2,.d (.list Qg) x3,.d I64 x4,.d I64 x5,.d (.map Qa .bool) x6]
abbrev Vg (g0 : (List (List Int))) (n : Nat) (x1 : (List Qc)) (x2 : (List Qb)) (x3 : (List Qi)) (x4 : Int) (x5 : Int) (x6 : (List Qr)) (x7 : Int) (x8 : Int) (x9 : (List (Qb × Bool))) : Option (List Qc):=Uy Tryz.prog (Xt [(0,Qq (.list .str) g0)]) Yl JZ (Qn (J0 g0)) Tryz.f12 (Tryz.f12.body.getD .skip) (QfX Tryz.prog Tryz.f12 (Qp [(.list Qe)])) n [0,14] [.d (.list Qe) x1,.mp 0 36,.own 0 Qa x2,.d (.list Qg) x3,.d I64 x4,.d I64 x5,.d (.list Qo) x6,.d I64 x7,.d I64 x8,.d (.map Qa .bool) x9]
abbrev Jj (g0 : (List (List Int))) (n : Nat) (x1 : (List Qc)) (x2 : (List Qb)) (x3 : (List (Qb × Bool))) : Option (List Qc):=Uy Tryz.prog (Xt [(0,Qq (.list .str) g0)]) Yl JZ (Qn (J0 g0)) Tryz.f12 (Tryz.f12.body.getD .skip) (QfX Tryz.prog Tryz.f12 (Qp [(.list Qe)])) n [0,19] [.d (.list Qe) x1,.mp 0 36,.own 0 Qa x2,.d (.map Qa .bool) x3]
abbrev Vh (g0 : (List (List Int))) (n : Nat) (x1 : (List Qc)) (x2 : (List Qb)) (x3 : (List Ql)) (x4 : Int) (x5 : Int) (x6 : (List (Qb × Bool))) : Option (List Qc):=Uy Tryz.prog (Xt [(0,Qq (.list .str) g0)]) Yl JZ (Qn (J0 g0)) Tryz.f12 (Tryz.f12.body.getD .skip) (QfX Tryz.prog Tryz.f12 (Qp [(.list Qe)])) n [0,27] [.d (.list Qe) x1,.mp 0 36,.own 0 Qa x2,.d (.list Qf) x3,.d I64 x4,.d I64 x5,.d (.map Qa .bool) x6]
abbrev Yb (g0 : (List (List Int))) (n : Nat) (x1 : (List Qc)) (x2 : (List Qc)) (x3 : Int) (x4 : Int) (x5 : (List (Qb × Bool))) : Option (List Qc):=Uy Tryz.prog (Xt [(0,Qq (.list .str) g0)]) Yl JZ (Qn (J0 g0)) Tryz.f12 (Tryz.f12.body.getD .skip) (QfX Tryz.prog Tryz.f12 (Qp [(.list Qe)])) n [0,33] [.mp 0 36,.own 0 Qe x1,.d (.list Qe) x2,.d I64 x3,.d I64 x4,.d (.map Qa .bool) x5]
theorem QnS (g0 : (List (List Int))) (n : Nat) (a0 : (List Qc)) (a1 : QD) (a2 : (List Qi)) : Qhc g0 n a0 a1 a2 =
  Option.bind (YE a0) fun (y1 : Bool) =>
  bif !(y1) then
   some ([])
  else
   Option.bind (Yh a1) fun (y2 : Bool) =>
   bif !(y2) then
    some ([])
   else
    Option.bind (Jw g0 a2) fun (y3 : Bool) =>
    bif !(y3) then
     some ([])
    else
     Vu g0 n a0 a2 ([a1.1,a1.2.1,a1.2.2.1] : List Qb) a1.2.2.2.2 (a1.2.2.2.2.length : Int) 0 []:=by kernel_rfl
theorem WQ (g0 : (List (List Int))) (n : Nat) (x1 : (List Qc)) (x2 : (List Qi)) (x3 : (List Qb)) (x4 : (List Ql)) (x5 : Int) (x6 : Int) (x7 : (List (Qb × Bool))) : Vu g0 (n + 1) x1 x2 x3 x4 x5 x6 x7 =
  bif decide (x6 < x5) then
   bif inB x6 x4.length then
    bif decide (((x3.length : Int) + ((Qw (rd x4 x6 (Ty.dflt Qf))).length : Int)) * 48 ≤ Qv) && decide ((x3.length : Int) + ((Qw (rd x4 x6 (Ty.dflt Qf))).length : Int) ≤ Qv) then
     Vu g0 n x1 x2 (x3 ++ (Qw (rd x4 x6 (Ty.dflt Qf)))) x4 x5 (IntKind.wrap .i64 (x6 + 1)) x7
    else none
   else none
  else
   Ya g0 n x1 x3 x2 (x2.length : Int) 0 x7:=by kernel_rfl
theorem UW (g0 : (List (List Int))) (n : Nat) (x1 : (List Qc)) (x2 : (List Qb)) (x3 : (List Qi)) (x4 : Int) (x5 : Int) (x6 : (List (Qb × Bool))) : Ya g0 (n + 1) x1 x2 x3 x4 x5 x6 =
  bif decide (x5 < x4) then
   bif inB x5 x3.length then
    Vg g0 n x1 x2 x3 x4 x5 ((((((rd x3 x5 (Ty.dflt Qg)).2).2).2).2).2) (((((((rd x3 x5 (Ty.dflt Qg)).2).2).2).2).2).length : Int) 0 x6
   else none
  else
   Jj g0 n x1 x2 x6:=by kernel_rfl
theorem UX (g0 : (List (List Int))) (n : Nat) (x1 : (List Qc)) (x2 : (List Qb)) (x3 : (List Qi)) (x4 : Int) (x5 : Int) (x6 : (List Qr)) (x7 : Int) (x8 : Int) (x9 : (List (Qb × Bool))) : Vg g0 (n + 1) x1 x2 x3 x4 x5 x6 x7 x8 x9 =
  bif decide (x8 < x7) then
   bif inB x8 x6.length then
    bif decide (((x2.length : Int) + (([((((rd x6 x8 (Ty.dflt Qo)).2).2).1)] : List Qb).length : Int)) * 48 ≤ Qv) && decide ((x2.length : Int) + (([((((rd x6 x8 (Ty.dflt Qo)).2).2).1)] : List Qb).length : Int) ≤ Qv) then
     Vg g0 n x1 (x2 ++ ([((((rd x6 x8 (Ty.dflt Qo)).2).2).1)] : List Qb)) x3 x4 x5 x6 x7 (IntKind.wrap .i64 (x8 + 1)) x9
    else none
   else none
  else
   Ya g0 n x1 x2 x3 x4 (IntKind.wrap .i64 (x5 + 1)) x9:=by kernel_rfl
theorem Qhd (g0 : (List (List Int))) (n : Nat) (x1 : (List Qc)) (x2 : (List Qb)) (x3 : (List (Qb × Bool))) : Jj g0 (n + 1) x1 x2 x3 =
  bif decide ((0 : Int) < (x2.length : Int)) then
   bif inB 0 x2.length then
    bif !decide ((rd x2 0 (Ty.dflt Qa)).1 = 4) then
     bif true && decide ((1 : Int) ≤ (x2.length : Int)) then
      Jj g0 n x1 (cut x2 1 (x2.length : Int)) x3
     else none
    else
     bif QcJ Qa x3 (rd x2 0 (Ty.dflt Qa)) false then
      bif true && decide ((1 : Int) ≤ (x2.length : Int)) then
       Jj g0 n x1 (cut x2 1 (x2.length : Int)) x3
      else none
     else
      Option.bind (YF x1 (rd x2 0 (Ty.dflt Qa))) fun (y4 : (Qc × Bool)) =>
      bif decide (((x2.length : Int) + (y4.1.2.1.length : Int)) * 48 ≤ Qv) && decide ((x2.length : Int) + (y4.1.2.1.length : Int) ≤ Qv) then
       Vh g0 n x1 (x2 ++ y4.1.2.1) y4.1.2.2.2 (y4.1.2.2.2.length : Int) 0 (QiG Qa x3 (rd x2 0 (Ty.dflt Qa)) true)
      else none
   else none
  else
   Yb g0 n [] x1 (x1.length : Int) 0 x3:=by kernel_rfl
theorem UY (g0 : (List (List Int))) (n : Nat) (x1 : (List Qc)) (x2 : (List Qb)) (x3 : (List Ql)) (x4 : Int) (x5 : Int) (x6 : (List (Qb × Bool))) : Vh g0 (n + 1) x1 x2 x3 x4 x5 x6 =
  bif decide (x5 < x4) then
   bif inB x5 x3.length then
    bif decide (((x2.length : Int) + ((Qw (rd x3 x5 (Ty.dflt Qf))).length : Int)) * 48 ≤ Qv) && decide ((x2.length : Int) + ((Qw (rd x3 x5 (Ty.dflt Qf))).length : Int) ≤ Qv) then
     Vh g0 n x1 (x2 ++ (Qw (rd x3 x5 (Ty.dflt Qf)))) x3 x4 (IntKind.wrap .i64 (x5 + 1)) x6
    else none
   else none
  else
   bif true && decide ((1 : Int) ≤ (x2.length : Int)) then
    Jj g0 n x1 (cut x2 1 (x2.length : Int)) x6
   else none:=by kernel_rfl
theorem UZ (g0 : (List (List Int))) (n : Nat) (x1 : (List Qc)) (x2 : (List Qc)) (x3 : Int) (x4 : Int) (x5 : (List (Qb × Bool))) : Yb g0 (n + 1) x1 x2 x3 x4 x5 =
  bif decide (x4 < x3) then
   bif inB x4 x2.length then
    bif QcJ Qa x5 ((rd x2 x4 (Ty.dflt Qe)).1) false then
     Option.bind (ZA (((rd x2 x4 (Ty.dflt Qe)).1),((rd x2 x4 (Ty.dflt Qe)).2))) fun (y5 : Qc) =>
     bif decide (((x1.length : Int) + (([y5] : List Qc).length : Int)) * 120 ≤ Qv) && decide ((x1.length : Int) + (([y5] : List Qc).length : Int) ≤ Qv) then
      Yb g0 n (x1 ++ ([y5] : List Qc)) x2 x3 (IntKind.wrap .i64 (x4 + 1)) x5
     else none
    else
     Yb g0 n x1 x2 x3 (IntKind.wrap .i64 (x4 + 1)) x5
   else none
  else
   some x1:=by kernel_rfl
theorem Qka {g0 : (List (List Int))} {K1 : (List Qb) → Option (List Qc)} {x1 : (List Qc)} {x3 : (List Qi)} {x4 : Int} {x5 : Int} {x6 : (List Qr)} {x9 : (List (Qb × Bool))} (hl : x6.length ≤ maxLen) (hK1 : ∀ (z2 : (List Qb)) (r : (List Qc)),K1 z2 = some r → Ev (fun n=>Ya g0 n x1 z2 x3 x4 (IntKind.wrap .i64 (x5 + 1)) x9) r) : ∀ (rest : List Qr) (k : Nat) (x2 : (List Qb)) (r : (List Qc)),rest = x6.drop k → QN g0 K1 rest x2 = some r → Ev (fun n=>Vg g0 n x1 x2 x3 x4 x5 x6 (x6.length : Int) (k : Int) x9) r:=by
 intro rest
 induction rest with
 | nil =>
  intro k x2 r hr h
  have hk:=QH hr
  rw [QN] at h
  refine Ev.step ?_ (fun n=>UX g0 n x1 x2 x3 x4 x5 x6 (x6.length : Int) (k : Int) x9)
  rw [show decide ((k : Int) < (x6.length : Int)) = false from decide_eq_false (by omega)]
  exact Ev.neg rfl (hK1 _ _ h)
 | cons e rest ih =>
  intro k x2 r hr h
  obtain ⟨hk,hx,hr2⟩:=Qz (d:=(Ty.dflt Qo)) hr
  have hw:=Qy hl hk
  have ih2 : ∀ (z2 : (List Qb)) (r : (List Qc)),QN g0 K1 rest z2 = some r → Ev (fun n=>Vg g0 n x1 z2 x3 x4 x5 x6 (x6.length : Int) (IntKind.wrap .i64 ((k : Int) + 1)) x9) r:=by
   intro z2 r h; rw [hw]; exact ih (k + 1) z2 r hr2 h
  rw [QN] at h
  refine Ev.step ?_ (fun n=>UX g0 n x1 x2 x3 x4 x5 x6 (x6.length : Int) (k : Int) x9)
  rw [show decide ((k : Int) < (x6.length : Int)) = true from decide_eq_true (by omega),Qx hk,hx]
  exact Ev.pos rfl (Ev.pos rfl (Ev.ofBif h (fun h=>(ih2 _ _ h)) (fun h=>(Ev.ofNone h))))
theorem Qkb {g0 : (List (List Int))} {K3 : (List Qb) → (List (Qb × Bool)) → Option (List Qc)} {x1 : (List Qc)} {x3 : (List Ql)} {x6 : (List (Qb × Bool))} (hl : x3.length ≤ maxLen) (hK3 : ∀ (z2 : (List Qb)) (z3 : (List (Qb × Bool))) (r : (List Qc)),K3 z2 z3 = some r → Ev (fun n=>Jj g0 n x1 z2 z3) r) : ∀ (rest : List Ql) (k : Nat) (x2 : (List Qb)) (r : (List Qc)),rest = x3.drop k → QO g0 K3 x6 rest x2 = some r → Ev (fun n=>Vh g0 n x1 x2 x3 (x3.length : Int) (k : Int) x6) r:=by
 intro rest
 induction rest with
 | nil =>
  intro k x2 r hr h
  have hk:=QH hr
  rw [QO] at h
  refine Ev.step ?_ (fun n=>UY g0 n x1 x2 x3 (x3.length : Int) (k : Int) x6)
  rw [show decide ((k : Int) < (x3.length : Int)) = false from decide_eq_false (by omega)]
  exact Ev.neg rfl (Ev.ofBif h (fun h=>(hK3 _ _ _ h)) (fun h=>(Ev.ofNone h)))
 | cons e rest ih =>
  intro k x2 r hr h
  obtain ⟨hk,hx,hr2⟩:=Qz (d:=(Ty.dflt Qf)) hr
  have hw:=Qy hl hk
  have ih2 : ∀ (z2 : (List Qb)) (r : (List Qc)),QO g0 K3 x6 rest z2 = some r → Ev (fun n=>Vh g0 n x1 z2 x3 (x3.length : Int) (IntKind.wrap .i64 ((k : Int) + 1)) x6) r:=by
   intro z2 r h; rw [hw]; exact ih (k + 1) z2 r hr2 h
  rw [QO] at h
  refine Ev.step ?_ (fun n=>UY g0 n x1 x2 x3 (x3.length : Int) (k : Int) x6)
  rw [show decide ((k : Int) < (x3.length : Int)) = true from decide_eq_true (by omega),Qx hk,hx]
  exact Ev.pos rfl (Ev.pos rfl (Ev.ofBif h (fun h=>(ih2 _ _ h)) (fun h=>(Ev.ofNone h))))
theorem Qkc {g0 : (List (List Int))} {x2 : (List Qc)} {x5 : (List (Qb × Bool))} (hl : x2.length ≤ maxLen) : ∀ (rest : List Qc) (k : Nat) (x1 : (List Qc)) (r : (List Qc)),rest = x2.drop k → QI g0 x5 rest x1 = some r → Ev (fun n=>Yb g0 n x1 x2 (x2.length : Int) (k : Int) x5) r:=by
 intro rest
 induction rest with
 | nil =>
  intro k x1 r hr h
  have hk:=QH hr
  rw [QI] at h
  refine Ev.step ?_ (fun n=>UZ g0 n x1 x2 (x2.length : Int) (k : Int) x5)
  rw [show decide ((k : Int) < (x2.length : Int)) = false from decide_eq_false (by omega)]
  exact Ev.neg rfl (Ev.ofSome h)
 | cons e rest ih =>
  intro k x1 r hr h
  obtain ⟨hk,hx,hr2⟩:=Qz (d:=(Ty.dflt Qe)) hr
  have hw:=Qy hl hk
  have ih2 : ∀ (z1 : (List Qc)) (r : (List Qc)),QI g0 x5 rest z1 = some r → Ev (fun n=>Yb g0 n z1 x2 (x2.length : Int) (IntKind.wrap .i64 ((k : Int) + 1)) x5) r:=by
   intro z1 r h; rw [hw]; exact ih (k + 1) z1 r hr2 h
  rw [QI] at h
  refine Ev.step ?_ (fun n=>UZ g0 n x1 x2 (x2.length : Int) (k : Int) x5)
  rw [show decide ((k : Int) < (x2.length : Int)) = true from decide_eq_true (by omega),Qx hk,hx]
  exact Ev.pos rfl (Ev.pos rfl (Ev.ofBif h (fun h=>(Ev.ofBind h fun y5 h=>(Ev.ofBif h (fun h=>(ih2 _ _ h)) (fun h=>(Ev.ofNone h))))) (fun h=>(ih2 _ _ h))))
theorem Qkd {g0 : (List (List Int))} {x1 : (List Qc)} : ∀ (m : Nat) (x2 : (List Qb)) (x3 : (List (Qb × Bool))) (r : (List Qc)),QB g0 x1 m x2 x3 = some r → Ev (fun n=>Jj g0 n x1 x2 x3) r:=by
 intro m
 induction m with
 | zero=>intro x2 x3 r h; rw [QB] at h; exact Ev.ofNone h
 | succ m ih2 =>
  intro x2 x3 r h
  rw [QB] at h
  refine Ev.step ?_ (fun n=>Qhd g0 n x1 x2 x3)
  exact (Ev.ofBif h (fun h=>(Ev.ofBif h (fun h=>(Ev.ofBif h (fun h=>(Ev.ofBif h (fun h=>(ih2 _ _ _ h)) (fun h=>(Ev.ofNone h)))) (fun h=>(Ev.ofBif h (fun h=>(Ev.ofBif h (fun h=>(ih2 _ _ _ h)) (fun h=>(Ev.ofNone h)))) (fun h=>(Ev.ofBind h fun y4 h=>(Ev.ofBif h (fun h=>(Ev.ofLen h fun hl h=>Qkb hl ih2 _ (0 : Nat) _ _ rfl h)) (fun h=>(Ev.ofNone h))))))))) (fun h=>(Ev.ofNone h)))) (fun h=>(Ev.ofLen h fun hl h=>Qkc hl _ (0 : Nat) _ _ rfl h)))
theorem Qke {g0 : (List (List Int))} {m : Nat} {x1 : (List Qc)} {x3 : (List Qi)} {x6 : (List (Qb × Bool))} (hl : x3.length ≤ maxLen) : ∀ (rest : List Qi) (k : Nat) (x2 : (List Qb)) (r : (List Qc)),rest = x3.drop k → QK g0 m x1 x6 rest x2 = some r → Ev (fun n=>Ya g0 n x1 x2 x3 (x3.length : Int) (k : Int) x6) r:=by
 intro rest
 induction rest with
 | nil =>
  intro k x2 r hr h
  have hk:=QH hr
  rw [QK] at h
  refine Ev.step ?_ (fun n=>UW g0 n x1 x2 x3 (x3.length : Int) (k : Int) x6)
  rw [show decide ((k : Int) < (x3.length : Int)) = false from decide_eq_false (by omega)]
  exact Ev.neg rfl (Qkd _ _ _ _ h)
 | cons e rest ih =>
  intro k x2 r hr h
  obtain ⟨hk,hx,hr2⟩:=Qz (d:=(Ty.dflt Qg)) hr
  have hw:=Qy hl hk
  have ih2 : ∀ (z2 : (List Qb)) (r : (List Qc)),QK g0 m x1 x6 rest z2 = some r → Ev (fun n=>Ya g0 n x1 z2 x3 (x3.length : Int) (IntKind.wrap .i64 ((k : Int) + 1)) x6) r:=by
   intro z2 r h; rw [hw]; exact ih (k + 1) z2 r hr2 h
  rw [QK] at h
  refine Ev.step ?_ (fun n=>UW g0 n x1 x2 x3 (x3.length : Int) (k : Int) x6)
  rw [show decide ((k : Int) < (x3.length : Int)) = true from decide_eq_true (by omega),Qx hk,hx]
  exact Ev.pos rfl (Ev.pos rfl (Ev.ofLen h fun hl h=>Qka hl ih2 _ (0 : Nat) _ _ rfl h))
theorem QlK {g0 : (List (List Int))} {m : Nat} {x1 : (List Qc)} {x2 : (List Qi)} {x4 : (List Ql)} {x7 : (List (Qb × Bool))} (hl : x4.length ≤ maxLen) : ∀ (rest : List Ql) (k : Nat) (x3 : (List Qb)) (r : (List Qc)),rest = x4.drop k → QV g0 m x1 x2 x7 rest x3 = some r → Ev (fun n=>Vu g0 n x1 x2 x3 x4 (x4.length : Int) (k : Int) x7) r:=by
 intro rest
 induction rest with
 | nil =>
  intro k x3 r hr h
  have hk:=QH hr
  rw [QV] at h
  refine Ev.step ?_ (fun n=>WQ g0 n x1 x2 x3 x4 (x4.length : Int) (k : Int) x7)
  rw [show decide ((k : Int) < (x4.length : Int)) = false from decide_eq_false (by omega)]
  exact Ev.neg rfl (Ev.ofLen h fun hl h=>Qke hl _ (0 : Nat) _ _ rfl h)
 | cons e rest ih =>
  intro k x3 r hr h
  obtain ⟨hk,hx,hr2⟩:=Qz (d:=(Ty.dflt Qf)) hr
  have hw:=Qy hl hk
  have ih2 : ∀ (z3 : (List Qb)) (r : (List Qc)),QV g0 m x1 x2 x7 rest z3 = some r → Ev (fun n=>Vu g0 n x1 x2 z3 x4 (x4.length : Int) (IntKind.wrap .i64 ((k : Int) + 1)) x7) r:=by
   intro z3 r h; rw [hw]; exact ih (k + 1) z3 r hr2 h
  rw [QV] at h
  refine Ev.step ?_ (fun n=>WQ g0 n x1 x2 x3 x4 (x4.length : Int) (k : Int) x7)
  rw [show decide ((k : Int) < (x4.length : Int)) = true from decide_eq_true (by omega),Qx hk,hx]
  exact Ev.pos rfl (Ev.pos rfl (Ev.ofBif h (fun h=>(ih2 _ _ h)) (fun h=>(Ev.ofNone h))))
theorem Qtv {g0 : (List (List Int))} {m : Nat} (a0 : (List Qc)) (a1 : QD) (a2 : (List Qi)) {r : (List Qc)} (h : Zd g0 m a0 a1 a2 = some r) : Ev (fun n=>Qhc g0 n a0 a1 a2) r:=by
 rw [Zd] at h
 refine Ev.of_eq ?_ (fun n=>QnS g0 n a0 a1 a2)
 exact (Ev.ofBind h fun y1 h=>(Ev.ofBif h (fun h=>(Ev.ofSome h)) (fun h=>(Ev.ofBind h fun y2 h=>(Ev.ofBif h (fun h=>(Ev.ofSome h)) (fun h=>(Ev.ofBind h fun y3 h=>(Ev.ofBif h (fun h=>(Ev.ofSome h)) (fun h=>(Ev.ofLen h fun hl h=>QlK hl _ (0 : Nat) _ _ rfl h))))))))))
theorem QpD (g0 : (List (List Int))) : ∀ x ∈ J0 g0,CtrOkG Tryz.prog (Xt [(0,Qq (.list .str) g0)]) x:=(Qd QgY.any (Qd QfH.any (Qd (QcH g0) (Qd Qj9.any (Qd Qg9.any (Qd Qtu.any Qk))))))
theorem Qrb (g0 : (List (List Int))) : CtrOkG Tryz.prog (Xt [(0,Qq (.list .str) g0)]) (Qao g0):=by
 refine Qj (c:=Qao g0) (by kernel_rfl) (by kernel_rfl : Tryz.prog.funcs[12]? = some Tryz.f12) (code:=Tryz.f12.body.getD .skip) (by kernel_rfl) (by kernel_rfl) (by kernel_rfl) (A:=Yl) (I:=JZ) (QpD g0) ?_
 rintro ⟨a0,a1,a2,u⟩ y hy
 exact let ⟨_,h⟩:=(GL hy).get; (Qtv a0 a1 a2 h).get
def JM : Ctr:=⟨34,[Qa],[Qa],fun x=>toC Qa x.1⟩
def QrO : List (List Nat × Ann):=[]
def QpE : List (List Nat × Nat):=[]
def Qhe : List Ctr:=[]
def QrP (n : Nat) (a0 : Qb) : Option Qb:=run Tryz.prog QrO QpE (Qn Qhe) Tryz.f34 (Tryz.f34.body.getD .skip) (Qp [Qa]) n (Qt [Qa] (a0,()))
theorem QxM (n : Nat) (a0 : Qb) : QrP n a0 =
  some a0:=by kernel_rfl
theorem QBO (hcs : ∀ x ∈ Qhe,Qh Tryz.prog x) (h : ∀ (a0 : Qb) y,toC Qa a0 = some y → ∃ n,QrP n a0 = some y) : Qh Tryz.prog JM:=by
 refine Qj (c:=JM) (by kernel_rfl) (by kernel_rfl : Tryz.prog.funcs[34]? = some Tryz.f34) (code:=Tryz.f34.body.getD .skip) (by kernel_rfl) (by kernel_rfl) (by kernel_rfl) (A:=QrO) (I:=QpE) hcs ?_
 rintro ⟨a0,u⟩ y hy
 exact h a0 y hy
theorem QzE : ∀ x ∈ Qhe,Qh Tryz.prog x:=Qk
theorem YT : Qh Tryz.prog JM:=QBO QzE fun a0 y hy=>by
 obtain ⟨hw,hs,rfl⟩:=Wh hy
 have hw2 : wfD I64 y.1 ∧ wfD I64 y.2.1 ∧ wfD .str y.2.2.1 ∧ wfD .str y.2.2.2:=hw
 have hs2 : Ty.size I64 y.1 + (Ty.size I64 y.2.1 + (Ty.size .str y.2.2.1 + (Ty.size .str y.2.2.2))) ≤ 1073741824:=hs
 refine ⟨0,?_⟩
 rw [QxM]
 try rfl
def U0 : Ctr:=⟨71,[(.list Qa)],[(.list Qa)],fun x=>toC (.list Qa) x.1⟩
def Qhf : List (List Nat × Ann):=[([0,3],[.keep 0 0,.keep 0 3,.keep 0 4,.rows 0 7 Qa])]
def QeZ : List (List Nat × Nat):=[]
def EP : List Ctr:=[JM]
def QpF (n : Nat) (a0 : (List Qb)) : Option (List Qb):=run Tryz.prog Qhf QeZ (Qn EP) Tryz.f71 (Tryz.f71.body.getD .skip) (Qp [(.list Qa)]) n (Qt [(.list Qa)] (a0,()))
abbrev Qap (n : Nat) (x1 : (List Qb)) (x2 : Int) (x3 : (List Qb)) : Option (List Qb):=lam Tryz.prog Qhf QeZ (Qn EP) Tryz.f71 (Tryz.f71.body.getD .skip) (Qp [(.list Qa)]) n [0,3] [.d (.list Qa) x1,.msl 0 7,.d I64 x2,.d (.list Qa) x3]
theorem QvB (n : Nat) (a0 : (List Qb)) : QpF n a0 =
  bif decide ((a0.length : Int) = (a0.length : Int)) && decide ((0 : Int) ≤ (a0.length : Int)) && decide ((a0.length : Int) * 48 ≤ Qv) && true then
   Qap n a0 0 (List.replicate (Int.toNat (a0.length : Int)) (0,0,([] : List Int),([] : List Int)))
  else none:=by kernel_rfl
theorem QnT (n : Nat) (x1 : (List Qb)) (x2 : Int) (x3 : (List Qb)) : Qap (n + 1) x1 x2 x3 =
  bif decide (x2 < (x1.length : Int)) then
   bif inB x2 x1.length then
    Option.bind (toC Qa (rd x1 x2 (Ty.dflt Qa))) fun (y1 : Qb) =>
    bif inB x2 x3.length then
     bif inB x2 x3.length && true && true && true && true then
      Qap n x1 (IntKind.wrap .i64 (x2 + 1)) (x3.set (Int.toNat x2) y1)
     else none
    else none
   else none
  else
   some x3:=by kernel_rfl
theorem QzF (hcs : ∀ x ∈ EP,Qh Tryz.prog x) (h : ∀ (a0 : (List Qb)) y,toC (.list Qa) a0 = some y → ∃ n,QpF n a0 = some y) : Qh Tryz.prog U0:=by
 refine Qj (c:=U0) (by kernel_rfl) (by kernel_rfl : Tryz.prog.funcs[71]? = some Tryz.f71) (code:=Tryz.f71.body.getD .skip) (by kernel_rfl) (by kernel_rfl) (by kernel_rfl) (A:=Qhf) (I:=QeZ) hcs ?_
 rintro ⟨a0,u⟩ y hy
 exact h a0 y hy
theorem QxN : ∀ x ∈ EP,Qh Tryz.prog x:=(Qd YT Qk)
theorem QmZ : Qh Tryz.prog U0:=QzF QxN fun a0 y hy=>by
 obtain ⟨n,hn⟩:=Qw6 (t:=Qa) (f:=toC Qa) (fun x h h2=>QL h h2) (by_:=48) (by omega) (fun n xs i out=>QnT n xs i out) hy
 exact ⟨n,(QvB n a0).trans hn⟩
def GP : Ctr:=⟨35,[(.list .str)],[(.list .str)],fun x=>toC (.list .str) x.1⟩
def Qds : List (List Nat × Ann):=[([0,3],[.keep 0 0,.keep 0 3,.keep 0 4,.rows 0 7 .str])]
def QbO : List (List Nat × Nat):=[]
def Ul : List Ctr:=[]
def Qkf (n : Nat) (a0 : (List (List Int))) : Option (List (List Int)):=run Tryz.prog Qds QbO (Qn Ul) Tryz.f35 (Tryz.f35.body.getD .skip) (Qp [(.list .str)]) n (Qt [(.list .str)] (a0,()))
abbrev U1 (n : Nat) (x1 : (List (List Int))) (x2 : Int) (x3 : (List (List Int))) : Option (List (List Int)):=lam Tryz.prog Qds QbO (Qn Ul) Tryz.f35 (Tryz.f35.body.getD .skip) (Qp [(.list .str)]) n [0,3] [.d (.list .str) x1,.msl 0 7,.d I64 x2,.d (.list .str) x3]
theorem Qrc (n : Nat) (a0 : (List (List Int))) : Qkf n a0 =
  bif decide ((a0.length : Int) = (a0.length : Int)) && decide ((0 : Int) ≤ (a0.length : Int)) && decide ((a0.length : Int) * 16 ≤ Qv) && true then
   U1 n a0 0 (List.replicate (Int.toNat (a0.length : Int)) ([] : List Int))
  else none:=by kernel_rfl
theorem Qkg (n : Nat) (x1 : (List (List Int))) (x2 : Int) (x3 : (List (List Int))) : U1 (n + 1) x1 x2 x3 =
  bif decide (x2 < (x1.length : Int)) then
   bif inB x2 x1.length then
    bif inB x2 x3.length then
     bif inB x2 x3.length && true && true && true && true then
      U1 n x1 (IntKind.wrap .i64 (x2 + 1)) (x3.set (Int.toNat x2) (rd x1 x2 (Ty.dflt .str)))
     else none
    else none
   else none
  else
   some x3:=by kernel_rfl
theorem QvC (hcs : ∀ x ∈ Ul,Qh Tryz.prog x) (h : ∀ (a0 : (List (List Int))) y,toC (.list .str) a0 = some y → ∃ n,Qkf n a0 = some y) : Qh Tryz.prog GP:=by
 refine Qj (c:=GP) (by kernel_rfl) (by kernel_rfl : Tryz.prog.funcs[35]? = some Tryz.f35) (code:=Tryz.f35.body.getD .skip) (by kernel_rfl) (by kernel_rfl) (by kernel_rfl) (A:=Qds) (I:=QbO) hcs ?_
 rintro ⟨a0,u⟩ y hy
 exact h a0 y hy
theorem Qtw : ∀ x ∈ Ul,Qh Tryz.prog x:=Qk
theorem QbP : Qh Tryz.prog GP:=QvC Qtw fun a0 y hy=>by
 obtain ⟨n,hn⟩:=Qw6 (t:=.str) (f:=fun x=>some x) (fun x _ _=>rfl) (by_:=16) (by omega) (fun n xs i out=>Qkg n xs i out) hy
 exact ⟨n,(Qrc n a0).trans hn⟩
def QbQ : Ctr:=⟨72,[Qf],[Qf],fun x=>toC Qf x.1⟩
def QpG : List (List Nat × Ann):=[]
def Qm0 : List (List Nat × Nat):=[]
def Qe0 : List Ctr:=[JM,U0,GP]
def QpH (n : Nat) (a0 : Ql) : Option Ql:=run Tryz.prog QpG Qm0 (Qn Qe0) Tryz.f72 (Tryz.f72.body.getD .skip) (Qp [Qf]) n (Qt [Qf] (a0,()))
theorem QvD (n : Nat) (a0 : Ql) : QpH n a0 =
  Option.bind (toC Qa a0.2.1) fun (y1 : Qb) =>
  Option.bind (toC (.list Qa) a0.2.2.1) fun (y2 : (List Qb)) =>
  Option.bind (toC (.list .str) a0.2.2.2) fun (y3 : (List (List Int))) =>
  some (a0.1,y1,y2,y3):=by kernel_rfl
theorem QzG (hcs : ∀ x ∈ Qe0,Qh Tryz.prog x) (h : ∀ (a0 : Ql) y,toC Qf a0 = some y → ∃ n,QpH n a0 = some y) : Qh Tryz.prog QbQ:=by
 refine Qj (c:=QbQ) (by kernel_rfl) (by kernel_rfl : Tryz.prog.funcs[72]? = some Tryz.f72) (code:=Tryz.f72.body.getD .skip) (by kernel_rfl) (by kernel_rfl) (by kernel_rfl) (A:=QpG) (I:=Qm0) hcs ?_
 rintro ⟨a0,u⟩ y hy
 exact h a0 y hy
theorem QxO : ∀ x ∈ Qe0,Qh Tryz.prog x:=(Qd YT (Qd QmZ (Qd QbP Qk)))
theorem QzH : Qh Tryz.prog QbQ:=QzG QxO fun a0 y hy=>by
 obtain ⟨hw,hs,rfl⟩:=Wh hy
 have hw2 : wfD I64 y.1 ∧ wfD Qa y.2.1 ∧ wfD (.list Qa) y.2.2.1 ∧ wfD (.list .str) y.2.2.2:=hw
 have hs2 : Ty.size I64 y.1 + (Ty.size Qa y.2.1 + (Ty.size (.list Qa) y.2.2.1 + (Ty.size (.list .str) y.2.2.2))) ≤ 1073741824:=hs
 refine ⟨0,?_⟩
 rw [QvD]
 try (rw [QL hw2.2.1 (by omega)]; simp only [Option.bind_some])
 try (rw [QL hw2.2.2.1 (by omega)]; simp only [Option.bind_some])
 try (rw [QL hw2.2.2.2 (by omega)]; simp only [Option.bind_some])
 try rfl
def HX : Ctr:=⟨36,[(.list Qf)],[(.list Qf)],fun x=>toC (.list Qf) x.1⟩
def Qe1 : List (List Nat × Ann):=[([0,3],[.keep 0 0,.keep 0 3,.keep 0 4,.rows 0 7 Qf])]
def Qdt : List (List Nat × Nat):=[]
def Wx : List Ctr:=[QbQ]
def Qm1 (n : Nat) (a0 : (List Ql)) : Option (List Ql):=run Tryz.prog Qe1 Qdt (Qn Wx) Tryz.f36 (Tryz.f36.body.getD .skip) (Qp [(.list Qf)]) n (Qt [(.list Qf)] (a0,()))
abbrev W5 (n : Nat) (x1 : (List Ql)) (x2 : Int) (x3 : (List Ql)) : Option (List Ql):=lam Tryz.prog Qe1 Qdt (Qn Wx) Tryz.f36 (Tryz.f36.body.getD .skip) (Qp [(.list Qf)]) n [0,3] [.d (.list Qf) x1,.msl 0 7,.d I64 x2,.d (.list Qf) x3]
theorem Qtx (n : Nat) (a0 : (List Ql)) : Qm1 n a0 =
  bif decide ((a0.length : Int) = (a0.length : Int)) && decide ((0 : Int) ≤ (a0.length : Int)) && decide ((a0.length : Int) * 104 ≤ Qv) && true then
   W5 n a0 0 (List.replicate (Int.toNat (a0.length : Int)) (0,(0,0,([] : List Int),([] : List Int)),[],[]))
  else none:=by kernel_rfl
theorem QlL (n : Nat) (x1 : (List Ql)) (x2 : Int) (x3 : (List Ql)) : W5 (n + 1) x1 x2 x3 =
  bif decide (x2 < (x1.length : Int)) then
   bif inB x2 x1.length then
    Option.bind (toC Qf (rd x1 x2 (Ty.dflt Qf))) fun (y1 : Ql) =>
    bif inB x2 x3.length then
     bif inB x2 x3.length && true && true && true && true then
      W5 n x1 (IntKind.wrap .i64 (x2 + 1)) (x3.set (Int.toNat x2) y1)
     else none
    else none
   else none
  else
   some x3:=by kernel_rfl
theorem QxP (hcs : ∀ x ∈ Wx,Qh Tryz.prog x) (h : ∀ (a0 : (List Ql)) y,toC (.list Qf) a0 = some y → ∃ n,Qm1 n a0 = some y) : Qh Tryz.prog HX:=by
 refine Qj (c:=HX) (by kernel_rfl) (by kernel_rfl : Tryz.prog.funcs[36]? = some Tryz.f36) (code:=Tryz.f36.body.getD .skip) (by kernel_rfl) (by kernel_rfl) (by kernel_rfl) (A:=Qe1) (I:=Qdt) hcs ?_
 rintro ⟨a0,u⟩ y hy
 exact h a0 y hy
theorem QvE : ∀ x ∈ Wx,Qh Tryz.prog x:=(Qd QzH Qk)
theorem Qkh : Qh Tryz.prog HX:=QxP QvE fun a0 y hy=>by
 obtain ⟨n,hn⟩:=Qw6 (t:=Qf) (f:=toC Qf) (fun x h h2=>QL h h2) (by_:=104) (by omega) (fun n xs i out=>QlL n xs i out) hy
 exact ⟨n,(Qtx n a0).trans hn⟩
def QbR : Ctr:=⟨33,[Qe],[Qe],fun x=>toC Qe x.1⟩
def QpI : List (List Nat × Ann):=[]
def Qm2 : List (List Nat × Nat):=[]
def Qe2 : List Ctr:=[JM,U0,GP,HX]
def QpJ (n : Nat) (a0 : Qc) : Option Qc:=run Tryz.prog QpI Qm2 (Qn Qe2) Tryz.f33 (Tryz.f33.body.getD .skip) (Qp [Qe]) n (Qt [Qe] (a0,()))
theorem QvF (n : Nat) (a0 : Qc) : QpJ n a0 =
  Option.bind (toC Qa a0.1) fun (y1 : Qb) =>
  Option.bind (toC (.list Qa) a0.2.1) fun (y2 : (List Qb)) =>
  Option.bind (toC (.list .str) a0.2.2.1) fun (y3 : (List (List Int))) =>
  Option.bind (toC (.list Qf) a0.2.2.2) fun (y4 : (List Ql)) =>
  some (y1,y2,y3,y4):=by kernel_rfl
theorem QzI (hcs : ∀ x ∈ Qe2,Qh Tryz.prog x) (h : ∀ (a0 : Qc) y,toC Qe a0 = some y → ∃ n,QpJ n a0 = some y) : Qh Tryz.prog QbR:=by
 refine Qj (c:=QbR) (by kernel_rfl) (by kernel_rfl : Tryz.prog.funcs[33]? = some Tryz.f33) (code:=Tryz.f33.body.getD .skip) (by kernel_rfl) (by kernel_rfl) (by kernel_rfl) (A:=QpI) (I:=Qm2) hcs ?_
 rintro ⟨a0,u⟩ y hy
 exact h a0 y hy
theorem QxQ : ∀ x ∈ Qe2,Qh Tryz.prog x:=(Qd YT (Qd QmZ (Qd QbP (Qd Qkh Qk))))
theorem QzJ : Qh Tryz.prog QbR:=QzI QxQ fun a0 y hy=>by
 obtain ⟨hw,hs,rfl⟩:=Wh hy
 have hw2 : wfD Qa y.1 ∧ wfD (.list Qa) y.2.1 ∧ wfD (.list .str) y.2.2.1 ∧ wfD (.list Qf) y.2.2.2:=hw
 have hs2 : Ty.size Qa y.1 + (Ty.size (.list Qa) y.2.1 + (Ty.size (.list .str) y.2.2.1 + (Ty.size (.list Qf) y.2.2.2))) ≤ 1073741824:=hs
 refine ⟨0,?_⟩
 rw [QvF]
 try (rw [QL hw2.1 (by omega)]; simp only [Option.bind_some])
 try (rw [QL hw2.2.1 (by omega)]; simp only [Option.bind_some])
 try (rw [QL hw2.2.2.1 (by omega)]; simp only [Option.bind_some])
 try (rw [QL hw2.2.2.2 (by omega)]; simp only [Option.bind_some])
 try rfl
def EQ : Ctr:=⟨9,[(.list Qe)],[(.list Qe)],fun x=>toC (.list Qe) x.1⟩
def Qe3 : List (List Nat × Ann):=[([0,3],[.keep 0 0,.keep 0 3,.keep 0 4,.rows 0 7 Qe])]
def Qdu : List (List Nat × Nat):=[]
def Wy : List Ctr:=[QbR]
def Qm3 (n : Nat) (a0 : (List Qc)) : Option (List Qc):=run Tryz.prog Qe3 Qdu (Qn Wy) Tryz.f9 (Tryz.f9.body.getD .skip) (Qp [(.list Qe)]) n (Qt [(.list Qe)] (a0,()))
abbrev W6 (n : Nat) (x1 : (List Qc)) (x2 : Int) (x3 : (List Qc)) : Option (List Qc):=lam Tryz.prog Qe3 Qdu (Qn Wy) Tryz.f9 (Tryz.f9.body.getD .skip) (Qp [(.list Qe)]) n [0,3] [.d (.list Qe) x1,.msl 0 7,.d I64 x2,.d (.list Qe) x3]
theorem Qty (n : Nat) (a0 : (List Qc)) : Qm3 n a0 =
  bif decide ((a0.length : Int) = (a0.length : Int)) && decide ((0 : Int) ≤ (a0.length : Int)) && decide ((a0.length : Int) * 120 ≤ Qv) && true then
   W6 n a0 0 (List.replicate (Int.toNat (a0.length : Int)) ((0,0,([] : List Int),([] : List Int)),[],[],[]))
  else none:=by kernel_rfl
theorem QlM (n : Nat) (x1 : (List Qc)) (x2 : Int) (x3 : (List Qc)) : W6 (n + 1) x1 x2 x3 =
  bif decide (x2 < (x1.length : Int)) then
   bif inB x2 x1.length then
    Option.bind (toC Qe (((rd x1 x2 (Ty.dflt Qe)).1),((rd x1 x2 (Ty.dflt Qe)).2))) fun (y1 : Qc) =>
    bif inB x2 x3.length then
     bif inB x2 x3.length && true && true && true && true then
      W6 n x1 (IntKind.wrap .i64 (x2 + 1)) (x3.set (Int.toNat x2) y1)
     else none
    else none
   else none
  else
   some x3:=by kernel_rfl
theorem QxR (hcs : ∀ x ∈ Wy,Qh Tryz.prog x) (h : ∀ (a0 : (List Qc)) y,toC (.list Qe) a0 = some y → ∃ n,Qm3 n a0 = some y) : Qh Tryz.prog EQ:=by
 refine Qj (c:=EQ) (by kernel_rfl) (by kernel_rfl : Tryz.prog.funcs[9]? = some Tryz.f9) (code:=Tryz.f9.body.getD .skip) (by kernel_rfl) (by kernel_rfl) (by kernel_rfl) (A:=Qe3) (I:=Qdu) hcs ?_
 rintro ⟨a0,u⟩ y hy
 exact h a0 y hy
theorem QvG : ∀ x ∈ Wy,Qh Tryz.prog x:=(Qd QzJ Qk)
theorem QxS : Qh Tryz.prog EQ:=QxR QvG fun a0 y hy=>by
 obtain ⟨n,hn⟩:=Qw6 (t:=Qe) (f:=toC Qe) (fun x h h2=>QL h h2) (by_:=120) (by omega) (fun n xs i out=>QlM n xs i out) hy
 exact ⟨n,(Qty n a0).trans hn⟩
def Qe4 : Ctr:=HB 71 [(.list Qa)] [(.list Qa)] fun x=>toC (.list Qa) x.1
def Qe5 : List (List Nat × Ann):=[([0,3],[.keep 0 0,.drb 0 3 Qa,.keep 0 4])]
def Qdv : List (List Nat × Nat):=[([1002],0)]
def Qdw : List Ctr:=[JM]
def QzK (n : Nat) (a0 : (List Qb)) : Option (List Qb):=WV Tryz.prog noG Qe5 Qdv (Qn Qdw) Tryz.f71 (Tryz.f71.body.getD .skip) (We Tryz.prog Tryz.f71 [(.list Qa)]) n (Qt [(.list Qa)] (a0,()))
abbrev XY (n : Nat) (x1 : (List Qb)) (x2 : (List Qb)) (x3 : Int) : Option (List Qb):=Uy Tryz.prog noG Qe5 Qdv (Qn Qdw) Tryz.f71 (Tryz.f71.body.getD .skip) (We Tryz.prog Tryz.f71 [(.list Qa)]) n [0,3] [.d (.list Qa) x1,.d (.list Qa) x2,.d I64 x3]
theorem Qtz (n : Nat) (a0 : (List Qb)) : QzK n a0 =
  bif decide ((a0.length : Int) = (a0.length : Int)) && decide ((0 : Int) ≤ (a0.length : Int)) && decide ((a0.length : Int) * 48 ≤ Qv) && true && true && true then
   XY n a0 (List.replicate (Int.toNat (a0.length : Int)) (0,0,([] : List Int),([] : List Int))) 0
  else none:=by kernel_rfl
theorem QlN (n : Nat) (x1 : (List Qb)) (x2 : (List Qb)) (x3 : Int) : XY (n + 1) x1 x2 x3 =
  bif decide (x3 < (x1.length : Int)) then
   bif inB x3 x1.length then
    Option.bind (toC Qa (rd x1 x3 (Ty.dflt Qa))) fun (y1 : Qb) =>
    bif inB x3 x2.length then
     bif inB x3 x2.length && true && true && true && true && true && true then
      XY n x1 (x2.set (Int.toNat x3) y1) (IntKind.wrap .i64 (x3 + 1))
     else none
    else none
   else none
  else
   some x2:=by kernel_rfl
theorem QvH : ∀ x ∈ Qdw,Qh Tryz.prog x:=(Qd YT Qk)
theorem Qki : Qh Tryz.prog Qe4:=by
 refine Y6 (by kernel_rfl) (by kernel_rfl : Tryz.prog.funcs[71]? = some Tryz.f71) (code:=Tryz.f71.body.getD .skip) (by kernel_rfl) (by kernel_rfl) (A:=Qe5) (I:=Qdv) QvH ?_
 rintro ⟨a0,u⟩ y hy
 obtain ⟨n,hn⟩:=Qxa (t:=Qa) (f:=toC Qa) (fun x h h2=>QL h h2) (L:=fun n xs i out=>XY n xs out i) (by_:=48) (by omega) (fun n xs i out=>QlN n xs out i) hy
 exact ⟨n,(Qtz n a0).trans hn⟩
def Um : Ctr:=HB 35 [(.list .str)] [(.list .str)] fun x=>toC (.list .str) x.1
def QbS : List (List Nat × Ann):=[([0,3],[.keep 0 0,.drb 0 3 .str,.keep 0 4])]
def Qaq : List (List Nat × Nat):=[([1002],0)]
def Qar : List Ctr:=[]
def QvI (n : Nat) (a0 : (List (List Int))) : Option (List (List Int)):=WV Tryz.prog noG QbS Qaq (Qn Qar) Tryz.f35 (Tryz.f35.body.getD .skip) (We Tryz.prog Tryz.f35 [(.list .str)]) n (Qt [(.list .str)] (a0,()))
abbrev G7 (n : Nat) (x1 : (List (List Int))) (x2 : (List (List Int))) (x3 : Int) : Option (List (List Int)):=Uy Tryz.prog noG QbS Qaq (Qn Qar) Tryz.f35 (Tryz.f35.body.getD .skip) (We Tryz.prog Tryz.f35 [(.list .str)]) n [0,3] [.d (.list .str) x1,.d (.list .str) x2,.d I64 x3]
theorem QpK (n : Nat) (a0 : (List (List Int))) : QvI n a0 =
  bif decide ((a0.length : Int) = (a0.length : Int)) && decide ((0 : Int) ≤ (a0.length : Int)) && decide ((a0.length : Int) * 16 ≤ Qv) && true && true && true then
   G7 n a0 (List.replicate (Int.toNat (a0.length : Int)) ([] : List Int)) 0
  else none:=by kernel_rfl
theorem QiZ (n : Nat) (x1 : (List (List Int))) (x2 : (List (List Int))) (x3 : Int) : G7 (n + 1) x1 x2 x3 =
  bif decide (x3 < (x1.length : Int)) then
   bif inB x3 x1.length then
    bif inB x3 x2.length then
     bif inB x3 x2.length && true && true && true && true && true && true then
      G7 n x1 (x2.set (Int.toNat x3) (rd x1 x3 (Ty.dflt .str))) (IntKind.wrap .i64 (x3 + 1))
     else none
    else none
   else none
  else
   some x2:=by kernel_rfl
theorem Qrd : ∀ x ∈ Qar,Qh Tryz.prog x:=Qk
theorem Qas : Qh Tryz.prog Um:=by
 refine Y6 (by kernel_rfl) (by kernel_rfl : Tryz.prog.funcs[35]? = some Tryz.f35) (code:=Tryz.f35.body.getD .skip) (by kernel_rfl) (by kernel_rfl) (A:=QbS) (I:=Qaq) Qrd ?_
 rintro ⟨a0,u⟩ y hy
 obtain ⟨n,hn⟩:=Qxa (t:=.str) (f:=fun x=>some x) (fun x _ _=>rfl) (L:=fun n xs i out=>G7 n xs out i) (by_:=16) (by omega) (fun n xs i out=>QiZ n xs out i) hy
 exact ⟨n,(QpK n a0).trans hn⟩
def Qm4 : Ctr:=HB 72 [Qf] [Qf] fun x=>toC Qf x.1
def Qm5 : List (List Nat × Ann):=[]
def Qkj : List (List Nat × Nat):=[([4002],2000071),([5002],2000035)]
def Qkk : List Ctr:=[JM,Qe4,Um]
def Qm6 (n : Nat) (a0 : Ql) : Option Ql:=WV Tryz.prog noG Qm5 Qkj (Qn Qkk) Tryz.f72 (Tryz.f72.body.getD .skip) (We Tryz.prog Tryz.f72 [Qf]) n (Qt [Qf] (a0,()))
theorem QtA (n : Nat) (a0 : Ql) : Qm6 n a0 =
  Option.bind (toC Qa a0.2.1) fun (y1 : Qb) =>
  Option.bind (toC (.list Qa) a0.2.2.1) fun (y2 : (List Qb)) =>
  Option.bind (toC (.list .str) a0.2.2.2) fun (y3 : (List (List Int))) =>
  some (a0.1,y1,y2,y3):=by kernel_rfl
theorem QvJ : ∀ x ∈ Qkk,Qh Tryz.prog x:=(Qd YT (Qd Qki (Qd Qas Qk)))
theorem QxT : Qh Tryz.prog Qm4:=by
 refine Y6 (by kernel_rfl) (by kernel_rfl : Tryz.prog.funcs[72]? = some Tryz.f72) (code:=Tryz.f72.body.getD .skip) (by kernel_rfl) (by kernel_rfl) (A:=Qm5) (I:=Qkj) QvJ ?_
 rintro ⟨a0,u⟩ y hy
 obtain ⟨hw,hs,rfl⟩:=Wh hy
 have hw2 : wfD I64 y.1 ∧ wfD Qa y.2.1 ∧ wfD (.list Qa) y.2.2.1 ∧ wfD (.list .str) y.2.2.2:=hw
 have hs2 : Ty.size I64 y.1 + (Ty.size Qa y.2.1 + (Ty.size (.list Qa) y.2.2.1 + (Ty.size (.list .str) y.2.2.2))) ≤ 1073741824:=hs
 refine ⟨0,?_⟩
 show Qm6 0 y = some y
 rw [QtA]
 try (rw [QL hw2.2.1 (by omega)]; simp only [Option.bind_some])
 try (rw [QL hw2.2.2.1 (by omega)]; simp only [Option.bind_some])
 try (rw [QL hw2.2.2.2 (by omega)]; simp only [Option.bind_some])
 try rfl
def Qdx : Ctr:=HB 36 [(.list Qf)] [(.list Qf)] fun x=>toC (.list Qf) x.1
def Qdy : List (List Nat × Ann):=[([0,3],[.keep 0 0,.drb 0 3 Qf,.keep 0 4])]
def QbT : List (List Nat × Nat):=[([1002],0),([5006],2000072)]
def QbU : List Ctr:=[Qm4]
def QxU (n : Nat) (a0 : (List Ql)) : Option (List Ql):=WV Tryz.prog noG Qdy QbT (Qn QbU) Tryz.f36 (Tryz.f36.body.getD .skip) (We Tryz.prog Tryz.f36 [(.list Qf)]) n (Qt [(.list Qf)] (a0,()))
abbrev XJ (n : Nat) (x1 : (List Ql)) (x2 : (List Ql)) (x3 : Int) : Option (List Ql):=Uy Tryz.prog noG Qdy QbT (Qn QbU) Tryz.f36 (Tryz.f36.body.getD .skip) (We Tryz.prog Tryz.f36 [(.list Qf)]) n [0,3] [.d (.list Qf) x1,.d (.list Qf) x2,.d I64 x3]
theorem Qre (n : Nat) (a0 : (List Ql)) : QxU n a0 =
  bif decide ((a0.length : Int) = (a0.length : Int)) && decide ((0 : Int) ≤ (a0.length : Int)) && decide ((a0.length : Int) * 104 ≤ Qv) && true && true && true then
   XJ n a0 (List.replicate (Int.toNat (a0.length : Int)) (0,(0,0,([] : List Int),([] : List Int)),[],[])) 0
  else none:=by kernel_rfl
theorem Qkl (n : Nat) (x1 : (List Ql)) (x2 : (List Ql)) (x3 : Int) : XJ (n + 1) x1 x2 x3 =
  bif decide (x3 < (x1.length : Int)) then
   bif inB x3 x1.length then
    Option.bind (toC Qf (rd x1 x3 (Ty.dflt Qf))) fun (y1 : Ql) =>
    bif inB x3 x2.length then
     bif inB x3 x2.length && true && true && true && true && true && true then
      XJ n x1 (x2.set (Int.toNat x3) y1) (IntKind.wrap .i64 (x3 + 1))
     else none
    else none
   else none
  else
   some x2:=by kernel_rfl
theorem QtB : ∀ x ∈ QbU,Qh Tryz.prog x:=(Qd QxT Qk)
theorem Qin : Qh Tryz.prog Qdx:=by
 refine Y6 (by kernel_rfl) (by kernel_rfl : Tryz.prog.funcs[36]? = some Tryz.f36) (code:=Tryz.f36.body.getD .skip) (by kernel_rfl) (by kernel_rfl) (A:=Qdy) (I:=QbT) QtB ?_
 rintro ⟨a0,u⟩ y hy
 obtain ⟨n,hn⟩:=Qxa (t:=Qf) (f:=toC Qf) (fun x h h2=>QL h h2) (L:=fun n xs i out=>XJ n xs out i) (by_:=104) (by omega) (fun n xs i out=>Qkl n xs out i) hy
 exact ⟨n,(Qre n a0).trans hn⟩
def Qm7 : Ctr:=HB 33 [Qe] [Qe] fun x=>toC Qe x.1
def Qm8 : List (List Nat × Ann):=[]
def Qkm : List (List Nat × Nat):=[([3002],2000071),([4002],2000035),([5002],2000036)]
def Qkn : List Ctr:=[JM,Qe4,Um,Qdx]
def Qm9 (n : Nat) (a0 : Qc) : Option Qc:=WV Tryz.prog noG Qm8 Qkm (Qn Qkn) Tryz.f33 (Tryz.f33.body.getD .skip) (We Tryz.prog Tryz.f33 [Qe]) n (Qt [Qe] (a0,()))
theorem QtC (n : Nat) (a0 : Qc) : Qm9 n a0 =
  Option.bind (toC Qa a0.1) fun (y1 : Qb) =>
  Option.bind (toC (.list Qa) a0.2.1) fun (y2 : (List Qb)) =>
  Option.bind (toC (.list .str) a0.2.2.1) fun (y3 : (List (List Int))) =>
  Option.bind (toC (.list Qf) a0.2.2.2) fun (y4 : (List Ql)) =>
  some (y1,y2,y3,y4):=by kernel_rfl
theorem QvK : ∀ x ∈ Qkn,Qh Tryz.prog x:=(Qd YT (Qd Qki (Qd Qas (Qd Qin Qk))))
theorem QxV : Qh Tryz.prog Qm7:=by
 refine Y6 (by kernel_rfl) (by kernel_rfl : Tryz.prog.funcs[33]? = some Tryz.f33) (code:=Tryz.f33.body.getD .skip) (by kernel_rfl) (by kernel_rfl) (A:=Qm8) (I:=Qkm) QvK ?_
 rintro ⟨a0,u⟩ y hy
 obtain ⟨hw,hs,rfl⟩:=Wh hy
 have hw2 : wfD Qa y.1 ∧ wfD (.list Qa) y.2.1 ∧ wfD (.list .str) y.2.2.1 ∧ wfD (.list Qf) y.2.2.2:=hw
 have hs2 : Ty.size Qa y.1 + (Ty.size (.list Qa) y.2.1 + (Ty.size (.list .str) y.2.2.1 + (Ty.size (.list Qf) y.2.2.2))) ≤ 1073741824:=hs
 refine ⟨0,?_⟩
 show Qm9 0 y = some y
 rw [QtC]
 try (rw [QL hw2.1 (by omega)]; simp only [Option.bind_some])
 try (rw [QL hw2.2.1 (by omega)]; simp only [Option.bind_some])
 try (rw [QL hw2.2.2.1 (by omega)]; simp only [Option.bind_some])
 try (rw [QL hw2.2.2.2 (by omega)]; simp only [Option.bind_some])
 try rfl
def Qko : Ctr:=HB 9 [(.list Qe)] [(.list Qe)] fun x=>toC (.list Qe) x.1
def Qdz : List (List Nat × Ann):=[([0,3],[.keep 0 0,.drb 0 3 Qe,.keep 0 4])]
def QbV : List (List Nat × Nat):=[([1002],0),([5006],2000033)]
def QbW : List Ctr:=[Qm7]
def QxW (n : Nat) (a0 : (List Qc)) : Option (List Qc):=WV Tryz.prog noG Qdz QbV (Qn QbW) Tryz.f9 (Tryz.f9.body.getD .skip) (We Tryz.prog Tryz.f9 [(.list Qe)]) n (Qt [(.list Qe)] (a0,()))
abbrev XK (n : Nat) (x1 : (List Qc)) (x2 : (List Qc)) (x3 : Int) : Option (List Qc):=Uy Tryz.prog noG Qdz QbV (Qn QbW) Tryz.f9 (Tryz.f9.body.getD .skip) (We Tryz.prog Tryz.f9 [(.list Qe)]) n [0,3] [.d (.list Qe) x1,.d (.list Qe) x2,.d I64 x3]
theorem Qrf (n : Nat) (a0 : (List Qc)) : QxW n a0 =
  bif decide ((a0.length : Int) = (a0.length : Int)) && decide ((0 : Int) ≤ (a0.length : Int)) && decide ((a0.length : Int) * 120 ≤ Qv) && true && true && true then
   XK n a0 (List.replicate (Int.toNat (a0.length : Int)) ((0,0,([] : List Int),([] : List Int)),[],[],[])) 0
  else none:=by kernel_rfl
theorem Qkp (n : Nat) (x1 : (List Qc)) (x2 : (List Qc)) (x3 : Int) : XK (n + 1) x1 x2 x3 =
  bif decide (x3 < (x1.length : Int)) then
   bif inB x3 x1.length then
    Option.bind (toC Qe (((rd x1 x3 (Ty.dflt Qe)).1),((rd x1 x3 (Ty.dflt Qe)).2))) fun (y1 : Qc) =>
    bif inB x3 x2.length then
     bif inB x3 x2.length && true && true && true && true && true && true then
      XK n x1 (x2.set (Int.toNat x3) y1) (IntKind.wrap .i64 (x3 + 1))
     else none
    else none
   else none
  else
   some x2:=by kernel_rfl
theorem QtD : ∀ x ∈ QbW,Qh Tryz.prog x:=(Qd QxV Qk)
theorem QvL : Qh Tryz.prog Qko:=by
 refine Y6 (by kernel_rfl) (by kernel_rfl : Tryz.prog.funcs[9]? = some Tryz.f9) (code:=Tryz.f9.body.getD .skip) (by kernel_rfl) (by kernel_rfl) (A:=Qdz) (I:=QbV) QtD ?_
 rintro ⟨a0,u⟩ y hy
 obtain ⟨n,hn⟩:=Qxa (t:=Qe) (f:=toC Qe) (fun x h h2=>QL h h2) (L:=fun n xs i out=>XK n xs out i) (by_:=120) (by omega) (fun n xs i out=>Qkp n xs out i) hy
 exact ⟨n,(Qrf n a0).trans hn⟩
def QD2 : Ctr:=QyK 85 [(.list Qa)] Qa fun x=>Yk x.1
def QvM : List (List Nat × Ann):=[]
def QrQ : List (List Nat × Nat):=[]
def QrR : List Ctr:=[]
def QvN (n : Nat) (a0 : (List Qb)) : Option (List Qb):=WV Tryz.prog noG QvM QrQ (Qn QrR) Tryz.f85 (Tryz.f85.body.getD .skip) (Qsk Tryz.prog Tryz.f85 Qa) n (Qt [(.list Qa)] (a0,()))
theorem QzL (n : Nat) (a0 : (List Qb)) : QvN n a0 =
  bif decide (0 < a0.length) then
   bif decide (((([] : List Qb).length : Int) + (a0.length : Int)) * 48 ≤ Qv) && decide ((([] : List Qb).length : Int) + (a0.length : Int) ≤ Qv) then
    some (([] : List Qb) ++ a0)
   else none
  else
   Qof
    (some ([]))
    (bif decide (((([] : List Qb).length : Int) + (a0.length : Int)) * 48 ≤ Qv) && decide ((([] : List Qb).length : Int) + (a0.length : Int) ≤ Qv) then
     some (([] : List Qb) ++ a0)
    else none):=by kernel_rfl
theorem QD3 (a0 : (List Qb)) {r : (List Qb)} (h : Yk a0 = some r) : Ev (fun n=>QvN n a0) r:=by
 rw [Yk] at h
 refine Ev.of_eq ?_ (fun n=>QzL n a0)
 exact (Ev.ofBif h (fun h=>(Ev.ofBif h (fun h=>(Ev.ofSome h)) (fun h=>(Ev.ofNone h)))) (fun h=>(Ev.ofBoth h (fun h=>(Ev.ofSome h)) (fun h=>(Ev.ofBif h (fun h=>(Ev.ofSome h)) (fun h=>(Ev.ofNone h)))))))
theorem QBP : ∀ x ∈ QrR,Qh Tryz.prog x:=Qk
theorem QCK : Qh Tryz.prog (QD2):=by
 refine QsE (by kernel_rfl) (by kernel_rfl : Tryz.prog.funcs[85]? = some Tryz.f85) (code:=Tryz.f85.body.getD .skip) (by kernel_rfl) (by kernel_rfl) (A:=QvM) (I:=QrQ) (QBP) ?_
 rintro ⟨a0,u⟩ y hy
 exact (QD3 a0 hy).get
def QlO : Ctr:=HB 85 [(.list Qa)] [(.list Qa)] fun x=>Yk x.1
theorem QrS : Qh Tryz.prog (QlO):=QyL (by kernel_rfl) (by kernel_rfl) QCK
def Qer : Ctr:=QyK 86 [(.list .str)] .str fun x=>QC x.1
def Hu : List (List Nat × Ann):=[]
def Hf : List (List Nat × Nat):=[]
def Hg : List Ctr:=[]
def Hv (n : Nat) (a0 : (List (List Int))) : Option (List (List Int)):=WV Tryz.prog noG Hu Hf (Qn Hg) Tryz.f86 (Tryz.f86.body.getD .skip) (Qsk Tryz.prog Tryz.f86 .str) n (Qt [(.list .str)] (a0,()))
theorem QbX (n : Nat) (a0 : (List (List Int))) : Hv n a0 =
  bif decide (0 < a0.length) then
   bif decide (((([] : List (List Int)).length : Int) + (a0.length : Int)) * 16 ≤ Qv) && decide ((([] : List (List Int)).length : Int) + (a0.length : Int) ≤ Qv) then
    some (([] : List (List Int)) ++ a0)
   else none
  else
   Qof
    (some ([]))
    (bif decide (((([] : List (List Int)).length : Int) + (a0.length : Int)) * 16 ≤ Qv) && decide ((([] : List (List Int)).length : Int) + (a0.length : Int) ≤ Qv) then
     some (([] : List (List Int)) ++ a0)
    else none):=by kernel_rfl
theorem Qes (a0 : (List (List Int))) {r : (List (List Int))} (h : QC a0 = some r) : Ev (fun n=>Hv n a0) r:=by
 rw [QC] at h
 refine Ev.of_eq ?_ (fun n=>QbX n a0)
 exact (Ev.ofBif h (fun h=>(Ev.ofBif h (fun h=>(Ev.ofSome h)) (fun h=>(Ev.ofNone h)))) (fun h=>(Ev.ofBoth h (fun h=>(Ev.ofSome h)) (fun h=>(Ev.ofBif h (fun h=>(Ev.ofSome h)) (fun h=>(Ev.ofNone h)))))))
theorem Qcu : ∀ x ∈ Hg,Qh Tryz.prog x:=Qk
theorem QdA : Qh Tryz.prog (Qer):=by
 refine QsE (by kernel_rfl) (by kernel_rfl : Tryz.prog.funcs[86]? = some Tryz.f86) (code:=Tryz.f86.body.getD .skip) (by kernel_rfl) (by kernel_rfl) (A:=Hu) (I:=Hf) (Qcu) ?_
 rintro ⟨a0,u⟩ y hy
 exact (Qes a0 hy).get
def Gd : Ctr:=HB 86 [(.list .str)] [(.list .str)] fun x=>QC x.1
theorem Hh : Qh Tryz.prog (Gd):=QyL (by kernel_rfl) (by kernel_rfl) QdA
def Qhg : Ctr:=HB 87 [Qf] [Qf] fun x=>ZX x.1
def Qhh : List (List Nat × Ann):=[]
def QfI : List (List Nat × Nat):=[([1002],2000085),([1005],2000086)]
def QfJ : List Ctr:=[QlO,Gd]
def Qhi (n : Nat) (a0 : Ql) : Option Ql:=WV Tryz.prog noG Qhh QfI (Qn QfJ) Tryz.f87 (Tryz.f87.body.getD .skip) (We Tryz.prog Tryz.f87 [Qf]) n (Qt [Qf] (a0,()))
theorem QnU (n : Nat) (a0 : Ql) : Qhi n a0 =
  Option.bind (Yk a0.2.2.1) fun (y1 : (List Qb)) =>
  Option.bind (QC a0.2.2.2) fun (y2 : (List (List Int))) =>
  some (a0.1,a0.2.1,y1,y2):=by kernel_rfl
theorem QtE (a0 : Ql) {r : Ql} (h : ZX a0 = some r) : Ev (fun n=>Qhi n a0) r:=by
 rw [ZX] at h
 refine Ev.of_eq ?_ (fun n=>QnU n a0)
 exact (Ev.ofBind h fun y1 h=>(Ev.ofBind h fun y2 h=>(Ev.ofSome h)))
theorem QpL : ∀ x ∈ QfJ,Qh Tryz.prog x:=(Qd QrS (Qd Hh Qk))
theorem Qrg : Qh Tryz.prog (Qhg):=by
 refine Y6 (by kernel_rfl) (by kernel_rfl : Tryz.prog.funcs[87]? = some Tryz.f87) (code:=Tryz.f87.body.getD .skip) (by kernel_rfl) (by kernel_rfl) (A:=Qhh) (I:=QfI) (QpL) ?_
 rintro ⟨a0,u⟩ y hy
 exact (QtE a0 hy).get
def Qhj : Ctr:=HB 43 [Qe] [Qe] fun x=>ZA x.1
def Qat : List (List Nat × Ann):=[([0,4],[.keep 0 1,.keep 0 2,.drb 0 3 Qf,.keep 0 15,.keep 0 16,.keep 0 17,.drbb 0 1 4 Qa,.drbb 0 1 5 .str,.box 0 1 7,.box 0 2 7])]
def W7 : List (List Nat × Nat):=[([1002],2000085),([1005],2000086),([6002],2000087),([6003],0),([6004],0)]
def W8 : List Ctr:=[QlO,Gd,Qhg]
def Qhk (n : Nat) (a0 : Qc) : Option Qc:=WV Tryz.prog noG Qat W7 (Qn W8) Tryz.f43 (Tryz.f43.body.getD .skip) (We Tryz.prog Tryz.f43 [Qe]) n (Qt [Qe] (a0,()))
abbrev Vv (n : Nat) (x1 : (List Ql)) (x2 : (List Ql)) (x3 : Int) (x4 : Int) (x5 : Int) (x6 : Int) (x7 : (List Int)) (x8 : (List Int)) (x9 : (List Qb)) (x10 : (List (List Int))) (x11 : (List Ql)) (x12 : Int) (x13 : Int) (x14 : (List Int)) (x15 : (List Int)) : Option Qc:=Uy Tryz.prog noG Qat W7 (Qn W8) Tryz.f43 (Tryz.f43.body.getD .skip) (We Tryz.prog Tryz.f43 [Qe]) n [0,4] [.ptr 0 1 0,.ptr 0 2 0,.d (.list Qf) x1,.d (.list Qf) x2,.d I64 x3,.d I64 x4,.d (.list Qa) x9,.d (.list .str) x10,.agg [.d I64 x5,.d I64 x6,.d .str x7,.d .str x8,.any,.any,.d (.list Qf) x11],.agg [.d I64 x12,.d I64 x13,.d .str x14,.d .str x15,.nils,.nils,.nils]]
theorem QnV (n : Nat) (a0 : Qc) : Qhk n a0 =
  Option.bind (Yk a0.2.1) fun (y1 : (List Qb)) =>
  Option.bind (QC a0.2.2.1) fun (y2 : (List (List Int))) =>
  Vv n [] a0.2.2.2 (a0.2.2.2.length : Int) 0 a0.1.1 a0.1.2.1 a0.1.2.2.1 a0.1.2.2.2 y1 y2 a0.2.2.2 0 0 ([] : List Int) ([] : List Int):=by kernel_rfl
theorem WR (n : Nat) (x1 : (List Ql)) (x2 : (List Ql)) (x3 : Int) (x4 : Int) (x5 : Int) (x6 : Int) (x7 : (List Int)) (x8 : (List Int)) (x9 : (List Qb)) (x10 : (List (List Int))) (x11 : (List Ql)) (x12 : Int) (x13 : Int) (x14 : (List Int)) (x15 : (List Int)) : Vv (n + 1) x1 x2 x3 x4 x5 x6 x7 x8 x9 x10 x11 x12 x13 x14 x15 =
  bif decide (x4 < x3) then
   bif inB x4 x2.length then
    Option.bind (ZX (rd x2 x4 (Ty.dflt Qf))) fun (y3 : Ql) =>
    bif decide (((x1.length : Int) + (([y3] : List Ql).length : Int)) * 104 ≤ Qv) && decide ((x1.length : Int) + (([y3] : List Ql).length : Int) ≤ Qv) then
     Vv n (x1 ++ ([y3] : List Ql)) x2 x3 (IntKind.wrap .i64 (x4 + 1)) x5 x6 x7 x8 x9 x10 x11 x12 x13 x14 x15
    else none
   else none
  else
   some ((x5,x6,x7,x8),x9,x10,x1):=by kernel_rfl
theorem QlP {x2 : (List Ql)} {x5 : Int} {x6 : Int} {x7 : (List Int)} {x8 : (List Int)} {x9 : (List Qb)} {x10 : (List (List Int))} {x14 : (List Int)} (hl : x2.length ≤ maxLen) : ∀ (rest : List Ql) (k : Nat) (x1 : (List Ql)) (r : Qc),rest = x2.drop k → QZ x5 x6 x7 x8 x9 x10 rest x1 = some r → Ev (fun n=>Vv n x1 x2 (x2.length : Int) (k : Int) x5 x6 x7 x8 x9 x10 x2 (0 : Int) (0 : Int) x14 x14) r:=by
 intro rest
 induction rest with
 | nil =>
  intro k x1 r hr h
  have hk:=QH hr
  rw [QZ] at h
  refine Ev.step ?_ (fun n=>WR n x1 x2 (x2.length : Int) (k : Int) x5 x6 x7 x8 x9 x10 x2 (0 : Int) (0 : Int) x14 x14)
  rw [show decide ((k : Int) < (x2.length : Int)) = false from decide_eq_false (by omega)]
  exact Ev.neg rfl (Ev.ofSome h)
 | cons e rest ih =>
  intro k x1 r hr h
  obtain ⟨hk,hx,hr2⟩:=Qz (d:=(Ty.dflt Qf)) hr
  have hw:=Qy hl hk
  have ih2 : ∀ (z1 : (List Ql)) (r : Qc),QZ x5 x6 x7 x8 x9 x10 rest z1 = some r → Ev (fun n=>Vv n z1 x2 (x2.length : Int) (IntKind.wrap .i64 ((k : Int) + 1)) x5 x6 x7 x8 x9 x10 x2 (0 : Int) (0 : Int) x14 x14) r:=by
   intro z1 r h; rw [hw]; exact ih (k + 1) z1 r hr2 h
  rw [QZ] at h
  refine Ev.step ?_ (fun n=>WR n x1 x2 (x2.length : Int) (k : Int) x5 x6 x7 x8 x9 x10 x2 (0 : Int) (0 : Int) x14 x14)
  rw [show decide ((k : Int) < (x2.length : Int)) = true from decide_eq_true (by omega),Qx hk,hx]
  exact Ev.pos rfl (Ev.pos rfl (Ev.ofBind h fun y3 h=>(Ev.ofBif h (fun h=>(ih2 _ _ h)) (fun h=>(Ev.ofNone h)))))
theorem QtF (a0 : Qc) {r : Qc} (h : ZA a0 = some r) : Ev (fun n=>Qhk n a0) r:=by
 rw [ZA] at h
 refine Ev.of_eq ?_ (fun n=>QnV n a0)
 exact (Ev.ofBind h fun y1 h=>(Ev.ofBind h fun y2 h=>(Ev.ofLen h fun hl h=>QlP hl _ (0 : Nat) _ _ rfl h)))
theorem QpM : ∀ x ∈ W8,Qh Tryz.prog x:=(Qd QrS (Qd Hh (Qd Qrg Qk)))
theorem Qrh : Qh Tryz.prog (Qhj):=by
 refine Y6 (by kernel_rfl) (by kernel_rfl : Tryz.prog.funcs[43]? = some Tryz.f43) (code:=Tryz.f43.body.getD .skip) (by kernel_rfl) (by kernel_rfl) (A:=Qat) (I:=W7) (QpM) ?_
 rintro ⟨a0,u⟩ y hy
 exact (QtF a0 hy).get
def QfK (g0 : (List (List Int))) : Ctr:=HB 12 [(.list Qe),Qu,(.list Qg)] [(.list Qe)] fun x=>Y4 g0 x.1 x.2.1 x.2.2.1
def J1 : List (List Nat × Ann):=[([0,6],[.keep 0 0,.keep 0 2,.keep 0 7,.own 0 8 Qa,.keep 0 45,.keep 0 46,.keep 0 47,.mapb 0 36 Qa .bool]),([0,11],[.keep 0 0,.keep 0 7,.own 0 8 Qa,.keep 0 56,.keep 0 57,.keep 0 58,.mapb 0 36 Qa .bool]),([0,14],[.keep 0 0,.keep 0 7,.own 0 8 Qa,.keep 0 56,.keep 0 57,.keep 0 58,.keep 0 63,.keep 0 64,.keep 0 65,.mapb 0 36 Qa .bool]),([0,19],[.keep 0 0,.keep 0 7,.own 0 8 Qa,.mapb 0 36 Qa .bool]),([0,27],[.keep 0 0,.keep 0 7,.own 0 8 Qa,.keep 0 105,.keep 0 106,.keep 0 107,.mapb 0 36 Qa .bool]),([0,33],[.keep 0 7,.drb 0 20 Qe,.keep 0 116,.keep 0 117,.keep 0 118,.mapb 0 36 Qa .bool])]
def Jx : List (List Nat × Nat):=[([36002],2000043),([36003],0),([36004],0)]
def Jy (g0 : (List (List Int))) : List Ctr:=[Uh,HM,(XI g0),EO,Uk,Qhj]
def QfL (g0 : (List (List Int))) (n : Nat) (a0 : (List Qc)) (a1 : QD) (a2 : (List Qi)) : Option (List Qc):=WV Tryz.prog (Xt [(0,Qq (.list .str) g0)]) J1 Jx (Qn (Jy g0)) Tryz.f12 (Tryz.f12.body.getD .skip) (We Tryz.prog Tryz.f12 [(.list Qe)]) n (Qt [(.list Qe),Qu,(.list Qg)] (a0,a1,a2,()))
abbrev Vi (g0 : (List (List Int))) (n : Nat) (x1 : (List Qc)) (x2 : (List Qi)) (x3 : (List Qb)) (x4 : (List Ql)) (x5 : Int) (x6 : Int) (x7 : (List (Qb × Bool))) : Option (List Qc):=Uy Tryz.prog (Xt [(0,Qq (.list .str) g0)]) J1 Jx (Qn (Jy g0)) Tryz.f12 (Tryz.f12.body.getD .skip) (We Tryz.prog Tryz.f12 [(.list Qe)]) n [0,6] [.d (.list Qe) x1,.d (.list Qg) x2,.mp 0 36,.own 0 Qa x3,.d (.list Qf) x4,.d I64 x5,.d I64 x6,.d (.map Qa .bool) x7]
abbrev JN (g0 : (List (List Int))) (n : Nat) (x1 : (List Qc)) (x2 : (List Qb)) (x3 : (List Qi)) (x4 : Int) (x5 : Int) (x6 : (List (Qb × Bool))) : Option (List Qc):=Uy Tryz.prog (Xt [(0,Qq (.list .str) g0)]) J1 Jx (Qn (Jy g0)) Tryz.f12 (Tryz.f12.body.getD .skip) (We Tryz.prog Tryz.f12 [(.list Qe)]) n [0,11] [.d (.list Qe) x1,.mp 0 36,.own 0 Qa x2,.d (.list Qg) x3,.d I64 x4,.d I64 x5,.d (.map Qa .bool) x6]
abbrev YU (g0 : (List (List Int))) (n : Nat) (x1 : (List Qc)) (x2 : (List Qb)) (x3 : (List Qi)) (x4 : Int) (x5 : Int) (x6 : (List Qr)) (x7 : Int) (x8 : Int) (x9 : (List (Qb × Bool))) : Option (List Qc):=Uy Tryz.prog (Xt [(0,Qq (.list .str) g0)]) J1 Jx (Qn (Jy g0)) Tryz.f12 (Tryz.f12.body.getD .skip) (We Tryz.prog Tryz.f12 [(.list Qe)]) n [0,14] [.d (.list Qe) x1,.mp 0 36,.own 0 Qa x2,.d (.list Qg) x3,.d I64 x4,.d I64 x5,.d (.list Qo) x6,.d I64 x7,.d I64 x8,.d (.map Qa .bool) x9]
abbrev Z3 (g0 : (List (List Int))) (n : Nat) (x1 : (List Qc)) (x2 : (List Qb)) (x3 : (List (Qb × Bool))) : Option (List Qc):=Uy Tryz.prog (Xt [(0,Qq (.list .str) g0)]) J1 Jx (Qn (Jy g0)) Tryz.f12 (Tryz.f12.body.getD .skip) (We Tryz.prog Tryz.f12 [(.list Qe)]) n [0,19] [.d (.list Qe) x1,.mp 0 36,.own 0 Qa x2,.d (.map Qa .bool) x3]
abbrev YV (g0 : (List (List Int))) (n : Nat) (x1 : (List Qc)) (x2 : (List Qb)) (x3 : (List Ql)) (x4 : Int) (x5 : Int) (x6 : (List (Qb × Bool))) : Option (List Qc):=Uy Tryz.prog (Xt [(0,Qq (.list .str) g0)]) J1 Jx (Qn (Jy g0)) Tryz.f12 (Tryz.f12.body.getD .skip) (We Tryz.prog Tryz.f12 [(.list Qe)]) n [0,27] [.d (.list Qe) x1,.mp 0 36,.own 0 Qa x2,.d (.list Qf) x3,.d I64 x4,.d I64 x5,.d (.map Qa .bool) x6]
abbrev JO (g0 : (List (List Int))) (n : Nat) (x1 : (List Qc)) (x2 : (List Qc)) (x3 : Int) (x4 : Int) (x5 : (List (Qb × Bool))) : Option (List Qc):=Uy Tryz.prog (Xt [(0,Qq (.list .str) g0)]) J1 Jx (Qn (Jy g0)) Tryz.f12 (Tryz.f12.body.getD .skip) (We Tryz.prog Tryz.f12 [(.list Qe)]) n [0,33] [.mp 0 36,.d (.list Qe) x1,.d (.list Qe) x2,.d I64 x3,.d I64 x4,.d (.map Qa .bool) x5]
theorem QlQ (g0 : (List (List Int))) (n : Nat) (a0 : (List Qc)) (a1 : QD) (a2 : (List Qi)) : QfL g0 n a0 a1 a2 =
  Option.bind (YE a0) fun (y1 : Bool) =>
  bif !(y1) then
   some ([])
  else
   Option.bind (Yh a1) fun (y2 : Bool) =>
   bif !(y2) then
    some ([])
   else
    Option.bind (Jw g0 a2) fun (y3 : Bool) =>
    bif !(y3) then
     some ([])
    else
     Vi g0 n a0 a2 ([a1.1,a1.2.1,a1.2.2.1] : List Qb) a1.2.2.2.2 (a1.2.2.2.2.length : Int) 0 []:=by kernel_rfl
theorem U2 (g0 : (List (List Int))) (n : Nat) (x1 : (List Qc)) (x2 : (List Qi)) (x3 : (List Qb)) (x4 : (List Ql)) (x5 : Int) (x6 : Int) (x7 : (List (Qb × Bool))) : Vi g0 (n + 1) x1 x2 x3 x4 x5 x6 x7 =
  bif decide (x6 < x5) then
   bif inB x6 x4.length then
    bif decide (((x3.length : Int) + ((Qw (rd x4 x6 (Ty.dflt Qf))).length : Int)) * 48 ≤ Qv) && decide ((x3.length : Int) + ((Qw (rd x4 x6 (Ty.dflt Qf))).length : Int) ≤ Qv) then
     Vi g0 n x1 x2 (x3 ++ (Qw (rd x4 x6 (Ty.dflt Qf)))) x4 x5 (IntKind.wrap .i64 (x6 + 1)) x7
    else none
   else none
  else
   JN g0 n x1 x3 x2 (x2.length : Int) 0 x7:=by kernel_rfl
theorem Un (g0 : (List (List Int))) (n : Nat) (x1 : (List Qc)) (x2 : (List Qb)) (x3 : (List Qi)) (x4 : Int) (x5 : Int) (x6 : (List (Qb × Bool))) : JN g0 (n + 1) x1 x2 x3 x4 x5 x6 =
  bif decide (x5 < x4) then
   bif inB x5 x3.length then
    YU g0 n x1 x2 x3 x4 x5 ((((((rd x3 x5 (Ty.dflt Qg)).2).2).2).2).2) (((((((rd x3 x5 (Ty.dflt Qg)).2).2).2).2).2).length : Int) 0 x6
   else none
  else
   Z3 g0 n x1 x2 x6:=by kernel_rfl
theorem Uo (g0 : (List (List Int))) (n : Nat) (x1 : (List Qc)) (x2 : (List Qb)) (x3 : (List Qi)) (x4 : Int) (x5 : Int) (x6 : (List Qr)) (x7 : Int) (x8 : Int) (x9 : (List (Qb × Bool))) : YU g0 (n + 1) x1 x2 x3 x4 x5 x6 x7 x8 x9 =
  bif decide (x8 < x7) then
   bif inB x8 x6.length then
    bif decide (((x2.length : Int) + (([((((rd x6 x8 (Ty.dflt Qo)).2).2).1)] : List Qb).length : Int)) * 48 ≤ Qv) && decide ((x2.length : Int) + (([((((rd x6 x8 (Ty.dflt Qo)).2).2).1)] : List Qb).length : Int) ≤ Qv) then
     YU g0 n x1 (x2 ++ ([((((rd x6 x8 (Ty.dflt Qo)).2).2).1)] : List Qb)) x3 x4 x5 x6 x7 (IntKind.wrap .i64 (x8 + 1)) x9
    else none
   else none
  else
   JN g0 n x1 x2 x3 x4 (IntKind.wrap .i64 (x5 + 1)) x9:=by kernel_rfl
theorem Qf8 (g0 : (List (List Int))) (n : Nat) (x1 : (List Qc)) (x2 : (List Qb)) (x3 : (List (Qb × Bool))) : Z3 g0 (n + 1) x1 x2 x3 =
  bif decide ((0 : Int) < (x2.length : Int)) then
   bif inB 0 x2.length then
    bif !decide ((rd x2 0 (Ty.dflt Qa)).1 = 4) then
     bif true && decide ((1 : Int) ≤ (x2.length : Int)) then
      Z3 g0 n x1 (cut x2 1 (x2.length : Int)) x3
     else none
    else
     bif QcJ Qa x3 (rd x2 0 (Ty.dflt Qa)) false then
      bif true && decide ((1 : Int) ≤ (x2.length : Int)) then
       Z3 g0 n x1 (cut x2 1 (x2.length : Int)) x3
      else none
     else
      Option.bind (YF x1 (rd x2 0 (Ty.dflt Qa))) fun (y4 : (Qc × Bool)) =>
      bif decide (((x2.length : Int) + (y4.1.2.1.length : Int)) * 48 ≤ Qv) && decide ((x2.length : Int) + (y4.1.2.1.length : Int) ≤ Qv) then
       YV g0 n x1 (x2 ++ y4.1.2.1) y4.1.2.2.2 (y4.1.2.2.2.length : Int) 0 (QiG Qa x3 (rd x2 0 (Ty.dflt Qa)) true)
      else none
   else none
  else
   JO g0 n [] x1 (x1.length : Int) 0 x3:=by kernel_rfl
theorem Up (g0 : (List (List Int))) (n : Nat) (x1 : (List Qc)) (x2 : (List Qb)) (x3 : (List Ql)) (x4 : Int) (x5 : Int) (x6 : (List (Qb × Bool))) : YV g0 (n + 1) x1 x2 x3 x4 x5 x6 =
  bif decide (x5 < x4) then
   bif inB x5 x3.length then
    bif decide (((x2.length : Int) + ((Qw (rd x3 x5 (Ty.dflt Qf))).length : Int)) * 48 ≤ Qv) && decide ((x2.length : Int) + ((Qw (rd x3 x5 (Ty.dflt Qf))).length : Int) ≤ Qv) then
     YV g0 n x1 (x2 ++ (Qw (rd x3 x5 (Ty.dflt Qf)))) x3 x4 (IntKind.wrap .i64 (x5 + 1)) x6
    else none
   else none
  else
   bif true && decide ((1 : Int) ≤ (x2.length : Int)) then
    Z3 g0 n x1 (cut x2 1 (x2.length : Int)) x6
   else none:=by kernel_rfl
theorem Uq (g0 : (List (List Int))) (n : Nat) (x1 : (List Qc)) (x2 : (List Qc)) (x3 : Int) (x4 : Int) (x5 : (List (Qb × Bool))) : JO g0 (n + 1) x1 x2 x3 x4 x5 =
  bif decide (x4 < x3) then
   bif inB x4 x2.length then
    bif QcJ Qa x5 ((rd x2 x4 (Ty.dflt Qe)).1) false then
     Option.bind (ZA (((rd x2 x4 (Ty.dflt Qe)).1),((rd x2 x4 (Ty.dflt Qe)).2))) fun (y5 : Qc) =>
     bif decide (((x1.length : Int) + (([y5] : List Qc).length : Int)) * 120 ≤ Qv) && decide ((x1.length : Int) + (([y5] : List Qc).length : Int) ≤ Qv) then
      JO g0 n (x1 ++ ([y5] : List Qc)) x2 x3 (IntKind.wrap .i64 (x4 + 1)) x5
     else none
    else
     JO g0 n x1 x2 x3 (IntKind.wrap .i64 (x4 + 1)) x5
   else none
  else
   some x1:=by kernel_rfl
theorem Qi0 {g0 : (List (List Int))} {K1 : (List Qb) → Option (List Qc)} {x1 : (List Qc)} {x3 : (List Qi)} {x4 : Int} {x5 : Int} {x6 : (List Qr)} {x9 : (List (Qb × Bool))} (hl : x6.length ≤ maxLen) (hK1 : ∀ (z2 : (List Qb)) (r : (List Qc)),K1 z2 = some r → Ev (fun n=>JN g0 n x1 z2 x3 x4 (IntKind.wrap .i64 (x5 + 1)) x9) r) : ∀ (rest : List Qr) (k : Nat) (x2 : (List Qb)) (r : (List Qc)),rest = x6.drop k → QN g0 K1 rest x2 = some r → Ev (fun n=>YU g0 n x1 x2 x3 x4 x5 x6 (x6.length : Int) (k : Int) x9) r:=by
 intro rest
 induction rest with
 | nil =>
  intro k x2 r hr h
  have hk:=QH hr
  rw [QN] at h
  refine Ev.step ?_ (fun n=>Uo g0 n x1 x2 x3 x4 x5 x6 (x6.length : Int) (k : Int) x9)
  rw [show decide ((k : Int) < (x6.length : Int)) = false from decide_eq_false (by omega)]
  exact Ev.neg rfl (hK1 _ _ h)
 | cons e rest ih =>
  intro k x2 r hr h
  obtain ⟨hk,hx,hr2⟩:=Qz (d:=(Ty.dflt Qo)) hr
  have hw:=Qy hl hk
  have ih2 : ∀ (z2 : (List Qb)) (r : (List Qc)),QN g0 K1 rest z2 = some r → Ev (fun n=>YU g0 n x1 z2 x3 x4 x5 x6 (x6.length : Int) (IntKind.wrap .i64 ((k : Int) + 1)) x9) r:=by
   intro z2 r h; rw [hw]; exact ih (k + 1) z2 r hr2 h
  rw [QN] at h
  refine Ev.step ?_ (fun n=>Uo g0 n x1 x2 x3 x4 x5 x6 (x6.length : Int) (k : Int) x9)
  rw [show decide ((k : Int) < (x6.length : Int)) = true from decide_eq_true (by omega),Qx hk,hx]
  exact Ev.pos rfl (Ev.pos rfl (Ev.ofBif h (fun h=>(ih2 _ _ h)) (fun h=>(Ev.ofNone h))))
theorem Qi1 {g0 : (List (List Int))} {K3 : (List Qb) → (List (Qb × Bool)) → Option (List Qc)} {x1 : (List Qc)} {x3 : (List Ql)} {x6 : (List (Qb × Bool))} (hl : x3.length ≤ maxLen) (hK3 : ∀ (z2 : (List Qb)) (z3 : (List (Qb × Bool))) (r : (List Qc)),K3 z2 z3 = some r → Ev (fun n=>Z3 g0 n x1 z2 z3) r) : ∀ (rest : List Ql) (k : Nat) (x2 : (List Qb)) (r : (List Qc)),rest = x3.drop k → QO g0 K3 x6 rest x2 = some r → Ev (fun n=>YV g0 n x1 x2 x3 (x3.length : Int) (k : Int) x6) r:=by
 intro rest
 induction rest with
 | nil =>
  intro k x2 r hr h
  have hk:=QH hr
  rw [QO] at h
  refine Ev.step ?_ (fun n=>Up g0 n x1 x2 x3 (x3.length : Int) (k : Int) x6)
  rw [show decide ((k : Int) < (x3.length : Int)) = false from decide_eq_false (by omega)]
  exact Ev.neg rfl (Ev.ofBif h (fun h=>(hK3 _ _ _ h)) (fun h=>(Ev.ofNone h)))
 | cons e rest ih =>
  intro k x2 r hr h
  obtain ⟨hk,hx,hr2⟩:=Qz (d:=(Ty.dflt Qf)) hr
  have hw:=Qy hl hk
  have ih2 : ∀ (z2 : (List Qb)) (r : (List Qc)),QO g0 K3 x6 rest z2 = some r → Ev (fun n=>YV g0 n x1 z2 x3 (x3.length : Int) (IntKind.wrap .i64 ((k : Int) + 1)) x6) r:=by
   intro z2 r h; rw [hw]; exact ih (k + 1) z2 r hr2 h
  rw [QO] at h
  refine Ev.step ?_ (fun n=>Up g0 n x1 x2 x3 (x3.length : Int) (k : Int) x6)
  rw [show decide ((k : Int) < (x3.length : Int)) = true from decide_eq_true (by omega),Qx hk,hx]
  exact Ev.pos rfl (Ev.pos rfl (Ev.ofBif h (fun h=>(ih2 _ _ h)) (fun h=>(Ev.ofNone h))))
theorem Qi2 {g0 : (List (List Int))} {x2 : (List Qc)} {x5 : (List (Qb × Bool))} (hl : x2.length ≤ maxLen) : ∀ (rest : List Qc) (k : Nat) (x1 : (List Qc)) (r : (List Qc)),rest = x2.drop k → QI g0 x5 rest x1 = some r → Ev (fun n=>JO g0 n x1 x2 (x2.length : Int) (k : Int) x5) r:=by
 intro rest
 induction rest with
 | nil =>
  intro k x1 r hr h
  have hk:=QH hr
  rw [QI] at h
  refine Ev.step ?_ (fun n=>Uq g0 n x1 x2 (x2.length : Int) (k : Int) x5)
  rw [show decide ((k : Int) < (x2.length : Int)) = false from decide_eq_false (by omega)]
  exact Ev.neg rfl (Ev.ofSome h)
 | cons e rest ih =>
  intro k x1 r hr h
  obtain ⟨hk,hx,hr2⟩:=Qz (d:=(Ty.dflt Qe)) hr
  have hw:=Qy hl hk
  have ih2 : ∀ (z1 : (List Qc)) (r : (List Qc)),QI g0 x5 rest z1 = some r → Ev (fun n=>JO g0 n z1 x2 (x2.length : Int) (IntKind.wrap .i64 ((k : Int) + 1)) x5) r:=by
   intro z1 r h; rw [hw]; exact ih (k + 1) z1 r hr2 h
  rw [QI] at h
  refine Ev.step ?_ (fun n=>Uq g0 n x1 x2 (x2.length : Int) (k : Int) x5)
  rw [show decide ((k : Int) < (x2.length : Int)) = true from decide_eq_true (by omega),Qx hk,hx]
  exact Ev.pos rfl (Ev.pos rfl (Ev.ofBif h (fun h=>(Ev.ofBind h fun y5 h=>(Ev.ofBif h (fun h=>(ih2 _ _ h)) (fun h=>(Ev.ofNone h))))) (fun h=>(ih2 _ _ h))))
theorem Qi3 {g0 : (List (List Int))} {x1 : (List Qc)} : ∀ (m : Nat) (x2 : (List Qb)) (x3 : (List (Qb × Bool))) (r : (List Qc)),QB g0 x1 m x2 x3 = some r → Ev (fun n=>Z3 g0 n x1 x2 x3) r:=by
 intro m
 induction m with
 | zero=>intro x2 x3 r h; rw [QB] at h; exact Ev.ofNone h
 | succ m ih2 =>
  intro x2 x3 r h
  rw [QB] at h
  refine Ev.step ?_ (fun n=>Qf8 g0 n x1 x2 x3)
  exact (Ev.ofBif h (fun h=>(Ev.ofBif h (fun h=>(Ev.ofBif h (fun h=>(Ev.ofBif h (fun h=>(ih2 _ _ _ h)) (fun h=>(Ev.ofNone h)))) (fun h=>(Ev.ofBif h (fun h=>(Ev.ofBif h (fun h=>(ih2 _ _ _ h)) (fun h=>(Ev.ofNone h)))) (fun h=>(Ev.ofBind h fun y4 h=>(Ev.ofBif h (fun h=>(Ev.ofLen h fun hl h=>Qi1 hl ih2 _ (0 : Nat) _ _ rfl h)) (fun h=>(Ev.ofNone h))))))))) (fun h=>(Ev.ofNone h)))) (fun h=>(Ev.ofLen h fun hl h=>Qi2 hl _ (0 : Nat) _ _ rfl h)))
theorem Qi4 {g0 : (List (List Int))} {m : Nat} {x1 : (List Qc)} {x3 : (List Qi)} {x6 : (List (Qb × Bool))} (hl : x3.length ≤ maxLen) : ∀ (rest : List Qi) (k : Nat) (x2 : (List Qb)) (r : (List Qc)),rest = x3.drop k → QK g0 m x1 x6 rest x2 = some r → Ev (fun n=>JN g0 n x1 x2 x3 (x3.length : Int) (k : Int) x6) r:=by
 intro rest
 induction rest with
 | nil =>
  intro k x2 r hr h
  have hk:=QH hr
  rw [QK] at h
  refine Ev.step ?_ (fun n=>Un g0 n x1 x2 x3 (x3.length : Int) (k : Int) x6)
  rw [show decide ((k : Int) < (x3.length : Int)) = false from decide_eq_false (by omega)]
  exact Ev.neg rfl (Qi3 _ _ _ _ h)
 | cons e rest ih =>
  intro k x2 r hr h
  obtain ⟨hk,hx,hr2⟩:=Qz (d:=(Ty.dflt Qg)) hr
  have hw:=Qy hl hk
  have ih2 : ∀ (z2 : (List Qb)) (r : (List Qc)),QK g0 m x1 x6 rest z2 = some r → Ev (fun n=>JN g0 n x1 z2 x3 (x3.length : Int) (IntKind.wrap .i64 ((k : Int) + 1)) x6) r:=by
   intro z2 r h; rw [hw]; exact ih (k + 1) z2 r hr2 h
  rw [QK] at h
  refine Ev.step ?_ (fun n=>Un g0 n x1 x2 x3 (x3.length : Int) (k : Int) x6)
  rw [show decide ((k : Int) < (x3.length : Int)) = true from decide_eq_true (by omega),Qx hk,hx]
  exact Ev.pos rfl (Ev.pos rfl (Ev.ofLen h fun hl h=>Qi0 hl ih2 _ (0 : Nat) _ _ rfl h))
theorem Qkq {g0 : (List (List Int))} {m : Nat} {x1 : (List Qc)} {x2 : (List Qi)} {x4 : (List Ql)} {x7 : (List (Qb × Bool))} (hl : x4.length ≤ maxLen) : ∀ (rest : List Ql) (k : Nat) (x3 : (List Qb)) (r : (List Qc)),rest = x4.drop k → QV g0 m x1 x2 x7 rest x3 = some r → Ev (fun n=>Vi g0 n x1 x2 x3 x4 (x4.length : Int) (k : Int) x7) r:=by
 intro rest
 induction rest with
 | nil =>
  intro k x3 r hr h
  have hk:=QH hr
  rw [QV] at h
  refine Ev.step ?_ (fun n=>U2 g0 n x1 x2 x3 x4 (x4.length : Int) (k : Int) x7)
  rw [show decide ((k : Int) < (x4.length : Int)) = false from decide_eq_false (by omega)]
  exact Ev.neg rfl (Ev.ofLen h fun hl h=>Qi4 hl _ (0 : Nat) _ _ rfl h)
 | cons e rest ih =>
  intro k x3 r hr h
  obtain ⟨hk,hx,hr2⟩:=Qz (d:=(Ty.dflt Qf)) hr
  have hw:=Qy hl hk
  have ih2 : ∀ (z3 : (List Qb)) (r : (List Qc)),QV g0 m x1 x2 x7 rest z3 = some r → Ev (fun n=>Vi g0 n x1 x2 z3 x4 (x4.length : Int) (IntKind.wrap .i64 ((k : Int) + 1)) x7) r:=by
   intro z3 r h; rw [hw]; exact ih (k + 1) z3 r hr2 h
  rw [QV] at h
  refine Ev.step ?_ (fun n=>U2 g0 n x1 x2 x3 x4 (x4.length : Int) (k : Int) x7)
  rw [show decide ((k : Int) < (x4.length : Int)) = true from decide_eq_true (by omega),Qx hk,hx]
  exact Ev.pos rfl (Ev.pos rfl (Ev.ofBif h (fun h=>(ih2 _ _ h)) (fun h=>(Ev.ofNone h))))
theorem Qri {g0 : (List (List Int))} {m : Nat} (a0 : (List Qc)) (a1 : QD) (a2 : (List Qi)) {r : (List Qc)} (h : Zd g0 m a0 a1 a2 = some r) : Ev (fun n=>QfL g0 n a0 a1 a2) r:=by
 rw [Zd] at h
 refine Ev.of_eq ?_ (fun n=>QlQ g0 n a0 a1 a2)
 exact (Ev.ofBind h fun y1 h=>(Ev.ofBif h (fun h=>(Ev.ofSome h)) (fun h=>(Ev.ofBind h fun y2 h=>(Ev.ofBif h (fun h=>(Ev.ofSome h)) (fun h=>(Ev.ofBind h fun y3 h=>(Ev.ofBif h (fun h=>(Ev.ofSome h)) (fun h=>(Ev.ofLen h fun hl h=>Qkq hl _ (0 : Nat) _ _ rfl h))))))))))
theorem QnW (g0 : (List (List Int))) : ∀ x ∈ Jy g0,CtrOkG Tryz.prog (Xt [(0,Qq (.list .str) g0)]) x:=(Qd QgY.any (Qd QfH.any (Qd (QcH g0) (Qd Qj9.any (Qd Qg9.any (Qd Qrh.any Qk))))))
theorem QpN (g0 : (List (List Int))) : CtrOkG Tryz.prog (Xt [(0,Qq (.list .str) g0)]) (QfK g0):=by
 refine Y6 (by kernel_rfl) (by kernel_rfl : Tryz.prog.funcs[12]? = some Tryz.f12) (code:=Tryz.f12.body.getD .skip) (by kernel_rfl) (by kernel_rfl) (A:=J1) (I:=Jx) (QnW g0) ?_
 rintro ⟨a0,a1,a2,u⟩ y hy
 exact let ⟨_,h⟩:=(GL hy).get; (Qri a0 a1 a2 h).get
def YA : Nat → Int → (List Int) → Option (List Int)
 | 0,_,_=>none
 | m + 1,x1,x2 =>
   bif decide ((0 : Int) < x1) then
    bif decide ((([IntKind.wrap .u8 (IntKind.wrap .i64 (48 + (Int.tmod x1 10)))] : List Int).length : Int) ≤ Qv) then
     bif decide ((([IntKind.wrap .u8 (IntKind.wrap .i64 (48 + (Int.tmod x1 10)))] : List Int).length : Int) + (x2.length : Int) ≤ Qv) then
      YA m (IntKind.wrap .i64 (Int.tdiv x1 10)) (([IntKind.wrap .u8 (IntKind.wrap .i64 (48 + (Int.tmod x1 10)))] : List Int) ++ x2)
     else none
    else none
   else
    bif decide ((([109] : List Int).length : Int) + (x2.length : Int) ≤ Qv) then
     some (([109] : List Int) ++ x2)
    else none
def HY (m : Nat) (a0 : Int) : Option (List Int) :=
 bif decide (a0 ≤ 0) then
  some ([109,48] : List Int)
 else
  YA m a0 ([] : List Int)
def Q9 (a0 : Int) : Option (List Int):=Qcw fun m=>HY m a0
def Xn : Ctr:=⟨49,[I64],[.str],fun x=>Q9 x.1⟩
def Qe6 : List (List Nat × Ann):=[([0,4],[.keep 0 0,.keep 0 3])]
def QdB : List (List Nat × Nat):=[]
def QdC : List Ctr:=[]
def Qna (n : Nat) (a0 : Int) : Option (List Int):=run Tryz.prog Qe6 QdB (Qn QdC) Tryz.f49 (Tryz.f49.body.getD .skip) (Qp [.str]) n (Qt [I64] (a0,()))
abbrev XZ (n : Nat) (x1 : Int) (x2 : (List Int)) : Option (List Int):=lam Tryz.prog Qe6 QdB (Qn QdC) Tryz.f49 (Tryz.f49.body.getD .skip) (Qp [.str]) n [0,4] [.d I64 x1,.d .str x2]
theorem QtG (n : Nat) (a0 : Int) : Qna n a0 =
  bif decide (a0 ≤ 0) then
   some ([109,48] : List Int)
  else
   XZ n a0 ([] : List Int):=by kernel_rfl
theorem QlR (n : Nat) (x1 : Int) (x2 : (List Int)) : XZ (n + 1) x1 x2 =
  bif decide ((0 : Int) < x1) then
   bif decide ((([IntKind.wrap .u8 (IntKind.wrap .i64 (48 + (Int.tmod x1 10)))] : List Int).length : Int) ≤ Qv) then
    bif decide ((([IntKind.wrap .u8 (IntKind.wrap .i64 (48 + (Int.tmod x1 10)))] : List Int).length : Int) + (x2.length : Int) ≤ Qv) then
     XZ n (IntKind.wrap .i64 (Int.tdiv x1 10)) (([IntKind.wrap .u8 (IntKind.wrap .i64 (48 + (Int.tmod x1 10)))] : List Int) ++ x2)
    else none
   else none
  else
   bif decide ((([109] : List Int).length : Int) + (x2.length : Int) ≤ Qv) then
    some (([109] : List Int) ++ x2)
   else none:=by kernel_rfl
theorem Qrj : ∀ (m : Nat) (x1 : Int) (x2 : (List Int)) (r : (List Int)),YA m x1 x2 = some r → Ev (fun n=>XZ n x1 x2) r:=by
 intro m
 induction m with
 | zero=>intro x1 x2 r h; rw [YA] at h; exact Ev.ofNone h
 | succ m ih2 =>
  intro x1 x2 r h
  rw [YA] at h
  refine Ev.step ?_ (fun n=>QlR n x1 x2)
  exact (Ev.ofBif h (fun h=>(Ev.ofBif h (fun h=>(Ev.ofBif h (fun h=>(ih2 _ _ _ h)) (fun h=>(Ev.ofNone h)))) (fun h=>(Ev.ofNone h)))) (fun h=>(Ev.ofBif h (fun h=>(Ev.ofSome h)) (fun h=>(Ev.ofNone h)))))
theorem QzM {m : Nat} (a0 : Int) {r : (List Int)} (h : HY m a0 = some r) : Ev (fun n=>Qna n a0) r:=by
 rw [HY] at h
 refine Ev.of_eq ?_ (fun n=>QtG n a0)
 exact (Ev.ofBif h (fun h=>(Ev.ofSome h)) (fun h=>(Qrj _ _ _ _ h)))
theorem QvO : ∀ x ∈ QdC,Qh Tryz.prog x:=Qk
theorem Hi : Qh Tryz.prog (Xn):=by
 refine Qj (c:=Xn) (by kernel_rfl) (by kernel_rfl : Tryz.prog.funcs[49]? = some Tryz.f49) (code:=Tryz.f49.body.getD .skip) (by kernel_rfl) (by kernel_rfl) (by kernel_rfl) (A:=Qe6) (I:=QdB) (QvO) ?_
 rintro ⟨a0,u⟩ y hy
 exact let ⟨_,h⟩:=(GL hy).get; (QzM a0 h).get
theorem QBQ : ∀ (m n : Nat) (acc : List Int),n < m → acc.length + n ≤ 2000000000000 → YA m (n : Int) acc = some (109 :: (QEM m n ++ acc))
 | 0,n,acc,h,_=>by omega
 | m + 1,n,acc,h,hb=>by
  rw [YA]
  by_cases h0 : n = 0
  ·subst h0
   rw [decide_eq_false (by omega)]
   simp only [cond_false]
   rw [decide_eq_true (by rw [ZP]; simp only [List.length_singleton]; omega)]
   simp [QEM]
  ·have e1 : Int.tmod (n : Int) 10 = ((n % 10 : Nat) : Int):=by rw [Int.tmod_eq_emod_of_nonneg (by omega)]; omega
   have e2 : Int.tdiv (n : Int) 10 = ((n / 10 : Nat) : Int):=by rw [Int.tdiv_eq_ediv_of_nonneg (by omega)]; omega
   have hd : n % 10 < 10:=Nat.mod_lt _ (by omega)
   rw [decide_eq_true (by omega),e1,e2,QiL (x:=48 + ((n % 10 : Nat) : Int)) (by omega),QiL (x:=((n / 10 : Nat) : Int)) (by omega),QAJ (show inK .u8 (48 + ((n % 10 : Nat) : Int)) = true by rw [VW,Qsn,Qso]; omega)]
   simp only [cond_true,List.length_singleton]
   rw [decide_eq_true (by rw [ZP]; omega),decide_eq_true (by rw [ZP]; omega)]
   simp only [cond_true]
   rw [QBQ m (n / 10) _ (by omega) (by simp; omega)]
   simp [QEM,h0]
theorem QDb : ∀ (m m' n : Nat),n < m → n < m' → QEM m n = QEM m' n
 | 0,_,_,h,_=>by omega
 | _,0,_,_,h=>by omega
 | m + 1,m' + 1,n,h,h'=>by
  simp only [QEM]
  by_cases h0 : n = 0
  ·simp [h0]
  ·rw [if_neg h0,if_neg h0,QDb m m' (n / 10) (by omega) (by omega)]
theorem QBR (k : Int) (h0 : 0 ≤ k) (h1 : k ≤ Zz) : Q9 k = some (Qcx k):=by
 refine VH ⟨k.toNat + 1,fun m hm=>?_⟩
 show HY m k = some (Qcx k)
 rw [HY]
 unfold Qcx
 by_cases h : k ≤ 0
 ·rw [decide_eq_true h,if_pos h]; rfl
 ·rw [decide_eq_false h,if_neg h]
  simp only [cond_false]
  have:=QBQ m k.toNat [] (by omega) (by unfold Zz at h1; simp; omega)
  rw [Int.toNat_of_nonneg h0] at this
  rw [this,List.append_nil,QDb m (k.toNat + 1) k.toNat (by omega) (by omega)]
theorem VU : QoH Tryz.prog 49:=QIG (by kernel_rfl) Hi fun k h0 h1=>QBR k h0 h1
theorem Qhl : Qee Tryz.prog 50 (.list Qa):=Qjj (tl:=65) (by kernel_rfl : Tryz.prog.funcs[50]? = some Tryz.f50) (c:=Tryz.f50.body.getD .skip) (by kernel_rfl) (by kernel_rfl) (gt:=(some 49)) (hs:=[]) (Qgb VU) Qgt (by kernel_rfl)
theorem U3 : Qee Tryz.prog 51 (.list .str):=Qjj (tl:=25) (by kernel_rfl : Tryz.prog.funcs[51]? = some Tryz.f51) (c:=Tryz.f51.body.getD .skip) (by kernel_rfl) (by kernel_rfl) (gt:=(some 49)) (hs:=[]) (Qgb VU) Qgt (by kernel_rfl)
theorem QfM : Qee Tryz.prog 52 (.list Qf):=Qjj (tl:=37) (by kernel_rfl : Tryz.prog.funcs[52]? = some Tryz.f52) (c:=Tryz.f52.body.getD .skip) (by kernel_rfl) (by kernel_rfl) (gt:=(some 49)) (hs:=[(50,(.list Qa)),(51,(.list .str))]) (Qgb VU) (QaN Qhl (QaN U3 Qgt)) (by kernel_rfl)
theorem Qrk : Qee Tryz.prog 16 (.list Qe):=Qjj (tl:=33) (by kernel_rfl : Tryz.prog.funcs[16]? = some Tryz.f16) (c:=Tryz.f16.body.getD .skip) (by kernel_rfl) (by kernel_rfl) (gt:=(some 49)) (hs:=[(50,(.list Qa)),(51,(.list .str)),(52,(.list Qf))]) (Qgb VU) (QaN Qhl (QaN U3 (QaN QfM Qgt))) (by kernel_rfl)
def Qhm : Ctr:=QEJ 16 (.list Qe) fun x=>Qef (.list Qe) x.1 x.2.1
theorem Qrl : Qh Tryz.prog Qhm:=QDW (by kernel_rfl) (by kernel_rfl) Qrk
def Wz : Ctr:=⟨10,[Qu],[Qu],fun x=>toC Qu x.1⟩
def Qkr : List (List Nat × Ann):=[]
def Qio : List (List Nat × Nat):=[]
def QbY : List Ctr:=[JM,GP,HX]
def Qks (n : Nat) (a0 : QD) : Option QD:=run Tryz.prog Qkr Qio (Qn QbY) Tryz.f10 (Tryz.f10.body.getD .skip) (Qp [Qu]) n (Qt [Qu] (a0,()))
theorem Qrm (n : Nat) (a0 : QD) : Qks n a0 =
  Option.bind (toC Qa a0.1) fun (y1 : Qb) =>
  Option.bind (toC Qa a0.2.1) fun (y2 : Qb) =>
  Option.bind (toC Qa a0.2.2.1) fun (y3 : Qb) =>
  Option.bind (toC (.list .str) a0.2.2.2.1) fun (y4 : (List (List Int))) =>
  Option.bind (toC (.list Qf) a0.2.2.2.2) fun (y5 : (List Ql)) =>
  some (y1,y2,y3,y4,y5):=by kernel_rfl
theorem QvP (hcs : ∀ x ∈ QbY,Qh Tryz.prog x) (h : ∀ (a0 : QD) y,toC Qu a0 = some y → ∃ n,Qks n a0 = some y) : Qh Tryz.prog Wz:=by
 refine Qj (c:=Wz) (by kernel_rfl) (by kernel_rfl : Tryz.prog.funcs[10]? = some Tryz.f10) (code:=Tryz.f10.body.getD .skip) (by kernel_rfl) (by kernel_rfl) (by kernel_rfl) (A:=Qkr) (I:=Qio) hcs ?_
 rintro ⟨a0,u⟩ y hy
 exact h a0 y hy
theorem QtH : ∀ x ∈ QbY,Qh Tryz.prog x:=(Qd YT (Qd QbP (Qd Qkh Qk)))
theorem QvQ : Qh Tryz.prog Wz:=QvP QtH fun a0 y hy=>by
 obtain ⟨hw,hs,rfl⟩:=Wh hy
 have hw2 : wfD Qa y.1 ∧ wfD Qa y.2.1 ∧ wfD Qa y.2.2.1 ∧ wfD (.list .str) y.2.2.2.1 ∧ wfD (.list Qf) y.2.2.2.2:=hw
 have hs2 : Ty.size Qa y.1 + (Ty.size Qa y.2.1 + (Ty.size Qa y.2.2.1 + (Ty.size (.list .str) y.2.2.2.1 + (Ty.size (.list Qf) y.2.2.2.2)))) ≤ 1073741824:=hs
 refine ⟨0,?_⟩
 rw [Qrm]
 try (rw [QL hw2.1 (by omega)]; simp only [Option.bind_some])
 try (rw [QL hw2.2.1 (by omega)]; simp only [Option.bind_some])
 try (rw [QL hw2.2.2.1 (by omega)]; simp only [Option.bind_some])
 try (rw [QL hw2.2.2.2.1 (by omega)]; simp only [Option.bind_some])
 try (rw [QL hw2.2.2.2.2 (by omega)]; simp only [Option.bind_some])
 try rfl
def Qip : Ctr:=HB 10 [Qu] [Qu] fun x=>toC Qu x.1
def Qiq : List (List Nat × Ann):=[]
def Qhn : List (List Nat × Nat):=[([5002],2000035),([6002],2000036)]
def Qho : List Ctr:=[JM,Um,Qdx]
def Qir (n : Nat) (a0 : QD) : Option QD:=WV Tryz.prog noG Qiq Qhn (Qn Qho) Tryz.f10 (Tryz.f10.body.getD .skip) (We Tryz.prog Tryz.f10 [Qu]) n (Qt [Qu] (a0,()))
theorem QpO (n : Nat) (a0 : QD) : Qir n a0 =
  Option.bind (toC Qa a0.1) fun (y1 : Qb) =>
  Option.bind (toC Qa a0.2.1) fun (y2 : Qb) =>
  Option.bind (toC Qa a0.2.2.1) fun (y3 : Qb) =>
  Option.bind (toC (.list .str) a0.2.2.2.1) fun (y4 : (List (List Int))) =>
  Option.bind (toC (.list Qf) a0.2.2.2.2) fun (y5 : (List Ql)) =>
  some (y1,y2,y3,y4,y5):=by kernel_rfl
theorem Qrn : ∀ x ∈ Qho,Qh Tryz.prog x:=(Qd YT (Qd Qas (Qd Qin Qk)))
theorem QtI : Qh Tryz.prog Qip:=by
 refine Y6 (by kernel_rfl) (by kernel_rfl : Tryz.prog.funcs[10]? = some Tryz.f10) (code:=Tryz.f10.body.getD .skip) (by kernel_rfl) (by kernel_rfl) (A:=Qiq) (I:=Qhn) Qrn ?_
 rintro ⟨a0,u⟩ y hy
 obtain ⟨hw,hs,rfl⟩:=Wh hy
 have hw2 : wfD Qa y.1 ∧ wfD Qa y.2.1 ∧ wfD Qa y.2.2.1 ∧ wfD (.list .str) y.2.2.2.1 ∧ wfD (.list Qf) y.2.2.2.2:=hw
 have hs2 : Ty.size Qa y.1 + (Ty.size Qa y.2.1 + (Ty.size Qa y.2.2.1 + (Ty.size (.list .str) y.2.2.2.1 + (Ty.size (.list Qf) y.2.2.2.2)))) ≤ 1073741824:=hs
 refine ⟨0,?_⟩
 show Qir 0 y = some y
 rw [QpO]
 try (rw [QL hw2.1 (by omega)]; simp only [Option.bind_some])
 try (rw [QL hw2.2.1 (by omega)]; simp only [Option.bind_some])
 try (rw [QL hw2.2.2.1 (by omega)]; simp only [Option.bind_some])
 try (rw [QL hw2.2.2.2.1 (by omega)]; simp only [Option.bind_some])
 try (rw [QL hw2.2.2.2.2 (by omega)]; simp only [Option.bind_some])
 try rfl
theorem QpP : Qee Tryz.prog 17 Qu:=QFV (by kernel_rfl : Tryz.prog.funcs[17]? = some Tryz.f17) (c:=Tryz.f17.body.getD .skip) (by kernel_rfl) (by kernel_rfl) (gt:=none) (hs:=[(51,(.list .str)),(52,(.list Qf))]) QHb (QaN U3 (QaN QfM Qgt)) (by kernel_rfl)
def QfN : Ctr:=QEJ 17 Qu fun x=>Qef Qu x.1 x.2.1
theorem QpQ : Qh Tryz.prog QfN:=QDW (by kernel_rfl) (by kernel_rfl) QpP
def Em : Ctr:=⟨73,[Qs],[Qs],fun x=>toC Qs x.1⟩
def QrT : List (List Nat × Ann):=[]
def QpR : List (List Nat × Nat):=[]
def Qhp : List Ctr:=[JM]
def QrU (n : Nat) (a0 : J6) : Option J6:=run Tryz.prog QrT QpR (Qn Qhp) Tryz.f73 (Tryz.f73.body.getD .skip) (Qp [Qs]) n (Qt [Qs] (a0,()))
theorem QxX (n : Nat) (a0 : J6) : QrU n a0 =
  Option.bind (toC Qa a0.2.1) fun (y1 : Qb) =>
  some (a0.1,y1,a0.2.2):=by kernel_rfl
theorem QBS (hcs : ∀ x ∈ Qhp,Qh Tryz.prog x) (h : ∀ (a0 : J6) y,toC Qs a0 = some y → ∃ n,QrU n a0 = some y) : Qh Tryz.prog Em:=by
 refine Qj (c:=Em) (by kernel_rfl) (by kernel_rfl : Tryz.prog.funcs[73]? = some Tryz.f73) (code:=Tryz.f73.body.getD .skip) (by kernel_rfl) (by kernel_rfl) (by kernel_rfl) (A:=QrT) (I:=QpR) hcs ?_
 rintro ⟨a0,u⟩ y hy
 exact h a0 y hy
theorem QzN : ∀ x ∈ Qhp,Qh Tryz.prog x:=(Qd YT Qk)
theorem QpS : Qh Tryz.prog Em:=QBS QzN fun a0 y hy=>by
 obtain ⟨hw,hs,rfl⟩:=Wh hy
 have hw2 : wfD I64 y.1 ∧ wfD Qa y.2.1 ∧ wfD .str y.2.2:=hw
 have hs2 : Ty.size I64 y.1 + (Ty.size Qa y.2.1 + (Ty.size .str y.2.2)) ≤ 1073741824:=hs
 refine ⟨0,?_⟩
 rw [QxX]
 try (rw [QL hw2.2.1 (by omega)]; simp only [Option.bind_some])
 try rfl
def En : Ctr:=⟨102,[Qo],[Qo],fun x=>toC Qo x.1⟩
def QrV : List (List Nat × Ann):=[]
def QpT : List (List Nat × Nat):=[]
def Qhq : List Ctr:=[JM]
def QrW (n : Nat) (a0 : Qr) : Option Qr:=run Tryz.prog QrV QpT (Qn Qhq) Tryz.f102 (Tryz.f102.body.getD .skip) (Qp [Qo]) n (Qt [Qo] (a0,()))
theorem QxY (n : Nat) (a0 : Qr) : QrW n a0 =
  Option.bind (toC Qa a0.2.2.1) fun (y1 : Qb) =>
  some (a0.1,a0.2.1,y1,a0.2.2.2):=by kernel_rfl
theorem QBT (hcs : ∀ x ∈ Qhq,Qh Tryz.prog x) (h : ∀ (a0 : Qr) y,toC Qo a0 = some y → ∃ n,QrW n a0 = some y) : Qh Tryz.prog En:=by
 refine Qj (c:=En) (by kernel_rfl) (by kernel_rfl : Tryz.prog.funcs[102]? = some Tryz.f102) (code:=Tryz.f102.body.getD .skip) (by kernel_rfl) (by kernel_rfl) (by kernel_rfl) (A:=QrV) (I:=QpT) hcs ?_
 rintro ⟨a0,u⟩ y hy
 exact h a0 y hy
theorem QzO : ∀ x ∈ Qhq,Qh Tryz.prog x:=(Qd YT Qk)
theorem QpU : Qh Tryz.prog En:=QBT QzO fun a0 y hy=>by
 obtain ⟨hw,hs,rfl⟩:=Wh hy
 have hw2 : wfD I64 y.1 ∧ wfD .str y.2.1 ∧ wfD Qa y.2.2.1 ∧ wfD I64 y.2.2.2:=hw
 have hs2 : Ty.size I64 y.1 + (Ty.size .str y.2.1 + (Ty.size Qa y.2.2.1 + (Ty.size I64 y.2.2.2))) ≤ 1073741824:=hs
 refine ⟨0,?_⟩
 rw [QxY]
 try (rw [QL hw2.2.2.1 (by omega)]; simp only [Option.bind_some])
 try rfl
def QbZ : Ctr:=⟨74,[(.list Qo)],[(.list Qo)],fun x=>toC (.list Qo) x.1⟩
def Qhr : List (List Nat × Ann):=[([0,3],[.keep 0 0,.keep 0 3,.keep 0 4,.rows 0 7 Qo])]
def Qe7 : List (List Nat × Nat):=[]
def ER : List Ctr:=[En]
def QpV (n : Nat) (a0 : (List Qr)) : Option (List Qr):=run Tryz.prog Qhr Qe7 (Qn ER) Tryz.f74 (Tryz.f74.body.getD .skip) (Qp [(.list Qo)]) n (Qt [(.list Qo)] (a0,()))
abbrev Qau (n : Nat) (x1 : (List Qr)) (x2 : Int) (x3 : (List Qr)) : Option (List Qr):=lam Tryz.prog Qhr Qe7 (Qn ER) Tryz.f74 (Tryz.f74.body.getD .skip) (Qp [(.list Qo)]) n [0,3] [.d (.list Qo) x1,.msl 0 7,.d I64 x2,.d (.list Qo) x3]
theorem QvR (n : Nat) (a0 : (List Qr)) : QpV n a0 =
  bif decide ((a0.length : Int) = (a0.length : Int)) && decide ((0 : Int) ≤ (a0.length : Int)) && decide ((a0.length : Int) * 80 ≤ Qv) && true then
   Qau n a0 0 (List.replicate (Int.toNat (a0.length : Int)) (0,([] : List Int),(0,0,([] : List Int),([] : List Int)),0))
  else none:=by kernel_rfl
theorem QnX (n : Nat) (x1 : (List Qr)) (x2 : Int) (x3 : (List Qr)) : Qau (n + 1) x1 x2 x3 =
  bif decide (x2 < (x1.length : Int)) then
   bif inB x2 x1.length then
    Option.bind (toC Qo (rd x1 x2 (Ty.dflt Qo))) fun (y1 : Qr) =>
    bif inB x2 x3.length then
     bif inB x2 x3.length && true && true && true && true then
      Qau n x1 (IntKind.wrap .i64 (x2 + 1)) (x3.set (Int.toNat x2) y1)
     else none
    else none
   else none
  else
   some x3:=by kernel_rfl
theorem QzP (hcs : ∀ x ∈ ER,Qh Tryz.prog x) (h : ∀ (a0 : (List Qr)) y,toC (.list Qo) a0 = some y → ∃ n,QpV n a0 = some y) : Qh Tryz.prog QbZ:=by
 refine Qj (c:=QbZ) (by kernel_rfl) (by kernel_rfl : Tryz.prog.funcs[74]? = some Tryz.f74) (code:=Tryz.f74.body.getD .skip) (by kernel_rfl) (by kernel_rfl) (by kernel_rfl) (A:=Qhr) (I:=Qe7) hcs ?_
 rintro ⟨a0,u⟩ y hy
 exact h a0 y hy
theorem QxZ : ∀ x ∈ ER,Qh Tryz.prog x:=(Qd QpU Qk)
theorem QzQ : Qh Tryz.prog QbZ:=QzP QxZ fun a0 y hy=>by
 obtain ⟨n,hn⟩:=Qw6 (t:=Qo) (f:=toC Qo) (fun x h h2=>QL h h2) (by_:=80) (by omega) (fun n xs i out=>QnX n xs i out) hy
 exact ⟨n,(QvR n a0).trans hn⟩
def ES : Ctr:=⟨37,[Qg],[Qg],fun x=>toC Qg x.1⟩
def Qnb : List (List Nat × Ann):=[]
def Qkt : List (List Nat × Nat):=[]
def QdD : List Ctr:=[Em,QbZ]
def Qnc (n : Nat) (a0 : Qi) : Option Qi:=run Tryz.prog Qnb Qkt (Qn QdD) Tryz.f37 (Tryz.f37.body.getD .skip) (Qp [Qg]) n (Qt [Qg] (a0,()))
theorem QtJ (n : Nat) (a0 : Qi) : Qnc n a0 =
  Option.bind (toC Qs a0.2.2.1) fun (y1 : J6) =>
  Option.bind (toC Qs a0.2.2.2.1) fun (y2 : J6) =>
  Option.bind (toC Qs a0.2.2.2.2.1) fun (y3 : J6) =>
  Option.bind (toC (.list Qo) a0.2.2.2.2.2) fun (y4 : (List Qr)) =>
  some (a0.1,a0.2.1,y1,y2,y3,y4):=by kernel_rfl
theorem Qx0 (hcs : ∀ x ∈ QdD,Qh Tryz.prog x) (h : ∀ (a0 : Qi) y,toC Qg a0 = some y → ∃ n,Qnc n a0 = some y) : Qh Tryz.prog ES:=by
 refine Qj (c:=ES) (by kernel_rfl) (by kernel_rfl : Tryz.prog.funcs[37]? = some Tryz.f37) (code:=Tryz.f37.body.getD .skip) (by kernel_rfl) (by kernel_rfl) (by kernel_rfl) (A:=Qnb) (I:=Qkt) hcs ?_
 rintro ⟨a0,u⟩ y hy
 exact h a0 y hy
theorem QvS : ∀ x ∈ QdD,Qh Tryz.prog x:=(Qd QpS (Qd QzQ Qk))
theorem Qx1 : Qh Tryz.prog ES:=Qx0 QvS fun a0 y hy=>by
 obtain ⟨hw,hs,rfl⟩:=Wh hy
 have hw2 : wfD .str y.1 ∧ wfD .bool y.2.1 ∧ wfD Qs y.2.2.1 ∧ wfD Qs y.2.2.2.1 ∧ wfD Qs y.2.2.2.2.1 ∧ wfD (.list Qo) y.2.2.2.2.2:=hw
 have hs2 : Ty.size .str y.1 + (Ty.size .bool y.2.1 + (Ty.size Qs y.2.2.1 + (Ty.size Qs y.2.2.2.1 + (Ty.size Qs y.2.2.2.2.1 + (Ty.size (.list Qo) y.2.2.2.2.2))))) ≤ 1073741824:=hs
 refine ⟨0,?_⟩
 rw [QtJ]
 try (rw [QL hw2.2.2.1 (by omega)]; simp only [Option.bind_some])
 try (rw [QL hw2.2.2.2.1 (by omega)]; simp only [Option.bind_some])
 try (rw [QL hw2.2.2.2.2.1 (by omega)]; simp only [Option.bind_some])
 try (rw [QL hw2.2.2.2.2.2 (by omega)]; simp only [Option.bind_some])
 try rfl
def WA : Ctr:=⟨11,[(.list Qg)],[(.list Qg)],fun x=>toC (.list Qg) x.1⟩
def QdE : List (List Nat × Ann):=[([0,3],[.keep 0 0,.keep 0 3,.keep 0 4,.rows 0 7 Qg])]
def Qb0 : List (List Nat × Nat):=[]
def Ur : List Ctr:=[ES]
def Qku (n : Nat) (a0 : (List Qi)) : Option (List Qi):=run Tryz.prog QdE Qb0 (Qn Ur) Tryz.f11 (Tryz.f11.body.getD .skip) (Qp [(.list Qg)]) n (Qt [(.list Qg)] (a0,()))
abbrev U4 (n : Nat) (x1 : (List Qi)) (x2 : Int) (x3 : (List Qi)) : Option (List Qi):=lam Tryz.prog QdE Qb0 (Qn Ur) Tryz.f11 (Tryz.f11.body.getD .skip) (Qp [(.list Qg)]) n [0,3] [.d (.list Qg) x1,.msl 0 7,.d I64 x2,.d (.list Qg) x3]
theorem Qro (n : Nat) (a0 : (List Qi)) : Qku n a0 =
  bif decide ((a0.length : Int) = (a0.length : Int)) && decide ((0 : Int) ≤ (a0.length : Int)) && decide ((a0.length : Int) * 264 ≤ Qv) && true then
   U4 n a0 0 (List.replicate (Int.toNat (a0.length : Int)) (([] : List Int),false,(0,(0,0,([] : List Int),([] : List Int)),([] : List Int)),(0,(0,0,([] : List Int),([] : List Int)),([] : List Int)),(0,(0,0,([] : List Int),([] : List Int)),([] : List Int)),[]))
  else none:=by kernel_rfl
theorem Qkv (n : Nat) (x1 : (List Qi)) (x2 : Int) (x3 : (List Qi)) : U4 (n + 1) x1 x2 x3 =
  bif decide (x2 < (x1.length : Int)) then
   bif inB x2 x1.length then
    Option.bind (toC Qg (rd x1 x2 (Ty.dflt Qg))) fun (y1 : Qi) =>
    bif inB x2 x3.length then
     bif inB x2 x3.length && true && true && true && true then
      U4 n x1 (IntKind.wrap .i64 (x2 + 1)) (x3.set (Int.toNat x2) y1)
     else none
    else none
   else none
  else
   some x3:=by kernel_rfl
theorem QvT (hcs : ∀ x ∈ Ur,Qh Tryz.prog x) (h : ∀ (a0 : (List Qi)) y,toC (.list Qg) a0 = some y → ∃ n,Qku n a0 = some y) : Qh Tryz.prog WA:=by
 refine Qj (c:=WA) (by kernel_rfl) (by kernel_rfl : Tryz.prog.funcs[11]? = some Tryz.f11) (code:=Tryz.f11.body.getD .skip) (by kernel_rfl) (by kernel_rfl) (by kernel_rfl) (A:=QdE) (I:=Qb0) hcs ?_
 rintro ⟨a0,u⟩ y hy
 exact h a0 y hy
theorem QtK : ∀ x ∈ Ur,Qh Tryz.prog x:=(Qd Qx1 Qk)
theorem QvU : Qh Tryz.prog WA:=QvT QtK fun a0 y hy=>by
 obtain ⟨n,hn⟩:=Qw6 (t:=Qg) (f:=toC Qg) (fun x h h2=>QL h h2) (by_:=264) (by omega) (fun n xs i out=>Qkv n xs i out) hy
 exact ⟨n,(Qro n a0).trans hn⟩
def Qnd : Ctr:=HB 74 [(.list Qo)] [(.list Qo)] fun x=>toC (.list Qo) x.1
def Qe8 : List (List Nat × Ann):=[([0,3],[.keep 0 0,.drb 0 3 Qo,.keep 0 4])]
def QdF : List (List Nat × Nat):=[([1002],0)]
def QdG : List Ctr:=[En]
def QzR (n : Nat) (a0 : (List Qr)) : Option (List Qr):=WV Tryz.prog noG Qe8 QdF (Qn QdG) Tryz.f74 (Tryz.f74.body.getD .skip) (We Tryz.prog Tryz.f74 [(.list Qo)]) n (Qt [(.list Qo)] (a0,()))
abbrev X0 (n : Nat) (x1 : (List Qr)) (x2 : (List Qr)) (x3 : Int) : Option (List Qr):=Uy Tryz.prog noG Qe8 QdF (Qn QdG) Tryz.f74 (Tryz.f74.body.getD .skip) (We Tryz.prog Tryz.f74 [(.list Qo)]) n [0,3] [.d (.list Qo) x1,.d (.list Qo) x2,.d I64 x3]
theorem QtL (n : Nat) (a0 : (List Qr)) : QzR n a0 =
  bif decide ((a0.length : Int) = (a0.length : Int)) && decide ((0 : Int) ≤ (a0.length : Int)) && decide ((a0.length : Int) * 80 ≤ Qv) && true && true && true then
   X0 n a0 (List.replicate (Int.toNat (a0.length : Int)) (0,([] : List Int),(0,0,([] : List Int),([] : List Int)),0)) 0
  else none:=by kernel_rfl
theorem QlS (n : Nat) (x1 : (List Qr)) (x2 : (List Qr)) (x3 : Int) : X0 (n + 1) x1 x2 x3 =
  bif decide (x3 < (x1.length : Int)) then
   bif inB x3 x1.length then
    Option.bind (toC Qo (rd x1 x3 (Ty.dflt Qo))) fun (y1 : Qr) =>
    bif inB x3 x2.length then
     bif inB x3 x2.length && true && true && true && true && true && true then
      X0 n x1 (x2.set (Int.toNat x3) y1) (IntKind.wrap .i64 (x3 + 1))
     else none
    else none
   else none
  else
   some x2:=by kernel_rfl
theorem QvV : ∀ x ∈ QdG,Qh Tryz.prog x:=(Qd QpU Qk)
theorem Qx2 : Qh Tryz.prog Qnd:=by
 refine Y6 (by kernel_rfl) (by kernel_rfl : Tryz.prog.funcs[74]? = some Tryz.f74) (code:=Tryz.f74.body.getD .skip) (by kernel_rfl) (by kernel_rfl) (A:=Qe8) (I:=QdF) QvV ?_
 rintro ⟨a0,u⟩ y hy
 obtain ⟨n,hn⟩:=Qxa (t:=Qo) (f:=toC Qo) (fun x h h2=>QL h h2) (L:=fun n xs i out=>X0 n xs out i) (by_:=80) (by omega) (fun n xs i out=>QlS n xs out i) hy
 exact ⟨n,(QtL n a0).trans hn⟩
def Qkw : Ctr:=HB 37 [Qg] [Qg] fun x=>toC Qg x.1
def Qkx : List (List Nat × Ann):=[]
def Qis : List (List Nat × Nat):=[([7002],2000074)]
def Qit : List Ctr:=[Em,Qnd]
def Qky (n : Nat) (a0 : Qi) : Option Qi:=WV Tryz.prog noG Qkx Qis (Qn Qit) Tryz.f37 (Tryz.f37.body.getD .skip) (We Tryz.prog Tryz.f37 [Qg]) n (Qt [Qg] (a0,()))
theorem Qrp (n : Nat) (a0 : Qi) : Qky n a0 =
  Option.bind (toC Qs a0.2.2.1) fun (y1 : J6) =>
  Option.bind (toC Qs a0.2.2.2.1) fun (y2 : J6) =>
  Option.bind (toC Qs a0.2.2.2.2.1) fun (y3 : J6) =>
  Option.bind (toC (.list Qo) a0.2.2.2.2.2) fun (y4 : (List Qr)) =>
  some (a0.1,a0.2.1,y1,y2,y3,y4):=by kernel_rfl
theorem QtM : ∀ x ∈ Qit,Qh Tryz.prog x:=(Qd QpS (Qd Qx2 Qk))
theorem QvW : Qh Tryz.prog Qkw:=by
 refine Y6 (by kernel_rfl) (by kernel_rfl : Tryz.prog.funcs[37]? = some Tryz.f37) (code:=Tryz.f37.body.getD .skip) (by kernel_rfl) (by kernel_rfl) (A:=Qkx) (I:=Qis) QtM ?_
 rintro ⟨a0,u⟩ y hy
 obtain ⟨hw,hs,rfl⟩:=Wh hy
 have hw2 : wfD .str y.1 ∧ wfD .bool y.2.1 ∧ wfD Qs y.2.2.1 ∧ wfD Qs y.2.2.2.1 ∧ wfD Qs y.2.2.2.2.1 ∧ wfD (.list Qo) y.2.2.2.2.2:=hw
 have hs2 : Ty.size .str y.1 + (Ty.size .bool y.2.1 + (Ty.size Qs y.2.2.1 + (Ty.size Qs y.2.2.2.1 + (Ty.size Qs y.2.2.2.2.1 + (Ty.size (.list Qo) y.2.2.2.2.2))))) ≤ 1073741824:=hs
 refine ⟨0,?_⟩
 show Qky 0 y = some y
 rw [Qrp]
 try (rw [QL hw2.2.2.1 (by omega)]; simp only [Option.bind_some])
 try (rw [QL hw2.2.2.2.1 (by omega)]; simp only [Option.bind_some])
 try (rw [QL hw2.2.2.2.2.1 (by omega)]; simp only [Option.bind_some])
 try (rw [QL hw2.2.2.2.2.2 (by omega)]; simp only [Option.bind_some])
 try rfl
def Qiu : Ctr:=HB 11 [(.list Qg)] [(.list Qg)] fun x=>toC (.list Qg) x.1
def Qb1 : List (List Nat × Ann):=[([0,3],[.keep 0 0,.drb 0 3 Qg,.keep 0 4])]
def Qav : List (List Nat × Nat):=[([1002],0),([5006],2000037)]
def Qaw : List Ctr:=[Qkw]
def QvX (n : Nat) (a0 : (List Qi)) : Option (List Qi):=WV Tryz.prog noG Qb1 Qav (Qn Qaw) Tryz.f11 (Tryz.f11.body.getD .skip) (We Tryz.prog Tryz.f11 [(.list Qg)]) n (Qt [(.list Qg)] (a0,()))
abbrev G8 (n : Nat) (x1 : (List Qi)) (x2 : (List Qi)) (x3 : Int) : Option (List Qi):=Uy Tryz.prog noG Qb1 Qav (Qn Qaw) Tryz.f11 (Tryz.f11.body.getD .skip) (We Tryz.prog Tryz.f11 [(.list Qg)]) n [0,3] [.d (.list Qg) x1,.d (.list Qg) x2,.d I64 x3]
theorem QpW (n : Nat) (a0 : (List Qi)) : QvX n a0 =
  bif decide ((a0.length : Int) = (a0.length : Int)) && decide ((0 : Int) ≤ (a0.length : Int)) && decide ((a0.length : Int) * 264 ≤ Qv) && true && true && true then
   G8 n a0 (List.replicate (Int.toNat (a0.length : Int)) (([] : List Int),false,(0,(0,0,([] : List Int),([] : List Int)),([] : List Int)),(0,(0,0,([] : List Int),([] : List Int)),([] : List Int)),(0,(0,0,([] : List Int),([] : List Int)),([] : List Int)),[])) 0
  else none:=by kernel_rfl
theorem Qi5 (n : Nat) (x1 : (List Qi)) (x2 : (List Qi)) (x3 : Int) : G8 (n + 1) x1 x2 x3 =
  bif decide (x3 < (x1.length : Int)) then
   bif inB x3 x1.length then
    Option.bind (toC Qg (rd x1 x3 (Ty.dflt Qg))) fun (y1 : Qi) =>
    bif inB x3 x2.length then
     bif inB x3 x2.length && true && true && true && true && true && true then
      G8 n x1 (x2.set (Int.toNat x3) y1) (IntKind.wrap .i64 (x3 + 1))
     else none
    else none
   else none
  else
   some x2:=by kernel_rfl
theorem Qrq : ∀ x ∈ Qaw,Qh Tryz.prog x:=(Qd QvW Qk)
theorem QtN : Qh Tryz.prog Qiu:=by
 refine Y6 (by kernel_rfl) (by kernel_rfl : Tryz.prog.funcs[11]? = some Tryz.f11) (code:=Tryz.f11.body.getD .skip) (by kernel_rfl) (by kernel_rfl) (A:=Qb1) (I:=Qav) Qrq ?_
 rintro ⟨a0,u⟩ y hy
 obtain ⟨n,hn⟩:=Qxa (t:=Qg) (f:=toC Qg) (fun x h h2=>QL h h2) (L:=fun n xs i out=>G8 n xs out i) (by_:=264) (by omega) (fun n xs i out=>Qi5 n xs out i) hy
 exact ⟨n,(QpW n a0).trans hn⟩
theorem QtO : Qee Tryz.prog 53 (.list Qo):=Qjj (tl:=69) (by kernel_rfl : Tryz.prog.funcs[53]? = some Tryz.f53) (c:=Tryz.f53.body.getD .skip) (by kernel_rfl) (by kernel_rfl) (gt:=(some 49)) (hs:=[]) (Qgb VU) Qgt (by kernel_rfl)
end
end Go.Ab
