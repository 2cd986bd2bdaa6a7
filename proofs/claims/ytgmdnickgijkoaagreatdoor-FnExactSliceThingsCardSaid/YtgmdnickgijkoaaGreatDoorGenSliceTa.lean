import Derived.Test.YtgmdnickgijkoaaGreatDoorAb31
import Derived.Test.YtgmdnickgijkoaaGreatDoorProg
import Derived.KernelRfl
namespace Go.Ab
noncomputable section
open Go.Proofs
set_option maxRecDepth 20000
abbrev I64 : Ty:=.int .i64
abbrev U8 : Ty:=.int .u8
abbrev Qa : Ty:=(.pair I64 (.pair I64 (.pair .str .str)))
abbrev Qb : Type:=(Int × (Int × ((List Int) × (List Int))))
abbrev Qf : Ty:=(.pair I64 (.pair Qa (.pair (.list Qa) (.list .str))))
abbrev Ql : Type:=(Int × (Qb × ((List Qb) × (List (List Int)))))
abbrev Qe : Ty:=(.pair Qa (.pair (.list Qa) (.pair (.list .str) (.list Qf))))
abbrev Qc : Type:=(Qb × ((List Qb) × ((List (List Int)) × (List Ql))))
abbrev Qu : Ty:=(.pair Qa (.pair Qa (.pair Qa (.pair (.list .str) (.list Qf)))))
abbrev QD : Type:=(Qb × (Qb × (Qb × ((List (List Int)) × (List Ql)))))
abbrev Qs : Ty:=(.pair I64 (.pair Qa .str))
abbrev J6 : Type:=(Int × (Qb × (List Int)))
abbrev Qo : Ty:=(.pair I64 (.pair .str (.pair Qa I64)))
abbrev Qr : Type:=(Int × ((List Int) × (Qb × Int)))
abbrev Qg : Ty:=(.pair .str (.pair .bool (.pair Qs (.pair Qs (.pair Qs (.list Qo))))))
abbrev Qi : Type:=((List Int) × (Bool × (J6 × (J6 × (J6 × (List Qr))))))
abbrev Vm : Ty:=(.tree Qo)
abbrev QA : Type:=(Tree Qr)
def Jr : List Int → Option Bool
 | [] =>
   some true
 | e :: rest =>
   bif decide (e < 32) then
    some false
   else
    bif decide ((126 : Int) < e) then
     some false
    else
     Jr rest
def Je (a0 : (List Int)) : Option Bool :=
 Zu a0 (Jr a0)
def Wi : Ctr:=⟨144,[.str],[.bool],fun x=>Je x.1⟩
def QcW : List (List Nat × Ann):=[([0,2],[.keep 0 0,.keep 0 3])]
def Qbb : List (List Nat × Nat):=[]
def Qbc : List Ctr:=[]
def Qjm (n : Nat) (a0 : (List Int)) : Option Bool:=run Tryz.prog QcW Qbb (Qn Qbc) Tryz.f144 (Tryz.f144.body.getD .skip) (Qp [.bool]) n (Qt [.str] (a0,()))
abbrev V6 (n : Nat) (x1 : (List Int)) (x2 : Int) : Option Bool:=lam Tryz.prog QcW Qbb (Qn Qbc) Tryz.f144 (Tryz.f144.body.getD .skip) (Qp [.bool]) n [0,2] [.d .str x1,.d I64 x2]
theorem QqD (n : Nat) (a0 : (List Int)) : Qjm n a0 =
  V6 n a0 0:=by kernel_rfl
theorem QaO (n : Nat) (x1 : (List Int)) (x2 : Int) : V6 (n + 1) x1 x2 =
  bif decide (x2 < (x1.length : Int)) then
   bif inB x2 x1.length then
    bif decide (rd x1 x2 0 < 32) then
     some false
    else
     bif inB x2 x1.length then
      bif decide ((126 : Int) < rd x1 x2 0) then
       some false
      else
       V6 n x1 (IntKind.wrap .i64 (x2 + 1))
     else none
   else none
  else
   some true:=by kernel_rfl
theorem QoL {x1 : (List Int)} (hl : x1.length ≤ maxLen) : ∀ (rest : List Int) (k : Nat) (r : Bool),rest = x1.drop k → Jr rest = some r → Ev (fun n=>V6 n x1 (k : Int)) r:=by
 intro rest
 induction rest with
 | nil =>
  intro k r hr h
  have hk:=QH hr
  rw [Jr] at h
  refine Ev.step ?_ (fun n=>QaO n x1 (k : Int))
  rw [show decide ((k : Int) < (x1.length : Int)) = false from decide_eq_false (by omega)]
  exact Ev.neg rfl (Ev.ofSome h)
 | cons e rest ih =>
  intro k r hr h
  obtain ⟨hk,hx,hr2⟩:=Qz (d:=0) hr
  have hw:=Qy hl hk
  have ih2 : ∀ (r : Bool),Jr rest = some r → Ev (fun n=>V6 n x1 (IntKind.wrap .i64 ((k : Int) + 1))) r:=by
   intro r h; rw [hw]; exact ih (k + 1) r hr2 h
  rw [Jr] at h
  refine Ev.step ?_ (fun n=>QaO n x1 (k : Int))
  rw [show decide ((k : Int) < (x1.length : Int)) = true from decide_eq_true (by omega),Qx hk,hx]
  exact Ev.pos rfl (Ev.pos rfl (Ev.ofBif h (fun h=>(Ev.ofSome h)) (fun h=>(Ev.pos rfl (Ev.ofBif h (fun h=>(Ev.ofSome h)) (fun h=>(ih2  _ h)))))))
theorem Qxb (a0 : (List Int)) {r : Bool} (h : Je a0 = some r) : Ev (fun n=>Qjm n a0) r:=by
 rw [Je] at h
 refine Ev.of_eq ?_ (fun n=>QqD n a0)
 exact (Ev.ofLen h fun hl h=>QoL hl _ (0 : Nat) _ rfl h)
theorem QsH : ∀ x ∈ Qbc,Qh Tryz.prog x:=Qk
theorem Qh1 : Qh Tryz.prog (Wi):=by
 refine Qj (c:=Wi) (by kernel_rfl) (by kernel_rfl : Tryz.prog.funcs[144]? = some Tryz.f144) (code:=Tryz.f144.body.getD .skip) (by kernel_rfl) (by kernel_rfl) (by kernel_rfl) (A:=QcW) (I:=Qbb) (QsH) ?_
 rintro ⟨a0,u⟩ y hy
 exact (Qxb a0 hy).get
def YR (a0 : Int) : Bool :=
 bif decide ((48 : Int) ≤ a0) then
  decide (a0 ≤ 57)
 else
  false
def Qbd : Ctr:=⟨147,[U8],[.bool],fun x=>some (YR x.1)⟩
def QoM : List (List Nat × Ann):=[]
def Qmm : List (List Nat × Nat):=[]
def Qmn : List Ctr:=[]
def QoN (n : Nat) (a0 : Int) : Option Bool:=run Tryz.prog QoM Qmm (Qn Qmn) Tryz.f147 (Tryz.f147.body.getD .skip) (Qp [.bool]) n (Qt [U8] (a0,()))
theorem QuK (n : Nat) (a0 : Int) : QoN n a0 =
  bif decide ((48 : Int) ≤ a0) then
   some (decide (a0 ≤ 57))
  else
   some false:=by kernel_rfl
theorem QBx (n : Nat) (a0 : Int) : QoN n a0 = some (YR a0):=(QuK n a0).trans (ZL rfl rfl)
theorem Qxc : ∀ x ∈ Qmn,Qh Tryz.prog x:=Qk
theorem Qmo : Qh Tryz.prog (Qbd):=by
 refine Qj (c:=Qbd) (by kernel_rfl) (by kernel_rfl : Tryz.prog.funcs[147]? = some Tryz.f147) (code:=Tryz.f147.body.getD .skip) (by kernel_rfl) (by kernel_rfl) (by kernel_rfl) (A:=QoM) (I:=Qmm) (Qxc) ?_
 rintro ⟨a0,u⟩ y hy
 exact ⟨0,(QBx 0 a0).trans hy⟩
def VB (a0 : Int) : Bool :=
 bif decide ((97 : Int) ≤ a0) then
  bif decide (a0 ≤ 122) then
   true
  else
   bif decide ((65 : Int) ≤ a0) then
    decide (a0 ≤ 90)
   else
    false
 else
  bif decide ((65 : Int) ≤ a0) then
   decide (a0 ≤ 90)
  else
   false
def EB : Ctr:=⟨148,[U8],[.bool],fun x=>some (VB x.1)⟩
def Qmp : List (List Nat × Ann):=[]
def Qjn : List (List Nat × Nat):=[]
def Qjo : List Ctr:=[]
def Qmq (n : Nat) (a0 : Int) : Option Bool:=run Tryz.prog Qmp Qjn (Qn Qjo) Tryz.f148 (Tryz.f148.body.getD .skip) (Qp [.bool]) n (Qt [U8] (a0,()))
theorem QsI (n : Nat) (a0 : Int) : Qmq n a0 =
  bif decide ((97 : Int) ≤ a0) then
   bif decide (a0 ≤ 122) then
    some true
   else
    bif decide ((65 : Int) ≤ a0) then
     some (decide (a0 ≤ 90))
    else
     some false
  else
   bif decide ((65 : Int) ≤ a0) then
    some (decide (a0 ≤ 90))
   else
    some false:=by kernel_rfl
theorem Qy5 (n : Nat) (a0 : Int) : Qmq n a0 = some (VB a0):=(QsI n a0).trans (ZL (ZL rfl (ZL rfl rfl)) (ZL rfl rfl))
theorem QuL : ∀ x ∈ Qjo,Qh Tryz.prog x:=Qk
theorem Qjp : Qh Tryz.prog (EB):=by
 refine Qj (c:=EB) (by kernel_rfl) (by kernel_rfl : Tryz.prog.funcs[148]? = some Tryz.f148) (code:=Tryz.f148.body.getD .skip) (by kernel_rfl) (by kernel_rfl) (by kernel_rfl) (A:=Qmp) (I:=Qjn) (QuL) ?_
 rintro ⟨a0,u⟩ y hy
 exact ⟨0,(Qy5 0 a0).trans hy⟩
def ZK : List Int → Option Bool
 | [] =>
   some true
 | e :: rest =>
   bif !(VB (e)) then
    bif !(YR (e)) then
     bif !decide (e = 95) then
      some false
     else
      ZK rest
    else
     ZK rest
   else
    ZK rest
def Zn (a0 : (List Int)) : Option Bool :=
 bif decide ((a0.length : Int) < 1) then
  some false
 else
  bif decide ((30 : Int) < (a0.length : Int)) then
   some false
  else
   bif inB 0 a0.length then
    bif YR (rd a0 0 0) then
     some false
    else
     Zu a0 (ZK a0)
   else none
def Gm : Ctr:=⟨123,[.str],[.bool],fun x=>Zn x.1⟩
def Qex : List (List Nat × Ann):=[([0,4],[.keep 0 0,.keep 0 3])]
def QcX : List (List Nat × Nat):=[]
def QcY : List Ctr:=[Qbd,EB]
def Qmr (n : Nat) (a0 : (List Int)) : Option Bool:=run Tryz.prog Qex QcX (Qn QcY) Tryz.f123 (Tryz.f123.body.getD .skip) (Qp [.bool]) n (Qt [.str] (a0,()))
abbrev Yw (n : Nat) (x1 : (List Int)) (x2 : Int) : Option Bool:=lam Tryz.prog Qex QcX (Qn QcY) Tryz.f123 (Tryz.f123.body.getD .skip) (Qp [.bool]) n [0,4] [.d .str x1,.d I64 x2]
theorem QsJ (n : Nat) (a0 : (List Int)) : Qmr n a0 =
  bif decide ((a0.length : Int) < 1) then
   some false
  else
   bif decide ((30 : Int) < (a0.length : Int)) then
    some false
   else
    bif inB 0 a0.length then
     bif YR (rd a0 0 0) then
      some false
     else
      Yw n a0 0
    else none:=by kernel_rfl
theorem Qbe (n : Nat) (x1 : (List Int)) (x2 : Int) : Yw (n + 1) x1 x2 =
  bif decide (x2 < (x1.length : Int)) then
   bif inB x2 x1.length then
    bif !(VB (rd x1 x2 0)) then
     bif inB x2 x1.length then
      bif !(YR (rd x1 x2 0)) then
       bif inB x2 x1.length then
        bif !decide (rd x1 x2 0 = 95) then
         some false
        else
         Yw n x1 (IntKind.wrap .i64 (x2 + 1))
       else none
      else
       Yw n x1 (IntKind.wrap .i64 (x2 + 1))
     else none
    else
     Yw n x1 (IntKind.wrap .i64 (x2 + 1))
   else none
  else
   some true:=by kernel_rfl
theorem QqE {x1 : (List Int)} (hl : x1.length ≤ maxLen) : ∀ (rest : List Int) (k : Nat) (r : Bool),rest = x1.drop k → ZK rest = some r → Ev (fun n=>Yw n x1 (k : Int)) r:=by
 intro rest
 induction rest with
 | nil =>
  intro k r hr h
  have hk:=QH hr
  rw [ZK] at h
  refine Ev.step ?_ (fun n=>Qbe n x1 (k : Int))
  rw [show decide ((k : Int) < (x1.length : Int)) = false from decide_eq_false (by omega)]
  exact Ev.neg rfl (Ev.ofSome h)
 | cons e rest ih =>
  intro k r hr h
  obtain ⟨hk,hx,hr2⟩:=Qz (d:=0) hr
  have hw:=Qy hl hk
  have ih2 : ∀ (r : Bool),ZK rest = some r → Ev (fun n=>Yw n x1 (IntKind.wrap .i64 ((k : Int) + 1))) r:=by
   intro r h; rw [hw]; exact ih (k + 1) r hr2 h
  rw [ZK] at h
  refine Ev.step ?_ (fun n=>Qbe n x1 (k : Int))
  rw [show decide ((k : Int) < (x1.length : Int)) = true from decide_eq_true (by omega),Qx hk,hx]
  exact Ev.pos rfl (Ev.pos rfl (Ev.ofBif h (fun h=>(Ev.pos rfl (Ev.ofBif h (fun h=>(Ev.pos rfl (Ev.ofBif h (fun h=>(Ev.ofSome h)) (fun h=>(ih2  _ h))))) (fun h=>(ih2  _ h))))) (fun h=>(ih2  _ h))))
theorem Qy6 (a0 : (List Int)) {r : Bool} (h : Zn a0 = some r) : Ev (fun n=>Qmr n a0) r:=by
 rw [Zn] at h
 refine Ev.of_eq ?_ (fun n=>QsJ n a0)
 exact (Ev.ofBif h (fun h=>(Ev.ofSome h)) (fun h=>(Ev.ofBif h (fun h=>(Ev.ofSome h)) (fun h=>(Ev.ofBif h (fun h=>(Ev.ofBif h (fun h=>(Ev.ofSome h)) (fun h=>(Ev.ofLen h fun hl h=>QqE hl _ (0 : Nat) _ rfl h)))) (fun h=>(Ev.ofNone h)))))))
theorem QuM : ∀ x ∈ QcY,Qh Tryz.prog x:=(Qd Qmo (Qd Qjp Qk))
theorem X5 : Qh Tryz.prog (Gm):=by
 refine Qj (c:=Gm) (by kernel_rfl) (by kernel_rfl : Tryz.prog.funcs[123]? = some Tryz.f123) (code:=Tryz.f123.body.getD .skip) (by kernel_rfl) (by kernel_rfl) (by kernel_rfl) (A:=Qex) (I:=QcX) (QuM) ?_
 rintro ⟨a0,u⟩ y hy
 exact (Qy6 a0 hy).get
def Vn (x1 : Int) : Nat → Int → Int → Option Int
 | 0,_,_=>none
 | m + 1,x2,x3 =>
   bif decide (x3 < x1) then
    Vn x1 m (IntKind.wrap .i64 (x2 * 2)) (IntKind.wrap .i64 (x3 + 1))
   else
    some x2
def QiM (m : Nat) (a0 : Int) : Option Int :=
 Vn a0 m 1 0
def XN (a0 : Int) : Option Int:=Qcw fun m=>QiM m a0
def Qd1 : Ctr:=⟨145,[I64],[I64],fun x=>XN x.1⟩
def QiN : List (List Nat × Ann):=[([0,3],[.keep 0 0,.keep 0 3,.keep 0 4])]
def Qgv : List (List Nat × Nat):=[]
def Qgw : List Ctr:=[]
def QrG (n : Nat) (a0 : Int) : Option Int:=run Tryz.prog QiN Qgv (Qn Qgw) Tryz.f145 (Tryz.f145.body.getD .skip) (Qp [I64]) n (Qt [I64] (a0,()))
abbrev Ue (n : Nat) (x1 : Int) (x2 : Int) (x3 : Int) : Option Int:=lam Tryz.prog QiN Qgv (Qn Qgw) Tryz.f145 (Tryz.f145.body.getD .skip) (Qp [I64]) n [0,3] [.d I64 x1,.d I64 x2,.d I64 x3]
theorem Qxd (n : Nat) (a0 : Int) : QrG n a0 =
  Ue n a0 1 0:=by kernel_rfl
theorem QoO (n : Nat) (x1 : Int) (x2 : Int) (x3 : Int) : Ue (n + 1) x1 x2 x3 =
  bif decide (x3 < x1) then
   Ue n x1 (IntKind.wrap .i64 (x2 * 2)) (IntKind.wrap .i64 (x3 + 1))
  else
   some x2:=by kernel_rfl
theorem QuN {x1 : Int} : ∀ (m : Nat) (x2 : Int) (x3 : Int) (r : Int),Vn x1 m x2 x3 = some r → Ev (fun n=>Ue n x1 x2 x3) r:=by
 intro m
 induction m with
 | zero=>intro x2 x3 r h; rw [Vn] at h; exact Ev.ofNone h
 | succ m ih2 =>
  intro x2 x3 r h
  rw [Vn] at h
  refine Ev.step ?_ (fun n=>QoO n x1 x2 x3)
  exact (Ev.ofBif h (fun h=>(ih2 _ _ _ h)) (fun h=>(Ev.ofSome h)))
theorem QCC {m : Nat} (a0 : Int) {r : Int} (h : QiM m a0 = some r) : Ev (fun n=>QrG n a0) r:=by
 rw [QiM] at h
 refine Ev.of_eq ?_ (fun n=>Qxd n a0)
 exact (QuN _ _ _ _ h)
theorem Qy7 : ∀ x ∈ Qgw,Qh Tryz.prog x:=Qk
theorem QoP : Qh Tryz.prog (Qd1):=by
 refine Qj (c:=Qd1) (by kernel_rfl) (by kernel_rfl : Tryz.prog.funcs[145]? = some Tryz.f145) (code:=Tryz.f145.body.getD .skip) (by kernel_rfl) (by kernel_rfl) (by kernel_rfl) (A:=QiN) (I:=Qgv) (Qy7) ?_
 rintro ⟨a0,u⟩ y hy
 exact let ⟨_,h⟩:=(GL hy).get; (QCC a0 h).get
def GY (a0 : Qb) : Option (Int × Int) :=
 Option.bind (XN (IntKind.wrap .i64 (32 - (Int.tmod a0.2.1 64)))) fun (y1 : Int) =>
 some (IntKind.wrap .i64 (Int.tdiv a0.2.1 64),y1)
def Qgx : Ctr:=⟨146,[Qa],[I64,I64],fun x=>GY x.1⟩
def QoQ : List (List Nat × Ann):=[]
def Qms : List (List Nat × Nat):=[]
def Qmt : List Ctr:=[Qd1]
def QoR (n : Nat) (a0 : Qb) : Option (Int × Int):=run Tryz.prog QoQ Qms (Qn Qmt) Tryz.f146 (Tryz.f146.body.getD .skip) (Qp [I64,I64]) n (Qt [Qa] (a0,()))
theorem QuO (n : Nat) (a0 : Qb) : QoR n a0 =
  Option.bind (XN (IntKind.wrap .i64 (32 - (Int.tmod a0.2.1 64)))) fun (y1 : Int) =>
  some (IntKind.wrap .i64 (Int.tdiv a0.2.1 64),y1):=by kernel_rfl
theorem QBy (a0 : Qb) {r : (Int × Int)} (h : GY a0 = some r) : Ev (fun n=>QoR n a0) r:=by
 rw [GY] at h
 refine Ev.of_eq ?_ (fun n=>QuO n a0)
 exact (Ev.ofBind h fun y1 h=>(Ev.ofSome h))
theorem Qxe : ∀ x ∈ Qmt,Qh Tryz.prog x:=(Qd QoP Qk)
theorem Qy8 : Qh Tryz.prog (Qgx):=by
 refine Qj (c:=Qgx) (by kernel_rfl) (by kernel_rfl : Tryz.prog.funcs[146]? = some Tryz.f146) (code:=Tryz.f146.body.getD .skip) (by kernel_rfl) (by kernel_rfl) (by kernel_rfl) (A:=QoQ) (I:=Qms) (Qxe) ?_
 rintro ⟨a0,u⟩ y hy
 exact (QBy a0 hy).get
def Gx (x1 : Int) (x2 : Bool) (x3 : Qb) : Option Bool :=
 bif x2 then
  some true
 else
  bif decide (x1 = 3) then
   bif decide (x3.2.1 = 0) then
    bif decide ((x3.2.2.1.length : Int) ≤ 200) then
     Option.bind (Je x3.2.2.1) fun (y1 : Bool) =>
     some y1
    else
     some false
   else
    some false
  else
   bif decide (x1 = 4) then
    bif decide (x3.2.1 = 0) then
     Option.bind (Zn x3.2.2.2) fun (y2 : Bool) =>
     bif y2 then
      bif decide ((1 : Int) ≤ (x3.2.2.1.length : Int)) then
       bif decide ((x3.2.2.1.length : Int) ≤ 200) then
        Option.bind (Je x3.2.2.1) fun (y3 : Bool) =>
        some y3
       else
        some false
      else
       some false
     else
      some false
    else
     some false
   else
    bif decide (x1 = 6) then
     bif decide (x3.2.1 < 0) then
      some false
     else
      Option.bind (XN 32) fun (y4 : Int) =>
      bif decide (IntKind.wrap .i64 (y4 - 1) < IntKind.wrap .i64 (Int.tdiv x3.2.1 64)) then
       some false
      else
       bif decide ((32 : Int) < Int.tmod x3.2.1 64) then
        some false
       else
        Option.bind (GY x3) fun (y5 : (Int × Int)) =>
        bif decide (y5.2 = 0) then none else
        some (decide (Int.tmod y5.1 y5.2 = 0))
    else
     bif decide (x1 = 7) then
      bif decide (((-100000000000) : Int) ≤ x3.2.1) then
       some (decide (x3.2.1 ≤ 100000000000))
      else
       some false
     else
      some false
def Z9 (x1 : Qb) : Option Bool :=
 bif decide (x1.1 = 1) then
  bif decide (x1.2.1 = 0) then
   some true
  else
   some (decide (x1.2.1 = 1))
 else
  bif decide (x1.1 = 2) then
   Gx x1.1 (decide (x1.1 = 2)) x1
  else
   Gx x1.1 (decide (x1.1 = 5)) x1
def Zo (a0 : Qb) : Option Bool :=
 bif !decide (a0.1 = 3) then
  bif !decide (a0.1 = 4) then
   bif !decide (a0.2.2.1 = ([] : List Int)) then
    some false
   else
    bif !decide (a0.1 = 4) then
     bif !decide (a0.2.2.2 = ([] : List Int)) then
      some false
     else
      Z9 a0
    else
     Z9 a0
  else
   bif !decide (a0.1 = 4) then
    bif !decide (a0.2.2.2 = ([] : List Int)) then
     some false
    else
     Z9 a0
   else
    Z9 a0
 else
  bif !decide (a0.1 = 4) then
   bif !decide (a0.2.2.2 = ([] : List Int)) then
    some false
   else
    Z9 a0
  else
   Z9 a0
def Xi : Ctr:=⟨122,[Qa],[.bool],fun x=>Zo x.1⟩
def EC : List (List Nat × Ann):=[([1,3],[.keep 0 1,.boxd 0 1 Qa]),([1,8],[.keep 0 1,.keep 0 29,.keep 0 40,.boxd 0 1 Qa])]
def Wj : List (List Nat × Nat):=[]
def Wk : List Ctr:=[Wi,Gm,Qd1,Qgx]
def Qmu (n : Nat) (a0 : Qb) : Option Bool:=run Tryz.prog EC Wj (Qn Wk) Tryz.f122 (Tryz.f122.body.getD .skip) (Qp [.bool]) n (Qt [Qa] (a0,()))
abbrev JR (n : Nat) (x1 : Qb) : Option Bool:=lam Tryz.prog EC Wj (Qn Wk) Tryz.f122 (Tryz.f122.body.getD .skip) (Qp [.bool]) n [1,3] [.ptr 0 1 0,.agg (Qq Qa x1)]
abbrev XS (n : Nat) (x1 : Int) (x2 : Bool) (x3 : Qb) : Option Bool:=lam Tryz.prog EC Wj (Qn Wk) Tryz.f122 (Tryz.f122.body.getD .skip) (Qp [.bool]) n [1,8] [.ptr 0 1 0,.d I64 x1,.d .bool x2,.agg (Qq Qa x3)]
theorem QsK (n : Nat) (a0 : Qb) : Qmu n a0 =
  bif !decide (a0.1 = 3) then
   bif !decide (a0.1 = 4) then
    bif !decide (a0.2.2.1 = ([] : List Int)) then
     some false
    else
     bif !decide (a0.1 = 4) then
      bif !decide (a0.2.2.2 = ([] : List Int)) then
       some false
      else
       JR n a0
     else
      JR n a0
   else
    bif !decide (a0.1 = 4) then
     bif !decide (a0.2.2.2 = ([] : List Int)) then
      some false
     else
      JR n a0
    else
     JR n a0
  else
   bif !decide (a0.1 = 4) then
    bif !decide (a0.2.2.2 = ([] : List Int)) then
     some false
    else
     JR n a0
   else
    JR n a0:=by kernel_rfl
theorem Qln (n : Nat) (x1 : Qb) : JR (n + 1) x1 =
  bif decide (x1.1 = 1) then
   bif decide (x1.2.1 = 0) then
    some true
   else
    some (decide (x1.2.1 = 1))
  else
   bif decide (x1.1 = 2) then
    XS n x1.1 (decide (x1.1 = 2)) x1
   else
    XS n x1.1 (decide (x1.1 = 5)) x1:=by kernel_rfl
theorem Qlo (n : Nat) (x1 : Int) (x2 : Bool) (x3 : Qb) : XS (n + 1) x1 x2 x3 =
  bif x2 then
   some true
  else
   bif decide (x1 = 3) then
    bif decide (x3.2.1 = 0) then
     bif decide ((x3.2.2.1.length : Int) ≤ 200) then
      Option.bind (Je x3.2.2.1) fun (y1 : Bool) =>
      some y1
     else
      some false
    else
     some false
   else
    bif decide (x1 = 4) then
     bif decide (x3.2.1 = 0) then
      Option.bind (Zn x3.2.2.2) fun (y2 : Bool) =>
      bif y2 then
       bif decide ((1 : Int) ≤ (x3.2.2.1.length : Int)) then
        bif decide ((x3.2.2.1.length : Int) ≤ 200) then
         Option.bind (Je x3.2.2.1) fun (y3 : Bool) =>
         some y3
        else
         some false
       else
        some false
      else
       some false
     else
      some false
    else
     bif decide (x1 = 6) then
      bif decide (x3.2.1 < 0) then
       some false
      else
       Option.bind (XN 32) fun (y4 : Int) =>
       bif decide (IntKind.wrap .i64 (y4 - 1) < IntKind.wrap .i64 (Int.tdiv x3.2.1 64)) then
        some false
       else
        bif decide ((32 : Int) < Int.tmod x3.2.1 64) then
         some false
        else
         Option.bind (GY x3) fun (y5 : (Int × Int)) =>
         bif decide (y5.2 = 0) then none else
         some (decide (Int.tmod y5.1 y5.2 = 0))
     else
      bif decide (x1 = 7) then
       bif decide (((-100000000000) : Int) ≤ x3.2.1) then
        some (decide (x3.2.1 ≤ 100000000000))
       else
        some false
      else
       some false:=by kernel_rfl
theorem Qfq {x1 : Int} {x2 : Bool} {x3 : Qb} {r : Bool} (h : Gx x1 x2 x3 = some r) : Ev (fun n=>XS n x1 x2 x3) r:=by
 rw [Gx] at h
 refine Ev.step ?_ (fun n=>Qlo n x1 x2 x3)
 exact (Ev.ofBif h (fun h=>(Ev.ofSome h)) (fun h=>(Ev.ofBif h (fun h=>(Ev.ofBif h (fun h=>(Ev.ofBif h (fun h=>(Ev.ofBind h fun y1 h=>(Ev.ofSome h))) (fun h=>(Ev.ofSome h)))) (fun h=>(Ev.ofSome h)))) (fun h=>(Ev.ofBif h (fun h=>(Ev.ofBif h (fun h=>(Ev.ofBind h fun y2 h=>(Ev.ofBif h (fun h=>(Ev.ofBif h (fun h=>(Ev.ofBif h (fun h=>(Ev.ofBind h fun y3 h=>(Ev.ofSome h))) (fun h=>(Ev.ofSome h)))) (fun h=>(Ev.ofSome h)))) (fun h=>(Ev.ofSome h))))) (fun h=>(Ev.ofSome h)))) (fun h=>(Ev.ofBif h (fun h=>(Ev.ofBif h (fun h=>(Ev.ofSome h)) (fun h=>(Ev.ofBind h fun y4 h=>(Ev.ofBif h (fun h=>(Ev.ofSome h)) (fun h=>(Ev.ofBif h (fun h=>(Ev.ofSome h)) (fun h=>(Ev.ofBind h fun y5 h=>(Ev.ofBif h (fun h=>(Ev.ofNone h)) (fun h=>(Ev.ofSome h)))))))))))) (fun h=>(Ev.ofBif h (fun h=>(Ev.ofBif h (fun h=>(Ev.ofSome h)) (fun h=>(Ev.ofSome h)))) (fun h=>(Ev.ofSome h)))))))))))
theorem Vy {x1 : Qb} {r : Bool} (h : Z9 x1 = some r) : Ev (fun n=>JR n x1) r:=by
 rw [Z9] at h
 refine Ev.step ?_ (fun n=>Qln n x1)
 exact (Ev.ofBif h (fun h=>(Ev.ofBif h (fun h=>(Ev.ofSome h)) (fun h=>(Ev.ofSome h)))) (fun h=>(Ev.ofBif h (fun h=>(Qfq h)) (fun h=>(Qfq h)))))
theorem Qy9 (a0 : Qb) {r : Bool} (h : Zo a0 = some r) : Ev (fun n=>Qmu n a0) r:=by
 rw [Zo] at h
 refine Ev.of_eq ?_ (fun n=>QsK n a0)
 exact (Ev.ofBif h (fun h=>(Ev.ofBif h (fun h=>(Ev.ofBif h (fun h=>(Ev.ofSome h)) (fun h=>(Ev.ofBif h (fun h=>(Ev.ofBif h (fun h=>(Ev.ofSome h)) (fun h=>(Vy h)))) (fun h=>(Vy h)))))) (fun h=>(Ev.ofBif h (fun h=>(Ev.ofBif h (fun h=>(Ev.ofSome h)) (fun h=>(Vy h)))) (fun h=>(Vy h)))))) (fun h=>(Ev.ofBif h (fun h=>(Ev.ofBif h (fun h=>(Ev.ofSome h)) (fun h=>(Vy h)))) (fun h=>(Vy h)))))
theorem QuP : ∀ x ∈ Wk,Qh Tryz.prog x:=(Qd Qh1 (Qd X5 (Qd QoP (Qd Qy8 Qk))))
theorem Wl : Qh Tryz.prog (Xi):=by
 refine Qj (c:=Xi) (by kernel_rfl) (by kernel_rfl : Tryz.prog.funcs[122]? = some Tryz.f122) (code:=Tryz.f122.body.getD .skip) (by kernel_rfl) (by kernel_rfl) (by kernel_rfl) (A:=EC) (I:=Wj) (QuP) ?_
 rintro ⟨a0,u⟩ y hy
 exact (Qy9 a0 hy).get
def Z0 (a0 : Qb) : Option Bool :=
 bif decide (a0.1 = 4) then
  Option.bind (Zo a0) fun (y1 : Bool) =>
  some y1
 else
  some false
def Qd2 : Ctr:=⟨96,[Qa],[.bool],fun x=>Z0 x.1⟩
def QrH : List (List Nat × Ann):=[]
def QoS : List (List Nat × Nat):=[]
def QoT : List Ctr:=[Xi]
def QrI (n : Nat) (a0 : Qb) : Option Bool:=run Tryz.prog QrH QoS (Qn QoT) Tryz.f96 (Tryz.f96.body.getD .skip) (Qp [.bool]) n (Qt [Qa] (a0,()))
theorem Qxf (n : Nat) (a0 : Qb) : QrI n a0 =
  bif decide (a0.1 = 4) then
   Option.bind (Zo a0) fun (y1 : Bool) =>
   some y1
  else
   some false:=by kernel_rfl
theorem QCD (a0 : Qb) {r : Bool} (h : Z0 a0 = some r) : Ev (fun n=>QrI n a0) r:=by
 rw [Z0] at h
 refine Ev.of_eq ?_ (fun n=>Qxf n a0)
 exact (Ev.ofBif h (fun h=>(Ev.ofBind h fun y1 h=>(Ev.ofSome h))) (fun h=>(Ev.ofSome h)))
theorem Qza : ∀ x ∈ QoT,Qh Tryz.prog x:=(Qd Wl Qk)
theorem QoU : Qh Tryz.prog (Qd2):=by
 refine Qj (c:=Qd2) (by kernel_rfl) (by kernel_rfl : Tryz.prog.funcs[96]? = some Tryz.f96) (code:=Tryz.f96.body.getD .skip) (by kernel_rfl) (by kernel_rfl) (by kernel_rfl) (A:=QrH) (I:=QoS) (Qza) ?_
 rintro ⟨a0,u⟩ y hy
 exact (QCD a0 hy).get
def Q6 (a0 : Int) (a1 : Int) : Int :=
 bif decide (a0 < a1) then
  (-1)
 else
  bif decide (a1 < a0) then
   1
  else
   0
def ED : Ctr:=⟨100,[I64,I64],[I64],fun x=>some (Q6 x.1 x.2.1)⟩
def Qmv : List (List Nat × Ann):=[]
def Qjq : List (List Nat × Nat):=[]
def Qjr : List Ctr:=[]
def Qmw (n : Nat) (a0 : Int) (a1 : Int) : Option Int:=run Tryz.prog Qmv Qjq (Qn Qjr) Tryz.f100 (Tryz.f100.body.getD .skip) (Qp [I64]) n (Qt [I64,I64] (a0,a1,()))
theorem QsL (n : Nat) (a0 : Int) (a1 : Int) : Qmw n a0 a1 =
  bif decide (a0 < a1) then
   some (-1)
  else
   bif decide (a1 < a0) then
    some 1
   else
    some 0:=by kernel_rfl
theorem Qzb (n : Nat) (a0 : Int) (a1 : Int) : Qmw n a0 a1 = some (Q6 a0 a1):=(QsL n a0 a1).trans (ZL rfl (ZL rfl rfl))
theorem QuQ : ∀ x ∈ Qjr,Qh Tryz.prog x:=Qk
theorem Qjs : Qh Tryz.prog (ED):=by
 refine Qj (c:=ED) (by kernel_rfl) (by kernel_rfl : Tryz.prog.funcs[100]? = some Tryz.f100) (code:=Tryz.f100.body.getD .skip) (by kernel_rfl) (by kernel_rfl) (by kernel_rfl) (A:=Qmv) (I:=Qjq) (QuQ) ?_
 rintro ⟨a0,a1,u⟩ y hy
 exact ⟨0,(Qzb 0 a0 a1).trans hy⟩
def ZQ (x1 : (List Int)) (x2 : (List Int)) : List Int → Nat → Option Int
 | [],k =>
   some (Q6 (x1.length : Int) (x2.length : Int))
 | e :: rest,k =>
   bif decide ((k : Int) < (x2.length : Int)) then
    bif inB (k : Int) x2.length then
     bif !decide (e = rd x2 (k : Int) 0) then
      bif inB (k : Int) x2.length then
       some (Q6 (IntKind.wrap .i64 (e)) (IntKind.wrap .i64 (rd x2 (k : Int) 0)))
      else none
     else
      ZQ x1 x2 rest (k + 1)
    else none
   else
    some (Q6 (x1.length : Int) (x2.length : Int))
def Zb (a0 : (List Int)) (a1 : (List Int)) : Option Int :=
 Zu a0 (ZQ a0 a1 a0 0)
def GM : Ctr:=⟨101,[.str,.str],[I64],fun x=>Zb x.1 x.2.1⟩
def QcZ : List (List Nat × Ann):=[([0,2],[.keep 0 0,.keep 0 1,.keep 0 5])]
def Qbf : List (List Nat × Nat):=[]
def Qbg : List Ctr:=[ED]
def Qjt (n : Nat) (a0 : (List Int)) (a1 : (List Int)) : Option Int:=run Tryz.prog QcZ Qbf (Qn Qbg) Tryz.f101 (Tryz.f101.body.getD .skip) (Qp [I64]) n (Qt [.str,.str] (a0,a1,()))
abbrev V7 (n : Nat) (x1 : (List Int)) (x2 : (List Int)) (x3 : Int) : Option Int:=lam Tryz.prog QcZ Qbf (Qn Qbg) Tryz.f101 (Tryz.f101.body.getD .skip) (Qp [I64]) n [0,2] [.d .str x1,.d .str x2,.d I64 x3]
theorem QqF (n : Nat) (a0 : (List Int)) (a1 : (List Int)) : Qjt n a0 a1 =
  V7 n a0 a1 0:=by kernel_rfl
theorem QaP (n : Nat) (x1 : (List Int)) (x2 : (List Int)) (x3 : Int) : V7 (n + 1) x1 x2 x3 =
  bif decide (x3 < (x1.length : Int)) then
   bif decide (x3 < (x2.length : Int)) then
    bif inB x3 x1.length then
     bif inB x3 x2.length then
      bif !decide (rd x1 x3 0 = rd x2 x3 0) then
       bif inB x3 x1.length then
        bif inB x3 x2.length then
         some (Q6 (IntKind.wrap .i64 (rd x1 x3 0)) (IntKind.wrap .i64 (rd x2 x3 0)))
        else none
       else none
      else
       V7 n x1 x2 (IntKind.wrap .i64 (x3 + 1))
     else none
    else none
   else
    some (Q6 (x1.length : Int) (x2.length : Int))
  else
   some (Q6 (x1.length : Int) (x2.length : Int)):=by kernel_rfl
theorem QoV {x1 : (List Int)} {x2 : (List Int)} (hl : x1.length ≤ maxLen) : ∀ (rest : List Int) (k : Nat) (r : Int),rest = x1.drop k → ZQ x1 x2 rest k = some r → Ev (fun n=>V7 n x1 x2 (k : Int)) r:=by
 intro rest
 induction rest with
 | nil =>
  intro k r hr h
  have hk:=QH hr
  rw [ZQ] at h
  refine Ev.step ?_ (fun n=>QaP n x1 x2 (k : Int))
  rw [show decide ((k : Int) < (x1.length : Int)) = false from decide_eq_false (by omega)]
  exact Ev.neg rfl (Ev.ofSome h)
 | cons e rest ih =>
  intro k r hr h
  obtain ⟨hk,hx,hr2⟩:=Qz (d:=0) hr
  have hw:=Qy hl hk
  have ih2 : ∀ (r : Int),ZQ x1 x2 rest (k + 1) = some r → Ev (fun n=>V7 n x1 x2 (IntKind.wrap .i64 ((k : Int) + 1))) r:=by
   intro r h; rw [hw]; exact ih (k + 1) r hr2 h
  rw [ZQ] at h
  refine Ev.step ?_ (fun n=>QaP n x1 x2 (k : Int))
  rw [show decide ((k : Int) < (x1.length : Int)) = true from decide_eq_true (by omega),Qx hk,hx]
  exact Ev.pos rfl (Ev.ofBif h (fun h=>(Ev.pos rfl (Ev.ofBif h (fun h=>(Ev.ofBif h (fun h=>(Ev.pos rfl (Ev.ofBif h (fun h=>(Ev.ofSome h)) (fun h=>(Ev.ofNone h))))) (fun h=>(ih2  _ h)))) (fun h=>(Ev.ofNone h))))) (fun h=>(Ev.ofSome h)))
theorem Qxg (a0 : (List Int)) (a1 : (List Int)) {r : Int} (h : Zb a0 a1 = some r) : Ev (fun n=>Qjt n a0 a1) r:=by
 rw [Zb] at h
 refine Ev.of_eq ?_ (fun n=>QqF n a0 a1)
 exact (Ev.ofLen h fun hl h=>QoV hl _ (0 : Nat) _ rfl h)
theorem QsM : ∀ x ∈ Qbg,Qh Tryz.prog x:=(Qd Qjs Qk)
theorem Uf : Qh Tryz.prog (GM):=by
 refine Qj (c:=GM) (by kernel_rfl) (by kernel_rfl : Tryz.prog.funcs[101]? = some Tryz.f101) (code:=Tryz.f101.body.getD .skip) (by kernel_rfl) (by kernel_rfl) (by kernel_rfl) (A:=QcZ) (I:=Qbf) (QsM) ?_
 rintro ⟨a0,a1,u⟩ y hy
 exact (Qxg a0 a1 hy).get
def JC (a0 : Qb) (a1 : Qb) : Option Int :=
 bif !decide (Q6 a0.1 a1.1 = 0) then
  some (Q6 a0.1 a1.1)
 else
  bif !decide (Q6 a0.2.1 a1.2.1 = 0) then
   some (Q6 a0.2.1 a1.2.1)
  else
   Option.bind (Zb a0.2.2.2 a1.2.2.2) fun (y1 : Int) =>
   bif !decide (y1 = 0) then
    some y1
   else
    Option.bind (Zb a0.2.2.1 a1.2.2.1) fun (y2 : Int) =>
    some y2
def Qbh : Ctr:=⟨69,[Qa,Qa],[I64],fun x=>JC x.1 x.2.1⟩
def QuR : List (List Nat × Ann):=[]
def QrJ : List (List Nat × Nat):=[]
def QrK : List Ctr:=[ED,GM]
def QuS (n : Nat) (a0 : Qb) (a1 : Qb) : Option Int:=run Tryz.prog QuR QrJ (Qn QrK) Tryz.f69 (Tryz.f69.body.getD .skip) (Qp [I64]) n (Qt [Qa,Qa] (a0,a1,()))
theorem Qzc (n : Nat) (a0 : Qb) (a1 : Qb) : QuS n a0 a1 =
  bif !decide (Q6 a0.1 a1.1 = 0) then
   some (Q6 a0.1 a1.1)
  else
   bif !decide (Q6 a0.2.1 a1.2.1 = 0) then
    some (Q6 a0.2.1 a1.2.1)
   else
    Option.bind (Zb a0.2.2.2 a1.2.2.2) fun (y1 : Int) =>
    bif !decide (y1 = 0) then
     some y1
    else
     Option.bind (Zb a0.2.2.1 a1.2.2.1) fun (y2 : Int) =>
     some y2:=by kernel_rfl
theorem QDY (a0 : Qb) (a1 : Qb) {r : Int} (h : JC a0 a1 = some r) : Ev (fun n=>QuS n a0 a1) r:=by
 rw [JC] at h
 refine Ev.of_eq ?_ (fun n=>Qzc n a0 a1)
 exact (Ev.ofBif h (fun h=>(Ev.ofSome h)) (fun h=>(Ev.ofBif h (fun h=>(Ev.ofSome h)) (fun h=>(Ev.ofBind h fun y1 h=>(Ev.ofBif h (fun h=>(Ev.ofSome h)) (fun h=>(Ev.ofBind h fun y2 h=>(Ev.ofSome h)))))))))
theorem QBz : ∀ x ∈ QrK,Qh Tryz.prog x:=(Qd Qjs (Qd Uf Qk))
theorem QiO : Qh Tryz.prog (Qbh):=by
 refine Qj (c:=Qbh) (by kernel_rfl) (by kernel_rfl : Tryz.prog.funcs[69]? = some Tryz.f69) (code:=Tryz.f69.body.getD .skip) (by kernel_rfl) (by kernel_rfl) (by kernel_rfl) (A:=QuR) (I:=QrJ) (QBz) ?_
 rintro ⟨a0,a1,u⟩ y hy
 exact (QDY a0 a1 hy).get
def ZG (x4 : Ql) : List (List Int) → Nat → Option Bool
 | [],k =>
   some true
 | e :: rest,k =>
   Option.bind (Zn (e)) fun (y4 : Bool) =>
   bif !(y4) then
    some false
   else
    bif decide ((0 : Int) < (k : Int)) then
     bif inB (IntKind.wrap .i64 ((k : Int) - 1)) x4.2.2.2.length then
      Option.bind (Zb (rd x4.2.2.2 (IntKind.wrap .i64 ((k : Int) - 1)) (Ty.dflt .str)) (e)) fun (y5 : Int) =>
      bif decide ((0 : Int) ≤ y5) then
       some false
      else
       ZG x4 rest (k + 1)
     else none
    else
     ZG x4 rest (k + 1)
def Zg (x4 : Ql) : List Qb → Nat → Option Bool
 | [],k =>
   bif decide (x4.1 = 2) then
    some (decide ((x4.2.2.2.length : Int) = 0))
   else
    bif !decide ((x4.2.2.2.length : Int) = (x4.2.2.1.length : Int)) then
     some false
    else
     Zu x4.2.2.2 (ZG x4 x4.2.2.2 0)
 | e :: rest,k =>
   Option.bind (Zo (e)) fun (y2 : Bool) =>
   bif !(y2) then
    some false
   else
    bif decide (x4.1 = 2) then
     bif decide ((0 : Int) < (k : Int)) then
      bif inB (IntKind.wrap .i64 ((k : Int) - 1)) x4.2.2.1.length then
       Option.bind (JC (rd x4.2.2.1 (IntKind.wrap .i64 ((k : Int) - 1)) (Ty.dflt Qa)) (e)) fun (y3 : Int) =>
       bif decide ((0 : Int) ≤ y3) then
        some false
       else
        Zg x4 rest (k + 1)
      else none
     else
      Zg x4 rest (k + 1)
    else
     Zg x4 rest (k + 1)
def V8 (x1 : Bool) (x2 : Ql) : Option Bool :=
 bif x1 then
  bif !@decide (x2.2.1 = (0,0,([] : List Int),([] : List Int))) (Ty.decEq Qa x2.2.1 (0,0,([] : List Int),([] : List Int))) then
   some false
  else
   bif decide ((50 : Int) < (x2.2.2.1.length : Int)) then
    some false
   else
    Zu x2.2.2.1 (Zg x2 x2.2.2.1 0)
 else
  some false
def Ym (a0 : Ql) : Option Bool :=
 bif decide (a0.1 = 1) then
  Option.bind (Zo a0.2.1) fun (y1 : Bool) =>
  bif y1 then
   bif decide ((a0.2.2.1.length : Int) = 0) then
    some (decide ((a0.2.2.2.length : Int) = 0))
   else
    some false
  else
   some false
 else
  bif decide (a0.1 = 2) then
   V8 (decide (a0.1 = 2)) a0
  else
   V8 (decide (a0.1 = 3)) a0
def Qc0 : Ctr:=⟨124,[Qf],[.bool],fun x=>Ym x.1⟩
def X6 : List (List Nat × Ann):=[([1,6],[.keep 0 1,.keep 0 26,.boxd 0 1 Qf]),([0,9],[.keep 0 1,.keep 0 40,.keep 0 41,.keep 0 42,.boxd 0 1 Qf]),([0,19],[.keep 0 1,.keep 0 86,.keep 0 87,.keep 0 88,.boxd 0 1 Qf])]
def Xx : List (List Nat × Nat):=[]
def Xy : List Ctr:=[Xi,Qbh,Gm,GM]
def Qju (n : Nat) (a0 : Ql) : Option Bool:=run Tryz.prog X6 Xx (Qn Xy) Tryz.f124 (Tryz.f124.body.getD .skip) (Qp [.bool]) n (Qt [Qf] (a0,()))
abbrev Xz (n : Nat) (x1 : Bool) (x2 : Ql) : Option Bool:=lam Tryz.prog X6 Xx (Qn Xy) Tryz.f124 (Tryz.f124.body.getD .skip) (Qp [.bool]) n [1,6] [.ptr 0 1 0,.d .bool x1,.agg (Qq Qf x2)]
abbrev Yd (n : Nat) (x1 : (List Qb)) (x2 : Int) (x3 : Int) (x4 : Ql) : Option Bool:=lam Tryz.prog X6 Xx (Qn Xy) Tryz.f124 (Tryz.f124.body.getD .skip) (Qp [.bool]) n [0,9] [.ptr 0 1 0,.d (.list Qa) x1,.d I64 x2,.d I64 x3,.agg (Qq Qf x4)]
abbrev YJ (n : Nat) (x1 : (List (List Int))) (x2 : Int) (x3 : Int) (x4 : Ql) : Option Bool:=lam Tryz.prog X6 Xx (Qn Xy) Tryz.f124 (Tryz.f124.body.getD .skip) (Qp [.bool]) n [0,19] [.ptr 0 1 0,.d (.list .str) x1,.d I64 x2,.d I64 x3,.agg (Qq Qf x4)]
theorem QqG (n : Nat) (a0 : Ql) : Qju n a0 =
  bif decide (a0.1 = 1) then
   Option.bind (Zo a0.2.1) fun (y1 : Bool) =>
   bif y1 then
    bif decide ((a0.2.2.1.length : Int) = 0) then
     some (decide ((a0.2.2.2.length : Int) = 0))
    else
     some false
   else
    some false
  else
   bif decide (a0.1 = 2) then
    Xz n (decide (a0.1 = 2)) a0
   else
    Xz n (decide (a0.1 = 3)) a0:=by kernel_rfl
theorem Qjv (n : Nat) (x1 : Bool) (x2 : Ql) : Xz (n + 1) x1 x2 =
  bif x1 then
   bif !@decide (x2.2.1 = (0,0,([] : List Int),([] : List Int))) (Ty.decEq Qa x2.2.1 (0,0,([] : List Int),([] : List Int))) then
    some false
   else
    bif decide ((50 : Int) < (x2.2.2.1.length : Int)) then
     some false
    else
     Yd n x2.2.2.1 (x2.2.2.1.length : Int) 0 x2
  else
   some false:=by kernel_rfl
theorem QaQ (n : Nat) (x1 : (List Qb)) (x2 : Int) (x3 : Int) (x4 : Ql) : Yd (n + 1) x1 x2 x3 x4 =
  bif decide (x3 < x2) then
   bif inB x3 x1.length then
    Option.bind (Zo (rd x1 x3 (Ty.dflt Qa))) fun (y2 : Bool) =>
    bif !(y2) then
     some false
    else
     bif decide (x4.1 = 2) then
      bif decide ((0 : Int) < x3) then
       bif inB (IntKind.wrap .i64 (x3 - 1)) x4.2.2.1.length then
        Option.bind (JC (rd x4.2.2.1 (IntKind.wrap .i64 (x3 - 1)) (Ty.dflt Qa)) (rd x1 x3 (Ty.dflt Qa))) fun (y3 : Int) =>
        bif decide ((0 : Int) ≤ y3) then
         some false
        else
         Yd n x1 x2 (IntKind.wrap .i64 (x3 + 1)) x4
       else none
      else
       Yd n x1 x2 (IntKind.wrap .i64 (x3 + 1)) x4
     else
      Yd n x1 x2 (IntKind.wrap .i64 (x3 + 1)) x4
   else none
  else
   bif decide (x4.1 = 2) then
    some (decide ((x4.2.2.2.length : Int) = 0))
   else
    bif !decide ((x4.2.2.2.length : Int) = (x4.2.2.1.length : Int)) then
     some false
    else
     YJ n x4.2.2.2 (x4.2.2.2.length : Int) 0 x4:=by kernel_rfl
theorem Ef (n : Nat) (x1 : (List (List Int))) (x2 : Int) (x3 : Int) (x4 : Ql) : YJ (n + 1) x1 x2 x3 x4 =
  bif decide (x3 < x2) then
   bif inB x3 x1.length then
    Option.bind (Zn (rd x1 x3 (Ty.dflt .str))) fun (y4 : Bool) =>
    bif !(y4) then
     some false
    else
     bif decide ((0 : Int) < x3) then
      bif inB (IntKind.wrap .i64 (x3 - 1)) x4.2.2.2.length then
       Option.bind (Zb (rd x4.2.2.2 (IntKind.wrap .i64 (x3 - 1)) (Ty.dflt .str)) (rd x1 x3 (Ty.dflt .str))) fun (y5 : Int) =>
       bif decide ((0 : Int) ≤ y5) then
        some false
       else
        YJ n x1 x2 (IntKind.wrap .i64 (x3 + 1)) x4
      else none
     else
      YJ n x1 x2 (IntKind.wrap .i64 (x3 + 1)) x4
   else none
  else
   some true:=by kernel_rfl
theorem Qnz {x1 : (List (List Int))} {x4 : Ql} (hl : x1.length ≤ maxLen) : ∀ (rest : List (List Int)) (k : Nat) (r : Bool),rest = x1.drop k → ZG x4 rest k = some r → Ev (fun n=>YJ n x1 (x1.length : Int) (k : Int) x4) r:=by
 intro rest
 induction rest with
 | nil =>
  intro k r hr h
  have hk:=QH hr
  rw [ZG] at h
  refine Ev.step ?_ (fun n=>Ef n x1 (x1.length : Int) (k : Int) x4)
  rw [show decide ((k : Int) < (x1.length : Int)) = false from decide_eq_false (by omega)]
  exact Ev.neg rfl (Ev.ofSome h)
 | cons e rest ih =>
  intro k r hr h
  obtain ⟨hk,hx,hr2⟩:=Qz (d:=(Ty.dflt .str)) hr
  have hw:=Qy hl hk
  have ih2 : ∀ (r : Bool),ZG x4 rest (k + 1) = some r → Ev (fun n=>YJ n x1 (x1.length : Int) (IntKind.wrap .i64 ((k : Int) + 1)) x4) r:=by
   intro r h; rw [hw]; exact ih (k + 1) r hr2 h
  rw [ZG] at h
  refine Ev.step ?_ (fun n=>Ef n x1 (x1.length : Int) (k : Int) x4)
  rw [show decide ((k : Int) < (x1.length : Int)) = true from decide_eq_true (by omega),Qx hk,hx]
  exact Ev.pos rfl (Ev.pos rfl (Ev.ofBind h fun y4 h=>(Ev.ofBif h (fun h=>(Ev.ofSome h)) (fun h=>(Ev.ofBif h (fun h=>(Ev.ofBif h (fun h=>(Ev.ofBind h fun y5 h=>(Ev.ofBif h (fun h=>(Ev.ofSome h)) (fun h=>(ih2  _ h))))) (fun h=>(Ev.ofNone h)))) (fun h=>(ih2  _ h)))))))
theorem QoW {x1 : (List Qb)} {x4 : Ql} (hl : x1.length ≤ maxLen) : ∀ (rest : List Qb) (k : Nat) (r : Bool),rest = x1.drop k → Zg x4 rest k = some r → Ev (fun n=>Yd n x1 (x1.length : Int) (k : Int) x4) r:=by
 intro rest
 induction rest with
 | nil =>
  intro k r hr h
  have hk:=QH hr
  rw [Zg] at h
  refine Ev.step ?_ (fun n=>QaQ n x1 (x1.length : Int) (k : Int) x4)
  rw [show decide ((k : Int) < (x1.length : Int)) = false from decide_eq_false (by omega)]
  exact Ev.neg rfl (Ev.ofBif h (fun h=>(Ev.ofSome h)) (fun h=>(Ev.ofBif h (fun h=>(Ev.ofSome h)) (fun h=>(Ev.ofLen h fun hl h=>Qnz hl _ (0 : Nat) _ rfl h)))))
 | cons e rest ih =>
  intro k r hr h
  obtain ⟨hk,hx,hr2⟩:=Qz (d:=(Ty.dflt Qa)) hr
  have hw:=Qy hl hk
  have ih2 : ∀ (r : Bool),Zg x4 rest (k + 1) = some r → Ev (fun n=>Yd n x1 (x1.length : Int) (IntKind.wrap .i64 ((k : Int) + 1)) x4) r:=by
   intro r h; rw [hw]; exact ih (k + 1) r hr2 h
  rw [Zg] at h
  refine Ev.step ?_ (fun n=>QaQ n x1 (x1.length : Int) (k : Int) x4)
  rw [show decide ((k : Int) < (x1.length : Int)) = true from decide_eq_true (by omega),Qx hk,hx]
  exact Ev.pos rfl (Ev.pos rfl (Ev.ofBind h fun y2 h=>(Ev.ofBif h (fun h=>(Ev.ofSome h)) (fun h=>(Ev.ofBif h (fun h=>(Ev.ofBif h (fun h=>(Ev.ofBif h (fun h=>(Ev.ofBind h fun y3 h=>(Ev.ofBif h (fun h=>(Ev.ofSome h)) (fun h=>(ih2  _ h))))) (fun h=>(Ev.ofNone h)))) (fun h=>(ih2  _ h)))) (fun h=>(ih2  _ h)))))))
theorem Qeg {x1 : Bool} {x2 : Ql} {r : Bool} (h : V8 x1 x2 = some r) : Ev (fun n=>Xz n x1 x2) r:=by
 rw [V8] at h
 refine Ev.step ?_ (fun n=>Qjv n x1 x2)
 exact (Ev.ofBif h (fun h=>(Ev.ofBif h (fun h=>(Ev.ofSome h)) (fun h=>(Ev.ofBif h (fun h=>(Ev.ofSome h)) (fun h=>(Ev.ofLen h fun hl h=>QoW hl _ (0 : Nat) _ rfl h)))))) (fun h=>(Ev.ofSome h)))
theorem Qxh (a0 : Ql) {r : Bool} (h : Ym a0 = some r) : Ev (fun n=>Qju n a0) r:=by
 rw [Ym] at h
 refine Ev.of_eq ?_ (fun n=>QqG n a0)
 exact (Ev.ofBif h (fun h=>(Ev.ofBind h fun y1 h=>(Ev.ofBif h (fun h=>(Ev.ofBif h (fun h=>(Ev.ofSome h)) (fun h=>(Ev.ofSome h)))) (fun h=>(Ev.ofSome h))))) (fun h=>(Ev.ofBif h (fun h=>(Qeg h)) (fun h=>(Qeg h)))))
theorem QsN : ∀ x ∈ Xy,Qh Tryz.prog x:=(Qd Wl (Qd QiO (Qd X5 (Qd Uf Qk))))
theorem QuT : Qh Tryz.prog (Qc0):=by
 refine Qj (c:=Qc0) (by kernel_rfl) (by kernel_rfl : Tryz.prog.funcs[124]? = some Tryz.f124) (code:=Tryz.f124.body.getD .skip) (by kernel_rfl) (by kernel_rfl) (by kernel_rfl) (A:=X6) (I:=Xx) (QsN) ?_
 rintro ⟨a0,u⟩ y hy
 exact (Qxh a0 hy).get
def ZR (x1 : (List (List Int))) (x2 : (List Ql)) : List (List Int) → Nat → Option Bool
 | [],k =>
   some true
 | e :: rest,k =>
   Option.bind (Zn (e)) fun (y1 : Bool) =>
   bif !(y1) then
    some false
   else
    bif decide ((0 : Int) < (k : Int)) then
     bif inB (IntKind.wrap .i64 ((k : Int) - 1)) x1.length then
      Option.bind (Zb (rd x1 (IntKind.wrap .i64 ((k : Int) - 1)) (Ty.dflt .str)) (e)) fun (y2 : Int) =>
      bif decide ((0 : Int) ≤ y2) then
       some false
      else
       bif inB (k : Int) x2.length then
        Option.bind (Ym (rd x2 (k : Int) (Ty.dflt Qf))) fun (y3 : Bool) =>
        bif !(y3) then
         some false
        else
         bif inB (k : Int) x2.length then
          bif decide ((rd x2 (k : Int) (Ty.dflt Qf)).1 = 3) then
           some false
          else
           ZR x1 x2 rest (k + 1)
         else none
       else none
     else none
    else
     bif inB (k : Int) x2.length then
      Option.bind (Ym (rd x2 (k : Int) (Ty.dflt Qf))) fun (y4 : Bool) =>
      bif !(y4) then
       some false
      else
       bif inB (k : Int) x2.length then
        bif decide ((rd x2 (k : Int) (Ty.dflt Qf)).1 = 3) then
         some false
        else
         ZR x1 x2 rest (k + 1)
       else none
     else none
def Jf (a0 : (List (List Int))) (a1 : (List Ql)) : Option Bool :=
 bif decide ((20 : Int) < (a0.length : Int)) then
  some false
 else
  bif !decide ((a1.length : Int) = (a0.length : Int)) then
   some false
  else
   Zu a0 (ZR a0 a1 a0 0)
def Wm : Ctr:=⟨97,[(.list .str),(.list Qf)],[.bool],fun x=>Jf x.1 x.2.1⟩
def Qc1 : List (List Nat × Ann):=[([0,4],[.keep 0 0,.keep 0 1,.keep 0 17,.keep 0 18,.keep 0 19])]
def Qbi : List (List Nat × Nat):=[]
def Qbj : List Ctr:=[Gm,GM,Qc0]
def Qjw (n : Nat) (a0 : (List (List Int))) (a1 : (List Ql)) : Option Bool:=run Tryz.prog Qc1 Qbi (Qn Qbj) Tryz.f97 (Tryz.f97.body.getD .skip) (Qp [.bool]) n (Qt [(.list .str),(.list Qf)] (a0,a1,()))
abbrev Y8 (n : Nat) (x1 : (List (List Int))) (x2 : (List Ql)) (x3 : (List (List Int))) (x4 : Int) (x5 : Int) : Option Bool:=lam Tryz.prog Qc1 Qbi (Qn Qbj) Tryz.f97 (Tryz.f97.body.getD .skip) (Qp [.bool]) n [0,4] [.d (.list .str) x1,.d (.list Qf) x2,.d (.list .str) x3,.d I64 x4,.d I64 x5]
theorem QqH (n : Nat) (a0 : (List (List Int))) (a1 : (List Ql)) : Qjw n a0 a1 =
  bif decide ((20 : Int) < (a0.length : Int)) then
   some false
  else
   bif !decide ((a1.length : Int) = (a0.length : Int)) then
    some false
   else
    Y8 n a0 a1 a0 (a0.length : Int) 0:=by kernel_rfl
theorem QaR (n : Nat) (x1 : (List (List Int))) (x2 : (List Ql)) (x3 : (List (List Int))) (x4 : Int) (x5 : Int) : Y8 (n + 1) x1 x2 x3 x4 x5 =
  bif decide (x5 < x4) then
   bif inB x5 x3.length then
    Option.bind (Zn (rd x3 x5 (Ty.dflt .str))) fun (y1 : Bool) =>
    bif !(y1) then
     some false
    else
     bif decide ((0 : Int) < x5) then
      bif inB (IntKind.wrap .i64 (x5 - 1)) x1.length then
       Option.bind (Zb (rd x1 (IntKind.wrap .i64 (x5 - 1)) (Ty.dflt .str)) (rd x3 x5 (Ty.dflt .str))) fun (y2 : Int) =>
       bif decide ((0 : Int) ≤ y2) then
        some false
       else
        bif inB x5 x2.length then
         Option.bind (Ym (rd x2 x5 (Ty.dflt Qf))) fun (y3 : Bool) =>
         bif !(y3) then
          some false
         else
          bif inB x5 x2.length then
           bif decide ((rd x2 x5 (Ty.dflt Qf)).1 = 3) then
            some false
           else
            Y8 n x1 x2 x3 x4 (IntKind.wrap .i64 (x5 + 1))
          else none
        else none
      else none
     else
      bif inB x5 x2.length then
       Option.bind (Ym (rd x2 x5 (Ty.dflt Qf))) fun (y4 : Bool) =>
       bif !(y4) then
        some false
       else
        bif inB x5 x2.length then
         bif decide ((rd x2 x5 (Ty.dflt Qf)).1 = 3) then
          some false
         else
          Y8 n x1 x2 x3 x4 (IntKind.wrap .i64 (x5 + 1))
        else none
      else none
   else none
  else
   some true:=by kernel_rfl
theorem QoX {x1 : (List (List Int))} {x2 : (List Ql)} (hl : x1.length ≤ maxLen) : ∀ (rest : List (List Int)) (k : Nat) (r : Bool),rest = x1.drop k → ZR x1 x2 rest k = some r → Ev (fun n=>Y8 n x1 x2 x1 (x1.length : Int) (k : Int)) r:=by
 intro rest
 induction rest with
 | nil =>
  intro k r hr h
  have hk:=QH hr
  rw [ZR] at h
  refine Ev.step ?_ (fun n=>QaR n x1 x2 x1 (x1.length : Int) (k : Int))
  rw [show decide ((k : Int) < (x1.length : Int)) = false from decide_eq_false (by omega)]
  exact Ev.neg rfl (Ev.ofSome h)
 | cons e rest ih =>
  intro k r hr h
  obtain ⟨hk,hx,hr2⟩:=Qz (d:=(Ty.dflt .str)) hr
  have hw:=Qy hl hk
  have ih2 : ∀ (r : Bool),ZR x1 x2 rest (k + 1) = some r → Ev (fun n=>Y8 n x1 x2 x1 (x1.length : Int) (IntKind.wrap .i64 ((k : Int) + 1))) r:=by
   intro r h; rw [hw]; exact ih (k + 1) r hr2 h
  rw [ZR] at h
  refine Ev.step ?_ (fun n=>QaR n x1 x2 x1 (x1.length : Int) (k : Int))
  rw [show decide ((k : Int) < (x1.length : Int)) = true from decide_eq_true (by omega),Qx hk,hx]
  exact Ev.pos rfl (Ev.pos rfl (Ev.ofBind h fun y1 h=>(Ev.ofBif h (fun h=>(Ev.ofSome h)) (fun h=>(Ev.ofBif h (fun h=>(Ev.ofBif h (fun h=>(Ev.ofBind h fun y2 h=>(Ev.ofBif h (fun h=>(Ev.ofSome h)) (fun h=>(Ev.ofBif h (fun h=>(Ev.ofBind h fun y3 h=>(Ev.ofBif h (fun h=>(Ev.ofSome h)) (fun h=>(Ev.ofBif h (fun h=>(Ev.ofBif h (fun h=>(Ev.ofSome h)) (fun h=>(ih2  _ h)))) (fun h=>(Ev.ofNone h))))))) (fun h=>(Ev.ofNone h))))))) (fun h=>(Ev.ofNone h)))) (fun h=>(Ev.ofBif h (fun h=>(Ev.ofBind h fun y4 h=>(Ev.ofBif h (fun h=>(Ev.ofSome h)) (fun h=>(Ev.ofBif h (fun h=>(Ev.ofBif h (fun h=>(Ev.ofSome h)) (fun h=>(ih2  _ h)))) (fun h=>(Ev.ofNone h))))))) (fun h=>(Ev.ofNone h)))))))))
theorem Qxi (a0 : (List (List Int))) (a1 : (List Ql)) {r : Bool} (h : Jf a0 a1 = some r) : Ev (fun n=>Qjw n a0 a1) r:=by
 rw [Jf] at h
 refine Ev.of_eq ?_ (fun n=>QqH n a0 a1)
 exact (Ev.ofBif h (fun h=>(Ev.ofSome h)) (fun h=>(Ev.ofBif h (fun h=>(Ev.ofSome h)) (fun h=>(Ev.ofLen h fun hl h=>QoX hl _ (0 : Nat) _ rfl h)))))
theorem QsO : ∀ x ∈ Qbj,Qh Tryz.prog x:=(Qd X5 (Qd Uf (Qd QuT Qk)))
theorem Qh2 : Qh Tryz.prog (Wm):=by
 refine Qj (c:=Wm) (by kernel_rfl) (by kernel_rfl : Tryz.prog.funcs[97]? = some Tryz.f97) (code:=Tryz.f97.body.getD .skip) (by kernel_rfl) (by kernel_rfl) (by kernel_rfl) (A:=Qc1) (I:=Qbi) (QsO) ?_
 rintro ⟨a0,a1,u⟩ y hy
 exact (Qxi a0 a1 hy).get
def Zl (K0 : Option Bool) (x8 : Qc) : List Qb → Nat → Option Bool
 | [],k =>
   K0
 | e :: rest,k =>
   Option.bind (Z0 (e)) fun (y4 : Bool) =>
   bif !(y4) then
    some false
   else
    bif decide ((0 : Int) < (k : Int)) then
     bif inB (IntKind.wrap .i64 ((k : Int) - 1)) x8.2.1.length then
      Option.bind (JC (rd x8.2.1 (IntKind.wrap .i64 ((k : Int) - 1)) (Ty.dflt Qa)) (e)) fun (y5 : Int) =>
      bif decide ((0 : Int) ≤ y5) then
       some false
      else
       Zl K0 x8 rest (k + 1)
     else none
    else
     Zl K0 x8 rest (k + 1)
def ZH (x1 : (List Qc)) : List Qc → Nat → Option Bool
 | [],k =>
   some true
 | e :: rest,k =>
   Option.bind (Z0 ((e).1)) fun (y1 : Bool) =>
   bif !(y1) then
    some false
   else
    bif decide ((0 : Int) < (k : Int)) then
     bif inB (IntKind.wrap .i64 ((k : Int) - 1)) x1.length then
      Option.bind (JC ((rd x1 (IntKind.wrap .i64 ((k : Int) - 1)) (Ty.dflt Qe)).1) ((e).1)) fun (y2 : Int) =>
      bif decide ((0 : Int) ≤ y2) then
       some false
      else
       bif decide ((50 : Int) < ((((e).2).1).length : Int)) then
        some false
       else
        Option.bind (Jf ((((e).2).2).1) ((((e).2).2).2)) fun (y3 : Bool) =>
        bif !(y3) then
         some false
        else
         Zu (((e).2).1) (Zl (ZH x1 rest (k + 1)) (((e).1),((e).2)) (((e).2).1) 0)
     else none
    else
     bif decide ((50 : Int) < ((((e).2).1).length : Int)) then
      some false
     else
      Option.bind (Jf ((((e).2).2).1) ((((e).2).2).2)) fun (y6 : Bool) =>
      bif !(y6) then
       some false
      else
       Zu (((e).2).1) (Zl (ZH x1 rest (k + 1)) (((e).1),((e).2)) (((e).2).1) 0)
def Vo (a0 : (List Qc)) : Option Bool :=
 bif decide ((100 : Int) < (a0.length : Int)) then
  some false
 else
  Zu a0 (ZH a0 a0 0)
def Qbk : Ctr:=⟨66,[(.list Qe)],[.bool],fun x=>Vo x.1⟩
def Ug : List (List Nat × Ann):=[([0,4],[.keep 0 0,.keep 0 10,.keep 0 11,.keep 0 12]),([0,9],[.keep 0 0,.keep 0 4,.keep 0 10,.keep 0 11,.keep 0 12,.keep 0 52,.keep 0 53,.keep 0 54,.boxd 0 4 Qe])]
def HD : List (List Nat × Nat):=[]
def HE : List Ctr:=[Qd2,Qbh,Wm]
def Qh3 (n : Nat) (a0 : (List Qc)) : Option Bool:=run Tryz.prog Ug HD (Qn HE) Tryz.f66 (Tryz.f66.body.getD .skip) (Qp [.bool]) n (Qt [(.list Qe)] (a0,()))
abbrev YK (n : Nat) (x1 : (List Qc)) (x2 : (List Qc)) (x3 : Int) (x4 : Int) : Option Bool:=lam Tryz.prog Ug HD (Qn HE) Tryz.f66 (Tryz.f66.body.getD .skip) (Qp [.bool]) n [0,4] [.d (.list Qe) x1,.d (.list Qe) x2,.d I64 x3,.d I64 x4]
abbrev J3 (n : Nat) (x1 : (List Qc)) (x2 : (List Qc)) (x3 : Int) (x4 : Int) (x5 : (List Qb)) (x6 : Int) (x7 : Int) (x8 : Qc) : Option Bool:=lam Tryz.prog Ug HD (Qn HE) Tryz.f66 (Tryz.f66.body.getD .skip) (Qp [.bool]) n [0,9] [.d (.list Qe) x1,.ptr 0 4 0,.d (.list Qe) x2,.d I64 x3,.d I64 x4,.d (.list Qa) x5,.d I64 x6,.d I64 x7,.agg (Qq Qe x8)]
theorem QoY (n : Nat) (a0 : (List Qc)) : Qh3 n a0 =
  bif decide ((100 : Int) < (a0.length : Int)) then
   some false
  else
   YK n a0 a0 (a0.length : Int) 0:=by kernel_rfl
theorem Eg (n : Nat) (x1 : (List Qc)) (x2 : (List Qc)) (x3 : Int) (x4 : Int) : YK (n + 1) x1 x2 x3 x4 =
  bif decide (x4 < x3) then
   bif inB x4 x2.length then
    Option.bind (Z0 ((rd x2 x4 (Ty.dflt Qe)).1)) fun (y1 : Bool) =>
    bif !(y1) then
     some false
    else
     bif decide ((0 : Int) < x4) then
      bif inB (IntKind.wrap .i64 (x4 - 1)) x1.length then
       Option.bind (JC ((rd x1 (IntKind.wrap .i64 (x4 - 1)) (Ty.dflt Qe)).1) ((rd x2 x4 (Ty.dflt Qe)).1)) fun (y2 : Int) =>
       bif decide ((0 : Int) ≤ y2) then
        some false
       else
        bif decide ((50 : Int) < ((((rd x2 x4 (Ty.dflt Qe)).2).1).length : Int)) then
         some false
        else
         Option.bind (Jf ((((rd x2 x4 (Ty.dflt Qe)).2).2).1) ((((rd x2 x4 (Ty.dflt Qe)).2).2).2)) fun (y3 : Bool) =>
         bif !(y3) then
          some false
         else
          J3 n x1 x2 x3 x4 (((rd x2 x4 (Ty.dflt Qe)).2).1) ((((rd x2 x4 (Ty.dflt Qe)).2).1).length : Int) 0 (((rd x2 x4 (Ty.dflt Qe)).1),((rd x2 x4 (Ty.dflt Qe)).2))
      else none
     else
      bif decide ((50 : Int) < ((((rd x2 x4 (Ty.dflt Qe)).2).1).length : Int)) then
       some false
      else
       Option.bind (Jf ((((rd x2 x4 (Ty.dflt Qe)).2).2).1) ((((rd x2 x4 (Ty.dflt Qe)).2).2).2)) fun (y6 : Bool) =>
       bif !(y6) then
        some false
       else
        J3 n x1 x2 x3 x4 (((rd x2 x4 (Ty.dflt Qe)).2).1) ((((rd x2 x4 (Ty.dflt Qe)).2).1).length : Int) 0 (((rd x2 x4 (Ty.dflt Qe)).1),((rd x2 x4 (Ty.dflt Qe)).2))
   else none
  else
   some true:=by kernel_rfl
theorem Eh (n : Nat) (x1 : (List Qc)) (x2 : (List Qc)) (x3 : Int) (x4 : Int) (x5 : (List Qb)) (x6 : Int) (x7 : Int) (x8 : Qc) : J3 (n + 1) x1 x2 x3 x4 x5 x6 x7 x8 =
  bif decide (x7 < x6) then
   bif inB x7 x5.length then
    Option.bind (Z0 (rd x5 x7 (Ty.dflt Qa))) fun (y4 : Bool) =>
    bif !(y4) then
     some false
    else
     bif decide ((0 : Int) < x7) then
      bif inB (IntKind.wrap .i64 (x7 - 1)) x8.2.1.length then
       Option.bind (JC (rd x8.2.1 (IntKind.wrap .i64 (x7 - 1)) (Ty.dflt Qa)) (rd x5 x7 (Ty.dflt Qa))) fun (y5 : Int) =>
       bif decide ((0 : Int) ≤ y5) then
        some false
       else
        J3 n x1 x2 x3 x4 x5 x6 (IntKind.wrap .i64 (x7 + 1)) x8
      else none
     else
      J3 n x1 x2 x3 x4 x5 x6 (IntKind.wrap .i64 (x7 + 1)) x8
   else none
  else
   YK n x1 x2 x3 (IntKind.wrap .i64 (x4 + 1)):=by kernel_rfl
theorem Qcy {K0 : Option Bool} {x1 : (List Qc)} {x3 : Int} {x4 : Int} {x5 : (List Qb)} {x8 : Qc} (hl : x5.length ≤ maxLen) (hK0 : ∀  (r : Bool),K0 = some r → Ev (fun n=>YK n x1 x1 x3 (IntKind.wrap .i64 (x4 + 1))) r) : ∀ (rest : List Qb) (k : Nat) (r : Bool),rest = x5.drop k → Zl K0 x8 rest k = some r → Ev (fun n=>J3 n x1 x1 x3 x4 x5 (x5.length : Int) (k : Int) x8) r:=by
 intro rest
 induction rest with
 | nil =>
  intro k r hr h
  have hk:=QH hr
  rw [Zl] at h
  refine Ev.step ?_ (fun n=>Eh n x1 x1 x3 x4 x5 (x5.length : Int) (k : Int) x8)
  rw [show decide ((k : Int) < (x5.length : Int)) = false from decide_eq_false (by omega)]
  exact Ev.neg rfl (hK0  _ h)
 | cons e rest ih =>
  intro k r hr h
  obtain ⟨hk,hx,hr2⟩:=Qz (d:=(Ty.dflt Qa)) hr
  have hw:=Qy hl hk
  have ih2 : ∀ (r : Bool),Zl K0 x8 rest (k + 1) = some r → Ev (fun n=>J3 n x1 x1 x3 x4 x5 (x5.length : Int) (IntKind.wrap .i64 ((k : Int) + 1)) x8) r:=by
   intro r h; rw [hw]; exact ih (k + 1) r hr2 h
  rw [Zl] at h
  refine Ev.step ?_ (fun n=>Eh n x1 x1 x3 x4 x5 (x5.length : Int) (k : Int) x8)
  rw [show decide ((k : Int) < (x5.length : Int)) = true from decide_eq_true (by omega),Qx hk,hx]
  exact Ev.pos rfl (Ev.pos rfl (Ev.ofBind h fun y4 h=>(Ev.ofBif h (fun h=>(Ev.ofSome h)) (fun h=>(Ev.ofBif h (fun h=>(Ev.ofBif h (fun h=>(Ev.ofBind h fun y5 h=>(Ev.ofBif h (fun h=>(Ev.ofSome h)) (fun h=>(ih2  _ h))))) (fun h=>(Ev.ofNone h)))) (fun h=>(ih2  _ h)))))))
theorem QnA {x1 : (List Qc)} (hl : x1.length ≤ maxLen) : ∀ (rest : List Qc) (k : Nat) (r : Bool),rest = x1.drop k → ZH x1 rest k = some r → Ev (fun n=>YK n x1 x1 (x1.length : Int) (k : Int)) r:=by
 intro rest
 induction rest with
 | nil =>
  intro k r hr h
  have hk:=QH hr
  rw [ZH] at h
  refine Ev.step ?_ (fun n=>Eg n x1 x1 (x1.length : Int) (k : Int))
  rw [show decide ((k : Int) < (x1.length : Int)) = false from decide_eq_false (by omega)]
  exact Ev.neg rfl (Ev.ofSome h)
 | cons e rest ih =>
  intro k r hr h
  obtain ⟨hk,hx,hr2⟩:=Qz (d:=(Ty.dflt Qe)) hr
  have hw:=Qy hl hk
  have ih2 : ∀ (r : Bool),ZH x1 rest (k + 1) = some r → Ev (fun n=>YK n x1 x1 (x1.length : Int) (IntKind.wrap .i64 ((k : Int) + 1))) r:=by
   intro r h; rw [hw]; exact ih (k + 1) r hr2 h
  rw [ZH] at h
  refine Ev.step ?_ (fun n=>Eg n x1 x1 (x1.length : Int) (k : Int))
  rw [show decide ((k : Int) < (x1.length : Int)) = true from decide_eq_true (by omega),Qx hk,hx]
  exact Ev.pos rfl (Ev.pos rfl (Ev.ofBind h fun y1 h=>(Ev.ofBif h (fun h=>(Ev.ofSome h)) (fun h=>(Ev.ofBif h (fun h=>(Ev.ofBif h (fun h=>(Ev.ofBind h fun y2 h=>(Ev.ofBif h (fun h=>(Ev.ofSome h)) (fun h=>(Ev.ofBif h (fun h=>(Ev.ofSome h)) (fun h=>(Ev.ofBind h fun y3 h=>(Ev.ofBif h (fun h=>(Ev.ofSome h)) (fun h=>(Ev.ofLen h fun hl h=>Qcy hl ih2 _ (0 : Nat) _ rfl h)))))))))) (fun h=>(Ev.ofNone h)))) (fun h=>(Ev.ofBif h (fun h=>(Ev.ofSome h)) (fun h=>(Ev.ofBind h fun y6 h=>(Ev.ofBif h (fun h=>(Ev.ofSome h)) (fun h=>(Ev.ofLen h fun hl h=>Qcy hl ih2 _ (0 : Nat) _ rfl h))))))))))))
theorem QuU (a0 : (List Qc)) {r : Bool} (h : Vo a0 = some r) : Ev (fun n=>Qh3 n a0) r:=by
 rw [Vo] at h
 refine Ev.of_eq ?_ (fun n=>QoY n a0)
 exact (Ev.ofBif h (fun h=>(Ev.ofSome h)) (fun h=>(Ev.ofLen h fun hl h=>QnA hl _ (0 : Nat) _ rfl h)))
theorem QqI : ∀ x ∈ HE,Qh Tryz.prog x:=(Qd QoU (Qd QiO (Qd Qh2 Qk)))
theorem QsP : Qh Tryz.prog (Qbk):=by
 refine Qj (c:=Qbk) (by kernel_rfl) (by kernel_rfl : Tryz.prog.funcs[66]? = some Tryz.f66) (code:=Tryz.f66.body.getD .skip) (by kernel_rfl) (by kernel_rfl) (by kernel_rfl) (A:=Ug) (I:=HD) (QqI) ?_
 rintro ⟨a0,u⟩ y hy
 exact (QuU a0 hy).get
def Y1 (a0 : QD) : Option Bool :=
 Option.bind (Z0 a0.1) fun (y1 : Bool) =>
 bif y1 then
  Option.bind (Z0 a0.2.1) fun (y2 : Bool) =>
  bif y2 then
   Option.bind (Z0 a0.2.2.1) fun (y3 : Bool) =>
   bif y3 then
    Option.bind (Jf a0.2.2.2.1 a0.2.2.2.2) fun (y4 : Bool) =>
    some y4
   else
    some false
  else
   some false
 else
  some false
def E6 : Ctr:=⟨67,[Qu],[.bool],fun x=>Y1 x.1⟩
def Qgy : List (List Nat × Ann):=[]
def Qfr : List (List Nat × Nat):=[]
def Qfs : List Ctr:=[Qd2,Wm]
def Qgz (n : Nat) (a0 : QD) : Option Bool:=run Tryz.prog Qgy Qfr (Qn Qfs) Tryz.f67 (Tryz.f67.body.getD .skip) (Qp [.bool]) n (Qt [Qu] (a0,()))
theorem QnB (n : Nat) (a0 : QD) : Qgz n a0 =
  Option.bind (Z0 a0.1) fun (y1 : Bool) =>
  bif y1 then
   Option.bind (Z0 a0.2.1) fun (y2 : Bool) =>
   bif y2 then
    Option.bind (Z0 a0.2.2.1) fun (y3 : Bool) =>
    bif y3 then
     Option.bind (Jf a0.2.2.2.1 a0.2.2.2.2) fun (y4 : Bool) =>
     some y4
    else
     some false
   else
    some false
  else
   some false:=by kernel_rfl
theorem QsQ (a0 : QD) {r : Bool} (h : Y1 a0 = some r) : Ev (fun n=>Qgz n a0) r:=by
 rw [Y1] at h
 refine Ev.of_eq ?_ (fun n=>QnB n a0)
 exact (Ev.ofBind h fun y1 h=>(Ev.ofBif h (fun h=>(Ev.ofBind h fun y2 h=>(Ev.ofBif h (fun h=>(Ev.ofBind h fun y3 h=>(Ev.ofBif h (fun h=>(Ev.ofBind h fun y4 h=>(Ev.ofSome h))) (fun h=>(Ev.ofSome h))))) (fun h=>(Ev.ofSome h))))) (fun h=>(Ev.ofSome h))))
theorem QoZ : ∀ x ∈ Qfs,Qh Tryz.prog x:=(Qd QoU (Qd Qh2 Qk))
theorem QqJ : Qh Tryz.prog (E6):=by
 refine Qj (c:=E6) (by kernel_rfl) (by kernel_rfl : Tryz.prog.funcs[67]? = some Tryz.f67) (code:=Tryz.f67.body.getD .skip) (by kernel_rfl) (by kernel_rfl) (by kernel_rfl) (A:=Qgy) (I:=Qfr) (QoZ) ?_
 rintro ⟨a0,u⟩ y hy
 exact (QsQ a0 hy).get
def ZM (x1 : (List Int)) : List Int → Option Bool
 | [] =>
   bif decide ((1 : Int) ≤ (x1.length : Int)) then
    some (decide ((x1.length : Int) ≤ 40))
   else
    some false
 | e :: rest =>
   bif !(VB (e)) then
    bif !(YR (e)) then
     bif !decide (e = 95) then
      bif !decide (e = 45) then
       bif !decide (e = 46) then
        some false
       else
        ZM x1 rest
      else
       ZM x1 rest
     else
      ZM x1 rest
    else
     ZM x1 rest
   else
    ZM x1 rest
def UG (a0 : (List Int)) : Option Bool :=
 Zu a0 (ZM a0 a0)
def Qo0 : Ctr:=⟨125,[.str],[.bool],fun x=>UG x.1⟩
def Qo1 : List (List Nat × Ann):=[([0,2],[.keep 0 0,.keep 0 3])]
def Qlp : List (List Nat × Nat):=[]
def Qlq : List Ctr:=[EB,Qbd]
def QyQ (n : Nat) (a0 : (List Int)) : Option Bool:=run Tryz.prog Qo1 Qlp (Qn Qlq) Tryz.f125 (Tryz.f125.body.getD .skip) (Qp [.bool]) n (Qt [.str] (a0,()))
abbrev YW (n : Nat) (x1 : (List Int)) (x2 : Int) : Option Bool:=lam Tryz.prog Qo1 Qlp (Qn Qlq) Tryz.f125 (Tryz.f125.body.getD .skip) (Qp [.bool]) n [0,2] [.d .str x1,.d I64 x2]
theorem QBA (n : Nat) (a0 : (List Int)) : QyQ n a0 =
  YW n a0 0:=by kernel_rfl
theorem QgA (n : Nat) (x1 : (List Int)) (x2 : Int) : YW (n + 1) x1 x2 =
  bif decide (x2 < (x1.length : Int)) then
   bif inB x2 x1.length then
    bif !(VB (rd x1 x2 0)) then
     bif inB x2 x1.length then
      bif !(YR (rd x1 x2 0)) then
       bif inB x2 x1.length then
        bif !decide (rd x1 x2 0 = 95) then
         bif inB x2 x1.length then
          bif !decide (rd x1 x2 0 = 45) then
           bif inB x2 x1.length then
            bif !decide (rd x1 x2 0 = 46) then
             some false
            else
             YW n x1 (IntKind.wrap .i64 (x2 + 1))
           else none
          else
           YW n x1 (IntKind.wrap .i64 (x2 + 1))
         else none
        else
         YW n x1 (IntKind.wrap .i64 (x2 + 1))
       else none
      else
       YW n x1 (IntKind.wrap .i64 (x2 + 1))
     else none
    else
     YW n x1 (IntKind.wrap .i64 (x2 + 1))
   else none
  else
   bif decide ((1 : Int) ≤ (x1.length : Int)) then
    some (decide ((x1.length : Int) ≤ 40))
   else
    some false:=by kernel_rfl
theorem Qzd {x1 : (List Int)} (hl : x1.length ≤ maxLen) : ∀ (rest : List Int) (k : Nat) (r : Bool),rest = x1.drop k → ZM x1 rest = some r → Ev (fun n=>YW n x1 (k : Int)) r:=by
 intro rest
 induction rest with
 | nil =>
  intro k r hr h
  have hk:=QH hr
  rw [ZM] at h
  refine Ev.step ?_ (fun n=>QgA n x1 (k : Int))
  rw [show decide ((k : Int) < (x1.length : Int)) = false from decide_eq_false (by omega)]
  exact Ev.neg rfl (Ev.ofBif h (fun h=>(Ev.ofSome h)) (fun h=>(Ev.ofSome h)))
 | cons e rest ih =>
  intro k r hr h
  obtain ⟨hk,hx,hr2⟩:=Qz (d:=0) hr
  have hw:=Qy hl hk
  have ih2 : ∀ (r : Bool),ZM x1 rest = some r → Ev (fun n=>YW n x1 (IntKind.wrap .i64 ((k : Int) + 1))) r:=by
   intro r h; rw [hw]; exact ih (k + 1) r hr2 h
  rw [ZM] at h
  refine Ev.step ?_ (fun n=>QgA n x1 (k : Int))
  rw [show decide ((k : Int) < (x1.length : Int)) = true from decide_eq_true (by omega),Qx hk,hx]
  exact Ev.pos rfl (Ev.pos rfl (Ev.ofBif h (fun h=>(Ev.pos rfl (Ev.ofBif h (fun h=>(Ev.pos rfl (Ev.ofBif h (fun h=>(Ev.pos rfl (Ev.ofBif h (fun h=>(Ev.pos rfl (Ev.ofBif h (fun h=>(Ev.ofSome h)) (fun h=>(ih2  _ h))))) (fun h=>(ih2  _ h))))) (fun h=>(ih2  _ h))))) (fun h=>(ih2  _ h))))) (fun h=>(ih2  _ h))))
theorem QEU (a0 : (List Int)) {r : Bool} (h : UG a0 = some r) : Ev (fun n=>QyQ n a0) r:=by
 rw [UG] at h
 refine Ev.of_eq ?_ (fun n=>QBA n a0)
 exact (Ev.ofLen h fun hl h=>Qzd hl _ (0 : Nat) _ rfl h)
theorem QCE : ∀ x ∈ Qlq,Qh Tryz.prog x:=(Qd Qjp (Qd Qmo Qk))
theorem QDZ : Qh Tryz.prog (Qo0):=by
 refine Qj (c:=Qo0) (by kernel_rfl) (by kernel_rfl : Tryz.prog.funcs[125]? = some Tryz.f125) (code:=Tryz.f125.body.getD .skip) (by kernel_rfl) (by kernel_rfl) (by kernel_rfl) (A:=Qo1) (I:=Qlp) (QCE) ?_
 rintro ⟨a0,u⟩ y hy
 exact (QEU a0 hy).get
def Yn (x1 : Bool) (x2 : Int) (x3 : Bool) (x4 : J6) : Option Bool :=
 bif x3 then
  bif decide (x4.2.1.1 = 4) then
   Option.bind (Zo x4.2.1) fun (y1 : Bool) =>
   bif y1 then
    some (decide (x4.2.2 = ([] : List Int)))
   else
    some false
  else
   some false
 else
  bif decide (x2 = 4) then
   bif @decide (x4.2.1 = (0,0,([] : List Int),([] : List Int))) (Ty.decEq Qa x4.2.1 (0,0,([] : List Int),([] : List Int))) then
    Option.bind (Zn x4.2.2) fun (y2 : Bool) =>
    some y2
   else
    some false
  else
   bif decide (x2 = 5) then
    bif decide (x2 = 5) then
     bif x1 then
      bif @decide (x4.2.1 = (0,0,([] : List Int),([] : List Int))) (Ty.decEq Qa x4.2.1 (0,0,([] : List Int),([] : List Int))) then
       some (decide (x4.2.2 = ([] : List Int)))
      else
       some false
     else
      some false
    else
     some false
   else
    bif decide (x2 = 6) then
     bif x1 then
      bif @decide (x4.2.1 = (0,0,([] : List Int),([] : List Int))) (Ty.decEq Qa x4.2.1 (0,0,([] : List Int),([] : List Int))) then
       some (decide (x4.2.2 = ([] : List Int)))
      else
       some false
     else
      some false
    else
     some false
def Zc (a0 : J6) (a1 : Bool) : Option Bool :=
 bif decide (a0.1 = 1) then
  bif @decide (a0.2.1 = (0,0,([] : List Int),([] : List Int))) (Ty.decEq Qa a0.2.1 (0,0,([] : List Int),([] : List Int))) then
   some (decide (a0.2.2 = ([] : List Int)))
  else
   some false
 else
  bif decide (a0.1 = 2) then
   Yn a1 a0.1 (decide (a0.1 = 2)) a0
  else
   Yn a1 a0.1 (decide (a0.1 = 3)) a0
def E7 : Ctr:=⟨126,[Qs,.bool],[.bool],fun x=>Zc x.1 x.2.1⟩
def E8 : List (List Nat × Ann):=[([1,6],[.keep 0 1,.keep 0 2,.keep 0 6,.keep 0 18,.boxd 0 2 Qs])]
def WY : List (List Nat × Nat):=[]
def WZ : List Ctr:=[Xi,Gm]
def QgB (n : Nat) (a0 : J6) (a1 : Bool) : Option Bool:=run Tryz.prog E8 WY (Qn WZ) Tryz.f126 (Tryz.f126.body.getD .skip) (Qp [.bool]) n (Qt [Qs,.bool] (a0,a1,()))
abbrev GG (n : Nat) (x1 : Bool) (x2 : Int) (x3 : Bool) (x4 : J6) : Option Bool:=lam Tryz.prog E8 WY (Qn WZ) Tryz.f126 (Tryz.f126.body.getD .skip) (Qp [.bool]) n [1,6] [.d .bool x1,.ptr 0 2 0,.d I64 x2,.d .bool x3,.agg (Qq Qs x4)]
theorem QnC (n : Nat) (a0 : J6) (a1 : Bool) : QgB n a0 a1 =
  bif decide (a0.1 = 1) then
   bif @decide (a0.2.1 = (0,0,([] : List Int),([] : List Int))) (Ty.decEq Qa a0.2.1 (0,0,([] : List Int),([] : List Int))) then
    some (decide (a0.2.2 = ([] : List Int)))
   else
    some false
  else
   bif decide (a0.1 = 2) then
    GG n a1 a0.1 (decide (a0.1 = 2)) a0
   else
    GG n a1 a0.1 (decide (a0.1 = 3)) a0:=by kernel_rfl
theorem QhQ (n : Nat) (x1 : Bool) (x2 : Int) (x3 : Bool) (x4 : J6) : GG (n + 1) x1 x2 x3 x4 =
  bif x3 then
   bif decide (x4.2.1.1 = 4) then
    Option.bind (Zo x4.2.1) fun (y1 : Bool) =>
    bif y1 then
     some (decide (x4.2.2 = ([] : List Int)))
    else
     some false
   else
    some false
  else
   bif decide (x2 = 4) then
    bif @decide (x4.2.1 = (0,0,([] : List Int),([] : List Int))) (Ty.decEq Qa x4.2.1 (0,0,([] : List Int),([] : List Int))) then
     Option.bind (Zn x4.2.2) fun (y2 : Bool) =>
     some y2
    else
     some false
   else
    bif decide (x2 = 5) then
     bif decide (x2 = 5) then
      bif x1 then
       bif @decide (x4.2.1 = (0,0,([] : List Int),([] : List Int))) (Ty.decEq Qa x4.2.1 (0,0,([] : List Int),([] : List Int))) then
        some (decide (x4.2.2 = ([] : List Int)))
       else
        some false
      else
       some false
     else
      some false
    else
     bif decide (x2 = 6) then
      bif x1 then
       bif @decide (x4.2.1 = (0,0,([] : List Int),([] : List Int))) (Ty.decEq Qa x4.2.1 (0,0,([] : List Int),([] : List Int))) then
        some (decide (x4.2.2 = ([] : List Int)))
       else
        some false
      else
       some false
     else
      some false:=by kernel_rfl
theorem Qbl {x1 : Bool} {x2 : Int} {x3 : Bool} {x4 : J6} {r : Bool} (h : Yn x1 x2 x3 x4 = some r) : Ev (fun n=>GG n x1 x2 x3 x4) r:=by
 rw [Yn] at h
 refine Ev.step ?_ (fun n=>QhQ n x1 x2 x3 x4)
 exact (Ev.ofBif h (fun h=>(Ev.ofBif h (fun h=>(Ev.ofBind h fun y1 h=>(Ev.ofBif h (fun h=>(Ev.ofSome h)) (fun h=>(Ev.ofSome h))))) (fun h=>(Ev.ofSome h)))) (fun h=>(Ev.ofBif h (fun h=>(Ev.ofBif h (fun h=>(Ev.ofBind h fun y2 h=>(Ev.ofSome h))) (fun h=>(Ev.ofSome h)))) (fun h=>(Ev.ofBif h (fun h=>(Ev.ofBif h (fun h=>(Ev.ofBif h (fun h=>(Ev.ofBif h (fun h=>(Ev.ofSome h)) (fun h=>(Ev.ofSome h)))) (fun h=>(Ev.ofSome h)))) (fun h=>(Ev.ofSome h)))) (fun h=>(Ev.ofBif h (fun h=>(Ev.ofBif h (fun h=>(Ev.ofBif h (fun h=>(Ev.ofSome h)) (fun h=>(Ev.ofSome h)))) (fun h=>(Ev.ofSome h)))) (fun h=>(Ev.ofSome h)))))))))
theorem QsR (a0 : J6) (a1 : Bool) {r : Bool} (h : Zc a0 a1 = some r) : Ev (fun n=>QgB n a0 a1) r:=by
 rw [Zc] at h
 refine Ev.of_eq ?_ (fun n=>QnC n a0 a1)
 exact (Ev.ofBif h (fun h=>(Ev.ofBif h (fun h=>(Ev.ofSome h)) (fun h=>(Ev.ofSome h)))) (fun h=>(Ev.ofBif h (fun h=>(Qbl h)) (fun h=>(Qbl h)))))
theorem Qo2 : ∀ x ∈ WZ,Qh Tryz.prog x:=(Qd Wl (Qd X5 Qk))
theorem QqK : Qh Tryz.prog (E7):=by
 refine Qj (c:=E7) (by kernel_rfl) (by kernel_rfl : Tryz.prog.funcs[126]? = some Tryz.f126) (code:=Tryz.f126.body.getD .skip) (by kernel_rfl) (by kernel_rfl) (by kernel_rfl) (A:=E8) (I:=WY) (Qo2) ?_
 rintro ⟨a0,a1,u⟩ y hy
 exact (QsR a0 a1 hy).get
def Ye (Rc : (List Qr) → Int → Int → Option (QA × Int)) (x1 : (List Qr)) (x3 : Int) : Nat → Int → Int → (List QA) → QA → Option (QA × Int)
 | 0,_,_,_,_=>none
 | m + 1,x2,x4,x6,x7 =>
   bif decide (x4 < x7.val.2.2.2) then
    Option.bind (Rc x1 x2 (IntKind.wrap .i64 (x3 + 1))) fun (y1 : (QA × Int)) =>
    bif decide (y1.2 < 0) then
     some ((Tree.node (0,([] : List Int),(0,0,([] : List Int),([] : List Int)),0) ([])),(-1))
    else
     bif decide (((x6.length : Int) + (([(Tree.node y1.1.val y1.1.kids)] : List QA).length : Int)) * 104 ≤ Qv) && decide ((x6.length : Int) + (([(Tree.node y1.1.val y1.1.kids)] : List QA).length : Int) ≤ Qv) then
      Ye Rc x1 x3 m y1.2 (IntKind.wrap .i64 (x4 + 1)) (x6 ++ ([(Tree.node y1.1.val y1.1.kids)] : List QA)) (Tree.node x7.val (x6 ++ ([(Tree.node y1.1.val y1.1.kids)] : List QA)))
     else none
   else
    some ((Tree.node x7.val x6),x2)
def UH (Rc : (List Qr) → Int → Int → Option (QA × Int)) (m : Nat) (a0 : (List Qr)) (a1 : Int) (a2 : Int) : Option (QA × Int) :=
 bif decide ((a0.length : Int) ≤ a1) then
  some ((Tree.node (0,([] : List Int),(0,0,([] : List Int),([] : List Int)),0) ([])),(-1))
 else
  bif decide ((12 : Int) < a2) then
   some ((Tree.node (0,([] : List Int),(0,0,([] : List Int),([] : List Int)),0) ([])),(-1))
  else
   bif inB a1 a0.length then
    bif decide ((((rd a0 a1 (Ty.dflt Qo)).2).2).2 < 0) then
     some ((Tree.node (0,([] : List Int),(0,0,([] : List Int),([] : List Int)),0) ([])),(-1))
    else
     bif inB a1 a0.length then
      bif decide ((10 : Int) < (((rd a0 a1 (Ty.dflt Qo)).2).2).2) then
       some ((Tree.node (0,([] : List Int),(0,0,([] : List Int),([] : List Int)),0) ([])),(-1))
      else
       bif inB a1 a0.length then
        Ye Rc a0 a2 m (IntKind.wrap .i64 (a1 + 1)) 0 [] (Tree.node (rd a0 a1 (Ty.dflt Qo)) ([]))
       else none
     else none
   else none
def GZ : Nat → (List Qr) → Int → Int → Option (QA × Int)
 | 0=>fun _ _ _=>none
 | d + 1=>fun a0 a1 a2=>Qcw fun m=>UH (GZ d) m a0 a1 a2
def Qbm (a0 : (List Qr)) (a1 : Int) (a2 : Int) : Option (QA × Int):=Qcw fun d=>GZ d a0 a1 a2
def Qo3 : Ctr:=⟨157,[(.list Qo),I64,I64],[Vm,I64],fun x=>Qbm x.1 x.2.1 x.2.2.1⟩
def QgC : List (List Nat × Ann):=[([0,6],[.keep 0 0,.keep 0 1,.keep 0 2,.keep 0 6,.keep 0 8,.keep 0 9,.boxd 0 6 Vm,.ownb 0 8 7 Vm,.boxd 0 8 Vm])]
def Qey : List (List Nat × Nat):=[]
def Qez (Rc : (List Qr) → Int → Int → Option (QA × Int)) : List Ctr:=[⟨157,[(.list Qo),I64,I64],[Vm,I64],fun x=>Rc x.1 x.2.1 x.2.2.1⟩]
def Qo4 (Rc : (List Qr) → Int → Int → Option (QA × Int)) (n : Nat) (a0 : (List Qr)) (a1 : Int) (a2 : Int) : Option (QA × Int):=run Tryz.prog QgC Qey (Qn (Qez Rc)) Tryz.f157 (Tryz.f157.body.getD .skip) (Qp [Vm,I64]) n (Qt [(.list Qo),I64,I64] (a0,a1,a2,()))
abbrev HF (Rc : (List Qr) → Int → Int → Option (QA × Int)) (n : Nat) (x1 : (List Qr)) (x2 : Int) (x3 : Int) (x4 : Int) (x5 : QA) (x6 : (List QA)) (x7 : QA) : Option (QA × Int):=lam Tryz.prog QgC Qey (Qn (Qez Rc)) Tryz.f157 (Tryz.f157.body.getD .skip) (Qp [Vm,I64]) n [0,6] [.d (.list Qo) x1,.d I64 x2,.d I64 x3,.ptr 0 6 0,.ptr 0 8 0,.d I64 x4,.agg (Qq Vm x5),.own 0 Vm x6,.agg (Qq Vm x7)]
theorem QuV (Rc : (List Qr) → Int → Int → Option (QA × Int)) (n : Nat) (a0 : (List Qr)) (a1 : Int) (a2 : Int) : Qo4 Rc n a0 a1 a2 =
  bif decide ((a0.length : Int) ≤ a1) then
   some ((Tree.node (0,([] : List Int),(0,0,([] : List Int),([] : List Int)),0) ([])),(-1))
  else
   bif decide ((12 : Int) < a2) then
    some ((Tree.node (0,([] : List Int),(0,0,([] : List Int),([] : List Int)),0) ([])),(-1))
   else
    bif inB a1 a0.length then
     bif decide ((((rd a0 a1 (Ty.dflt Qo)).2).2).2 < 0) then
      some ((Tree.node (0,([] : List Int),(0,0,([] : List Int),([] : List Int)),0) ([])),(-1))
     else
      bif inB a1 a0.length then
       bif decide ((10 : Int) < (((rd a0 a1 (Ty.dflt Qo)).2).2).2) then
        some ((Tree.node (0,([] : List Int),(0,0,([] : List Int),([] : List Int)),0) ([])),(-1))
       else
        bif inB a1 a0.length then
         HF Rc n a0 (IntKind.wrap .i64 (a1 + 1)) a2 0 (Tree.node (0,([] : List Int),(0,0,([] : List Int),([] : List Int)),0) ([])) [] (Tree.node (rd a0 a1 (Ty.dflt Qo)) ([]))
        else none
      else none
    else none:=by kernel_rfl
theorem QnD (Rc : (List Qr) → Int → Int → Option (QA × Int)) (n : Nat) (x1 : (List Qr)) (x2 : Int) (x3 : Int) (x4 : Int) (x5 : QA) (x6 : (List QA)) (x7 : QA) : HF Rc (n + 1) x1 x2 x3 x4 x5 x6 x7 =
  bif decide (x4 < x7.val.2.2.2) then
   Option.bind (Rc x1 x2 (IntKind.wrap .i64 (x3 + 1))) fun (y1 : (QA × Int)) =>
   bif decide (y1.2 < 0) then
    some ((Tree.node (0,([] : List Int),(0,0,([] : List Int),([] : List Int)),0) ([])),(-1))
   else
    bif decide (((x6.length : Int) + (([(Tree.node y1.1.val y1.1.kids)] : List QA).length : Int)) * 104 ≤ Qv) && decide ((x6.length : Int) + (([(Tree.node y1.1.val y1.1.kids)] : List QA).length : Int) ≤ Qv) then
     HF Rc n x1 y1.2 x3 (IntKind.wrap .i64 (x4 + 1)) (Tree.node x5.val x5.kids) (x6 ++ ([(Tree.node y1.1.val y1.1.kids)] : List QA)) (Tree.node x7.val (x6 ++ ([(Tree.node y1.1.val y1.1.kids)] : List QA)))
    else none
  else
   some ((Tree.node x7.val x6),x2):=by kernel_rfl
theorem QsS {Rc : (List Qr) → Int → Int → Option (QA × Int)} {x1 : (List Qr)} {x3 : Int} : ∀ (m : Nat) (x2 : Int) (x4 : Int) (x5 : QA) (x6 : (List QA)) (x7 : QA) (r : (QA × Int)),Ye Rc x1 x3 m x2 x4 x6 x7 = some r → Ev (fun n=>HF Rc n x1 x2 x3 x4 x5 x6 x7) r:=by
 intro m
 induction m with
 | zero=>intro x2 x4 x5 x6 x7 r h; rw [Ye] at h; exact Ev.ofNone h
 | succ m ih2 =>
  intro x2 x4 x5 x6 x7 r h
  rw [Ye] at h
  refine Ev.step ?_ (fun n=>QnD Rc n x1 x2 x3 x4 x5 x6 x7)
  exact (Ev.ofBif h (fun h=>(Ev.ofBind h fun y1 h=>(Ev.ofBif h (fun h=>(Ev.ofSome h)) (fun h=>(Ev.ofBif h (fun h=>(ih2 _ _ _ _ _ _ h)) (fun h=>(Ev.ofNone h))))))) (fun h=>(Ev.ofSome h)))
theorem QBB {Rc : (List Qr) → Int → Int → Option (QA × Int)} {m : Nat} (a0 : (List Qr)) (a1 : Int) (a2 : Int) {r : (QA × Int)} (h : UH Rc m a0 a1 a2 = some r) : Ev (fun n=>Qo4 Rc n a0 a1 a2) r:=by
 rw [UH] at h
 refine Ev.of_eq ?_ (fun n=>QuV Rc n a0 a1 a2)
 exact (Ev.ofBif h (fun h=>(Ev.ofSome h)) (fun h=>(Ev.ofBif h (fun h=>(Ev.ofSome h)) (fun h=>(Ev.ofBif h (fun h=>(Ev.ofBif h (fun h=>(Ev.ofSome h)) (fun h=>(Ev.ofBif h (fun h=>(Ev.ofBif h (fun h=>(Ev.ofSome h)) (fun h=>(Ev.ofBif h (fun h=>(QsS _ _ _ _ _ _ _ h)) (fun h=>(Ev.ofNone h)))))) (fun h=>(Ev.ofNone h)))))) (fun h=>(Ev.ofNone h)))))))
theorem Qxj : ∀ d,Qh Tryz.prog (⟨157,[(.list Qo),I64,I64],[Vm,I64],fun x=>GZ d x.1 x.2.1 x.2.2.1⟩ : Ctr):=by
 intro d
 induction d with
 | zero=>intro xs y hy; exact (nomatch (show (none : Option (QA × Int)) = some y from hy))
 | succ d ih =>
  refine Qj (by kernel_rfl) (by kernel_rfl : Tryz.prog.funcs[157]? = some Tryz.f157) (code:=Tryz.f157.body.getD .skip) (by kernel_rfl) (by kernel_rfl) (by kernel_rfl) (A:=QgC) (I:=Qey) (cs:=Qez (GZ d)) (Qd ih Qk) ?_
  rintro ⟨a0,a1,a2,u⟩ y hy
  exact let ⟨_,h⟩:=(GL hy).get; (QBB a0 a1 a2 h).get
theorem Qze : Qh Tryz.prog (Qo3):=by
 rintro ⟨a0,a1,a2,u⟩ y hy
 obtain ⟨d,hd⟩:=(GL hy).get
 exact Qxj d (a0,a1,a2,u) y hd
def ZS (x1 : Int) (x3 : Bool) : Option Int :=
 bif x3 then
  some 1
 else
  bif decide (x1 = 10) then
   some 3
  else
   bif decide ((8 : Int) ≤ x1) then
    bif decide (x1 ≤ 19) then
     some 2
    else
     some (-1)
   else
    some (-1)
def Gy (x1 : Int) (x3 : Bool) : Option Int :=
 bif x3 then
  some 0
 else
  bif decide (x1 = 2) then
   some (-2)
  else
   bif decide (x1 = 4) then
    ZS x1 (decide (x1 = 4))
   else
    bif decide (x1 = 5) then
     ZS x1 (decide (x1 = 5))
    else
     bif decide (x1 = 6) then
      ZS x1 (decide (x1 = 6))
     else
      bif decide (x1 = 7) then
       ZS x1 (decide (x1 = 7))
      else
       bif decide (x1 = 20) then
        ZS x1 (decide (x1 = 20))
       else
        ZS x1 (decide (x1 = 21))
def Gn (a0 : Int) : Option Int :=
 bif decide (a0 = 1) then
  Gy a0 (decide (a0 = 1))
 else
  Gy a0 (decide (a0 = 3))
def QeA : Ctr:=⟨160,[I64],[I64],fun x=>Gn x.1⟩
def EE : List (List Nat × Ann):=[([1,4],[.keep 0 0,.keep 0 3,.keep 0 4]),([1,13],[.keep 0 0,.keep 0 3,.keep 0 9])]
def Wn : List (List Nat × Nat):=[]
def Wo : List Ctr:=[]
def Qmx (n : Nat) (a0 : Int) : Option Int:=run Tryz.prog EE Wn (Qn Wo) Tryz.f160 (Tryz.f160.body.getD .skip) (Qp [I64]) n (Qt [I64] (a0,()))
abbrev XT (n : Nat) (x1 : Int) (x2 : Int) (x3 : Bool) : Option Int:=lam Tryz.prog EE Wn (Qn Wo) Tryz.f160 (Tryz.f160.body.getD .skip) (Qp [I64]) n [1,4] [.d I64 x1,.d I64 x2,.d .bool x3]
abbrev Js (n : Nat) (x1 : Int) (x2 : Int) (x3 : Bool) : Option Int:=lam Tryz.prog EE Wn (Qn Wo) Tryz.f160 (Tryz.f160.body.getD .skip) (Qp [I64]) n [1,13] [.d I64 x1,.d I64 x2,.d .bool x3]
theorem QsT (n : Nat) (a0 : Int) : Qmx n a0 =
  bif decide (a0 = 1) then
   XT n a0 a0 (decide (a0 = 1))
  else
   XT n a0 a0 (decide (a0 = 3)):=by kernel_rfl
theorem Qlr (n : Nat) (x1 : Int) (x2 : Int) (x3 : Bool) : XT (n + 1) x1 x2 x3 =
  bif x3 then
   some 0
  else
   bif decide (x2 = 2) then
    some (-2)
   else
    bif decide (x2 = 4) then
     Js n x1 x2 (decide (x2 = 4))
    else
     bif decide (x2 = 5) then
      Js n x1 x2 (decide (x2 = 5))
     else
      bif decide (x2 = 6) then
       Js n x1 x2 (decide (x2 = 6))
      else
       bif decide (x2 = 7) then
        Js n x1 x2 (decide (x2 = 7))
       else
        bif decide (x2 = 20) then
         Js n x1 x2 (decide (x2 = 20))
        else
         Js n x1 x2 (decide (x2 = 21)):=by kernel_rfl
theorem Qjx (n : Nat) (x1 : Int) (x2 : Int) (x3 : Bool) : Js (n + 1) x1 x2 x3 =
  bif x3 then
   some 1
  else
   bif decide (x2 = 10) then
    some 3
   else
    bif decide ((8 : Int) ≤ x1) then
     bif decide (x1 ≤ 19) then
      some 2
     else
      some (-1)
    else
     some (-1):=by kernel_rfl
theorem Y9 {x1 : Int} {x3 : Bool} {r : Int} (h : ZS x1 x3 = some r) : Ev (fun n=>Js n x1 x1 x3) r:=by
 rw [ZS] at h
 refine Ev.step ?_ (fun n=>Qjx n x1 x1 x3)
 exact (Ev.ofBif h (fun h=>(Ev.ofSome h)) (fun h=>(Ev.ofBif h (fun h=>(Ev.ofSome h)) (fun h=>(Ev.ofBif h (fun h=>(Ev.ofBif h (fun h=>(Ev.ofSome h)) (fun h=>(Ev.ofSome h)))) (fun h=>(Ev.ofSome h)))))))
theorem Qft {x1 : Int} {x3 : Bool} {r : Int} (h : Gy x1 x3 = some r) : Ev (fun n=>XT n x1 x1 x3) r:=by
 rw [Gy] at h
 refine Ev.step ?_ (fun n=>Qlr n x1 x1 x3)
 exact (Ev.ofBif h (fun h=>(Ev.ofSome h)) (fun h=>(Ev.ofBif h (fun h=>(Ev.ofSome h)) (fun h=>(Ev.ofBif h (fun h=>(Y9 h)) (fun h=>(Ev.ofBif h (fun h=>(Y9 h)) (fun h=>(Ev.ofBif h (fun h=>(Y9 h)) (fun h=>(Ev.ofBif h (fun h=>(Y9 h)) (fun h=>(Ev.ofBif h (fun h=>(Y9 h)) (fun h=>(Y9 h)))))))))))))))
theorem Qzf (a0 : Int) {r : Int} (h : Gn a0 = some r) : Ev (fun n=>Qmx n a0) r:=by
 rw [Gn] at h
 refine Ev.of_eq ?_ (fun n=>QsT n a0)
 exact (Ev.ofBif h (fun h=>(Qft h)) (fun h=>(Qft h)))
theorem QuW : ∀ x ∈ Wo,Qh Tryz.prog x:=Qk
theorem Qxk : Qh Tryz.prog (QeA):=by
 refine Qj (c:=QeA) (by kernel_rfl) (by kernel_rfl : Tryz.prog.funcs[160]? = some Tryz.f160) (code:=Tryz.f160.body.getD .skip) (by kernel_rfl) (by kernel_rfl) (by kernel_rfl) (A:=EE) (I:=Wn) (QuW) ?_
 rintro ⟨a0,u⟩ y hy
 exact (Qzf a0 hy).get
def UI  : (List (List Int)) :=
 ([([112,114,105,110,99,105,112,97,108] : List Int),([97,99,116,105,111,110] : List Int),([114,101,115,111,117,114,99,101] : List Int),([99,111,110,116,101,120,116] : List Int)] : List (List Int))
def QgD : Ctr:=⟨162,[],[(.list .str)],fun x=>some (UI)⟩
def Qo5 : List (List Nat × Ann):=[]
def Qmy : List (List Nat × Nat):=[]
def Qmz : List Ctr:=[]
def Qo6 (n : Nat)  : Option (List (List Int)):=run Tryz.prog Qo5 Qmy (Qn Qmz) Tryz.f162 (Tryz.f162.body.getD .skip) (Qp [(.list .str)]) n (Qt [] (()))
theorem QuX (n : Nat)  : Qo6 n  =
  some ([([112,114,105,110,99,105,112,97,108] : List Int),([97,99,116,105,111,110] : List Int),([114,101,115,111,117,114,99,101] : List Int),([99,111,110,116,101,120,116] : List Int)] : List (List Int)):=by kernel_rfl
theorem QBC (n : Nat)  : Qo6 n  = some (UI ):=(QuX n ).trans rfl
theorem Qxl : ∀ x ∈ Qmz,Qh Tryz.prog x:=Qk
theorem Qzg : Qh Tryz.prog (QgD):=by
 refine Qj (c:=QgD) (by kernel_rfl) (by kernel_rfl : Tryz.prog.funcs[162]? = some Tryz.f162) (code:=Tryz.f162.body.getD .skip) (by kernel_rfl) (by kernel_rfl) (by kernel_rfl) (A:=Qo5) (I:=Qmy) (Qxl) ?_
 rintro ⟨u⟩ y hy
 exact ⟨0,(QBC 0 ).trans hy⟩
def Yo (x1 : (List Int)) : List (List Int) → Option Bool
 | [] =>
   some false
 | e :: rest =>
   bif decide (e = x1) then
    some true
   else
    Yo x1 rest
def XA (a0 : (List (List Int))) (a1 : (List Int)) : Option Bool :=
 Zu a0 (Yo a1 a0)
def Qls : Ctr:=⟨161,[(.list .str),.str],[.bool],fun x=>XA x.1 x.2.1⟩
def Qlt : List (List Nat × Ann):=[([0,2],[.keep 0 1,.keep 0 7,.keep 0 8,.keep 0 9])]
def QiP : List (List Nat × Nat):=[]
def QiQ : List Ctr:=[]
def QuY (n : Nat) (a0 : (List (List Int))) (a1 : (List Int)) : Option Bool:=run Tryz.prog Qlt QiP (Qn QiQ) Tryz.f161 (Tryz.f161.body.getD .skip) (Qp [.bool]) n (Qt [(.list .str),.str] (a0,a1,()))
abbrev X7 (n : Nat) (x1 : (List Int)) (x2 : (List (List Int))) (x3 : Int) (x4 : Int) : Option Bool:=lam Tryz.prog Qlt QiP (Qn QiQ) Tryz.f161 (Tryz.f161.body.getD .skip) (Qp [.bool]) n [0,2] [.d .str x1,.d (.list .str) x2,.d I64 x3,.d I64 x4]
theorem Qzh (n : Nat) (a0 : (List (List Int))) (a1 : (List Int)) : QuY n a0 a1 =
  X7 n a1 a0 (a0.length : Int) 0:=by kernel_rfl
theorem Qfu (n : Nat) (x1 : (List Int)) (x2 : (List (List Int))) (x3 : Int) (x4 : Int) : X7 (n + 1) x1 x2 x3 x4 =
  bif decide (x4 < x3) then
   bif inB x4 x2.length then
    bif decide (rd x2 x4 (Ty.dflt .str) = x1) then
     some true
    else
     X7 n x1 x2 x3 (IntKind.wrap .i64 (x4 + 1))
   else none
  else
   some false:=by kernel_rfl
theorem Qxm {x1 : (List Int)} {x2 : (List (List Int))} (hl : x2.length ≤ maxLen) : ∀ (rest : List (List Int)) (k : Nat) (r : Bool),rest = x2.drop k → Yo x1 rest = some r → Ev (fun n=>X7 n x1 x2 (x2.length : Int) (k : Int)) r:=by
 intro rest
 induction rest with
 | nil =>
  intro k r hr h
  have hk:=QH hr
  rw [Yo] at h
  refine Ev.step ?_ (fun n=>Qfu n x1 x2 (x2.length : Int) (k : Int))
  rw [show decide ((k : Int) < (x2.length : Int)) = false from decide_eq_false (by omega)]
  exact Ev.neg rfl (Ev.ofSome h)
 | cons e rest ih =>
  intro k r hr h
  obtain ⟨hk,hx,hr2⟩:=Qz (d:=(Ty.dflt .str)) hr
  have hw:=Qy hl hk
  have ih2 : ∀ (r : Bool),Yo x1 rest = some r → Ev (fun n=>X7 n x1 x2 (x2.length : Int) (IntKind.wrap .i64 ((k : Int) + 1))) r:=by
   intro r h; rw [hw]; exact ih (k + 1) r hr2 h
  rw [Yo] at h
  refine Ev.step ?_ (fun n=>Qfu n x1 x2 (x2.length : Int) (k : Int))
  rw [show decide ((k : Int) < (x2.length : Int)) = true from decide_eq_true (by omega),Qx hk,hx]
  exact Ev.pos rfl (Ev.pos rfl (Ev.ofBif h (fun h=>(Ev.ofSome h)) (fun h=>(ih2  _ h))))
theorem QD0 (a0 : (List (List Int))) (a1 : (List Int)) {r : Bool} (h : XA a0 a1 = some r) : Ev (fun n=>QuY n a0 a1) r:=by
 rw [XA] at h
 refine Ev.of_eq ?_ (fun n=>Qzh n a0 a1)
 exact (Ev.ofLen h fun hl h=>Qxm hl _ (0 : Nat) _ rfl h)
theorem QBD : ∀ x ∈ QiQ,Qh Tryz.prog x:=Qk
theorem QCF : Qh Tryz.prog (Qls):=by
 refine Qj (c:=Qls) (by kernel_rfl) (by kernel_rfl : Tryz.prog.funcs[161]? = some Tryz.f161) (code:=Tryz.f161.body.getD .skip) (by kernel_rfl) (by kernel_rfl) (by kernel_rfl) (A:=Qlt) (I:=QiP) (QBD) ?_
 rintro ⟨a0,a1,u⟩ y hy
 exact (QD0 a0 a1 hy).get
def Ze (x1 : (List Int)) : Nat → (List Int) → Int → Option ((List Int) × Bool)
 | 0,_,_=>none
 | m + 1,x2,x3 =>
   bif decide (x3 < (x1.length : Int)) then
    bif inB x3 x1.length then
     bif decide (rd x1 x3 0 = 42) then
      bif decide (((x2.length : Int) + (([256] : List Int).length : Int)) * 8 ≤ Qv) && decide ((x2.length : Int) + (([256] : List Int).length : Int) ≤ Qv) then
       Ze x1 m (x2 ++ ([256] : List Int)) (IntKind.wrap .i64 (x3 + 1))
      else none
     else
      bif decide (rd x1 x3 0 = 92) then
       bif decide (IntKind.wrap .i64 (x3 + 1) = (x1.length : Int)) then
        some ([],false)
       else
        bif inB (IntKind.wrap .i64 (x3 + 1)) x1.length then
         bif !decide (rd x1 (IntKind.wrap .i64 (x3 + 1)) 0 = 42) then
          bif inB (IntKind.wrap .i64 (x3 + 1)) x1.length then
           bif !decide (rd x1 (IntKind.wrap .i64 (x3 + 1)) 0 = 92) then
            some ([],false)
           else
            bif inB (IntKind.wrap .i64 (x3 + 1)) x1.length then
             bif decide (((x2.length : Int) + (([IntKind.wrap .i64 (rd x1 (IntKind.wrap .i64 (x3 + 1)) 0)] : List Int).length : Int)) * 8 ≤ Qv) && decide ((x2.length : Int) + (([IntKind.wrap .i64 (rd x1 (IntKind.wrap .i64 (x3 + 1)) 0)] : List Int).length : Int) ≤ Qv) then
              Ze x1 m (x2 ++ ([IntKind.wrap .i64 (rd x1 (IntKind.wrap .i64 (x3 + 1)) 0)] : List Int)) (IntKind.wrap .i64 ((IntKind.wrap .i64 (x3 + 1)) + 1))
             else none
            else none
          else none
         else
          bif inB (IntKind.wrap .i64 (x3 + 1)) x1.length then
           bif decide (((x2.length : Int) + (([IntKind.wrap .i64 (rd x1 (IntKind.wrap .i64 (x3 + 1)) 0)] : List Int).length : Int)) * 8 ≤ Qv) && decide ((x2.length : Int) + (([IntKind.wrap .i64 (rd x1 (IntKind.wrap .i64 (x3 + 1)) 0)] : List Int).length : Int) ≤ Qv) then
            Ze x1 m (x2 ++ ([IntKind.wrap .i64 (rd x1 (IntKind.wrap .i64 (x3 + 1)) 0)] : List Int)) (IntKind.wrap .i64 ((IntKind.wrap .i64 (x3 + 1)) + 1))
           else none
          else none
        else none
      else
       bif inB x3 x1.length then
        bif decide (((x2.length : Int) + (([IntKind.wrap .i64 (rd x1 x3 0)] : List Int).length : Int)) * 8 ≤ Qv) && decide ((x2.length : Int) + (([IntKind.wrap .i64 (rd x1 x3 0)] : List Int).length : Int) ≤ Qv) then
         Ze x1 m (x2 ++ ([IntKind.wrap .i64 (rd x1 x3 0)] : List Int)) (IntKind.wrap .i64 (x3 + 1))
        else none
       else none
    else none
   else
    some (x2,true)
def QeB (m : Nat) (a0 : (List Int)) : Option ((List Int) × Bool) :=
 Ze a0 m [] 0
def EF (a0 : (List Int)) : Option ((List Int) × Bool):=Qcw fun m=>QeB m a0
def QeC : Ctr:=⟨163,[.str],[(.list I64),.bool],fun x=>EF x.1⟩
def QeD : List (List Nat × Ann):=[([0,3],[.keep 0 0,.own 0 4 I64,.keep 0 5])]
def Qc2 : List (List Nat × Nat):=[]
def Qc3 : List Ctr:=[]
def QmA (n : Nat) (a0 : (List Int)) : Option ((List Int) × Bool):=run Tryz.prog QeD Qc2 (Qn Qc3) Tryz.f163 (Tryz.f163.body.getD .skip) (Qp [(.list I64),.bool]) n (Qt [.str] (a0,()))
abbrev Yx (n : Nat) (x1 : (List Int)) (x2 : (List Int)) (x3 : Int) : Option ((List Int) × Bool):=lam Tryz.prog QeD Qc2 (Qn Qc3) Tryz.f163 (Tryz.f163.body.getD .skip) (Qp [(.list I64),.bool]) n [0,3] [.d .str x1,.own 0 I64 x2,.d I64 x3]
theorem QsU (n : Nat) (a0 : (List Int)) : QmA n a0 =
  Yx n a0 [] 0:=by kernel_rfl
theorem Qlu (n : Nat) (x1 : (List Int)) (x2 : (List Int)) (x3 : Int) : Yx (n + 1) x1 x2 x3 =
  bif decide (x3 < (x1.length : Int)) then
   bif inB x3 x1.length then
    bif decide (rd x1 x3 0 = 42) then
     bif decide (((x2.length : Int) + (([256] : List Int).length : Int)) * 8 ≤ Qv) && decide ((x2.length : Int) + (([256] : List Int).length : Int) ≤ Qv) then
      Yx n x1 (x2 ++ ([256] : List Int)) (IntKind.wrap .i64 (x3 + 1))
     else none
    else
     bif decide (rd x1 x3 0 = 92) then
      bif decide (IntKind.wrap .i64 (x3 + 1) = (x1.length : Int)) then
       some ([],false)
      else
       bif inB (IntKind.wrap .i64 (x3 + 1)) x1.length then
        bif !decide (rd x1 (IntKind.wrap .i64 (x3 + 1)) 0 = 42) then
         bif inB (IntKind.wrap .i64 (x3 + 1)) x1.length then
          bif !decide (rd x1 (IntKind.wrap .i64 (x3 + 1)) 0 = 92) then
           some ([],false)
          else
           bif inB (IntKind.wrap .i64 (x3 + 1)) x1.length then
            bif decide (((x2.length : Int) + (([IntKind.wrap .i64 (rd x1 (IntKind.wrap .i64 (x3 + 1)) 0)] : List Int).length : Int)) * 8 ≤ Qv) && decide ((x2.length : Int) + (([IntKind.wrap .i64 (rd x1 (IntKind.wrap .i64 (x3 + 1)) 0)] : List Int).length : Int) ≤ Qv) then
             Yx n x1 (x2 ++ ([IntKind.wrap .i64 (rd x1 (IntKind.wrap .i64 (x3 + 1)) 0)] : List Int)) (IntKind.wrap .i64 ((IntKind.wrap .i64 (x3 + 1)) + 1))
            else none
           else none
         else none
        else
         bif inB (IntKind.wrap .i64 (x3 + 1)) x1.length then
          bif decide (((x2.length : Int) + (([IntKind.wrap .i64 (rd x1 (IntKind.wrap .i64 (x3 + 1)) 0)] : List Int).length : Int)) * 8 ≤ Qv) && decide ((x2.length : Int) + (([IntKind.wrap .i64 (rd x1 (IntKind.wrap .i64 (x3 + 1)) 0)] : List Int).length : Int) ≤ Qv) then
           Yx n x1 (x2 ++ ([IntKind.wrap .i64 (rd x1 (IntKind.wrap .i64 (x3 + 1)) 0)] : List Int)) (IntKind.wrap .i64 ((IntKind.wrap .i64 (x3 + 1)) + 1))
          else none
         else none
       else none
     else
      bif inB x3 x1.length then
       bif decide (((x2.length : Int) + (([IntKind.wrap .i64 (rd x1 x3 0)] : List Int).length : Int)) * 8 ≤ Qv) && decide ((x2.length : Int) + (([IntKind.wrap .i64 (rd x1 x3 0)] : List Int).length : Int) ≤ Qv) then
        Yx n x1 (x2 ++ ([IntKind.wrap .i64 (rd x1 x3 0)] : List Int)) (IntKind.wrap .i64 (x3 + 1))
       else none
      else none
   else none
  else
   some (x2,true):=by kernel_rfl
theorem QqL {x1 : (List Int)} : ∀ (m : Nat) (x2 : (List Int)) (x3 : Int) (r : ((List Int) × Bool)),Ze x1 m x2 x3 = some r → Ev (fun n=>Yx n x1 x2 x3) r:=by
 intro m
 induction m with
 | zero=>intro x2 x3 r h; rw [Ze] at h; exact Ev.ofNone h
 | succ m ih2 =>
  intro x2 x3 r h
  rw [Ze] at h
  refine Ev.step ?_ (fun n=>Qlu n x1 x2 x3)
  exact (Ev.ofBif h (fun h=>(Ev.ofBif h (fun h=>(Ev.ofBif h (fun h=>(Ev.ofBif h (fun h=>(ih2 _ _ _ h)) (fun h=>(Ev.ofNone h)))) (fun h=>(Ev.ofBif h (fun h=>(Ev.ofBif h (fun h=>(Ev.ofSome h)) (fun h=>(Ev.ofBif h (fun h=>(Ev.ofBif h (fun h=>(Ev.ofBif h (fun h=>(Ev.ofBif h (fun h=>(Ev.ofSome h)) (fun h=>(Ev.ofBif h (fun h=>(Ev.ofBif h (fun h=>(ih2 _ _ _ h)) (fun h=>(Ev.ofNone h)))) (fun h=>(Ev.ofNone h)))))) (fun h=>(Ev.ofNone h)))) (fun h=>(Ev.ofBif h (fun h=>(Ev.ofBif h (fun h=>(ih2 _ _ _ h)) (fun h=>(Ev.ofNone h)))) (fun h=>(Ev.ofNone h)))))) (fun h=>(Ev.ofNone h)))))) (fun h=>(Ev.ofBif h (fun h=>(Ev.ofBif h (fun h=>(ih2 _ _ _ h)) (fun h=>(Ev.ofNone h)))) (fun h=>(Ev.ofNone h)))))))) (fun h=>(Ev.ofNone h)))) (fun h=>(Ev.ofSome h)))
theorem Qzi {m : Nat} (a0 : (List Int)) {r : ((List Int) × Bool)} (h : QeB m a0 = some r) : Ev (fun n=>QmA n a0) r:=by
 rw [QeB] at h
 refine Ev.of_eq ?_ (fun n=>QsU n a0)
 exact (QqL _ _ _ _ h)
theorem QuZ : ∀ x ∈ Qc3,Qh Tryz.prog x:=Qk
theorem Qxn : Qh Tryz.prog (QeC):=by
 refine Qj (c:=QeC) (by kernel_rfl) (by kernel_rfl : Tryz.prog.funcs[163]? = some Tryz.f163) (code:=Tryz.f163.body.getD .skip) (by kernel_rfl) (by kernel_rfl) (by kernel_rfl) (A:=QeD) (I:=Qc2) (QuZ) ?_
 rintro ⟨a0,u⟩ y hy
 exact let ⟨_,h⟩:=(GL hy).get; (Qzi a0 h).get
def QF (Rc : QA → Option Bool) (x5 : Qr) : List QA → Bool → Option Bool
 | [],x1 =>
   some x1
 | e :: rest,x1 =>
   bif x1 then
    Option.bind (Rc (Tree.node ((e).val) ((e).kids))) fun (y3 : Bool) =>
    bif y3 then
     bif !decide (x5.1 = 2) then
      QF Rc x5 rest true
     else
      QF Rc x5 rest (decide (((e).val).1 = 1))
    else
     QF Rc x5 rest false
   else
    QF Rc x5 rest false
def Va (Rc : QA → Option Bool) (x1 : Bool) (x2 : Int) (x3 : Bool) (x4 : QA) (x5 : Qr) : Option Bool :=
 bif x3 then
  Option.bind (Zn x5.2.1) fun (y5 : Bool) =>
  Zu x4.kids (QF Rc x5 x4.kids y5)
 else
  bif decide (x2 = 20) then
   Option.bind (EF x5.2.1) fun (y6 : ((List Int) × Bool)) =>
   bif y6.2 then
    bif decide ((x5.2.1.length : Int) ≤ 200) then
     Option.bind (Je x5.2.1) fun (y7 : Bool) =>
     Zu x4.kids (QF Rc x5 x4.kids y7)
    else
     Zu x4.kids (QF Rc x5 x4.kids false)
   else
    Zu x4.kids (QF Rc x5 x4.kids false)
  else
   Zu x4.kids (QF Rc x5 x4.kids x1)
def Yy (Rc : QA → Option Bool) (x1 : QA) (x2 : Qr) : Option Bool :=
 bif decide (x2.1 = 1) then
  bif decide (x2.2.1 = ([] : List Int)) then
   Option.bind (Zo x2.2.2.1) fun (y2 : Bool) =>
   Zu x1.kids (QF Rc x2 x1.kids y2)
  else
   Zu x1.kids (QF Rc x2 x1.kids false)
 else
  bif decide (x2.1 = 3) then
   Option.bind (XA UI x2.2.1) fun (y4 : Bool) =>
   Zu x1.kids (QF Rc x2 x1.kids y4)
  else
   bif decide (x2.1 = 4) then
    Va Rc (decide (x2.2.1 = ([] : List Int))) x2.1 (decide (x2.1 = 4)) (Tree.node x1.val x1.kids) x2
   else
    bif decide (x2.1 = 5) then
     Va Rc (decide (x2.2.1 = ([] : List Int))) x2.1 (decide (x2.1 = 5)) (Tree.node x1.val x1.kids) x2
    else
     Va Rc (decide (x2.2.1 = ([] : List Int))) x2.1 (decide (x2.1 = 21)) (Tree.node x1.val x1.kids) x2
def Xj (Rc : QA → Option Bool) (a0 : QA) : Option Bool :=
 Option.bind (Gn a0.val.1) fun (y1 : Int) =>
 bif decide (y1 = (-1)) then
  some false
 else
  bif decide ((0 : Int) ≤ y1) then
   bif !decide ((a0.kids.length : Int) = y1) then
    some false
   else
    bif !decide (a0.val.1 = 1) then
     bif !@decide (a0.val.2.2.1 = (0,0,([] : List Int),([] : List Int))) (Ty.decEq Qa a0.val.2.2.1 (0,0,([] : List Int),([] : List Int))) then
      some false
     else
      Yy Rc (Tree.node a0.val a0.kids) a0.val
    else
     Yy Rc (Tree.node a0.val a0.kids) a0.val
  else
   bif !decide (a0.val.1 = 1) then
    bif !@decide (a0.val.2.2.1 = (0,0,([] : List Int),([] : List Int))) (Ty.decEq Qa a0.val.2.2.1 (0,0,([] : List Int),([] : List Int))) then
     some false
    else
     Yy Rc (Tree.node a0.val a0.kids) a0.val
   else
    Yy Rc (Tree.node a0.val a0.kids) a0.val
def Xk : Nat → QA → Option Bool
 | 0=>fun _=>none
 | d + 1=>fun a0=>Xj (Xk d) a0
def EG (a0 : QA) : Option Bool:=Qcw fun d=>Xk d a0
def QmB : Ctr:=⟨158,[Vm],[.bool],fun x=>EG x.1⟩
def HQ : List (List Nat × Ann):=[([1,5],[.keep 0 1,.keep 0 3,.boxd 0 1 Vm,.boxd 0 3 Qo]),([0,19],[.keep 0 3,.keep 0 5,.keep 0 86,.keep 0 87,.keep 0 88,.boxd 0 3 Qo]),([1,14],[.keep 0 1,.keep 0 3,.keep 0 5,.keep 0 43,.keep 0 58,.boxd 0 1 Vm,.boxd 0 3 Qo])]
def X8 : List (List Nat × Nat):=[]
def X9 (Rc : QA → Option Bool) : List Ctr:=[QeA,Xi,⟨158,[Vm],[.bool],fun x=>Rc x.1⟩,QgD,Qls,Gm,QeC,Wi]
def QmC (Rc : QA → Option Bool) (n : Nat) (a0 : QA) : Option Bool:=run Tryz.prog HQ X8 (Qn (X9 Rc)) Tryz.f158 (Tryz.f158.body.getD .skip) (Qp [.bool]) n (Qt [Vm] (a0,()))
abbrev Vz (Rc : QA → Option Bool) (n : Nat) (x1 : QA) (x2 : Qr) : Option Bool:=lam Tryz.prog HQ X8 (Qn (X9 Rc)) Tryz.f158 (Tryz.f158.body.getD .skip) (Qp [.bool]) n [1,5] [.ptr 0 1 0,.ptr 0 3 0,.agg (Qq Vm x1),.agg (Qq Qo x2)]
abbrev QQ (Rc : QA → Option Bool) (n : Nat) (x1 : Bool) (x2 : (List QA)) (x3 : Int) (x4 : Int) (x5 : Qr) : Option Bool:=lam Tryz.prog HQ X8 (Qn (X9 Rc)) Tryz.f158 (Tryz.f158.body.getD .skip) (Qp [.bool]) n [0,19] [.ptr 0 3 0,.d .bool x1,.d (.list Vm) x2,.d I64 x3,.d I64 x4,.agg (Qq Qo x5)]
abbrev V9 (Rc : QA → Option Bool) (n : Nat) (x1 : Bool) (x2 : Int) (x3 : Bool) (x4 : QA) (x5 : Qr) : Option Bool:=lam Tryz.prog HQ X8 (Qn (X9 Rc)) Tryz.f158 (Tryz.f158.body.getD .skip) (Qp [.bool]) n [1,14] [.ptr 0 1 0,.ptr 0 3 0,.d .bool x1,.d I64 x2,.d .bool x3,.agg (Qq Vm x4),.agg (Qq Qo x5)]
theorem QsV (Rc : QA → Option Bool) (n : Nat) (a0 : QA) : QmC Rc n a0 =
  Option.bind (Gn a0.val.1) fun (y1 : Int) =>
  bif decide (y1 = (-1)) then
   some false
  else
   bif decide ((0 : Int) ≤ y1) then
    bif !decide ((a0.kids.length : Int) = y1) then
     some false
    else
     bif !decide (a0.val.1 = 1) then
      bif !@decide (a0.val.2.2.1 = (0,0,([] : List Int),([] : List Int))) (Ty.decEq Qa a0.val.2.2.1 (0,0,([] : List Int),([] : List Int))) then
       some false
      else
       Vz Rc n (Tree.node a0.val a0.kids) a0.val
     else
      Vz Rc n (Tree.node a0.val a0.kids) a0.val
   else
    bif !decide (a0.val.1 = 1) then
     bif !@decide (a0.val.2.2.1 = (0,0,([] : List Int),([] : List Int))) (Ty.decEq Qa a0.val.2.2.1 (0,0,([] : List Int),([] : List Int))) then
      some false
     else
      Vz Rc n (Tree.node a0.val a0.kids) a0.val
    else
     Vz Rc n (Tree.node a0.val a0.kids) a0.val:=by kernel_rfl
theorem Qlv (Rc : QA → Option Bool) (n : Nat) (x1 : QA) (x2 : Qr) : Vz Rc (n + 1) x1 x2 =
  bif decide (x2.1 = 1) then
   bif decide (x2.2.1 = ([] : List Int)) then
    Option.bind (Zo x2.2.2.1) fun (y2 : Bool) =>
    QQ Rc n y2 x1.kids (x1.kids.length : Int) 0 x2
   else
    QQ Rc n false x1.kids (x1.kids.length : Int) 0 x2
  else
   bif decide (x2.1 = 3) then
    Option.bind (XA UI x2.2.1) fun (y4 : Bool) =>
    QQ Rc n y4 x1.kids (x1.kids.length : Int) 0 x2
   else
    bif decide (x2.1 = 4) then
     V9 Rc n (decide (x2.2.1 = ([] : List Int))) x2.1 (decide (x2.1 = 4)) (Tree.node x1.val x1.kids) x2
    else
     bif decide (x2.1 = 5) then
      V9 Rc n (decide (x2.2.1 = ([] : List Int))) x2.1 (decide (x2.1 = 5)) (Tree.node x1.val x1.kids) x2
     else
      V9 Rc n (decide (x2.2.1 = ([] : List Int))) x2.1 (decide (x2.1 = 21)) (Tree.node x1.val x1.kids) x2:=by kernel_rfl
theorem QaS (Rc : QA → Option Bool) (n : Nat) (x1 : Bool) (x2 : (List QA)) (x3 : Int) (x4 : Int) (x5 : Qr) : QQ Rc (n + 1) x1 x2 x3 x4 x5 =
  bif decide (x4 < x3) then
   bif inB x4 x2.length then
    bif x1 then
     Option.bind (Rc (Tree.node ((rd x2 x4 (Ty.dflt Vm)).val) ((rd x2 x4 (Ty.dflt Vm)).kids))) fun (y3 : Bool) =>
     bif y3 then
      bif !decide (x5.1 = 2) then
       QQ Rc n true x2 x3 (IntKind.wrap .i64 (x4 + 1)) x5
      else
       QQ Rc n (decide (((rd x2 x4 (Ty.dflt Vm)).val).1 = 1)) x2 x3 (IntKind.wrap .i64 (x4 + 1)) x5
     else
      QQ Rc n false x2 x3 (IntKind.wrap .i64 (x4 + 1)) x5
    else
     QQ Rc n false x2 x3 (IntKind.wrap .i64 (x4 + 1)) x5
   else none
  else
   some x1:=by kernel_rfl
theorem Qjy (Rc : QA → Option Bool) (n : Nat) (x1 : Bool) (x2 : Int) (x3 : Bool) (x4 : QA) (x5 : Qr) : V9 Rc (n + 1) x1 x2 x3 x4 x5 =
  bif x3 then
   Option.bind (Zn x5.2.1) fun (y5 : Bool) =>
   QQ Rc n y5 x4.kids (x4.kids.length : Int) 0 x5
  else
   bif decide (x2 = 20) then
    Option.bind (EF x5.2.1) fun (y6 : ((List Int) × Bool)) =>
    bif y6.2 then
     bif decide ((x5.2.1.length : Int) ≤ 200) then
      Option.bind (Je x5.2.1) fun (y7 : Bool) =>
      QQ Rc n y7 x4.kids (x4.kids.length : Int) 0 x5
     else
      QQ Rc n false x4.kids (x4.kids.length : Int) 0 x5
    else
     QQ Rc n false x4.kids (x4.kids.length : Int) 0 x5
   else
    QQ Rc n x1 x4.kids (x4.kids.length : Int) 0 x5:=by kernel_rfl
theorem Jt {Rc : QA → Option Bool} {x2 : (List QA)} {x5 : Qr} (hl : x2.length ≤ maxLen) : ∀ (rest : List QA) (k : Nat) (x1 : Bool) (r : Bool),rest = x2.drop k → QF Rc x5 rest x1 = some r → Ev (fun n=>QQ Rc n x1 x2 (x2.length : Int) (k : Int) x5) r:=by
 intro rest
 induction rest with
 | nil =>
  intro k x1 r hr h
  have hk:=QH hr
  rw [QF] at h
  refine Ev.step ?_ (fun n=>QaS Rc n x1 x2 (x2.length : Int) (k : Int) x5)
  rw [show decide ((k : Int) < (x2.length : Int)) = false from decide_eq_false (by omega)]
  exact Ev.neg rfl (Ev.ofSome h)
 | cons e rest ih =>
  intro k x1 r hr h
  obtain ⟨hk,hx,hr2⟩:=Qz (d:=(Ty.dflt Vm)) hr
  have hw:=Qy hl hk
  have ih2 : ∀ (z1 : Bool) (r : Bool),QF Rc x5 rest z1 = some r → Ev (fun n=>QQ Rc n z1 x2 (x2.length : Int) (IntKind.wrap .i64 ((k : Int) + 1)) x5) r:=by
   intro z1 r h; rw [hw]; exact ih (k + 1) z1 r hr2 h
  rw [QF] at h
  refine Ev.step ?_ (fun n=>QaS Rc n x1 x2 (x2.length : Int) (k : Int) x5)
  rw [show decide ((k : Int) < (x2.length : Int)) = true from decide_eq_true (by omega),Qx hk,hx]
  exact Ev.pos rfl (Ev.pos rfl (Ev.ofBif h (fun h=>(Ev.ofBind h fun y3 h=>(Ev.ofBif h (fun h=>(Ev.ofBif h (fun h=>(ih2 _ _ h)) (fun h=>(ih2 _ _ h)))) (fun h=>(ih2 _ _ h))))) (fun h=>(ih2 _ _ h))))
theorem UJ {Rc : QA → Option Bool} {x1 : Bool} {x2 : Int} {x3 : Bool} {x4 : QA} {x5 : Qr} {r : Bool} (h : Va Rc x1 x2 x3 x4 x5 = some r) : Ev (fun n=>V9 Rc n x1 x2 x3 x4 x5) r:=by
 rw [Va] at h
 refine Ev.step ?_ (fun n=>Qjy Rc n x1 x2 x3 x4 x5)
 exact (Ev.ofBif h (fun h=>(Ev.ofBind h fun y5 h=>(Ev.ofLen h fun hl h=>Jt hl _ (0 : Nat) _ _ rfl h))) (fun h=>(Ev.ofBif h (fun h=>(Ev.ofBind h fun y6 h=>(Ev.ofBif h (fun h=>(Ev.ofBif h (fun h=>(Ev.ofBind h fun y7 h=>(Ev.ofLen h fun hl h=>Jt hl _ (0 : Nat) _ _ rfl h))) (fun h=>(Ev.ofLen h fun hl h=>Jt hl _ (0 : Nat) _ _ rfl h)))) (fun h=>(Ev.ofLen h fun hl h=>Jt hl _ (0 : Nat) _ _ rfl h))))) (fun h=>(Ev.ofLen h fun hl h=>Jt hl _ (0 : Nat) _ _ rfl h)))))
theorem XU {Rc : QA → Option Bool} {x1 : QA} {x2 : Qr} {r : Bool} (h : Yy Rc x1 x2 = some r) : Ev (fun n=>Vz Rc n x1 x2) r:=by
 rw [Yy] at h
 refine Ev.step ?_ (fun n=>Qlv Rc n x1 x2)
 exact (Ev.ofBif h (fun h=>(Ev.ofBif h (fun h=>(Ev.ofBind h fun y2 h=>(Ev.ofLen h fun hl h=>Jt hl _ (0 : Nat) _ _ rfl h))) (fun h=>(Ev.ofLen h fun hl h=>Jt hl _ (0 : Nat) _ _ rfl h)))) (fun h=>(Ev.ofBif h (fun h=>(Ev.ofBind h fun y4 h=>(Ev.ofLen h fun hl h=>Jt hl _ (0 : Nat) _ _ rfl h))) (fun h=>(Ev.ofBif h (fun h=>(UJ h)) (fun h=>(Ev.ofBif h (fun h=>(UJ h)) (fun h=>(UJ h)))))))))
theorem Qzj {Rc : QA → Option Bool} (a0 : QA) {r : Bool} (h : Xj Rc a0 = some r) : Ev (fun n=>QmC Rc n a0) r:=by
 rw [Xj] at h
 refine Ev.of_eq ?_ (fun n=>QsV Rc n a0)
 exact (Ev.ofBind h fun y1 h=>(Ev.ofBif h (fun h=>(Ev.ofSome h)) (fun h=>(Ev.ofBif h (fun h=>(Ev.ofBif h (fun h=>(Ev.ofSome h)) (fun h=>(Ev.ofBif h (fun h=>(Ev.ofBif h (fun h=>(Ev.ofSome h)) (fun h=>(XU h)))) (fun h=>(XU h)))))) (fun h=>(Ev.ofBif h (fun h=>(Ev.ofBif h (fun h=>(Ev.ofSome h)) (fun h=>(XU h)))) (fun h=>(XU h))))))))
theorem Qu0 : ∀ d,Qh Tryz.prog (⟨158,[Vm],[.bool],fun x=>Xk d x.1⟩ : Ctr):=by
 intro d
 induction d with
 | zero=>intro xs y hy; exact (nomatch (show (none : Option Bool) = some y from hy))
 | succ d ih =>
  refine Qj (by kernel_rfl) (by kernel_rfl : Tryz.prog.funcs[158]? = some Tryz.f158) (code:=Tryz.f158.body.getD .skip) (by kernel_rfl) (by kernel_rfl) (by kernel_rfl) (A:=HQ) (I:=X8) (cs:=X9 (Xk d)) (Qd Qxk (Qd Wl (Qd ih (Qd Qzg (Qd QCF (Qd X5 (Qd Qxn (Qd Qh1 Qk)))))))) ?_
  rintro ⟨a0,u⟩ y hy
  exact (Qzj a0 hy).get
theorem Qxo : Qh Tryz.prog (QmB):=by
 rintro ⟨a0,u⟩ y hy
 obtain ⟨d,hd⟩:=(GL hy).get
 exact Qu0 d (a0,u) y hd
def HG (x1 : (List Qr)) : Option (QA × Bool) :=
 Option.bind (Qbm x1 0 1) fun (y1 : (QA × Int)) =>
 bif decide (y1.2 = (x1.length : Int)) then
  Option.bind (EG (Tree.node y1.1.val y1.1.kids)) fun (y2 : Bool) =>
  some ((Tree.node y1.1.val y1.1.kids),y2)
 else
  some ((Tree.node y1.1.val y1.1.kids),false)
def G0 (a0 : (List Qr)) : Option (QA × Bool) :=
 bif decide ((a0.length : Int) < 1) then
  some ((Tree.node (0,([] : List Int),(0,0,([] : List Int),([] : List Int)),0) ([])),false)
 else
  bif decide ((60 : Int) < (a0.length : Int)) then
   some ((Tree.node (0,([] : List Int),(0,0,([] : List Int),([] : List Int)),0) ([])),false)
  else
   HG a0
def QgE : Ctr:=⟨149,[(.list Qo)],[Vm,.bool],fun x=>G0 x.1⟩
def QgF : List (List Nat × Ann):=[([1,3],[.keep 0 0,.keep 0 2,.boxd 0 2 Vm])]
def QeE : List (List Nat × Nat):=[]
def QeF : List Ctr:=[Qo3,QmB]
def Qo7 (n : Nat) (a0 : (List Qr)) : Option (QA × Bool):=run Tryz.prog QgF QeE (Qn QeF) Tryz.f149 (Tryz.f149.body.getD .skip) (Qp [Vm,.bool]) n (Qt [(.list Qo)] (a0,()))
abbrev E9 (n : Nat) (x1 : (List Qr)) (x2 : QA) : Option (QA × Bool):=lam Tryz.prog QgF QeE (Qn QeF) Tryz.f149 (Tryz.f149.body.getD .skip) (Qp [Vm,.bool]) n [1,3] [.d (.list Qo) x1,.ptr 0 2 0,.agg (Qq Vm x2)]
theorem Qu1 (n : Nat) (a0 : (List Qr)) : Qo7 n a0 =
  bif decide ((a0.length : Int) < 1) then
   some ((Tree.node (0,([] : List Int),(0,0,([] : List Int),([] : List Int)),0) ([])),false)
  else
   bif decide ((60 : Int) < (a0.length : Int)) then
    some ((Tree.node (0,([] : List Int),(0,0,([] : List Int),([] : List Int)),0) ([])),false)
   else
    E9 n a0 (Tree.node (0,([] : List Int),(0,0,([] : List Int),([] : List Int)),0) ([])):=by kernel_rfl
theorem QnE (n : Nat) (x1 : (List Qr)) (x2 : QA) : E9 (n + 1) x1 x2 =
  Option.bind (Qbm x1 0 1) fun (y1 : (QA × Int)) =>
  bif decide (y1.2 = (x1.length : Int)) then
   Option.bind (EG (Tree.node y1.1.val y1.1.kids)) fun (y2 : Bool) =>
   some ((Tree.node y1.1.val y1.1.kids),y2)
  else
   some ((Tree.node y1.1.val y1.1.kids),false):=by kernel_rfl
theorem QsW {x1 : (List Qr)} {x2 : QA} {r : (QA × Bool)} (h : HG x1 = some r) : Ev (fun n=>E9 n x1 x2) r:=by
 rw [HG] at h
 refine Ev.step ?_ (fun n=>QnE n x1 x2)
 exact (Ev.ofBind h fun y1 h=>(Ev.ofBif h (fun h=>(Ev.ofBind h fun y2 h=>(Ev.ofSome h))) (fun h=>(Ev.ofSome h))))
theorem QBE (a0 : (List Qr)) {r : (QA × Bool)} (h : G0 a0 = some r) : Ev (fun n=>Qo7 n a0) r:=by
 rw [G0] at h
 refine Ev.of_eq ?_ (fun n=>Qu1 n a0)
 exact (Ev.ofBif h (fun h=>(Ev.ofSome h)) (fun h=>(Ev.ofBif h (fun h=>(Ev.ofSome h)) (fun h=>(QsW h)))))
theorem Qxp : ∀ x ∈ QeF,Qh Tryz.prog x:=(Qd Qze (Qd Qxo Qk))
theorem Qzk : Qh Tryz.prog (QgE):=by
 refine Qj (c:=QgE) (by kernel_rfl) (by kernel_rfl : Tryz.prog.funcs[149]? = some Tryz.f149) (code:=Tryz.f149.body.getD .skip) (by kernel_rfl) (by kernel_rfl) (by kernel_rfl) (A:=QgF) (I:=QeE) (Qxp) ?_
 rintro ⟨a0,u⟩ y hy
 exact (QBE a0 hy).get
def Gp (a0 : (List Qr)) : Option Bool :=
 Option.bind (G0 a0) fun (y1 : (QA × Bool)) =>
 some y1.2
def QeG : Ctr:=⟨127,[(.list Qo)],[.bool],fun x=>Gp x.1⟩
def QmD : List (List Nat × Ann):=[]
def Qjz : List (List Nat × Nat):=[]
def QjA : List Ctr:=[QgE]
def QmE (n : Nat) (a0 : (List Qr)) : Option Bool:=run Tryz.prog QmD Qjz (Qn QjA) Tryz.f127 (Tryz.f127.body.getD .skip) (Qp [.bool]) n (Qt [(.list Qo)] (a0,()))
theorem QsX (n : Nat) (a0 : (List Qr)) : QmE n a0 =
  Option.bind (G0 a0) fun (y1 : (QA × Bool)) =>
  some y1.2:=by kernel_rfl
theorem Qzl (a0 : (List Qr)) {r : Bool} (h : Gp a0 = some r) : Ev (fun n=>QmE n a0) r:=by
 rw [Gp] at h
 refine Ev.of_eq ?_ (fun n=>QsX n a0)
 exact (Ev.ofBind h fun y1 h=>(Ev.ofSome h))
theorem Qu2 : ∀ x ∈ QjA,Qh Tryz.prog x:=(Qd Qzk Qk)
theorem Qxq : Qh Tryz.prog (QeG):=by
 refine Qj (c:=QeG) (by kernel_rfl) (by kernel_rfl : Tryz.prog.funcs[127]? = some Tryz.f127) (code:=Tryz.f127.body.getD .skip) (by kernel_rfl) (by kernel_rfl) (by kernel_rfl) (A:=QmD) (I:=Qjz) (Qu2) ?_
 rintro ⟨a0,u⟩ y hy
 exact (Qzl a0 hy).get
def Vp (a0 : Qi) : Option Bool :=
 Option.bind (UG a0.1) fun (y1 : Bool) =>
 bif y1 then
  Option.bind (Zc a0.2.2.1 true) fun (y2 : Bool) =>
  bif y2 then
   Option.bind (Zc a0.2.2.2.1 false) fun (y3 : Bool) =>
   bif y3 then
    Option.bind (Zc a0.2.2.2.2.1 true) fun (y4 : Bool) =>
    bif y4 then
     bif decide ((a0.2.2.2.2.2.length : Int) = 0) then
      some true
     else
      Option.bind (Gp a0.2.2.2.2.2) fun (y5 : Bool) =>
      some y5
    else
     some false
   else
    some false
  else
   some false
 else
  some false
def Qbn : Ctr:=⟨98,[Qg],[.bool],fun x=>Vp x.1⟩
def Qh4 : List (List Nat × Ann):=[]
def QgG : List (List Nat × Nat):=[]
def QgH : List Ctr:=[Qo0,E7,QeG]
def Qh5 (n : Nat) (a0 : Qi) : Option Bool:=run Tryz.prog Qh4 QgG (Qn QgH) Tryz.f98 (Tryz.f98.body.getD .skip) (Qp [.bool]) n (Qt [Qg] (a0,()))
theorem Qo8 (n : Nat) (a0 : Qi) : Qh5 n a0 =
  Option.bind (UG a0.1) fun (y1 : Bool) =>
  bif y1 then
   Option.bind (Zc a0.2.2.1 true) fun (y2 : Bool) =>
   bif y2 then
    Option.bind (Zc a0.2.2.2.1 false) fun (y3 : Bool) =>
    bif y3 then
     Option.bind (Zc a0.2.2.2.2.1 true) fun (y4 : Bool) =>
     bif y4 then
      bif decide ((a0.2.2.2.2.2.length : Int) = 0) then
       some true
      else
       Option.bind (Gp a0.2.2.2.2.2) fun (y5 : Bool) =>
       some y5
     else
      some false
    else
     some false
   else
    some false
  else
   some false:=by kernel_rfl
theorem Qu3 (a0 : Qi) {r : Bool} (h : Vp a0 = some r) : Ev (fun n=>Qh5 n a0) r:=by
 rw [Vp] at h
 refine Ev.of_eq ?_ (fun n=>Qo8 n a0)
 exact (Ev.ofBind h fun y1 h=>(Ev.ofBif h (fun h=>(Ev.ofBind h fun y2 h=>(Ev.ofBif h (fun h=>(Ev.ofBind h fun y3 h=>(Ev.ofBif h (fun h=>(Ev.ofBind h fun y4 h=>(Ev.ofBif h (fun h=>(Ev.ofBif h (fun h=>(Ev.ofSome h)) (fun h=>(Ev.ofBind h fun y5 h=>(Ev.ofSome h))))) (fun h=>(Ev.ofSome h))))) (fun h=>(Ev.ofSome h))))) (fun h=>(Ev.ofSome h))))) (fun h=>(Ev.ofSome h))))
theorem QqM : ∀ x ∈ QgH,Qh Tryz.prog x:=(Qd QDZ (Qd QqK (Qd Qxq Qk)))
theorem QsY : Qh Tryz.prog (Qbn):=by
 refine Qj (c:=Qbn) (by kernel_rfl) (by kernel_rfl : Tryz.prog.funcs[98]? = some Tryz.f98) (code:=Tryz.f98.body.getD .skip) (by kernel_rfl) (by kernel_rfl) (by kernel_rfl) (A:=Qh4) (I:=QgG) (QqM) ?_
 rintro ⟨a0,u⟩ y hy
 exact (Qu3 a0 hy).get
def Zv (x1 : (List Qi)) : List Qi → Nat → Option Bool
 | [],k =>
   some (decide ((x1.length : Int) ≤ 40))
 | e :: rest,k =>
   bif decide ((0 : Int) < (k : Int)) then
    bif inB (IntKind.wrap .i64 ((k : Int) - 1)) x1.length then
     Option.bind (Zb ((rd x1 (IntKind.wrap .i64 ((k : Int) - 1)) (Ty.dflt Qg)).1) ((e).1)) fun (y1 : Int) =>
     bif decide ((0 : Int) ≤ y1) then
      some false
     else
      Zv x1 rest (k + 1)
    else none
   else
    Zv x1 rest (k + 1)
def GN (a0 : (List Qi)) : Option Bool :=
 Zu a0 (Zv a0 a0 0)
def Qc4 : Ctr:=⟨99,[(.list Qg)],[.bool],fun x=>GN x.1⟩
def Qc5 : List (List Nat × Ann):=[([0,2],[.keep 0 0,.keep 0 5,.keep 0 6])]
def Qbo : List (List Nat × Nat):=[]
def Qbp : List Ctr:=[GM]
def QjB (n : Nat) (a0 : (List Qi)) : Option Bool:=run Tryz.prog Qc5 Qbo (Qn Qbp) Tryz.f99 (Tryz.f99.body.getD .skip) (Qp [.bool]) n (Qt [(.list Qg)] (a0,()))
abbrev Vb (n : Nat) (x1 : (List Qi)) (x2 : Int) (x3 : Int) : Option Bool:=lam Tryz.prog Qc5 Qbo (Qn Qbp) Tryz.f99 (Tryz.f99.body.getD .skip) (Qp [.bool]) n [0,2] [.d (.list Qg) x1,.d I64 x2,.d I64 x3]
theorem QqN (n : Nat) (a0 : (List Qi)) : QjB n a0 =
  Vb n a0 (a0.length : Int) 0:=by kernel_rfl
theorem QaT (n : Nat) (x1 : (List Qi)) (x2 : Int) (x3 : Int) : Vb (n + 1) x1 x2 x3 =
  bif decide (x3 < x2) then
   bif decide ((0 : Int) < x3) then
    bif inB (IntKind.wrap .i64 (x3 - 1)) x1.length then
     bif inB x3 x1.length then
      Option.bind (Zb ((rd x1 (IntKind.wrap .i64 (x3 - 1)) (Ty.dflt Qg)).1) ((rd x1 x3 (Ty.dflt Qg)).1)) fun (y1 : Int) =>
      bif decide ((0 : Int) ≤ y1) then
       some false
      else
       Vb n x1 x2 (IntKind.wrap .i64 (x3 + 1))
     else none
    else none
   else
    Vb n x1 x2 (IntKind.wrap .i64 (x3 + 1))
  else
   some (decide ((x1.length : Int) ≤ 40)):=by kernel_rfl
theorem Qo9 {x1 : (List Qi)} (hl : x1.length ≤ maxLen) : ∀ (rest : List Qi) (k : Nat) (r : Bool),rest = x1.drop k → Zv x1 rest k = some r → Ev (fun n=>Vb n x1 (x1.length : Int) (k : Int)) r:=by
 intro rest
 induction rest with
 | nil =>
  intro k r hr h
  have hk:=QH hr
  rw [Zv] at h
  refine Ev.step ?_ (fun n=>QaT n x1 (x1.length : Int) (k : Int))
  rw [show decide ((k : Int) < (x1.length : Int)) = false from decide_eq_false (by omega)]
  exact Ev.neg rfl (Ev.ofSome h)
 | cons e rest ih =>
  intro k r hr h
  obtain ⟨hk,hx,hr2⟩:=Qz (d:=(Ty.dflt Qg)) hr
  have hw:=Qy hl hk
  have ih2 : ∀ (r : Bool),Zv x1 rest (k + 1) = some r → Ev (fun n=>Vb n x1 (x1.length : Int) (IntKind.wrap .i64 ((k : Int) + 1))) r:=by
   intro r h; rw [hw]; exact ih (k + 1) r hr2 h
  rw [Zv] at h
  refine Ev.step ?_ (fun n=>QaT n x1 (x1.length : Int) (k : Int))
  rw [show decide ((k : Int) < (x1.length : Int)) = true from decide_eq_true (by omega),Qx hk,hx]
  exact Ev.pos rfl (Ev.ofBif h (fun h=>(Ev.ofBif h (fun h=>(Ev.pos rfl (Ev.ofBind h fun y1 h=>(Ev.ofBif h (fun h=>(Ev.ofSome h)) (fun h=>(ih2  _ h)))))) (fun h=>(Ev.ofNone h)))) (fun h=>(ih2  _ h)))
theorem Qxr (a0 : (List Qi)) {r : Bool} (h : GN a0 = some r) : Ev (fun n=>QjB n a0) r:=by
 rw [GN] at h
 refine Ev.of_eq ?_ (fun n=>QqN n a0)
 exact (Ev.ofLen h fun hl h=>Qo9 hl _ (0 : Nat) _ rfl h)
theorem QsZ : ∀ x ∈ Qbp,Qh Tryz.prog x:=(Qd Uf Qk)
theorem Qu4 : Qh Tryz.prog (Qc4):=by
 refine Qj (c:=Qc4) (by kernel_rfl) (by kernel_rfl : Tryz.prog.funcs[99]? = some Tryz.f99) (code:=Tryz.f99.body.getD .skip) (by kernel_rfl) (by kernel_rfl) (by kernel_rfl) (A:=Qc5) (I:=Qbo) (QsZ) ?_
 rintro ⟨a0,u⟩ y hy
 exact (Qxr a0 hy).get
def Q7 (x1 : (List Qi)) : List Qi → Option Bool
 | [] =>
   Option.bind (GN x1) fun (y2 : Bool) =>
   some y2
 | e :: rest =>
   Option.bind (Vp (e)) fun (y1 : Bool) =>
   bif !(y1) then
    some false
   else
    Q7 x1 rest
def JD (a0 : (List Qi)) : Option Bool :=
 Zu a0 (Q7 a0 a0)
def HH : Ctr:=⟨68,[(.list Qg)],[.bool],fun x=>JD x.1⟩
def HJ : List (List Nat × Ann):=[([0,2],[.keep 0 0,.keep 0 5,.keep 0 6,.keep 0 7])]
def Ha : List (List Nat × Nat):=[]
def Hb : List Ctr:=[Qbn,Qc4]
def Qbq (n : Nat) (a0 : (List Qi)) : Option Bool:=run Tryz.prog HJ Ha (Qn Hb) Tryz.f68 (Tryz.f68.body.getD .skip) (Qp [.bool]) n (Qt [(.list Qg)] (a0,()))
abbrev Yf (n : Nat) (x1 : (List Qi)) (x2 : (List Qi)) (x3 : Int) (x4 : Int) : Option Bool:=lam Tryz.prog HJ Ha (Qn Hb) Tryz.f68 (Tryz.f68.body.getD .skip) (Qp [.bool]) n [0,2] [.d (.list Qg) x1,.d (.list Qg) x2,.d I64 x3,.d I64 x4]
theorem QhR (n : Nat) (a0 : (List Qi)) : Qbq n a0 =
  Yf n a0 a0 (a0.length : Int) 0:=by kernel_rfl
theorem Hp (n : Nat) (x1 : (List Qi)) (x2 : (List Qi)) (x3 : Int) (x4 : Int) : Yf (n + 1) x1 x2 x3 x4 =
  bif decide (x4 < x3) then
   bif inB x4 x2.length then
    Option.bind (Vp (rd x2 x4 (Ty.dflt Qg))) fun (y1 : Bool) =>
    bif !(y1) then
     some false
    else
     Yf n x1 x2 x3 (IntKind.wrap .i64 (x4 + 1))
   else none
  else
   Option.bind (GN x1) fun (y2 : Bool) =>
   some y2:=by kernel_rfl
theorem QgI {x1 : (List Qi)} (hl : x1.length ≤ maxLen) : ∀ (rest : List Qi) (k : Nat) (r : Bool),rest = x1.drop k → Q7 x1 rest = some r → Ev (fun n=>Yf n x1 x1 (x1.length : Int) (k : Int)) r:=by
 intro rest
 induction rest with
 | nil =>
  intro k r hr h
  have hk:=QH hr
  rw [Q7] at h
  refine Ev.step ?_ (fun n=>Hp n x1 x1 (x1.length : Int) (k : Int))
  rw [show decide ((k : Int) < (x1.length : Int)) = false from decide_eq_false (by omega)]
  exact Ev.neg rfl (Ev.ofBind h fun y2 h=>(Ev.ofSome h))
 | cons e rest ih =>
  intro k r hr h
  obtain ⟨hk,hx,hr2⟩:=Qz (d:=(Ty.dflt Qg)) hr
  have hw:=Qy hl hk
  have ih2 : ∀ (r : Bool),Q7 x1 rest = some r → Ev (fun n=>Yf n x1 x1 (x1.length : Int) (IntKind.wrap .i64 ((k : Int) + 1))) r:=by
   intro r h; rw [hw]; exact ih (k + 1) r hr2 h
  rw [Q7] at h
  refine Ev.step ?_ (fun n=>Hp n x1 x1 (x1.length : Int) (k : Int))
  rw [show decide ((k : Int) < (x1.length : Int)) = true from decide_eq_true (by omega),Qx hk,hx]
  exact Ev.pos rfl (Ev.pos rfl (Ev.ofBind h fun y1 h=>(Ev.ofBif h (fun h=>(Ev.ofSome h)) (fun h=>(ih2  _ h)))))
theorem Qlw (a0 : (List Qi)) {r : Bool} (h : JD a0 = some r) : Ev (fun n=>Qbq n a0) r:=by
 rw [JD] at h
 refine Ev.of_eq ?_ (fun n=>QhR n a0)
 exact (Ev.ofLen h fun hl h=>QgI hl _ (0 : Nat) _ rfl h)
theorem QiR : ∀ x ∈ Hb,Qh Tryz.prog x:=(Qd QsY (Qd Qu4 Qk))
theorem QjC : Qh Tryz.prog (HH):=by
 refine Qj (c:=HH) (by kernel_rfl) (by kernel_rfl : Tryz.prog.funcs[68]? = some Tryz.f68) (code:=Tryz.f68.body.getD .skip) (by kernel_rfl) (by kernel_rfl) (by kernel_rfl) (A:=HJ) (I:=Ha) (QiR) ?_
 rintro ⟨a0,u⟩ y hy
 exact (Qlw a0 hy).get
def Vq (a0 : (List Qc)) (a1 : QD) (a2 : (List Qi)) : Option Bool :=
 Option.bind (Vo a0) fun (y1 : Bool) =>
 bif y1 then
  Option.bind (Y1 a1) fun (y2 : Bool) =>
  bif y2 then
   Option.bind (JD a2) fun (y3 : Bool) =>
   some y3
  else
   some false
 else
  some false
def QgJ : Ctr:=⟨28,[(.list Qe),Qu,(.list Qg)],[.bool],fun x=>Vq x.1 x.2.1 x.2.2.1⟩
def Qpa : List (List Nat × Ann):=[]
def QmF : List (List Nat × Nat):=[]
def QmG : List Ctr:=[Qbk,E6,HH]
def Qpb (n : Nat) (a0 : (List Qc)) (a1 : QD) (a2 : (List Qi)) : Option Bool:=run Tryz.prog Qpa QmF (Qn QmG) Tryz.f28 (Tryz.f28.body.getD .skip) (Qp [.bool]) n (Qt [(.list Qe),Qu,(.list Qg)] (a0,a1,a2,()))
theorem Qu5 (n : Nat) (a0 : (List Qc)) (a1 : QD) (a2 : (List Qi)) : Qpb n a0 a1 a2 =
  Option.bind (Vo a0) fun (y1 : Bool) =>
  bif y1 then
   Option.bind (Y1 a1) fun (y2 : Bool) =>
   bif y2 then
    Option.bind (JD a2) fun (y3 : Bool) =>
    some y3
   else
    some false
  else
   some false:=by kernel_rfl
theorem QBF (a0 : (List Qc)) (a1 : QD) (a2 : (List Qi)) {r : Bool} (h : Vq a0 a1 a2 = some r) : Ev (fun n=>Qpb n a0 a1 a2) r:=by
 rw [Vq] at h
 refine Ev.of_eq ?_ (fun n=>Qu5 n a0 a1 a2)
 exact (Ev.ofBind h fun y1 h=>(Ev.ofBif h (fun h=>(Ev.ofBind h fun y2 h=>(Ev.ofBif h (fun h=>(Ev.ofBind h fun y3 h=>(Ev.ofSome h))) (fun h=>(Ev.ofSome h))))) (fun h=>(Ev.ofSome h))))
theorem Qxs : ∀ x ∈ QmG,Qh Tryz.prog x:=(Qd QsP (Qd QqJ (Qd QjC Qk)))
theorem Qzm : Qh Tryz.prog (QgJ):=by
 refine Qj (c:=QgJ) (by kernel_rfl) (by kernel_rfl : Tryz.prog.funcs[28]? = some Tryz.f28) (code:=Tryz.f28.body.getD .skip) (by kernel_rfl) (by kernel_rfl) (by kernel_rfl) (A:=Qpa) (I:=QmF) (Qxs) ?_
 rintro ⟨a0,a1,a2,u⟩ y hy
 exact (QBF a0 a1 a2 hy).get
def Z1 (K0 : (List Qb) → Option (List Qb)) : List Qb → (List Qb) → Option (List Qb)
 | [],x1 =>
   K0 x1
 | e :: rest,x1 =>
   bif decide ((e).1 = 4) then
    bif decide (((x1.length : Int) + (([(e)] : List Qb).length : Int)) * 48 ≤ Qv) && decide ((x1.length : Int) + (([(e)] : List Qb).length : Int) ≤ Qv) then
     Z1 K0 rest (x1 ++ ([(e)] : List Qb))
    else none
   else
    Z1 K0 rest x1
def JE : List Ql → (List Qb) → Option (List Qb)
 | [],x1 =>
   some x1
 | e :: rest,x1 =>
   bif decide (((([(((e).2).1)] : List Qb).length : Int) + (((((e).2).2).1).length : Int)) * 48 ≤ Qv) && decide ((([(((e).2).1)] : List Qb).length : Int) + (((((e).2).2).1).length : Int) ≤ Qv) then
    Zu (([(((e).2).1)] : List Qb) ++ ((((e).2).2).1)) (Z1 (fun s0=>JE rest s0) (([(((e).2).1)] : List Qb) ++ ((((e).2).2).1)) x1)
   else none
def Vr (a0 : (List Ql)) : Option (List Qb) :=
 Zu a0 (JE a0 [])
def QgK : Ctr:=⟨29,[(.list Qf)],[(.list Qa)],fun x=>Vr x.1⟩
def Qbr : List (List Nat × Ann):=[([0,3],[.own 0 3 Qa,.keep 0 8,.keep 0 9,.keep 0 10]),([0,6],[.own 0 3 Qa,.keep 0 8,.keep 0 9,.keep 0 10,.own 0 19 Qa,.keep 0 20,.keep 0 21])]
def EH : List (List Nat × Nat):=[]
def EI : List Ctr:=[]
def Qpc (n : Nat) (a0 : (List Ql)) : Option (List Qb):=run Tryz.prog Qbr EH (Qn EI) Tryz.f29 (Tryz.f29.body.getD .skip) (Qp [(.list Qa)]) n (Qt [(.list Qf)] (a0,()))
abbrev VP (n : Nat) (x1 : (List Qb)) (x2 : (List Ql)) (x3 : Int) (x4 : Int) : Option (List Qb):=lam Tryz.prog Qbr EH (Qn EI) Tryz.f29 (Tryz.f29.body.getD .skip) (Qp [(.list Qa)]) n [0,3] [.own 0 Qa x1,.d (.list Qf) x2,.d I64 x3,.d I64 x4]
abbrev VQ (n : Nat) (x1 : (List Qb)) (x2 : (List Ql)) (x3 : Int) (x4 : Int) (x5 : (List Qb)) (x6 : Int) (x7 : Int) : Option (List Qb):=lam Tryz.prog Qbr EH (Qn EI) Tryz.f29 (Tryz.f29.body.getD .skip) (Qp [(.list Qa)]) n [0,6] [.own 0 Qa x1,.d (.list Qf) x2,.d I64 x3,.d I64 x4,.own 0 Qa x5,.d I64 x6,.d I64 x7]
theorem Qu6 (n : Nat) (a0 : (List Ql)) : Qpc n a0 =
  VP n [] a0 (a0.length : Int) 0:=by kernel_rfl
theorem Qcz (n : Nat) (x1 : (List Qb)) (x2 : (List Ql)) (x3 : Int) (x4 : Int) : VP (n + 1) x1 x2 x3 x4 =
  bif decide (x4 < x3) then
   bif inB x4 x2.length then
    bif decide (((([(((rd x2 x4 (Ty.dflt Qf)).2).1)] : List Qb).length : Int) + (((((rd x2 x4 (Ty.dflt Qf)).2).2).1).length : Int)) * 48 ≤ Qv) && decide ((([(((rd x2 x4 (Ty.dflt Qf)).2).1)] : List Qb).length : Int) + (((((rd x2 x4 (Ty.dflt Qf)).2).2).1).length : Int) ≤ Qv) then
     VQ n x1 x2 x3 x4 (([(((rd x2 x4 (Ty.dflt Qf)).2).1)] : List Qb) ++ ((((rd x2 x4 (Ty.dflt Qf)).2).2).1)) ((([(((rd x2 x4 (Ty.dflt Qf)).2).1)] : List Qb) ++ ((((rd x2 x4 (Ty.dflt Qf)).2).2).1)).length : Int) 0
    else none
   else none
  else
   some x1:=by kernel_rfl
theorem QcA (n : Nat) (x1 : (List Qb)) (x2 : (List Ql)) (x3 : Int) (x4 : Int) (x5 : (List Qb)) (x6 : Int) (x7 : Int) : VQ (n + 1) x1 x2 x3 x4 x5 x6 x7 =
  bif decide (x7 < x6) then
   bif inB x7 x5.length then
    bif decide ((rd x5 x7 (Ty.dflt Qa)).1 = 4) then
     bif decide (((x1.length : Int) + (([(rd x5 x7 (Ty.dflt Qa))] : List Qb).length : Int)) * 48 ≤ Qv) && decide ((x1.length : Int) + (([(rd x5 x7 (Ty.dflt Qa))] : List Qb).length : Int) ≤ Qv) then
      VQ n (x1 ++ ([(rd x5 x7 (Ty.dflt Qa))] : List Qb)) x2 x3 x4 x5 x6 (IntKind.wrap .i64 (x7 + 1))
     else none
    else
     VQ n x1 x2 x3 x4 x5 x6 (IntKind.wrap .i64 (x7 + 1))
   else none
  else
   VP n x1 x2 x3 (IntKind.wrap .i64 (x4 + 1)):=by kernel_rfl
theorem Qs0 {K0 : (List Qb) → Option (List Qb)} {x2 : (List Ql)} {x3 : Int} {x4 : Int} {x5 : (List Qb)} (hl : x5.length ≤ maxLen) (hK0 : ∀ (z1 : (List Qb)) (r : (List Qb)),K0 z1 = some r → Ev (fun n=>VP n z1 x2 x3 (IntKind.wrap .i64 (x4 + 1))) r) : ∀ (rest : List Qb) (k : Nat) (x1 : (List Qb)) (r : (List Qb)),rest = x5.drop k → Z1 K0 rest x1 = some r → Ev (fun n=>VQ n x1 x2 x3 x4 x5 (x5.length : Int) (k : Int)) r:=by
 intro rest
 induction rest with
 | nil =>
  intro k x1 r hr h
  have hk:=QH hr
  rw [Z1] at h
  refine Ev.step ?_ (fun n=>QcA n x1 x2 x3 x4 x5 (x5.length : Int) (k : Int))
  rw [show decide ((k : Int) < (x5.length : Int)) = false from decide_eq_false (by omega)]
  exact Ev.neg rfl (hK0 _ _ h)
 | cons e rest ih =>
  intro k x1 r hr h
  obtain ⟨hk,hx,hr2⟩:=Qz (d:=(Ty.dflt Qa)) hr
  have hw:=Qy hl hk
  have ih2 : ∀ (z1 : (List Qb)) (r : (List Qb)),Z1 K0 rest z1 = some r → Ev (fun n=>VQ n z1 x2 x3 x4 x5 (x5.length : Int) (IntKind.wrap .i64 ((k : Int) + 1))) r:=by
   intro z1 r h; rw [hw]; exact ih (k + 1) z1 r hr2 h
  rw [Z1] at h
  refine Ev.step ?_ (fun n=>QcA n x1 x2 x3 x4 x5 (x5.length : Int) (k : Int))
  rw [show decide ((k : Int) < (x5.length : Int)) = true from decide_eq_true (by omega),Qx hk,hx]
  exact Ev.pos rfl (Ev.pos rfl (Ev.ofBif h (fun h=>(Ev.ofBif h (fun h=>(ih2 _ _ h)) (fun h=>(Ev.ofNone h)))) (fun h=>(ih2 _ _ h))))
theorem Qs1 {x2 : (List Ql)} (hl : x2.length ≤ maxLen) : ∀ (rest : List Ql) (k : Nat) (x1 : (List Qb)) (r : (List Qb)),rest = x2.drop k → JE rest x1 = some r → Ev (fun n=>VP n x1 x2 (x2.length : Int) (k : Int)) r:=by
 intro rest
 induction rest with
 | nil =>
  intro k x1 r hr h
  have hk:=QH hr
  rw [JE] at h
  refine Ev.step ?_ (fun n=>Qcz n x1 x2 (x2.length : Int) (k : Int))
  rw [show decide ((k : Int) < (x2.length : Int)) = false from decide_eq_false (by omega)]
  exact Ev.neg rfl (Ev.ofSome h)
 | cons e rest ih =>
  intro k x1 r hr h
  obtain ⟨hk,hx,hr2⟩:=Qz (d:=(Ty.dflt Qf)) hr
  have hw:=Qy hl hk
  have ih2 : ∀ (z1 : (List Qb)) (r : (List Qb)),JE rest z1 = some r → Ev (fun n=>VP n z1 x2 (x2.length : Int) (IntKind.wrap .i64 ((k : Int) + 1))) r:=by
   intro z1 r h; rw [hw]; exact ih (k + 1) z1 r hr2 h
  rw [JE] at h
  refine Ev.step ?_ (fun n=>Qcz n x1 x2 (x2.length : Int) (k : Int))
  rw [show decide ((k : Int) < (x2.length : Int)) = true from decide_eq_true (by omega),Qx hk,hx]
  exact Ev.pos rfl (Ev.pos rfl (Ev.ofBif h (fun h=>(Ev.ofLen h fun hl h=>Qs0 hl ih2 _ (0 : Nat) _ _ rfl h)) (fun h=>(Ev.ofNone h))))
theorem QBG (a0 : (List Ql)) {r : (List Qb)} (h : Vr a0 = some r) : Ev (fun n=>Qpc n a0) r:=by
 rw [Vr] at h
 refine Ev.of_eq ?_ (fun n=>Qu6 n a0)
 exact (Ev.ofLen h fun hl h=>Qs1 hl _ (0 : Nat) _ _ rfl h)
theorem Qxt : ∀ x ∈ EI,Qh Tryz.prog x:=Qk
theorem Qzn : Qh Tryz.prog (QgK):=by
 refine Qj (c:=QgK) (by kernel_rfl) (by kernel_rfl : Tryz.prog.funcs[29]? = some Tryz.f29) (code:=Tryz.f29.body.getD .skip) (by kernel_rfl) (by kernel_rfl) (by kernel_rfl) (A:=Qbr) (I:=EH) (Qxt) ?_
 rintro ⟨a0,u⟩ y hy
 exact (QBG a0 hy).get
def ZT (K0 : (List Qb) → Option (List Qb)) (x2 : Int) (x7 : Qb) : Nat → (List Qb) → Int → Option (List Qb)
 | 0,_,_=>none
 | m + 1,x1,x3 =>
   bif decide (x2 < x3) then
    bif inB (IntKind.wrap .i64 (x3 - 1)) x1.length then
     bif inB (IntKind.wrap .i64 (x3 - 1)) x1.length then
      bif inB x3 x1.length then
       bif inB x3 x1.length && true && true && true && true then
        ZT K0 x2 x7 m (x1.set (Int.toNat x3) (rd x1 (IntKind.wrap .i64 (x3 - 1)) (Ty.dflt Qa))) (IntKind.wrap .i64 (x3 - 1))
       else none
      else none
     else none
    else none
   else
    bif inB x2 x1.length then
     bif inB x2 x1.length && true && true && true && true then
      K0 (x1.set (Int.toNat x2) x7)
     else none
    else none
def JS (K0 : (List Qb) → Option (List Qb)) (m : Nat) (x1 : (List Qb)) (x2 : Int) (x6 : Qb) : Option (List Qb) :=
 bif decide ((0 : Int) < x2) then
  bif inB (IntKind.wrap .i64 (x2 - 1)) x1.length then
   bif inB (IntKind.wrap .i64 (x2 - 1)) x1.length then
    Option.bind (JC (rd x1 (IntKind.wrap .i64 (x2 - 1)) (Ty.dflt Qa)) x6) fun (y2 : Int) =>
    bif decide (y2 = 0) then
     K0 x1
    else
     bif decide (((x1.length : Int) + (([x6] : List Qb).length : Int)) * 48 ≤ Qv) && decide ((x1.length : Int) + (([x6] : List Qb).length : Int) ≤ Qv) then
      ZT K0 x2 x6 m (x1 ++ ([x6] : List Qb)) (IntKind.wrap .i64 (((x1 ++ ([x6] : List Qb)).length : Int) - 1))
     else none
   else none
  else none
 else
  bif decide (((x1.length : Int) + (([x6] : List Qb).length : Int)) * 48 ≤ Qv) && decide ((x1.length : Int) + (([x6] : List Qb).length : Int) ≤ Qv) then
   ZT K0 x2 x6 m (x1 ++ ([x6] : List Qb)) (IntKind.wrap .i64 (((x1 ++ ([x6] : List Qb)).length : Int) - 1))
  else none
def Ja (K0 : (List Qb) → Option (List Qb)) (x1 : (List Qb)) (x6 : Qb) : Nat → Int → Option (List Qb)
 | 0,_=>none
 | m + 1,x2 =>
   bif decide ((0 : Int) < x2) then
    bif inB (IntKind.wrap .i64 (x2 - 1)) x1.length then
     bif inB (IntKind.wrap .i64 (x2 - 1)) x1.length then
      Option.bind (JC (rd x1 (IntKind.wrap .i64 (x2 - 1)) (Ty.dflt Qa)) x6) fun (y1 : Int) =>
      bif decide ((0 : Int) < y1) then
       Ja K0 x1 x6 m (IntKind.wrap .i64 (x2 - 1))
      else
       JS K0 m x1 x2 x6
     else none
    else none
   else
    JS K0 m x1 x2 x6
def JT (m : Nat) : List Qb → (List Qb) → Option (List Qb)
 | [],x1 =>
   some x1
 | e :: rest,x1 =>
   Ja (fun s0=>JT m rest s0) x1 (e) m (x1.length : Int)
def HR (m : Nat) (a0 : (List Qb)) : Option (List Qb) :=
 Zu a0 (JT m a0 [])
def EJ (a0 : (List Qb)) : Option (List Qb):=Qcw fun m=>HR m a0
def J4 (x4 : Qb) : List Qb → Option Bool
 | [] =>
   some false
 | e :: rest =>
   bif @decide ((e) = x4) (Ty.decEq Qa (e) x4) then
    some true
   else
    J4 x4 rest
def VZ (a0 : (List Qb)) (a1 : Qb) : Option Bool :=
 Zu a0 (J4 a1 a0)
def QiS : Ctr:=⟨31,[(.list Qa),Qa],[.bool],fun x=>VZ x.1 x.2.1⟩
def QiT : List (List Nat × Ann):=[([0,2],[.keep 0 3,.keep 0 7,.keep 0 8,.keep 0 9,.boxd 0 3 Qa])]
def QgL : List (List Nat × Nat):=[]
def QgM : List Ctr:=[]
def QrL (n : Nat) (a0 : (List Qb)) (a1 : Qb) : Option Bool:=run Tryz.prog QiT QgL (Qn QgM) Tryz.f31 (Tryz.f31.body.getD .skip) (Qp [.bool]) n (Qt [(.list Qa),Qa] (a0,a1,()))
abbrev XB (n : Nat) (x1 : (List Qb)) (x2 : Int) (x3 : Int) (x4 : Qb) : Option Bool:=lam Tryz.prog QiT QgL (Qn QgM) Tryz.f31 (Tryz.f31.body.getD .skip) (Qp [.bool]) n [0,2] [.ptr 0 3 0,.d (.list Qa) x1,.d I64 x2,.d I64 x3,.agg (Qq Qa x4)]
theorem Qxu (n : Nat) (a0 : (List Qb)) (a1 : Qb) : QrL n a0 a1 =
  XB n a0 (a0.length : Int) 0 a1:=by kernel_rfl
theorem Qeh (n : Nat) (x1 : (List Qb)) (x2 : Int) (x3 : Int) (x4 : Qb) : XB (n + 1) x1 x2 x3 x4 =
  bif decide (x3 < x2) then
   bif inB x3 x1.length then
    bif @decide ((rd x1 x3 (Ty.dflt Qa)) = x4) (Ty.decEq Qa (rd x1 x3 (Ty.dflt Qa)) x4) then
     some true
    else
     XB n x1 x2 (IntKind.wrap .i64 (x3 + 1)) x4
   else none
  else
   some false:=by kernel_rfl
theorem Qu7 {x1 : (List Qb)} {x4 : Qb} (hl : x1.length ≤ maxLen) : ∀ (rest : List Qb) (k : Nat) (r : Bool),rest = x1.drop k → J4 x4 rest = some r → Ev (fun n=>XB n x1 (x1.length : Int) (k : Int) x4) r:=by
 intro rest
 induction rest with
 | nil =>
  intro k r hr h
  have hk:=QH hr
  rw [J4] at h
  refine Ev.step ?_ (fun n=>Qeh n x1 (x1.length : Int) (k : Int) x4)
  rw [show decide ((k : Int) < (x1.length : Int)) = false from decide_eq_false (by omega)]
  exact Ev.neg rfl (Ev.ofSome h)
 | cons e rest ih =>
  intro k r hr h
  obtain ⟨hk,hx,hr2⟩:=Qz (d:=(Ty.dflt Qa)) hr
  have hw:=Qy hl hk
  have ih2 : ∀ (r : Bool),J4 x4 rest = some r → Ev (fun n=>XB n x1 (x1.length : Int) (IntKind.wrap .i64 ((k : Int) + 1)) x4) r:=by
   intro r h; rw [hw]; exact ih (k + 1) r hr2 h
  rw [J4] at h
  refine Ev.step ?_ (fun n=>Qeh n x1 (x1.length : Int) (k : Int) x4)
  rw [show decide ((k : Int) < (x1.length : Int)) = true from decide_eq_true (by omega),Qx hk,hx]
  exact Ev.pos rfl (Ev.pos rfl (Ev.ofBif h (fun h=>(Ev.ofSome h)) (fun h=>(ih2  _ h))))
theorem QCG (a0 : (List Qb)) (a1 : Qb) {r : Bool} (h : VZ a0 a1 = some r) : Ev (fun n=>QrL n a0 a1) r:=by
 rw [VZ] at h
 refine Ev.of_eq ?_ (fun n=>Qxu n a0 a1)
 exact (Ev.ofLen h fun hl h=>Qu7 hl _ (0 : Nat) _ rfl h)
theorem Qzo : ∀ x ∈ QgM,Qh Tryz.prog x:=Qk
theorem QBH : Qh Tryz.prog (QiS):=by
 refine Qj (c:=QiS) (by kernel_rfl) (by kernel_rfl : Tryz.prog.funcs[31]? = some Tryz.f31) (code:=Tryz.f31.body.getD .skip) (by kernel_rfl) (by kernel_rfl) (by kernel_rfl) (A:=QiT) (I:=QgL) (Qzo) ?_
 rintro ⟨a0,a1,u⟩ y hy
 exact (QCG a0 a1 hy).get
def QjD : Ctr:=QyK 30 [(.list Qa)] Qa fun x=>EJ x.1
def GO : List (List Nat × Ann):=[([0,3],[.raw 0 3 Qa,.keep 0 8,.keep 0 9,.keep 0 10]),([0,6],[.raw 0 3 Qa,.keep 0 5,.keep 0 6,.keep 0 8,.keep 0 9,.keep 0 10,.boxd 0 5 Qa]),([1,8],[.raw 0 3 Qa,.keep 0 5,.keep 0 6,.keep 0 8,.keep 0 9,.keep 0 10,.boxd 0 5 Qa]),([0,11],[.raw 0 3 Qa,.keep 0 5,.keep 0 6,.keep 0 7,.keep 0 8,.keep 0 9,.keep 0 10,.boxd 0 5 Qa])]
def Gi : List (List Nat × Nat):=[]
def Gj : List Ctr:=[Qbh]
def QjE (n : Nat) (a0 : (List Qb)) : Option (List Qb):=WV Tryz.prog noG GO Gi (Qn Gj) Tryz.f30 (Tryz.f30.body.getD .skip) (Qsk Tryz.prog Tryz.f30 Qa) n (Qt [(.list Qa)] (a0,()))
abbrev ZU (n : Nat) (x1 : (List Qb)) (x2 : (List Qb)) (x3 : Int) (x4 : Int) : Option (List Qb):=Uy Tryz.prog noG GO Gi (Qn Gj) Tryz.f30 (Tryz.f30.body.getD .skip) (Qsk Tryz.prog Tryz.f30 Qa) n [0,3] [.own 0 Qa x1,.d (.list Qa) x2,.d I64 x3,.d I64 x4]
abbrev XC (n : Nat) (x1 : (List Qb)) (x2 : Int) (x3 : (List Qb)) (x4 : Int) (x5 : Int) (x6 : Qb) : Option (List Qb):=Uy Tryz.prog noG GO Gi (Qn Gj) Tryz.f30 (Tryz.f30.body.getD .skip) (Qsk Tryz.prog Tryz.f30 Qa) n [0,6] [.own 0 Qa x1,.ptr 0 5 0,.d I64 x2,.d (.list Qa) x3,.d I64 x4,.d I64 x5,.agg (Qq Qa x6)]
abbrev XD (n : Nat) (x1 : (List Qb)) (x2 : Int) (x3 : (List Qb)) (x4 : Int) (x5 : Int) (x6 : Qb) : Option (List Qb):=Uy Tryz.prog noG GO Gi (Qn Gj) Tryz.f30 (Tryz.f30.body.getD .skip) (Qsk Tryz.prog Tryz.f30 Qa) n [1,8] [.own 0 Qa x1,.ptr 0 5 0,.d I64 x2,.d (.list Qa) x3,.d I64 x4,.d I64 x5,.agg (Qq Qa x6)]
abbrev VI (n : Nat) (x1 : (List Qb)) (x2 : Int) (x3 : Int) (x4 : (List Qb)) (x5 : Int) (x6 : Int) (x7 : Qb) : Option (List Qb):=Uy Tryz.prog noG GO Gi (Qn Gj) Tryz.f30 (Tryz.f30.body.getD .skip) (Qsk Tryz.prog Tryz.f30 Qa) n [0,11] [.own 0 Qa x1,.ptr 0 5 0,.d I64 x2,.d I64 x3,.d (.list Qa) x4,.d I64 x5,.d I64 x6,.agg (Qq Qa x7)]
theorem QqO (n : Nat) (a0 : (List Qb)) : QjE n a0 =
  ZU n [] a0 (a0.length : Int) 0:=by kernel_rfl
theorem QaU (n : Nat) (x1 : (List Qb)) (x2 : (List Qb)) (x3 : Int) (x4 : Int) : ZU (n + 1) x1 x2 x3 x4 =
  bif decide (x4 < x3) then
   bif inB x4 x2.length then
    XC n x1 (x1.length : Int) x2 x3 x4 (rd x2 x4 (Ty.dflt Qa))
   else none
  else
   some x1:=by kernel_rfl
theorem QjF (n : Nat) (x1 : (List Qb)) (x2 : Int) (x3 : (List Qb)) (x4 : Int) (x5 : Int) (x6 : Qb) : XC (n + 1) x1 x2 x3 x4 x5 x6 =
  bif decide ((0 : Int) < x2) then
   bif inB (IntKind.wrap .i64 (x2 - 1)) x1.length then
    bif inB (IntKind.wrap .i64 (x2 - 1)) x1.length then
     Option.bind (JC (rd x1 (IntKind.wrap .i64 (x2 - 1)) (Ty.dflt Qa)) x6) fun (y1 : Int) =>
     bif decide ((0 : Int) < y1) then
      XC n x1 (IntKind.wrap .i64 (x2 - 1)) x3 x4 x5 x6
     else
      XD n x1 x2 x3 x4 x5 x6
    else none
   else none
  else
   XD n x1 x2 x3 x4 x5 x6:=by kernel_rfl
theorem QjG (n : Nat) (x1 : (List Qb)) (x2 : Int) (x3 : (List Qb)) (x4 : Int) (x5 : Int) (x6 : Qb) : XD (n + 1) x1 x2 x3 x4 x5 x6 =
  bif decide ((0 : Int) < x2) then
   bif inB (IntKind.wrap .i64 (x2 - 1)) x1.length then
    bif inB (IntKind.wrap .i64 (x2 - 1)) x1.length then
     Option.bind (JC (rd x1 (IntKind.wrap .i64 (x2 - 1)) (Ty.dflt Qa)) x6) fun (y2 : Int) =>
     bif decide (y2 = 0) then
      ZU n x1 x3 x4 (IntKind.wrap .i64 (x5 + 1))
     else
      bif decide (((x1.length : Int) + (([x6] : List Qb).length : Int)) * 48 ≤ Qv) && decide ((x1.length : Int) + (([x6] : List Qb).length : Int) ≤ Qv) then
       VI n (x1 ++ ([x6] : List Qb)) x2 (IntKind.wrap .i64 (((x1 ++ ([x6] : List Qb)).length : Int) - 1)) x3 x4 x5 x6
      else none
    else none
   else none
  else
   bif decide (((x1.length : Int) + (([x6] : List Qb).length : Int)) * 48 ≤ Qv) && decide ((x1.length : Int) + (([x6] : List Qb).length : Int) ≤ Qv) then
    VI n (x1 ++ ([x6] : List Qb)) x2 (IntKind.wrap .i64 (((x1 ++ ([x6] : List Qb)).length : Int) - 1)) x3 x4 x5 x6
   else none:=by kernel_rfl
theorem QiU (n : Nat) (x1 : (List Qb)) (x2 : Int) (x3 : Int) (x4 : (List Qb)) (x5 : Int) (x6 : Int) (x7 : Qb) : VI (n + 1) x1 x2 x3 x4 x5 x6 x7 =
  bif decide (x2 < x3) then
   bif inB (IntKind.wrap .i64 (x3 - 1)) x1.length then
    bif inB (IntKind.wrap .i64 (x3 - 1)) x1.length then
     bif inB x3 x1.length then
      bif inB x3 x1.length && true && true && true && true then
       VI n (x1.set (Int.toNat x3) (rd x1 (IntKind.wrap .i64 (x3 - 1)) (Ty.dflt Qa))) x2 (IntKind.wrap .i64 (x3 - 1)) x4 x5 x6 x7
      else none
     else none
    else none
   else none
  else
   bif inB x2 x1.length then
    bif inB x2 x1.length && true && true && true && true then
     ZU n (x1.set (Int.toNat x2) x7) x4 x5 (IntKind.wrap .i64 (x6 + 1))
    else none
   else none:=by kernel_rfl
theorem QcB {K0 : (List Qb) → Option (List Qb)} {x2 : Int} {x4 : (List Qb)} {x5 : Int} {x6 : Int} {x7 : Qb} (hK0 : ∀ (z1 : (List Qb)) (r : (List Qb)),K0 z1 = some r → Ev (fun n=>ZU n z1 x4 x5 (IntKind.wrap .i64 (x6 + 1))) r) : ∀ (m : Nat) (x1 : (List Qb)) (x3 : Int) (r : (List Qb)),ZT K0 x2 x7 m x1 x3 = some r → Ev (fun n=>VI n x1 x2 x3 x4 x5 x6 x7) r:=by
 intro m
 induction m with
 | zero=>intro x1 x3 r h; rw [ZT] at h; exact Ev.ofNone h
 | succ m ih2 =>
  intro x1 x3 r h
  rw [ZT] at h
  refine Ev.step ?_ (fun n=>QiU n x1 x2 x3 x4 x5 x6 x7)
  exact (Ev.ofBif h (fun h=>(Ev.ofBif h (fun h=>(Ev.ofBif h (fun h=>(Ev.ofBif h (fun h=>(Ev.ofBif h (fun h=>(ih2 _ _ _ h)) (fun h=>(Ev.ofNone h)))) (fun h=>(Ev.ofNone h)))) (fun h=>(Ev.ofNone h)))) (fun h=>(Ev.ofNone h)))) (fun h=>(Ev.ofBif h (fun h=>(Ev.ofBif h (fun h=>(hK0 _ _ h)) (fun h=>(Ev.ofNone h)))) (fun h=>(Ev.ofNone h)))))
theorem Qei {K0 : (List Qb) → Option (List Qb)} {m : Nat} {x1 : (List Qb)} {x2 : Int} {x3 : (List Qb)} {x4 : Int} {x5 : Int} {x6 : Qb} (hK0 : ∀ (z1 : (List Qb)) (r : (List Qb)),K0 z1 = some r → Ev (fun n=>ZU n z1 x3 x4 (IntKind.wrap .i64 (x5 + 1))) r) {r : (List Qb)} (h : JS K0 m x1 x2 x6 = some r) : Ev (fun n=>XD n x1 x2 x3 x4 x5 x6) r:=by
 rw [JS] at h
 refine Ev.step ?_ (fun n=>QjG n x1 x2 x3 x4 x5 x6)
 exact (Ev.ofBif h (fun h=>(Ev.ofBif h (fun h=>(Ev.ofBif h (fun h=>(Ev.ofBind h fun y2 h=>(Ev.ofBif h (fun h=>(hK0 _ _ h)) (fun h=>(Ev.ofBif h (fun h=>(QcB hK0 _ _ _ _ h)) (fun h=>(Ev.ofNone h))))))) (fun h=>(Ev.ofNone h)))) (fun h=>(Ev.ofNone h)))) (fun h=>(Ev.ofBif h (fun h=>(QcB hK0 _ _ _ _ h)) (fun h=>(Ev.ofNone h)))))
theorem Qpd {K0 : (List Qb) → Option (List Qb)} {x1 : (List Qb)} {x3 : (List Qb)} {x4 : Int} {x5 : Int} {x6 : Qb} (hK0 : ∀ (z1 : (List Qb)) (r : (List Qb)),K0 z1 = some r → Ev (fun n=>ZU n z1 x3 x4 (IntKind.wrap .i64 (x5 + 1))) r) : ∀ (m : Nat) (x2 : Int) (r : (List Qb)),Ja K0 x1 x6 m x2 = some r → Ev (fun n=>XC n x1 x2 x3 x4 x5 x6) r:=by
 intro m
 induction m with
 | zero=>intro x2 r h; rw [Ja] at h; exact Ev.ofNone h
 | succ m ih2 =>
  intro x2 r h
  rw [Ja] at h
  refine Ev.step ?_ (fun n=>QjF n x1 x2 x3 x4 x5 x6)
  exact (Ev.ofBif h (fun h=>(Ev.ofBif h (fun h=>(Ev.ofBif h (fun h=>(Ev.ofBind h fun y1 h=>(Ev.ofBif h (fun h=>(ih2 _ _ h)) (fun h=>(Qei hK0 h))))) (fun h=>(Ev.ofNone h)))) (fun h=>(Ev.ofNone h)))) (fun h=>(Qei hK0 h)))
theorem Qpe {m : Nat} {x2 : (List Qb)} (hl : x2.length ≤ maxLen) : ∀ (rest : List Qb) (k : Nat) (x1 : (List Qb)) (r : (List Qb)),rest = x2.drop k → JT m rest x1 = some r → Ev (fun n=>ZU n x1 x2 (x2.length : Int) (k : Int)) r:=by
 intro rest
 induction rest with
 | nil =>
  intro k x1 r hr h
  have hk:=QH hr
  rw [JT] at h
  refine Ev.step ?_ (fun n=>QaU n x1 x2 (x2.length : Int) (k : Int))
  rw [show decide ((k : Int) < (x2.length : Int)) = false from decide_eq_false (by omega)]
  exact Ev.neg rfl (Ev.ofSome h)
 | cons e rest ih =>
  intro k x1 r hr h
  obtain ⟨hk,hx,hr2⟩:=Qz (d:=(Ty.dflt Qa)) hr
  have hw:=Qy hl hk
  have ih2 : ∀ (z1 : (List Qb)) (r : (List Qb)),JT m rest z1 = some r → Ev (fun n=>ZU n z1 x2 (x2.length : Int) (IntKind.wrap .i64 ((k : Int) + 1))) r:=by
   intro z1 r h; rw [hw]; exact ih (k + 1) z1 r hr2 h
  rw [JT] at h
  refine Ev.step ?_ (fun n=>QaU n x1 x2 (x2.length : Int) (k : Int))
  rw [show decide ((k : Int) < (x2.length : Int)) = true from decide_eq_true (by omega),Qx hk,hx]
  exact Ev.pos rfl (Ev.pos rfl (Qpd ih2 _ _ _ h))
theorem Qxv {m : Nat} (a0 : (List Qb)) {r : (List Qb)} (h : HR m a0 = some r) : Ev (fun n=>QjE n a0) r:=by
 rw [HR] at h
 refine Ev.of_eq ?_ (fun n=>QqO n a0)
 exact (Ev.ofLen h fun hl h=>Qpe hl _ (0 : Nat) _ _ rfl h)
theorem Qs2 : ∀ x ∈ Gj,Qh Tryz.prog x:=(Qd QiO Qk)
theorem Qu8 : Qh Tryz.prog (QjD):=by
 refine QsE (by kernel_rfl) (by kernel_rfl : Tryz.prog.funcs[30]? = some Tryz.f30) (code:=Tryz.f30.body.getD .skip) (by kernel_rfl) (by kernel_rfl) (A:=GO) (I:=Gi) (Qs2) ?_
 rintro ⟨a0,u⟩ y hy
 exact let ⟨_,h⟩:=(GL hy).get; (Qxv a0 h).get
def Y2 (a0 : Ql) : Option Ql :=
 bif decide ((a0.2.2.1.length : Int) * 48 ≤ Qv) && decide ((a0.2.2.1.length : Int) ≤ Qv) then
  bif decide ((a0.2.2.2.length : Int) * 16 ≤ Qv) && decide ((a0.2.2.2.length : Int) ≤ Qv) then
   some (a0.1,a0.2.1,a0.2.2.1,a0.2.2.2)
  else none
 else none
def Qaa : Ctr:=⟨70,[Qf],[Qf],fun x=>Y2 x.1⟩
def QgN : List (List Nat × Ann):=[]
def Qfv : List (List Nat × Nat):=[]
def Qfw : List Ctr:=[]
def QgO (n : Nat) (a0 : Ql) : Option Ql:=run Tryz.prog QgN Qfv (Qn Qfw) Tryz.f70 (Tryz.f70.body.getD .skip) (Qp [Qf]) n (Qt [Qf] (a0,()))
theorem QnF (n : Nat) (a0 : Ql) : QgO n a0 =
  bif decide ((a0.2.2.1.length : Int) * 48 ≤ Qv) && decide ((a0.2.2.1.length : Int) ≤ Qv) then
   bif decide ((a0.2.2.2.length : Int) * 16 ≤ Qv) && decide ((a0.2.2.2.length : Int) ≤ Qv) then
    some (a0.1,a0.2.1,a0.2.2.1,a0.2.2.2)
   else none
  else none:=by kernel_rfl
theorem Qs3 (a0 : Ql) {r : Ql} (h : Y2 a0 = some r) : Ev (fun n=>QgO n a0) r:=by
 rw [Y2] at h
 refine Ev.of_eq ?_ (fun n=>QnF n a0)
 exact (Ev.ofBif h (fun h=>(Ev.ofBif h (fun h=>(Ev.ofSome h)) (fun h=>(Ev.ofNone h)))) (fun h=>(Ev.ofNone h)))
theorem Qpf : ∀ x ∈ Qfw,Qh Tryz.prog x:=Qk
theorem QqP : Qh Tryz.prog (Qaa):=by
 refine Qj (c:=Qaa) (by kernel_rfl) (by kernel_rfl : Tryz.prog.funcs[70]? = some Tryz.f70) (code:=Tryz.f70.body.getD .skip) (by kernel_rfl) (by kernel_rfl) (by kernel_rfl) (A:=QgN) (I:=Qfv) (Qpf) ?_
 rintro ⟨a0,u⟩ y hy
 exact (Qs3 a0 hy).get
def Zi (x5 : Qc) : List Ql → (List Ql) → Option Qc
 | [],x1 =>
   some (x5.1,x5.2.1,x5.2.2.1,x1)
 | e :: rest,x1 =>
   Option.bind (Y2 (e)) fun (y1 : Ql) =>
   bif decide (((x1.length : Int) + (([y1] : List Ql).length : Int)) * 104 ≤ Qv) && decide ((x1.length : Int) + (([y1] : List Ql).length : Int) ≤ Qv) then
    Zi x5 rest (x1 ++ ([y1] : List Ql))
   else none
def JU (a0 : Qc) : Option Qc :=
 bif decide ((a0.2.1.length : Int) * 48 ≤ Qv) && decide ((a0.2.1.length : Int) ≤ Qv) then
  bif decide ((a0.2.2.1.length : Int) * 16 ≤ Qv) && decide ((a0.2.2.1.length : Int) ≤ Qv) then
   Zu a0.2.2.2 (Zi (a0.1,a0.2.1,a0.2.2.1,a0.2.2.2) a0.2.2.2 [])
  else none
 else none
def W0 : Ctr:=⟨32,[Qe],[Qe],fun x=>JU x.1⟩
def W1 : List (List Nat × Ann):=[([0,7],[.keep 0 1,.keep 0 2,.own 0 5 Qf,.keep 0 19,.keep 0 20,.keep 0 21,.boxd 0 1 Qe,.boxd 0 2 Qe])]
def UK : List (List Nat × Nat):=[]
def UL : List Ctr:=[Qaa]
def Qfx (n : Nat) (a0 : Qc) : Option Qc:=run Tryz.prog W1 UK (Qn UL) Tryz.f32 (Tryz.f32.body.getD .skip) (Qp [Qe]) n (Qt [Qe] (a0,()))
abbrev Vc (n : Nat) (x1 : (List Ql)) (x2 : (List Ql)) (x3 : Int) (x4 : Int) (x5 : Qc) (x6 : Qc) : Option Qc:=lam Tryz.prog W1 UK (Qn UL) Tryz.f32 (Tryz.f32.body.getD .skip) (Qp [Qe]) n [0,7] [.ptr 0 1 0,.ptr 0 2 0,.own 0 Qf x1,.d (.list Qf) x2,.d I64 x3,.d I64 x4,.agg (Qq Qe x5),.agg (Qq Qe x6)]
theorem Qlx (n : Nat) (a0 : Qc) : Qfx n a0 =
  bif decide ((a0.2.1.length : Int) * 48 ≤ Qv) && decide ((a0.2.1.length : Int) ≤ Qv) then
   bif decide ((a0.2.2.1.length : Int) * 16 ≤ Qv) && decide ((a0.2.2.1.length : Int) ≤ Qv) then
    Vc n [] a0.2.2.2 (a0.2.2.2.length : Int) 0 (a0.1,a0.2.1,a0.2.2.1,a0.2.2.2) ((0,0,([] : List Int),([] : List Int)),[],[],[])
   else none
  else none:=by kernel_rfl
theorem UM (n : Nat) (x1 : (List Ql)) (x2 : (List Ql)) (x3 : Int) (x4 : Int) (x5 : Qc) (x6 : Qc) : Vc (n + 1) x1 x2 x3 x4 x5 x6 =
  bif decide (x4 < x3) then
   bif inB x4 x2.length then
    Option.bind (Y2 (rd x2 x4 (Ty.dflt Qf))) fun (y1 : Ql) =>
    bif decide (((x1.length : Int) + (([y1] : List Ql).length : Int)) * 104 ≤ Qv) && decide ((x1.length : Int) + (([y1] : List Ql).length : Int) ≤ Qv) then
     Vc n (x1 ++ ([y1] : List Ql)) x2 x3 (IntKind.wrap .i64 (x4 + 1)) x5 x6
    else none
   else none
  else
   some (x5.1,x5.2.1,x5.2.2.1,x1):=by kernel_rfl
theorem QjH {x2 : (List Ql)} {x5 : Qc} {x6 : Qc} (hl : x2.length ≤ maxLen) : ∀ (rest : List Ql) (k : Nat) (x1 : (List Ql)) (r : Qc),rest = x2.drop k → Zi x5 rest x1 = some r → Ev (fun n=>Vc n x1 x2 (x2.length : Int) (k : Int) x5 x6) r:=by
 intro rest
 induction rest with
 | nil =>
  intro k x1 r hr h
  have hk:=QH hr
  rw [Zi] at h
  refine Ev.step ?_ (fun n=>UM n x1 x2 (x2.length : Int) (k : Int) x5 x6)
  rw [show decide ((k : Int) < (x2.length : Int)) = false from decide_eq_false (by omega)]
  exact Ev.neg rfl (Ev.ofSome h)
 | cons e rest ih =>
  intro k x1 r hr h
  obtain ⟨hk,hx,hr2⟩:=Qz (d:=(Ty.dflt Qf)) hr
  have hw:=Qy hl hk
  have ih2 : ∀ (z1 : (List Ql)) (r : Qc),Zi x5 rest z1 = some r → Ev (fun n=>Vc n z1 x2 (x2.length : Int) (IntKind.wrap .i64 ((k : Int) + 1)) x5 x6) r:=by
   intro z1 r h; rw [hw]; exact ih (k + 1) z1 r hr2 h
  rw [Zi] at h
  refine Ev.step ?_ (fun n=>UM n x1 x2 (x2.length : Int) (k : Int) x5 x6)
  rw [show decide ((k : Int) < (x2.length : Int)) = true from decide_eq_true (by omega),Qx hk,hx]
  exact Ev.pos rfl (Ev.pos rfl (Ev.ofBind h fun y1 h=>(Ev.ofBif h (fun h=>(ih2 _ _ h)) (fun h=>(Ev.ofNone h)))))
theorem QqQ (a0 : Qc) {r : Qc} (h : JU a0 = some r) : Ev (fun n=>Qfx n a0) r:=by
 rw [JU] at h
 refine Ev.of_eq ?_ (fun n=>Qlx n a0)
 exact (Ev.ofBif h (fun h=>(Ev.ofBif h (fun h=>(Ev.ofLen h fun hl h=>QjH hl _ (0 : Nat) _ _ rfl h)) (fun h=>(Ev.ofNone h)))) (fun h=>(Ev.ofNone h)))
theorem QnG : ∀ x ∈ UL,Qh Tryz.prog x:=(Qd QqP Qk)
theorem Qpg : Qh Tryz.prog (W0):=by
 refine Qj (c:=W0) (by kernel_rfl) (by kernel_rfl : Tryz.prog.funcs[32]? = some Tryz.f32) (code:=Tryz.f32.body.getD .skip) (by kernel_rfl) (by kernel_rfl) (by kernel_rfl) (A:=W1) (I:=UK) (QnG) ?_
 rintro ⟨a0,u⟩ y hy
 exact (QqQ a0 hy).get
def Q1 (K0 : (List Qb) → Option (List Qc)) : List Qr → (List Qb) → Option (List Qc)
 | [],x2 =>
   K0 x2
 | e :: rest,x2 =>
   bif decide ((e).1 = 1) then
    bif decide (((((e).2).2).1).1 = 4) then
     bif decide (((x2.length : Int) + (([((((e).2).2).1)] : List Qb).length : Int)) * 48 ≤ Qv) && decide ((x2.length : Int) + (([((((e).2).2).1)] : List Qb).length : Int) ≤ Qv) then
      Q1 K0 rest (x2 ++ ([((((e).2).2).1)] : List Qb))
     else none
    else
     Q1 K0 rest x2
   else
    Q1 K0 rest x2
def Za (K3 : (List Qb) → Bool → (List Bool) → Option (List Qc)) (x10 : (List Bool)) : List Qb → (List Qb) → Option (List Qc)
 | [],x2 =>
   K3 x2 false x10
 | e :: rest,x2 =>
   Option.bind (VZ x2 (e)) fun (y6 : Bool) =>
   bif !(y6) then
    bif decide (((x2.length : Int) + (([(e)] : List Qb).length : Int)) * 48 ≤ Qv) && decide ((x2.length : Int) + (([(e)] : List Qb).length : Int) ≤ Qv) then
     Za K3 x10 rest (x2 ++ ([(e)] : List Qb))
    else none
   else
    Za K3 x10 rest x2
def QM (K2 : (List Qb) → Bool → (List Bool) → Option (List Qc)) : List Qc → Nat → (List Qb) → Bool → (List Bool) → Option (List Qc)
 | [],k,x2,x3,x7 =>
   K2 x2 x3 x7
 | e :: rest,k,x2,x3,x7 =>
   bif inB (k : Int) x7.length then
    bif inB (k : Int) x7.length then
     bif rd x7 (k : Int) (Ty.dflt .bool) then
      QM K2 rest (k + 1) x2 x3 x7
     else
      Option.bind (VZ x2 ((e).1)) fun (y4 : Bool) =>
      bif !(y4) then
       QM K2 rest (k + 1) x2 x3 x7
      else
       bif inB (k : Int) x7.length then
        bif inB (k : Int) x7.length && true && true && true && true then
         bif decide (((([] : List Qb).length : Int) + ((((e).2).1).length : Int)) * 48 ≤ Qv) && decide ((([] : List Qb).length : Int) + ((((e).2).1).length : Int) ≤ Qv) then
          Option.bind (Vr ((((e).2).2).2)) fun (y5 : (List Qb)) =>
          bif decide ((((([] : List Qb) ++ (((e).2).1)).length : Int) + (y5.length : Int)) * 48 ≤ Qv) && decide (((([] : List Qb) ++ (((e).2).1)).length : Int) + (y5.length : Int) ≤ Qv) then
           Zu ((([] : List Qb) ++ (((e).2).1)) ++ y5) (Za (fun s0 s1 s2=>QM K2 rest (k + 1) s0 s1 s2) (x7.set (Int.toNat (k : Int)) true) ((([] : List Qb) ++ (((e).2).1)) ++ y5) x2)
          else none
         else none
        else none
       else none
    else none
   else none
def Q2 (x5 : (List Bool)) : List Qc → Nat → (List Qc) → Option (List Qc)
 | [],k,x1 =>
   some x1
 | e :: rest,k,x1 =>
   bif inB (k : Int) x5.length then
    bif inB (k : Int) x5.length then
     bif rd x5 (k : Int) (Ty.dflt .bool) then
      Option.bind (JU (((e).1),((e).2))) fun (y7 : Qc) =>
      bif decide (((x1.length : Int) + (([y7] : List Qc).length : Int)) * 120 ≤ Qv) && decide ((x1.length : Int) + (([y7] : List Qc).length : Int) ≤ Qv) then
       Q2 x5 rest (k + 1) (x1 ++ ([y7] : List Qc))
      else none
     else
      Q2 x5 rest (k + 1) x1
    else none
   else none
def Zj (x1 : (List Qc)) : Nat → (List Qb) → Bool → (List Bool) → Option (List Qc)
 | 0,_,_,_=>none
 | m + 1,x2,x3,x4 =>
   bif !(x3) then
    Zu x1 (QM (fun s0 s1 s2=>Zj x1 m s0 s1 s2) x1 0 x2 true x4)
   else
    Zu x1 (Q2 x4 x1 0 [])
def QT (m : Nat) (x1 : (List Qc)) : List Qi → (List Qb) → Option (List Qc)
 | [],x2 =>
   Option.bind (EJ x2) fun (y3 : (List Qb)) =>
   bif decide ((x1.length : Int) = (x1.length : Int)) && decide ((0 : Int) ≤ (x1.length : Int)) && decide ((x1.length : Int) * 1 ≤ Qv) && true then
    Zj x1 m y3 false (List.replicate (Int.toNat (x1.length : Int)) false)
   else none
 | e :: rest,x2 =>
   Zu ((((((e).2).2).2).2).2) (Q1 (fun s0=>QT m x1 rest s0) ((((((e).2).2).2).2).2) x2)
def ZB (m : Nat) (a0 : (List Qc)) (a1 : QD) (a2 : (List Qi)) : Option (List Qc) :=
 Option.bind (Vq a0 a1 a2) fun (y1 : Bool) =>
 bif !(y1) then
  some ([])
 else
  Option.bind (Vr a1.2.2.2.2) fun (y2 : (List Qb)) =>
  bif decide (((([a1.1,a1.2.1,a1.2.2.1] : List Qb).length : Int) + (y2.length : Int)) * 48 ≤ Qv) && decide ((([a1.1,a1.2.1,a1.2.2.1] : List Qb).length : Int) + (y2.length : Int) ≤ Qv) then
   Zu a2 (QT m a0 a2 (([a1.1,a1.2.1,a1.2.2.1] : List Qb) ++ y2))
  else none
def HK (a0 : (List Qc)) (a1 : QD) (a2 : (List Qi)) : Option (List Qc):=Qcw fun m=>ZB m a0 a1 a2
def Qab : Ctr:=⟨8,[(.list Qe),Qu,(.list Qg)],[(.list Qe)],fun x=>HK x.1 x.2.1 x.2.2.1⟩
def Yg : List (List Nat × Ann):=[([0,5],[.keep 0 0,.own 0 7 Qa,.keep 0 37,.keep 0 38,.keep 0 39]),([0,8],[.keep 0 0,.own 0 7 Qa,.keep 0 37,.keep 0 38,.keep 0 39,.keep 0 44,.keep 0 45,.keep 0 46]),([0,17],[.keep 0 0,.own 0 7 Qa,.keep 0 12,.keep 0 13,.rows 0 70 .bool]),([0,20],[.keep 0 0,.own 0 7 Qa,.keep 0 12,.keep 0 13,.keep 0 73,.keep 0 74,.keep 0 75,.rows 0 70 .bool]),([0,26],[.keep 0 0,.own 0 7 Qa,.keep 0 12,.keep 0 13,.keep 0 73,.keep 0 74,.keep 0 75,.own 0 101 Qa,.keep 0 102,.keep 0 103,.rows 0 70 .bool]),([0,34],[.keep 0 12,.own 0 18 Qe,.keep 0 117,.keep 0 118,.keep 0 119,.rows 0 70 .bool])]
def JV : List (List Nat × Nat):=[([14001],1000030)]
def JW : List Ctr:=[QgJ,QgK,QjD,QiS,W0]
def QgP (n : Nat) (a0 : (List Qc)) (a1 : QD) (a2 : (List Qi)) : Option (List Qc):=run Tryz.prog Yg JV (Qn JW) Tryz.f8 (Tryz.f8.body.getD .skip) (Qp [(.list Qe)]) n (Qt [(.list Qe),Qu,(.list Qg)] (a0,a1,a2,()))
abbrev Yp (n : Nat) (x1 : (List Qc)) (x2 : (List Qb)) (x3 : (List Qi)) (x4 : Int) (x5 : Int) : Option (List Qc):=lam Tryz.prog Yg JV (Qn JW) Tryz.f8 (Tryz.f8.body.getD .skip) (Qp [(.list Qe)]) n [0,5] [.d (.list Qe) x1,.own 0 Qa x2,.d (.list Qg) x3,.d I64 x4,.d I64 x5]
abbrev JF (n : Nat) (x1 : (List Qc)) (x2 : (List Qb)) (x3 : (List Qi)) (x4 : Int) (x5 : Int) (x6 : (List Qr)) (x7 : Int) (x8 : Int) : Option (List Qc):=lam Tryz.prog Yg JV (Qn JW) Tryz.f8 (Tryz.f8.body.getD .skip) (Qp [(.list Qe)]) n [0,8] [.d (.list Qe) x1,.own 0 Qa x2,.d (.list Qg) x3,.d I64 x4,.d I64 x5,.d (.list Qo) x6,.d I64 x7,.d I64 x8]
abbrev Vd (n : Nat) (x1 : (List Qc)) (x2 : (List Qb)) (x3 : Bool) (x4 : (List Bool)) : Option (List Qc):=lam Tryz.prog Yg JV (Qn JW) Tryz.f8 (Tryz.f8.body.getD .skip) (Qp [(.list Qe)]) n [0,17] [.d (.list Qe) x1,.own 0 Qa x2,.msl 0 70,.d .bool x3,.d (.list .bool) x4]
abbrev ZJ (n : Nat) (x1 : (List Qc)) (x2 : (List Qb)) (x3 : Bool) (x4 : (List Qc)) (x5 : Int) (x6 : Int) (x7 : (List Bool)) : Option (List Qc):=lam Tryz.prog Yg JV (Qn JW) Tryz.f8 (Tryz.f8.body.getD .skip) (Qp [(.list Qe)]) n [0,20] [.d (.list Qe) x1,.own 0 Qa x2,.msl 0 70,.d .bool x3,.d (.list Qe) x4,.d I64 x5,.d I64 x6,.d (.list .bool) x7]
abbrev J7 (n : Nat) (x1 : (List Qc)) (x2 : (List Qb)) (x3 : Bool) (x4 : (List Qc)) (x5 : Int) (x6 : Int) (x7 : (List Qb)) (x8 : Int) (x9 : Int) (x10 : (List Bool)) : Option (List Qc):=lam Tryz.prog Yg JV (Qn JW) Tryz.f8 (Tryz.f8.body.getD .skip) (Qp [(.list Qe)]) n [0,26] [.d (.list Qe) x1,.own 0 Qa x2,.msl 0 70,.d .bool x3,.d (.list Qe) x4,.d I64 x5,.d I64 x6,.own 0 Qa x7,.d I64 x8,.d I64 x9,.d (.list .bool) x10]
abbrev J8 (n : Nat) (x1 : (List Qc)) (x2 : (List Qc)) (x3 : Int) (x4 : Int) (x5 : (List Bool)) : Option (List Qc):=lam Tryz.prog Yg JV (Qn JW) Tryz.f8 (Tryz.f8.body.getD .skip) (Qp [(.list Qe)]) n [0,34] [.msl 0 70,.own 0 Qe x1,.d (.list Qe) x2,.d I64 x3,.d I64 x4,.d (.list .bool) x5]
theorem QnH (n : Nat) (a0 : (List Qc)) (a1 : QD) (a2 : (List Qi)) : QgP n a0 a1 a2 =
  Option.bind (Vq a0 a1 a2) fun (y1 : Bool) =>
  bif !(y1) then
   some ([])
  else
   Option.bind (Vr a1.2.2.2.2) fun (y2 : (List Qb)) =>
   bif decide (((([a1.1,a1.2.1,a1.2.2.1] : List Qb).length : Int) + (y2.length : Int)) * 48 ≤ Qv) && decide ((([a1.1,a1.2.1,a1.2.2.1] : List Qb).length : Int) + (y2.length : Int) ≤ Qv) then
    Yp n a0 (([a1.1,a1.2.1,a1.2.2.1] : List Qb) ++ y2) a2 (a2.length : Int) 0
   else none:=by kernel_rfl
theorem WO (n : Nat) (x1 : (List Qc)) (x2 : (List Qb)) (x3 : (List Qi)) (x4 : Int) (x5 : Int) : Yp (n + 1) x1 x2 x3 x4 x5 =
  bif decide (x5 < x4) then
   bif inB x5 x3.length then
    JF n x1 x2 x3 x4 x5 ((((((rd x3 x5 (Ty.dflt Qg)).2).2).2).2).2) (((((((rd x3 x5 (Ty.dflt Qg)).2).2).2).2).2).length : Int) 0
   else none
  else
   Option.bind (EJ x2) fun (y3 : (List Qb)) =>
   bif decide ((x1.length : Int) = (x1.length : Int)) && decide ((0 : Int) ≤ (x1.length : Int)) && decide ((x1.length : Int) * 1 ≤ Qv) && true then
    Vd n x1 y3 false (List.replicate (Int.toNat (x1.length : Int)) false)
   else none:=by kernel_rfl
theorem WP (n : Nat) (x1 : (List Qc)) (x2 : (List Qb)) (x3 : (List Qi)) (x4 : Int) (x5 : Int) (x6 : (List Qr)) (x7 : Int) (x8 : Int) : JF (n + 1) x1 x2 x3 x4 x5 x6 x7 x8 =
  bif decide (x8 < x7) then
   bif inB x8 x6.length then
    bif decide ((rd x6 x8 (Ty.dflt Qo)).1 = 1) then
     bif decide (((((rd x6 x8 (Ty.dflt Qo)).2).2).1).1 = 4) then
      bif decide (((x2.length : Int) + (([((((rd x6 x8 (Ty.dflt Qo)).2).2).1)] : List Qb).length : Int)) * 48 ≤ Qv) && decide ((x2.length : Int) + (([((((rd x6 x8 (Ty.dflt Qo)).2).2).1)] : List Qb).length : Int) ≤ Qv) then
       JF n x1 (x2 ++ ([((((rd x6 x8 (Ty.dflt Qo)).2).2).1)] : List Qb)) x3 x4 x5 x6 x7 (IntKind.wrap .i64 (x8 + 1))
      else none
     else
      JF n x1 x2 x3 x4 x5 x6 x7 (IntKind.wrap .i64 (x8 + 1))
    else
     JF n x1 x2 x3 x4 x5 x6 x7 (IntKind.wrap .i64 (x8 + 1))
   else none
  else
   Yp n x1 x2 x3 x4 (IntKind.wrap .i64 (x5 + 1)):=by kernel_rfl
theorem QgQ (n : Nat) (x1 : (List Qc)) (x2 : (List Qb)) (x3 : Bool) (x4 : (List Bool)) : Vd (n + 1) x1 x2 x3 x4 =
  bif !(x3) then
   ZJ n x1 x2 true x1 (x1.length : Int) 0 x4
  else
   J8 n [] x1 (x1.length : Int) 0 x4:=by kernel_rfl
theorem UN (n : Nat) (x1 : (List Qc)) (x2 : (List Qb)) (x3 : Bool) (x4 : (List Qc)) (x5 : Int) (x6 : Int) (x7 : (List Bool)) : ZJ (n + 1) x1 x2 x3 x4 x5 x6 x7 =
  bif decide (x6 < x5) then
   bif inB x6 x4.length then
    bif inB x6 x7.length then
     bif inB x6 x7.length then
      bif rd x7 x6 (Ty.dflt .bool) then
       ZJ n x1 x2 x3 x4 x5 (IntKind.wrap .i64 (x6 + 1)) x7
      else
       Option.bind (VZ x2 ((rd x4 x6 (Ty.dflt Qe)).1)) fun (y4 : Bool) =>
       bif !(y4) then
        ZJ n x1 x2 x3 x4 x5 (IntKind.wrap .i64 (x6 + 1)) x7
       else
        bif inB x6 x7.length then
         bif inB x6 x7.length && true && true && true && true then
          bif decide (((([] : List Qb).length : Int) + ((((rd x4 x6 (Ty.dflt Qe)).2).1).length : Int)) * 48 ≤ Qv) && decide ((([] : List Qb).length : Int) + ((((rd x4 x6 (Ty.dflt Qe)).2).1).length : Int) ≤ Qv) then
           Option.bind (Vr ((((rd x4 x6 (Ty.dflt Qe)).2).2).2)) fun (y5 : (List Qb)) =>
           bif decide ((((([] : List Qb) ++ (((rd x4 x6 (Ty.dflt Qe)).2).1)).length : Int) + (y5.length : Int)) * 48 ≤ Qv) && decide (((([] : List Qb) ++ (((rd x4 x6 (Ty.dflt Qe)).2).1)).length : Int) + (y5.length : Int) ≤ Qv) then
            J7 n x1 x2 false x4 x5 x6 ((([] : List Qb) ++ (((rd x4 x6 (Ty.dflt Qe)).2).1)) ++ y5) (((([] : List Qb) ++ (((rd x4 x6 (Ty.dflt Qe)).2).1)) ++ y5).length : Int) 0 (x7.set (Int.toNat x6) true)
           else none
          else none
         else none
        else none
     else none
    else none
   else none
  else
   Vd n x1 x2 x3 x7:=by kernel_rfl
theorem UO (n : Nat) (x1 : (List Qc)) (x2 : (List Qb)) (x3 : Bool) (x4 : (List Qc)) (x5 : Int) (x6 : Int) (x7 : (List Qb)) (x8 : Int) (x9 : Int) (x10 : (List Bool)) : J7 (n + 1) x1 x2 x3 x4 x5 x6 x7 x8 x9 x10 =
  bif decide (x9 < x8) then
   bif inB x9 x7.length then
    Option.bind (VZ x2 (rd x7 x9 (Ty.dflt Qa))) fun (y6 : Bool) =>
    bif !(y6) then
     bif decide (((x2.length : Int) + (([(rd x7 x9 (Ty.dflt Qa))] : List Qb).length : Int)) * 48 ≤ Qv) && decide ((x2.length : Int) + (([(rd x7 x9 (Ty.dflt Qa))] : List Qb).length : Int) ≤ Qv) then
      J7 n x1 (x2 ++ ([(rd x7 x9 (Ty.dflt Qa))] : List Qb)) x3 x4 x5 x6 x7 x8 (IntKind.wrap .i64 (x9 + 1)) x10
     else none
    else
     J7 n x1 x2 x3 x4 x5 x6 x7 x8 (IntKind.wrap .i64 (x9 + 1)) x10
   else none
  else
   ZJ n x1 x2 x3 x4 x5 (IntKind.wrap .i64 (x6 + 1)) x10:=by kernel_rfl
theorem UP (n : Nat) (x1 : (List Qc)) (x2 : (List Qc)) (x3 : Int) (x4 : Int) (x5 : (List Bool)) : J8 (n + 1) x1 x2 x3 x4 x5 =
  bif decide (x4 < x3) then
   bif inB x4 x2.length then
    bif inB x4 x5.length then
     bif inB x4 x5.length then
      bif rd x5 x4 (Ty.dflt .bool) then
       Option.bind (JU (((rd x2 x4 (Ty.dflt Qe)).1),((rd x2 x4 (Ty.dflt Qe)).2))) fun (y7 : Qc) =>
       bif decide (((x1.length : Int) + (([y7] : List Qc).length : Int)) * 120 ≤ Qv) && decide ((x1.length : Int) + (([y7] : List Qc).length : Int) ≤ Qv) then
        J8 n (x1 ++ ([y7] : List Qc)) x2 x3 (IntKind.wrap .i64 (x4 + 1)) x5
       else none
      else
       J8 n x1 x2 x3 (IntKind.wrap .i64 (x4 + 1)) x5
     else none
    else none
   else none
  else
   some x1:=by kernel_rfl
theorem Qly {K0 : (List Qb) → Option (List Qc)} {x1 : (List Qc)} {x3 : (List Qi)} {x4 : Int} {x5 : Int} {x6 : (List Qr)} (hl : x6.length ≤ maxLen) (hK0 : ∀ (z2 : (List Qb)) (r : (List Qc)),K0 z2 = some r → Ev (fun n=>Yp n x1 z2 x3 x4 (IntKind.wrap .i64 (x5 + 1))) r) : ∀ (rest : List Qr) (k : Nat) (x2 : (List Qb)) (r : (List Qc)),rest = x6.drop k → Q1 K0 rest x2 = some r → Ev (fun n=>JF n x1 x2 x3 x4 x5 x6 (x6.length : Int) (k : Int)) r:=by
 intro rest
 induction rest with
 | nil =>
  intro k x2 r hr h
  have hk:=QH hr
  rw [Q1] at h
  refine Ev.step ?_ (fun n=>WP n x1 x2 x3 x4 x5 x6 (x6.length : Int) (k : Int))
  rw [show decide ((k : Int) < (x6.length : Int)) = false from decide_eq_false (by omega)]
  exact Ev.neg rfl (hK0 _ _ h)
 | cons e rest ih =>
  intro k x2 r hr h
  obtain ⟨hk,hx,hr2⟩:=Qz (d:=(Ty.dflt Qo)) hr
  have hw:=Qy hl hk
  have ih2 : ∀ (z2 : (List Qb)) (r : (List Qc)),Q1 K0 rest z2 = some r → Ev (fun n=>JF n x1 z2 x3 x4 x5 x6 (x6.length : Int) (IntKind.wrap .i64 ((k : Int) + 1))) r:=by
   intro z2 r h; rw [hw]; exact ih (k + 1) z2 r hr2 h
  rw [Q1] at h
  refine Ev.step ?_ (fun n=>WP n x1 x2 x3 x4 x5 x6 (x6.length : Int) (k : Int))
  rw [show decide ((k : Int) < (x6.length : Int)) = true from decide_eq_true (by omega),Qx hk,hx]
  exact Ev.pos rfl (Ev.pos rfl (Ev.ofBif h (fun h=>(Ev.ofBif h (fun h=>(Ev.ofBif h (fun h=>(ih2 _ _ h)) (fun h=>(Ev.ofNone h)))) (fun h=>(ih2 _ _ h)))) (fun h=>(ih2 _ _ h))))
theorem QjI {K3 : (List Qb) → Bool → (List Bool) → Option (List Qc)} {x1 : (List Qc)} {x5 : Int} {x6 : Int} {x7 : (List Qb)} {x10 : (List Bool)} (hl : x7.length ≤ maxLen) (hK3 : ∀ (z2 : (List Qb)) (z3 : Bool) (z7 : (List Bool)) (r : (List Qc)),K3 z2 z3 z7 = some r → Ev (fun n=>ZJ n x1 z2 z3 x1 x5 (IntKind.wrap .i64 (x6 + 1)) z7) r) : ∀ (rest : List Qb) (k : Nat) (x2 : (List Qb)) (r : (List Qc)),rest = x7.drop k → Za K3 x10 rest x2 = some r → Ev (fun n=>J7 n x1 x2 false x1 x5 x6 x7 (x7.length : Int) (k : Int) x10) r:=by
 intro rest
 induction rest with
 | nil =>
  intro k x2 r hr h
  have hk:=QH hr
  rw [Za] at h
  refine Ev.step ?_ (fun n=>UO n x1 x2 false x1 x5 x6 x7 (x7.length : Int) (k : Int) x10)
  rw [show decide ((k : Int) < (x7.length : Int)) = false from decide_eq_false (by omega)]
  exact Ev.neg rfl (hK3 _ _ _ _ h)
 | cons e rest ih =>
  intro k x2 r hr h
  obtain ⟨hk,hx,hr2⟩:=Qz (d:=(Ty.dflt Qa)) hr
  have hw:=Qy hl hk
  have ih2 : ∀ (z2 : (List Qb)) (r : (List Qc)),Za K3 x10 rest z2 = some r → Ev (fun n=>J7 n x1 z2 false x1 x5 x6 x7 (x7.length : Int) (IntKind.wrap .i64 ((k : Int) + 1)) x10) r:=by
   intro z2 r h; rw [hw]; exact ih (k + 1) z2 r hr2 h
  rw [Za] at h
  refine Ev.step ?_ (fun n=>UO n x1 x2 false x1 x5 x6 x7 (x7.length : Int) (k : Int) x10)
  rw [show decide ((k : Int) < (x7.length : Int)) = true from decide_eq_true (by omega),Qx hk,hx]
  exact Ev.pos rfl (Ev.pos rfl (Ev.ofBind h fun y6 h=>(Ev.ofBif h (fun h=>(Ev.ofBif h (fun h=>(ih2 _ _ h)) (fun h=>(Ev.ofNone h)))) (fun h=>(ih2 _ _ h)))))
theorem QjJ {K2 : (List Qb) → Bool → (List Bool) → Option (List Qc)} {x1 : (List Qc)} (hl : x1.length ≤ maxLen) (hK2 : ∀ (z2 : (List Qb)) (z3 : Bool) (z4 : (List Bool)) (r : (List Qc)),K2 z2 z3 z4 = some r → Ev (fun n=>Vd n x1 z2 z3 z4) r) : ∀ (rest : List Qc) (k : Nat) (x2 : (List Qb)) (x3 : Bool) (x7 : (List Bool)) (r : (List Qc)),rest = x1.drop k → QM K2 rest k x2 x3 x7 = some r → Ev (fun n=>ZJ n x1 x2 x3 x1 (x1.length : Int) (k : Int) x7) r:=by
 intro rest
 induction rest with
 | nil =>
  intro k x2 x3 x7 r hr h
  have hk:=QH hr
  rw [QM] at h
  refine Ev.step ?_ (fun n=>UN n x1 x2 x3 x1 (x1.length : Int) (k : Int) x7)
  rw [show decide ((k : Int) < (x1.length : Int)) = false from decide_eq_false (by omega)]
  exact Ev.neg rfl (hK2 _ _ _ _ h)
 | cons e rest ih =>
  intro k x2 x3 x7 r hr h
  obtain ⟨hk,hx,hr2⟩:=Qz (d:=(Ty.dflt Qe)) hr
  have hw:=Qy hl hk
  have ih2 : ∀ (z2 : (List Qb)) (z3 : Bool) (z7 : (List Bool)) (r : (List Qc)),QM K2 rest (k + 1) z2 z3 z7 = some r → Ev (fun n=>ZJ n x1 z2 z3 x1 (x1.length : Int) (IntKind.wrap .i64 ((k : Int) + 1)) z7) r:=by
   intro z2 z3 z7 r h; rw [hw]; exact ih (k + 1) z2 z3 z7 r hr2 h
  rw [QM] at h
  refine Ev.step ?_ (fun n=>UN n x1 x2 x3 x1 (x1.length : Int) (k : Int) x7)
  rw [show decide ((k : Int) < (x1.length : Int)) = true from decide_eq_true (by omega),Qx hk,hx]
  exact Ev.pos rfl (Ev.pos rfl (Ev.ofBif h (fun h=>(Ev.ofBif h (fun h=>(Ev.ofBif h (fun h=>(ih2 _ _ _ _ h)) (fun h=>(Ev.ofBind h fun y4 h=>(Ev.ofBif h (fun h=>(ih2 _ _ _ _ h)) (fun h=>(Ev.ofBif h (fun h=>(Ev.ofBif h (fun h=>(Ev.ofBif h (fun h=>(Ev.ofBind h fun y5 h=>(Ev.ofBif h (fun h=>(Ev.ofLen h fun hl h=>QjI hl ih2 _ (0 : Nat) _ _ rfl h)) (fun h=>(Ev.ofNone h))))) (fun h=>(Ev.ofNone h)))) (fun h=>(Ev.ofNone h)))) (fun h=>(Ev.ofNone h))))))))) (fun h=>(Ev.ofNone h)))) (fun h=>(Ev.ofNone h))))
theorem QjK {x2 : (List Qc)} {x5 : (List Bool)} (hl : x2.length ≤ maxLen) : ∀ (rest : List Qc) (k : Nat) (x1 : (List Qc)) (r : (List Qc)),rest = x2.drop k → Q2 x5 rest k x1 = some r → Ev (fun n=>J8 n x1 x2 (x2.length : Int) (k : Int) x5) r:=by
 intro rest
 induction rest with
 | nil =>
  intro k x1 r hr h
  have hk:=QH hr
  rw [Q2] at h
  refine Ev.step ?_ (fun n=>UP n x1 x2 (x2.length : Int) (k : Int) x5)
  rw [show decide ((k : Int) < (x2.length : Int)) = false from decide_eq_false (by omega)]
  exact Ev.neg rfl (Ev.ofSome h)
 | cons e rest ih =>
  intro k x1 r hr h
  obtain ⟨hk,hx,hr2⟩:=Qz (d:=(Ty.dflt Qe)) hr
  have hw:=Qy hl hk
  have ih2 : ∀ (z1 : (List Qc)) (r : (List Qc)),Q2 x5 rest (k + 1) z1 = some r → Ev (fun n=>J8 n z1 x2 (x2.length : Int) (IntKind.wrap .i64 ((k : Int) + 1)) x5) r:=by
   intro z1 r h; rw [hw]; exact ih (k + 1) z1 r hr2 h
  rw [Q2] at h
  refine Ev.step ?_ (fun n=>UP n x1 x2 (x2.length : Int) (k : Int) x5)
  rw [show decide ((k : Int) < (x2.length : Int)) = true from decide_eq_true (by omega),Qx hk,hx]
  exact Ev.pos rfl (Ev.pos rfl (Ev.ofBif h (fun h=>(Ev.ofBif h (fun h=>(Ev.ofBif h (fun h=>(Ev.ofBind h fun y7 h=>(Ev.ofBif h (fun h=>(ih2 _ _ h)) (fun h=>(Ev.ofNone h))))) (fun h=>(ih2 _ _ h)))) (fun h=>(Ev.ofNone h)))) (fun h=>(Ev.ofNone h))))
theorem QjL {x1 : (List Qc)} : ∀ (m : Nat) (x2 : (List Qb)) (x3 : Bool) (x4 : (List Bool)) (r : (List Qc)),Zj x1 m x2 x3 x4 = some r → Ev (fun n=>Vd n x1 x2 x3 x4) r:=by
 intro m
 induction m with
 | zero=>intro x2 x3 x4 r h; rw [Zj] at h; exact Ev.ofNone h
 | succ m ih2 =>
  intro x2 x3 x4 r h
  rw [Zj] at h
  refine Ev.step ?_ (fun n=>QgQ n x1 x2 x3 x4)
  exact (Ev.ofBif h (fun h=>(Ev.ofLen h fun hl h=>QjJ hl ih2 _ (0 : Nat) _ _ _ _ rfl h)) (fun h=>(Ev.ofLen h fun hl h=>QjK hl _ (0 : Nat) _ _ rfl h)))
theorem Qlz {m : Nat} {x1 : (List Qc)} {x3 : (List Qi)} (hl : x3.length ≤ maxLen) : ∀ (rest : List Qi) (k : Nat) (x2 : (List Qb)) (r : (List Qc)),rest = x3.drop k → QT m x1 rest x2 = some r → Ev (fun n=>Yp n x1 x2 x3 (x3.length : Int) (k : Int)) r:=by
 intro rest
 induction rest with
 | nil =>
  intro k x2 r hr h
  have hk:=QH hr
  rw [QT] at h
  refine Ev.step ?_ (fun n=>WO n x1 x2 x3 (x3.length : Int) (k : Int))
  rw [show decide ((k : Int) < (x3.length : Int)) = false from decide_eq_false (by omega)]
  exact Ev.neg rfl (Ev.ofBind h fun y3 h=>(Ev.ofBif h (fun h=>(QjL _ _ _ _ _ h)) (fun h=>(Ev.ofNone h))))
 | cons e rest ih =>
  intro k x2 r hr h
  obtain ⟨hk,hx,hr2⟩:=Qz (d:=(Ty.dflt Qg)) hr
  have hw:=Qy hl hk
  have ih2 : ∀ (z2 : (List Qb)) (r : (List Qc)),QT m x1 rest z2 = some r → Ev (fun n=>Yp n x1 z2 x3 (x3.length : Int) (IntKind.wrap .i64 ((k : Int) + 1))) r:=by
   intro z2 r h; rw [hw]; exact ih (k + 1) z2 r hr2 h
  rw [QT] at h
  refine Ev.step ?_ (fun n=>WO n x1 x2 x3 (x3.length : Int) (k : Int))
  rw [show decide ((k : Int) < (x3.length : Int)) = true from decide_eq_true (by omega),Qx hk,hx]
  exact Ev.pos rfl (Ev.pos rfl (Ev.ofLen h fun hl h=>Qly hl ih2 _ (0 : Nat) _ _ rfl h))
theorem Qs4 {m : Nat} (a0 : (List Qc)) (a1 : QD) (a2 : (List Qi)) {r : (List Qc)} (h : ZB m a0 a1 a2 = some r) : Ev (fun n=>QgP n a0 a1 a2) r:=by
 rw [ZB] at h
 refine Ev.of_eq ?_ (fun n=>QnH n a0 a1 a2)
 exact (Ev.ofBind h fun y1 h=>(Ev.ofBif h (fun h=>(Ev.ofSome h)) (fun h=>(Ev.ofBind h fun y2 h=>(Ev.ofBif h (fun h=>(Ev.ofLen h fun hl h=>Qlz hl _ (0 : Nat) _ _ rfl h)) (fun h=>(Ev.ofNone h)))))))
theorem Qph : ∀ x ∈ JW,Qh Tryz.prog x:=(Qd Qzm (Qd Qzn (Qd Qu8 (Qd QBH (Qd Qpg Qk)))))
theorem QqR : Qh Tryz.prog (Qab):=by
 refine Qj (c:=Qab) (by kernel_rfl) (by kernel_rfl : Tryz.prog.funcs[8]? = some Tryz.f8) (code:=Tryz.f8.body.getD .skip) (by kernel_rfl) (by kernel_rfl) (by kernel_rfl) (A:=Yg) (I:=JV) (Qph) ?_
 rintro ⟨a0,a1,a2,u⟩ y hy
 exact let ⟨_,h⟩:=(GL hy).get; (Qs4 a0 a1 a2 h).get
def JX : List Int → Option Bool
 | [] =>
   some true
 | e :: rest =>
   bif decide (e < 32) then
    some false
   else
    bif decide ((126 : Int) < e) then
     some false
    else
     JX rest
def JK (a0 : (List Int)) (a1 : Int) (a2 : Int) : Option Bool :=
 bif decide ((a0.length : Int) < a1) then
  some false
 else
  bif decide (a2 < (a0.length : Int)) then
   some false
  else
   Zu a0 (JX a0)
def EK : Ctr:=⟨128,[.str,I64,I64],[.bool],fun x=>JK x.1 x.2.1 x.2.2.1⟩
def QeH : List (List Nat × Ann):=[([0,4],[.keep 0 0,.keep 0 19,.keep 0 20])]
def Qc6 : List (List Nat × Nat):=[]
def Qc7 : List Ctr:=[]
def QmH (n : Nat) (a0 : (List Int)) (a1 : Int) (a2 : Int) : Option Bool:=run Tryz.prog QeH Qc6 (Qn Qc7) Tryz.f128 (Tryz.f128.body.getD .skip) (Qp [.bool]) n (Qt [.str,I64,I64] (a0,a1,a2,()))
abbrev Gz (n : Nat) (x1 : (List Int)) (x2 : Int) (x3 : Int) : Option Bool:=lam Tryz.prog QeH Qc6 (Qn Qc7) Tryz.f128 (Tryz.f128.body.getD .skip) (Qp [.bool]) n [0,4] [.d .str x1,.d I64 x2,.d I64 x3]
theorem Qs5 (n : Nat) (a0 : (List Int)) (a1 : Int) (a2 : Int) : QmH n a0 a1 a2 =
  bif decide ((a0.length : Int) < a1) then
   some false
  else
   bif decide (a2 < (a0.length : Int)) then
    some false
   else
    Gz n a0 (a0.length : Int) 0:=by kernel_rfl
theorem Qbs (n : Nat) (x1 : (List Int)) (x2 : Int) (x3 : Int) : Gz (n + 1) x1 x2 x3 =
  bif decide (x3 < x2) then
   bif inB x3 x1.length then
    bif decide (rd x1 x3 0 < 32) then
     some false
    else
     bif inB x3 x1.length then
      bif decide ((126 : Int) < rd x1 x3 0) then
       some false
      else
       Gz n x1 x2 (IntKind.wrap .i64 (x3 + 1))
     else none
   else none
  else
   some true:=by kernel_rfl
theorem QqS {x1 : (List Int)} (hl : x1.length ≤ maxLen) : ∀ (rest : List Int) (k : Nat) (r : Bool),rest = x1.drop k → JX rest = some r → Ev (fun n=>Gz n x1 (x1.length : Int) (k : Int)) r:=by
 intro rest
 induction rest with
 | nil =>
  intro k r hr h
  have hk:=QH hr
  rw [JX] at h
  refine Ev.step ?_ (fun n=>Qbs n x1 (x1.length : Int) (k : Int))
  rw [show decide ((k : Int) < (x1.length : Int)) = false from decide_eq_false (by omega)]
  exact Ev.neg rfl (Ev.ofSome h)
 | cons e rest ih =>
  intro k r hr h
  obtain ⟨hk,hx,hr2⟩:=Qz (d:=0) hr
  have hw:=Qy hl hk
  have ih2 : ∀ (r : Bool),JX rest = some r → Ev (fun n=>Gz n x1 (x1.length : Int) (IntKind.wrap .i64 ((k : Int) + 1))) r:=by
   intro r h; rw [hw]; exact ih (k + 1) r hr2 h
  rw [JX] at h
  refine Ev.step ?_ (fun n=>Qbs n x1 (x1.length : Int) (k : Int))
  rw [show decide ((k : Int) < (x1.length : Int)) = true from decide_eq_true (by omega),Qx hk,hx]
  exact Ev.pos rfl (Ev.pos rfl (Ev.ofBif h (fun h=>(Ev.ofSome h)) (fun h=>(Ev.pos rfl (Ev.ofBif h (fun h=>(Ev.ofSome h)) (fun h=>(ih2  _ h)))))))
theorem Qzp (a0 : (List Int)) (a1 : Int) (a2 : Int) {r : Bool} (h : JK a0 a1 a2 = some r) : Ev (fun n=>QmH n a0 a1 a2) r:=by
 rw [JK] at h
 refine Ev.of_eq ?_ (fun n=>Qs5 n a0 a1 a2)
 exact (Ev.ofBif h (fun h=>(Ev.ofSome h)) (fun h=>(Ev.ofBif h (fun h=>(Ev.ofSome h)) (fun h=>(Ev.ofLen h fun hl h=>QqS hl _ (0 : Nat) _ rfl h)))))
theorem Qu9 : ∀ x ∈ Qc7,Qh Tryz.prog x:=Qk
theorem QjM : Qh Tryz.prog (EK):=by
 refine Qj (c:=EK) (by kernel_rfl) (by kernel_rfl : Tryz.prog.funcs[128]? = some Tryz.f128) (code:=Tryz.f128.body.getD .skip) (by kernel_rfl) (by kernel_rfl) (by kernel_rfl) (A:=QeH) (I:=Qc6) (Qu9) ?_
 rintro ⟨a0,a1,a2,u⟩ y hy
 exact (Qzp a0 a1 a2 hy).get
def GH (a0 : Int) : Bool :=
 bif decide ((48 : Int) ≤ a0) then
  decide (a0 ≤ 57)
 else
  false
def Qd3 : Ctr:=⟨150,[U8],[.bool],fun x=>some (GH x.1)⟩
def QrM : List (List Nat × Ann):=[]
def Qpi : List (List Nat × Nat):=[]
def Qpj : List Ctr:=[]
def QrN (n : Nat) (a0 : Int) : Option Bool:=run Tryz.prog QrM Qpi (Qn Qpj) Tryz.f150 (Tryz.f150.body.getD .skip) (Qp [.bool]) n (Qt [U8] (a0,()))
theorem Qxw (n : Nat) (a0 : Int) : QrN n a0 =
  bif decide ((48 : Int) ≤ a0) then
   some (decide (a0 ≤ 57))
  else
   some false:=by kernel_rfl
theorem QCH (n : Nat) (a0 : Int) : QrN n a0 = some (GH a0):=(Qxw n a0).trans (ZL rfl rfl)
theorem Qzq : ∀ x ∈ Qpj,Qh Tryz.prog x:=Qk
theorem Qpk : Qh Tryz.prog (Qd3):=by
 refine Qj (c:=Qd3) (by kernel_rfl) (by kernel_rfl : Tryz.prog.funcs[150]? = some Tryz.f150) (code:=Tryz.f150.body.getD .skip) (by kernel_rfl) (by kernel_rfl) (by kernel_rfl) (A:=QrM) (I:=Qpi) (Qzq) ?_
 rintro ⟨a0,u⟩ y hy
 exact ⟨0,(QCH 0 a0).trans hy⟩
def Hc (a0 : Int) : Bool :=
 bif decide ((97 : Int) ≤ a0) then
  bif decide (a0 ≤ 122) then
   true
  else
   bif decide ((65 : Int) ≤ a0) then
    decide (a0 ≤ 90)
   else
    false
 else
  bif decide ((65 : Int) ≤ a0) then
   decide (a0 ≤ 90)
  else
   false
def QgR : Ctr:=⟨152,[U8],[.bool],fun x=>some (Hc x.1)⟩
def Qpl : List (List Nat × Ann):=[]
def QmI : List (List Nat × Nat):=[]
def QmJ : List Ctr:=[]
def Qpm (n : Nat) (a0 : Int) : Option Bool:=run Tryz.prog Qpl QmI (Qn QmJ) Tryz.f152 (Tryz.f152.body.getD .skip) (Qp [.bool]) n (Qt [U8] (a0,()))
theorem Qva (n : Nat) (a0 : Int) : Qpm n a0 =
  bif decide ((97 : Int) ≤ a0) then
   bif decide (a0 ≤ 122) then
    some true
   else
    bif decide ((65 : Int) ≤ a0) then
     some (decide (a0 ≤ 90))
    else
     some false
  else
   bif decide ((65 : Int) ≤ a0) then
    some (decide (a0 ≤ 90))
   else
    some false:=by kernel_rfl
theorem QBI (n : Nat) (a0 : Int) : Qpm n a0 = some (Hc a0):=(Qva n a0).trans (ZL (ZL rfl (ZL rfl rfl)) (ZL rfl rfl))
theorem Qxx : ∀ x ∈ QmJ,Qh Tryz.prog x:=Qk
theorem Qzr : Qh Tryz.prog (QgR):=by
 refine Qj (c:=QgR) (by kernel_rfl) (by kernel_rfl : Tryz.prog.funcs[152]? = some Tryz.f152) (code:=Tryz.f152.body.getD .skip) (by kernel_rfl) (by kernel_rfl) (by kernel_rfl) (A:=Qpl) (I:=QmI) (Qxx) ?_
 rintro ⟨a0,u⟩ y hy
 exact ⟨0,(QBI 0 a0).trans hy⟩
def Ve (a0 : Int) : Bool :=
 bif Hc a0 then
  true
 else
  bif GH a0 then
   true
  else
   decide (a0 = 95)
def Wp : Ctr:=⟨138,[U8],[.bool],fun x=>some (Ve x.1)⟩
def QjN : List (List Nat × Ann):=[]
def Qh6 : List (List Nat × Nat):=[]
def Qh7 : List Ctr:=[QgR,Qd3]
def QjO (n : Nat) (a0 : Int) : Option Bool:=run Tryz.prog QjN Qh6 (Qn Qh7) Tryz.f138 (Tryz.f138.body.getD .skip) (Qp [.bool]) n (Qt [U8] (a0,()))
theorem QqT (n : Nat) (a0 : Int) : QjO n a0 =
  bif Hc a0 then
   some true
  else
   bif GH a0 then
    some true
   else
    some (decide (a0 = 95)):=by kernel_rfl
theorem Qxy (n : Nat) (a0 : Int) : QjO n a0 = some (Ve a0):=(QqT n a0).trans (ZL rfl (ZL rfl rfl))
theorem Qs6 : ∀ x ∈ Qh7,Qh Tryz.prog x:=(Qd Qzr (Qd Qpk Qk))
theorem Qh8 : Qh Tryz.prog (Wp):=by
 refine Qj (c:=Wp) (by kernel_rfl) (by kernel_rfl : Tryz.prog.funcs[138]? = some Tryz.f138) (code:=Tryz.f138.body.getD .skip) (by kernel_rfl) (by kernel_rfl) (by kernel_rfl) (A:=QjN) (I:=Qh6) (Qs6) ?_
 rintro ⟨a0,u⟩ y hy
 exact ⟨0,(Qxy 0 a0).trans hy⟩
def JY : List Int → Option Bool
 | [] =>
   some true
 | e :: rest =>
   bif !(Ve (e)) then
    some false
   else
    JY rest
def ZN (a0 : (List Int)) : Option Bool :=
 bif decide (a0 = ([] : List Int)) then
  some false
 else
  bif decide ((30 : Int) < (a0.length : Int)) then
   some false
  else
   bif inB 0 a0.length then
    bif GH (rd a0 0 0) then
     some false
    else
     Zu a0 (JY a0)
   else none
def Xl : Ctr:=⟨129,[.str],[.bool],fun x=>ZN x.1⟩
def QeI : List (List Nat × Ann):=[([0,4],[.keep 0 0,.keep 0 17,.keep 0 18])]
def Qc8 : List (List Nat × Nat):=[]
def Qc9 : List Ctr:=[Qd3,Wp]
def QmK (n : Nat) (a0 : (List Int)) : Option Bool:=run Tryz.prog QeI Qc8 (Qn Qc9) Tryz.f129 (Tryz.f129.body.getD .skip) (Qp [.bool]) n (Qt [.str] (a0,()))
abbrev GA (n : Nat) (x1 : (List Int)) (x2 : Int) (x3 : Int) : Option Bool:=lam Tryz.prog QeI Qc8 (Qn Qc9) Tryz.f129 (Tryz.f129.body.getD .skip) (Qp [.bool]) n [0,4] [.d .str x1,.d I64 x2,.d I64 x3]
theorem Qs7 (n : Nat) (a0 : (List Int)) : QmK n a0 =
  bif decide (a0 = ([] : List Int)) then
   some false
  else
   bif decide ((30 : Int) < (a0.length : Int)) then
    some false
   else
    bif inB 0 a0.length then
     bif GH (rd a0 0 0) then
      some false
     else
      GA n a0 (a0.length : Int) 0
    else none:=by kernel_rfl
theorem Qbt (n : Nat) (x1 : (List Int)) (x2 : Int) (x3 : Int) : GA (n + 1) x1 x2 x3 =
  bif decide (x3 < x2) then
   bif inB x3 x1.length then
    bif !(Ve (rd x1 x3 0)) then
     some false
    else
     GA n x1 x2 (IntKind.wrap .i64 (x3 + 1))
   else none
  else
   some true:=by kernel_rfl
theorem QqU {x1 : (List Int)} (hl : x1.length ≤ maxLen) : ∀ (rest : List Int) (k : Nat) (r : Bool),rest = x1.drop k → JY rest = some r → Ev (fun n=>GA n x1 (x1.length : Int) (k : Int)) r:=by
 intro rest
 induction rest with
 | nil =>
  intro k r hr h
  have hk:=QH hr
  rw [JY] at h
  refine Ev.step ?_ (fun n=>Qbt n x1 (x1.length : Int) (k : Int))
  rw [show decide ((k : Int) < (x1.length : Int)) = false from decide_eq_false (by omega)]
  exact Ev.neg rfl (Ev.ofSome h)
 | cons e rest ih =>
  intro k r hr h
  obtain ⟨hk,hx,hr2⟩:=Qz (d:=0) hr
  have hw:=Qy hl hk
  have ih2 : ∀ (r : Bool),JY rest = some r → Ev (fun n=>GA n x1 (x1.length : Int) (IntKind.wrap .i64 ((k : Int) + 1))) r:=by
   intro r h; rw [hw]; exact ih (k + 1) r hr2 h
  rw [JY] at h
  refine Ev.step ?_ (fun n=>Qbt n x1 (x1.length : Int) (k : Int))
  rw [show decide ((k : Int) < (x1.length : Int)) = true from decide_eq_true (by omega),Qx hk,hx]
  exact Ev.pos rfl (Ev.pos rfl (Ev.ofBif h (fun h=>(Ev.ofSome h)) (fun h=>(ih2  _ h))))
theorem Qzs (a0 : (List Int)) {r : Bool} (h : ZN a0 = some r) : Ev (fun n=>QmK n a0) r:=by
 rw [ZN] at h
 refine Ev.of_eq ?_ (fun n=>Qs7 n a0)
 exact (Ev.ofBif h (fun h=>(Ev.ofSome h)) (fun h=>(Ev.ofBif h (fun h=>(Ev.ofSome h)) (fun h=>(Ev.ofBif h (fun h=>(Ev.ofBif h (fun h=>(Ev.ofSome h)) (fun h=>(Ev.ofLen h fun hl h=>QqU hl _ (0 : Nat) _ rfl h)))) (fun h=>(Ev.ofNone h)))))))
theorem Qvb : ∀ x ∈ Qc9,Qh Tryz.prog x:=(Qd Qpk (Qd Qh8 Qk))
theorem Wq : Qh Tryz.prog (Xl):=by
 refine Qj (c:=Xl) (by kernel_rfl) (by kernel_rfl : Tryz.prog.funcs[129]? = some Tryz.f129) (code:=Tryz.f129.body.getD .skip) (by kernel_rfl) (by kernel_rfl) (by kernel_rfl) (A:=QeI) (I:=Qc8) (Qvb) ?_
 rintro ⟨a0,u⟩ y hy
 exact (Qzs a0 hy).get
def GB (x1 : Bool) (x2 : Int) (x3 : Bool) (x4 : Qb) : Option Bool :=
 bif x3 then
  some x1
 else
  bif decide (x2 = 3) then
   bif decide (x4.2.1 = 0) then
    bif decide (x4.2.2.2 = ([] : List Int)) then
     Option.bind (JK x4.2.2.1 0 200) fun (y1 : Bool) =>
     some y1
    else
     some false
   else
    some false
  else
   bif decide (x2 = 4) then
    bif decide (x4.2.1 = 0) then
     Option.bind (ZN x4.2.2.2) fun (y2 : Bool) =>
     bif y2 then
      Option.bind (JK x4.2.2.1 1 200) fun (y3 : Bool) =>
      some y3
     else
      some false
    else
     some false
   else
    bif decide (x2 = 6) then
     bif !(x1) then
      some false
     else
      bif decide (x4.2.1 < 0) then
       some false
      else
       bif decide (Int.tmod x4.2.1 64 ≤ 32) then
        bif decide (IntKind.wrap .i64 (Int.tdiv x4.2.1 64) < 4294967296) then
         bif decide ((0 : Int) ≤ IntKind.wrap .i64 (32 - (Int.tmod x4.2.1 64))) then
          bif decide (IntKind.wrap .i64 (1 * 2 ^ (min (Int.toNat (IntKind.wrap .i64 (32 - (Int.tmod x4.2.1 64)))) 64)) = 0) then none else
          some (decide (Int.tmod (IntKind.wrap .i64 (Int.tdiv x4.2.1 64)) (IntKind.wrap .i64 (1 * 2 ^ (min (Int.toNat (IntKind.wrap .i64 (32 - (Int.tmod x4.2.1 64)))) 64))) = 0))
         else none
        else
         some false
       else
        some false
    else
     bif decide (x2 = 7) then
      bif x1 then
       bif decide (((-100000000000) : Int) ≤ x4.2.1) then
        some (decide (x4.2.1 ≤ 100000000000))
       else
        some false
      else
       some false
     else
      some false
def GC (x1 : Bool) (x2 : Qb) : Option Bool :=
 bif decide (x2.1 = 1) then
  bif x1 then
   bif decide (x2.2.1 = 0) then
    some true
   else
    some (decide (x2.2.1 = 1))
  else
   some false
 else
  bif decide (x2.1 = 2) then
   GB x1 x2.1 (decide (x2.1 = 2)) x2
  else
   GB x1 x2.1 (decide (x2.1 = 5)) x2
def Zp (a0 : Qb) : Option Bool :=
 bif decide (a0.2.2.1 = ([] : List Int)) then
  GC (decide (a0.2.2.2 = ([] : List Int))) a0
 else
  GC false a0
def Xm : Ctr:=⟨103,[Qa],[.bool],fun x=>Zp x.1⟩
def EL : List (List Nat × Ann):=[([1,2],[.keep 0 1,.keep 0 3,.boxd 0 1 Qa]),([1,7],[.keep 0 1,.keep 0 3,.keep 0 15,.keep 0 29,.boxd 0 1 Qa])]
def Wr : List (List Nat × Nat):=[]
def Ws : List Ctr:=[EK,Xl]
def QmL (n : Nat) (a0 : Qb) : Option Bool:=run Tryz.prog EL Wr (Qn Ws) Tryz.f103 (Tryz.f103.body.getD .skip) (Qp [.bool]) n (Qt [Qa] (a0,()))
abbrev XV (n : Nat) (x1 : Bool) (x2 : Qb) : Option Bool:=lam Tryz.prog EL Wr (Qn Ws) Tryz.f103 (Tryz.f103.body.getD .skip) (Qp [.bool]) n [1,2] [.ptr 0 1 0,.d .bool x1,.agg (Qq Qa x2)]
abbrev XW (n : Nat) (x1 : Bool) (x2 : Int) (x3 : Bool) (x4 : Qb) : Option Bool:=lam Tryz.prog EL Wr (Qn Ws) Tryz.f103 (Tryz.f103.body.getD .skip) (Qp [.bool]) n [1,7] [.ptr 0 1 0,.d .bool x1,.d I64 x2,.d .bool x3,.agg (Qq Qa x4)]
theorem Qs8 (n : Nat) (a0 : Qb) : QmL n a0 =
  bif decide (a0.2.2.1 = ([] : List Int)) then
   XV n (decide (a0.2.2.2 = ([] : List Int))) a0
  else
   XV n false a0:=by kernel_rfl
theorem QlA (n : Nat) (x1 : Bool) (x2 : Qb) : XV (n + 1) x1 x2 =
  bif decide (x2.1 = 1) then
   bif x1 then
    bif decide (x2.2.1 = 0) then
     some true
    else
     some (decide (x2.2.1 = 1))
   else
    some false
  else
   bif decide (x2.1 = 2) then
    XW n x1 x2.1 (decide (x2.1 = 2)) x2
   else
    XW n x1 x2.1 (decide (x2.1 = 5)) x2:=by kernel_rfl
theorem QlB (n : Nat) (x1 : Bool) (x2 : Int) (x3 : Bool) (x4 : Qb) : XW (n + 1) x1 x2 x3 x4 =
  bif x3 then
   some x1
  else
   bif decide (x2 = 3) then
    bif decide (x4.2.1 = 0) then
     bif decide (x4.2.2.2 = ([] : List Int)) then
      Option.bind (JK x4.2.2.1 0 200) fun (y1 : Bool) =>
      some y1
     else
      some false
    else
     some false
   else
    bif decide (x2 = 4) then
     bif decide (x4.2.1 = 0) then
      Option.bind (ZN x4.2.2.2) fun (y2 : Bool) =>
      bif y2 then
       Option.bind (JK x4.2.2.1 1 200) fun (y3 : Bool) =>
       some y3
      else
       some false
     else
      some false
    else
     bif decide (x2 = 6) then
      bif !(x1) then
       some false
      else
       bif decide (x4.2.1 < 0) then
        some false
       else
        bif decide (Int.tmod x4.2.1 64 ≤ 32) then
         bif decide (IntKind.wrap .i64 (Int.tdiv x4.2.1 64) < 4294967296) then
          bif decide ((0 : Int) ≤ IntKind.wrap .i64 (32 - (Int.tmod x4.2.1 64))) then
           bif decide (IntKind.wrap .i64 (1 * 2 ^ (min (Int.toNat (IntKind.wrap .i64 (32 - (Int.tmod x4.2.1 64)))) 64)) = 0) then none else
           some (decide (Int.tmod (IntKind.wrap .i64 (Int.tdiv x4.2.1 64)) (IntKind.wrap .i64 (1 * 2 ^ (min (Int.toNat (IntKind.wrap .i64 (32 - (Int.tmod x4.2.1 64)))) 64))) = 0))
          else none
         else
          some false
        else
         some false
     else
      bif decide (x2 = 7) then
       bif x1 then
        bif decide (((-100000000000) : Int) ≤ x4.2.1) then
         some (decide (x4.2.1 ≤ 100000000000))
        else
         some false
       else
        some false
      else
       some false:=by kernel_rfl
theorem Qfy {x1 : Bool} {x2 : Int} {x3 : Bool} {x4 : Qb} {r : Bool} (h : GB x1 x2 x3 x4 = some r) : Ev (fun n=>XW n x1 x2 x3 x4) r:=by
 rw [GB] at h
 refine Ev.step ?_ (fun n=>QlB n x1 x2 x3 x4)
 exact (Ev.ofBif h (fun h=>(Ev.ofSome h)) (fun h=>(Ev.ofBif h (fun h=>(Ev.ofBif h (fun h=>(Ev.ofBif h (fun h=>(Ev.ofBind h fun y1 h=>(Ev.ofSome h))) (fun h=>(Ev.ofSome h)))) (fun h=>(Ev.ofSome h)))) (fun h=>(Ev.ofBif h (fun h=>(Ev.ofBif h (fun h=>(Ev.ofBind h fun y2 h=>(Ev.ofBif h (fun h=>(Ev.ofBind h fun y3 h=>(Ev.ofSome h))) (fun h=>(Ev.ofSome h))))) (fun h=>(Ev.ofSome h)))) (fun h=>(Ev.ofBif h (fun h=>(Ev.ofBif h (fun h=>(Ev.ofSome h)) (fun h=>(Ev.ofBif h (fun h=>(Ev.ofSome h)) (fun h=>(Ev.ofBif h (fun h=>(Ev.ofBif h (fun h=>(Ev.ofBif h (fun h=>(Ev.ofBif h (fun h=>(Ev.ofNone h)) (fun h=>(Ev.ofSome h)))) (fun h=>(Ev.ofNone h)))) (fun h=>(Ev.ofSome h)))) (fun h=>(Ev.ofSome h)))))))) (fun h=>(Ev.ofBif h (fun h=>(Ev.ofBif h (fun h=>(Ev.ofBif h (fun h=>(Ev.ofSome h)) (fun h=>(Ev.ofSome h)))) (fun h=>(Ev.ofSome h)))) (fun h=>(Ev.ofSome h)))))))))))
theorem Qfz {x1 : Bool} {x2 : Qb} {r : Bool} (h : GC x1 x2 = some r) : Ev (fun n=>XV n x1 x2) r:=by
 rw [GC] at h
 refine Ev.step ?_ (fun n=>QlA n x1 x2)
 exact (Ev.ofBif h (fun h=>(Ev.ofBif h (fun h=>(Ev.ofBif h (fun h=>(Ev.ofSome h)) (fun h=>(Ev.ofSome h)))) (fun h=>(Ev.ofSome h)))) (fun h=>(Ev.ofBif h (fun h=>(Qfy h)) (fun h=>(Qfy h)))))
theorem Qzt (a0 : Qb) {r : Bool} (h : Zp a0 = some r) : Ev (fun n=>QmL n a0) r:=by
 rw [Zp] at h
 refine Ev.of_eq ?_ (fun n=>Qs8 n a0)
 exact (Ev.ofBif h (fun h=>(Qfz h)) (fun h=>(Qfz h)))
theorem Qvc : ∀ x ∈ Ws,Qh Tryz.prog x:=(Qd QjM (Qd Wq Qk))
theorem Wt : Qh Tryz.prog (Xm):=by
 refine Qj (c:=Xm) (by kernel_rfl) (by kernel_rfl : Tryz.prog.funcs[103]? = some Tryz.f103) (code:=Tryz.f103.body.getD .skip) (by kernel_rfl) (by kernel_rfl) (by kernel_rfl) (A:=EL) (I:=Wr) (Qvc) ?_
 rintro ⟨a0,u⟩ y hy
 exact (Qzt a0 hy).get
def Zq (a0 : Qb) : Option Bool :=
 bif decide (a0.1 = 4) then
  Option.bind (Zp a0) fun (y1 : Bool) =>
  some y1
 else
  some false
def HS : Ctr:=⟨75,[Qa],[.bool],fun x=>Zq x.1⟩
def QmM : List (List Nat × Ann):=[]
def QjP : List (List Nat × Nat):=[]
def QjQ : List Ctr:=[Xm]
def QmN (n : Nat) (a0 : Qb) : Option Bool:=run Tryz.prog QmM QjP (Qn QjQ) Tryz.f75 (Tryz.f75.body.getD .skip) (Qp [.bool]) n (Qt [Qa] (a0,()))
theorem Qs9 (n : Nat) (a0 : Qb) : QmN n a0 =
  bif decide (a0.1 = 4) then
   Option.bind (Zp a0) fun (y1 : Bool) =>
   some y1
  else
   some false:=by kernel_rfl
theorem Qzu (a0 : Qb) {r : Bool} (h : Zq a0 = some r) : Ev (fun n=>QmN n a0) r:=by
 rw [Zq] at h
 refine Ev.of_eq ?_ (fun n=>Qs9 n a0)
 exact (Ev.ofBif h (fun h=>(Ev.ofBind h fun y1 h=>(Ev.ofSome h))) (fun h=>(Ev.ofSome h)))
theorem Qvd : ∀ x ∈ QjQ,Qh Tryz.prog x:=(Qd Wt Qk)
theorem Qda : Qh Tryz.prog (HS):=by
 refine Qj (c:=HS) (by kernel_rfl) (by kernel_rfl : Tryz.prog.funcs[75]? = some Tryz.f75) (code:=Tryz.f75.body.getD .skip) (by kernel_rfl) (by kernel_rfl) (by kernel_rfl) (A:=QmM) (I:=QjP) (Qvd) ?_
 rintro ⟨a0,u⟩ y hy
 exact (Qzu a0 hy).get
def YX (a0 : Int) : Bool :=
 !decide (a0 = a0)
def QeJ : Ctr:=⟨130,[I64],[.bool],fun x=>some (YX x.1)⟩
def QmO : List (List Nat × Ann):=[]
def QjR : List (List Nat × Nat):=[]
def QjS : List Ctr:=[]
def QmP (n : Nat) (a0 : Int) : Option Bool:=run Tryz.prog QmO QjR (Qn QjS) Tryz.f130 (Tryz.f130.body.getD .skip) (Qp [.bool]) n (Qt [I64] (a0,()))
theorem Qta (n : Nat) (a0 : Int) : QmP n a0 =
  some (!decide (a0 = a0)):=by kernel_rfl
theorem Qzv (n : Nat) (a0 : Int) : QmP n a0 = some (YX a0):=(Qta n a0).trans rfl
theorem Qve : ∀ x ∈ QjS,Qh Tryz.prog x:=Qk
theorem Qxz : Qh Tryz.prog (QeJ):=by
 refine Qj (c:=QeJ) (by kernel_rfl) (by kernel_rfl : Tryz.prog.funcs[130]? = some Tryz.f130) (code:=Tryz.f130.body.getD .skip) (by kernel_rfl) (by kernel_rfl) (by kernel_rfl) (A:=QmO) (I:=QjR) (Qve) ?_
 rintro ⟨a0,u⟩ y hy
 exact ⟨0,(Qzv 0 a0).trans hy⟩
def YD (a0 : Int) (a1 : Int) : Int :=
 bif YX a0 then
  bif YX a1 then
   0
  else
   (-1)
 else
  bif YX a1 then
   1
  else
   bif decide (a0 < a1) then
    (-1)
   else
    bif decide (a1 < a0) then
     1
    else
     0
def Qbu : Ctr:=⟨105,[I64,I64],[I64],fun x=>some (YD x.1 x.2.1)⟩
def Qh9 : List (List Nat × Ann):=[]
def QgS : List (List Nat × Nat):=[]
def QgT : List Ctr:=[QeJ]
def Qia (n : Nat) (a0 : Int) (a1 : Int) : Option Int:=run Tryz.prog Qh9 QgS (Qn QgT) Tryz.f105 (Tryz.f105.body.getD .skip) (Qp [I64]) n (Qt [I64,I64] (a0,a1,()))
theorem Qpn (n : Nat) (a0 : Int) (a1 : Int) : Qia n a0 a1 =
  bif YX a0 then
   bif YX a1 then
    some 0
   else
    some (-1)
  else
   bif YX a1 then
    some 1
   else
    bif decide (a0 < a1) then
     some (-1)
    else
     bif decide (a1 < a0) then
      some 1
     else
      some 0:=by kernel_rfl
theorem Qvf (n : Nat) (a0 : Int) (a1 : Int) : Qia n a0 a1 = some (YD a0 a1):=(Qpn n a0 a1).trans (ZL (ZL rfl rfl) (ZL rfl (ZL rfl (ZL rfl rfl))))
theorem QqV : ∀ x ∈ QgT,Qh Tryz.prog x:=(Qd Qxz Qk)
theorem Qtb : Qh Tryz.prog (Qbu):=by
 refine Qj (c:=Qbu) (by kernel_rfl) (by kernel_rfl : Tryz.prog.funcs[105]? = some Tryz.f105) (code:=Tryz.f105.body.getD .skip) (by kernel_rfl) (by kernel_rfl) (by kernel_rfl) (A:=Qh9) (I:=QgS) (QqV) ?_
 rintro ⟨a0,a1,u⟩ y hy
 exact ⟨0,(Qvf 0 a0 a1).trans hy⟩
def JG (a0 : (List Int)) : Bool :=
 !decide (a0 = a0)
def Qac : Ctr:=⟨131,[.str],[.bool],fun x=>some (JG x.1)⟩
def QgU : List (List Nat × Ann):=[]
def QfA : List (List Nat × Nat):=[]
def QfB : List Ctr:=[]
def QgV (n : Nat) (a0 : (List Int)) : Option Bool:=run Tryz.prog QgU QfA (Qn QfB) Tryz.f131 (Tryz.f131.body.getD .skip) (Qp [.bool]) n (Qt [.str] (a0,()))
theorem QnI (n : Nat) (a0 : (List Int)) : QgV n a0 =
  some (!decide (a0 = a0)):=by kernel_rfl
theorem Qtc (n : Nat) (a0 : (List Int)) : QgV n a0 = some (JG a0):=(QnI n a0).trans rfl
theorem Qpo : ∀ x ∈ QfB,Qh Tryz.prog x:=Qk
theorem QqW : Qh Tryz.prog (Qac):=by
 refine Qj (c:=Qac) (by kernel_rfl) (by kernel_rfl : Tryz.prog.funcs[131]? = some Tryz.f131) (code:=Tryz.f131.body.getD .skip) (by kernel_rfl) (by kernel_rfl) (by kernel_rfl) (A:=QgU) (I:=QfA) (Qpo) ?_
 rintro ⟨a0,u⟩ y hy
 exact ⟨0,(Qtc 0 a0).trans hy⟩
def Ju (a0 : (List Int)) (a1 : (List Int)) : Int :=
 bif JG a0 then
  bif JG a1 then
   0
  else
   (-1)
 else
  bif JG a1 then
   1
  else
   bif Z4 a0 a1 then
    (-1)
   else
    bif Z4 a1 a0 then
     1
    else
     0
def UQ : Ctr:=⟨106,[.str,.str],[I64],fun x=>some (Ju x.1 x.2.1)⟩
def Qej : List (List Nat × Ann):=[]
def QcC : List (List Nat × Nat):=[]
def QcD : List Ctr:=[Qac]
def Qek (n : Nat) (a0 : (List Int)) (a1 : (List Int)) : Option Int:=run Tryz.prog Qej QcC (Qn QcD) Tryz.f106 (Tryz.f106.body.getD .skip) (Qp [I64]) n (Qt [.str,.str] (a0,a1,()))
theorem QjT (n : Nat) (a0 : (List Int)) (a1 : (List Int)) : Qek n a0 a1 =
  bif JG a0 then
   bif JG a1 then
    some 0
   else
    some (-1)
  else
   bif JG a1 then
    some 1
   else
    bif Z4 a0 a1 then
     some (-1)
    else
     bif Z4 a1 a0 then
      some 1
     else
      some 0:=by kernel_rfl
theorem Qpp (n : Nat) (a0 : (List Int)) (a1 : (List Int)) : Qek n a0 a1 = some (Ju a0 a1):=(QjT n a0 a1).trans (ZL (ZL rfl rfl) (ZL rfl (ZL rfl (ZL rfl rfl))))
theorem QlC : ∀ x ∈ QcD,Qh Tryz.prog x:=(Qd QqW Qk)
theorem QnJ : Qh Tryz.prog (UQ):=by
 refine Qj (c:=UQ) (by kernel_rfl) (by kernel_rfl : Tryz.prog.funcs[106]? = some Tryz.f106) (code:=Tryz.f106.body.getD .skip) (by kernel_rfl) (by kernel_rfl) (by kernel_rfl) (A:=Qej) (I:=QcC) (QlC) ?_
 rintro ⟨a0,a1,u⟩ y hy
 exact ⟨0,(Qpp 0 a0 a1).trans hy⟩
def VR : List Int → Option Int
 | [] =>
   some (0 : Int)
 | e :: rest =>
   bif !decide (e = (0 : Int)) then
    some e
   else
    VR rest
def Wu (a0 : (List Int)) : Option Int :=
 Zu a0 (VR a0)
def QlD : Ctr:=⟨104,[(.list I64)],[I64],fun x=>Wu x.1⟩
def QlE : List (List Nat × Ann):=[([0,3],[.keep 0 3,.keep 0 6,.keep 0 7,.keep 0 8])]
def QiV : List (List Nat × Nat):=[]
def QiW : List Ctr:=[]
def Qvg (n : Nat) (a0 : (List Int)) : Option Int:=run Tryz.prog QlE QiV (Qn QiW) Tryz.f104 (Tryz.f104.body.getD .skip) (Qp [I64]) n (Qt [(.list I64)] (a0,()))
abbrev Hd (n : Nat) (x1 : Int) (x2 : (List Int)) (x3 : Int) (x4 : Int) : Option Int:=lam Tryz.prog QlE QiV (Qn QiW) Tryz.f104 (Tryz.f104.body.getD .skip) (Qp [I64]) n [0,3] [.d I64 x1,.d (.list I64) x2,.d I64 x3,.d I64 x4]
theorem Qzw (n : Nat) (a0 : (List Int)) : Qvg n a0 =
  Hd n 0 a0 (a0.length : Int) 0:=by kernel_rfl
theorem QfC (n : Nat) (x1 : Int) (x2 : (List Int)) (x3 : Int) (x4 : Int) : Hd (n + 1) x1 x2 x3 x4 =
  bif decide (x4 < x3) then
   bif inB x4 x2.length then
    bif !decide (rd x2 x4 (Ty.dflt I64) = x1) then
     some (rd x2 x4 (Ty.dflt I64))
    else
     Hd n x1 x2 x3 (IntKind.wrap .i64 (x4 + 1))
   else none
  else
   some x1:=by kernel_rfl
theorem QxA {x2 : (List Int)} (hl : x2.length ≤ maxLen) : ∀ (rest : List Int) (k : Nat) (r : Int),rest = x2.drop k → VR rest = some r → Ev (fun n=>Hd n (0 : Int) x2 (x2.length : Int) (k : Int)) r:=by
 intro rest
 induction rest with
 | nil =>
  intro k r hr h
  have hk:=QH hr
  rw [VR] at h
  refine Ev.step ?_ (fun n=>QfC n (0 : Int) x2 (x2.length : Int) (k : Int))
  rw [show decide ((k : Int) < (x2.length : Int)) = false from decide_eq_false (by omega)]
  exact Ev.neg rfl (Ev.ofSome h)
 | cons e rest ih =>
  intro k r hr h
  obtain ⟨hk,hx,hr2⟩:=Qz (d:=(Ty.dflt I64)) hr
  have hw:=Qy hl hk
  have ih2 : ∀ (r : Int),VR rest = some r → Ev (fun n=>Hd n (0 : Int) x2 (x2.length : Int) (IntKind.wrap .i64 ((k : Int) + 1))) r:=by
   intro r h; rw [hw]; exact ih (k + 1) r hr2 h
  rw [VR] at h
  refine Ev.step ?_ (fun n=>QfC n (0 : Int) x2 (x2.length : Int) (k : Int))
  rw [show decide ((k : Int) < (x2.length : Int)) = true from decide_eq_true (by omega),Qx hk,hx]
  exact Ev.pos rfl (Ev.pos rfl (Ev.ofBif h (fun h=>(Ev.ofSome h)) (fun h=>(ih2  _ h))))
theorem QD1 (a0 : (List Int)) {r : Int} (h : Wu a0 = some r) : Ev (fun n=>Qvg n a0) r:=by
 rw [Wu] at h
 refine Ev.of_eq ?_ (fun n=>Qzw n a0)
 exact (Ev.ofLen h fun hl h=>QxA hl _ (0 : Nat) _ rfl h)
theorem QBJ : ∀ x ∈ QiW,Qh Tryz.prog x:=Qk
theorem QCI : Qh Tryz.prog (QlD):=by
 refine Qj (c:=QlD) (by kernel_rfl) (by kernel_rfl : Tryz.prog.funcs[104]? = some Tryz.f104) (code:=Tryz.f104.body.getD .skip) (by kernel_rfl) (by kernel_rfl) (by kernel_rfl) (A:=QlE) (I:=QiV) (QBJ) ?_
 rintro ⟨a0,u⟩ y hy
 exact (QD1 a0 hy).get
def YY (a0 : Qb) (a1 : Qb) : Option Int :=
 Option.bind (Wu ([YD a0.1 a1.1,YD a0.2.1 a1.2.1,Ju a0.2.2.2 a1.2.2.2,Ju a0.2.2.1 a1.2.2.1] : List Int)) fun (y1 : Int) =>
 some y1
def EM : Ctr:=⟨76,[Qa,Qa],[I64],fun x=>YY x.1 x.2.1⟩
def QmQ : List (List Nat × Ann):=[]
def QjU : List (List Nat × Nat):=[]
def QjV : List Ctr:=[Qbu,UQ,QlD]
def QmR (n : Nat) (a0 : Qb) (a1 : Qb) : Option Int:=run Tryz.prog QmQ QjU (Qn QjV) Tryz.f76 (Tryz.f76.body.getD .skip) (Qp [I64]) n (Qt [Qa,Qa] (a0,a1,()))
theorem Qtd (n : Nat) (a0 : Qb) (a1 : Qb) : QmR n a0 a1 =
  Option.bind (Wu ([YD a0.1 a1.1,YD a0.2.1 a1.2.1,Ju a0.2.2.2 a1.2.2.2,Ju a0.2.2.1 a1.2.2.1] : List Int)) fun (y1 : Int) =>
  some y1:=by kernel_rfl
theorem Qzx (a0 : Qb) (a1 : Qb) {r : Int} (h : YY a0 a1 = some r) : Ev (fun n=>QmR n a0 a1) r:=by
 rw [YY] at h
 refine Ev.of_eq ?_ (fun n=>Qtd n a0 a1)
 exact (Ev.ofBind h fun y1 h=>(Ev.ofSome h))
theorem Qvh : ∀ x ∈ QjV,Qh Tryz.prog x:=(Qd Qtb (Qd QnJ (Qd QCI Qk)))
theorem QjW : Qh Tryz.prog (EM):=by
 refine Qj (c:=EM) (by kernel_rfl) (by kernel_rfl : Tryz.prog.funcs[76]? = some Tryz.f76) (code:=Tryz.f76.body.getD .skip) (by kernel_rfl) (by kernel_rfl) (by kernel_rfl) (A:=QmQ) (I:=QjU) (Qvh) ?_
 rintro ⟨a0,a1,u⟩ y hy
 exact (Qzx a0 a1 hy).get
end
end Go.Ab
