import Derived.Test.YtafopbigcffjgaaGreatAncLay
import Derived.Test.YtafopbigcffjgaaGreatProg
import Derived.KernelRfl
namespace Go.Ab
noncomputable section
open Go.Proofs
set_option maxRecDepth 20000
abbrev I64 : Ty:=.int .i64
abbrev U8 : Ty:=.int .u8
abbrev Qa : Ty:=(.pair I64 (.pair I64 (.pair .str .str)))
abbrev Qb : Type:=(Int × (Int × ((List Int) × (List Int))))
abbrev Qg : Ty:=(.pair I64 (.pair Qa (.pair (.list Qa) (.list .str))))
abbrev Qn : Type:=(Int × (Qb × ((List Qb) × (List (List Int)))))
abbrev Qc : Ty:=(.pair Qa (.pair (.list Qa) (.pair (.list .str) (.list Qg))))
abbrev Qf : Type:=(Qb × ((List Qb) × ((List (List Int)) × (List Qn))))
def Zk : List Int → Option Bool
 | [] =>
   some true
 | e :: rest =>
   bif decide (e < 32) then
    some false
   else
    bif decide ((126 : Int) < e) then
     some false
    else
     Zk rest
def ZM (a0 : (List Int)) : Option Bool :=
 Ym a0 (Zk a0)
def HR : Ctr:=⟨58,[.str],[.bool],fun x=>ZM x.1⟩
def HS : List (List Nat × Ann):=[([0,2],[.keep 0 0,.keep 0 3])]
def XN : List (List Nat × Nat):=[]
def XO : List Ctr:=[]
def QaU (n : Nat) (a0 : (List Int)) : Option Bool:=run Tryz.prog HS XN (Qk XO) Tryz.f58 (Tryz.f58.body.getD .skip) (Ql [.bool]) n (Qp [.str] (a0,()))
abbrev JL (n : Nat) (x1 : (List Int)) (x2 : Int) : Option Bool:=lam Tryz.prog HS XN (Qk XO) Tryz.f58 (Tryz.f58.body.getD .skip) (Ql [.bool]) n [0,2] [.d .str x1,.d I64 x2]
theorem Qfh (n : Nat) (a0 : (List Int)) : QaU n a0 =
  JL n a0 0:=by kernel_rfl
theorem Xs (n : Nat) (x1 : (List Int)) (x2 : Int) : JL (n + 1) x1 x2 =
  bif decide (x2 < (x1.length : Int)) then
   bif inB x2 x1.length then
    bif decide (rd x1 x2 0 < 32) then
     some false
    else
     bif inB x2 x1.length then
      bif decide ((126 : Int) < rd x1 x2 0) then
       some false
      else
       JL n x1 (IntKind.wrap .i64 (x2 + 1))
     else none
   else none
  else
   some true:=by kernel_rfl
theorem Qed {x1 : (List Int)} (hl : x1.length ≤ maxLen) : ∀ (rest : List Int) (k : Nat) (r : Bool),rest = x1.drop k → Zk rest = some r → Ev (fun n=>JL n x1 (k : Int)) r:=by
 intro rest
 induction rest with
 | nil =>
  intro k r hr h
  have hk:=Za hr
  rw [Zk] at h
  refine Ev.step ?_ (fun n=>Xs n x1 (k : Int))
  rw [show decide ((k : Int) < (x1.length : Int)) = false from decide_eq_false (by omega)]
  exact Ev.neg rfl (Ev.ofSome h)
 | cons e rest ih =>
  intro k r hr h
  obtain ⟨hk,hx,hr2⟩:=QK (d:=0) hr
  have hw:=QR hl hk
  have ih2 : ∀ (r : Bool),Zk rest = some r → Ev (fun n=>JL n x1 (IntKind.wrap .i64 ((k : Int) + 1))) r:=by
   intro r h; rw [hw]; exact ih (k + 1) r hr2 h
  rw [Zk] at h
  refine Ev.step ?_ (fun n=>Xs n x1 (k : Int))
  rw [show decide ((k : Int) < (x1.length : Int)) = true from decide_eq_true (by omega),QD hk,hx]
  exact Ev.pos rfl (Ev.pos rfl (Ev.ofBif h (fun h=>(Ev.ofSome h)) (fun h=>(Ev.pos rfl (Ev.ofBif h (fun h=>(Ev.ofSome h)) (fun h=>(ih2  _ h)))))))
theorem QjM (a0 : (List Int)) {r : Bool} (h : ZM a0 = some r) : Ev (fun n=>QaU n a0) r:=by
 rw [ZM] at h
 refine Ev.of_eq ?_ (fun n=>Qfh n a0)
 exact (Ev.ofLen h fun hl h=>Qed hl _ (0 : Nat) _ rfl h)
theorem QgC : ∀ x ∈ XO,Qh Tryz.prog x:=Qj
theorem Qh1 : Qh Tryz.prog (HR):=by
 refine Qi (c:=HR) (by kernel_rfl) (by kernel_rfl : Tryz.prog.funcs[58]? = some Tryz.f58) (code:=Tryz.f58.body.getD .skip) (by kernel_rfl) (by kernel_rfl) (by kernel_rfl) (A:=HS) (I:=XN) (QgC) ?_
 rintro ⟨a0,u⟩ y hy
 exact (QjM a0 hy).get
def JM (a0 : Int) : Bool :=
 bif decide ((48 : Int) ≤ a0) then
  decide (a0 ≤ 57)
 else
  false
def Ei : Ctr:=⟨87,[U8],[.bool],fun x=>some (JM x.1)⟩
def Qee : List (List Nat × Ann):=[]
def QcB : List (List Nat × Nat):=[]
def QcC : List Ctr:=[]
def Qef (n : Nat) (a0 : Int) : Option Bool:=run Tryz.prog Qee QcB (Qk QcC) Tryz.f87 (Tryz.f87.body.getD .skip) (Ql [.bool]) n (Qp [U8] (a0,()))
theorem Qh2 (n : Nat) (a0 : Int) : Qef n a0 =
  bif decide ((48 : Int) ≤ a0) then
   some (decide (a0 ≤ 57))
  else
   some false:=by kernel_rfl
theorem Qm8 (n : Nat) (a0 : Int) : Qef n a0 = some (JM a0):=(Qh2 n a0).trans (Q1 rfl rfl)
theorem QjN : ∀ x ∈ QcC,Qh Tryz.prog x:=Qj
theorem Qla : Qh Tryz.prog (Ei):=by
 refine Qi (c:=Ei) (by kernel_rfl) (by kernel_rfl : Tryz.prog.funcs[87]? = some Tryz.f87) (code:=Tryz.f87.body.getD .skip) (by kernel_rfl) (by kernel_rfl) (by kernel_rfl) (A:=Qee) (I:=QcB) (QjN) ?_
 rintro ⟨a0,u⟩ y hy
 exact ⟨0,(Qm8 0 a0).trans hy⟩
def Ys (a0 : Int) : Bool :=
 bif decide ((97 : Int) ≤ a0) then
  bif decide (a0 ≤ 122) then
   true
  else
   bif decide ((65 : Int) ≤ a0) then
    decide (a0 ≤ 90)
   else
    false
 else
  bif decide ((65 : Int) ≤ a0) then
   decide (a0 ≤ 90)
  else
   false
def UZ : Ctr:=⟨88,[U8],[.bool],fun x=>some (Ys x.1)⟩
def QcD : List (List Nat × Ann):=[]
def QaV : List (List Nat × Nat):=[]
def QaW : List Ctr:=[]
def QcE (n : Nat) (a0 : Int) : Option Bool:=run Tryz.prog QcD QaV (Qk QaW) Tryz.f88 (Tryz.f88.body.getD .skip) (Ql [.bool]) n (Qp [U8] (a0,()))
theorem QgD (n : Nat) (a0 : Int) : QcE n a0 =
  bif decide ((97 : Int) ≤ a0) then
   bif decide (a0 ≤ 122) then
    some true
   else
    bif decide ((65 : Int) ≤ a0) then
     some (decide (a0 ≤ 90))
    else
     some false
  else
   bif decide ((65 : Int) ≤ a0) then
    some (decide (a0 ≤ 90))
   else
    some false:=by kernel_rfl
theorem Qlb (n : Nat) (a0 : Int) : QcE n a0 = some (Ys a0):=(QgD n a0).trans (Q1 (Q1 rfl (Q1 rfl rfl)) (Q1 rfl rfl))
theorem Qh3 : ∀ x ∈ QaW,Qh Tryz.prog x:=Qj
theorem QjO : Qh Tryz.prog (UZ):=by
 refine Qi (c:=UZ) (by kernel_rfl) (by kernel_rfl : Tryz.prog.funcs[88]? = some Tryz.f88) (code:=Tryz.f88.body.getD .skip) (by kernel_rfl) (by kernel_rfl) (by kernel_rfl) (A:=QcD) (I:=QaV) (Qh3) ?_
 rintro ⟨a0,u⟩ y hy
 exact ⟨0,(Qlb 0 a0).trans hy⟩
def QS : List Int → Option Bool
 | [] =>
   some true
 | e :: rest =>
   bif !(Ys (e)) then
    bif !(JM (e)) then
     bif !decide (e = 95) then
      some false
     else
      QS rest
    else
     QS rest
   else
    QS rest
def Zr (a0 : (List Int)) : Option Bool :=
 bif decide ((a0.length : Int) < 1) then
  some false
 else
  bif decide ((30 : Int) < (a0.length : Int)) then
   some false
  else
   bif inB 0 a0.length then
    bif JM (rd a0 0 0) then
     some false
    else
     Ym a0 (QS a0)
   else none
def Vt : Ctr:=⟨56,[.str],[.bool],fun x=>Zr x.1⟩
def U0 : List (List Nat × Ann):=[([0,4],[.keep 0 0,.keep 0 3])]
def HT : List (List Nat × Nat):=[]
def HU : List Ctr:=[Ei,UZ]
def QcF (n : Nat) (a0 : (List Int)) : Option Bool:=run Tryz.prog U0 HT (Qk HU) Tryz.f56 (Tryz.f56.body.getD .skip) (Ql [.bool]) n (Qp [.str] (a0,()))
abbrev ZV (n : Nat) (x1 : (List Int)) (x2 : Int) : Option Bool:=lam Tryz.prog U0 HT (Qk HU) Tryz.f56 (Tryz.f56.body.getD .skip) (Ql [.bool]) n [0,4] [.d .str x1,.d I64 x2]
theorem QgE (n : Nat) (a0 : (List Int)) : QcF n a0 =
  bif decide ((a0.length : Int) < 1) then
   some false
  else
   bif decide ((30 : Int) < (a0.length : Int)) then
    some false
   else
    bif inB 0 a0.length then
     bif JM (rd a0 0 0) then
      some false
     else
      ZV n a0 0
    else none:=by kernel_rfl
theorem XP (n : Nat) (x1 : (List Int)) (x2 : Int) : ZV (n + 1) x1 x2 =
  bif decide (x2 < (x1.length : Int)) then
   bif inB x2 x1.length then
    bif !(Ys (rd x1 x2 0)) then
     bif inB x2 x1.length then
      bif !(JM (rd x1 x2 0)) then
       bif inB x2 x1.length then
        bif !decide (rd x1 x2 0 = 95) then
         some false
        else
         ZV n x1 (IntKind.wrap .i64 (x2 + 1))
       else none
      else
       ZV n x1 (IntKind.wrap .i64 (x2 + 1))
     else none
    else
     ZV n x1 (IntKind.wrap .i64 (x2 + 1))
   else none
  else
   some true:=by kernel_rfl
theorem Qfi {x1 : (List Int)} (hl : x1.length ≤ maxLen) : ∀ (rest : List Int) (k : Nat) (r : Bool),rest = x1.drop k → QS rest = some r → Ev (fun n=>ZV n x1 (k : Int)) r:=by
 intro rest
 induction rest with
 | nil =>
  intro k r hr h
  have hk:=Za hr
  rw [QS] at h
  refine Ev.step ?_ (fun n=>XP n x1 (k : Int))
  rw [show decide ((k : Int) < (x1.length : Int)) = false from decide_eq_false (by omega)]
  exact Ev.neg rfl (Ev.ofSome h)
 | cons e rest ih =>
  intro k r hr h
  obtain ⟨hk,hx,hr2⟩:=QK (d:=0) hr
  have hw:=QR hl hk
  have ih2 : ∀ (r : Bool),QS rest = some r → Ev (fun n=>ZV n x1 (IntKind.wrap .i64 ((k : Int) + 1))) r:=by
   intro r h; rw [hw]; exact ih (k + 1) r hr2 h
  rw [QS] at h
  refine Ev.step ?_ (fun n=>XP n x1 (k : Int))
  rw [show decide ((k : Int) < (x1.length : Int)) = true from decide_eq_true (by omega),QD hk,hx]
  exact Ev.pos rfl (Ev.pos rfl (Ev.ofBif h (fun h=>(Ev.pos rfl (Ev.ofBif h (fun h=>(Ev.pos rfl (Ev.ofBif h (fun h=>(Ev.ofSome h)) (fun h=>(ih2  _ h))))) (fun h=>(ih2  _ h))))) (fun h=>(ih2  _ h))))
theorem Qlc (a0 : (List Int)) {r : Bool} (h : Zr a0 = some r) : Ev (fun n=>QcF n a0) r:=by
 rw [Zr] at h
 refine Ev.of_eq ?_ (fun n=>QgE n a0)
 exact (Ev.ofBif h (fun h=>(Ev.ofSome h)) (fun h=>(Ev.ofBif h (fun h=>(Ev.ofSome h)) (fun h=>(Ev.ofBif h (fun h=>(Ev.ofBif h (fun h=>(Ev.ofSome h)) (fun h=>(Ev.ofLen h fun hl h=>Qfi hl _ (0 : Nat) _ rfl h)))) (fun h=>(Ev.ofNone h)))))))
theorem Qh4 : ∀ x ∈ HU,Qh Tryz.prog x:=(Qd Qla (Qd QjO Qj))
theorem HV : Qh Tryz.prog (Vt):=by
 refine Qi (c:=Vt) (by kernel_rfl) (by kernel_rfl : Tryz.prog.funcs[56]? = some Tryz.f56) (code:=Tryz.f56.body.getD .skip) (by kernel_rfl) (by kernel_rfl) (by kernel_rfl) (A:=U0) (I:=HT) (Qh4) ?_
 rintro ⟨a0,u⟩ y hy
 exact (Qlc a0 hy).get
def Js (x1 : Int) : Nat → Int → Int → Option Int
 | 0,_,_=>none
 | m + 1,x2,x3 =>
   bif decide (x3 < x1) then
    Js x1 m (IntKind.wrap .i64 (x2 * 2)) (IntKind.wrap .i64 (x3 + 1))
   else
    some x2
def Qas (m : Nat) (a0 : Int) : Option Int :=
 Js a0 m 1 0
def YI (a0 : Int) : Option Int:=QhU fun m=>Qas m a0
def UD : Ctr:=⟨59,[I64],[I64],fun x=>YI x.1⟩
def Qat : List (List Nat × Ann):=[([0,3],[.keep 0 0,.keep 0 3,.keep 0 4])]
def Ej : List (List Nat × Nat):=[]
def Ek : List Ctr:=[]
def QfZ (n : Nat) (a0 : Int) : Option Int:=run Tryz.prog Qat Ej (Qk Ek) Tryz.f59 (Tryz.f59.body.getD .skip) (Ql [I64]) n (Qp [I64] (a0,()))
abbrev VD (n : Nat) (x1 : Int) (x2 : Int) (x3 : Int) : Option Int:=lam Tryz.prog Qat Ej (Qk Ek) Tryz.f59 (Tryz.f59.body.getD .skip) (Ql [I64]) n [0,3] [.d I64 x1,.d I64 x2,.d I64 x3]
theorem QjP (n : Nat) (a0 : Int) : QfZ n a0 =
  VD n a0 1 0:=by kernel_rfl
theorem Qeg (n : Nat) (x1 : Int) (x2 : Int) (x3 : Int) : VD (n + 1) x1 x2 x3 =
  bif decide (x3 < x1) then
   VD n x1 (IntKind.wrap .i64 (x2 * 2)) (IntKind.wrap .i64 (x3 + 1))
  else
   some x2:=by kernel_rfl
theorem Qh5 {x1 : Int} : ∀ (m : Nat) (x2 : Int) (x3 : Int) (r : Int),Js x1 m x2 x3 = some r → Ev (fun n=>VD n x1 x2 x3) r:=by
 intro m
 induction m with
 | zero=>intro x2 x3 r h; rw [Js] at h; exact Ev.ofNone h
 | succ m ih2 =>
  intro x2 x3 r h
  rw [Js] at h
  refine Ev.step ?_ (fun n=>Qeg n x1 x2 x3)
  exact (Ev.ofBif h (fun h=>(ih2 _ _ _ h)) (fun h=>(Ev.ofSome h)))
theorem QnE {m : Nat} (a0 : Int) {r : Int} (h : Qas m a0 = some r) : Ev (fun n=>QfZ n a0) r:=by
 rw [Qas] at h
 refine Ev.of_eq ?_ (fun n=>QjP n a0)
 exact (Qh5 _ _ _ _ h)
theorem Qld : ∀ x ∈ Ek,Qh Tryz.prog x:=Qj
theorem Qeh : Qh Tryz.prog (UD):=by
 refine Qi (c:=UD) (by kernel_rfl) (by kernel_rfl : Tryz.prog.funcs[59]? = some Tryz.f59) (code:=Tryz.f59.body.getD .skip) (by kernel_rfl) (by kernel_rfl) (by kernel_rfl) (A:=Qat) (I:=Ej) (Qld) ?_
 rintro ⟨a0,u⟩ y hy
 exact let ⟨_,h⟩:=(QaO hy).get; (QnE a0 h).get
def Yh (a0 : Qb) : Option (Int × Int) :=
 Option.bind (YI (IntKind.wrap .i64 (32 - (Int.tmod a0.2.1 64)))) fun (y1 : Int) =>
 some (IntKind.wrap .i64 (Int.tdiv a0.2.1 64),y1)
def El : Ctr:=⟨60,[Qa],[I64,I64],fun x=>Yh x.1⟩
def Qei : List (List Nat × Ann):=[]
def QcG : List (List Nat × Nat):=[]
def QcH : List Ctr:=[UD]
def Qej (n : Nat) (a0 : Qb) : Option (Int × Int):=run Tryz.prog Qei QcG (Qk QcH) Tryz.f60 (Tryz.f60.body.getD .skip) (Ql [I64,I64]) n (Qp [Qa] (a0,()))
theorem Qh6 (n : Nat) (a0 : Qb) : Qej n a0 =
  Option.bind (YI (IntKind.wrap .i64 (32 - (Int.tmod a0.2.1 64)))) fun (y1 : Int) =>
  some (IntKind.wrap .i64 (Int.tdiv a0.2.1 64),y1):=by kernel_rfl
theorem Qm9 (a0 : Qb) {r : (Int × Int)} (h : Yh a0 = some r) : Ev (fun n=>Qej n a0) r:=by
 rw [Yh] at h
 refine Ev.of_eq ?_ (fun n=>Qh6 n a0)
 exact (Ev.ofBind h fun y1 h=>(Ev.ofSome h))
theorem QjQ : ∀ x ∈ QcH,Qh Tryz.prog x:=(Qd Qeh Qj)
theorem Qle : Qh Tryz.prog (El):=by
 refine Qi (c:=El) (by kernel_rfl) (by kernel_rfl : Tryz.prog.funcs[60]? = some Tryz.f60) (code:=Tryz.f60.body.getD .skip) (by kernel_rfl) (by kernel_rfl) (by kernel_rfl) (A:=Qei) (I:=QcG) (QjQ) ?_
 rintro ⟨a0,u⟩ y hy
 exact (Qm9 a0 hy).get
def JX (x1 : Int) (x2 : Bool) (x3 : Qb) : Option Bool :=
 bif x2 then
  some true
 else
  bif decide (x1 = 3) then
   bif decide (x3.2.1 = 0) then
    bif decide ((x3.2.2.1.length : Int) ≤ 200) then
     Option.bind (ZM x3.2.2.1) fun (y1 : Bool) =>
     some y1
    else
     some false
   else
    some false
  else
   bif decide (x1 = 4) then
    bif decide (x3.2.1 = 0) then
     Option.bind (Zr x3.2.2.2) fun (y2 : Bool) =>
     bif y2 then
      bif decide ((1 : Int) ≤ (x3.2.2.1.length : Int)) then
       bif decide ((x3.2.2.1.length : Int) ≤ 200) then
        Option.bind (ZM x3.2.2.1) fun (y3 : Bool) =>
        some y3
       else
        some false
      else
       some false
     else
      some false
    else
     some false
   else
    bif decide (x1 = 6) then
     bif decide (x3.2.1 < 0) then
      some false
     else
      Option.bind (YI 32) fun (y4 : Int) =>
      bif decide (IntKind.wrap .i64 (y4 - 1) < IntKind.wrap .i64 (Int.tdiv x3.2.1 64)) then
       some false
      else
       bif decide ((32 : Int) < Int.tmod x3.2.1 64) then
        some false
       else
        Option.bind (Yh x3) fun (y5 : (Int × Int)) =>
        bif decide (y5.2 = 0) then none else
        some (decide (Int.tmod y5.1 y5.2 = 0))
    else
     bif decide (x1 = 7) then
      bif decide (((-100000000000) : Int) ≤ x3.2.1) then
       some (decide (x3.2.1 ≤ 100000000000))
      else
       some false
     else
      some false
def Q4 (x1 : Qb) : Option Bool :=
 bif decide (x1.1 = 1) then
  bif decide (x1.2.1 = 0) then
   some true
  else
   some (decide (x1.2.1 = 1))
 else
  bif decide (x1.1 = 2) then
   JX x1.1 (decide (x1.1 = 2)) x1
  else
   JX x1.1 (decide (x1.1 = 5)) x1
def Zs (a0 : Qb) : Option Bool :=
 bif !decide (a0.1 = 3) then
  bif !decide (a0.1 = 4) then
   bif !decide (a0.2.2.1 = ([] : List Int)) then
    some false
   else
    bif !decide (a0.1 = 4) then
     bif !decide (a0.2.2.2 = ([] : List Int)) then
      some false
     else
      Q4 a0
    else
     Q4 a0
  else
   bif !decide (a0.1 = 4) then
    bif !decide (a0.2.2.2 = ([] : List Int)) then
     some false
    else
     Q4 a0
   else
    Q4 a0
 else
  bif !decide (a0.1 = 4) then
   bif !decide (a0.2.2.2 = ([] : List Int)) then
    some false
   else
    Q4 a0
  else
   Q4 a0
def GL : Ctr:=⟨35,[Qa],[.bool],fun x=>Zs x.1⟩
def GM : List (List Nat × Ann):=[([1,3],[.keep 0 1,.boxd 0 1 Qa]),([1,8],[.keep 0 1,.keep 0 29,.keep 0 40,.boxd 0 1 Qa])]
def Gb : List (List Nat × Nat):=[]
def Gc : List Ctr:=[HR,Vt,UD,El]
def QcI (n : Nat) (a0 : Qb) : Option Bool:=run Tryz.prog GM Gb (Qk Gc) Tryz.f35 (Tryz.f35.body.getD .skip) (Ql [.bool]) n (Qp [Qa] (a0,()))
abbrev Zx (n : Nat) (x1 : Qb) : Option Bool:=lam Tryz.prog GM Gb (Qk Gc) Tryz.f35 (Tryz.f35.body.getD .skip) (Ql [.bool]) n [1,3] [.ptr 0 1 0,.agg (Qm Qa x1)]
abbrev YO (n : Nat) (x1 : Int) (x2 : Bool) (x3 : Qb) : Option Bool:=lam Tryz.prog GM Gb (Qk Gc) Tryz.f35 (Tryz.f35.body.getD .skip) (Ql [.bool]) n [1,8] [.ptr 0 1 0,.d I64 x1,.d .bool x2,.agg (Qm Qa x3)]
theorem QgF (n : Nat) (a0 : Qb) : QcI n a0 =
  bif !decide (a0.1 = 3) then
   bif !decide (a0.1 = 4) then
    bif !decide (a0.2.2.1 = ([] : List Int)) then
     some false
    else
     bif !decide (a0.1 = 4) then
      bif !decide (a0.2.2.2 = ([] : List Int)) then
       some false
      else
       Zx n a0
     else
      Zx n a0
   else
    bif !decide (a0.1 = 4) then
     bif !decide (a0.2.2.2 = ([] : List Int)) then
      some false
     else
      Zx n a0
    else
     Zx n a0
  else
   bif !decide (a0.1 = 4) then
    bif !decide (a0.2.2.2 = ([] : List Int)) then
     some false
    else
     Zx n a0
   else
    Zx n a0:=by kernel_rfl
theorem Qcb (n : Nat) (x1 : Qb) : Zx (n + 1) x1 =
  bif decide (x1.1 = 1) then
   bif decide (x1.2.1 = 0) then
    some true
   else
    some (decide (x1.2.1 = 1))
  else
   bif decide (x1.1 = 2) then
    YO n x1.1 (decide (x1.1 = 2)) x1
   else
    YO n x1.1 (decide (x1.1 = 5)) x1:=by kernel_rfl
theorem Qcc (n : Nat) (x1 : Int) (x2 : Bool) (x3 : Qb) : YO (n + 1) x1 x2 x3 =
  bif x2 then
   some true
  else
   bif decide (x1 = 3) then
    bif decide (x3.2.1 = 0) then
     bif decide ((x3.2.2.1.length : Int) ≤ 200) then
      Option.bind (ZM x3.2.2.1) fun (y1 : Bool) =>
      some y1
     else
      some false
    else
     some false
   else
    bif decide (x1 = 4) then
     bif decide (x3.2.1 = 0) then
      Option.bind (Zr x3.2.2.2) fun (y2 : Bool) =>
      bif y2 then
       bif decide ((1 : Int) ≤ (x3.2.2.1.length : Int)) then
        bif decide ((x3.2.2.1.length : Int) ≤ 200) then
         Option.bind (ZM x3.2.2.1) fun (y3 : Bool) =>
         some y3
        else
         some false
       else
        some false
      else
       some false
     else
      some false
    else
     bif decide (x1 = 6) then
      bif decide (x3.2.1 < 0) then
       some false
      else
       Option.bind (YI 32) fun (y4 : Int) =>
       bif decide (IntKind.wrap .i64 (y4 - 1) < IntKind.wrap .i64 (Int.tdiv x3.2.1 64)) then
        some false
       else
        bif decide ((32 : Int) < Int.tmod x3.2.1 64) then
         some false
        else
         Option.bind (Yh x3) fun (y5 : (Int × Int)) =>
         bif decide (y5.2 = 0) then none else
         some (decide (Int.tmod y5.1 y5.2 = 0))
     else
      bif decide (x1 = 7) then
       bif decide (((-100000000000) : Int) ≤ x3.2.1) then
        some (decide (x3.2.1 ≤ 100000000000))
       else
        some false
      else
       some false:=by kernel_rfl
theorem WB {x1 : Int} {x2 : Bool} {x3 : Qb} {r : Bool} (h : JX x1 x2 x3 = some r) : Ev (fun n=>YO n x1 x2 x3) r:=by
 rw [JX] at h
 refine Ev.step ?_ (fun n=>Qcc n x1 x2 x3)
 exact (Ev.ofBif h (fun h=>(Ev.ofSome h)) (fun h=>(Ev.ofBif h (fun h=>(Ev.ofBif h (fun h=>(Ev.ofBif h (fun h=>(Ev.ofBind h fun y1 h=>(Ev.ofSome h))) (fun h=>(Ev.ofSome h)))) (fun h=>(Ev.ofSome h)))) (fun h=>(Ev.ofBif h (fun h=>(Ev.ofBif h (fun h=>(Ev.ofBind h fun y2 h=>(Ev.ofBif h (fun h=>(Ev.ofBif h (fun h=>(Ev.ofBif h (fun h=>(Ev.ofBind h fun y3 h=>(Ev.ofSome h))) (fun h=>(Ev.ofSome h)))) (fun h=>(Ev.ofSome h)))) (fun h=>(Ev.ofSome h))))) (fun h=>(Ev.ofSome h)))) (fun h=>(Ev.ofBif h (fun h=>(Ev.ofBif h (fun h=>(Ev.ofSome h)) (fun h=>(Ev.ofBind h fun y4 h=>(Ev.ofBif h (fun h=>(Ev.ofSome h)) (fun h=>(Ev.ofBif h (fun h=>(Ev.ofSome h)) (fun h=>(Ev.ofBind h fun y5 h=>(Ev.ofBif h (fun h=>(Ev.ofNone h)) (fun h=>(Ev.ofSome h)))))))))))) (fun h=>(Ev.ofBif h (fun h=>(Ev.ofBif h (fun h=>(Ev.ofSome h)) (fun h=>(Ev.ofSome h)))) (fun h=>(Ev.ofSome h)))))))))))
theorem Jx {x1 : Qb} {r : Bool} (h : Q4 x1 = some r) : Ev (fun n=>Zx n x1) r:=by
 rw [Q4] at h
 refine Ev.step ?_ (fun n=>Qcb n x1)
 exact (Ev.ofBif h (fun h=>(Ev.ofBif h (fun h=>(Ev.ofSome h)) (fun h=>(Ev.ofSome h)))) (fun h=>(Ev.ofBif h (fun h=>(WB h)) (fun h=>(WB h)))))
theorem Qlf (a0 : Qb) {r : Bool} (h : Zs a0 = some r) : Ev (fun n=>QcI n a0) r:=by
 rw [Zs] at h
 refine Ev.of_eq ?_ (fun n=>QgF n a0)
 exact (Ev.ofBif h (fun h=>(Ev.ofBif h (fun h=>(Ev.ofBif h (fun h=>(Ev.ofSome h)) (fun h=>(Ev.ofBif h (fun h=>(Ev.ofBif h (fun h=>(Ev.ofSome h)) (fun h=>(Jx h)))) (fun h=>(Jx h)))))) (fun h=>(Ev.ofBif h (fun h=>(Ev.ofBif h (fun h=>(Ev.ofSome h)) (fun h=>(Jx h)))) (fun h=>(Jx h)))))) (fun h=>(Ev.ofBif h (fun h=>(Ev.ofBif h (fun h=>(Ev.ofSome h)) (fun h=>(Jx h)))) (fun h=>(Jx h)))))
theorem Qh7 : ∀ x ∈ Gc,Qh Tryz.prog x:=(Qd Qh1 (Qd HV (Qd Qeh (Qd Qle Qj))))
theorem QaX : Qh Tryz.prog (GL):=by
 refine Qi (c:=GL) (by kernel_rfl) (by kernel_rfl : Tryz.prog.funcs[35]? = some Tryz.f35) (code:=Tryz.f35.body.getD .skip) (by kernel_rfl) (by kernel_rfl) (by kernel_rfl) (A:=GM) (I:=Gb) (Qh7) ?_
 rintro ⟨a0,u⟩ y hy
 exact (Qlf a0 hy).get
def Z7 (a0 : Qb) : Option Bool :=
 bif decide (a0.1 = 4) then
  Option.bind (Zs a0) fun (y1 : Bool) =>
  some y1
 else
  some false
def UE : Ctr:=⟨17,[Qa],[.bool],fun x=>Z7 x.1⟩
def Qf0 : List (List Nat × Ann):=[]
def Qek : List (List Nat × Nat):=[]
def Qel : List Ctr:=[GL]
def Qf1 (n : Nat) (a0 : Qb) : Option Bool:=run Tryz.prog Qf0 Qek (Qk Qel) Tryz.f17 (Tryz.f17.body.getD .skip) (Ql [.bool]) n (Qp [Qa] (a0,()))
theorem QjR (n : Nat) (a0 : Qb) : Qf1 n a0 =
  bif decide (a0.1 = 4) then
   Option.bind (Zs a0) fun (y1 : Bool) =>
   some y1
  else
   some false:=by kernel_rfl
theorem QnF (a0 : Qb) {r : Bool} (h : Z7 a0 = some r) : Ev (fun n=>Qf1 n a0) r:=by
 rw [Z7] at h
 refine Ev.of_eq ?_ (fun n=>QjR n a0)
 exact (Ev.ofBif h (fun h=>(Ev.ofBind h fun y1 h=>(Ev.ofSome h))) (fun h=>(Ev.ofSome h)))
theorem Qlg : ∀ x ∈ Qel,Qh Tryz.prog x:=(Qd QaX Qj)
theorem Qem : Qh Tryz.prog (UE):=by
 refine Qi (c:=UE) (by kernel_rfl) (by kernel_rfl : Tryz.prog.funcs[17]? = some Tryz.f17) (code:=Tryz.f17.body.getD .skip) (by kernel_rfl) (by kernel_rfl) (by kernel_rfl) (A:=Qf0) (I:=Qek) (Qlg) ?_
 rintro ⟨a0,u⟩ y hy
 exact (QnF a0 hy).get
def Qw (a0 : Int) (a1 : Int) : Int :=
 bif decide (a0 < a1) then
  (-1)
 else
  bif decide (a1 < a0) then
   1
  else
   0
def GN : Ctr:=⟨54,[I64,I64],[I64],fun x=>some (Qw x.1 x.2.1)⟩
def QcJ : List (List Nat × Ann):=[]
def QaY : List (List Nat × Nat):=[]
def QaZ : List Ctr:=[]
def QcK (n : Nat) (a0 : Int) (a1 : Int) : Option Int:=run Tryz.prog QcJ QaY (Qk QaZ) Tryz.f54 (Tryz.f54.body.getD .skip) (Ql [I64]) n (Qp [I64,I64] (a0,a1,()))
theorem QgG (n : Nat) (a0 : Int) (a1 : Int) : QcK n a0 a1 =
  bif decide (a0 < a1) then
   some (-1)
  else
   bif decide (a1 < a0) then
    some 1
   else
    some 0:=by kernel_rfl
theorem Qlh (n : Nat) (a0 : Int) (a1 : Int) : QcK n a0 a1 = some (Qw a0 a1):=(QgG n a0 a1).trans (Q1 rfl (Q1 rfl rfl))
theorem Qh8 : ∀ x ∈ QaZ,Qh Tryz.prog x:=Qj
theorem Qa0 : Qh Tryz.prog (GN):=by
 refine Qi (c:=GN) (by kernel_rfl) (by kernel_rfl : Tryz.prog.funcs[54]? = some Tryz.f54) (code:=Tryz.f54.body.getD .skip) (by kernel_rfl) (by kernel_rfl) (by kernel_rfl) (A:=QcJ) (I:=QaY) (Qh8) ?_
 rintro ⟨a0,a1,u⟩ y hy
 exact ⟨0,(Qlh 0 a0 a1).trans hy⟩
def QW (x1 : (List Int)) (x2 : (List Int)) : List Int → Nat → Option Int
 | [],k =>
   some (Qw (x1.length : Int) (x2.length : Int))
 | e :: rest,k =>
   bif decide ((k : Int) < (x2.length : Int)) then
    bif inB (k : Int) x2.length then
     bif !decide (e = rd x2 (k : Int) 0) then
      bif inB (k : Int) x2.length then
       some (Qw (IntKind.wrap .i64 (e)) (IntKind.wrap .i64 (rd x2 (k : Int) 0)))
      else none
     else
      QW x1 x2 rest (k + 1)
    else none
   else
    some (Qw (x1.length : Int) (x2.length : Int))
def QL (a0 : (List Int)) (a1 : (List Int)) : Option Int :=
 Ym a0 (QW a0 a1 a0 0)
def Y0 : Ctr:=⟨55,[.str,.str],[I64],fun x=>QL x.1 x.2.1⟩
def HW : List (List Nat × Ann):=[([0,2],[.keep 0 0,.keep 0 1,.keep 0 5])]
def XQ : List (List Nat × Nat):=[]
def XR : List Ctr:=[GN]
def Qa1 (n : Nat) (a0 : (List Int)) (a1 : (List Int)) : Option Int:=run Tryz.prog HW XQ (Qk XR) Tryz.f55 (Tryz.f55.body.getD .skip) (Ql [I64]) n (Qp [.str,.str] (a0,a1,()))
abbrev JN (n : Nat) (x1 : (List Int)) (x2 : (List Int)) (x3 : Int) : Option Int:=lam Tryz.prog HW XQ (Qk XR) Tryz.f55 (Tryz.f55.body.getD .skip) (Ql [I64]) n [0,2] [.d .str x1,.d .str x2,.d I64 x3]
theorem Qfj (n : Nat) (a0 : (List Int)) (a1 : (List Int)) : Qa1 n a0 a1 =
  JN n a0 a1 0:=by kernel_rfl
theorem Xt (n : Nat) (x1 : (List Int)) (x2 : (List Int)) (x3 : Int) : JN (n + 1) x1 x2 x3 =
  bif decide (x3 < (x1.length : Int)) then
   bif decide (x3 < (x2.length : Int)) then
    bif inB x3 x1.length then
     bif inB x3 x2.length then
      bif !decide (rd x1 x3 0 = rd x2 x3 0) then
       bif inB x3 x1.length then
        bif inB x3 x2.length then
         some (Qw (IntKind.wrap .i64 (rd x1 x3 0)) (IntKind.wrap .i64 (rd x2 x3 0)))
        else none
       else none
      else
       JN n x1 x2 (IntKind.wrap .i64 (x3 + 1))
     else none
    else none
   else
    some (Qw (x1.length : Int) (x2.length : Int))
  else
   some (Qw (x1.length : Int) (x2.length : Int)):=by kernel_rfl
theorem Qen {x1 : (List Int)} {x2 : (List Int)} (hl : x1.length ≤ maxLen) : ∀ (rest : List Int) (k : Nat) (r : Int),rest = x1.drop k → QW x1 x2 rest k = some r → Ev (fun n=>JN n x1 x2 (k : Int)) r:=by
 intro rest
 induction rest with
 | nil =>
  intro k r hr h
  have hk:=Za hr
  rw [QW] at h
  refine Ev.step ?_ (fun n=>Xt n x1 x2 (k : Int))
  rw [show decide ((k : Int) < (x1.length : Int)) = false from decide_eq_false (by omega)]
  exact Ev.neg rfl (Ev.ofSome h)
 | cons e rest ih =>
  intro k r hr h
  obtain ⟨hk,hx,hr2⟩:=QK (d:=0) hr
  have hw:=QR hl hk
  have ih2 : ∀ (r : Int),QW x1 x2 rest (k + 1) = some r → Ev (fun n=>JN n x1 x2 (IntKind.wrap .i64 ((k : Int) + 1))) r:=by
   intro r h; rw [hw]; exact ih (k + 1) r hr2 h
  rw [QW] at h
  refine Ev.step ?_ (fun n=>Xt n x1 x2 (k : Int))
  rw [show decide ((k : Int) < (x1.length : Int)) = true from decide_eq_true (by omega),QD hk,hx]
  exact Ev.pos rfl (Ev.ofBif h (fun h=>(Ev.pos rfl (Ev.ofBif h (fun h=>(Ev.ofBif h (fun h=>(Ev.pos rfl (Ev.ofBif h (fun h=>(Ev.ofSome h)) (fun h=>(Ev.ofNone h))))) (fun h=>(ih2  _ h)))) (fun h=>(Ev.ofNone h))))) (fun h=>(Ev.ofSome h)))
theorem QjS (a0 : (List Int)) (a1 : (List Int)) {r : Int} (h : QL a0 a1 = some r) : Ev (fun n=>Qa1 n a0 a1) r:=by
 rw [QL] at h
 refine Ev.of_eq ?_ (fun n=>Qfj n a0 a1)
 exact (Ev.ofLen h fun hl h=>Qen hl _ (0 : Nat) _ rfl h)
theorem QgH : ∀ x ∈ XR,Qh Tryz.prog x:=(Qd Qa0 Qj)
theorem XS : Qh Tryz.prog (Y0):=by
 refine Qi (c:=Y0) (by kernel_rfl) (by kernel_rfl : Tryz.prog.funcs[55]? = some Tryz.f55) (code:=Tryz.f55.body.getD .skip) (by kernel_rfl) (by kernel_rfl) (by kernel_rfl) (A:=HW) (I:=XQ) (QgH) ?_
 rintro ⟨a0,a1,u⟩ y hy
 exact (QjS a0 a1 hy).get
def Zm (a0 : Qb) (a1 : Qb) : Option Int :=
 bif !decide (Qw a0.1 a1.1 = 0) then
  some (Qw a0.1 a1.1)
 else
  bif !decide (Qw a0.2.1 a1.2.1 = 0) then
   some (Qw a0.2.1 a1.2.1)
  else
   Option.bind (QL a0.2.2.2 a1.2.2.2) fun (y1 : Int) =>
   bif !decide (y1 = 0) then
    some y1
   else
    Option.bind (QL a0.2.2.1 a1.2.2.1) fun (y2 : Int) =>
    some y2
def XT : Ctr:=⟨33,[Qa,Qa],[I64],fun x=>Zm x.1 x.2.1⟩
def Qh9 : List (List Nat × Ann):=[]
def Qf2 : List (List Nat × Nat):=[]
def Qf3 : List Ctr:=[GN,Y0]
def Qia (n : Nat) (a0 : Qb) (a1 : Qb) : Option Int:=run Tryz.prog Qh9 Qf2 (Qk Qf3) Tryz.f33 (Tryz.f33.body.getD .skip) (Ql [I64]) n (Qp [Qa,Qa] (a0,a1,()))
theorem Qli (n : Nat) (a0 : Qb) (a1 : Qb) : Qia n a0 a1 =
  bif !decide (Qw a0.1 a1.1 = 0) then
   some (Qw a0.1 a1.1)
  else
   bif !decide (Qw a0.2.1 a1.2.1 = 0) then
    some (Qw a0.2.1 a1.2.1)
   else
    Option.bind (QL a0.2.2.2 a1.2.2.2) fun (y1 : Int) =>
    bif !decide (y1 = 0) then
     some y1
    else
     Option.bind (QL a0.2.2.1 a1.2.2.1) fun (y2 : Int) =>
     some y2:=by kernel_rfl
theorem Qo5 (a0 : Qb) (a1 : Qb) {r : Int} (h : Zm a0 a1 = some r) : Ev (fun n=>Qia n a0 a1) r:=by
 rw [Zm] at h
 refine Ev.of_eq ?_ (fun n=>Qli n a0 a1)
 exact (Ev.ofBif h (fun h=>(Ev.ofSome h)) (fun h=>(Ev.ofBif h (fun h=>(Ev.ofSome h)) (fun h=>(Ev.ofBind h fun y1 h=>(Ev.ofBif h (fun h=>(Ev.ofSome h)) (fun h=>(Ev.ofBind h fun y2 h=>(Ev.ofSome h)))))))))
theorem Qna : ∀ x ∈ Qf3,Qh Tryz.prog x:=(Qd Qa0 (Qd XS Qj))
theorem Qau : Qh Tryz.prog (XT):=by
 refine Qi (c:=XT) (by kernel_rfl) (by kernel_rfl : Tryz.prog.funcs[33]? = some Tryz.f33) (code:=Tryz.f33.body.getD .skip) (by kernel_rfl) (by kernel_rfl) (by kernel_rfl) (A:=Qh9) (I:=Qf2) (Qna) ?_
 rintro ⟨a0,a1,u⟩ y hy
 exact (Qo5 a0 a1 hy).get
def QN (x4 : Qn) : List (List Int) → Nat → Option Bool
 | [],k =>
   some true
 | e :: rest,k =>
   Option.bind (Zr (e)) fun (y4 : Bool) =>
   bif !(y4) then
    some false
   else
    bif decide ((0 : Int) < (k : Int)) then
     bif inB (IntKind.wrap .i64 ((k : Int) - 1)) x4.2.2.2.length then
      Option.bind (QL (rd x4.2.2.2 (IntKind.wrap .i64 ((k : Int) - 1)) (Ty.dflt .str)) (e)) fun (y5 : Int) =>
      bif decide ((0 : Int) ≤ y5) then
       some false
      else
       QN x4 rest (k + 1)
     else none
    else
     QN x4 rest (k + 1)
def QA (x4 : Qn) : List Qb → Nat → Option Bool
 | [],k =>
   bif decide (x4.1 = 2) then
    some (decide ((x4.2.2.2.length : Int) = 0))
   else
    bif !decide ((x4.2.2.2.length : Int) = (x4.2.2.1.length : Int)) then
     some false
    else
     Ym x4.2.2.2 (QN x4 x4.2.2.2 0)
 | e :: rest,k =>
   Option.bind (Zs (e)) fun (y2 : Bool) =>
   bif !(y2) then
    some false
   else
    bif decide (x4.1 = 2) then
     bif decide ((0 : Int) < (k : Int)) then
      bif inB (IntKind.wrap .i64 ((k : Int) - 1)) x4.2.2.1.length then
       Option.bind (Zm (rd x4.2.2.1 (IntKind.wrap .i64 ((k : Int) - 1)) (Ty.dflt Qa)) (e)) fun (y3 : Int) =>
       bif decide ((0 : Int) ≤ y3) then
        some false
       else
        QA x4 rest (k + 1)
      else none
     else
      QA x4 rest (k + 1)
    else
     QA x4 rest (k + 1)
def JO (x1 : Bool) (x2 : Qn) : Option Bool :=
 bif x1 then
  bif !@decide (x2.2.1 = (0,0,([] : List Int),([] : List Int))) (Ty.decEq Qa x2.2.1 (0,0,([] : List Int),([] : List Int))) then
   some false
  else
   bif decide ((50 : Int) < (x2.2.2.1.length : Int)) then
    some false
   else
    Ym x2.2.2.1 (QA x2 x2.2.2.1 0)
 else
  some false
def ZN (a0 : Qn) : Option Bool :=
 bif decide (a0.1 = 1) then
  Option.bind (Zs a0.2.1) fun (y1 : Bool) =>
  bif y1 then
   bif decide ((a0.2.2.1.length : Int) = 0) then
    some (decide ((a0.2.2.2.length : Int) = 0))
   else
    some false
  else
   some false
 else
  bif decide (a0.1 = 2) then
   JO (decide (a0.1 = 2)) a0
  else
   JO (decide (a0.1 = 3)) a0
def HX : Ctr:=⟨57,[Qg],[.bool],fun x=>ZN x.1⟩
def Y1 : List (List Nat × Ann):=[([1,6],[.keep 0 1,.keep 0 26,.boxd 0 1 Qg]),([0,9],[.keep 0 1,.keep 0 40,.keep 0 41,.keep 0 42,.boxd 0 1 Qg]),([0,19],[.keep 0 1,.keep 0 86,.keep 0 87,.keep 0 88,.boxd 0 1 Qg])]
def YA : List (List Nat × Nat):=[]
def YB : List Ctr:=[GL,XT,Vt,Y0]
def Qa2 (n : Nat) (a0 : Qn) : Option Bool:=run Tryz.prog Y1 YA (Qk YB) Tryz.f57 (Tryz.f57.body.getD .skip) (Ql [.bool]) n (Qp [Qg] (a0,()))
abbrev YC (n : Nat) (x1 : Bool) (x2 : Qn) : Option Bool:=lam Tryz.prog Y1 YA (Qk YB) Tryz.f57 (Tryz.f57.body.getD .skip) (Ql [.bool]) n [1,6] [.ptr 0 1 0,.d .bool x1,.agg (Qm Qg x2)]
abbrev ZJ (n : Nat) (x1 : (List Qb)) (x2 : Int) (x3 : Int) (x4 : Qn) : Option Bool:=lam Tryz.prog Y1 YA (Qk YB) Tryz.f57 (Tryz.f57.body.getD .skip) (Ql [.bool]) n [0,9] [.ptr 0 1 0,.d (.list Qa) x1,.d I64 x2,.d I64 x3,.agg (Qm Qg x4)]
abbrev Z0 (n : Nat) (x1 : (List (List Int))) (x2 : Int) (x3 : Int) (x4 : Qn) : Option Bool:=lam Tryz.prog Y1 YA (Qk YB) Tryz.f57 (Tryz.f57.body.getD .skip) (Ql [.bool]) n [0,19] [.ptr 0 1 0,.d (.list .str) x1,.d I64 x2,.d I64 x3,.agg (Qm Qg x4)]
theorem Qfk (n : Nat) (a0 : Qn) : Qa2 n a0 =
  bif decide (a0.1 = 1) then
   Option.bind (Zs a0.2.1) fun (y1 : Bool) =>
   bif y1 then
    bif decide ((a0.2.2.1.length : Int) = 0) then
     some (decide ((a0.2.2.2.length : Int) = 0))
    else
     some false
   else
    some false
  else
   bif decide (a0.1 = 2) then
    YC n (decide (a0.1 = 2)) a0
   else
    YC n (decide (a0.1 = 3)) a0:=by kernel_rfl
theorem Qa3 (n : Nat) (x1 : Bool) (x2 : Qn) : YC (n + 1) x1 x2 =
  bif x1 then
   bif !@decide (x2.2.1 = (0,0,([] : List Int),([] : List Int))) (Ty.decEq Qa x2.2.1 (0,0,([] : List Int),([] : List Int))) then
    some false
   else
    bif decide ((50 : Int) < (x2.2.2.1.length : Int)) then
     some false
    else
     ZJ n x2.2.2.1 (x2.2.2.1.length : Int) 0 x2
  else
   some false:=by kernel_rfl
theorem Xu (n : Nat) (x1 : (List Qb)) (x2 : Int) (x3 : Int) (x4 : Qn) : ZJ (n + 1) x1 x2 x3 x4 =
  bif decide (x3 < x2) then
   bif inB x3 x1.length then
    Option.bind (Zs (rd x1 x3 (Ty.dflt Qa))) fun (y2 : Bool) =>
    bif !(y2) then
     some false
    else
     bif decide (x4.1 = 2) then
      bif decide ((0 : Int) < x3) then
       bif inB (IntKind.wrap .i64 (x3 - 1)) x4.2.2.1.length then
        Option.bind (Zm (rd x4.2.2.1 (IntKind.wrap .i64 (x3 - 1)) (Ty.dflt Qa)) (rd x1 x3 (Ty.dflt Qa))) fun (y3 : Int) =>
        bif decide ((0 : Int) ≤ y3) then
         some false
        else
         ZJ n x1 x2 (IntKind.wrap .i64 (x3 + 1)) x4
       else none
      else
       ZJ n x1 x2 (IntKind.wrap .i64 (x3 + 1)) x4
     else
      ZJ n x1 x2 (IntKind.wrap .i64 (x3 + 1)) x4
   else none
  else
   bif decide (x4.1 = 2) then
    some (decide ((x4.2.2.2.length : Int) = 0))
   else
    bif !decide ((x4.2.2.2.length : Int) = (x4.2.2.1.length : Int)) then
     some false
    else
     Z0 n x4.2.2.2 (x4.2.2.2.length : Int) 0 x4:=by kernel_rfl
theorem GB (n : Nat) (x1 : (List (List Int))) (x2 : Int) (x3 : Int) (x4 : Qn) : Z0 (n + 1) x1 x2 x3 x4 =
  bif decide (x3 < x2) then
   bif inB x3 x1.length then
    Option.bind (Zr (rd x1 x3 (Ty.dflt .str))) fun (y4 : Bool) =>
    bif !(y4) then
     some false
    else
     bif decide ((0 : Int) < x3) then
      bif inB (IntKind.wrap .i64 (x3 - 1)) x4.2.2.2.length then
       Option.bind (QL (rd x4.2.2.2 (IntKind.wrap .i64 (x3 - 1)) (Ty.dflt .str)) (rd x1 x3 (Ty.dflt .str))) fun (y5 : Int) =>
       bif decide ((0 : Int) ≤ y5) then
        some false
       else
        Z0 n x1 x2 (IntKind.wrap .i64 (x3 + 1)) x4
      else none
     else
      Z0 n x1 x2 (IntKind.wrap .i64 (x3 + 1)) x4
   else none
  else
   some true:=by kernel_rfl
theorem Qdp {x1 : (List (List Int))} {x4 : Qn} (hl : x1.length ≤ maxLen) : ∀ (rest : List (List Int)) (k : Nat) (r : Bool),rest = x1.drop k → QN x4 rest k = some r → Ev (fun n=>Z0 n x1 (x1.length : Int) (k : Int) x4) r:=by
 intro rest
 induction rest with
 | nil =>
  intro k r hr h
  have hk:=Za hr
  rw [QN] at h
  refine Ev.step ?_ (fun n=>GB n x1 (x1.length : Int) (k : Int) x4)
  rw [show decide ((k : Int) < (x1.length : Int)) = false from decide_eq_false (by omega)]
  exact Ev.neg rfl (Ev.ofSome h)
 | cons e rest ih =>
  intro k r hr h
  obtain ⟨hk,hx,hr2⟩:=QK (d:=(Ty.dflt .str)) hr
  have hw:=QR hl hk
  have ih2 : ∀ (r : Bool),QN x4 rest (k + 1) = some r → Ev (fun n=>Z0 n x1 (x1.length : Int) (IntKind.wrap .i64 ((k : Int) + 1)) x4) r:=by
   intro r h; rw [hw]; exact ih (k + 1) r hr2 h
  rw [QN] at h
  refine Ev.step ?_ (fun n=>GB n x1 (x1.length : Int) (k : Int) x4)
  rw [show decide ((k : Int) < (x1.length : Int)) = true from decide_eq_true (by omega),QD hk,hx]
  exact Ev.pos rfl (Ev.pos rfl (Ev.ofBind h fun y4 h=>(Ev.ofBif h (fun h=>(Ev.ofSome h)) (fun h=>(Ev.ofBif h (fun h=>(Ev.ofBif h (fun h=>(Ev.ofBind h fun y5 h=>(Ev.ofBif h (fun h=>(Ev.ofSome h)) (fun h=>(ih2  _ h))))) (fun h=>(Ev.ofNone h)))) (fun h=>(ih2  _ h)))))))
theorem Qeo {x1 : (List Qb)} {x4 : Qn} (hl : x1.length ≤ maxLen) : ∀ (rest : List Qb) (k : Nat) (r : Bool),rest = x1.drop k → QA x4 rest k = some r → Ev (fun n=>ZJ n x1 (x1.length : Int) (k : Int) x4) r:=by
 intro rest
 induction rest with
 | nil =>
  intro k r hr h
  have hk:=Za hr
  rw [QA] at h
  refine Ev.step ?_ (fun n=>Xu n x1 (x1.length : Int) (k : Int) x4)
  rw [show decide ((k : Int) < (x1.length : Int)) = false from decide_eq_false (by omega)]
  exact Ev.neg rfl (Ev.ofBif h (fun h=>(Ev.ofSome h)) (fun h=>(Ev.ofBif h (fun h=>(Ev.ofSome h)) (fun h=>(Ev.ofLen h fun hl h=>Qdp hl _ (0 : Nat) _ rfl h)))))
 | cons e rest ih =>
  intro k r hr h
  obtain ⟨hk,hx,hr2⟩:=QK (d:=(Ty.dflt Qa)) hr
  have hw:=QR hl hk
  have ih2 : ∀ (r : Bool),QA x4 rest (k + 1) = some r → Ev (fun n=>ZJ n x1 (x1.length : Int) (IntKind.wrap .i64 ((k : Int) + 1)) x4) r:=by
   intro r h; rw [hw]; exact ih (k + 1) r hr2 h
  rw [QA] at h
  refine Ev.step ?_ (fun n=>Xu n x1 (x1.length : Int) (k : Int) x4)
  rw [show decide ((k : Int) < (x1.length : Int)) = true from decide_eq_true (by omega),QD hk,hx]
  exact Ev.pos rfl (Ev.pos rfl (Ev.ofBind h fun y2 h=>(Ev.ofBif h (fun h=>(Ev.ofSome h)) (fun h=>(Ev.ofBif h (fun h=>(Ev.ofBif h (fun h=>(Ev.ofBif h (fun h=>(Ev.ofBind h fun y3 h=>(Ev.ofBif h (fun h=>(Ev.ofSome h)) (fun h=>(ih2  _ h))))) (fun h=>(Ev.ofNone h)))) (fun h=>(ih2  _ h)))) (fun h=>(ih2  _ h)))))))
theorem UR {x1 : Bool} {x2 : Qn} {r : Bool} (h : JO x1 x2 = some r) : Ev (fun n=>YC n x1 x2) r:=by
 rw [JO] at h
 refine Ev.step ?_ (fun n=>Qa3 n x1 x2)
 exact (Ev.ofBif h (fun h=>(Ev.ofBif h (fun h=>(Ev.ofSome h)) (fun h=>(Ev.ofBif h (fun h=>(Ev.ofSome h)) (fun h=>(Ev.ofLen h fun hl h=>Qeo hl _ (0 : Nat) _ rfl h)))))) (fun h=>(Ev.ofSome h)))
theorem QjT (a0 : Qn) {r : Bool} (h : ZN a0 = some r) : Ev (fun n=>Qa2 n a0) r:=by
 rw [ZN] at h
 refine Ev.of_eq ?_ (fun n=>Qfk n a0)
 exact (Ev.ofBif h (fun h=>(Ev.ofBind h fun y1 h=>(Ev.ofBif h (fun h=>(Ev.ofBif h (fun h=>(Ev.ofSome h)) (fun h=>(Ev.ofSome h)))) (fun h=>(Ev.ofSome h))))) (fun h=>(Ev.ofBif h (fun h=>(UR h)) (fun h=>(UR h)))))
theorem QgI : ∀ x ∈ YB,Qh Tryz.prog x:=(Qd QaX (Qd Qau (Qd HV (Qd XS Qj))))
theorem Qib : Qh Tryz.prog (HX):=by
 refine Qi (c:=HX) (by kernel_rfl) (by kernel_rfl : Tryz.prog.funcs[57]? = some Tryz.f57) (code:=Tryz.f57.body.getD .skip) (by kernel_rfl) (by kernel_rfl) (by kernel_rfl) (A:=Y1) (I:=YA) (QgI) ?_
 rintro ⟨a0,u⟩ y hy
 exact (QjT a0 hy).get
def QX (x1 : (List (List Int))) (x2 : (List Qn)) : List (List Int) → Nat → Option Bool
 | [],k =>
   some true
 | e :: rest,k =>
   Option.bind (Zr (e)) fun (y1 : Bool) =>
   bif !(y1) then
    some false
   else
    bif decide ((0 : Int) < (k : Int)) then
     bif inB (IntKind.wrap .i64 ((k : Int) - 1)) x1.length then
      Option.bind (QL (rd x1 (IntKind.wrap .i64 ((k : Int) - 1)) (Ty.dflt .str)) (e)) fun (y2 : Int) =>
      bif decide ((0 : Int) ≤ y2) then
       some false
      else
       bif inB (k : Int) x2.length then
        Option.bind (ZN (rd x2 (k : Int) (Ty.dflt Qg))) fun (y3 : Bool) =>
        bif !(y3) then
         some false
        else
         bif inB (k : Int) x2.length then
          bif decide ((rd x2 (k : Int) (Ty.dflt Qg)).1 = 3) then
           some false
          else
           QX x1 x2 rest (k + 1)
         else none
       else none
     else none
    else
     bif inB (k : Int) x2.length then
      Option.bind (ZN (rd x2 (k : Int) (Ty.dflt Qg))) fun (y4 : Bool) =>
      bif !(y4) then
       some false
      else
       bif inB (k : Int) x2.length then
        bif decide ((rd x2 (k : Int) (Ty.dflt Qg)).1 = 3) then
         some false
        else
         QX x1 x2 rest (k + 1)
       else none
     else none
def ZO (a0 : (List (List Int))) (a1 : (List Qn)) : Option Bool :=
 bif decide ((20 : Int) < (a0.length : Int)) then
  some false
 else
  bif !decide ((a1.length : Int) = (a0.length : Int)) then
   some false
  else
   Ym a0 (QX a0 a1 a0 0)
def HY : Ctr:=⟨34,[(.list .str),(.list Qg)],[.bool],fun x=>ZO x.1 x.2.1⟩
def HZ : List (List Nat × Ann):=[([0,4],[.keep 0 0,.keep 0 1,.keep 0 17,.keep 0 18,.keep 0 19])]
def XU : List (List Nat × Nat):=[]
def XV : List Ctr:=[Vt,Y0,HX]
def Qa4 (n : Nat) (a0 : (List (List Int))) (a1 : (List Qn)) : Option Bool:=run Tryz.prog HZ XU (Qk XV) Tryz.f34 (Tryz.f34.body.getD .skip) (Ql [.bool]) n (Qp [(.list .str),(.list Qg)] (a0,a1,()))
abbrev Jj (n : Nat) (x1 : (List (List Int))) (x2 : (List Qn)) (x3 : (List (List Int))) (x4 : Int) (x5 : Int) : Option Bool:=lam Tryz.prog HZ XU (Qk XV) Tryz.f34 (Tryz.f34.body.getD .skip) (Ql [.bool]) n [0,4] [.d (.list .str) x1,.d (.list Qg) x2,.d (.list .str) x3,.d I64 x4,.d I64 x5]
theorem Qfl (n : Nat) (a0 : (List (List Int))) (a1 : (List Qn)) : Qa4 n a0 a1 =
  bif decide ((20 : Int) < (a0.length : Int)) then
   some false
  else
   bif !decide ((a1.length : Int) = (a0.length : Int)) then
    some false
   else
    Jj n a0 a1 a0 (a0.length : Int) 0:=by kernel_rfl
theorem Xv (n : Nat) (x1 : (List (List Int))) (x2 : (List Qn)) (x3 : (List (List Int))) (x4 : Int) (x5 : Int) : Jj (n + 1) x1 x2 x3 x4 x5 =
  bif decide (x5 < x4) then
   bif inB x5 x3.length then
    Option.bind (Zr (rd x3 x5 (Ty.dflt .str))) fun (y1 : Bool) =>
    bif !(y1) then
     some false
    else
     bif decide ((0 : Int) < x5) then
      bif inB (IntKind.wrap .i64 (x5 - 1)) x1.length then
       Option.bind (QL (rd x1 (IntKind.wrap .i64 (x5 - 1)) (Ty.dflt .str)) (rd x3 x5 (Ty.dflt .str))) fun (y2 : Int) =>
       bif decide ((0 : Int) ≤ y2) then
        some false
       else
        bif inB x5 x2.length then
         Option.bind (ZN (rd x2 x5 (Ty.dflt Qg))) fun (y3 : Bool) =>
         bif !(y3) then
          some false
         else
          bif inB x5 x2.length then
           bif decide ((rd x2 x5 (Ty.dflt Qg)).1 = 3) then
            some false
           else
            Jj n x1 x2 x3 x4 (IntKind.wrap .i64 (x5 + 1))
          else none
        else none
      else none
     else
      bif inB x5 x2.length then
       Option.bind (ZN (rd x2 x5 (Ty.dflt Qg))) fun (y4 : Bool) =>
       bif !(y4) then
        some false
       else
        bif inB x5 x2.length then
         bif decide ((rd x2 x5 (Ty.dflt Qg)).1 = 3) then
          some false
         else
          Jj n x1 x2 x3 x4 (IntKind.wrap .i64 (x5 + 1))
        else none
      else none
   else none
  else
   some true:=by kernel_rfl
theorem Qep {x1 : (List (List Int))} {x2 : (List Qn)} (hl : x1.length ≤ maxLen) : ∀ (rest : List (List Int)) (k : Nat) (r : Bool),rest = x1.drop k → QX x1 x2 rest k = some r → Ev (fun n=>Jj n x1 x2 x1 (x1.length : Int) (k : Int)) r:=by
 intro rest
 induction rest with
 | nil =>
  intro k r hr h
  have hk:=Za hr
  rw [QX] at h
  refine Ev.step ?_ (fun n=>Xv n x1 x2 x1 (x1.length : Int) (k : Int))
  rw [show decide ((k : Int) < (x1.length : Int)) = false from decide_eq_false (by omega)]
  exact Ev.neg rfl (Ev.ofSome h)
 | cons e rest ih =>
  intro k r hr h
  obtain ⟨hk,hx,hr2⟩:=QK (d:=(Ty.dflt .str)) hr
  have hw:=QR hl hk
  have ih2 : ∀ (r : Bool),QX x1 x2 rest (k + 1) = some r → Ev (fun n=>Jj n x1 x2 x1 (x1.length : Int) (IntKind.wrap .i64 ((k : Int) + 1))) r:=by
   intro r h; rw [hw]; exact ih (k + 1) r hr2 h
  rw [QX] at h
  refine Ev.step ?_ (fun n=>Xv n x1 x2 x1 (x1.length : Int) (k : Int))
  rw [show decide ((k : Int) < (x1.length : Int)) = true from decide_eq_true (by omega),QD hk,hx]
  exact Ev.pos rfl (Ev.pos rfl (Ev.ofBind h fun y1 h=>(Ev.ofBif h (fun h=>(Ev.ofSome h)) (fun h=>(Ev.ofBif h (fun h=>(Ev.ofBif h (fun h=>(Ev.ofBind h fun y2 h=>(Ev.ofBif h (fun h=>(Ev.ofSome h)) (fun h=>(Ev.ofBif h (fun h=>(Ev.ofBind h fun y3 h=>(Ev.ofBif h (fun h=>(Ev.ofSome h)) (fun h=>(Ev.ofBif h (fun h=>(Ev.ofBif h (fun h=>(Ev.ofSome h)) (fun h=>(ih2  _ h)))) (fun h=>(Ev.ofNone h))))))) (fun h=>(Ev.ofNone h))))))) (fun h=>(Ev.ofNone h)))) (fun h=>(Ev.ofBif h (fun h=>(Ev.ofBind h fun y4 h=>(Ev.ofBif h (fun h=>(Ev.ofSome h)) (fun h=>(Ev.ofBif h (fun h=>(Ev.ofBif h (fun h=>(Ev.ofSome h)) (fun h=>(ih2  _ h)))) (fun h=>(Ev.ofNone h))))))) (fun h=>(Ev.ofNone h)))))))))
theorem QjU (a0 : (List (List Int))) (a1 : (List Qn)) {r : Bool} (h : ZO a0 a1 = some r) : Ev (fun n=>Qa4 n a0 a1) r:=by
 rw [ZO] at h
 refine Ev.of_eq ?_ (fun n=>Qfl n a0 a1)
 exact (Ev.ofBif h (fun h=>(Ev.ofSome h)) (fun h=>(Ev.ofBif h (fun h=>(Ev.ofSome h)) (fun h=>(Ev.ofLen h fun hl h=>Qep hl _ (0 : Nat) _ rfl h)))))
theorem QgJ : ∀ x ∈ XV,Qh Tryz.prog x:=(Qd HV (Qd XS (Qd Qib Qj)))
theorem Qic : Qh Tryz.prog (HY):=by
 refine Qi (c:=HY) (by kernel_rfl) (by kernel_rfl : Tryz.prog.funcs[34]? = some Tryz.f34) (code:=Tryz.f34.body.getD .skip) (by kernel_rfl) (by kernel_rfl) (by kernel_rfl) (A:=HZ) (I:=XU) (QgJ) ?_
 rintro ⟨a0,a1,u⟩ y hy
 exact (QjU a0 a1 hy).get
def QF (K0 : Option Bool) (x8 : Qf) : List Qb → Nat → Option Bool
 | [],k =>
   K0
 | e :: rest,k =>
   Option.bind (Z7 (e)) fun (y4 : Bool) =>
   bif !(y4) then
    some false
   else
    bif decide ((0 : Int) < (k : Int)) then
     bif inB (IntKind.wrap .i64 ((k : Int) - 1)) x8.2.1.length then
      Option.bind (Zm (rd x8.2.1 (IntKind.wrap .i64 ((k : Int) - 1)) (Ty.dflt Qa)) (e)) fun (y5 : Int) =>
      bif decide ((0 : Int) ≤ y5) then
       some false
      else
       QF K0 x8 rest (k + 1)
     else none
    else
     QF K0 x8 rest (k + 1)
def QO (x1 : (List Qf)) : List Qf → Nat → Option Bool
 | [],k =>
   some true
 | e :: rest,k =>
   Option.bind (Z7 ((e).1)) fun (y1 : Bool) =>
   bif !(y1) then
    some false
   else
    bif decide ((0 : Int) < (k : Int)) then
     bif inB (IntKind.wrap .i64 ((k : Int) - 1)) x1.length then
      Option.bind (Zm ((rd x1 (IntKind.wrap .i64 ((k : Int) - 1)) (Ty.dflt Qc)).1) ((e).1)) fun (y2 : Int) =>
      bif decide ((0 : Int) ≤ y2) then
       some false
      else
       bif decide ((50 : Int) < ((((e).2).1).length : Int)) then
        some false
       else
        Option.bind (ZO ((((e).2).2).1) ((((e).2).2).2)) fun (y3 : Bool) =>
        bif !(y3) then
         some false
        else
         Ym (((e).2).1) (QF (QO x1 rest (k + 1)) (((e).1),((e).2)) (((e).2).1) 0)
     else none
    else
     bif decide ((50 : Int) < ((((e).2).1).length : Int)) then
      some false
     else
      Option.bind (ZO ((((e).2).2).1) ((((e).2).2).2)) fun (y6 : Bool) =>
      bif !(y6) then
       some false
      else
       Ym (((e).2).1) (QF (QO x1 rest (k + 1)) (((e).1),((e).2)) (((e).2).1) 0)
def Jt (a0 : (List Qf)) : Option Bool :=
 bif decide ((100 : Int) < (a0.length : Int)) then
  some false
 else
  Ym a0 (QO a0 a0 0)
def XW : Ctr:=⟨16,[(.list Qc)],[.bool],fun x=>Jt x.1⟩
def VE : List (List Nat × Ann):=[([0,4],[.keep 0 0,.keep 0 10,.keep 0 11,.keep 0 12]),([0,9],[.keep 0 0,.keep 0 4,.keep 0 10,.keep 0 11,.keep 0 12,.keep 0 52,.keep 0 53,.keep 0 54,.boxd 0 4 Qc])]
def Vk : List (List Nat × Nat):=[]
def Vl : List Ctr:=[UE,XT,HY]
def E2 (n : Nat) (a0 : (List Qf)) : Option Bool:=run Tryz.prog VE Vk (Qk Vl) Tryz.f16 (Tryz.f16.body.getD .skip) (Ql [.bool]) n (Qp [(.list Qc)] (a0,()))
abbrev Z1 (n : Nat) (x1 : (List Qf)) (x2 : (List Qf)) (x3 : Int) (x4 : Int) : Option Bool:=lam Tryz.prog VE Vk (Qk Vl) Tryz.f16 (Tryz.f16.body.getD .skip) (Ql [.bool]) n [0,4] [.d (.list Qc) x1,.d (.list Qc) x2,.d I64 x3,.d I64 x4]
abbrev ZC (n : Nat) (x1 : (List Qf)) (x2 : (List Qf)) (x3 : Int) (x4 : Int) (x5 : (List Qb)) (x6 : Int) (x7 : Int) (x8 : Qf) : Option Bool:=lam Tryz.prog VE Vk (Qk Vl) Tryz.f16 (Tryz.f16.body.getD .skip) (Ql [.bool]) n [0,9] [.d (.list Qc) x1,.ptr 0 4 0,.d (.list Qc) x2,.d I64 x3,.d I64 x4,.d (.list Qa) x5,.d I64 x6,.d I64 x7,.agg (Qm Qc x8)]
theorem Qeq (n : Nat) (a0 : (List Qf)) : E2 n a0 =
  bif decide ((100 : Int) < (a0.length : Int)) then
   some false
  else
   Z1 n a0 a0 (a0.length : Int) 0:=by kernel_rfl
theorem GC (n : Nat) (x1 : (List Qf)) (x2 : (List Qf)) (x3 : Int) (x4 : Int) : Z1 (n + 1) x1 x2 x3 x4 =
  bif decide (x4 < x3) then
   bif inB x4 x2.length then
    Option.bind (Z7 ((rd x2 x4 (Ty.dflt Qc)).1)) fun (y1 : Bool) =>
    bif !(y1) then
     some false
    else
     bif decide ((0 : Int) < x4) then
      bif inB (IntKind.wrap .i64 (x4 - 1)) x1.length then
       Option.bind (Zm ((rd x1 (IntKind.wrap .i64 (x4 - 1)) (Ty.dflt Qc)).1) ((rd x2 x4 (Ty.dflt Qc)).1)) fun (y2 : Int) =>
       bif decide ((0 : Int) ≤ y2) then
        some false
       else
        bif decide ((50 : Int) < ((((rd x2 x4 (Ty.dflt Qc)).2).1).length : Int)) then
         some false
        else
         Option.bind (ZO ((((rd x2 x4 (Ty.dflt Qc)).2).2).1) ((((rd x2 x4 (Ty.dflt Qc)).2).2).2)) fun (y3 : Bool) =>
         bif !(y3) then
          some false
         else
          ZC n x1 x2 x3 x4 (((rd x2 x4 (Ty.dflt Qc)).2).1) ((((rd x2 x4 (Ty.dflt Qc)).2).1).length : Int) 0 (((rd x2 x4 (Ty.dflt Qc)).1),((rd x2 x4 (Ty.dflt Qc)).2))
      else none
     else
      bif decide ((50 : Int) < ((((rd x2 x4 (Ty.dflt Qc)).2).1).length : Int)) then
       some false
      else
       Option.bind (ZO ((((rd x2 x4 (Ty.dflt Qc)).2).2).1) ((((rd x2 x4 (Ty.dflt Qc)).2).2).2)) fun (y6 : Bool) =>
       bif !(y6) then
        some false
       else
        ZC n x1 x2 x3 x4 (((rd x2 x4 (Ty.dflt Qc)).2).1) ((((rd x2 x4 (Ty.dflt Qc)).2).1).length : Int) 0 (((rd x2 x4 (Ty.dflt Qc)).1),((rd x2 x4 (Ty.dflt Qc)).2))
   else none
  else
   some true:=by kernel_rfl
theorem GD (n : Nat) (x1 : (List Qf)) (x2 : (List Qf)) (x3 : Int) (x4 : Int) (x5 : (List Qb)) (x6 : Int) (x7 : Int) (x8 : Qf) : ZC (n + 1) x1 x2 x3 x4 x5 x6 x7 x8 =
  bif decide (x7 < x6) then
   bif inB x7 x5.length then
    Option.bind (Z7 (rd x5 x7 (Ty.dflt Qa))) fun (y4 : Bool) =>
    bif !(y4) then
     some false
    else
     bif decide ((0 : Int) < x7) then
      bif inB (IntKind.wrap .i64 (x7 - 1)) x8.2.1.length then
       Option.bind (Zm (rd x8.2.1 (IntKind.wrap .i64 (x7 - 1)) (Ty.dflt Qa)) (rd x5 x7 (Ty.dflt Qa))) fun (y5 : Int) =>
       bif decide ((0 : Int) ≤ y5) then
        some false
       else
        ZC n x1 x2 x3 x4 x5 x6 (IntKind.wrap .i64 (x7 + 1)) x8
      else none
     else
      ZC n x1 x2 x3 x4 x5 x6 (IntKind.wrap .i64 (x7 + 1)) x8
   else none
  else
   Z1 n x1 x2 x3 (IntKind.wrap .i64 (x4 + 1)):=by kernel_rfl
theorem HA {K0 : Option Bool} {x1 : (List Qf)} {x3 : Int} {x4 : Int} {x5 : (List Qb)} {x8 : Qf} (hl : x5.length ≤ maxLen) (hK0 : ∀  (r : Bool),K0 = some r → Ev (fun n=>Z1 n x1 x1 x3 (IntKind.wrap .i64 (x4 + 1))) r) : ∀ (rest : List Qb) (k : Nat) (r : Bool),rest = x5.drop k → QF K0 x8 rest k = some r → Ev (fun n=>ZC n x1 x1 x3 x4 x5 (x5.length : Int) (k : Int) x8) r:=by
 intro rest
 induction rest with
 | nil =>
  intro k r hr h
  have hk:=Za hr
  rw [QF] at h
  refine Ev.step ?_ (fun n=>GD n x1 x1 x3 x4 x5 (x5.length : Int) (k : Int) x8)
  rw [show decide ((k : Int) < (x5.length : Int)) = false from decide_eq_false (by omega)]
  exact Ev.neg rfl (hK0  _ h)
 | cons e rest ih =>
  intro k r hr h
  obtain ⟨hk,hx,hr2⟩:=QK (d:=(Ty.dflt Qa)) hr
  have hw:=QR hl hk
  have ih2 : ∀ (r : Bool),QF K0 x8 rest (k + 1) = some r → Ev (fun n=>ZC n x1 x1 x3 x4 x5 (x5.length : Int) (IntKind.wrap .i64 ((k : Int) + 1)) x8) r:=by
   intro r h; rw [hw]; exact ih (k + 1) r hr2 h
  rw [QF] at h
  refine Ev.step ?_ (fun n=>GD n x1 x1 x3 x4 x5 (x5.length : Int) (k : Int) x8)
  rw [show decide ((k : Int) < (x5.length : Int)) = true from decide_eq_true (by omega),QD hk,hx]
  exact Ev.pos rfl (Ev.pos rfl (Ev.ofBind h fun y4 h=>(Ev.ofBif h (fun h=>(Ev.ofSome h)) (fun h=>(Ev.ofBif h (fun h=>(Ev.ofBif h (fun h=>(Ev.ofBind h fun y5 h=>(Ev.ofBif h (fun h=>(Ev.ofSome h)) (fun h=>(ih2  _ h))))) (fun h=>(Ev.ofNone h)))) (fun h=>(ih2  _ h)))))))
theorem Qdq {x1 : (List Qf)} (hl : x1.length ≤ maxLen) : ∀ (rest : List Qf) (k : Nat) (r : Bool),rest = x1.drop k → QO x1 rest k = some r → Ev (fun n=>Z1 n x1 x1 (x1.length : Int) (k : Int)) r:=by
 intro rest
 induction rest with
 | nil =>
  intro k r hr h
  have hk:=Za hr
  rw [QO] at h
  refine Ev.step ?_ (fun n=>GC n x1 x1 (x1.length : Int) (k : Int))
  rw [show decide ((k : Int) < (x1.length : Int)) = false from decide_eq_false (by omega)]
  exact Ev.neg rfl (Ev.ofSome h)
 | cons e rest ih =>
  intro k r hr h
  obtain ⟨hk,hx,hr2⟩:=QK (d:=(Ty.dflt Qc)) hr
  have hw:=QR hl hk
  have ih2 : ∀ (r : Bool),QO x1 rest (k + 1) = some r → Ev (fun n=>Z1 n x1 x1 (x1.length : Int) (IntKind.wrap .i64 ((k : Int) + 1))) r:=by
   intro r h; rw [hw]; exact ih (k + 1) r hr2 h
  rw [QO] at h
  refine Ev.step ?_ (fun n=>GC n x1 x1 (x1.length : Int) (k : Int))
  rw [show decide ((k : Int) < (x1.length : Int)) = true from decide_eq_true (by omega),QD hk,hx]
  exact Ev.pos rfl (Ev.pos rfl (Ev.ofBind h fun y1 h=>(Ev.ofBif h (fun h=>(Ev.ofSome h)) (fun h=>(Ev.ofBif h (fun h=>(Ev.ofBif h (fun h=>(Ev.ofBind h fun y2 h=>(Ev.ofBif h (fun h=>(Ev.ofSome h)) (fun h=>(Ev.ofBif h (fun h=>(Ev.ofSome h)) (fun h=>(Ev.ofBind h fun y3 h=>(Ev.ofBif h (fun h=>(Ev.ofSome h)) (fun h=>(Ev.ofLen h fun hl h=>HA hl ih2 _ (0 : Nat) _ rfl h)))))))))) (fun h=>(Ev.ofNone h)))) (fun h=>(Ev.ofBif h (fun h=>(Ev.ofSome h)) (fun h=>(Ev.ofBind h fun y6 h=>(Ev.ofBif h (fun h=>(Ev.ofSome h)) (fun h=>(Ev.ofLen h fun hl h=>HA hl ih2 _ (0 : Nat) _ rfl h))))))))))))
theorem Qid (a0 : (List Qf)) {r : Bool} (h : Jt a0 = some r) : Ev (fun n=>E2 n a0) r:=by
 rw [Jt] at h
 refine Ev.of_eq ?_ (fun n=>Qeq n a0)
 exact (Ev.ofBif h (fun h=>(Ev.ofSome h)) (fun h=>(Ev.ofLen h fun hl h=>Qdq hl _ (0 : Nat) _ rfl h)))
theorem Qfm : ∀ x ∈ Vl,Qh Tryz.prog x:=(Qd Qem (Qd Qau (Qd Qic Qj)))
theorem QgK : Qh Tryz.prog (XW):=by
 refine Qi (c:=XW) (by kernel_rfl) (by kernel_rfl : Tryz.prog.funcs[16]? = some Tryz.f16) (code:=Tryz.f16.body.getD .skip) (by kernel_rfl) (by kernel_rfl) (by kernel_rfl) (A:=VE) (I:=Vk) (Qfm) ?_
 rintro ⟨a0,u⟩ y hy
 exact (Qid a0 hy).get
def QT (x4 : Qb) : List Qf → Option (Qf × Bool)
 | [] =>
   some (((0,0,([] : List Int),([] : List Int)),[],[],[]),false)
 | e :: rest =>
   bif @decide (((e).1) = x4) (Ty.decEq Qa ((e).1) x4) then
    some ((((e).1),((e).2)),true)
   else
    QT x4 rest
def Z9 (a0 : (List Qf)) (a1 : Qb) : Option (Qf × Bool) :=
 Ym a0 (QT a1 a0)
def U1 : Ctr:=⟨36,[(.list Qc),Qa],[Qc,.bool],fun x=>Z9 x.1 x.2.1⟩
def U2 : List (List Nat × Ann):=[([0,2],[.keep 0 3,.keep 0 4,.keep 0 8,.keep 0 9,.keep 0 10,.boxd 0 3 Qa,.boxd 0 4 Qc])]
def H0 : List (List Nat × Nat):=[]
def H1 : List Ctr:=[]
def QcL (n : Nat) (a0 : (List Qf)) (a1 : Qb) : Option (Qf × Bool):=run Tryz.prog U2 H0 (Qk H1) Tryz.f36 (Tryz.f36.body.getD .skip) (Ql [Qc,.bool]) n (Qp [(.list Qc),Qa] (a0,a1,()))
abbrev JY (n : Nat) (x1 : (List Qf)) (x2 : Int) (x3 : Int) (x4 : Qb) (x5 : Qf) : Option (Qf × Bool):=lam Tryz.prog U2 H0 (Qk H1) Tryz.f36 (Tryz.f36.body.getD .skip) (Ql [Qc,.bool]) n [0,2] [.ptr 0 3 0,.ptr 0 4 0,.d (.list Qc) x1,.d I64 x2,.d I64 x3,.agg (Qm Qa x4),.agg (Qm Qc x5)]
theorem QgL (n : Nat) (a0 : (List Qf)) (a1 : Qb) : QcL n a0 a1 =
  JY n a0 (a0.length : Int) 0 a1 ((0,0,([] : List Int),([] : List Int)),[],[],[]):=by kernel_rfl
theorem XX (n : Nat) (x1 : (List Qf)) (x2 : Int) (x3 : Int) (x4 : Qb) (x5 : Qf) : JY (n + 1) x1 x2 x3 x4 x5 =
  bif decide (x3 < x2) then
   bif inB x3 x1.length then
    bif @decide (((rd x1 x3 (Ty.dflt Qc)).1) = x4) (Ty.decEq Qa ((rd x1 x3 (Ty.dflt Qc)).1) x4) then
     some ((((rd x1 x3 (Ty.dflt Qc)).1),((rd x1 x3 (Ty.dflt Qc)).2)),true)
    else
     JY n x1 x2 (IntKind.wrap .i64 (x3 + 1)) x4 x5
   else none
  else
   some (((0,0,([] : List Int),([] : List Int)),[],[],[]),false):=by kernel_rfl
theorem Qfn {x1 : (List Qf)} {x4 : Qb} {x5 : Qf} (hl : x1.length ≤ maxLen) : ∀ (rest : List Qf) (k : Nat) (r : (Qf × Bool)),rest = x1.drop k → QT x4 rest = some r → Ev (fun n=>JY n x1 (x1.length : Int) (k : Int) x4 x5) r:=by
 intro rest
 induction rest with
 | nil =>
  intro k r hr h
  have hk:=Za hr
  rw [QT] at h
  refine Ev.step ?_ (fun n=>XX n x1 (x1.length : Int) (k : Int) x4 x5)
  rw [show decide ((k : Int) < (x1.length : Int)) = false from decide_eq_false (by omega)]
  exact Ev.neg rfl (Ev.ofSome h)
 | cons e rest ih =>
  intro k r hr h
  obtain ⟨hk,hx,hr2⟩:=QK (d:=(Ty.dflt Qc)) hr
  have hw:=QR hl hk
  have ih2 : ∀ (r : (Qf × Bool)),QT x4 rest = some r → Ev (fun n=>JY n x1 (x1.length : Int) (IntKind.wrap .i64 ((k : Int) + 1)) x4 x5) r:=by
   intro r h; rw [hw]; exact ih (k + 1) r hr2 h
  rw [QT] at h
  refine Ev.step ?_ (fun n=>XX n x1 (x1.length : Int) (k : Int) x4 x5)
  rw [show decide ((k : Int) < (x1.length : Int)) = true from decide_eq_true (by omega),QD hk,hx]
  exact Ev.pos rfl (Ev.pos rfl (Ev.ofBif h (fun h=>(Ev.ofSome h)) (fun h=>(ih2  _ h))))
theorem Qlj (a0 : (List Qf)) (a1 : Qb) {r : (Qf × Bool)} (h : Z9 a0 a1 = some r) : Ev (fun n=>QcL n a0 a1) r:=by
 rw [Z9] at h
 refine Ev.of_eq ?_ (fun n=>QgL n a0 a1)
 exact (Ev.ofLen h fun hl h=>Qfn hl _ (0 : Nat) _ rfl h)
theorem Qie : ∀ x ∈ H1,Qh Tryz.prog x:=Qj
theorem QjV : Qh Tryz.prog (U1):=by
 refine Qi (c:=U1) (by kernel_rfl) (by kernel_rfl : Tryz.prog.funcs[36]? = some Tryz.f36) (code:=Tryz.f36.body.getD .skip) (by kernel_rfl) (by kernel_rfl) (by kernel_rfl) (A:=U2) (I:=H0) (Qie) ?_
 rintro ⟨a0,a1,u⟩ y hy
 exact (Qlj a0 a1 hy).get
def ZF (x4 : Qb) : List Qb → Option Bool
 | [] =>
   some false
 | e :: rest =>
   bif @decide ((e) = x4) (Ty.decEq Qa (e) x4) then
    some true
   else
    ZF x4 rest
def YJ (a0 : (List Qb)) (a1 : Qb) : Option Bool :=
 Ym a0 (ZF a1 a0)
def Qav : Ctr:=⟨37,[(.list Qa),Qa],[.bool],fun x=>YJ x.1 x.2.1⟩
def Qaw : List (List Nat × Ann):=[([0,2],[.keep 0 3,.keep 0 7,.keep 0 8,.keep 0 9,.boxd 0 3 Qa])]
def Em : List (List Nat × Nat):=[]
def En : List Ctr:=[]
def Qf4 (n : Nat) (a0 : (List Qb)) (a1 : Qb) : Option Bool:=run Tryz.prog Qaw Em (Qk En) Tryz.f37 (Tryz.f37.body.getD .skip) (Ql [.bool]) n (Qp [(.list Qa),Qa] (a0,a1,()))
abbrev YD (n : Nat) (x1 : (List Qb)) (x2 : Int) (x3 : Int) (x4 : Qb) : Option Bool:=lam Tryz.prog Qaw Em (Qk En) Tryz.f37 (Tryz.f37.body.getD .skip) (Ql [.bool]) n [0,2] [.ptr 0 3 0,.d (.list Qa) x1,.d I64 x2,.d I64 x3,.agg (Qm Qa x4)]
theorem QjW (n : Nat) (a0 : (List Qb)) (a1 : Qb) : Qf4 n a0 a1 =
  YD n a0 (a0.length : Int) 0 a1:=by kernel_rfl
theorem US (n : Nat) (x1 : (List Qb)) (x2 : Int) (x3 : Int) (x4 : Qb) : YD (n + 1) x1 x2 x3 x4 =
  bif decide (x3 < x2) then
   bif inB x3 x1.length then
    bif @decide ((rd x1 x3 (Ty.dflt Qa)) = x4) (Ty.decEq Qa (rd x1 x3 (Ty.dflt Qa)) x4) then
     some true
    else
     YD n x1 x2 (IntKind.wrap .i64 (x3 + 1)) x4
   else none
  else
   some false:=by kernel_rfl
theorem Qif {x1 : (List Qb)} {x4 : Qb} (hl : x1.length ≤ maxLen) : ∀ (rest : List Qb) (k : Nat) (r : Bool),rest = x1.drop k → ZF x4 rest = some r → Ev (fun n=>YD n x1 (x1.length : Int) (k : Int) x4) r:=by
 intro rest
 induction rest with
 | nil =>
  intro k r hr h
  have hk:=Za hr
  rw [ZF] at h
  refine Ev.step ?_ (fun n=>US n x1 (x1.length : Int) (k : Int) x4)
  rw [show decide ((k : Int) < (x1.length : Int)) = false from decide_eq_false (by omega)]
  exact Ev.neg rfl (Ev.ofSome h)
 | cons e rest ih =>
  intro k r hr h
  obtain ⟨hk,hx,hr2⟩:=QK (d:=(Ty.dflt Qa)) hr
  have hw:=QR hl hk
  have ih2 : ∀ (r : Bool),ZF x4 rest = some r → Ev (fun n=>YD n x1 (x1.length : Int) (IntKind.wrap .i64 ((k : Int) + 1)) x4) r:=by
   intro r h; rw [hw]; exact ih (k + 1) r hr2 h
  rw [ZF] at h
  refine Ev.step ?_ (fun n=>US n x1 (x1.length : Int) (k : Int) x4)
  rw [show decide ((k : Int) < (x1.length : Int)) = true from decide_eq_true (by omega),QD hk,hx]
  exact Ev.pos rfl (Ev.pos rfl (Ev.ofBif h (fun h=>(Ev.ofSome h)) (fun h=>(ih2  _ h))))
theorem QnG (a0 : (List Qb)) (a1 : Qb) {r : Bool} (h : YJ a0 a1 = some r) : Ev (fun n=>Qf4 n a0 a1) r:=by
 rw [YJ] at h
 refine Ev.of_eq ?_ (fun n=>QjW n a0 a1)
 exact (Ev.ofLen h fun hl h=>Qif hl _ (0 : Nat) _ rfl h)
theorem Qlk : ∀ x ∈ En,Qh Tryz.prog x:=Qj
theorem Qnb : Qh Tryz.prog (Qav):=by
 refine Qi (c:=Qav) (by kernel_rfl) (by kernel_rfl : Tryz.prog.funcs[37]? = some Tryz.f37) (code:=Tryz.f37.body.getD .skip) (by kernel_rfl) (by kernel_rfl) (by kernel_rfl) (A:=Qaw) (I:=Em) (Qlk) ?_
 rintro ⟨a0,a1,u⟩ y hy
 exact (QnG a0 a1 hy).get
def QY (K0 : (List Qb) → Option (List Qb)) (x2 : Int) (x7 : Qb) : Nat → (List Qb) → Int → Option (List Qb)
 | 0,_,_=>none
 | m + 1,x1,x3 =>
   bif decide (x2 < x3) then
    bif inB (IntKind.wrap .i64 (x3 - 1)) x1.length then
     bif inB (IntKind.wrap .i64 (x3 - 1)) x1.length then
      bif inB x3 x1.length then
       bif inB x3 x1.length && true && true && true && true then
        QY K0 x2 x7 m (x1.set (Int.toNat x3) (rd x1 (IntKind.wrap .i64 (x3 - 1)) (Ty.dflt Qa))) (IntKind.wrap .i64 (x3 - 1))
       else none
      else none
     else none
    else none
   else
    bif inB x2 x1.length then
     bif inB x2 x1.length && true && true && true && true then
      K0 (x1.set (Int.toNat x2) x7)
     else none
    else none
def Zy (K0 : (List Qb) → Option (List Qb)) (m : Nat) (x1 : (List Qb)) (x2 : Int) (x6 : Qb) : Option (List Qb) :=
 bif decide ((0 : Int) < x2) then
  bif inB (IntKind.wrap .i64 (x2 - 1)) x1.length then
   bif inB (IntKind.wrap .i64 (x2 - 1)) x1.length then
    Option.bind (Zm (rd x1 (IntKind.wrap .i64 (x2 - 1)) (Ty.dflt Qa)) x6) fun (y2 : Int) =>
    bif decide (y2 = 0) then
     K0 x1
    else
     bif decide (((x1.length : Int) + (([x6] : List Qb).length : Int)) * 48 ≤ JA) && decide ((x1.length : Int) + (([x6] : List Qb).length : Int) ≤ JA) then
      QY K0 x2 x6 m (x1 ++ ([x6] : List Qb)) (IntKind.wrap .i64 (((x1 ++ ([x6] : List Qb)).length : Int) - 1))
     else none
   else none
  else none
 else
  bif decide (((x1.length : Int) + (([x6] : List Qb).length : Int)) * 48 ≤ JA) && decide ((x1.length : Int) + (([x6] : List Qb).length : Int) ≤ JA) then
   QY K0 x2 x6 m (x1 ++ ([x6] : List Qb)) (IntKind.wrap .i64 (((x1 ++ ([x6] : List Qb)).length : Int) - 1))
  else none
def Q5 (K0 : (List Qb) → Option (List Qb)) (x1 : (List Qb)) (x6 : Qb) : Nat → Int → Option (List Qb)
 | 0,_=>none
 | m + 1,x2 =>
   bif decide ((0 : Int) < x2) then
    bif inB (IntKind.wrap .i64 (x2 - 1)) x1.length then
     bif inB (IntKind.wrap .i64 (x2 - 1)) x1.length then
      Option.bind (Zm (rd x1 (IntKind.wrap .i64 (x2 - 1)) (Ty.dflt Qa)) x6) fun (y1 : Int) =>
      bif decide ((0 : Int) < y1) then
       Q5 K0 x1 x6 m (IntKind.wrap .i64 (x2 - 1))
      else
       Zy K0 m x1 x2 x6
     else none
    else none
   else
    Zy K0 m x1 x2 x6
def Zz (m : Nat) : List Qb → (List Qb) → Option (List Qb)
 | [],x1 =>
   some x1
 | e :: rest,x1 =>
   Q5 (fun s0=>Zz m rest s0) x1 (e) m (x1.length : Int)
def Vu (m : Nat) (a0 : (List Qb)) : Option (List Qb) :=
 Ym a0 (Zz m a0 [])
def Vv (a0 : (List Qb)) : Option (List Qb):=QhU fun m=>Vu m a0
def U3 : Ctr:=⟨38,[(.list Qa)],[(.list Qa)],fun x=>Vv x.1⟩
def Yt : List (List Nat × Ann):=[([0,3],[.raw 0 3 Qa,.keep 0 8,.keep 0 9,.keep 0 10]),([0,6],[.raw 0 3 Qa,.keep 0 5,.keep 0 6,.keep 0 8,.keep 0 9,.keep 0 10,.boxd 0 5 Qa]),([1,8],[.raw 0 3 Qa,.keep 0 5,.keep 0 6,.keep 0 8,.keep 0 9,.keep 0 10,.boxd 0 5 Qa]),([0,11],[.raw 0 3 Qa,.keep 0 5,.keep 0 6,.keep 0 7,.keep 0 8,.keep 0 9,.keep 0 10,.boxd 0 5 Qa])]
def J9 : List (List Nat × Nat):=[]
def Ya : List Ctr:=[XT]
def QcM (n : Nat) (a0 : (List Qb)) : Option (List Qb):=run Tryz.prog Yt J9 (Qk Ya) Tryz.f38 (Tryz.f38.body.getD .skip) (Ql [(.list Qa)]) n (Qp [(.list Qa)] (a0,()))
abbrev Q6 (n : Nat) (x1 : (List Qb)) (x2 : (List Qb)) (x3 : Int) (x4 : Int) : Option (List Qb):=lam Tryz.prog Yt J9 (Qk Ya) Tryz.f38 (Tryz.f38.body.getD .skip) (Ql [(.list Qa)]) n [0,3] [.own 0 Qa x1,.d (.list Qa) x2,.d I64 x3,.d I64 x4]
abbrev YP (n : Nat) (x1 : (List Qb)) (x2 : Int) (x3 : (List Qb)) (x4 : Int) (x5 : Int) (x6 : Qb) : Option (List Qb):=lam Tryz.prog Yt J9 (Qk Ya) Tryz.f38 (Tryz.f38.body.getD .skip) (Ql [(.list Qa)]) n [0,6] [.own 0 Qa x1,.ptr 0 5 0,.d I64 x2,.d (.list Qa) x3,.d I64 x4,.d I64 x5,.agg (Qm Qa x6)]
abbrev YQ (n : Nat) (x1 : (List Qb)) (x2 : Int) (x3 : (List Qb)) (x4 : Int) (x5 : Int) (x6 : Qb) : Option (List Qb):=lam Tryz.prog Yt J9 (Qk Ya) Tryz.f38 (Tryz.f38.body.getD .skip) (Ql [(.list Qa)]) n [1,8] [.own 0 Qa x1,.ptr 0 5 0,.d I64 x2,.d (.list Qa) x3,.d I64 x4,.d I64 x5,.agg (Qm Qa x6)]
abbrev JP (n : Nat) (x1 : (List Qb)) (x2 : Int) (x3 : Int) (x4 : (List Qb)) (x5 : Int) (x6 : Int) (x7 : Qb) : Option (List Qb):=lam Tryz.prog Yt J9 (Qk Ya) Tryz.f38 (Tryz.f38.body.getD .skip) (Ql [(.list Qa)]) n [0,11] [.own 0 Qa x1,.ptr 0 5 0,.d I64 x2,.d I64 x3,.d (.list Qa) x4,.d I64 x5,.d I64 x6,.agg (Qm Qa x7)]
theorem QgM (n : Nat) (a0 : (List Qb)) : QcM n a0 =
  Q6 n [] a0 (a0.length : Int) 0:=by kernel_rfl
theorem XY (n : Nat) (x1 : (List Qb)) (x2 : (List Qb)) (x3 : Int) (x4 : Int) : Q6 (n + 1) x1 x2 x3 x4 =
  bif decide (x4 < x3) then
   bif inB x4 x2.length then
    YP n x1 (x1.length : Int) x2 x3 x4 (rd x2 x4 (Ty.dflt Qa))
   else none
  else
   some x1:=by kernel_rfl
theorem Qcd (n : Nat) (x1 : (List Qb)) (x2 : Int) (x3 : (List Qb)) (x4 : Int) (x5 : Int) (x6 : Qb) : YP (n + 1) x1 x2 x3 x4 x5 x6 =
  bif decide ((0 : Int) < x2) then
   bif inB (IntKind.wrap .i64 (x2 - 1)) x1.length then
    bif inB (IntKind.wrap .i64 (x2 - 1)) x1.length then
     Option.bind (Zm (rd x1 (IntKind.wrap .i64 (x2 - 1)) (Ty.dflt Qa)) x6) fun (y1 : Int) =>
     bif decide ((0 : Int) < y1) then
      YP n x1 (IntKind.wrap .i64 (x2 - 1)) x3 x4 x5 x6
     else
      YQ n x1 x2 x3 x4 x5 x6
    else none
   else none
  else
   YQ n x1 x2 x3 x4 x5 x6:=by kernel_rfl
theorem Qce (n : Nat) (x1 : (List Qb)) (x2 : Int) (x3 : (List Qb)) (x4 : Int) (x5 : Int) (x6 : Qb) : YQ (n + 1) x1 x2 x3 x4 x5 x6 =
  bif decide ((0 : Int) < x2) then
   bif inB (IntKind.wrap .i64 (x2 - 1)) x1.length then
    bif inB (IntKind.wrap .i64 (x2 - 1)) x1.length then
     Option.bind (Zm (rd x1 (IntKind.wrap .i64 (x2 - 1)) (Ty.dflt Qa)) x6) fun (y2 : Int) =>
     bif decide (y2 = 0) then
      Q6 n x1 x3 x4 (IntKind.wrap .i64 (x5 + 1))
     else
      bif decide (((x1.length : Int) + (([x6] : List Qb).length : Int)) * 48 ≤ JA) && decide ((x1.length : Int) + (([x6] : List Qb).length : Int) ≤ JA) then
       JP n (x1 ++ ([x6] : List Qb)) x2 (IntKind.wrap .i64 (((x1 ++ ([x6] : List Qb)).length : Int) - 1)) x3 x4 x5 x6
      else none
    else none
   else none
  else
   bif decide (((x1.length : Int) + (([x6] : List Qb).length : Int)) * 48 ≤ JA) && decide ((x1.length : Int) + (([x6] : List Qb).length : Int) ≤ JA) then
    JP n (x1 ++ ([x6] : List Qb)) x2 (IntKind.wrap .i64 (((x1 ++ ([x6] : List Qb)).length : Int) - 1)) x3 x4 x5 x6
   else none:=by kernel_rfl
theorem Qa5 (n : Nat) (x1 : (List Qb)) (x2 : Int) (x3 : Int) (x4 : (List Qb)) (x5 : Int) (x6 : Int) (x7 : Qb) : JP (n + 1) x1 x2 x3 x4 x5 x6 x7 =
  bif decide (x2 < x3) then
   bif inB (IntKind.wrap .i64 (x3 - 1)) x1.length then
    bif inB (IntKind.wrap .i64 (x3 - 1)) x1.length then
     bif inB x3 x1.length then
      bif inB x3 x1.length && true && true && true && true then
       JP n (x1.set (Int.toNat x3) (rd x1 (IntKind.wrap .i64 (x3 - 1)) (Ty.dflt Qa))) x2 (IntKind.wrap .i64 (x3 - 1)) x4 x5 x6 x7
      else none
     else none
    else none
   else none
  else
   bif inB x2 x1.length then
    bif inB x2 x1.length && true && true && true && true then
     Q6 n (x1.set (Int.toNat x2) x7) x4 x5 (IntKind.wrap .i64 (x6 + 1))
    else none
   else none:=by kernel_rfl
theorem UT {K0 : (List Qb) → Option (List Qb)} {x2 : Int} {x4 : (List Qb)} {x5 : Int} {x6 : Int} {x7 : Qb} (hK0 : ∀ (z1 : (List Qb)) (r : (List Qb)),K0 z1 = some r → Ev (fun n=>Q6 n z1 x4 x5 (IntKind.wrap .i64 (x6 + 1))) r) : ∀ (m : Nat) (x1 : (List Qb)) (x3 : Int) (r : (List Qb)),QY K0 x2 x7 m x1 x3 = some r → Ev (fun n=>JP n x1 x2 x3 x4 x5 x6 x7) r:=by
 intro m
 induction m with
 | zero=>intro x1 x3 r h; rw [QY] at h; exact Ev.ofNone h
 | succ m ih2 =>
  intro x1 x3 r h
  rw [QY] at h
  refine Ev.step ?_ (fun n=>Qa5 n x1 x2 x3 x4 x5 x6 x7)
  exact (Ev.ofBif h (fun h=>(Ev.ofBif h (fun h=>(Ev.ofBif h (fun h=>(Ev.ofBif h (fun h=>(Ev.ofBif h (fun h=>(ih2 _ _ _ h)) (fun h=>(Ev.ofNone h)))) (fun h=>(Ev.ofNone h)))) (fun h=>(Ev.ofNone h)))) (fun h=>(Ev.ofNone h)))) (fun h=>(Ev.ofBif h (fun h=>(Ev.ofBif h (fun h=>(hK0 _ _ h)) (fun h=>(Ev.ofNone h)))) (fun h=>(Ev.ofNone h)))))
theorem WC {K0 : (List Qb) → Option (List Qb)} {m : Nat} {x1 : (List Qb)} {x2 : Int} {x3 : (List Qb)} {x4 : Int} {x5 : Int} {x6 : Qb} (hK0 : ∀ (z1 : (List Qb)) (r : (List Qb)),K0 z1 = some r → Ev (fun n=>Q6 n z1 x3 x4 (IntKind.wrap .i64 (x5 + 1))) r) {r : (List Qb)} (h : Zy K0 m x1 x2 x6 = some r) : Ev (fun n=>YQ n x1 x2 x3 x4 x5 x6) r:=by
 rw [Zy] at h
 refine Ev.step ?_ (fun n=>Qce n x1 x2 x3 x4 x5 x6)
 exact (Ev.ofBif h (fun h=>(Ev.ofBif h (fun h=>(Ev.ofBif h (fun h=>(Ev.ofBind h fun y2 h=>(Ev.ofBif h (fun h=>(hK0 _ _ h)) (fun h=>(Ev.ofBif h (fun h=>(UT hK0 _ _ _ _ h)) (fun h=>(Ev.ofNone h))))))) (fun h=>(Ev.ofNone h)))) (fun h=>(Ev.ofNone h)))) (fun h=>(Ev.ofBif h (fun h=>(UT hK0 _ _ _ _ h)) (fun h=>(Ev.ofNone h)))))
theorem Qfo {K0 : (List Qb) → Option (List Qb)} {x1 : (List Qb)} {x3 : (List Qb)} {x4 : Int} {x5 : Int} {x6 : Qb} (hK0 : ∀ (z1 : (List Qb)) (r : (List Qb)),K0 z1 = some r → Ev (fun n=>Q6 n z1 x3 x4 (IntKind.wrap .i64 (x5 + 1))) r) : ∀ (m : Nat) (x2 : Int) (r : (List Qb)),Q5 K0 x1 x6 m x2 = some r → Ev (fun n=>YP n x1 x2 x3 x4 x5 x6) r:=by
 intro m
 induction m with
 | zero=>intro x2 r h; rw [Q5] at h; exact Ev.ofNone h
 | succ m ih2 =>
  intro x2 r h
  rw [Q5] at h
  refine Ev.step ?_ (fun n=>Qcd n x1 x2 x3 x4 x5 x6)
  exact (Ev.ofBif h (fun h=>(Ev.ofBif h (fun h=>(Ev.ofBif h (fun h=>(Ev.ofBind h fun y1 h=>(Ev.ofBif h (fun h=>(ih2 _ _ h)) (fun h=>(WC hK0 h))))) (fun h=>(Ev.ofNone h)))) (fun h=>(Ev.ofNone h)))) (fun h=>(WC hK0 h)))
theorem Qfp {m : Nat} {x2 : (List Qb)} (hl : x2.length ≤ maxLen) : ∀ (rest : List Qb) (k : Nat) (x1 : (List Qb)) (r : (List Qb)),rest = x2.drop k → Zz m rest x1 = some r → Ev (fun n=>Q6 n x1 x2 (x2.length : Int) (k : Int)) r:=by
 intro rest
 induction rest with
 | nil =>
  intro k x1 r hr h
  have hk:=Za hr
  rw [Zz] at h
  refine Ev.step ?_ (fun n=>XY n x1 x2 (x2.length : Int) (k : Int))
  rw [show decide ((k : Int) < (x2.length : Int)) = false from decide_eq_false (by omega)]
  exact Ev.neg rfl (Ev.ofSome h)
 | cons e rest ih =>
  intro k x1 r hr h
  obtain ⟨hk,hx,hr2⟩:=QK (d:=(Ty.dflt Qa)) hr
  have hw:=QR hl hk
  have ih2 : ∀ (z1 : (List Qb)) (r : (List Qb)),Zz m rest z1 = some r → Ev (fun n=>Q6 n z1 x2 (x2.length : Int) (IntKind.wrap .i64 ((k : Int) + 1))) r:=by
   intro z1 r h; rw [hw]; exact ih (k + 1) z1 r hr2 h
  rw [Zz] at h
  refine Ev.step ?_ (fun n=>XY n x1 x2 (x2.length : Int) (k : Int))
  rw [show decide ((k : Int) < (x2.length : Int)) = true from decide_eq_true (by omega),QD hk,hx]
  exact Ev.pos rfl (Ev.pos rfl (Qfo ih2 _ _ _ h))
theorem Qll {m : Nat} (a0 : (List Qb)) {r : (List Qb)} (h : Vu m a0 = some r) : Ev (fun n=>QcM n a0) r:=by
 rw [Vu] at h
 refine Ev.of_eq ?_ (fun n=>QgM n a0)
 exact (Ev.ofLen h fun hl h=>Qfp hl _ (0 : Nat) _ _ rfl h)
theorem Qig : ∀ x ∈ Ya,Qh Tryz.prog x:=(Qd Qau Qj)
theorem QjX : Qh Tryz.prog (U3):=by
 refine Qi (c:=U3) (by kernel_rfl) (by kernel_rfl : Tryz.prog.funcs[38]? = some Tryz.f38) (code:=Tryz.f38.body.getD .skip) (by kernel_rfl) (by kernel_rfl) (by kernel_rfl) (A:=Yt) (I:=J9) (Qig) ?_
 rintro ⟨a0,u⟩ y hy
 exact let ⟨_,h⟩:=(QaO hy).get; (Qll a0 h).get
def ZP (K0 : (List Qb) → Int → Option (List Qb)) (x3 : Int) : List Qb → (List Qb) → Option (List Qb)
 | [],x2 =>
   K0 x2 (IntKind.wrap .i64 (x3 + 1))
 | e :: rest,x2 =>
   Option.bind (YJ x2 (e)) fun (y2 : Bool) =>
   bif !(y2) then
    bif decide (((x2.length : Int) + (([(e)] : List Qb).length : Int)) * 48 ≤ JA) && decide ((x2.length : Int) + (([(e)] : List Qb).length : Int) ≤ JA) then
     ZP K0 x3 rest (x2 ++ ([(e)] : List Qb))
    else none
   else
    ZP K0 x3 rest x2
def Zv (x1 : (List Qf)) : Nat → (List Qb) → Int → Option (List Qb)
 | 0,_,_=>none
 | m + 1,x2,x3 =>
   bif decide (x3 < (x2.length : Int)) then
    bif inB x3 x2.length then
     Option.bind (Z9 x1 (rd x2 x3 (Ty.dflt Qa))) fun (y1 : (Qf × Bool)) =>
     Ym y1.1.2.1 (ZP (fun s0 s1=>Zv x1 m s0 s1) x3 y1.1.2.1 x2)
    else none
   else
    Option.bind (Vv x2) fun (y3 : (List Qb)) =>
    some y3
def Qcf (m : Nat) (a0 : (List Qf)) (a1 : Qb) : Option (List Qb) :=
 Zv a0 m ([a1] : List Qb) 0
def WX (a0 : (List Qf)) (a1 : Qb) : Option (List Qb):=QhU fun m=>Qcf m a0 a1
def Qcg : Ctr:=⟨18,[(.list Qc),Qa],[(.list Qa)],fun x=>WX x.1 x.2.1⟩
def WY : List (List Nat × Ann):=[([0,3],[.keep 0 0,.own 0 5 Qa,.keep 0 6]),([0,7],[.keep 0 0,.own 0 5 Qa,.keep 0 6,.keep 0 29,.keep 0 30,.keep 0 31])]
def UF : List (List Nat × Nat):=[]
def UG : List Ctr:=[U1,Qav,U3]
def Qih (n : Nat) (a0 : (List Qf)) (a1 : Qb) : Option (List Qb):=run Tryz.prog WY UF (Qk UG) Tryz.f18 (Tryz.f18.body.getD .skip) (Ql [(.list Qa)]) n (Qp [(.list Qc),Qa] (a0,a1,()))
abbrev Y2 (n : Nat) (x1 : (List Qf)) (x2 : (List Qb)) (x3 : Int) : Option (List Qb):=lam Tryz.prog WY UF (Qk UG) Tryz.f18 (Tryz.f18.body.getD .skip) (Ql [(.list Qa)]) n [0,3] [.d (.list Qc) x1,.own 0 Qa x2,.d I64 x3]
abbrev Yb (n : Nat) (x1 : (List Qf)) (x2 : (List Qb)) (x3 : Int) (x4 : (List Qb)) (x5 : Int) (x6 : Int) : Option (List Qb):=lam Tryz.prog WY UF (Qk UG) Tryz.f18 (Tryz.f18.body.getD .skip) (Ql [(.list Qa)]) n [0,7] [.d (.list Qc) x1,.own 0 Qa x2,.d I64 x3,.d (.list Qa) x4,.d I64 x5,.d I64 x6]
theorem Qlm (n : Nat) (a0 : (List Qf)) (a1 : Qb) : Qih n a0 a1 =
  Y2 n a0 ([a1] : List Qb) 0:=by kernel_rfl
theorem Qfq (n : Nat) (x1 : (List Qf)) (x2 : (List Qb)) (x3 : Int) : Y2 (n + 1) x1 x2 x3 =
  bif decide (x3 < (x2.length : Int)) then
   bif inB x3 x2.length then
    Option.bind (Z9 x1 (rd x2 x3 (Ty.dflt Qa))) fun (y1 : (Qf × Bool)) =>
    Yb n x1 x2 x3 y1.1.2.1 (y1.1.2.1.length : Int) 0
   else none
  else
   Option.bind (Vv x2) fun (y3 : (List Qb)) =>
   some y3:=by kernel_rfl
theorem WD (n : Nat) (x1 : (List Qf)) (x2 : (List Qb)) (x3 : Int) (x4 : (List Qb)) (x5 : Int) (x6 : Int) : Yb (n + 1) x1 x2 x3 x4 x5 x6 =
  bif decide (x6 < x5) then
   bif inB x6 x4.length then
    Option.bind (YJ x2 (rd x4 x6 (Ty.dflt Qa))) fun (y2 : Bool) =>
    bif !(y2) then
     bif decide (((x2.length : Int) + (([(rd x4 x6 (Ty.dflt Qa))] : List Qb).length : Int)) * 48 ≤ JA) && decide ((x2.length : Int) + (([(rd x4 x6 (Ty.dflt Qa))] : List Qb).length : Int) ≤ JA) then
      Yb n x1 (x2 ++ ([(rd x4 x6 (Ty.dflt Qa))] : List Qb)) x3 x4 x5 (IntKind.wrap .i64 (x6 + 1))
     else none
    else
     Yb n x1 x2 x3 x4 x5 (IntKind.wrap .i64 (x6 + 1))
   else none
  else
   Y2 n x1 x2 (IntKind.wrap .i64 (x3 + 1)):=by kernel_rfl
theorem QjY {K0 : (List Qb) → Int → Option (List Qb)} {x1 : (List Qf)} {x3 : Int} {x4 : (List Qb)} (hl : x4.length ≤ maxLen) (hK0 : ∀ (z2 : (List Qb)) (z3 : Int) (r : (List Qb)),K0 z2 z3 = some r → Ev (fun n=>Y2 n x1 z2 z3) r) : ∀ (rest : List Qb) (k : Nat) (x2 : (List Qb)) (r : (List Qb)),rest = x4.drop k → ZP K0 x3 rest x2 = some r → Ev (fun n=>Yb n x1 x2 x3 x4 (x4.length : Int) (k : Int)) r:=by
 intro rest
 induction rest with
 | nil =>
  intro k x2 r hr h
  have hk:=Za hr
  rw [ZP] at h
  refine Ev.step ?_ (fun n=>WD n x1 x2 x3 x4 (x4.length : Int) (k : Int))
  rw [show decide ((k : Int) < (x4.length : Int)) = false from decide_eq_false (by omega)]
  exact Ev.neg rfl (hK0 _ _ _ h)
 | cons e rest ih =>
  intro k x2 r hr h
  obtain ⟨hk,hx,hr2⟩:=QK (d:=(Ty.dflt Qa)) hr
  have hw:=QR hl hk
  have ih2 : ∀ (z2 : (List Qb)) (r : (List Qb)),ZP K0 x3 rest z2 = some r → Ev (fun n=>Yb n x1 z2 x3 x4 (x4.length : Int) (IntKind.wrap .i64 ((k : Int) + 1))) r:=by
   intro z2 r h; rw [hw]; exact ih (k + 1) z2 r hr2 h
  rw [ZP] at h
  refine Ev.step ?_ (fun n=>WD n x1 x2 x3 x4 (x4.length : Int) (k : Int))
  rw [show decide ((k : Int) < (x4.length : Int)) = true from decide_eq_true (by omega),QD hk,hx]
  exact Ev.pos rfl (Ev.pos rfl (Ev.ofBind h fun y2 h=>(Ev.ofBif h (fun h=>(Ev.ofBif h (fun h=>(ih2 _ _ h)) (fun h=>(Ev.ofNone h)))) (fun h=>(ih2 _ _ h)))))
theorem QjZ {x1 : (List Qf)} : ∀ (m : Nat) (x2 : (List Qb)) (x3 : Int) (r : (List Qb)),Zv x1 m x2 x3 = some r → Ev (fun n=>Y2 n x1 x2 x3) r:=by
 intro m
 induction m with
 | zero=>intro x2 x3 r h; rw [Zv] at h; exact Ev.ofNone h
 | succ m ih2 =>
  intro x2 x3 r h
  rw [Zv] at h
  refine Ev.step ?_ (fun n=>Qfq n x1 x2 x3)
  exact (Ev.ofBif h (fun h=>(Ev.ofBif h (fun h=>(Ev.ofBind h fun y1 h=>(Ev.ofLen h fun hl h=>QjY hl ih2 _ (0 : Nat) _ _ rfl h))) (fun h=>(Ev.ofNone h)))) (fun h=>(Ev.ofBind h fun y3 h=>(Ev.ofSome h))))
theorem Qo6 {m : Nat} (a0 : (List Qf)) (a1 : Qb) {r : (List Qb)} (h : Qcf m a0 a1 = some r) : Ev (fun n=>Qih n a0 a1) r:=by
 rw [Qcf] at h
 refine Ev.of_eq ?_ (fun n=>Qlm n a0 a1)
 exact (QjZ _ _ _ _ h)
theorem Qnc : ∀ x ∈ UG,Qh Tryz.prog x:=(Qd QjV (Qd Qnb (Qd QjX Qj)))
theorem QnH : Qh Tryz.prog (Qcg):=by
 refine Qi (c:=Qcg) (by kernel_rfl) (by kernel_rfl : Tryz.prog.funcs[18]? = some Tryz.f18) (code:=Tryz.f18.body.getD .skip) (by kernel_rfl) (by kernel_rfl) (by kernel_rfl) (A:=WY) (I:=UF) (Qnc) ?_
 rintro ⟨a0,a1,u⟩ y hy
 exact let ⟨_,h⟩:=(QaO hy).get; (Qo6 a0 a1 h).get
def JD (a0 : (List Qf)) (a1 : Qb) : Option (List Qb) :=
 Option.bind (Jt a0) fun (y1 : Bool) =>
 bif !(y1) then
  some ([])
 else
  Option.bind (Z7 a1) fun (y2 : Bool) =>
  bif !(y2) then
   some ([])
  else
   Option.bind (WX a0 a1) fun (y3 : (List Qb)) =>
   some y3
def H2 : Ctr:=⟨6,[(.list Qc),Qa],[(.list Qa)],fun x=>JD x.1 x.2.1⟩
def Qa6 : List (List Nat × Ann):=[]
def E3 : List (List Nat × Nat):=[]
def E4 : List Ctr:=[XW,UE,Qcg]
def Qa7 (n : Nat) (a0 : (List Qf)) (a1 : Qb) : Option (List Qb):=run Tryz.prog Qa6 E3 (Qk E4) Tryz.f6 (Tryz.f6.body.getD .skip) (Ql [(.list Qa)]) n (Qp [(.list Qc),Qa] (a0,a1,()))
theorem Qfr (n : Nat) (a0 : (List Qf)) (a1 : Qb) : Qa7 n a0 a1 =
  Option.bind (Jt a0) fun (y1 : Bool) =>
  bif !(y1) then
   some ([])
  else
   Option.bind (Z7 a1) fun (y2 : Bool) =>
   bif !(y2) then
    some ([])
   else
    Option.bind (WX a0 a1) fun (y3 : (List Qb)) =>
    some y3:=by kernel_rfl
theorem Qj0 (a0 : (List Qf)) (a1 : Qb) {r : (List Qb)} (h : JD a0 a1 = some r) : Ev (fun n=>Qa7 n a0 a1) r:=by
 rw [JD] at h
 refine Ev.of_eq ?_ (fun n=>Qfr n a0 a1)
 exact (Ev.ofBind h fun y1 h=>(Ev.ofBif h (fun h=>(Ev.ofSome h)) (fun h=>(Ev.ofBind h fun y2 h=>(Ev.ofBif h (fun h=>(Ev.ofSome h)) (fun h=>(Ev.ofBind h fun y3 h=>(Ev.ofSome h))))))))
theorem QgN : ∀ x ∈ E4,Qh Tryz.prog x:=(Qd QgK (Qd Qem (Qd QnH Qj)))
theorem Qii : Qh Tryz.prog (H2):=by
 refine Qi (c:=H2) (by kernel_rfl) (by kernel_rfl : Tryz.prog.funcs[6]? = some Tryz.f6) (code:=Tryz.f6.body.getD .skip) (by kernel_rfl) (by kernel_rfl) (by kernel_rfl) (A:=Qa6) (I:=E3) (QgN) ?_
 rintro ⟨a0,a1,u⟩ y hy
 exact (Qj0 a0 a1 hy).get
def ZL (a0 : Int) : Bool :=
 !decide (a0 = a0)
def U4 : Ctr:=⟨84,[I64],[.bool],fun x=>some (ZL x.1)⟩
def QcN : List (List Nat × Ann):=[]
def Qa8 : List (List Nat × Nat):=[]
def Qa9 : List Ctr:=[]
def QcO (n : Nat) (a0 : Int) : Option Bool:=run Tryz.prog QcN Qa8 (Qk Qa9) Tryz.f84 (Tryz.f84.body.getD .skip) (Ql [.bool]) n (Qp [I64] (a0,()))
theorem QgO (n : Nat) (a0 : Int) : QcO n a0 =
  some (!decide (a0 = a0)):=by kernel_rfl
theorem Qln (n : Nat) (a0 : Int) : QcO n a0 = some (ZL a0):=(QgO n a0).trans rfl
theorem Qij : ∀ x ∈ Qa9,Qh Tryz.prog x:=Qj
theorem Qj1 : Qh Tryz.prog (U4):=by
 refine Qi (c:=U4) (by kernel_rfl) (by kernel_rfl : Tryz.prog.funcs[84]? = some Tryz.f84) (code:=Tryz.f84.body.getD .skip) (by kernel_rfl) (by kernel_rfl) (by kernel_rfl) (A:=QcN) (I:=Qa8) (Qij) ?_
 rintro ⟨a0,u⟩ y hy
 exact ⟨0,(Qln 0 a0).trans hy⟩
def Zi (a0 : Int) (a1 : Int) : Int :=
 bif ZL a0 then
  bif ZL a1 then
   0
  else
   (-1)
 else
  bif ZL a1 then
   1
  else
   bif decide (a0 < a1) then
    (-1)
   else
    bif decide (a1 < a0) then
     1
    else
     0
def XZ : Ctr:=⟨49,[I64,I64],[I64],fun x=>some (Zi x.1 x.2.1)⟩
def E5 : List (List Nat × Ann):=[]
def Eo : List (List Nat × Nat):=[]
def Ep : List Ctr:=[U4]
def E6 (n : Nat) (a0 : Int) (a1 : Int) : Option Int:=run Tryz.prog E5 Eo (Qk Ep) Tryz.f49 (Tryz.f49.body.getD .skip) (Ql [I64]) n (Qp [I64,I64] (a0,a1,()))
theorem Qer (n : Nat) (a0 : Int) (a1 : Int) : E6 n a0 a1 =
  bif ZL a0 then
   bif ZL a1 then
    some 0
   else
    some (-1)
  else
   bif ZL a1 then
    some 1
   else
    bif decide (a0 < a1) then
     some (-1)
    else
     bif decide (a1 < a0) then
      some 1
     else
      some 0:=by kernel_rfl
theorem Qik (n : Nat) (a0 : Int) (a1 : Int) : E6 n a0 a1 = some (Zi a0 a1):=(Qer n a0 a1).trans (Q1 (Q1 rfl rfl) (Q1 rfl (Q1 rfl (Q1 rfl rfl))))
theorem Qfs : ∀ x ∈ Ep,Qh Tryz.prog x:=(Qd Qj1 Qj)
theorem QgP : Qh Tryz.prog (XZ):=by
 refine Qi (c:=XZ) (by kernel_rfl) (by kernel_rfl : Tryz.prog.funcs[49]? = some Tryz.f49) (code:=Tryz.f49.body.getD .skip) (by kernel_rfl) (by kernel_rfl) (by kernel_rfl) (A:=E5) (I:=Eo) (Qfs) ?_
 rintro ⟨a0,a1,u⟩ y hy
 exact ⟨0,(Qik 0 a0 a1).trans hy⟩
def Q0 (a0 : (List Int)) : Bool :=
 !decide (a0 = a0)
def G9 : Ctr:=⟨85,[.str],[.bool],fun x=>some (Q0 x.1)⟩
def Eq : List (List Nat × Ann):=[]
def WE : List (List Nat × Nat):=[]
def WF : List Ctr:=[]
def Er (n : Nat) (a0 : (List Int)) : Option Bool:=run Tryz.prog Eq WE (Qk WF) Tryz.f85 (Tryz.f85.body.getD .skip) (Ql [.bool]) n (Qp [.str] (a0,()))
theorem Qdr (n : Nat) (a0 : (List Int)) : Er n a0 =
  some (!decide (a0 = a0)):=by kernel_rfl
theorem QgQ (n : Nat) (a0 : (List Int)) : Er n a0 = some (Q0 a0):=(Qdr n a0).trans rfl
theorem Qes : ∀ x ∈ WF,Qh Tryz.prog x:=Qj
theorem Qft : Qh Tryz.prog (G9):=by
 refine Qi (c:=G9) (by kernel_rfl) (by kernel_rfl : Tryz.prog.funcs[85]? = some Tryz.f85) (code:=Tryz.f85.body.getD .skip) (by kernel_rfl) (by kernel_rfl) (by kernel_rfl) (A:=Eq) (I:=WE) (Qes) ?_
 rintro ⟨a0,u⟩ y hy
 exact ⟨0,(QgQ 0 a0).trans hy⟩
def QJ (a0 : (List Int)) (a1 : (List Int)) : Int :=
 bif Q0 a0 then
  bif Q0 a1 then
   0
  else
   (-1)
 else
  bif Q0 a1 then
   1
  else
   bif ZG a0 a1 then
    (-1)
   else
    bif ZG a1 a0 then
     1
    else
     0
def VT : Ctr:=⟨50,[.str,.str],[I64],fun x=>some (QJ x.1 x.2.1)⟩
def UU : List (List Nat × Ann):=[]
def HB : List (List Nat × Nat):=[]
def HC : List Ctr:=[G9]
def UV (n : Nat) (a0 : (List Int)) (a1 : (List Int)) : Option Int:=run Tryz.prog UU HB (Qk HC) Tryz.f50 (Tryz.f50.body.getD .skip) (Ql [I64]) n (Qp [.str,.str] (a0,a1,()))
theorem Qba (n : Nat) (a0 : (List Int)) (a1 : (List Int)) : UV n a0 a1 =
  bif Q0 a0 then
   bif Q0 a1 then
    some 0
   else
    some (-1)
  else
   bif Q0 a1 then
    some 1
   else
    bif ZG a0 a1 then
     some (-1)
    else
     bif ZG a1 a0 then
      some 1
     else
      some 0:=by kernel_rfl
theorem Qet (n : Nat) (a0 : (List Int)) (a1 : (List Int)) : UV n a0 a1 = some (QJ a0 a1):=(Qba n a0 a1).trans (Q1 (Q1 rfl rfl) (Q1 rfl (Q1 rfl (Q1 rfl rfl))))
theorem Qch : ∀ x ∈ HC,Qh Tryz.prog x:=(Qd Qft Qj)
theorem Qds : Qh Tryz.prog (VT):=by
 refine Qi (c:=VT) (by kernel_rfl) (by kernel_rfl : Tryz.prog.funcs[50]? = some Tryz.f50) (code:=Tryz.f50.body.getD .skip) (by kernel_rfl) (by kernel_rfl) (by kernel_rfl) (A:=UU) (I:=HB) (Qch) ?_
 rintro ⟨a0,a1,u⟩ y hy
 exact ⟨0,(Qet 0 a0 a1).trans hy⟩
def Jk : List Int → Option Int
 | [] =>
   some (0 : Int)
 | e :: rest =>
   bif !decide (e = (0 : Int)) then
    some e
   else
    Jk rest
def Vm (a0 : (List Int)) : Option Int :=
 Ym a0 (Jk a0)
def Qci : Ctr:=⟨48,[(.list I64)],[I64],fun x=>Vm x.1⟩
def Qcj : List (List Nat × Ann):=[([0,3],[.keep 0 3,.keep 0 6,.keep 0 7,.keep 0 8])]
def Qax : List (List Nat × Nat):=[]
def Qay : List Ctr:=[]
def Qil (n : Nat) (a0 : (List Int)) : Option Int:=run Tryz.prog Qcj Qax (Qk Qay) Tryz.f48 (Tryz.f48.body.getD .skip) (Ql [I64]) n (Qp [(.list I64)] (a0,()))
abbrev Y3 (n : Nat) (x1 : Int) (x2 : (List Int)) (x3 : Int) (x4 : Int) : Option Int:=lam Tryz.prog Qcj Qax (Qk Qay) Tryz.f48 (Tryz.f48.body.getD .skip) (Ql [I64]) n [0,3] [.d I64 x1,.d (.list I64) x2,.d I64 x3,.d I64 x4]
theorem Qlo (n : Nat) (a0 : (List Int)) : Qil n a0 =
  Y3 n 0 a0 (a0.length : Int) 0:=by kernel_rfl
theorem WG (n : Nat) (x1 : Int) (x2 : (List Int)) (x3 : Int) (x4 : Int) : Y3 (n + 1) x1 x2 x3 x4 =
  bif decide (x4 < x3) then
   bif inB x4 x2.length then
    bif !decide (rd x2 x4 (Ty.dflt I64) = x1) then
     some (rd x2 x4 (Ty.dflt I64))
    else
     Y3 n x1 x2 x3 (IntKind.wrap .i64 (x4 + 1))
   else none
  else
   some x1:=by kernel_rfl
theorem Qj2 {x2 : (List Int)} (hl : x2.length ≤ maxLen) : ∀ (rest : List Int) (k : Nat) (r : Int),rest = x2.drop k → Jk rest = some r → Ev (fun n=>Y3 n (0 : Int) x2 (x2.length : Int) (k : Int)) r:=by
 intro rest
 induction rest with
 | nil =>
  intro k r hr h
  have hk:=Za hr
  rw [Jk] at h
  refine Ev.step ?_ (fun n=>WG n (0 : Int) x2 (x2.length : Int) (k : Int))
  rw [show decide ((k : Int) < (x2.length : Int)) = false from decide_eq_false (by omega)]
  exact Ev.neg rfl (Ev.ofSome h)
 | cons e rest ih =>
  intro k r hr h
  obtain ⟨hk,hx,hr2⟩:=QK (d:=(Ty.dflt I64)) hr
  have hw:=QR hl hk
  have ih2 : ∀ (r : Int),Jk rest = some r → Ev (fun n=>Y3 n (0 : Int) x2 (x2.length : Int) (IntKind.wrap .i64 ((k : Int) + 1))) r:=by
   intro r h; rw [hw]; exact ih (k + 1) r hr2 h
  rw [Jk] at h
  refine Ev.step ?_ (fun n=>WG n (0 : Int) x2 (x2.length : Int) (k : Int))
  rw [show decide ((k : Int) < (x2.length : Int)) = true from decide_eq_true (by omega),QD hk,hx]
  exact Ev.pos rfl (Ev.pos rfl (Ev.ofBif h (fun h=>(Ev.ofSome h)) (fun h=>(ih2  _ h))))
theorem Qo7 (a0 : (List Int)) {r : Int} (h : Vm a0 = some r) : Ev (fun n=>Qil n a0) r:=by
 rw [Vm] at h
 refine Ev.of_eq ?_ (fun n=>Qlo n a0)
 exact (Ev.ofLen h fun hl h=>Qj2 hl _ (0 : Nat) _ rfl h)
theorem Qnd : ∀ x ∈ Qay,Qh Tryz.prog x:=Qj
theorem QnI : Qh Tryz.prog (Qci):=by
 refine Qi (c:=Qci) (by kernel_rfl) (by kernel_rfl : Tryz.prog.funcs[48]? = some Tryz.f48) (code:=Tryz.f48.body.getD .skip) (by kernel_rfl) (by kernel_rfl) (by kernel_rfl) (A:=Qcj) (I:=Qax) (Qnd) ?_
 rintro ⟨a0,u⟩ y hy
 exact (Qo7 a0 hy).get
def Q8 (a0 : Qb) (a1 : Qb) : Option Int :=
 Option.bind (Vm ([Zi a0.1 a1.1,Zi a0.2.1 a1.2.1,QJ a0.2.2.2 a1.2.2.2,QJ a0.2.2.1 a1.2.2.1] : List Int)) fun (y1 : Int) =>
 some y1
def GO : Ctr:=⟨24,[Qa,Qa],[I64],fun x=>Q8 x.1 x.2.1⟩
def QcP : List (List Nat × Ann):=[]
def Qbb : List (List Nat × Nat):=[]
def Qbc : List Ctr:=[XZ,VT,Qci]
def QcQ (n : Nat) (a0 : Qb) (a1 : Qb) : Option Int:=run Tryz.prog QcP Qbb (Qk Qbc) Tryz.f24 (Tryz.f24.body.getD .skip) (Ql [I64]) n (Qp [Qa,Qa] (a0,a1,()))
theorem QgR (n : Nat) (a0 : Qb) (a1 : Qb) : QcQ n a0 a1 =
  Option.bind (Vm ([Zi a0.1 a1.1,Zi a0.2.1 a1.2.1,QJ a0.2.2.2 a1.2.2.2,QJ a0.2.2.1 a1.2.2.1] : List Int)) fun (y1 : Int) =>
  some y1:=by kernel_rfl
theorem Qlp (a0 : Qb) (a1 : Qb) {r : Int} (h : Q8 a0 a1 = some r) : Ev (fun n=>QcQ n a0 a1) r:=by
 rw [Q8] at h
 refine Ev.of_eq ?_ (fun n=>QgR n a0 a1)
 exact (Ev.ofBind h fun y1 h=>(Ev.ofSome h))
theorem Qim : ∀ x ∈ Qbc,Qh Tryz.prog x:=(Qd QgP (Qd Qds (Qd QnI Qj)))
theorem H3 : Qh Tryz.prog (GO):=by
 refine Qi (c:=GO) (by kernel_rfl) (by kernel_rfl : Tryz.prog.funcs[24]? = some Tryz.f24) (code:=Tryz.f24.body.getD .skip) (by kernel_rfl) (by kernel_rfl) (by kernel_rfl) (A:=QcP) (I:=Qbb) (Qim) ?_
 rintro ⟨a0,a1,u⟩ y hy
 exact (Qlp a0 a1 hy).get
def ZA : List Int → Option Bool
 | [] =>
   some true
 | e :: rest =>
   bif decide (e < 32) then
    some false
   else
    bif decide ((126 : Int) < e) then
     some false
    else
     ZA rest
def Ja (a0 : (List Int)) (a1 : Int) (a2 : Int) : Option Bool :=
 bif decide ((a0.length : Int) < a1) then
  some false
 else
  bif decide (a2 < (a0.length : Int)) then
   some false
  else
   Ym a0 (ZA a0)
def U5 : Ctr:=⟨70,[.str,I64,I64],[.bool],fun x=>Ja x.1 x.2.1 x.2.2.1⟩
def U6 : List (List Nat × Ann):=[([0,4],[.keep 0 0,.keep 0 19,.keep 0 20])]
def H4 : List (List Nat × Nat):=[]
def H5 : List Ctr:=[]
def QcR (n : Nat) (a0 : (List Int)) (a1 : Int) (a2 : Int) : Option Bool:=run Tryz.prog U6 H4 (Qk H5) Tryz.f70 (Tryz.f70.body.getD .skip) (Ql [.bool]) n (Qp [.str,I64,I64] (a0,a1,a2,()))
abbrev JZ (n : Nat) (x1 : (List Int)) (x2 : Int) (x3 : Int) : Option Bool:=lam Tryz.prog U6 H4 (Qk H5) Tryz.f70 (Tryz.f70.body.getD .skip) (Ql [.bool]) n [0,4] [.d .str x1,.d I64 x2,.d I64 x3]
theorem QgS (n : Nat) (a0 : (List Int)) (a1 : Int) (a2 : Int) : QcR n a0 a1 a2 =
  bif decide ((a0.length : Int) < a1) then
   some false
  else
   bif decide (a2 < (a0.length : Int)) then
    some false
   else
    JZ n a0 (a0.length : Int) 0:=by kernel_rfl
theorem X0 (n : Nat) (x1 : (List Int)) (x2 : Int) (x3 : Int) : JZ (n + 1) x1 x2 x3 =
  bif decide (x3 < x2) then
   bif inB x3 x1.length then
    bif decide (rd x1 x3 0 < 32) then
     some false
    else
     bif inB x3 x1.length then
      bif decide ((126 : Int) < rd x1 x3 0) then
       some false
      else
       JZ n x1 x2 (IntKind.wrap .i64 (x3 + 1))
     else none
   else none
  else
   some true:=by kernel_rfl
theorem Qfu {x1 : (List Int)} (hl : x1.length ≤ maxLen) : ∀ (rest : List Int) (k : Nat) (r : Bool),rest = x1.drop k → ZA rest = some r → Ev (fun n=>JZ n x1 (x1.length : Int) (k : Int)) r:=by
 intro rest
 induction rest with
 | nil =>
  intro k r hr h
  have hk:=Za hr
  rw [ZA] at h
  refine Ev.step ?_ (fun n=>X0 n x1 (x1.length : Int) (k : Int))
  rw [show decide ((k : Int) < (x1.length : Int)) = false from decide_eq_false (by omega)]
  exact Ev.neg rfl (Ev.ofSome h)
 | cons e rest ih =>
  intro k r hr h
  obtain ⟨hk,hx,hr2⟩:=QK (d:=0) hr
  have hw:=QR hl hk
  have ih2 : ∀ (r : Bool),ZA rest = some r → Ev (fun n=>JZ n x1 (x1.length : Int) (IntKind.wrap .i64 ((k : Int) + 1))) r:=by
   intro r h; rw [hw]; exact ih (k + 1) r hr2 h
  rw [ZA] at h
  refine Ev.step ?_ (fun n=>X0 n x1 (x1.length : Int) (k : Int))
  rw [show decide ((k : Int) < (x1.length : Int)) = true from decide_eq_true (by omega),QD hk,hx]
  exact Ev.pos rfl (Ev.pos rfl (Ev.ofBif h (fun h=>(Ev.ofSome h)) (fun h=>(Ev.pos rfl (Ev.ofBif h (fun h=>(Ev.ofSome h)) (fun h=>(ih2  _ h)))))))
theorem Qlq (a0 : (List Int)) (a1 : Int) (a2 : Int) {r : Bool} (h : Ja a0 a1 a2 = some r) : Ev (fun n=>QcR n a0 a1 a2) r:=by
 rw [Ja] at h
 refine Ev.of_eq ?_ (fun n=>QgS n a0 a1 a2)
 exact (Ev.ofBif h (fun h=>(Ev.ofSome h)) (fun h=>(Ev.ofBif h (fun h=>(Ev.ofSome h)) (fun h=>(Ev.ofLen h fun hl h=>Qfu hl _ (0 : Nat) _ rfl h)))))
theorem Qin : ∀ x ∈ H5,Qh Tryz.prog x:=Qj
theorem Qj3 : Qh Tryz.prog (U5):=by
 refine Qi (c:=U5) (by kernel_rfl) (by kernel_rfl : Tryz.prog.funcs[70]? = some Tryz.f70) (code:=Tryz.f70.body.getD .skip) (by kernel_rfl) (by kernel_rfl) (by kernel_rfl) (A:=U6) (I:=H4) (Qin) ?_
 rintro ⟨a0,a1,a2,u⟩ y hy
 exact (Qlq a0 a1 a2 hy).get
def J5 (a0 : Int) : Bool :=
 bif decide ((48 : Int) ≤ a0) then
  decide (a0 ≤ 57)
 else
  false
def UH : Ctr:=⟨95,[U8],[.bool],fun x=>some (J5 x.1)⟩
def Qf5 : List (List Nat × Ann):=[]
def Qeu : List (List Nat × Nat):=[]
def Qev : List Ctr:=[]
def Qf6 (n : Nat) (a0 : Int) : Option Bool:=run Tryz.prog Qf5 Qeu (Qk Qev) Tryz.f95 (Tryz.f95.body.getD .skip) (Ql [.bool]) n (Qp [U8] (a0,()))
theorem Qj4 (n : Nat) (a0 : Int) : Qf6 n a0 =
  bif decide ((48 : Int) ≤ a0) then
   some (decide (a0 ≤ 57))
  else
   some false:=by kernel_rfl
theorem QnJ (n : Nat) (a0 : Int) : Qf6 n a0 = some (J5 a0):=(Qj4 n a0).trans (Q1 rfl rfl)
theorem Qlr : ∀ x ∈ Qev,Qh Tryz.prog x:=Qj
theorem Qew : Qh Tryz.prog (UH):=by
 refine Qi (c:=UH) (by kernel_rfl) (by kernel_rfl : Tryz.prog.funcs[95]? = some Tryz.f95) (code:=Tryz.f95.body.getD .skip) (by kernel_rfl) (by kernel_rfl) (by kernel_rfl) (A:=Qf5) (I:=Qeu) (Qlr) ?_
 rintro ⟨a0,u⟩ y hy
 exact ⟨0,(QnJ 0 a0).trans hy⟩
def Y4 (a0 : Int) : Bool :=
 bif decide ((97 : Int) ≤ a0) then
  bif decide (a0 ≤ 122) then
   true
  else
   bif decide ((65 : Int) ≤ a0) then
    decide (a0 ≤ 90)
   else
    false
 else
  bif decide ((65 : Int) ≤ a0) then
   decide (a0 ≤ 90)
  else
   false
def Es : Ctr:=⟨103,[U8],[.bool],fun x=>some (Y4 x.1)⟩
def Qex : List (List Nat × Ann):=[]
def QcS : List (List Nat × Nat):=[]
def QcT : List Ctr:=[]
def Qey (n : Nat) (a0 : Int) : Option Bool:=run Tryz.prog Qex QcS (Qk QcT) Tryz.f103 (Tryz.f103.body.getD .skip) (Ql [.bool]) n (Qp [U8] (a0,()))
theorem Qio (n : Nat) (a0 : Int) : Qey n a0 =
  bif decide ((97 : Int) ≤ a0) then
   bif decide (a0 ≤ 122) then
    some true
   else
    bif decide ((65 : Int) ≤ a0) then
     some (decide (a0 ≤ 90))
    else
     some false
  else
   bif decide ((65 : Int) ≤ a0) then
    some (decide (a0 ≤ 90))
   else
    some false:=by kernel_rfl
theorem Qne (n : Nat) (a0 : Int) : Qey n a0 = some (Y4 a0):=(Qio n a0).trans (Q1 (Q1 rfl (Q1 rfl rfl)) (Q1 rfl rfl))
theorem Qj5 : ∀ x ∈ QcT,Qh Tryz.prog x:=Qj
theorem Qls : Qh Tryz.prog (Es):=by
 refine Qi (c:=Es) (by kernel_rfl) (by kernel_rfl : Tryz.prog.funcs[103]? = some Tryz.f103) (code:=Tryz.f103.body.getD .skip) (by kernel_rfl) (by kernel_rfl) (by kernel_rfl) (A:=Qex) (I:=QcS) (Qj5) ?_
 rintro ⟨a0,u⟩ y hy
 exact ⟨0,(Qne 0 a0).trans hy⟩
def Yc (a0 : Int) : Bool :=
 bif Y4 a0 then
  true
 else
  bif J5 a0 then
   true
  else
   decide (a0 = 95)
def H6 : Ctr:=⟨96,[U8],[.bool],fun x=>some (Yc x.1)⟩
def Qbd : List (List Nat × Ann):=[]
def E7 : List (List Nat × Nat):=[]
def E8 : List Ctr:=[Es,UH]
def Qbe (n : Nat) (a0 : Int) : Option Bool:=run Tryz.prog Qbd E7 (Qk E8) Tryz.f96 (Tryz.f96.body.getD .skip) (Ql [.bool]) n (Qp [U8] (a0,()))
theorem Qfv (n : Nat) (a0 : Int) : Qbe n a0 =
  bif Y4 a0 then
   some true
  else
   bif J5 a0 then
    some true
   else
    some (decide (a0 = 95)):=by kernel_rfl
theorem Qj6 (n : Nat) (a0 : Int) : Qbe n a0 = some (Yc a0):=(Qfv n a0).trans (Q1 rfl (Q1 rfl rfl))
theorem QgT : ∀ x ∈ E8,Qh Tryz.prog x:=(Qd Qls (Qd Qew Qj))
theorem Qip : Qh Tryz.prog (H6):=by
 refine Qi (c:=H6) (by kernel_rfl) (by kernel_rfl : Tryz.prog.funcs[96]? = some Tryz.f96) (code:=Tryz.f96.body.getD .skip) (by kernel_rfl) (by kernel_rfl) (by kernel_rfl) (A:=Qbd) (I:=E7) (QgT) ?_
 rintro ⟨a0,u⟩ y hy
 exact ⟨0,(Qj6 0 a0).trans hy⟩
def ZB : List Int → Option Bool
 | [] =>
   some true
 | e :: rest =>
   bif !(Yc (e)) then
    some false
   else
    ZB rest
def Jb (a0 : (List Int)) : Option Bool :=
 bif decide (a0 = ([] : List Int)) then
  some false
 else
  bif decide ((30 : Int) < (a0.length : Int)) then
   some false
  else
   bif inB 0 a0.length then
    bif J5 (rd a0 0 0) then
     some false
    else
     Ym a0 (ZB a0)
   else none
def GP : Ctr:=⟨71,[.str],[.bool],fun x=>Jb x.1⟩
def U7 : List (List Nat × Ann):=[([0,4],[.keep 0 0,.keep 0 17,.keep 0 18])]
def H7 : List (List Nat × Nat):=[]
def H8 : List Ctr:=[UH,H6]
def QcU (n : Nat) (a0 : (List Int)) : Option Bool:=run Tryz.prog U7 H7 (Qk H8) Tryz.f71 (Tryz.f71.body.getD .skip) (Ql [.bool]) n (Qp [.str] (a0,()))
abbrev J0 (n : Nat) (x1 : (List Int)) (x2 : Int) (x3 : Int) : Option Bool:=lam Tryz.prog U7 H7 (Qk H8) Tryz.f71 (Tryz.f71.body.getD .skip) (Ql [.bool]) n [0,4] [.d .str x1,.d I64 x2,.d I64 x3]
theorem QgU (n : Nat) (a0 : (List Int)) : QcU n a0 =
  bif decide (a0 = ([] : List Int)) then
   some false
  else
   bif decide ((30 : Int) < (a0.length : Int)) then
    some false
   else
    bif inB 0 a0.length then
     bif J5 (rd a0 0 0) then
      some false
     else
      J0 n a0 (a0.length : Int) 0
    else none:=by kernel_rfl
theorem X1 (n : Nat) (x1 : (List Int)) (x2 : Int) (x3 : Int) : J0 (n + 1) x1 x2 x3 =
  bif decide (x3 < x2) then
   bif inB x3 x1.length then
    bif !(Yc (rd x1 x3 0)) then
     some false
    else
     J0 n x1 x2 (IntKind.wrap .i64 (x3 + 1))
   else none
  else
   some true:=by kernel_rfl
theorem Qfw {x1 : (List Int)} (hl : x1.length ≤ maxLen) : ∀ (rest : List Int) (k : Nat) (r : Bool),rest = x1.drop k → ZB rest = some r → Ev (fun n=>J0 n x1 (x1.length : Int) (k : Int)) r:=by
 intro rest
 induction rest with
 | nil =>
  intro k r hr h
  have hk:=Za hr
  rw [ZB] at h
  refine Ev.step ?_ (fun n=>X1 n x1 (x1.length : Int) (k : Int))
  rw [show decide ((k : Int) < (x1.length : Int)) = false from decide_eq_false (by omega)]
  exact Ev.neg rfl (Ev.ofSome h)
 | cons e rest ih =>
  intro k r hr h
  obtain ⟨hk,hx,hr2⟩:=QK (d:=0) hr
  have hw:=QR hl hk
  have ih2 : ∀ (r : Bool),ZB rest = some r → Ev (fun n=>J0 n x1 (x1.length : Int) (IntKind.wrap .i64 ((k : Int) + 1))) r:=by
   intro r h; rw [hw]; exact ih (k + 1) r hr2 h
  rw [ZB] at h
  refine Ev.step ?_ (fun n=>X1 n x1 (x1.length : Int) (k : Int))
  rw [show decide ((k : Int) < (x1.length : Int)) = true from decide_eq_true (by omega),QD hk,hx]
  exact Ev.pos rfl (Ev.pos rfl (Ev.ofBif h (fun h=>(Ev.ofSome h)) (fun h=>(ih2  _ h))))
theorem Qlt (a0 : (List Int)) {r : Bool} (h : Jb a0 = some r) : Ev (fun n=>QcU n a0) r:=by
 rw [Jb] at h
 refine Ev.of_eq ?_ (fun n=>QgU n a0)
 exact (Ev.ofBif h (fun h=>(Ev.ofSome h)) (fun h=>(Ev.ofBif h (fun h=>(Ev.ofSome h)) (fun h=>(Ev.ofBif h (fun h=>(Ev.ofBif h (fun h=>(Ev.ofSome h)) (fun h=>(Ev.ofLen h fun hl h=>Qfw hl _ (0 : Nat) _ rfl h)))) (fun h=>(Ev.ofNone h)))))))
theorem Qiq : ∀ x ∈ H8,Qh Tryz.prog x:=(Qd Qew (Qd Qip Qj))
theorem Qbf : Qh Tryz.prog (GP):=by
 refine Qi (c:=GP) (by kernel_rfl) (by kernel_rfl : Tryz.prog.funcs[71]? = some Tryz.f71) (code:=Tryz.f71.body.getD .skip) (by kernel_rfl) (by kernel_rfl) (by kernel_rfl) (A:=U7) (I:=H7) (Qiq) ?_
 rintro ⟨a0,u⟩ y hy
 exact (Qlt a0 hy).get
def J1 (x1 : Bool) (x2 : Int) (x3 : Bool) (x4 : Qb) : Option Bool :=
 bif x3 then
  some x1
 else
  bif decide (x2 = 3) then
   bif decide (x4.2.1 = 0) then
    bif decide (x4.2.2.2 = ([] : List Int)) then
     Option.bind (Ja x4.2.2.1 0 200) fun (y1 : Bool) =>
     some y1
    else
     some false
   else
    some false
  else
   bif decide (x2 = 4) then
    bif decide (x4.2.1 = 0) then
     Option.bind (Jb x4.2.2.2) fun (y2 : Bool) =>
     bif y2 then
      Option.bind (Ja x4.2.2.1 1 200) fun (y3 : Bool) =>
      some y3
     else
      some false
    else
     some false
   else
    bif decide (x2 = 6) then
     bif !(x1) then
      some false
     else
      bif decide (x4.2.1 < 0) then
       some false
      else
       bif decide (Int.tmod x4.2.1 64 ≤ 32) then
        bif decide (IntKind.wrap .i64 (Int.tdiv x4.2.1 64) < 4294967296) then
         bif decide ((0 : Int) ≤ IntKind.wrap .i64 (32 - (Int.tmod x4.2.1 64))) then
          bif decide (IntKind.wrap .i64 (1 * 2 ^ (min (Int.toNat (IntKind.wrap .i64 (32 - (Int.tmod x4.2.1 64)))) 64)) = 0) then none else
          some (decide (Int.tmod (IntKind.wrap .i64 (Int.tdiv x4.2.1 64)) (IntKind.wrap .i64 (1 * 2 ^ (min (Int.toNat (IntKind.wrap .i64 (32 - (Int.tmod x4.2.1 64)))) 64))) = 0))
         else none
        else
         some false
       else
        some false
    else
     bif decide (x2 = 7) then
      bif x1 then
       bif decide (((-100000000000) : Int) ≤ x4.2.1) then
        some (decide (x4.2.1 ≤ 100000000000))
       else
        some false
      else
       some false
     else
      some false
def J2 (x1 : Bool) (x2 : Qb) : Option Bool :=
 bif decide (x2.1 = 1) then
  bif x1 then
   bif decide (x2.2.1 = 0) then
    some true
   else
    some (decide (x2.2.1 = 1))
  else
   some false
 else
  bif decide (x2.1 = 2) then
   J1 x1 x2.1 (decide (x2.1 = 2)) x2
  else
   J1 x1 x2.1 (decide (x2.1 = 5)) x2
def QV (a0 : Qb) : Option Bool :=
 bif decide (a0.2.2.1 = ([] : List Int)) then
  J2 (decide (a0.2.2.2 = ([] : List Int))) a0
 else
  J2 false a0
def Vw : Ctr:=⟨44,[Qa],[.bool],fun x=>QV x.1⟩
def GQ : List (List Nat × Ann):=[([1,2],[.keep 0 1,.keep 0 3,.boxd 0 1 Qa]),([1,7],[.keep 0 1,.keep 0 3,.keep 0 15,.keep 0 29,.boxd 0 1 Qa])]
def Gd : List (List Nat × Nat):=[]
def Ge : List Ctr:=[U5,GP]
def QcV (n : Nat) (a0 : Qb) : Option Bool:=run Tryz.prog GQ Gd (Qk Ge) Tryz.f44 (Tryz.f44.body.getD .skip) (Ql [.bool]) n (Qp [Qa] (a0,()))
abbrev YR (n : Nat) (x1 : Bool) (x2 : Qb) : Option Bool:=lam Tryz.prog GQ Gd (Qk Ge) Tryz.f44 (Tryz.f44.body.getD .skip) (Ql [.bool]) n [1,2] [.ptr 0 1 0,.d .bool x1,.agg (Qm Qa x2)]
abbrev YS (n : Nat) (x1 : Bool) (x2 : Int) (x3 : Bool) (x4 : Qb) : Option Bool:=lam Tryz.prog GQ Gd (Qk Ge) Tryz.f44 (Tryz.f44.body.getD .skip) (Ql [.bool]) n [1,7] [.ptr 0 1 0,.d .bool x1,.d I64 x2,.d .bool x3,.agg (Qm Qa x4)]
theorem QgV (n : Nat) (a0 : Qb) : QcV n a0 =
  bif decide (a0.2.2.1 = ([] : List Int)) then
   YR n (decide (a0.2.2.2 = ([] : List Int))) a0
  else
   YR n false a0:=by kernel_rfl
theorem Qck (n : Nat) (x1 : Bool) (x2 : Qb) : YR (n + 1) x1 x2 =
  bif decide (x2.1 = 1) then
   bif x1 then
    bif decide (x2.2.1 = 0) then
     some true
    else
     some (decide (x2.2.1 = 1))
   else
    some false
  else
   bif decide (x2.1 = 2) then
    YS n x1 x2.1 (decide (x2.1 = 2)) x2
   else
    YS n x1 x2.1 (decide (x2.1 = 5)) x2:=by kernel_rfl
theorem Qcl (n : Nat) (x1 : Bool) (x2 : Int) (x3 : Bool) (x4 : Qb) : YS (n + 1) x1 x2 x3 x4 =
  bif x3 then
   some x1
  else
   bif decide (x2 = 3) then
    bif decide (x4.2.1 = 0) then
     bif decide (x4.2.2.2 = ([] : List Int)) then
      Option.bind (Ja x4.2.2.1 0 200) fun (y1 : Bool) =>
      some y1
     else
      some false
    else
     some false
   else
    bif decide (x2 = 4) then
     bif decide (x4.2.1 = 0) then
      Option.bind (Jb x4.2.2.2) fun (y2 : Bool) =>
      bif y2 then
       Option.bind (Ja x4.2.2.1 1 200) fun (y3 : Bool) =>
       some y3
      else
       some false
     else
      some false
    else
     bif decide (x2 = 6) then
      bif !(x1) then
       some false
      else
       bif decide (x4.2.1 < 0) then
        some false
       else
        bif decide (Int.tmod x4.2.1 64 ≤ 32) then
         bif decide (IntKind.wrap .i64 (Int.tdiv x4.2.1 64) < 4294967296) then
          bif decide ((0 : Int) ≤ IntKind.wrap .i64 (32 - (Int.tmod x4.2.1 64))) then
           bif decide (IntKind.wrap .i64 (1 * 2 ^ (min (Int.toNat (IntKind.wrap .i64 (32 - (Int.tmod x4.2.1 64)))) 64)) = 0) then none else
           some (decide (Int.tmod (IntKind.wrap .i64 (Int.tdiv x4.2.1 64)) (IntKind.wrap .i64 (1 * 2 ^ (min (Int.toNat (IntKind.wrap .i64 (32 - (Int.tmod x4.2.1 64)))) 64))) = 0))
          else none
         else
          some false
        else
         some false
     else
      bif decide (x2 = 7) then
       bif x1 then
        bif decide (((-100000000000) : Int) ≤ x4.2.1) then
         some (decide (x4.2.1 ≤ 100000000000))
        else
         some false
       else
        some false
      else
       some false:=by kernel_rfl
theorem WH {x1 : Bool} {x2 : Int} {x3 : Bool} {x4 : Qb} {r : Bool} (h : J1 x1 x2 x3 x4 = some r) : Ev (fun n=>YS n x1 x2 x3 x4) r:=by
 rw [J1] at h
 refine Ev.step ?_ (fun n=>Qcl n x1 x2 x3 x4)
 exact (Ev.ofBif h (fun h=>(Ev.ofSome h)) (fun h=>(Ev.ofBif h (fun h=>(Ev.ofBif h (fun h=>(Ev.ofBif h (fun h=>(Ev.ofBind h fun y1 h=>(Ev.ofSome h))) (fun h=>(Ev.ofSome h)))) (fun h=>(Ev.ofSome h)))) (fun h=>(Ev.ofBif h (fun h=>(Ev.ofBif h (fun h=>(Ev.ofBind h fun y2 h=>(Ev.ofBif h (fun h=>(Ev.ofBind h fun y3 h=>(Ev.ofSome h))) (fun h=>(Ev.ofSome h))))) (fun h=>(Ev.ofSome h)))) (fun h=>(Ev.ofBif h (fun h=>(Ev.ofBif h (fun h=>(Ev.ofSome h)) (fun h=>(Ev.ofBif h (fun h=>(Ev.ofSome h)) (fun h=>(Ev.ofBif h (fun h=>(Ev.ofBif h (fun h=>(Ev.ofBif h (fun h=>(Ev.ofBif h (fun h=>(Ev.ofNone h)) (fun h=>(Ev.ofSome h)))) (fun h=>(Ev.ofNone h)))) (fun h=>(Ev.ofSome h)))) (fun h=>(Ev.ofSome h)))))))) (fun h=>(Ev.ofBif h (fun h=>(Ev.ofBif h (fun h=>(Ev.ofBif h (fun h=>(Ev.ofSome h)) (fun h=>(Ev.ofSome h)))) (fun h=>(Ev.ofSome h)))) (fun h=>(Ev.ofSome h)))))))))))
theorem WI {x1 : Bool} {x2 : Qb} {r : Bool} (h : J2 x1 x2 = some r) : Ev (fun n=>YR n x1 x2) r:=by
 rw [J2] at h
 refine Ev.step ?_ (fun n=>Qck n x1 x2)
 exact (Ev.ofBif h (fun h=>(Ev.ofBif h (fun h=>(Ev.ofBif h (fun h=>(Ev.ofSome h)) (fun h=>(Ev.ofSome h)))) (fun h=>(Ev.ofSome h)))) (fun h=>(Ev.ofBif h (fun h=>(WH h)) (fun h=>(WH h)))))
theorem Qlu (a0 : Qb) {r : Bool} (h : QV a0 = some r) : Ev (fun n=>QcV n a0) r:=by
 rw [QV] at h
 refine Ev.of_eq ?_ (fun n=>QgV n a0)
 exact (Ev.ofBif h (fun h=>(WI h)) (fun h=>(WI h)))
theorem Qir : ∀ x ∈ Ge,Qh Tryz.prog x:=(Qd Qj3 (Qd Qbf Qj))
theorem H9 : Qh Tryz.prog (Vw):=by
 refine Qi (c:=Vw) (by kernel_rfl) (by kernel_rfl : Tryz.prog.funcs[44]? = some Tryz.f44) (code:=Tryz.f44.body.getD .skip) (by kernel_rfl) (by kernel_rfl) (by kernel_rfl) (A:=GQ) (I:=Gd) (Qir) ?_
 rintro ⟨a0,u⟩ y hy
 exact (Qlu a0 hy).get
def Jc (a0 : Qb) : Option Bool :=
 bif decide (a0.1 = 4) then
  Option.bind (QV a0) fun (y1 : Bool) =>
  some y1
 else
  some false
def GR : Ctr:=⟨21,[Qa],[.bool],fun x=>Jc x.1⟩
def QcW : List (List Nat × Ann):=[]
def Qbg : List (List Nat × Nat):=[]
def Qbh : List Ctr:=[Vw]
def QcX (n : Nat) (a0 : Qb) : Option Bool:=run Tryz.prog QcW Qbg (Qk Qbh) Tryz.f21 (Tryz.f21.body.getD .skip) (Ql [.bool]) n (Qp [Qa] (a0,()))
theorem QgW (n : Nat) (a0 : Qb) : QcX n a0 =
  bif decide (a0.1 = 4) then
   Option.bind (QV a0) fun (y1 : Bool) =>
   some y1
  else
   some false:=by kernel_rfl
theorem Qlv (a0 : Qb) {r : Bool} (h : Jc a0 = some r) : Ev (fun n=>QcX n a0) r:=by
 rw [Jc] at h
 refine Ev.of_eq ?_ (fun n=>QgW n a0)
 exact (Ev.ofBif h (fun h=>(Ev.ofBind h fun y1 h=>(Ev.ofSome h))) (fun h=>(Ev.ofSome h)))
theorem Qis : ∀ x ∈ Qbh,Qh Tryz.prog x:=(Qd H9 Qj)
theorem Qbi : Qh Tryz.prog (GR):=by
 refine Qi (c:=GR) (by kernel_rfl) (by kernel_rfl : Tryz.prog.funcs[21]? = some Tryz.f21) (code:=Tryz.f21.body.getD .skip) (by kernel_rfl) (by kernel_rfl) (by kernel_rfl) (A:=QcW) (I:=Qbg) (Qis) ?_
 rintro ⟨a0,u⟩ y hy
 exact (Qlv a0 hy).get
def QE (x1 : (List Qb)) : List Qb → Nat → Option Bool
 | [],k =>
   some true
 | e :: rest,k =>
   Option.bind (QV (e)) fun (y1 : Bool) =>
   bif !(y1) then
    some false
   else
    bif decide ((0 : Int) < (k : Int)) then
     bif inB (IntKind.wrap .i64 ((k : Int) - 1)) x1.length then
      Option.bind (Q8 (rd x1 (IntKind.wrap .i64 ((k : Int) - 1)) (Ty.dflt Qa)) (e)) fun (y2 : Int) =>
      bif decide ((0 : Int) ≤ y2) then
       some false
      else
       QE x1 rest (k + 1)
     else none
    else
     QE x1 rest (k + 1)
def Q7 (a0 : (List Qb)) : Option Bool :=
 Ym a0 (QE a0 a0 0)
def YT : Ctr:=⟨62,[(.list Qa)],[.bool],fun x=>Q7 x.1⟩
def Gq : List (List Nat × Ann):=[([0,2],[.keep 0 0,.keep 0 5,.keep 0 6,.keep 0 7])]
def VU : List (List Nat × Nat):=[]
def VV : List Ctr:=[Vw,GO]
def WJ (n : Nat) (a0 : (List Qb)) : Option Bool:=run Tryz.prog Gq VU (Qk VV) Tryz.f62 (Tryz.f62.body.getD .skip) (Ql [.bool]) n (Qp [(.list Qa)] (a0,()))
abbrev ZH (n : Nat) (x1 : (List Qb)) (x2 : (List Qb)) (x3 : Int) (x4 : Int) : Option Bool:=lam Tryz.prog Gq VU (Qk VV) Tryz.f62 (Tryz.f62.body.getD .skip) (Ql [.bool]) n [0,2] [.d (.list Qa) x1,.d (.list Qa) x2,.d I64 x3,.d I64 x4]
theorem Qcm (n : Nat) (a0 : (List Qb)) : WJ n a0 =
  ZH n a0 a0 (a0.length : Int) 0:=by kernel_rfl
theorem VW (n : Nat) (x1 : (List Qb)) (x2 : (List Qb)) (x3 : Int) (x4 : Int) : ZH (n + 1) x1 x2 x3 x4 =
  bif decide (x4 < x3) then
   bif inB x4 x2.length then
    Option.bind (QV (rd x2 x4 (Ty.dflt Qa))) fun (y1 : Bool) =>
    bif !(y1) then
     some false
    else
     bif decide ((0 : Int) < x4) then
      bif inB (IntKind.wrap .i64 (x4 - 1)) x1.length then
       Option.bind (Q8 (rd x1 (IntKind.wrap .i64 (x4 - 1)) (Ty.dflt Qa)) (rd x2 x4 (Ty.dflt Qa))) fun (y2 : Int) =>
       bif decide ((0 : Int) ≤ y2) then
        some false
       else
        ZH n x1 x2 x3 (IntKind.wrap .i64 (x4 + 1))
      else none
     else
      ZH n x1 x2 x3 (IntKind.wrap .i64 (x4 + 1))
   else none
  else
   some true:=by kernel_rfl
theorem Qbj {x1 : (List Qb)} (hl : x1.length ≤ maxLen) : ∀ (rest : List Qb) (k : Nat) (r : Bool),rest = x1.drop k → QE x1 rest k = some r → Ev (fun n=>ZH n x1 x1 (x1.length : Int) (k : Int)) r:=by
 intro rest
 induction rest with
 | nil =>
  intro k r hr h
  have hk:=Za hr
  rw [QE] at h
  refine Ev.step ?_ (fun n=>VW n x1 x1 (x1.length : Int) (k : Int))
  rw [show decide ((k : Int) < (x1.length : Int)) = false from decide_eq_false (by omega)]
  exact Ev.neg rfl (Ev.ofSome h)
 | cons e rest ih =>
  intro k r hr h
  obtain ⟨hk,hx,hr2⟩:=QK (d:=(Ty.dflt Qa)) hr
  have hw:=QR hl hk
  have ih2 : ∀ (r : Bool),QE x1 rest (k + 1) = some r → Ev (fun n=>ZH n x1 x1 (x1.length : Int) (IntKind.wrap .i64 ((k : Int) + 1))) r:=by
   intro r h; rw [hw]; exact ih (k + 1) r hr2 h
  rw [QE] at h
  refine Ev.step ?_ (fun n=>VW n x1 x1 (x1.length : Int) (k : Int))
  rw [show decide ((k : Int) < (x1.length : Int)) = true from decide_eq_true (by omega),QD hk,hx]
  exact Ev.pos rfl (Ev.pos rfl (Ev.ofBind h fun y1 h=>(Ev.ofBif h (fun h=>(Ev.ofSome h)) (fun h=>(Ev.ofBif h (fun h=>(Ev.ofBif h (fun h=>(Ev.ofBind h fun y2 h=>(Ev.ofBif h (fun h=>(Ev.ofSome h)) (fun h=>(ih2  _ h))))) (fun h=>(Ev.ofNone h)))) (fun h=>(ih2  _ h)))))))
theorem Qfx (a0 : (List Qb)) {r : Bool} (h : Q7 a0 = some r) : Ev (fun n=>WJ n a0) r:=by
 rw [Q7] at h
 refine Ev.of_eq ?_ (fun n=>Qcm n a0)
 exact (Ev.ofLen h fun hl h=>Qbj hl _ (0 : Nat) _ rfl h)
theorem Qdt : ∀ x ∈ VV,Qh Tryz.prog x:=(Qd H9 (Qd H3 Qj))
theorem UW : Qh Tryz.prog (YT):=by
 refine Qi (c:=YT) (by kernel_rfl) (by kernel_rfl : Tryz.prog.funcs[62]? = some Tryz.f62) (code:=Tryz.f62.body.getD .skip) (by kernel_rfl) (by kernel_rfl) (by kernel_rfl) (A:=Gq) (I:=VU) (Qdt) ?_
 rintro ⟨a0,u⟩ y hy
 exact (Qfx a0 hy).get
def Qt : List Qb → Nat → Option Bool
 | [],k =>
   some true
 | e :: rest,k =>
   bif !decide ((e).1 = 4) then
    some (!decide ((0 : Int) ≤ (k : Int)))
   else
    Qt rest (k + 1)
def ZQ (a0 : (List Qb)) (a1 : Int) : Option Bool :=
 bif decide ((a0.length : Int) ≤ a1) then
  Option.bind (Q7 a0) fun (y1 : Bool) =>
  bif y1 then
   Ym a0 (Qt a0 0)
  else
   some false
 else
  some false
def Ua : Ctr:=⟨42,[(.list Qa),I64],[.bool],fun x=>ZQ x.1 x.2.1⟩
def Ub : List (List Nat × Ann):=[([0,2,1002,1010],[.keep 0 13,.keep 2 0,.keep 2 1,.keep 2 7,.keep 2 8])]
def X2 : List (List Nat × Nat):=[([1010],63),([1002,1010],89),([4005,1002,1010],64)]
def X3 : List Ctr:=[YT]
def Qbk (n : Nat) (a0 : (List Qb)) (a1 : Int) : Option Bool:=run Tryz.prog Ub X2 (Qk X3) Tryz.f42 (Tryz.f42.body.getD .skip) (Ql [.bool]) n (Qp [(.list Qa),I64] (a0,a1,()))
abbrev Zb (n : Nat) (x1 : Bool) (x2 : (List Qb)) (x3 : Int) (x4 : Int) : Option Bool:=lam Tryz.prog Ub X2 (Qk X3) Tryz.f42 (Tryz.f42.body.getD .skip) (Ql [.bool]) n [0,2,1002,1010] [.d .bool x1,.d (.list Qa) x2,.fn 64 [],.d I64 x3,.d I64 x4]
theorem Qfy (n : Nat) (a0 : (List Qb)) (a1 : Int) : Qbk n a0 a1 =
  bif decide ((a0.length : Int) ≤ a1) then
   Option.bind (Q7 a0) fun (y1 : Bool) =>
   bif y1 then
    Zb n true a0 (a0.length : Int) 0
   else
    some false
  else
   some false:=by kernel_rfl
theorem Yn (n : Nat) (x1 : Bool) (x2 : (List Qb)) (x3 : Int) (x4 : Int) : Zb (n + 1) x1 x2 x3 x4 =
  bif decide (x4 < x3) then
   bif inB x4 x2.length then
    bif !decide ((rd x2 x4 (Ty.dflt Qa)).1 = 4) then
     bif x1 then
      some (!decide ((0 : Int) ≤ x4))
     else
      some false
    else
     Zb n x1 x2 x3 (IntKind.wrap .i64 (x4 + 1))
   else none
  else
   bif x1 then
    some true
   else
    some false:=by kernel_rfl
theorem Uc {x2 : (List Qb)} (hl : x2.length ≤ maxLen) : ∀ (rest : List Qb) (k : Nat) (r : Bool),rest = x2.drop k → Qt rest k = some r → Ev (fun n=>Zb n true x2 (x2.length : Int) (k : Int)) r:=by
 intro rest
 induction rest with
 | nil =>
  intro k r hr h
  have hk:=Za hr
  rw [Qt] at h
  refine Ev.step ?_ (fun n=>Yn n true x2 (x2.length : Int) (k : Int))
  rw [show decide ((k : Int) < (x2.length : Int)) = false from decide_eq_false (by omega)]
  exact Ev.neg rfl (Ev.pos rfl (Ev.ofSome h))
 | cons e rest ih =>
  intro k r hr h
  obtain ⟨hk,hx,hr2⟩:=QK (d:=(Ty.dflt Qa)) hr
  have hw:=QR hl hk
  have ih2 : ∀ (r : Bool),Qt rest (k + 1) = some r → Ev (fun n=>Zb n true x2 (x2.length : Int) (IntKind.wrap .i64 ((k : Int) + 1))) r:=by
   intro r h; rw [hw]; exact ih (k + 1) r hr2 h
  rw [Qt] at h
  refine Ev.step ?_ (fun n=>Yn n true x2 (x2.length : Int) (k : Int))
  rw [show decide ((k : Int) < (x2.length : Int)) = true from decide_eq_true (by omega),QD hk,hx]
  exact Ev.pos rfl (Ev.pos rfl (Ev.ofBif h (fun h=>(Ev.pos rfl (Ev.ofSome h))) (fun h=>(ih2  _ h))))
theorem Qj7 (a0 : (List Qb)) (a1 : Int) {r : Bool} (h : ZQ a0 a1 = some r) : Ev (fun n=>Qbk n a0 a1) r:=by
 rw [ZQ] at h
 refine Ev.of_eq ?_ (fun n=>Qfy n a0 a1)
 exact (Ev.ofBif h (fun h=>(Ev.ofBind h fun y1 h=>(Ev.ofBif h (fun h=>(Ev.ofLen h fun hl h=>Uc hl _ (0 : Nat) _ rfl h)) (fun h=>(Ev.ofSome h))))) (fun h=>(Ev.ofSome h)))
theorem QgX : ∀ x ∈ X3,Qh Tryz.prog x:=(Qd UW Qj)
theorem Qit : Qh Tryz.prog (Ua):=by
 refine Qi (c:=Ua) (by kernel_rfl) (by kernel_rfl : Tryz.prog.funcs[42]? = some Tryz.f42) (code:=Tryz.f42.body.getD .skip) (by kernel_rfl) (by kernel_rfl) (by kernel_rfl) (A:=Ub) (I:=X2) (QgX) ?_
 rintro ⟨a0,a1,u⟩ y hy
 exact (Qj7 a0 a1 hy).get
def Qu : List (List Int) → Nat → Option Bool
 | [],k =>
   some true
 | e :: rest,k =>
   Option.bind (Jb (e)) fun (y1 : Bool) =>
   bif !(y1) then
    some (!decide ((0 : Int) ≤ (k : Int)))
   else
    Qu rest (k + 1)
def ZR (a0 : (List (List Int))) : Option Bool :=
 Ym a0 (Qu a0 0)
def Gf : Ctr:=⟨65,[(.list .str)],[.bool],fun x=>ZR x.1⟩
def Ud : List (List Nat × Ann):=[([0,2,1002,1001],[.keep 2 0,.keep 2 1,.keep 2 7,.keep 2 8])]
def X4 : List (List Nat × Nat):=[([1001],90),([1002,1001],102),([4005,1002,1001],91)]
def X5 : List Ctr:=[GP]
def Qbl (n : Nat) (a0 : (List (List Int))) : Option Bool:=run Tryz.prog Ud X4 (Qk X5) Tryz.f65 (Tryz.f65.body.getD .skip) (Ql [.bool]) n (Qp [(.list .str)] (a0,()))
abbrev Zc (n : Nat) (x1 : (List (List Int))) (x2 : Int) (x3 : Int) : Option Bool:=lam Tryz.prog Ud X4 (Qk X5) Tryz.f65 (Tryz.f65.body.getD .skip) (Ql [.bool]) n [0,2,1002,1001] [.d (.list .str) x1,.fn 91 [],.d I64 x2,.d I64 x3]
theorem Qfz (n : Nat) (a0 : (List (List Int))) : Qbl n a0 =
  Zc n a0 (a0.length : Int) 0:=by kernel_rfl
theorem Yo (n : Nat) (x1 : (List (List Int))) (x2 : Int) (x3 : Int) : Zc (n + 1) x1 x2 x3 =
  bif decide (x3 < x2) then
   bif inB x3 x1.length then
    Option.bind (Jb (rd x1 x3 (Ty.dflt .str))) fun (y1 : Bool) =>
    bif !(y1) then
     some (!decide ((0 : Int) ≤ x3))
    else
     Zc n x1 x2 (IntKind.wrap .i64 (x3 + 1))
   else none
  else
   some true:=by kernel_rfl
theorem Ue {x1 : (List (List Int))} (hl : x1.length ≤ maxLen) : ∀ (rest : List (List Int)) (k : Nat) (r : Bool),rest = x1.drop k → Qu rest k = some r → Ev (fun n=>Zc n x1 (x1.length : Int) (k : Int)) r:=by
 intro rest
 induction rest with
 | nil =>
  intro k r hr h
  have hk:=Za hr
  rw [Qu] at h
  refine Ev.step ?_ (fun n=>Yo n x1 (x1.length : Int) (k : Int))
  rw [show decide ((k : Int) < (x1.length : Int)) = false from decide_eq_false (by omega)]
  exact Ev.neg rfl (Ev.ofSome h)
 | cons e rest ih =>
  intro k r hr h
  obtain ⟨hk,hx,hr2⟩:=QK (d:=(Ty.dflt .str)) hr
  have hw:=QR hl hk
  have ih2 : ∀ (r : Bool),Qu rest (k + 1) = some r → Ev (fun n=>Zc n x1 (x1.length : Int) (IntKind.wrap .i64 ((k : Int) + 1))) r:=by
   intro r h; rw [hw]; exact ih (k + 1) r hr2 h
  rw [Qu] at h
  refine Ev.step ?_ (fun n=>Yo n x1 (x1.length : Int) (k : Int))
  rw [show decide ((k : Int) < (x1.length : Int)) = true from decide_eq_true (by omega),QD hk,hx]
  exact Ev.pos rfl (Ev.pos rfl (Ev.ofBind h fun y1 h=>(Ev.ofBif h (fun h=>(Ev.ofSome h)) (fun h=>(ih2  _ h)))))
theorem Qj8 (a0 : (List (List Int))) {r : Bool} (h : ZR a0 = some r) : Ev (fun n=>Qbl n a0) r:=by
 rw [ZR] at h
 refine Ev.of_eq ?_ (fun n=>Qfz n a0)
 exact (Ev.ofLen h fun hl h=>Ue hl _ (0 : Nat) _ rfl h)
theorem QgY : ∀ x ∈ X5,Qh Tryz.prog x:=(Qd Qbf Qj)
theorem E9 : Qh Tryz.prog (Gf):=by
 refine Qi (c:=Gf) (by kernel_rfl) (by kernel_rfl : Tryz.prog.funcs[65]? = some Tryz.f65) (code:=Tryz.f65.body.getD .skip) (by kernel_rfl) (by kernel_rfl) (by kernel_rfl) (A:=Ud) (I:=X4) (QgY) ?_
 rintro ⟨a0,u⟩ y hy
 exact (Qj8 a0 hy).get
def Zn (x1 : (List (List Int))) : List (List Int) → Nat → Option Bool
 | [],k =>
   some true
 | e :: rest,k =>
   bif decide ((0 : Int) < (k : Int)) then
    bif inB (IntKind.wrap .i64 ((k : Int) - 1)) x1.length then
     bif !ZG (rd x1 (IntKind.wrap .i64 ((k : Int) - 1)) (Ty.dflt .str)) (e) then
      some false
     else
      Zn x1 rest (k + 1)
    else none
   else
    Zn x1 rest (k + 1)
def Ju (a0 : (List (List Int))) : Option Bool :=
 Ym a0 (Zn a0 a0 0)
def X6 : Ctr:=⟨66,[(.list .str)],[.bool],fun x=>Ju x.1⟩
def Et : List (List Nat × Ann):=[([0,2],[.keep 0 0,.keep 0 5,.keep 0 6,.keep 0 7])]
def U9 : List (List Nat × Nat):=[]
def Wa : List Ctr:=[]
def Qez (n : Nat) (a0 : (List (List Int))) : Option Bool:=run Tryz.prog Et U9 (Qk Wa) Tryz.f66 (Tryz.f66.body.getD .skip) (Ql [.bool]) n (Qp [(.list .str)] (a0,()))
abbrev JE (n : Nat) (x1 : (List (List Int))) (x2 : (List (List Int))) (x3 : Int) (x4 : Int) : Option Bool:=lam Tryz.prog Et U9 (Qk Wa) Tryz.f66 (Tryz.f66.body.getD .skip) (Ql [.bool]) n [0,2] [.d (.list .str) x1,.d (.list .str) x2,.d I64 x3,.d I64 x4]
theorem Qiu (n : Nat) (a0 : (List (List Int))) : Qez n a0 =
  JE n a0 a0 (a0.length : Int) 0:=by kernel_rfl
theorem HD (n : Nat) (x1 : (List (List Int))) (x2 : (List (List Int))) (x3 : Int) (x4 : Int) : JE (n + 1) x1 x2 x3 x4 =
  bif decide (x4 < x3) then
   bif inB x4 x2.length then
    bif decide ((0 : Int) < x4) then
     bif inB (IntKind.wrap .i64 (x4 - 1)) x1.length then
      bif !ZG (rd x1 (IntKind.wrap .i64 (x4 - 1)) (Ty.dflt .str)) (rd x2 x4 (Ty.dflt .str)) then
       some false
      else
       JE n x1 x2 x3 (IntKind.wrap .i64 (x4 + 1))
     else none
    else
     JE n x1 x2 x3 (IntKind.wrap .i64 (x4 + 1))
   else none
  else
   some true:=by kernel_rfl
theorem QgZ {x1 : (List (List Int))} (hl : x1.length ≤ maxLen) : ∀ (rest : List (List Int)) (k : Nat) (r : Bool),rest = x1.drop k → Zn x1 rest k = some r → Ev (fun n=>JE n x1 x1 (x1.length : Int) (k : Int)) r:=by
 intro rest
 induction rest with
 | nil =>
  intro k r hr h
  have hk:=Za hr
  rw [Zn] at h
  refine Ev.step ?_ (fun n=>HD n x1 x1 (x1.length : Int) (k : Int))
  rw [show decide ((k : Int) < (x1.length : Int)) = false from decide_eq_false (by omega)]
  exact Ev.neg rfl (Ev.ofSome h)
 | cons e rest ih =>
  intro k r hr h
  obtain ⟨hk,hx,hr2⟩:=QK (d:=(Ty.dflt .str)) hr
  have hw:=QR hl hk
  have ih2 : ∀ (r : Bool),Zn x1 rest (k + 1) = some r → Ev (fun n=>JE n x1 x1 (x1.length : Int) (IntKind.wrap .i64 ((k : Int) + 1))) r:=by
   intro r h; rw [hw]; exact ih (k + 1) r hr2 h
  rw [Zn] at h
  refine Ev.step ?_ (fun n=>HD n x1 x1 (x1.length : Int) (k : Int))
  rw [show decide ((k : Int) < (x1.length : Int)) = true from decide_eq_true (by omega),QD hk,hx]
  exact Ev.pos rfl (Ev.pos rfl (Ev.ofBif h (fun h=>(Ev.ofBif h (fun h=>(Ev.ofBif h (fun h=>(Ev.ofSome h)) (fun h=>(ih2  _ h)))) (fun h=>(Ev.ofNone h)))) (fun h=>(ih2  _ h))))
theorem Qnf (a0 : (List (List Int))) {r : Bool} (h : Ju a0 = some r) : Ev (fun n=>Qez n a0) r:=by
 rw [Ju] at h
 refine Ev.of_eq ?_ (fun n=>Qiu n a0)
 exact (Ev.ofLen h fun hl h=>QgZ hl _ (0 : Nat) _ rfl h)
theorem Qj9 : ∀ x ∈ Wa,Qh Tryz.prog x:=Qj
theorem QcY : Qh Tryz.prog (X6):=by
 refine Qi (c:=X6) (by kernel_rfl) (by kernel_rfl : Tryz.prog.funcs[66]? = some Tryz.f66) (code:=Tryz.f66.body.getD .skip) (by kernel_rfl) (by kernel_rfl) (by kernel_rfl) (A:=Et) (I:=U9) (Qj9) ?_
 rintro ⟨a0,u⟩ y hy
 exact (Qnf a0 hy).get
def Jl (a0 : Qb) : Bool :=
 @decide (a0 = (0,0,([] : List Int),([] : List Int))) (Ty.decEq Qa a0 (0,0,([] : List Int),([] : List Int)))
def Uf : Ctr:=⟨93,[Qa],[.bool],fun x=>some (Jl x.1)⟩
def Qbm : List (List Nat × Ann):=[]
def Qaa : List (List Nat × Nat):=[]
def Qab : List Ctr:=[]
def Qbn (n : Nat) (a0 : Qb) : Option Bool:=run Tryz.prog Qbm Qaa (Qk Qab) Tryz.f93 (Tryz.f93.body.getD .skip) (Ql [.bool]) n (Qp [Qa] (a0,()))
theorem QfA (n : Nat) (a0 : Qb) : Qbn n a0 =
  some (@decide (a0 = (0,0,([] : List Int),([] : List Int))) (Ty.decEq Qa a0 (0,0,([] : List Int),([] : List Int)))):=by kernel_rfl
theorem Qka (n : Nat) (a0 : Qb) : Qbn n a0 = some (Jl a0):=(QfA n a0).trans rfl
theorem Qg0 : ∀ x ∈ Qab,Qh Tryz.prog x:=Qj
theorem Qiv : Qh Tryz.prog (Uf):=by
 refine Qi (c:=Uf) (by kernel_rfl) (by kernel_rfl : Tryz.prog.funcs[93]? = some Tryz.f93) (code:=Tryz.f93.body.getD .skip) (by kernel_rfl) (by kernel_rfl) (by kernel_rfl) (A:=Qbm) (I:=Qaa) (Qg0) ?_
 rintro ⟨a0,u⟩ y hy
 exact ⟨0,(Qka 0 a0).trans hy⟩
def Qv : List Qb → Nat → Option Bool
 | [],k =>
   some true
 | e :: rest,k =>
   Option.bind (QV (e)) fun (y5 : Bool) =>
   bif !(y5) then
    some (!decide ((0 : Int) ≤ (k : Int)))
   else
    Qv rest (k + 1)
def JF (a0 : Qn) : Option Bool :=
 bif decide (a0.1 = 1) then
  Option.bind (QV a0.2.1) fun (y1 : Bool) =>
  bif y1 then
   bif decide ((a0.2.2.1.length : Int) = 0) then
    some (decide ((a0.2.2.2.length : Int) = 0))
   else
    some false
  else
   some false
 else
  bif decide (a0.1 = 2) then
   bif Jl a0.2.1 then
    bif decide ((a0.2.2.1.length : Int) ≤ 50) then
     bif decide ((a0.2.2.2.length : Int) = 0) then
      Option.bind (Q7 a0.2.2.1) fun (y2 : Bool) =>
      some y2
     else
      some false
    else
     some false
   else
    some false
  else
   bif decide (a0.1 = 3) then
    bif Jl a0.2.1 then
     bif decide ((a0.2.2.2.length : Int) ≤ 50) then
      bif decide ((a0.2.2.1.length : Int) = (a0.2.2.2.length : Int)) then
       Option.bind (ZR a0.2.2.2) fun (y3 : Bool) =>
       bif y3 then
        Option.bind (Ju a0.2.2.2) fun (y4 : Bool) =>
        bif y4 then
         Ym a0.2.2.1 (Qv a0.2.2.1 0)
        else
         some false
       else
        some false
      else
       some false
     else
      some false
    else
     some false
   else
    some false
def Ug : Ctr:=⟨69,[Qg],[.bool],fun x=>JF x.1⟩
def Uh : List (List Nat × Ann):=[([0,2,1002,7031],[.keep 0 74,.keep 2 0,.keep 2 1,.keep 2 7,.keep 2 8])]
def X7 : List (List Nat × Nat):=[([7031],63),([1002,7031],89),([4005,1002,7031],94)]
def X8 : List Ctr:=[Vw,Uf,YT,Gf,X6]
def Qbo (n : Nat) (a0 : Qn) : Option Bool:=run Tryz.prog Uh X7 (Qk X8) Tryz.f69 (Tryz.f69.body.getD .skip) (Ql [.bool]) n (Qp [Qg] (a0,()))
abbrev Zd (n : Nat) (x1 : Bool) (x2 : (List Qb)) (x3 : Int) (x4 : Int) : Option Bool:=lam Tryz.prog Uh X7 (Qk X8) Tryz.f69 (Tryz.f69.body.getD .skip) (Ql [.bool]) n [0,2,1002,7031] [.d .bool x1,.d (.list Qa) x2,.fn 94 [],.d I64 x3,.d I64 x4]
theorem QfB (n : Nat) (a0 : Qn) : Qbo n a0 =
  bif decide (a0.1 = 1) then
   Option.bind (QV a0.2.1) fun (y1 : Bool) =>
   bif y1 then
    bif decide ((a0.2.2.1.length : Int) = 0) then
     some (decide ((a0.2.2.2.length : Int) = 0))
    else
     some false
   else
    some false
  else
   bif decide (a0.1 = 2) then
    bif Jl a0.2.1 then
     bif decide ((a0.2.2.1.length : Int) ≤ 50) then
      bif decide ((a0.2.2.2.length : Int) = 0) then
       Option.bind (Q7 a0.2.2.1) fun (y2 : Bool) =>
       some y2
      else
       some false
     else
      some false
    else
     some false
   else
    bif decide (a0.1 = 3) then
     bif Jl a0.2.1 then
      bif decide ((a0.2.2.2.length : Int) ≤ 50) then
       bif decide ((a0.2.2.1.length : Int) = (a0.2.2.2.length : Int)) then
        Option.bind (ZR a0.2.2.2) fun (y3 : Bool) =>
        bif y3 then
         Option.bind (Ju a0.2.2.2) fun (y4 : Bool) =>
         bif y4 then
          Zd n true a0.2.2.1 (a0.2.2.1.length : Int) 0
         else
          some false
        else
         some false
       else
        some false
      else
       some false
     else
      some false
    else
     some false:=by kernel_rfl
theorem Yp (n : Nat) (x1 : Bool) (x2 : (List Qb)) (x3 : Int) (x4 : Int) : Zd (n + 1) x1 x2 x3 x4 =
  bif decide (x4 < x3) then
   bif inB x4 x2.length then
    Option.bind (QV (rd x2 x4 (Ty.dflt Qa))) fun (y5 : Bool) =>
    bif !(y5) then
     bif x1 then
      some (!decide ((0 : Int) ≤ x4))
     else
      some false
    else
     Zd n x1 x2 x3 (IntKind.wrap .i64 (x4 + 1))
   else none
  else
   bif x1 then
    some true
   else
    some false:=by kernel_rfl
theorem Ui {x2 : (List Qb)} (hl : x2.length ≤ maxLen) : ∀ (rest : List Qb) (k : Nat) (r : Bool),rest = x2.drop k → Qv rest k = some r → Ev (fun n=>Zd n true x2 (x2.length : Int) (k : Int)) r:=by
 intro rest
 induction rest with
 | nil =>
  intro k r hr h
  have hk:=Za hr
  rw [Qv] at h
  refine Ev.step ?_ (fun n=>Yp n true x2 (x2.length : Int) (k : Int))
  rw [show decide ((k : Int) < (x2.length : Int)) = false from decide_eq_false (by omega)]
  exact Ev.neg rfl (Ev.pos rfl (Ev.ofSome h))
 | cons e rest ih =>
  intro k r hr h
  obtain ⟨hk,hx,hr2⟩:=QK (d:=(Ty.dflt Qa)) hr
  have hw:=QR hl hk
  have ih2 : ∀ (r : Bool),Qv rest (k + 1) = some r → Ev (fun n=>Zd n true x2 (x2.length : Int) (IntKind.wrap .i64 ((k : Int) + 1))) r:=by
   intro r h; rw [hw]; exact ih (k + 1) r hr2 h
  rw [Qv] at h
  refine Ev.step ?_ (fun n=>Yp n true x2 (x2.length : Int) (k : Int))
  rw [show decide ((k : Int) < (x2.length : Int)) = true from decide_eq_true (by omega),QD hk,hx]
  exact Ev.pos rfl (Ev.pos rfl (Ev.ofBind h fun y5 h=>(Ev.ofBif h (fun h=>(Ev.pos rfl (Ev.ofSome h))) (fun h=>(ih2  _ h)))))
theorem Qkb (a0 : Qn) {r : Bool} (h : JF a0 = some r) : Ev (fun n=>Qbo n a0) r:=by
 rw [JF] at h
 refine Ev.of_eq ?_ (fun n=>QfB n a0)
 exact (Ev.ofBif h (fun h=>(Ev.ofBind h fun y1 h=>(Ev.ofBif h (fun h=>(Ev.ofBif h (fun h=>(Ev.ofSome h)) (fun h=>(Ev.ofSome h)))) (fun h=>(Ev.ofSome h))))) (fun h=>(Ev.ofBif h (fun h=>(Ev.ofBif h (fun h=>(Ev.ofBif h (fun h=>(Ev.ofBif h (fun h=>(Ev.ofBind h fun y2 h=>(Ev.ofSome h))) (fun h=>(Ev.ofSome h)))) (fun h=>(Ev.ofSome h)))) (fun h=>(Ev.ofSome h)))) (fun h=>(Ev.ofBif h (fun h=>(Ev.ofBif h (fun h=>(Ev.ofBif h (fun h=>(Ev.ofBif h (fun h=>(Ev.ofBind h fun y3 h=>(Ev.ofBif h (fun h=>(Ev.ofBind h fun y4 h=>(Ev.ofBif h (fun h=>(Ev.ofLen h fun hl h=>Ui hl _ (0 : Nat) _ rfl h)) (fun h=>(Ev.ofSome h))))) (fun h=>(Ev.ofSome h))))) (fun h=>(Ev.ofSome h)))) (fun h=>(Ev.ofSome h)))) (fun h=>(Ev.ofSome h)))) (fun h=>(Ev.ofSome h)))))))
theorem Qg1 : ∀ x ∈ X8,Qh Tryz.prog x:=(Qd H9 (Qd Qiv (Qd UW (Qd E9 (Qd QcY Qj)))))
theorem Qiw : Qh Tryz.prog (Ug):=by
 refine Qi (c:=Ug) (by kernel_rfl) (by kernel_rfl : Tryz.prog.funcs[69]? = some Tryz.f69) (code:=Tryz.f69.body.getD .skip) (by kernel_rfl) (by kernel_rfl) (by kernel_rfl) (A:=Uh) (I:=X7) (Qg1) ?_
 rintro ⟨a0,u⟩ y hy
 exact (Qkb a0 hy).get
def Qr : List Qn → Nat → Option Bool
 | [],k =>
   some true
 | e :: rest,k =>
   bif decide ((e).1 = 3) then
    some (!decide ((0 : Int) ≤ (k : Int)))
   else
    Option.bind (JF (e)) fun (y3 : Bool) =>
    bif !(y3) then
     some (!decide ((0 : Int) ≤ (k : Int)))
    else
     Qr rest (k + 1)
def Zo (a0 : (List (List Int))) (a1 : (List Qn)) : Option Bool :=
 bif decide ((a0.length : Int) ≤ 20) then
  bif decide ((a0.length : Int) = (a1.length : Int)) then
   Option.bind (ZR a0) fun (y1 : Bool) =>
   bif y1 then
    Option.bind (Ju a0) fun (y2 : Bool) =>
    bif y2 then
     Ym a1 (Qr a1 0)
    else
     some false
   else
    some false
  else
   some false
 else
  some false
def Xa : Ctr:=⟨43,[(.list .str),(.list Qg)],[.bool],fun x=>Zo x.1 x.2.1⟩
def Xb : List (List Nat × Ann):=[([0,2,1002,1020],[.keep 0 23,.keep 2 0,.keep 2 1,.keep 2 7,.keep 2 8])]
def Gr : List (List Nat × Nat):=[([1020],67),([1002,1020],92),([4005,1002,1020],68)]
def Gs : List Ctr:=[Gf,X6,Ug]
def Eu (n : Nat) (a0 : (List (List Int))) (a1 : (List Qn)) : Option Bool:=run Tryz.prog Xb Gr (Qk Gs) Tryz.f43 (Tryz.f43.body.getD .skip) (Ql [.bool]) n (Qp [(.list .str),(.list Qg)] (a0,a1,()))
abbrev QZ (n : Nat) (x1 : Bool) (x2 : (List Qn)) (x3 : Int) (x4 : Int) : Option Bool:=lam Tryz.prog Xb Gr (Qk Gs) Tryz.f43 (Tryz.f43.body.getD .skip) (Ql [.bool]) n [0,2,1002,1020] [.d .bool x1,.d (.list Qg) x2,.fn 68 [],.d I64 x3,.d I64 x4]
theorem Qdu (n : Nat) (a0 : (List (List Int))) (a1 : (List Qn)) : Eu n a0 a1 =
  bif decide ((a0.length : Int) ≤ 20) then
   bif decide ((a0.length : Int) = (a1.length : Int)) then
    Option.bind (ZR a0) fun (y1 : Bool) =>
    bif y1 then
     Option.bind (Ju a0) fun (y2 : Bool) =>
     bif y2 then
      QZ n true a1 (a1.length : Int) 0
     else
      some false
    else
     some false
   else
    some false
  else
   some false:=by kernel_rfl
theorem J6 (n : Nat) (x1 : Bool) (x2 : (List Qn)) (x3 : Int) (x4 : Int) : QZ (n + 1) x1 x2 x3 x4 =
  bif decide (x4 < x3) then
   bif inB x4 x2.length then
    bif decide ((rd x2 x4 (Ty.dflt Qg)).1 = 3) then
     bif x1 then
      some (!decide ((0 : Int) ≤ x4))
     else
      some false
    else
     Option.bind (JF (rd x2 x4 (Ty.dflt Qg))) fun (y3 : Bool) =>
     bif !(y3) then
      bif x1 then
       some (!decide ((0 : Int) ≤ x4))
      else
       some false
     else
      QZ n x1 x2 x3 (IntKind.wrap .i64 (x4 + 1))
   else none
  else
   bif x1 then
    some true
   else
    some false:=by kernel_rfl
theorem X9 {x2 : (List Qn)} (hl : x2.length ≤ maxLen) : ∀ (rest : List Qn) (k : Nat) (r : Bool),rest = x2.drop k → Qr rest k = some r → Ev (fun n=>QZ n true x2 (x2.length : Int) (k : Int)) r:=by
 intro rest
 induction rest with
 | nil =>
  intro k r hr h
  have hk:=Za hr
  rw [Qr] at h
  refine Ev.step ?_ (fun n=>J6 n true x2 (x2.length : Int) (k : Int))
  rw [show decide ((k : Int) < (x2.length : Int)) = false from decide_eq_false (by omega)]
  exact Ev.neg rfl (Ev.pos rfl (Ev.ofSome h))
 | cons e rest ih =>
  intro k r hr h
  obtain ⟨hk,hx,hr2⟩:=QK (d:=(Ty.dflt Qg)) hr
  have hw:=QR hl hk
  have ih2 : ∀ (r : Bool),Qr rest (k + 1) = some r → Ev (fun n=>QZ n true x2 (x2.length : Int) (IntKind.wrap .i64 ((k : Int) + 1))) r:=by
   intro r h; rw [hw]; exact ih (k + 1) r hr2 h
  rw [Qr] at h
  refine Ev.step ?_ (fun n=>J6 n true x2 (x2.length : Int) (k : Int))
  rw [show decide ((k : Int) < (x2.length : Int)) = true from decide_eq_true (by omega),QD hk,hx]
  exact Ev.pos rfl (Ev.pos rfl (Ev.ofBif h (fun h=>(Ev.pos rfl (Ev.ofSome h))) (fun h=>(Ev.ofBind h fun y3 h=>(Ev.ofBif h (fun h=>(Ev.pos rfl (Ev.ofSome h))) (fun h=>(ih2  _ h)))))))
theorem Qg2 (a0 : (List (List Int))) (a1 : (List Qn)) {r : Bool} (h : Zo a0 a1 = some r) : Ev (fun n=>Eu n a0 a1) r:=by
 rw [Zo] at h
 refine Ev.of_eq ?_ (fun n=>Qdu n a0 a1)
 exact (Ev.ofBif h (fun h=>(Ev.ofBif h (fun h=>(Ev.ofBind h fun y1 h=>(Ev.ofBif h (fun h=>(Ev.ofBind h fun y2 h=>(Ev.ofBif h (fun h=>(Ev.ofLen h fun hl h=>X9 hl _ (0 : Nat) _ rfl h)) (fun h=>(Ev.ofSome h))))) (fun h=>(Ev.ofSome h))))) (fun h=>(Ev.ofSome h)))) (fun h=>(Ev.ofSome h)))
theorem QeA : ∀ x ∈ Gs,Qh Tryz.prog x:=(Qd E9 (Qd QcY (Qd Qiw Qj)))
theorem QfC : Qh Tryz.prog (Xa):=by
 refine Qi (c:=Xa) (by kernel_rfl) (by kernel_rfl : Tryz.prog.funcs[43]? = some Tryz.f43) (code:=Tryz.f43.body.getD .skip) (by kernel_rfl) (by kernel_rfl) (by kernel_rfl) (A:=Xb) (I:=Gr) (QeA) ?_
 rintro ⟨a0,a1,u⟩ y hy
 exact (Qg2 a0 a1 hy).get
def QP (x1 : (List Qf)) : List Qf → Nat → Option Bool
 | [],k =>
   some true
 | e :: rest,k =>
   Option.bind (Jc ((e).1)) fun (y1 : Bool) =>
   bif !(y1) then
    some false
   else
    bif decide ((0 : Int) < (k : Int)) then
     bif inB (IntKind.wrap .i64 ((k : Int) - 1)) x1.length then
      Option.bind (Q8 ((rd x1 (IntKind.wrap .i64 ((k : Int) - 1)) (Ty.dflt Qc)).1) ((e).1)) fun (y2 : Int) =>
      bif decide ((0 : Int) ≤ y2) then
       some false
      else
       Option.bind (ZQ (((e).2).1) 50) fun (y3 : Bool) =>
       bif !(y3) then
        some false
       else
        Option.bind (Zo ((((e).2).2).1) ((((e).2).2).2)) fun (y4 : Bool) =>
        bif !(y4) then
         some false
        else
         QP x1 rest (k + 1)
     else none
    else
     Option.bind (ZQ (((e).2).1) 50) fun (y5 : Bool) =>
     bif !(y5) then
      some false
     else
      Option.bind (Zo ((((e).2).2).1) ((((e).2).2).2)) fun (y6 : Bool) =>
      bif !(y6) then
       some false
      else
       QP x1 rest (k + 1)
def Jv (a0 : (List Qf)) : Option Bool :=
 bif decide ((100 : Int) < (a0.length : Int)) then
  some false
 else
  Ym a0 (QP a0 a0 0)
def Ha : Ctr:=⟨20,[(.list Qc)],[.bool],fun x=>Jv x.1⟩
def Hb : List (List Nat × Ann):=[([0,4],[.keep 0 0,.keep 0 8,.keep 0 9,.keep 0 10])]
def Xc : List (List Nat × Nat):=[]
def Xd : List Ctr:=[GR,GO,Ua,Xa]
def Qac (n : Nat) (a0 : (List Qf)) : Option Bool:=run Tryz.prog Hb Xc (Qk Xd) Tryz.f20 (Tryz.f20.body.getD .skip) (Ql [.bool]) n (Qp [(.list Qc)] (a0,()))
abbrev Z2 (n : Nat) (x1 : (List Qf)) (x2 : (List Qf)) (x3 : Int) (x4 : Int) : Option Bool:=lam Tryz.prog Hb Xc (Qk Xd) Tryz.f20 (Tryz.f20.body.getD .skip) (Ql [.bool]) n [0,4] [.d (.list Qc) x1,.d (.list Qc) x2,.d I64 x3,.d I64 x4]
theorem QeB (n : Nat) (a0 : (List Qf)) : Qac n a0 =
  bif decide ((100 : Int) < (a0.length : Int)) then
   some false
  else
   Z2 n a0 a0 (a0.length : Int) 0:=by kernel_rfl
theorem GE (n : Nat) (x1 : (List Qf)) (x2 : (List Qf)) (x3 : Int) (x4 : Int) : Z2 (n + 1) x1 x2 x3 x4 =
  bif decide (x4 < x3) then
   bif inB x4 x2.length then
    Option.bind (Jc ((rd x2 x4 (Ty.dflt Qc)).1)) fun (y1 : Bool) =>
    bif !(y1) then
     some false
    else
     bif decide ((0 : Int) < x4) then
      bif inB (IntKind.wrap .i64 (x4 - 1)) x1.length then
       Option.bind (Q8 ((rd x1 (IntKind.wrap .i64 (x4 - 1)) (Ty.dflt Qc)).1) ((rd x2 x4 (Ty.dflt Qc)).1)) fun (y2 : Int) =>
       bif decide ((0 : Int) ≤ y2) then
        some false
       else
        Option.bind (ZQ (((rd x2 x4 (Ty.dflt Qc)).2).1) 50) fun (y3 : Bool) =>
        bif !(y3) then
         some false
        else
         Option.bind (Zo ((((rd x2 x4 (Ty.dflt Qc)).2).2).1) ((((rd x2 x4 (Ty.dflt Qc)).2).2).2)) fun (y4 : Bool) =>
         bif !(y4) then
          some false
         else
          Z2 n x1 x2 x3 (IntKind.wrap .i64 (x4 + 1))
      else none
     else
      Option.bind (ZQ (((rd x2 x4 (Ty.dflt Qc)).2).1) 50) fun (y5 : Bool) =>
      bif !(y5) then
       some false
      else
       Option.bind (Zo ((((rd x2 x4 (Ty.dflt Qc)).2).2).1) ((((rd x2 x4 (Ty.dflt Qc)).2).2).2)) fun (y6 : Bool) =>
       bif !(y6) then
        some false
       else
        Z2 n x1 x2 x3 (IntKind.wrap .i64 (x4 + 1))
   else none
  else
   some true:=by kernel_rfl
theorem Qdv {x1 : (List Qf)} (hl : x1.length ≤ maxLen) : ∀ (rest : List Qf) (k : Nat) (r : Bool),rest = x1.drop k → QP x1 rest k = some r → Ev (fun n=>Z2 n x1 x1 (x1.length : Int) (k : Int)) r:=by
 intro rest
 induction rest with
 | nil =>
  intro k r hr h
  have hk:=Za hr
  rw [QP] at h
  refine Ev.step ?_ (fun n=>GE n x1 x1 (x1.length : Int) (k : Int))
  rw [show decide ((k : Int) < (x1.length : Int)) = false from decide_eq_false (by omega)]
  exact Ev.neg rfl (Ev.ofSome h)
 | cons e rest ih =>
  intro k r hr h
  obtain ⟨hk,hx,hr2⟩:=QK (d:=(Ty.dflt Qc)) hr
  have hw:=QR hl hk
  have ih2 : ∀ (r : Bool),QP x1 rest (k + 1) = some r → Ev (fun n=>Z2 n x1 x1 (x1.length : Int) (IntKind.wrap .i64 ((k : Int) + 1))) r:=by
   intro r h; rw [hw]; exact ih (k + 1) r hr2 h
  rw [QP] at h
  refine Ev.step ?_ (fun n=>GE n x1 x1 (x1.length : Int) (k : Int))
  rw [show decide ((k : Int) < (x1.length : Int)) = true from decide_eq_true (by omega),QD hk,hx]
  exact Ev.pos rfl (Ev.pos rfl (Ev.ofBind h fun y1 h=>(Ev.ofBif h (fun h=>(Ev.ofSome h)) (fun h=>(Ev.ofBif h (fun h=>(Ev.ofBif h (fun h=>(Ev.ofBind h fun y2 h=>(Ev.ofBif h (fun h=>(Ev.ofSome h)) (fun h=>(Ev.ofBind h fun y3 h=>(Ev.ofBif h (fun h=>(Ev.ofSome h)) (fun h=>(Ev.ofBind h fun y4 h=>(Ev.ofBif h (fun h=>(Ev.ofSome h)) (fun h=>(ih2  _ h))))))))))) (fun h=>(Ev.ofNone h)))) (fun h=>(Ev.ofBind h fun y5 h=>(Ev.ofBif h (fun h=>(Ev.ofSome h)) (fun h=>(Ev.ofBind h fun y6 h=>(Ev.ofBif h (fun h=>(Ev.ofSome h)) (fun h=>(ih2  _ h)))))))))))))
theorem Qix (a0 : (List Qf)) {r : Bool} (h : Jv a0 = some r) : Ev (fun n=>Qac n a0) r:=by
 rw [Jv] at h
 refine Ev.of_eq ?_ (fun n=>QeB n a0)
 exact (Ev.ofBif h (fun h=>(Ev.ofSome h)) (fun h=>(Ev.ofLen h fun hl h=>Qdv hl _ (0 : Nat) _ rfl h)))
theorem QfD : ∀ x ∈ Xd,Qh Tryz.prog x:=(Qd Qbi (Qd H3 (Qd Qit (Qd QfC Qj))))
theorem Qg3 : Qh Tryz.prog (Ha):=by
 refine Qi (c:=Ha) (by kernel_rfl) (by kernel_rfl : Tryz.prog.funcs[20]? = some Tryz.f20) (code:=Tryz.f20.body.getD .skip) (by kernel_rfl) (by kernel_rfl) (by kernel_rfl) (A:=Hb) (I:=Xc) (QfD) ?_
 rintro ⟨a0,u⟩ y hy
 exact (Qix a0 hy).get
def QB (x6 : Qb) : List Qf → Nat → Option (Qf × Bool)
 | [],k =>
   some (((0,0,([] : List Int),([] : List Int)),[],[],[]),false)
 | e :: rest,k =>
   bif @decide (((e).1) = x6) (Ty.decEq Qa ((e).1) x6) then
    bif decide ((k : Int) < 0) then
     some (((0,0,([] : List Int),([] : List Int)),[],[],[]),false)
    else
     some ((((e).1),((e).2)),true)
   else
    QB x6 rest (k + 1)
def Jw (a0 : (List Qf)) (a1 : Qb) : Option (Qf × Bool) :=
 Ym a0 (QB a1 a0 0)
def Hc : Ctr:=⟨45,[(.list Qc),Qa],[Qc,.bool],fun x=>Jw x.1 x.2.1⟩
def Hd : List (List Nat × Ann):=[([0,2,1002],[.keep 0 0,.keep 0 4,.keep 1 0,.keep 1 1,.keep 1 7,.keep 1 8,.boxd 0 4 Qc,.boxd 0 3 Qa])]
def Xe : List (List Nat × Nat):=[([1002],72),([4005,1002],73)]
def Xf : List Ctr:=[]
def Qad (n : Nat) (a0 : (List Qf)) (a1 : Qb) : Option (Qf × Bool):=run Tryz.prog Hd Xe (Qk Xf) Tryz.f45 (Tryz.f45.body.getD .skip) (Ql [Qc,.bool]) n (Qp [(.list Qc),Qa] (a0,a1,()))
abbrev ZK (n : Nat) (x1 : (List Qf)) (x2 : (List Qf)) (x3 : Int) (x4 : Int) (x5 : Qf) (x6 : Qb) : Option (Qf × Bool):=lam Tryz.prog Hd Xe (Qk Xf) Tryz.f45 (Tryz.f45.body.getD .skip) (Ql [Qc,.bool]) n [0,2,1002] [.d (.list Qc) x1,.ptr 0 4 0,.d (.list Qc) x2,.fn 73 [.ptr 0 3 0],.d I64 x3,.d I64 x4,.agg (Qm Qc x5),.agg (Qm Qa x6)]
theorem QeC (n : Nat) (a0 : (List Qf)) (a1 : Qb) : Qad n a0 a1 =
  ZK n a0 a0 (a0.length : Int) 0 ((0,0,([] : List Int),([] : List Int)),[],[],[]) a1:=by kernel_rfl
theorem Vc (n : Nat) (x1 : (List Qf)) (x2 : (List Qf)) (x3 : Int) (x4 : Int) (x5 : Qf) (x6 : Qb) : ZK (n + 1) x1 x2 x3 x4 x5 x6 =
  bif decide (x4 < x3) then
   bif inB x4 x2.length then
    bif @decide (((rd x2 x4 (Ty.dflt Qc)).1) = x6) (Ty.decEq Qa ((rd x2 x4 (Ty.dflt Qc)).1) x6) then
     bif decide (x4 < 0) then
      some (((0,0,([] : List Int),([] : List Int)),[],[],[]),false)
     else
      bif inB x4 x1.length then
       some ((((rd x1 x4 (Ty.dflt Qc)).1),((rd x1 x4 (Ty.dflt Qc)).2)),true)
      else none
    else
     ZK n x1 x2 x3 (IntKind.wrap .i64 (x4 + 1)) x5 x6
   else none
  else
   some (((0,0,([] : List Int),([] : List Int)),[],[],[]),false):=by kernel_rfl
theorem Ew {x1 : (List Qf)} {x5 : Qf} {x6 : Qb} (hl : x1.length ≤ maxLen) : ∀ (rest : List Qf) (k : Nat) (r : (Qf × Bool)),rest = x1.drop k → QB x6 rest k = some r → Ev (fun n=>ZK n x1 x1 (x1.length : Int) (k : Int) x5 x6) r:=by
 intro rest
 induction rest with
 | nil =>
  intro k r hr h
  have hk:=Za hr
  rw [QB] at h
  refine Ev.step ?_ (fun n=>Vc n x1 x1 (x1.length : Int) (k : Int) x5 x6)
  rw [show decide ((k : Int) < (x1.length : Int)) = false from decide_eq_false (by omega)]
  exact Ev.neg rfl (Ev.ofSome h)
 | cons e rest ih =>
  intro k r hr h
  obtain ⟨hk,hx,hr2⟩:=QK (d:=(Ty.dflt Qc)) hr
  have hw:=QR hl hk
  have ih2 : ∀ (r : (Qf × Bool)),QB x6 rest (k + 1) = some r → Ev (fun n=>ZK n x1 x1 (x1.length : Int) (IntKind.wrap .i64 ((k : Int) + 1)) x5 x6) r:=by
   intro r h; rw [hw]; exact ih (k + 1) r hr2 h
  rw [QB] at h
  refine Ev.step ?_ (fun n=>Vc n x1 x1 (x1.length : Int) (k : Int) x5 x6)
  rw [show decide ((k : Int) < (x1.length : Int)) = true from decide_eq_true (by omega),QD hk,hx]
  exact Ev.pos rfl (Ev.pos rfl (Ev.ofBif h (fun h=>(Ev.ofBif h (fun h=>(Ev.ofSome h)) (fun h=>(Ev.pos rfl (Ev.ofSome h))))) (fun h=>(ih2  _ h))))
theorem Qiy (a0 : (List Qf)) (a1 : Qb) {r : (Qf × Bool)} (h : Jw a0 a1 = some r) : Ev (fun n=>Qad n a0 a1) r:=by
 rw [Jw] at h
 refine Ev.of_eq ?_ (fun n=>QeC n a0 a1)
 exact (Ev.ofLen h fun hl h=>Ew hl _ (0 : Nat) _ rfl h)
theorem QfE : ∀ x ∈ Xf,Qh Tryz.prog x:=Qj
theorem Qg4 : Qh Tryz.prog (Hc):=by
 refine Qi (c:=Hc) (by kernel_rfl) (by kernel_rfl : Tryz.prog.funcs[45]? = some Tryz.f45) (code:=Tryz.f45.body.getD .skip) (by kernel_rfl) (by kernel_rfl) (by kernel_rfl) (A:=Hd) (I:=Xe) (QfE) ?_
 rintro ⟨a0,a1,u⟩ y hy
 exact (Qiy a0 a1 hy).get
def QG (K0 : (List Qb) → (List (Qb × Bool)) → Option (List (Qb × Bool))) : List Qb → (List Qb) → (List (Qb × Bool)) → Option (List (Qb × Bool))
 | [],x2,x6 =>
   bif true && decide ((1 : Int) ≤ (x2.length : Int)) then
    K0 (cut x2 1 (x2.length : Int)) x6
   else none
 | e :: rest,x2,x6 =>
   bif !(QbK Qa x6 (e) false) then
    bif decide (((x2.length : Int) + (([(e)] : List Qb).length : Int)) * 48 ≤ JA) && decide ((x2.length : Int) + (([(e)] : List Qb).length : Int) ≤ JA) then
     QG K0 rest (x2 ++ ([(e)] : List Qb)) (EQ Qa x6 (e) true)
    else none
   else
    QG K0 rest x2 x6
def QQ (x1 : (List Qf)) : Nat → (List Qb) → (List (Qb × Bool)) → Option (List (Qb × Bool))
 | 0,_,_=>none
 | m + 1,x2,x3 =>
   bif decide ((0 : Int) < (x2.length : Int)) then
    bif inB 0 x2.length then
     Option.bind (Jw x1 (rd x2 0 (Ty.dflt Qa))) fun (y1 : (Qf × Bool)) =>
     Ym y1.1.2.1 (QG (fun s0 s1=>QQ x1 m s0 s1) y1.1.2.1 x2 x3)
    else none
   else
    some x3
def He (m : Nat) (a0 : (List Qf)) (a1 : Qb) : Option (List (Qb × Bool)) :=
 QQ a0 m ([a1] : List Qb) (EQ Qa ([] : List (Qb × Bool)) a1 true)
def VF (a0 : (List Qf)) (a1 : Qb) : Option (List (Qb × Bool)):=QhU fun m=>He m a0 a1
def Hf : Ctr:=⟨22,[(.list Qc),Qa],[(.map Qa .bool)],fun x=>VF x.1 x.2.1⟩
def VG : List (List Nat × Ann):=[([0,3],[.keep 0 0,.keep 0 5,.own 0 6 Qa,.mapb 0 11 Qa .bool]),([0,7],[.keep 0 0,.keep 0 5,.own 0 6 Qa,.keep 0 30,.keep 0 31,.keep 0 32,.mapb 0 11 Qa .bool])]
def Vn : List (List Nat × Nat):=[]
def Vo : List Ctr:=[Hc]
def Qae (n : Nat) (a0 : (List Qf)) (a1 : Qb) : Option (List (Qb × Bool)):=run Tryz.prog VG Vn (Qk Vo) Tryz.f22 (Tryz.f22.body.getD .skip) (Ql [(.map Qa .bool)]) n (Qp [(.list Qc),Qa] (a0,a1,()))
abbrev JB (n : Nat) (x1 : (List Qf)) (x2 : (List Qb)) (x3 : (List (Qb × Bool))) : Option (List (Qb × Bool)):=lam Tryz.prog VG Vn (Qk Vo) Tryz.f22 (Tryz.f22.body.getD .skip) (Ql [(.map Qa .bool)]) n [0,3] [.d (.list Qc) x1,.mp 0 11,.own 0 Qa x2,.d (.map Qa .bool) x3]
abbrev Z3 (n : Nat) (x1 : (List Qf)) (x2 : (List Qb)) (x3 : (List Qb)) (x4 : Int) (x5 : Int) (x6 : (List (Qb × Bool))) : Option (List (Qb × Bool)):=lam Tryz.prog VG Vn (Qk Vo) Tryz.f22 (Tryz.f22.body.getD .skip) (Ql [(.map Qa .bool)]) n [0,7] [.d (.list Qc) x1,.mp 0 11,.own 0 Qa x2,.d (.list Qa) x3,.d I64 x4,.d I64 x5,.d (.map Qa .bool) x6]
theorem QeD (n : Nat) (a0 : (List Qf)) (a1 : Qb) : Qae n a0 a1 =
  JB n a0 ([a1] : List Qb) (EQ Qa ([] : List (Qb × Bool)) a1 true):=by kernel_rfl
theorem Qaz (n : Nat) (x1 : (List Qf)) (x2 : (List Qb)) (x3 : (List (Qb × Bool))) : JB (n + 1) x1 x2 x3 =
  bif decide ((0 : Int) < (x2.length : Int)) then
   bif inB 0 x2.length then
    Option.bind (Jw x1 (rd x2 0 (Ty.dflt Qa))) fun (y1 : (Qf × Bool)) =>
    Z3 n x1 x2 y1.1.2.1 (y1.1.2.1.length : Int) 0 x3
   else none
  else
   some x3:=by kernel_rfl
theorem GF (n : Nat) (x1 : (List Qf)) (x2 : (List Qb)) (x3 : (List Qb)) (x4 : Int) (x5 : Int) (x6 : (List (Qb × Bool))) : Z3 (n + 1) x1 x2 x3 x4 x5 x6 =
  bif decide (x5 < x4) then
   bif inB x5 x3.length then
    bif !(QbK Qa x6 (rd x3 x5 (Ty.dflt Qa)) false) then
     bif decide (((x2.length : Int) + (([(rd x3 x5 (Ty.dflt Qa))] : List Qb).length : Int)) * 48 ≤ JA) && decide ((x2.length : Int) + (([(rd x3 x5 (Ty.dflt Qa))] : List Qb).length : Int) ≤ JA) then
      Z3 n x1 (x2 ++ ([(rd x3 x5 (Ty.dflt Qa))] : List Qb)) x3 x4 (IntKind.wrap .i64 (x5 + 1)) (EQ Qa x6 (rd x3 x5 (Ty.dflt Qa)) true)
     else none
    else
     Z3 n x1 x2 x3 x4 (IntKind.wrap .i64 (x5 + 1)) x6
   else none
  else
   bif true && decide ((1 : Int) ≤ (x2.length : Int)) then
    JB n x1 (cut x2 1 (x2.length : Int)) x6
   else none:=by kernel_rfl
theorem Qdw {K0 : (List Qb) → (List (Qb × Bool)) → Option (List (Qb × Bool))} {x1 : (List Qf)} {x3 : (List Qb)} (hl : x3.length ≤ maxLen) (hK0 : ∀ (z2 : (List Qb)) (z3 : (List (Qb × Bool))) (r : (List (Qb × Bool))),K0 z2 z3 = some r → Ev (fun n=>JB n x1 z2 z3) r) : ∀ (rest : List Qb) (k : Nat) (x2 : (List Qb)) (x6 : (List (Qb × Bool))) (r : (List (Qb × Bool))),rest = x3.drop k → QG K0 rest x2 x6 = some r → Ev (fun n=>Z3 n x1 x2 x3 (x3.length : Int) (k : Int) x6) r:=by
 intro rest
 induction rest with
 | nil =>
  intro k x2 x6 r hr h
  have hk:=Za hr
  rw [QG] at h
  refine Ev.step ?_ (fun n=>GF n x1 x2 x3 (x3.length : Int) (k : Int) x6)
  rw [show decide ((k : Int) < (x3.length : Int)) = false from decide_eq_false (by omega)]
  exact Ev.neg rfl (Ev.ofBif h (fun h=>(hK0 _ _ _ h)) (fun h=>(Ev.ofNone h)))
 | cons e rest ih =>
  intro k x2 x6 r hr h
  obtain ⟨hk,hx,hr2⟩:=QK (d:=(Ty.dflt Qa)) hr
  have hw:=QR hl hk
  have ih2 : ∀ (z2 : (List Qb)) (z6 : (List (Qb × Bool))) (r : (List (Qb × Bool))),QG K0 rest z2 z6 = some r → Ev (fun n=>Z3 n x1 z2 x3 (x3.length : Int) (IntKind.wrap .i64 ((k : Int) + 1)) z6) r:=by
   intro z2 z6 r h; rw [hw]; exact ih (k + 1) z2 z6 r hr2 h
  rw [QG] at h
  refine Ev.step ?_ (fun n=>GF n x1 x2 x3 (x3.length : Int) (k : Int) x6)
  rw [show decide ((k : Int) < (x3.length : Int)) = true from decide_eq_true (by omega),QD hk,hx]
  exact Ev.pos rfl (Ev.pos rfl (Ev.ofBif h (fun h=>(Ev.ofBif h (fun h=>(ih2 _ _ _ h)) (fun h=>(Ev.ofNone h)))) (fun h=>(ih2 _ _ _ h))))
theorem Qdx {x1 : (List Qf)} : ∀ (m : Nat) (x2 : (List Qb)) (x3 : (List (Qb × Bool))) (r : (List (Qb × Bool))),QQ x1 m x2 x3 = some r → Ev (fun n=>JB n x1 x2 x3) r:=by
 intro m
 induction m with
 | zero=>intro x2 x3 r h; rw [QQ] at h; exact Ev.ofNone h
 | succ m ih2 =>
  intro x2 x3 r h
  rw [QQ] at h
  refine Ev.step ?_ (fun n=>Qaz n x1 x2 x3)
  exact (Ev.ofBif h (fun h=>(Ev.ofBif h (fun h=>(Ev.ofBind h fun y1 h=>(Ev.ofLen h fun hl h=>Qdw hl ih2 _ (0 : Nat) _ _ _ rfl h))) (fun h=>(Ev.ofNone h)))) (fun h=>(Ev.ofSome h)))
theorem Qiz {m : Nat} (a0 : (List Qf)) (a1 : Qb) {r : (List (Qb × Bool))} (h : He m a0 a1 = some r) : Ev (fun n=>Qae n a0 a1) r:=by
 rw [He] at h
 refine Ev.of_eq ?_ (fun n=>QeD n a0 a1)
 exact (Qdx _ _ _ _ h)
theorem QfF : ∀ x ∈ Vo,Qh Tryz.prog x:=(Qd Qg4 Qj)
theorem Qg5 : Qh Tryz.prog (Hf):=by
 refine Qi (c:=Hf) (by kernel_rfl) (by kernel_rfl : Tryz.prog.funcs[22]? = some Tryz.f22) (code:=Tryz.f22.body.getD .skip) (by kernel_rfl) (by kernel_rfl) (by kernel_rfl) (A:=VG) (I:=Vn) (QfF) ?_
 rintro ⟨a0,a1,u⟩ y hy
 exact let ⟨_,h⟩:=(QaO hy).get; (Qiz a0 a1 h).get
def Ze (a0 : (List Qf)) (a1 : Qb) : Option (List Qb) :=
 Option.bind (Jv a0) fun (y1 : Bool) =>
 bif !(y1) then
  some ([])
 else
  Option.bind (Jc a1) fun (y2 : Bool) =>
  bif !(y2) then
   some ([])
  else
   Option.bind (VF a0 a1) fun (y3 : (List (Qb × Bool))) =>
   Option.bind (Qca (y3.map (·.1))) fun (y4 : (List Qb)) =>
   some y4
def Qbp : Ctr:=⟨9,[(.list Qc),Qa],[(.list Qa)],fun x=>Ze x.1 x.2.1⟩
theorem Qtf (a b : Atm) : Q8 a b = some (Jr a b):=by
 have ci : ∀ x y : Int,Zi x y = Yq x y:=fun x y=>by unfold Zi ZL Yq; simp
 have cs : ∀ x y : List Int,QJ x y = VA x y:=fun x y=>by unfold QJ Q0 VA; simp
 rw [Q8,Vm,QU (by simp [maxLen])]
 simp only [Jk,ci,cs,Jr]
 have h:=UP a.2.2.1 b.2.2.1
 grind
def QiA : Ctr:=QhS 9 [(.list Qc),Qa] Qa fun x=>Ze x.1 x.2.1
def Ey : List Ctr:=[Ha,GR,Hf]
def Qaf (n : Nat) (a0 : (List Qf)) (a1 : Qb) : Option (List Qb):=Qob Tryz.prog noG Tryz.f9 Qa .bool Qa (Qk Ey) Qca 0 (Qp [(.list Qc),Qa] (a0,a1,())) (Tryz.f9.body.getD .skip)
theorem QeE (n : Nat) (a0 : (List Qf)) (a1 : Qb) : Qaf n a0 a1 =
  Option.bind (Jv a0) fun (y1 : Bool) =>
  bif !(y1) then
   some ([])
  else
   Option.bind (Jc a1) fun (y2 : Bool) =>
   bif !(y2) then
    some ([])
   else
    Option.bind (VF a0 a1) fun (y3 : (List (Qb × Bool))) =>
    Option.bind (Qca (y3.map (·.1))) fun (y4 : (List Qb)) =>
    some y4:=by kernel_rfl
theorem QiB (a0 : (List Qf)) (a1 : Qb) {r : (List Qb)} (h : Ze a0 a1 = some r) : Ev (fun n=>Qaf n a0 a1) r:=by
 rw [Ze] at h
 refine Ev.of_eq ?_ (fun n=>QeE n a0 a1)
 exact (Ev.ofBind h fun y1 h=>(Ev.ofBif h (fun h=>(Ev.ofSome h)) (fun h=>(Ev.ofBind h fun y2 h=>(Ev.ofBif h (fun h=>(Ev.ofSome h)) (fun h=>(Ev.ofBind h fun y3 h=>(Ev.ofBind h fun y4 h=>(Ev.ofSome h)))))))))
theorem QfG : ∀ x ∈ Ey,Qh Tryz.prog x:=(Qd Qg3 (Qd Qbi (Qd Qg5 Qj)))
theorem Ez : Qh Tryz.prog (QiA):=by
 refine QqC (tk:=Qa) (tv:=.bool) (t:=Qa) (ans:=Qca) (by kernel_rfl) (c:=Tryz.f9.body.getD .skip) (by kernel_rfl : Tryz.prog.funcs[9]? = some Tryz.f9) (by kernel_rfl) (by kernel_rfl) (QhR (QfG)) (k:=4) (enc:=UQ) (dec:=Qtz) (srt:=Qm7) (out:=(·.1)) (gs:=23) (g0:=24) (ts:=27) (te:=31) (by decide) (by decide) rfl QpP QpQ QsD W3 Qtc (QsG (f:=fun x=>Q8 x.1 x.2.1) H3 Qtf) Qm6 QrE (by kernel_rfl) (by refine ⟨?_,?_,?_,?_⟩ <;> (intro m K; kernel_rfl)) (fun _=>by kernel_rfl) ?_
 rintro ⟨a0,a1,u⟩ y hy
 exact (QiB a0 a1 hy).get
theorem QiC : Qh Tryz.prog Qbp:=QnD (by kernel_rfl) Ez
def Jp : Ctr:=⟨8,[Qa],[Qa],fun x=>toC Qa x.1⟩
def Qf7 : List (List Nat × Ann):=[]
def QeF : List (List Nat × Nat):=[]
def EA : List Ctr:=[]
def Qf8 (n : Nat) (a0 : Qb) : Option Qb:=run Tryz.prog Qf7 QeF (Qk EA) Tryz.f8 (Tryz.f8.body.getD .skip) (Ql [Qa]) n (Qp [Qa] (a0,()))
theorem Qkc (n : Nat) (a0 : Qb) : Qf8 n a0 =
  some a0:=by kernel_rfl
theorem Qng (hcs : ∀ x ∈ EA,Qh Tryz.prog x) (h : ∀ (a0 : Qb) y,toC Qa a0 = some y → ∃ n,Qf8 n a0 = some y) : Qh Tryz.prog Jp:=by
 refine Qi (c:=Jp) (by kernel_rfl) (by kernel_rfl : Tryz.prog.funcs[8]? = some Tryz.f8) (code:=Tryz.f8.body.getD .skip) (by kernel_rfl) (by kernel_rfl) (by kernel_rfl) (A:=Qf7) (I:=QeF) hcs ?_
 rintro ⟨a0,u⟩ y hy
 exact h a0 y hy
theorem Qlw : ∀ x ∈ EA,Qh Tryz.prog x:=Qj
theorem Yi : Qh Tryz.prog Jp:=Qng Qlw fun a0 y hy=>by
 obtain ⟨hw,hs,rfl⟩:=Qb3 hy
 have hw2 : wfD I64 y.1 ∧ wfD I64 y.2.1 ∧ wfD .str y.2.2.1 ∧ wfD .str y.2.2.2:=hw
 have hs2 : Ty.size I64 y.1 + (Ty.size I64 y.2.1 + (Ty.size .str y.2.2.1 + (Ty.size .str y.2.2.2))) ≤ 1073741824:=hs
 refine ⟨0,?_⟩
 rw [Qkc]
 try rfl
def VX : Ctr:=⟨39,[(.list Qa)],[(.list Qa)],fun x=>toC (.list Qa) x.1⟩
def EB : List (List Nat × Ann):=[([0,3],[.keep 0 0,.keep 0 3,.keep 0 4,.rows 0 7 Qa])]
def Wb : List (List Nat × Nat):=[]
def GS : List Ctr:=[Jp]
def QeG (n : Nat) (a0 : (List Qb)) : Option (List Qb):=run Tryz.prog EB Wb (Qk GS) Tryz.f39 (Tryz.f39.body.getD .skip) (Ql [(.list Qa)]) n (Qp [(.list Qa)] (a0,()))
abbrev Xg (n : Nat) (x1 : (List Qb)) (x2 : Int) (x3 : (List Qb)) : Option (List Qb):=lam Tryz.prog EB Wb (Qk GS) Tryz.f39 (Tryz.f39.body.getD .skip) (Ql [(.list Qa)]) n [0,3] [.d (.list Qa) x1,.msl 0 7,.d I64 x2,.d (.list Qa) x3]
theorem QiD (n : Nat) (a0 : (List Qb)) : QeG n a0 =
  bif decide ((a0.length : Int) = (a0.length : Int)) && decide ((0 : Int) ≤ (a0.length : Int)) && decide ((a0.length : Int) * 48 ≤ JA) && true then
   Xg n a0 0 (List.replicate (Int.toNat (a0.length : Int)) (0,0,([] : List Int),([] : List Int)))
  else none:=by kernel_rfl
theorem Qdy (n : Nat) (x1 : (List Qb)) (x2 : Int) (x3 : (List Qb)) : Xg (n + 1) x1 x2 x3 =
  bif decide (x2 < (x1.length : Int)) then
   bif inB x2 x1.length then
    Option.bind (toC Qa (rd x1 x2 (Ty.dflt Qa))) fun (y1 : Qb) =>
    bif inB x2 x3.length then
     bif inB x2 x3.length && true && true && true && true then
      Xg n x1 (IntKind.wrap .i64 (x2 + 1)) (x3.set (Int.toNat x2) y1)
     else none
    else none
   else none
  else
   some x3:=by kernel_rfl
theorem Qlx (hcs : ∀ x ∈ GS,Qh Tryz.prog x) (h : ∀ (a0 : (List Qb)) y,toC (.list Qa) a0 = some y → ∃ n,QeG n a0 = some y) : Qh Tryz.prog VX:=by
 refine Qi (c:=VX) (by kernel_rfl) (by kernel_rfl : Tryz.prog.funcs[39]? = some Tryz.f39) (code:=Tryz.f39.body.getD .skip) (by kernel_rfl) (by kernel_rfl) (by kernel_rfl) (A:=EB) (I:=Wb) hcs ?_
 rintro ⟨a0,u⟩ y hy
 exact h a0 y hy
theorem Qkd : ∀ x ∈ GS,Qh Tryz.prog x:=(Qd Yi Qj)
theorem QcZ : Qh Tryz.prog VX:=Qlx Qkd fun a0 y hy=>by
 obtain ⟨n,hn⟩:=QoQ (t:=Qa) (f:=toC Qa) (fun x h h2=>ZE h h2) (by_:=48) (by omega) (fun n xs i out=>Qdy n xs i out) hy
 exact ⟨n,(QiD n a0).trans hn⟩
def Y5 : Ctr:=⟨40,[(.list .str)],[(.list .str)],fun x=>toC (.list .str) x.1⟩
def Uj : List (List Nat × Ann):=[([0,3],[.keep 0 0,.keep 0 3,.keep 0 4,.rows 0 7 .str])]
def Hg : List (List Nat × Nat):=[]
def VH : List Ctr:=[]
def Qbq (n : Nat) (a0 : (List (List Int))) : Option (List (List Int)):=run Tryz.prog Uj Hg (Qk VH) Tryz.f40 (Tryz.f40.body.getD .skip) (Ql [(.list .str)]) n (Qp [(.list .str)] (a0,()))
abbrev VY (n : Nat) (x1 : (List (List Int))) (x2 : Int) (x3 : (List (List Int))) : Option (List (List Int)):=lam Tryz.prog Uj Hg (Qk VH) Tryz.f40 (Tryz.f40.body.getD .skip) (Ql [(.list .str)]) n [0,3] [.d (.list .str) x1,.msl 0 7,.d I64 x2,.d (.list .str) x3]
theorem QfH (n : Nat) (a0 : (List (List Int))) : Qbq n a0 =
  bif decide ((a0.length : Int) = (a0.length : Int)) && decide ((0 : Int) ≤ (a0.length : Int)) && decide ((a0.length : Int) * 16 ≤ JA) && true then
   VY n a0 0 (List.replicate (Int.toNat (a0.length : Int)) ([] : List Int))
  else none:=by kernel_rfl
theorem Qbr (n : Nat) (x1 : (List (List Int))) (x2 : Int) (x3 : (List (List Int))) : VY (n + 1) x1 x2 x3 =
  bif decide (x2 < (x1.length : Int)) then
   bif inB x2 x1.length then
    bif inB x2 x3.length then
     bif inB x2 x3.length && true && true && true && true then
      VY n x1 (IntKind.wrap .i64 (x2 + 1)) (x3.set (Int.toNat x2) (rd x1 x2 (Ty.dflt .str)))
     else none
    else none
   else none
  else
   some x3:=by kernel_rfl
theorem QiE (hcs : ∀ x ∈ VH,Qh Tryz.prog x) (h : ∀ (a0 : (List (List Int))) y,toC (.list .str) a0 = some y → ∃ n,Qbq n a0 = some y) : Qh Tryz.prog Y5:=by
 refine Qi (c:=Y5) (by kernel_rfl) (by kernel_rfl : Tryz.prog.funcs[40]? = some Tryz.f40) (code:=Tryz.f40.body.getD .skip) (by kernel_rfl) (by kernel_rfl) (by kernel_rfl) (A:=Uj) (I:=Hg) hcs ?_
 rintro ⟨a0,u⟩ y hy
 exact h a0 y hy
theorem Qg6 : ∀ x ∈ VH,Qh Tryz.prog x:=Qj
theorem Qag : Qh Tryz.prog Y5:=QiE Qg6 fun a0 y hy=>by
 obtain ⟨n,hn⟩:=QoQ (t:=.str) (f:=fun x=>some x) (fun x _ _=>rfl) (by_:=16) (by omega) (fun n xs i out=>Qbr n xs i out) hy
 exact ⟨n,(QfH n a0).trans hn⟩
def Hh : Ctr:=⟨61,[Qg],[Qg],fun x=>toC Qg x.1⟩
def QeH : List (List Nat × Ann):=[]
def Qc0 : List (List Nat × Nat):=[]
def Wc : List Ctr:=[Jp,VX,Y5]
def QeI (n : Nat) (a0 : Qn) : Option Qn:=run Tryz.prog QeH Qc0 (Qk Wc) Tryz.f61 (Tryz.f61.body.getD .skip) (Ql [Qg]) n (Qp [Qg] (a0,()))
theorem QiF (n : Nat) (a0 : Qn) : QeI n a0 =
  Option.bind (toC Qa a0.2.1) fun (y1 : Qb) =>
  Option.bind (toC (.list Qa) a0.2.2.1) fun (y2 : (List Qb)) =>
  Option.bind (toC (.list .str) a0.2.2.2) fun (y3 : (List (List Int))) =>
  some (a0.1,y1,y2,y3):=by kernel_rfl
theorem Qly (hcs : ∀ x ∈ Wc,Qh Tryz.prog x) (h : ∀ (a0 : Qn) y,toC Qg a0 = some y → ∃ n,QeI n a0 = some y) : Qh Tryz.prog Hh:=by
 refine Qi (c:=Hh) (by kernel_rfl) (by kernel_rfl : Tryz.prog.funcs[61]? = some Tryz.f61) (code:=Tryz.f61.body.getD .skip) (by kernel_rfl) (by kernel_rfl) (by kernel_rfl) (A:=QeH) (I:=Qc0) hcs ?_
 rintro ⟨a0,u⟩ y hy
 exact h a0 y hy
theorem Qke : ∀ x ∈ Wc,Qh Tryz.prog x:=(Qd Yi (Qd QcZ (Qd Qag Qj)))
theorem Qlz : Qh Tryz.prog Hh:=Qly Qke fun a0 y hy=>by
 obtain ⟨hw,hs,rfl⟩:=Qb3 hy
 have hw2 : wfD I64 y.1 ∧ wfD Qa y.2.1 ∧ wfD (.list Qa) y.2.2.1 ∧ wfD (.list .str) y.2.2.2:=hw
 have hs2 : Ty.size I64 y.1 + (Ty.size Qa y.2.1 + (Ty.size (.list Qa) y.2.2.1 + (Ty.size (.list .str) y.2.2.2))) ≤ 1073741824:=hs
 refine ⟨0,?_⟩
 rw [QiF]
 try (rw [ZE hw2.2.1 (by omega)]; simp only [Option.bind_some])
 try (rw [ZE hw2.2.2.1 (by omega)]; simp only [Option.bind_some])
 try (rw [ZE hw2.2.2.2 (by omega)]; simp only [Option.bind_some])
 try rfl
def GT : Ctr:=⟨41,[(.list Qg)],[(.list Qg)],fun x=>toC (.list Qg) x.1⟩
def Wd : List (List Nat × Ann):=[([0,3],[.keep 0 0,.keep 0 3,.keep 0 4,.rows 0 7 Qg])]
def Uk : List (List Nat × Nat):=[]
def Gg : List Ctr:=[Hh]
def Qc1 (n : Nat) (a0 : (List Qn)) : Option (List Qn):=run Tryz.prog Wd Uk (Qk Gg) Tryz.f41 (Tryz.f41.body.getD .skip) (Ql [(.list Qg)]) n (Qp [(.list Qg)] (a0,()))
abbrev Gt (n : Nat) (x1 : (List Qn)) (x2 : Int) (x3 : (List Qn)) : Option (List Qn):=lam Tryz.prog Wd Uk (Qk Gg) Tryz.f41 (Tryz.f41.body.getD .skip) (Ql [(.list Qg)]) n [0,3] [.d (.list Qg) x1,.msl 0 7,.d I64 x2,.d (.list Qg) x3]
theorem Qg7 (n : Nat) (a0 : (List Qn)) : Qc1 n a0 =
  bif decide ((a0.length : Int) = (a0.length : Int)) && decide ((0 : Int) ≤ (a0.length : Int)) && decide ((a0.length : Int) * 104 ≤ JA) && true then
   Gt n a0 0 (List.replicate (Int.toNat (a0.length : Int)) (0,(0,0,([] : List Int),([] : List Int)),[],[]))
  else none:=by kernel_rfl
theorem Qcn (n : Nat) (x1 : (List Qn)) (x2 : Int) (x3 : (List Qn)) : Gt (n + 1) x1 x2 x3 =
  bif decide (x2 < (x1.length : Int)) then
   bif inB x2 x1.length then
    Option.bind (toC Qg (rd x1 x2 (Ty.dflt Qg))) fun (y1 : Qn) =>
    bif inB x2 x3.length then
     bif inB x2 x3.length && true && true && true && true then
      Gt n x1 (IntKind.wrap .i64 (x2 + 1)) (x3.set (Int.toNat x2) y1)
     else none
    else none
   else none
  else
   some x3:=by kernel_rfl
theorem Qkf (hcs : ∀ x ∈ Gg,Qh Tryz.prog x) (h : ∀ (a0 : (List Qn)) y,toC (.list Qg) a0 = some y → ∃ n,Qc1 n a0 = some y) : Qh Tryz.prog GT:=by
 refine Qi (c:=GT) (by kernel_rfl) (by kernel_rfl : Tryz.prog.funcs[41]? = some Tryz.f41) (code:=Tryz.f41.body.getD .skip) (by kernel_rfl) (by kernel_rfl) (by kernel_rfl) (A:=Wd) (I:=Uk) hcs ?_
 rintro ⟨a0,u⟩ y hy
 exact h a0 y hy
theorem QiG : ∀ x ∈ Gg,Qh Tryz.prog x:=(Qd Qlz Qj)
theorem Qkg : Qh Tryz.prog GT:=Qkf QiG fun a0 y hy=>by
 obtain ⟨n,hn⟩:=QoQ (t:=Qg) (f:=toC Qg) (fun x h h2=>ZE h h2) (by_:=104) (by omega) (fun n xs i out=>Qcn n xs i out) hy
 exact ⟨n,(Qg7 n a0).trans hn⟩
def Hi : Ctr:=⟨19,[Qc],[Qc],fun x=>toC Qc x.1⟩
def QeJ : List (List Nat × Ann):=[]
def Qc2 : List (List Nat × Nat):=[]
def We : List Ctr:=[Jp,VX,Y5,GT]
def QeK (n : Nat) (a0 : Qf) : Option Qf:=run Tryz.prog QeJ Qc2 (Qk We) Tryz.f19 (Tryz.f19.body.getD .skip) (Ql [Qc]) n (Qp [Qc] (a0,()))
theorem QiH (n : Nat) (a0 : Qf) : QeK n a0 =
  Option.bind (toC Qa a0.1) fun (y1 : Qb) =>
  Option.bind (toC (.list Qa) a0.2.1) fun (y2 : (List Qb)) =>
  Option.bind (toC (.list .str) a0.2.2.1) fun (y3 : (List (List Int))) =>
  Option.bind (toC (.list Qg) a0.2.2.2) fun (y4 : (List Qn)) =>
  some (y1,y2,y3,y4):=by kernel_rfl
theorem QlA (hcs : ∀ x ∈ We,Qh Tryz.prog x) (h : ∀ (a0 : Qf) y,toC Qc a0 = some y → ∃ n,QeK n a0 = some y) : Qh Tryz.prog Hi:=by
 refine Qi (c:=Hi) (by kernel_rfl) (by kernel_rfl : Tryz.prog.funcs[19]? = some Tryz.f19) (code:=Tryz.f19.body.getD .skip) (by kernel_rfl) (by kernel_rfl) (by kernel_rfl) (A:=QeJ) (I:=Qc2) hcs ?_
 rintro ⟨a0,u⟩ y hy
 exact h a0 y hy
theorem Qkh : ∀ x ∈ We,Qh Tryz.prog x:=(Qd Yi (Qd QcZ (Qd Qag (Qd Qkg Qj))))
theorem QlB : Qh Tryz.prog Hi:=QlA Qkh fun a0 y hy=>by
 obtain ⟨hw,hs,rfl⟩:=Qb3 hy
 have hw2 : wfD Qa y.1 ∧ wfD (.list Qa) y.2.1 ∧ wfD (.list .str) y.2.2.1 ∧ wfD (.list Qg) y.2.2.2:=hw
 have hs2 : Ty.size Qa y.1 + (Ty.size (.list Qa) y.2.1 + (Ty.size (.list .str) y.2.2.1 + (Ty.size (.list Qg) y.2.2.2))) ≤ 1073741824:=hs
 refine ⟨0,?_⟩
 rw [QiH]
 try (rw [ZE hw2.1 (by omega)]; simp only [Option.bind_some])
 try (rw [ZE hw2.2.1 (by omega)]; simp only [Option.bind_some])
 try (rw [ZE hw2.2.2.1 (by omega)]; simp only [Option.bind_some])
 try (rw [ZE hw2.2.2.2 (by omega)]; simp only [Option.bind_some])
 try rfl
def GU : Ctr:=⟨7,[(.list Qc)],[(.list Qc)],fun x=>toC (.list Qc) x.1⟩
def Wf : List (List Nat × Ann):=[([0,3],[.keep 0 0,.keep 0 3,.keep 0 4,.rows 0 7 Qc])]
def Ul : List (List Nat × Nat):=[]
def Gh : List Ctr:=[Hi]
def Qc3 (n : Nat) (a0 : (List Qf)) : Option (List Qf):=run Tryz.prog Wf Ul (Qk Gh) Tryz.f7 (Tryz.f7.body.getD .skip) (Ql [(.list Qc)]) n (Qp [(.list Qc)] (a0,()))
abbrev Gu (n : Nat) (x1 : (List Qf)) (x2 : Int) (x3 : (List Qf)) : Option (List Qf):=lam Tryz.prog Wf Ul (Qk Gh) Tryz.f7 (Tryz.f7.body.getD .skip) (Ql [(.list Qc)]) n [0,3] [.d (.list Qc) x1,.msl 0 7,.d I64 x2,.d (.list Qc) x3]
theorem Qg8 (n : Nat) (a0 : (List Qf)) : Qc3 n a0 =
  bif decide ((a0.length : Int) = (a0.length : Int)) && decide ((0 : Int) ≤ (a0.length : Int)) && decide ((a0.length : Int) * 120 ≤ JA) && true then
   Gu n a0 0 (List.replicate (Int.toNat (a0.length : Int)) ((0,0,([] : List Int),([] : List Int)),[],[],[]))
  else none:=by kernel_rfl
theorem Qco (n : Nat) (x1 : (List Qf)) (x2 : Int) (x3 : (List Qf)) : Gu (n + 1) x1 x2 x3 =
  bif decide (x2 < (x1.length : Int)) then
   bif inB x2 x1.length then
    Option.bind (toC Qc (((rd x1 x2 (Ty.dflt Qc)).1),((rd x1 x2 (Ty.dflt Qc)).2))) fun (y1 : Qf) =>
    bif inB x2 x3.length then
     bif inB x2 x3.length && true && true && true && true then
      Gu n x1 (IntKind.wrap .i64 (x2 + 1)) (x3.set (Int.toNat x2) y1)
     else none
    else none
   else none
  else
   some x3:=by kernel_rfl
theorem Qki (hcs : ∀ x ∈ Gh,Qh Tryz.prog x) (h : ∀ (a0 : (List Qf)) y,toC (.list Qc) a0 = some y → ∃ n,Qc3 n a0 = some y) : Qh Tryz.prog GU:=by
 refine Qi (c:=GU) (by kernel_rfl) (by kernel_rfl : Tryz.prog.funcs[7]? = some Tryz.f7) (code:=Tryz.f7.body.getD .skip) (by kernel_rfl) (by kernel_rfl) (by kernel_rfl) (A:=Wf) (I:=Ul) hcs ?_
 rintro ⟨a0,u⟩ y hy
 exact h a0 y hy
theorem QiI : ∀ x ∈ Gh,Qh Tryz.prog x:=(Qd QlB Qj)
theorem Qkj : Qh Tryz.prog GU:=Qki QiI fun a0 y hy=>by
 obtain ⟨n,hn⟩:=QoQ (t:=Qc) (f:=toC Qc) (fun x h h2=>ZE h h2) (by_:=120) (by omega) (fun n xs i out=>Qco n xs i out) hy
 exact ⟨n,(Qg8 n a0).trans hn⟩
def Wg : Ctr:=Eg 39 [(.list Qa)] [(.list Qa)] fun x=>toC (.list Qa) x.1
def Wh : List (List Nat × Ann):=[([0,3],[.keep 0 0,.drb 0 3 Qa,.keep 0 4])]
def Um : List (List Nat × Nat):=[([1002],0)]
def Un : List Ctr:=[Jp]
def QlC (n : Nat) (a0 : (List Qb)) : Option (List Qb):=Qjk Tryz.prog noG Wh Um (Qk Un) Tryz.f39 (Tryz.f39.body.getD .skip) (Qdo Tryz.prog Tryz.f39 [(.list Qa)]) n (Qp [(.list Qa)] (a0,()))
abbrev YU (n : Nat) (x1 : (List Qb)) (x2 : (List Qb)) (x3 : Int) : Option (List Qb):=Qk6 Tryz.prog noG Wh Um (Qk Un) Tryz.f39 (Tryz.f39.body.getD .skip) (Qdo Tryz.prog Tryz.f39 [(.list Qa)]) n [0,3] [.d (.list Qa) x1,.d (.list Qa) x2,.d I64 x3]
theorem Qg9 (n : Nat) (a0 : (List Qb)) : QlC n a0 =
  bif decide ((a0.length : Int) = (a0.length : Int)) && decide ((0 : Int) ≤ (a0.length : Int)) && decide ((a0.length : Int) * 48 ≤ JA) && true && true && true then
   YU n a0 (List.replicate (Int.toNat (a0.length : Int)) (0,0,([] : List Int),([] : List Int))) 0
  else none:=by kernel_rfl
theorem Qcp (n : Nat) (x1 : (List Qb)) (x2 : (List Qb)) (x3 : Int) : YU (n + 1) x1 x2 x3 =
  bif decide (x3 < (x1.length : Int)) then
   bif inB x3 x1.length then
    Option.bind (toC Qa (rd x1 x3 (Ty.dflt Qa))) fun (y1 : Qb) =>
    bif inB x3 x2.length then
     bif inB x3 x2.length && true && true && true && true && true && true then
      YU n x1 (x2.set (Int.toNat x3) y1) (IntKind.wrap .i64 (x3 + 1))
     else none
    else none
   else none
  else
   some x2:=by kernel_rfl
theorem QiJ : ∀ x ∈ Un,Qh Tryz.prog x:=(Qd Yi Qj)
theorem Qbs : Qh Tryz.prog Wg:=by
 refine Xq (by kernel_rfl) (by kernel_rfl : Tryz.prog.funcs[39]? = some Tryz.f39) (code:=Tryz.f39.body.getD .skip) (by kernel_rfl) (by kernel_rfl) (A:=Wh) (I:=Um) QiJ ?_
 rintro ⟨a0,u⟩ y hy
 obtain ⟨n,hn⟩:=QoU (t:=Qa) (f:=toC Qa) (fun x h h2=>ZE h h2) (L:=fun n xs i out=>YU n xs out i) (by_:=48) (by omega) (fun n xs i out=>Qcp n xs out i) hy
 exact ⟨n,(Qg9 n a0).trans hn⟩
def Hj : Ctr:=Eg 40 [(.list .str)] [(.list .str)] fun x=>toC (.list .str) x.1
def Hk : List (List Nat × Ann):=[([0,3],[.keep 0 0,.drb 0 3 .str,.keep 0 4])]
def Xh : List (List Nat × Nat):=[([1002],0)]
def Xi : List Ctr:=[]
def QiK (n : Nat) (a0 : (List (List Int))) : Option (List (List Int)):=Qjk Tryz.prog noG Hk Xh (Qk Xi) Tryz.f40 (Tryz.f40.body.getD .skip) (Qdo Tryz.prog Tryz.f40 [(.list .str)]) n (Qp [(.list .str)] (a0,()))
abbrev Yl (n : Nat) (x1 : (List (List Int))) (x2 : (List (List Int))) (x3 : Int) : Option (List (List Int)):=Qk6 Tryz.prog noG Hk Xh (Qk Xi) Tryz.f40 (Tryz.f40.body.getD .skip) (Qdo Tryz.prog Tryz.f40 [(.list .str)]) n [0,3] [.d (.list .str) x1,.d (.list .str) x2,.d I64 x3]
theorem QeL (n : Nat) (a0 : (List (List Int))) : QiK n a0 =
  bif decide ((a0.length : Int) = (a0.length : Int)) && decide ((0 : Int) ≤ (a0.length : Int)) && decide ((a0.length : Int) * 16 ≤ JA) && true && true && true then
   Yl n a0 (List.replicate (Int.toNat (a0.length : Int)) ([] : List Int)) 0
  else none:=by kernel_rfl
theorem QaA (n : Nat) (x1 : (List (List Int))) (x2 : (List (List Int))) (x3 : Int) : Yl (n + 1) x1 x2 x3 =
  bif decide (x3 < (x1.length : Int)) then
   bif inB x3 x1.length then
    bif inB x3 x2.length then
     bif inB x3 x2.length && true && true && true && true && true && true then
      Yl n x1 (x2.set (Int.toNat x3) (rd x1 x3 (Ty.dflt .str))) (IntKind.wrap .i64 (x3 + 1))
     else none
    else none
   else none
  else
   some x2:=by kernel_rfl
theorem QfI : ∀ x ∈ Xi,Qh Tryz.prog x:=Qj
theorem EC : Qh Tryz.prog Hj:=by
 refine Xq (by kernel_rfl) (by kernel_rfl : Tryz.prog.funcs[40]? = some Tryz.f40) (code:=Tryz.f40.body.getD .skip) (by kernel_rfl) (by kernel_rfl) (A:=Hk) (I:=Xh) QfI ?_
 rintro ⟨a0,u⟩ y hy
 obtain ⟨n,hn⟩:=QoU (t:=.str) (f:=fun x=>some x) (fun x _ _=>rfl) (L:=fun n xs i out=>Yl n xs out i) (by_:=16) (by omega) (fun n xs i out=>QaA n xs out i) hy
 exact ⟨n,(QeL n a0).trans hn⟩
def Qc4 : Ctr:=Eg 61 [Qg] [Qg] fun x=>toC Qg x.1
def Qc5 : List (List Nat × Ann):=[]
def Qbt : List (List Nat × Nat):=[([4002],2000039),([5002],2000040)]
def Qbu : List Ctr:=[Jp,Wg,Hj]
def Qc6 (n : Nat) (a0 : Qn) : Option Qn:=Qjk Tryz.prog noG Qc5 Qbt (Qk Qbu) Tryz.f61 (Tryz.f61.body.getD .skip) (Qdo Tryz.prog Tryz.f61 [Qg]) n (Qp [Qg] (a0,()))
theorem Qha (n : Nat) (a0 : Qn) : Qc6 n a0 =
  Option.bind (toC Qa a0.2.1) fun (y1 : Qb) =>
  Option.bind (toC (.list Qa) a0.2.2.1) fun (y2 : (List Qb)) =>
  Option.bind (toC (.list .str) a0.2.2.2) fun (y3 : (List (List Int))) =>
  some (a0.1,y1,y2,y3):=by kernel_rfl
theorem QiL : ∀ x ∈ Qbu,Qh Tryz.prog x:=(Qd Yi (Qd Qbs (Qd EC Qj)))
theorem Qkk : Qh Tryz.prog Qc4:=by
 refine Xq (by kernel_rfl) (by kernel_rfl : Tryz.prog.funcs[61]? = some Tryz.f61) (code:=Tryz.f61.body.getD .skip) (by kernel_rfl) (by kernel_rfl) (A:=Qc5) (I:=Qbt) QiL ?_
 rintro ⟨a0,u⟩ y hy
 obtain ⟨hw,hs,rfl⟩:=Qb3 hy
 have hw2 : wfD I64 y.1 ∧ wfD Qa y.2.1 ∧ wfD (.list Qa) y.2.2.1 ∧ wfD (.list .str) y.2.2.2:=hw
 have hs2 : Ty.size I64 y.1 + (Ty.size Qa y.2.1 + (Ty.size (.list Qa) y.2.2.1 + (Ty.size (.list .str) y.2.2.2))) ≤ 1073741824:=hs
 refine ⟨0,?_⟩
 show Qc6 0 y = some y
 rw [Qha]
 try (rw [ZE hw2.2.1 (by omega)]; simp only [Option.bind_some])
 try (rw [ZE hw2.2.2.1 (by omega)]; simp only [Option.bind_some])
 try (rw [ZE hw2.2.2.2 (by omega)]; simp only [Option.bind_some])
 try rfl
def Qbv : Ctr:=Eg 41 [(.list Qg)] [(.list Qg)] fun x=>toC (.list Qg) x.1
def Uo : List (List Nat × Ann):=[([0,3],[.keep 0 0,.drb 0 3 Qg,.keep 0 4])]
def Hl : List (List Nat × Nat):=[([1002],0),([5006],2000061)]
def Hm : List Ctr:=[Qc4]
def Qkl (n : Nat) (a0 : (List Qn)) : Option (List Qn):=Qjk Tryz.prog noG Uo Hl (Qk Hm) Tryz.f41 (Tryz.f41.body.getD .skip) (Qdo Tryz.prog Tryz.f41 [(.list Qg)]) n (Qp [(.list Qg)] (a0,()))
abbrev YE (n : Nat) (x1 : (List Qn)) (x2 : (List Qn)) (x3 : Int) : Option (List Qn):=Qk6 Tryz.prog noG Uo Hl (Qk Hm) Tryz.f41 (Tryz.f41.body.getD .skip) (Qdo Tryz.prog Tryz.f41 [(.list Qg)]) n [0,3] [.d (.list Qg) x1,.d (.list Qg) x2,.d I64 x3]
theorem QfJ (n : Nat) (a0 : (List Qn)) : Qkl n a0 =
  bif decide ((a0.length : Int) = (a0.length : Int)) && decide ((0 : Int) ≤ (a0.length : Int)) && decide ((a0.length : Int) * 104 ≤ JA) && true && true && true then
   YE n a0 (List.replicate (Int.toNat (a0.length : Int)) (0,(0,0,([] : List Int),([] : List Int)),[],[])) 0
  else none:=by kernel_rfl
theorem Qbw (n : Nat) (x1 : (List Qn)) (x2 : (List Qn)) (x3 : Int) : YE (n + 1) x1 x2 x3 =
  bif decide (x3 < (x1.length : Int)) then
   bif inB x3 x1.length then
    Option.bind (toC Qg (rd x1 x3 (Ty.dflt Qg))) fun (y1 : Qn) =>
    bif inB x3 x2.length then
     bif inB x3 x2.length && true && true && true && true && true && true then
      YE n x1 (x2.set (Int.toNat x3) y1) (IntKind.wrap .i64 (x3 + 1))
     else none
    else none
   else none
  else
   some x2:=by kernel_rfl
theorem Qhb : ∀ x ∈ Hm,Qh Tryz.prog x:=(Qd Qkk Qj)
theorem QiM : Qh Tryz.prog Qbv:=by
 refine Xq (by kernel_rfl) (by kernel_rfl : Tryz.prog.funcs[41]? = some Tryz.f41) (code:=Tryz.f41.body.getD .skip) (by kernel_rfl) (by kernel_rfl) (A:=Uo) (I:=Hl) Qhb ?_
 rintro ⟨a0,u⟩ y hy
 obtain ⟨n,hn⟩:=QoU (t:=Qg) (f:=toC Qg) (fun x h h2=>ZE h h2) (L:=fun n xs i out=>YE n xs out i) (by_:=104) (by omega) (fun n xs i out=>Qbw n xs out i) hy
 exact ⟨n,(QfJ n a0).trans hn⟩
def Qc7 : Ctr:=Eg 19 [Qc] [Qc] fun x=>toC Qc x.1
def Qc8 : List (List Nat × Ann):=[]
def Qbx : List (List Nat × Nat):=[([3002],2000039),([4002],2000040),([5002],2000041)]
def Qby : List Ctr:=[Jp,Wg,Hj,Qbv]
def Qc9 (n : Nat) (a0 : Qf) : Option Qf:=Qjk Tryz.prog noG Qc8 Qbx (Qk Qby) Tryz.f19 (Tryz.f19.body.getD .skip) (Qdo Tryz.prog Tryz.f19 [Qc]) n (Qp [Qc] (a0,()))
theorem Qhc (n : Nat) (a0 : Qf) : Qc9 n a0 =
  Option.bind (toC Qa a0.1) fun (y1 : Qb) =>
  Option.bind (toC (.list Qa) a0.2.1) fun (y2 : (List Qb)) =>
  Option.bind (toC (.list .str) a0.2.2.1) fun (y3 : (List (List Int))) =>
  Option.bind (toC (.list Qg) a0.2.2.2) fun (y4 : (List Qn)) =>
  some (y1,y2,y3,y4):=by kernel_rfl
theorem QiN : ∀ x ∈ Qby,Qh Tryz.prog x:=(Qd Yi (Qd Qbs (Qd EC (Qd QiM Qj))))
theorem Qkm : Qh Tryz.prog Qc7:=by
 refine Xq (by kernel_rfl) (by kernel_rfl : Tryz.prog.funcs[19]? = some Tryz.f19) (code:=Tryz.f19.body.getD .skip) (by kernel_rfl) (by kernel_rfl) (A:=Qc8) (I:=Qbx) QiN ?_
 rintro ⟨a0,u⟩ y hy
 obtain ⟨hw,hs,rfl⟩:=Qb3 hy
 have hw2 : wfD Qa y.1 ∧ wfD (.list Qa) y.2.1 ∧ wfD (.list .str) y.2.2.1 ∧ wfD (.list Qg) y.2.2.2:=hw
 have hs2 : Ty.size Qa y.1 + (Ty.size (.list Qa) y.2.1 + (Ty.size (.list .str) y.2.2.1 + (Ty.size (.list Qg) y.2.2.2))) ≤ 1073741824:=hs
 refine ⟨0,?_⟩
 show Qc9 0 y = some y
 rw [Qhc]
 try (rw [ZE hw2.1 (by omega)]; simp only [Option.bind_some])
 try (rw [ZE hw2.2.1 (by omega)]; simp only [Option.bind_some])
 try (rw [ZE hw2.2.2.1 (by omega)]; simp only [Option.bind_some])
 try (rw [ZE hw2.2.2.2 (by omega)]; simp only [Option.bind_some])
 try rfl
def Qbz : Ctr:=Eg 7 [(.list Qc)] [(.list Qc)] fun x=>toC (.list Qc) x.1
def Up : List (List Nat × Ann):=[([0,3],[.keep 0 0,.drb 0 3 Qc,.keep 0 4])]
def Hn : List (List Nat × Nat):=[([1002],0),([5006],2000019)]
def Ho : List Ctr:=[Qc7]
def Qkn (n : Nat) (a0 : (List Qf)) : Option (List Qf):=Qjk Tryz.prog noG Up Hn (Qk Ho) Tryz.f7 (Tryz.f7.body.getD .skip) (Qdo Tryz.prog Tryz.f7 [(.list Qc)]) n (Qp [(.list Qc)] (a0,()))
abbrev YF (n : Nat) (x1 : (List Qf)) (x2 : (List Qf)) (x3 : Int) : Option (List Qf):=Qk6 Tryz.prog noG Up Hn (Qk Ho) Tryz.f7 (Tryz.f7.body.getD .skip) (Qdo Tryz.prog Tryz.f7 [(.list Qc)]) n [0,3] [.d (.list Qc) x1,.d (.list Qc) x2,.d I64 x3]
theorem QfK (n : Nat) (a0 : (List Qf)) : Qkn n a0 =
  bif decide ((a0.length : Int) = (a0.length : Int)) && decide ((0 : Int) ≤ (a0.length : Int)) && decide ((a0.length : Int) * 120 ≤ JA) && true && true && true then
   YF n a0 (List.replicate (Int.toNat (a0.length : Int)) ((0,0,([] : List Int),([] : List Int)),[],[],[])) 0
  else none:=by kernel_rfl
theorem QbA (n : Nat) (x1 : (List Qf)) (x2 : (List Qf)) (x3 : Int) : YF (n + 1) x1 x2 x3 =
  bif decide (x3 < (x1.length : Int)) then
   bif inB x3 x1.length then
    Option.bind (toC Qc (((rd x1 x3 (Ty.dflt Qc)).1),((rd x1 x3 (Ty.dflt Qc)).2))) fun (y1 : Qf) =>
    bif inB x3 x2.length then
     bif inB x3 x2.length && true && true && true && true && true && true then
      YF n x1 (x2.set (Int.toNat x3) y1) (IntKind.wrap .i64 (x3 + 1))
     else none
    else none
   else none
  else
   some x2:=by kernel_rfl
theorem Qhd : ∀ x ∈ Ho,Qh Tryz.prog x:=(Qd Qkm Qj)
theorem QiO : Qh Tryz.prog Qbz:=by
 refine Xq (by kernel_rfl) (by kernel_rfl : Tryz.prog.funcs[7]? = some Tryz.f7) (code:=Tryz.f7.body.getD .skip) (by kernel_rfl) (by kernel_rfl) (A:=Up) (I:=Hn) Qhd ?_
 rintro ⟨a0,u⟩ y hy
 obtain ⟨n,hn⟩:=QoU (t:=Qc) (f:=toC Qc) (fun x h h2=>ZE h h2) (L:=fun n xs i out=>YF n xs out i) (by_:=120) (by omega) (fun n xs i out=>QbA n xs out i) hy
 exact ⟨n,(QfK n a0).trans hn⟩
def Qah : Ctr:=Eg 9 [(.list Qc),Qa] [(.list Qa)] fun x=>Ze x.1 x.2.1
theorem Qhe : Qh Tryz.prog (Qah):=QpE (by kernel_rfl) (by kernel_rfl) Ez
def ZW : Nat → Int → (List Int) → Option (List Int)
 | 0,_,_=>none
 | m + 1,x1,x2 =>
   bif decide ((0 : Int) < x1) then
    bif decide ((([IntKind.wrap .u8 (IntKind.wrap .i64 (48 + (Int.tmod x1 10)))] : List Int).length : Int) ≤ JA) then
     bif decide ((([IntKind.wrap .u8 (IntKind.wrap .i64 (48 + (Int.tmod x1 10)))] : List Int).length : Int) + (x2.length : Int) ≤ JA) then
      ZW m (IntKind.wrap .i64 (Int.tdiv x1 10)) (([IntKind.wrap .u8 (IntKind.wrap .i64 (48 + (Int.tmod x1 10)))] : List Int) ++ x2)
     else none
    else none
   else
    bif decide ((([109] : List Int).length : Int) + (x2.length : Int) ≤ JA) then
     some (([109] : List Int) ++ x2)
    else none
def Vx (m : Nat) (a0 : Int) : Option (List Int) :=
 bif decide (a0 ≤ 0) then
  some ([109,48] : List Int)
 else
  ZW m a0 ([] : List Int)
def JV (a0 : Int) : Option (List Int):=QhU fun m=>Vx m a0
def Wi : Ctr:=⟨27,[I64],[.str],fun x=>JV x.1⟩
def Wj : List (List Nat × Ann):=[([0,4],[.keep 0 0,.keep 0 3])]
def Uq : List (List Nat × Nat):=[]
def Ur : List Ctr:=[]
def Qda (n : Nat) (a0 : Int) : Option (List Int):=run Tryz.prog Wj Uq (Qk Ur) Tryz.f27 (Tryz.f27.body.getD .skip) (Ql [.str]) n (Qp [I64] (a0,()))
abbrev YV (n : Nat) (x1 : Int) (x2 : (List Int)) : Option (List Int):=lam Tryz.prog Wj Uq (Qk Ur) Tryz.f27 (Tryz.f27.body.getD .skip) (Ql [.str]) n [0,4] [.d I64 x1,.d .str x2]
theorem Qhf (n : Nat) (a0 : Int) : Qda n a0 =
  bif decide (a0 ≤ 0) then
   some ([109,48] : List Int)
  else
   YV n a0 ([] : List Int):=by kernel_rfl
theorem Qcq (n : Nat) (x1 : Int) (x2 : (List Int)) : YV (n + 1) x1 x2 =
  bif decide ((0 : Int) < x1) then
   bif decide ((([IntKind.wrap .u8 (IntKind.wrap .i64 (48 + (Int.tmod x1 10)))] : List Int).length : Int) ≤ JA) then
    bif decide ((([IntKind.wrap .u8 (IntKind.wrap .i64 (48 + (Int.tmod x1 10)))] : List Int).length : Int) + (x2.length : Int) ≤ JA) then
     YV n (IntKind.wrap .i64 (Int.tdiv x1 10)) (([IntKind.wrap .u8 (IntKind.wrap .i64 (48 + (Int.tmod x1 10)))] : List Int) ++ x2)
    else none
   else none
  else
   bif decide ((([109] : List Int).length : Int) + (x2.length : Int) ≤ JA) then
    some (([109] : List Int) ++ x2)
   else none:=by kernel_rfl
theorem QfL : ∀ (m : Nat) (x1 : Int) (x2 : (List Int)) (r : (List Int)),ZW m x1 x2 = some r → Ev (fun n=>YV n x1 x2) r:=by
 intro m
 induction m with
 | zero=>intro x1 x2 r h; rw [ZW] at h; exact Ev.ofNone h
 | succ m ih2 =>
  intro x1 x2 r h
  rw [ZW] at h
  refine Ev.step ?_ (fun n=>Qcq n x1 x2)
  exact (Ev.ofBif h (fun h=>(Ev.ofBif h (fun h=>(Ev.ofBif h (fun h=>(ih2 _ _ _ h)) (fun h=>(Ev.ofNone h)))) (fun h=>(Ev.ofNone h)))) (fun h=>(Ev.ofBif h (fun h=>(Ev.ofSome h)) (fun h=>(Ev.ofNone h)))))
theorem QlD {m : Nat} (a0 : Int) {r : (List Int)} (h : Vx m a0 = some r) : Ev (fun n=>Qda n a0) r:=by
 rw [Vx] at h
 refine Ev.of_eq ?_ (fun n=>Qhf n a0)
 exact (Ev.ofBif h (fun h=>(Ev.ofSome h)) (fun h=>(QfL _ _ _ _ h)))
theorem QiP : ∀ x ∈ Ur,Qh Tryz.prog x:=Qj
theorem QbB : Qh Tryz.prog (Wi):=by
 refine Qi (c:=Wi) (by kernel_rfl) (by kernel_rfl : Tryz.prog.funcs[27]? = some Tryz.f27) (code:=Tryz.f27.body.getD .skip) (by kernel_rfl) (by kernel_rfl) (by kernel_rfl) (A:=Wj) (I:=Uq) (QiP) ?_
 rintro ⟨a0,u⟩ y hy
 exact let ⟨_,h⟩:=(QaO hy).get; (QlD a0 h).get
theorem Qnh : ∀ (m n : Nat) (acc : List Int),n < m → acc.length + n ≤ 2000000000000 → ZW m (n : Int) acc = some (109 :: (QpG m n ++ acc))
 | 0,n,acc,h,_=>by omega
 | m + 1,n,acc,h,hb=>by
  rw [ZW]
  by_cases h0 : n = 0
  ·subst h0
   rw [decide_eq_false (by omega)]
   simp only [cond_false]
   rw [decide_eq_true (by rw [Yv]; simp only [List.length_singleton]; omega)]
   simp [QpG]
  ·have e1 : Int.tmod (n : Int) 10 = ((n % 10 : Nat) : Int):=by rw [Int.tmod_eq_emod_of_nonneg (by omega)]; omega
   have e2 : Int.tdiv (n : Int) 10 = ((n / 10 : Nat) : Int):=by rw [Int.tdiv_eq_ediv_of_nonneg (by omega)]; omega
   have hd : n % 10 < 10:=Nat.mod_lt _ (by omega)
   rw [decide_eq_true (by omega),e1,e2,Qd1 (x:=48 + ((n % 10 : Nat) : Int)) (by omega),Qd1 (x:=((n / 10 : Nat) : Int)) (by omega),Qmf (show inK .u8 (48 + ((n % 10 : Nat) : Int)) = true by rw [Jz,QdH,QdI]; omega)]
   simp only [cond_true,List.length_singleton]
   rw [decide_eq_true (by rw [Yv]; omega),decide_eq_true (by rw [Yv]; omega)]
   simp only [cond_true]
   rw [Qnh m (n / 10) _ (by omega) (by simp; omega)]
   simp [QpG,h0]
theorem Qod : ∀ (m m' n : Nat),n < m → n < m' → QpG m n = QpG m' n
 | 0,_,_,h,_=>by omega
 | _,0,_,_,h=>by omega
 | m + 1,m' + 1,n,h,h'=>by
  simp only [QpG]
  by_cases h0 : n = 0
  ·simp [h0]
  ·rw [if_neg h0,if_neg h0,Qod m m' (n / 10) (by omega) (by omega)]
theorem Qni (k : Int) (h0 : 0 ≤ k) (h1 : k ≤ Q2) : JV k = some (QaP k):=by
 refine Qd3 ⟨k.toNat + 1,fun m hm=>?_⟩
 show Vx m k = some (QaP k)
 rw [Vx]
 unfold QaP
 by_cases h : k ≤ 0
 ·rw [decide_eq_true h,if_pos h]; rfl
 ·rw [decide_eq_false h,if_neg h]
  simp only [cond_false]
  have:=Qnh m k.toNat [] (by omega) (by unfold Q2 at h1; simp; omega)
  rw [Int.toNat_of_nonneg h0] at this
  rw [this,List.append_nil,Qod m (k.toNat + 1) k.toNat (by omega) (by omega)]
theorem Vp : QjJ Tryz.prog 27:=Qs5 (by kernel_rfl) QbB fun k h0 h1=>Qni k h0 h1
theorem Xj : Qcw Tryz.prog 13 (.list Qa):=QhX (tl:=27) (by kernel_rfl : Tryz.prog.funcs[13]? = some Tryz.f13) (c:=Tryz.f13.body.getD .skip) (by kernel_rfl) (by kernel_rfl) (gt:=(some 27)) (hs:=[]) (Qfc Vp) QhY (by kernel_rfl)
def Qai : Ctr:=QqZ 13 (.list Qa) fun x=>Qcz (.list Qa) x.1 x.2.1
theorem Qhg : Qh Tryz.prog Qai:=Qq3 (by kernel_rfl) (by kernel_rfl) (by kernel_rfl) Xj
theorem UX : Qcw Tryz.prog 28 (.list .str):=QhX (tl:=40) (by kernel_rfl : Tryz.prog.funcs[28]? = some Tryz.f28) (c:=Tryz.f28.body.getD .skip) (by kernel_rfl) (by kernel_rfl) (gt:=(some 27)) (hs:=[]) (Qfc Vp) QhY (by kernel_rfl)
theorem QfM : Qcw Tryz.prog 29 (.list Qg):=QhX (tl:=46) (by kernel_rfl : Tryz.prog.funcs[29]? = some Tryz.f29) (c:=Tryz.f29.body.getD .skip) (by kernel_rfl) (by kernel_rfl) (gt:=(some 27)) (hs:=[(13,(.list Qa)),(28,(.list .str))]) (Qfc Vp) (QaQ Xj (QaQ UX QhY)) (by kernel_rfl)
theorem QfN : Qcw Tryz.prog 12 (.list Qc):=QhX (tl:=29) (by kernel_rfl : Tryz.prog.funcs[12]? = some Tryz.f12) (c:=Tryz.f12.body.getD .skip) (by kernel_rfl) (by kernel_rfl) (gt:=(some 27)) (hs:=[(13,(.list Qa)),(28,(.list .str)),(29,(.list Qg))]) (Qfc Vp) (QaQ Xj (QaQ UX (QaQ QfM QhY))) (by kernel_rfl)
def ED : Ctr:=QqZ 12 (.list Qc) fun x=>Qcz (.list Qc) x.1 x.2.1
theorem QfO : Qh Tryz.prog ED:=Qq3 (by kernel_rfl) (by kernel_rfl) (by kernel_rfl) QfN
def Zl : List Qb → Int → Option Int
 | [],x2 =>
   some x2
 | e :: rest,x2 =>
   bif !decide ((e).1 = x2) then
    some (-1)
   else
    bif !decide (((e).2).1 = IntKind.wrap .i64 (x2 + 1)) then
     some (-1)
    else
     Option.bind (JV (IntKind.wrap .i64 ((IntKind.wrap .i64 (x2 + 1)) + 1))) fun (y1 : (List Int)) =>
     bif !decide ((((e).2).2).1 = y1) then
      some (-1)
     else
      Option.bind (JV (IntKind.wrap .i64 ((IntKind.wrap .i64 ((IntKind.wrap .i64 (x2 + 1)) + 1)) + 1))) fun (y2 : (List Int)) =>
      bif !decide ((((e).2).2).2 = y2) then
       some (-1)
      else
       Zl rest (IntKind.wrap .i64 ((IntKind.wrap .i64 ((IntKind.wrap .i64 ((IntKind.wrap .i64 (x2 + 1)) + 1)) + 1)) + 1))
def ZS (a0 : (List Qb)) (a1 : Int) : Option Int :=
 Ym a0 (Zl a0 a1)
def Us : Ctr:=⟨14,[(.list Qa),I64],[I64],fun x=>ZS x.1 x.2.1⟩
def Ut : List (List Nat × Ann):=[([0,2],[.keep 0 0,.keep 0 1,.keep 0 5])]
def Hp : List (List Nat × Nat):=[]
def Hq : List Ctr:=[Wi]
def QbC (n : Nat) (a0 : (List Qb)) (a1 : Int) : Option Int:=run Tryz.prog Ut Hp (Qk Hq) Tryz.f14 (Tryz.f14.body.getD .skip) (Ql [I64]) n (Qp [(.list Qa),I64] (a0,a1,()))
abbrev JQ (n : Nat) (x1 : (List Qb)) (x2 : Int) (x3 : Int) : Option Int:=lam Tryz.prog Ut Hp (Qk Hq) Tryz.f14 (Tryz.f14.body.getD .skip) (Ql [I64]) n [0,2] [.d (.list Qa) x1,.d I64 x2,.d I64 x3]
theorem QfP (n : Nat) (a0 : (List Qb)) (a1 : Int) : QbC n a0 a1 =
  JQ n a0 a1 0:=by kernel_rfl
theorem Xw (n : Nat) (x1 : (List Qb)) (x2 : Int) (x3 : Int) : JQ (n + 1) x1 x2 x3 =
  bif decide (x3 < (x1.length : Int)) then
   bif inB x3 x1.length then
    bif !decide ((rd x1 x3 (Ty.dflt Qa)).1 = x2) then
     some (-1)
    else
     bif inB x3 x1.length then
      bif !decide (((rd x1 x3 (Ty.dflt Qa)).2).1 = IntKind.wrap .i64 (x2 + 1)) then
       some (-1)
      else
       bif inB x3 x1.length then
        Option.bind (JV (IntKind.wrap .i64 ((IntKind.wrap .i64 (x2 + 1)) + 1))) fun (y1 : (List Int)) =>
        bif !decide ((((rd x1 x3 (Ty.dflt Qa)).2).2).1 = y1) then
         some (-1)
        else
         bif inB x3 x1.length then
          Option.bind (JV (IntKind.wrap .i64 ((IntKind.wrap .i64 ((IntKind.wrap .i64 (x2 + 1)) + 1)) + 1))) fun (y2 : (List Int)) =>
          bif !decide ((((rd x1 x3 (Ty.dflt Qa)).2).2).2 = y2) then
           some (-1)
          else
           JQ n x1 (IntKind.wrap .i64 ((IntKind.wrap .i64 ((IntKind.wrap .i64 ((IntKind.wrap .i64 (x2 + 1)) + 1)) + 1)) + 1)) (IntKind.wrap .i64 (x3 + 1))
         else none
       else none
     else none
   else none
  else
   some x2:=by kernel_rfl
theorem QeM {x1 : (List Qb)} (hl : x1.length ≤ maxLen) : ∀ (rest : List Qb) (k : Nat) (x2 : Int) (r : Int),rest = x1.drop k → Zl rest x2 = some r → Ev (fun n=>JQ n x1 x2 (k : Int)) r:=by
 intro rest
 induction rest with
 | nil =>
  intro k x2 r hr h
  have hk:=Za hr
  rw [Zl] at h
  refine Ev.step ?_ (fun n=>Xw n x1 x2 (k : Int))
  rw [show decide ((k : Int) < (x1.length : Int)) = false from decide_eq_false (by omega)]
  exact Ev.neg rfl (Ev.ofSome h)
 | cons e rest ih =>
  intro k x2 r hr h
  obtain ⟨hk,hx,hr2⟩:=QK (d:=(Ty.dflt Qa)) hr
  have hw:=QR hl hk
  have ih2 : ∀ (z2 : Int) (r : Int),Zl rest z2 = some r → Ev (fun n=>JQ n x1 z2 (IntKind.wrap .i64 ((k : Int) + 1))) r:=by
   intro z2 r h; rw [hw]; exact ih (k + 1) z2 r hr2 h
  rw [Zl] at h
  refine Ev.step ?_ (fun n=>Xw n x1 x2 (k : Int))
  rw [show decide ((k : Int) < (x1.length : Int)) = true from decide_eq_true (by omega),QD hk,hx]
  exact Ev.pos rfl (Ev.pos rfl (Ev.ofBif h (fun h=>(Ev.ofSome h)) (fun h=>(Ev.pos rfl (Ev.ofBif h (fun h=>(Ev.ofSome h)) (fun h=>(Ev.pos rfl (Ev.ofBind h fun y1 h=>(Ev.ofBif h (fun h=>(Ev.ofSome h)) (fun h=>(Ev.pos rfl (Ev.ofBind h fun y2 h=>(Ev.ofBif h (fun h=>(Ev.ofSome h)) (fun h=>(ih2 _ _ h)))))))))))))))
theorem Qko (a0 : (List Qb)) (a1 : Int) {r : Int} (h : ZS a0 a1 = some r) : Ev (fun n=>QbC n a0 a1) r:=by
 rw [ZS] at h
 refine Ev.of_eq ?_ (fun n=>QfP n a0 a1)
 exact (Ev.ofLen h fun hl h=>QeM hl _ (0 : Nat) _ _ rfl h)
theorem Qhh : ∀ x ∈ Hq,Qh Tryz.prog x:=(Qd QbB Qj)
theorem QiQ : Qh Tryz.prog (Us):=by
 refine Qi (c:=Us) (by kernel_rfl) (by kernel_rfl : Tryz.prog.funcs[14]? = some Tryz.f14) (code:=Tryz.f14.body.getD .skip) (by kernel_rfl) (by kernel_rfl) (by kernel_rfl) (A:=Ut) (I:=Hp) (Qhh) ?_
 rintro ⟨a0,a1,u⟩ y hy
 exact (Qko a0 a1 hy).get
def YK : Ctr:=⟨5,[Qa,I64],[I64],fun x=>szC Qa x.1 x.2.1⟩
def Qf9 : List (List Nat × Ann):=[]
def QeN : List (List Nat × Nat):=[]
def EE : List Ctr:=[]
def Qga (n : Nat) (a0 : Qb) (a1 : Int) : Option Int:=run Tryz.prog Qf9 QeN (Qk EE) Tryz.f5 (Tryz.f5.body.getD .skip) (Ql [I64]) n (Qp [Qa,I64] (a0,a1,()))
theorem Qkp (n : Nat) (a0 : Qb) (a1 : Int) : Qga n a0 a1 =
  bif decide (IntKind.wrap .i64 (a1 - (a0.2.2.1.length : Int)) < 0) then
   some (-1)
  else
   bif decide (IntKind.wrap .i64 ((IntKind.wrap .i64 (a1 - (a0.2.2.1.length : Int))) - (a0.2.2.2.length : Int)) < 0) then
    some (-1)
   else
    some (IntKind.wrap .i64 ((IntKind.wrap .i64 (a1 - (a0.2.2.1.length : Int))) - (a0.2.2.2.length : Int))):=by kernel_rfl
theorem Qnj (hcs : ∀ x ∈ EE,Qh Tryz.prog x) (h : ∀ (a0 : Qb) (a1 : Int) y,szC Qa a0 a1 = some y → ∃ n,Qga n a0 a1 = some y) : Qh Tryz.prog YK:=by
 refine Qi (c:=YK) (by kernel_rfl) (by kernel_rfl : Tryz.prog.funcs[5]? = some Tryz.f5) (code:=Tryz.f5.body.getD .skip) (by kernel_rfl) (by kernel_rfl) (by kernel_rfl) (A:=Qf9) (I:=QeN) hcs ?_
 rintro ⟨a0,a1,u⟩ y hy
 exact h a0 a1 y hy
theorem QlE : ∀ x ∈ EE,Qh Tryz.prog x:=Qj
theorem Hr : Qh Tryz.prog YK:=Qnj QlE fun a0 a1 y hy=>by
 obtain ⟨hw,h0,h1,rfl⟩:=QhT hy
 have hw2 : wfD I64 a0.1 ∧ wfD I64 a0.2.1 ∧ wfD .str a0.2.2.1 ∧ wfD .str a0.2.2.2:=hw
 have hsz : Ty.size Qa a0 = Ty.size I64 a0.1 + (Ty.size I64 a0.2.1 + (Ty.size .str a0.2.2.1 + (Ty.size .str a0.2.2.2))):=rfl
 have z0 : Ty.size I64 a0.1 = 0:=rfl
 have z1 : Ty.size I64 a0.2.1 = 0:=rfl
 have z2 : Ty.size .str a0.2.2.1 = a0.2.2.1.length:=rfl
 have z3 : Ty.size .str a0.2.2.2 = a0.2.2.2.length:=rfl
 refine ⟨0,?_⟩
 rw [Qkp,hsz]
 have hn2 : a0.2.2.1.length ≤ maxLen:=by have:=(hw2.2.2.1).1; unfold maxLen; omega
 rw [QgA (left:=a1) (n:=a0.2.2.1.length) (by omega) (by omega) hn2]
 rcases Int.lt_or_le (a1) (a0.2.2.1.length : Int) with h | h
 ·rw [decide_eq_true (show (a1 - (a0.2.2.1.length : Int)) < 0 by omega)]; simp only [cond_true]; unfold Qz; rw [if_neg (by omega)]
 rw [decide_eq_false (show ¬ (a1 - (a0.2.2.1.length : Int)) < 0 by omega)]; simp only [cond_false]
 have h_2:=h; clear h
 have hn3 : a0.2.2.2.length ≤ maxLen:=by have:=(hw2.2.2.2).1; unfold maxLen; omega
 rw [QgA (left:=(a1 - (a0.2.2.1.length : Int))) (n:=a0.2.2.2.length) (by omega) (by omega) hn3]
 rcases Int.lt_or_le ((a1 - (a0.2.2.1.length : Int))) (a0.2.2.2.length : Int) with h | h
 ·rw [decide_eq_true (show ((a1 - (a0.2.2.1.length : Int)) - (a0.2.2.2.length : Int)) < 0 by omega)]; simp only [cond_true]; unfold Qz; rw [if_neg (by omega)]
 rw [decide_eq_false (show ¬ ((a1 - (a0.2.2.1.length : Int)) - (a0.2.2.2.length : Int)) < 0 by omega)]; simp only [cond_false]
 have h_3:=h; clear h
 unfold Qz; rw [if_pos (by omega)]; congr 1 <;> omega
def VZ : Ctr:=⟨30,[(.list Qa),I64],[I64],fun x=>szC (.list Qa) x.1 x.2.1⟩
def EF : List (List Nat × Ann):=[([0,5],[.keep 0 0,.keep 0 1,.keep 0 5])]
def Wk : List (List Nat × Nat):=[]
def GV : List Ctr:=[YK]
def QeO (n : Nat) (a0 : (List Qb)) (a1 : Int) : Option Int:=run Tryz.prog EF Wk (Qk GV) Tryz.f30 (Tryz.f30.body.getD .skip) (Ql [I64]) n (Qp [(.list Qa),I64] (a0,a1,()))
abbrev Xk (n : Nat) (x1 : (List Qb)) (x2 : Int) (x3 : Int) : Option Int:=lam Tryz.prog EF Wk (Qk GV) Tryz.f30 (Tryz.f30.body.getD .skip) (Ql [I64]) n [0,5] [.d (.list Qa) x1,.d I64 x2,.d I64 x3]
theorem QiR (n : Nat) (a0 : (List Qb)) (a1 : Int) : QeO n a0 a1 =
  bif decide (IntKind.wrap .i64 (a1 - (a0.length : Int)) < 0) then
   some (-1)
  else
   Xk n a0 (IntKind.wrap .i64 (a1 - (a0.length : Int))) 0:=by kernel_rfl
theorem Qdz (n : Nat) (x1 : (List Qb)) (x2 : Int) (x3 : Int) : Xk (n + 1) x1 x2 x3 =
  bif decide (x3 < (x1.length : Int)) then
   bif inB x3 x1.length then
    Option.bind (szC Qa (rd x1 x3 (Ty.dflt Qa)) x2) fun (y1 : Int) =>
    bif decide (y1 < 0) then
     some (-1)
    else
     Xk n x1 y1 (IntKind.wrap .i64 (x3 + 1))
   else none
  else
   some x2:=by kernel_rfl
theorem QlF (hcs : ∀ x ∈ GV,Qh Tryz.prog x) (h : ∀ (a0 : (List Qb)) (a1 : Int) y,szC (.list Qa) a0 a1 = some y → ∃ n,QeO n a0 a1 = some y) : Qh Tryz.prog VZ:=by
 refine Qi (c:=VZ) (by kernel_rfl) (by kernel_rfl : Tryz.prog.funcs[30]? = some Tryz.f30) (code:=Tryz.f30.body.getD .skip) (by kernel_rfl) (by kernel_rfl) (by kernel_rfl) (A:=EF) (I:=Wk) hcs ?_
 rintro ⟨a0,a1,u⟩ y hy
 exact h a0 a1 y hy
theorem Qkq : ∀ x ∈ GV,Qh Tryz.prog x:=(Qd Hr Qj)
theorem Qdb : Qh Tryz.prog VZ:=QlF Qkq fun a0 a1 y hy=>by
 obtain ⟨n,hn⟩:=QmX (fun n xs s i=>Qdz n xs s i) hy
 exact ⟨n,(QiR n a0 a1).trans hn⟩
def Y6 : Ctr:=⟨31,[(.list .str),I64],[I64],fun x=>szC (.list .str) x.1 x.2.1⟩
def Uu : List (List Nat × Ann):=[([0,5],[.keep 0 0,.keep 0 1,.keep 0 5])]
def Hs : List (List Nat × Nat):=[]
def VI : List Ctr:=[]
def QbD (n : Nat) (a0 : (List (List Int))) (a1 : Int) : Option Int:=run Tryz.prog Uu Hs (Qk VI) Tryz.f31 (Tryz.f31.body.getD .skip) (Ql [I64]) n (Qp [(.list .str),I64] (a0,a1,()))
abbrev V0 (n : Nat) (x1 : (List (List Int))) (x2 : Int) (x3 : Int) : Option Int:=lam Tryz.prog Uu Hs (Qk VI) Tryz.f31 (Tryz.f31.body.getD .skip) (Ql [I64]) n [0,5] [.d (.list .str) x1,.d I64 x2,.d I64 x3]
theorem QfQ (n : Nat) (a0 : (List (List Int))) (a1 : Int) : QbD n a0 a1 =
  bif decide (IntKind.wrap .i64 (a1 - (a0.length : Int)) < 0) then
   some (-1)
  else
   V0 n a0 (IntKind.wrap .i64 (a1 - (a0.length : Int))) 0:=by kernel_rfl
theorem QbE (n : Nat) (x1 : (List (List Int))) (x2 : Int) (x3 : Int) : V0 (n + 1) x1 x2 x3 =
  bif decide (x3 < (x1.length : Int)) then
   bif inB x3 x1.length then
    bif decide (IntKind.wrap .i64 (x2 - ((rd x1 x3 (Ty.dflt .str)).length : Int)) < 0) then
     some (-1)
    else
     V0 n x1 (IntKind.wrap .i64 (x2 - ((rd x1 x3 (Ty.dflt .str)).length : Int))) (IntKind.wrap .i64 (x3 + 1))
   else none
  else
   some x2:=by kernel_rfl
theorem QiS (hcs : ∀ x ∈ VI,Qh Tryz.prog x) (h : ∀ (a0 : (List (List Int))) (a1 : Int) y,szC (.list .str) a0 a1 = some y → ∃ n,QbD n a0 a1 = some y) : Qh Tryz.prog Y6:=by
 refine Qi (c:=Y6) (by kernel_rfl) (by kernel_rfl : Tryz.prog.funcs[31]? = some Tryz.f31) (code:=Tryz.f31.body.getD .skip) (by kernel_rfl) (by kernel_rfl) (by kernel_rfl) (A:=Uu) (I:=Hs) hcs ?_
 rintro ⟨a0,a1,u⟩ y hy
 exact h a0 a1 y hy
theorem Qhi : ∀ x ∈ VI,Qh Tryz.prog x:=Qj
theorem Qaj : Qh Tryz.prog Y6:=QiS Qhi fun a0 a1 y hy=>by
 obtain ⟨n,hn⟩:=QsZ (fun n xs s i=>QbE n xs s i) hy
 exact ⟨n,(QfQ n a0 a1).trans hn⟩
def Ht : Ctr:=⟨53,[Qg,I64],[I64],fun x=>szC Qg x.1 x.2.1⟩
def QeP : List (List Nat × Ann):=[]
def Qdc : List (List Nat × Nat):=[]
def Wl : List Ctr:=[YK,VZ,Y6]
def QeQ (n : Nat) (a0 : Qn) (a1 : Int) : Option Int:=run Tryz.prog QeP Qdc (Qk Wl) Tryz.f53 (Tryz.f53.body.getD .skip) (Ql [I64]) n (Qp [Qg,I64] (a0,a1,()))
theorem QiT (n : Nat) (a0 : Qn) (a1 : Int) : QeQ n a0 a1 =
  Option.bind (szC Qa a0.2.1 a1) fun (y1 : Int) =>
  bif decide (y1 < 0) then
   some (-1)
  else
   Option.bind (szC (.list Qa) a0.2.2.1 y1) fun (y2 : Int) =>
   bif decide (y2 < 0) then
    some (-1)
   else
    Option.bind (szC (.list .str) a0.2.2.2 y2) fun (y3 : Int) =>
    bif decide (y3 < 0) then
     some (-1)
    else
     some y3:=by kernel_rfl
theorem QlG (hcs : ∀ x ∈ Wl,Qh Tryz.prog x) (h : ∀ (a0 : Qn) (a1 : Int) y,szC Qg a0 a1 = some y → ∃ n,QeQ n a0 a1 = some y) : Qh Tryz.prog Ht:=by
 refine Qi (c:=Ht) (by kernel_rfl) (by kernel_rfl : Tryz.prog.funcs[53]? = some Tryz.f53) (code:=Tryz.f53.body.getD .skip) (by kernel_rfl) (by kernel_rfl) (by kernel_rfl) (A:=QeP) (I:=Qdc) hcs ?_
 rintro ⟨a0,a1,u⟩ y hy
 exact h a0 a1 y hy
theorem Qkr : ∀ x ∈ Wl,Qh Tryz.prog x:=(Qd Hr (Qd Qdb (Qd Qaj Qj)))
theorem QlH : Qh Tryz.prog Ht:=QlG Qkr fun a0 a1 y hy=>by
 obtain ⟨hw,h0,h1,rfl⟩:=QhT hy
 have hw2 : wfD I64 a0.1 ∧ wfD Qa a0.2.1 ∧ wfD (.list Qa) a0.2.2.1 ∧ wfD (.list .str) a0.2.2.2:=hw
 have hsz : Ty.size Qg a0 = Ty.size I64 a0.1 + (Ty.size Qa a0.2.1 + (Ty.size (.list Qa) a0.2.2.1 + (Ty.size (.list .str) a0.2.2.2))):=rfl
 have z0 : Ty.size I64 a0.1 = 0:=rfl
 refine ⟨0,?_⟩
 rw [QiT,hsz]
 rw [GA hw2.2.1 (show 0 ≤ a1 by omega) (by omega)]
 simp only [Option.bind_some]
 rcases Int.lt_or_le (a1) ((Ty.size Qa a0.2.1 : Nat) : Int) with h | h
 ·rw [show Qz (a1) (Ty.size Qa a0.2.1) = -1 by unfold Qz; rw [if_neg (by omega)]]; rw [decide_eq_true (show (-1 : Int) < 0 by omega)]; simp only [cond_true]; unfold Qz; rw [if_neg (by omega)]
 rw [show Qz (a1) (Ty.size Qa a0.2.1) = (a1 - ((Ty.size Qa a0.2.1 : Nat) : Int)) by unfold Qz; rw [if_pos h]]; rw [decide_eq_false (show ¬ (a1 - ((Ty.size Qa a0.2.1 : Nat) : Int)) < 0 by omega)]; simp only [cond_false]
 have h_1:=h; clear h
 rw [GA hw2.2.2.1 (show 0 ≤ (a1 - ((Ty.size Qa a0.2.1 : Nat) : Int)) by omega) (by omega)]
 simp only [Option.bind_some]
 rcases Int.lt_or_le ((a1 - ((Ty.size Qa a0.2.1 : Nat) : Int))) ((Ty.size (.list Qa) a0.2.2.1 : Nat) : Int) with h | h
 ·rw [show Qz ((a1 - ((Ty.size Qa a0.2.1 : Nat) : Int))) (Ty.size (.list Qa) a0.2.2.1) = -1 by unfold Qz; rw [if_neg (by omega)]]; rw [decide_eq_true (show (-1 : Int) < 0 by omega)]; simp only [cond_true]; unfold Qz; rw [if_neg (by omega)]
 rw [show Qz ((a1 - ((Ty.size Qa a0.2.1 : Nat) : Int))) (Ty.size (.list Qa) a0.2.2.1) = ((a1 - ((Ty.size Qa a0.2.1 : Nat) : Int)) - ((Ty.size (.list Qa) a0.2.2.1 : Nat) : Int)) by unfold Qz; rw [if_pos h]]; rw [decide_eq_false (show ¬ ((a1 - ((Ty.size Qa a0.2.1 : Nat) : Int)) - ((Ty.size (.list Qa) a0.2.2.1 : Nat) : Int)) < 0 by omega)]; simp only [cond_false]
 have h_2:=h; clear h
 rw [GA hw2.2.2.2 (show 0 ≤ ((a1 - ((Ty.size Qa a0.2.1 : Nat) : Int)) - ((Ty.size (.list Qa) a0.2.2.1 : Nat) : Int)) by omega) (by omega)]
 simp only [Option.bind_some]
 rcases Int.lt_or_le (((a1 - ((Ty.size Qa a0.2.1 : Nat) : Int)) - ((Ty.size (.list Qa) a0.2.2.1 : Nat) : Int))) ((Ty.size (.list .str) a0.2.2.2 : Nat) : Int) with h | h
 ·rw [show Qz (((a1 - ((Ty.size Qa a0.2.1 : Nat) : Int)) - ((Ty.size (.list Qa) a0.2.2.1 : Nat) : Int))) (Ty.size (.list .str) a0.2.2.2) = -1 by unfold Qz; rw [if_neg (by omega)]]; rw [decide_eq_true (show (-1 : Int) < 0 by omega)]; simp only [cond_true]; unfold Qz; rw [if_neg (by omega)]
 rw [show Qz (((a1 - ((Ty.size Qa a0.2.1 : Nat) : Int)) - ((Ty.size (.list Qa) a0.2.2.1 : Nat) : Int))) (Ty.size (.list .str) a0.2.2.2) = (((a1 - ((Ty.size Qa a0.2.1 : Nat) : Int)) - ((Ty.size (.list Qa) a0.2.2.1 : Nat) : Int)) - ((Ty.size (.list .str) a0.2.2.2 : Nat) : Int)) by unfold Qz; rw [if_pos h]]; rw [decide_eq_false (show ¬ (((a1 - ((Ty.size Qa a0.2.1 : Nat) : Int)) - ((Ty.size (.list Qa) a0.2.2.1 : Nat) : Int)) - ((Ty.size (.list .str) a0.2.2.2 : Nat) : Int)) < 0 by omega)]; simp only [cond_false]
 have h_3:=h; clear h
 unfold Qz; rw [if_pos (by omega)]; congr 1 <;> omega
def GW : Ctr:=⟨32,[(.list Qg),I64],[I64],fun x=>szC (.list Qg) x.1 x.2.1⟩
def Wm : List (List Nat × Ann):=[([0,5],[.keep 0 0,.keep 0 1,.keep 0 5])]
def Uv : List (List Nat × Nat):=[]
def Gi : List Ctr:=[Ht]
def Qdd (n : Nat) (a0 : (List Qn)) (a1 : Int) : Option Int:=run Tryz.prog Wm Uv (Qk Gi) Tryz.f32 (Tryz.f32.body.getD .skip) (Ql [I64]) n (Qp [(.list Qg),I64] (a0,a1,()))
abbrev Gv (n : Nat) (x1 : (List Qn)) (x2 : Int) (x3 : Int) : Option Int:=lam Tryz.prog Wm Uv (Qk Gi) Tryz.f32 (Tryz.f32.body.getD .skip) (Ql [I64]) n [0,5] [.d (.list Qg) x1,.d I64 x2,.d I64 x3]
theorem Qhj (n : Nat) (a0 : (List Qn)) (a1 : Int) : Qdd n a0 a1 =
  bif decide (IntKind.wrap .i64 (a1 - (a0.length : Int)) < 0) then
   some (-1)
  else
   Gv n a0 (IntKind.wrap .i64 (a1 - (a0.length : Int))) 0:=by kernel_rfl
theorem Qcr (n : Nat) (x1 : (List Qn)) (x2 : Int) (x3 : Int) : Gv (n + 1) x1 x2 x3 =
  bif decide (x3 < (x1.length : Int)) then
   bif inB x3 x1.length then
    Option.bind (szC Qg (rd x1 x3 (Ty.dflt Qg)) x2) fun (y1 : Int) =>
    bif decide (y1 < 0) then
     some (-1)
    else
     Gv n x1 y1 (IntKind.wrap .i64 (x3 + 1))
   else none
  else
   some x2:=by kernel_rfl
theorem Qks (hcs : ∀ x ∈ Gi,Qh Tryz.prog x) (h : ∀ (a0 : (List Qn)) (a1 : Int) y,szC (.list Qg) a0 a1 = some y → ∃ n,Qdd n a0 a1 = some y) : Qh Tryz.prog GW:=by
 refine Qi (c:=GW) (by kernel_rfl) (by kernel_rfl : Tryz.prog.funcs[32]? = some Tryz.f32) (code:=Tryz.f32.body.getD .skip) (by kernel_rfl) (by kernel_rfl) (by kernel_rfl) (A:=Wm) (I:=Uv) hcs ?_
 rintro ⟨a0,a1,u⟩ y hy
 exact h a0 a1 y hy
theorem QiU : ∀ x ∈ Gi,Qh Tryz.prog x:=(Qd QlH Qj)
theorem Qkt : Qh Tryz.prog GW:=Qks QiU fun a0 a1 y hy=>by
 obtain ⟨n,hn⟩:=QmX (fun n xs s i=>Qcr n xs s i) hy
 exact ⟨n,(Qhj n a0 a1).trans hn⟩
end
end Go.Ab
