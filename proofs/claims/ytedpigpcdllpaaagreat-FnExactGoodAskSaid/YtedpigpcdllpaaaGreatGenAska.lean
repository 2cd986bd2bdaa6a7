import Derived.Test.YtedpigpcdllpaaaGreatCompactLay
import Derived.Test.YtedpigpcdllpaaaGreatProg
import Derived.KernelRfl
namespace Go.Ab
noncomputable section
open Go.Proofs
set_option maxRecDepth 20000
abbrev I64 : Ty:=.int .i64
abbrev U8 : Ty:=.int .u8
abbrev QB : Ty:=(.pair .str .str)
abbrev Qk : Type:=((List Int) × (List Int))
abbrev Qg : Ty:=(.pair I64 (.pair .str .str))
abbrev Qp : Type:=(Int × ((List Int) × (List Int)))
abbrev Zz : Ty:=(.pair I64 (.pair I64 (.pair .str .str)))
abbrev YB : Type:=(Int × (Int × ((List Int) × (List Int))))
abbrev Qz : Ty:=(.pair .str I64)
abbrev QF : Type:=((List Int) × Int)
abbrev Qw : Ty:=(.pair .str (.pair I64 (.pair .str (.pair I64 (.pair I64 (.pair .str .str))))))
abbrev QH : Type:=((List Int) × (Int × ((List Int) × (Int × (Int × ((List Int) × (List Int)))))))
abbrev Qu : Ty:=(.pair .str (.pair (.list Qz) (.list Qw)))
abbrev QC : Type:=((List Int) × ((List QF) × (List QH)))
abbrev Qd : Ty:=(.pair .str (.pair .str (.pair .bool .str)))
abbrev Qm : Type:=((List Int) × ((List Int) × (Bool × (List Int))))
abbrev Qj : Ty:=(.pair .str (.list Qd))
abbrev Qf : Type:=((List Int) × (List Qm))
abbrev Qh : Ty:=(.pair .str (.list Qg))
abbrev Qc : Type:=((List Int) × (List Qp))
abbrev Qe : Ty:=(.pair .str (.pair (.list Qj) (.list Qh)))
abbrev Qb : Type:=((List Int) × ((List Qf) × (List Qc)))
abbrev Qi : Ty:=(.pair (.list Qu) (.list Qe))
abbrev Qa : Type:=((List QC) × (List Qb))
abbrev G7 : Ty:=(.pair .str (.pair .str (.pair .str (.pair .str (.pair .str .str)))))
abbrev Ef : Type:=((List Int) × ((List Int) × ((List Int) × ((List Int) × ((List Int) × (List Int))))))
abbrev QN : Ty:=(.pair .str (.pair .str I64))
abbrev Qn : Type:=((List Int) × ((List Int) × Int))
abbrev Yo : Ty:=(.tree Qg)
abbrev Q5 : Type:=(Tree Qp)
abbrev Q7 : Ty:=(.pair I64 (.pair I64 .bool))
abbrev Qr : Type:=(Int × (Int × Bool))
abbrev ZV : Ty:=(.pair QB .bool)
abbrev Qx : Type:=(Qk × Bool)
def Y3 (a0 : Int) : Bool :=
 bif decide ((48 : Int) ≤ a0) then
  decide (a0 ≤ 57)
 else
  false
def Qbp : Ctr:=⟨139,[U8],[.bool],fun x=>some (Y3 x.1)⟩
def Qnl : List (List Nat × Ann):=[]
def Qlz : List (List Nat × Nat):=[]
def QlA : List Ctr:=[]
def Qnm (n : Nat) (a0 : Int) : Option Bool:=run Tryz.prog Qnl Qlz (Qv QlA) Tryz.f139 (Tryz.f139.body.getD .skip) (Qy [.bool]) n (QE [U8] (a0,()))
theorem Qs6 (n : Nat) (a0 : Int) : Qnm n a0 =
  bif decide ((48 : Int) ≤ a0) then
   some (decide (a0 ≤ 57))
  else
   some false:=by kernel_rfl
theorem Qy8 (n : Nat) (a0 : Int) : Qnm n a0 = some (Y3 a0):=(Qs6 n a0).trans (Je rfl rfl)
theorem Qvg : ∀ x ∈ QlA,Qo Tryz.prog x:=Qt
theorem QlB : Qo Tryz.prog (Qbp):=by
 refine Qq (c:=Qbp) (by kernel_rfl) (by kernel_rfl : Tryz.prog.funcs[139]? = some Tryz.f139) (code:=Tryz.f139.body.getD .skip) (by kernel_rfl) (by kernel_rfl) (by kernel_rfl) (A:=Qnl) (I:=Qlz) (Qvg) ?_
 rintro ⟨a0,u⟩ y hy
 exact ⟨0,(Qy8 0 a0).trans hy⟩
def VO (a0 : Int) : Bool :=
 bif decide ((97 : Int) ≤ a0) then
  bif decide (a0 ≤ 122) then
   true
  else
   bif decide ((65 : Int) ≤ a0) then
    decide (a0 ≤ 90)
   else
    false
 else
  bif decide ((65 : Int) ≤ a0) then
   decide (a0 ≤ 90)
  else
   false
def Qaq : Ctr:=⟨138,[U8],[.bool],fun x=>some (VO x.1)⟩
def QlC : List (List Nat × Ann):=[]
def Qjf : List (List Nat × Nat):=[]
def Qjg : List Ctr:=[]
def QlD (n : Nat) (a0 : Int) : Option Bool:=run Tryz.prog QlC Qjf (Qv Qjg) Tryz.f138 (Tryz.f138.body.getD .skip) (Qy [.bool]) n (QE [U8] (a0,()))
theorem Qrm (n : Nat) (a0 : Int) : QlD n a0 =
  bif decide ((97 : Int) ≤ a0) then
   bif decide (a0 ≤ 122) then
    some true
   else
    bif decide ((65 : Int) ≤ a0) then
     some (decide (a0 ≤ 90))
    else
     some false
  else
   bif decide ((65 : Int) ≤ a0) then
    some (decide (a0 ≤ 90))
   else
    some false:=by kernel_rfl
theorem QwZ (n : Nat) (a0 : Int) : QlD n a0 = some (VO a0):=(Qrm n a0).trans (Je (Je rfl (Je rfl rfl)) (Je rfl rfl))
theorem Qs7 : ∀ x ∈ Qjg,Qo Tryz.prog x:=Qt
theorem Qjh : Qo Tryz.prog (Qaq):=by
 refine Qq (c:=Qaq) (by kernel_rfl) (by kernel_rfl : Tryz.prog.funcs[138]? = some Tryz.f138) (code:=Tryz.f138.body.getD .skip) (by kernel_rfl) (by kernel_rfl) (by kernel_rfl) (A:=QlC) (I:=Qjf) (Qs7) ?_
 rintro ⟨a0,u⟩ y hy
 exact ⟨0,(QwZ 0 a0).trans hy⟩
def Z5 : List Int → Option Bool
 | [] =>
   some true
 | e :: rest =>
   bif !(VO (e)) then
    bif !(Y3 (e)) then
     bif !decide (e = 95) then
      some false
     else
      Z5 rest
    else
     Z5 rest
   else
    Z5 rest
def Zv (a0 : (List Int)) : Option Bool :=
 bif decide ((a0.length : Int) < 1) then
  some false
 else
  bif decide ((30 : Int) < (a0.length : Int)) then
   some false
  else
   bif inB 0 a0.length then
    bif Y3 (rd a0 0 0) then
     some false
    else
     ZF a0 (Z5 a0)
   else none
def Uw : Ctr:=⟨95,[.str],[.bool],fun x=>Zv x.1⟩
def Qev : List (List Nat × Ann):=[([0,4],[.keep 0 0,.keep 0 3])]
def QcZ : List (List Nat × Nat):=[]
def Qc0 : List Ctr:=[Qbp,Qaq]
def QlE (n : Nat) (a0 : (List Int)) : Option Bool:=run Tryz.prog Qev QcZ (Qv Qc0) Tryz.f95 (Tryz.f95.body.getD .skip) (Qy [.bool]) n (QE [.str] (a0,()))
abbrev YP (n : Nat) (x1 : (List Int)) (x2 : Int) : Option Bool:=lam Tryz.prog Qev QcZ (Qv Qc0) Tryz.f95 (Tryz.f95.body.getD .skip) (Qy [.bool]) n [0,4] [.d .str x1,.d I64 x2]
theorem Qrn (n : Nat) (a0 : (List Int)) : QlE n a0 =
  bif decide ((a0.length : Int) < 1) then
   some false
  else
   bif decide ((30 : Int) < (a0.length : Int)) then
    some false
   else
    bif inB 0 a0.length then
     bif Y3 (rd a0 0 0) then
      some false
     else
      YP n a0 0
    else none:=by kernel_rfl
theorem Qbq (n : Nat) (x1 : (List Int)) (x2 : Int) : YP (n + 1) x1 x2 =
  bif decide (x2 < (x1.length : Int)) then
   bif inB x2 x1.length then
    bif !(VO (rd x1 x2 0)) then
     bif inB x2 x1.length then
      bif !(Y3 (rd x1 x2 0)) then
       bif inB x2 x1.length then
        bif !decide (rd x1 x2 0 = 95) then
         some false
        else
         YP n x1 (IntKind.wrap .i64 (x2 + 1))
       else none
      else
       YP n x1 (IntKind.wrap .i64 (x2 + 1))
     else none
    else
     YP n x1 (IntKind.wrap .i64 (x2 + 1))
   else none
  else
   some true:=by kernel_rfl
theorem Qpd {x1 : (List Int)} (hl : x1.length ≤ maxLen) : ∀ (rest : List Int) (k : Nat) (r : Bool),rest = x1.drop k → Z5 rest = some r → Ev (fun n=>YP n x1 (k : Int)) r:=by
 intro rest
 induction rest with
 | nil =>
  intro k r hr h
  have hk:=QR hr
  rw [Z5] at h
  refine Ev.step ?_ (fun n=>Qbq n x1 (k : Int))
  rw [show decide ((k : Int) < (x1.length : Int)) = false from decide_eq_false (by omega)]
  exact Ev.neg rfl (Ev.ofSome h)
 | cons e rest ih =>
  intro k r hr h
  obtain ⟨hk,hx,hr2⟩:=QJ (d:=0) hr
  have hw:=QG hl hk
  have ih2 : ∀ (r : Bool),Z5 rest = some r → Ev (fun n=>YP n x1 (IntKind.wrap .i64 ((k : Int) + 1))) r:=by
   intro r h; rw [hw]; exact ih (k + 1) r hr2 h
  rw [Z5] at h
  refine Ev.step ?_ (fun n=>Qbq n x1 (k : Int))
  rw [show decide ((k : Int) < (x1.length : Int)) = true from decide_eq_true (by omega),QM hk,hx]
  exact Ev.pos rfl (Ev.pos rfl (Ev.ofBif h (fun h=>(Ev.pos rfl (Ev.ofBif h (fun h=>(Ev.pos rfl (Ev.ofBif h (fun h=>(Ev.ofSome h)) (fun h=>(ih2  _ h))))) (fun h=>(ih2  _ h))))) (fun h=>(ih2  _ h))))
theorem Qw0 (a0 : (List Int)) {r : Bool} (h : Zv a0 = some r) : Ev (fun n=>QlE n a0) r:=by
 rw [Zv] at h
 refine Ev.of_eq ?_ (fun n=>Qrn n a0)
 exact (Ev.ofBif h (fun h=>(Ev.ofSome h)) (fun h=>(Ev.ofBif h (fun h=>(Ev.ofSome h)) (fun h=>(Ev.ofBif h (fun h=>(Ev.ofBif h (fun h=>(Ev.ofSome h)) (fun h=>(Ev.ofLen h fun hl h=>Qpd hl _ (0 : Nat) _ rfl h)))) (fun h=>(Ev.ofNone h)))))))
theorem Qs8 : ∀ x ∈ Qc0,Qo Tryz.prog x:=(Ql QlB (Ql Qjh Qt))
theorem Qc1 : Qo Tryz.prog (Uw):=by
 refine Qq (c:=Uw) (by kernel_rfl) (by kernel_rfl : Tryz.prog.funcs[95]? = some Tryz.f95) (code:=Tryz.f95.body.getD .skip) (by kernel_rfl) (by kernel_rfl) (by kernel_rfl) (A:=Qev) (I:=QcZ) (Qs8) ?_
 rintro ⟨a0,u⟩ y hy
 exact (Qw0 a0 hy).get
def YA (a0 : Int) (a1 : Int) : Int :=
 bif decide (a0 < a1) then
  (-1)
 else
  bif decide (a1 < a0) then
   1
  else
   0
def Qew : Ctr:=⟨94,[I64,I64],[I64],fun x=>some (YA x.1 x.2.1)⟩
def QlF : List (List Nat × Ann):=[]
def Qji : List (List Nat × Nat):=[]
def Qjj : List Ctr:=[]
def QlG (n : Nat) (a0 : Int) (a1 : Int) : Option Int:=run Tryz.prog QlF Qji (Qv Qjj) Tryz.f94 (Tryz.f94.body.getD .skip) (Qy [I64]) n (QE [I64,I64] (a0,a1,()))
theorem Qro (n : Nat) (a0 : Int) (a1 : Int) : QlG n a0 a1 =
  bif decide (a0 < a1) then
   some (-1)
  else
   bif decide (a1 < a0) then
    some 1
   else
    some 0:=by kernel_rfl
theorem Qw1 (n : Nat) (a0 : Int) (a1 : Int) : QlG n a0 a1 = some (YA a0 a1):=(Qro n a0 a1).trans (Je rfl (Je rfl rfl))
theorem Qs9 : ∀ x ∈ Qjj,Qo Tryz.prog x:=Qt
theorem Qvh : Qo Tryz.prog (Qew):=by
 refine Qq (c:=Qew) (by kernel_rfl) (by kernel_rfl : Tryz.prog.funcs[94]? = some Tryz.f94) (code:=Tryz.f94.body.getD .skip) (by kernel_rfl) (by kernel_rfl) (by kernel_rfl) (A:=QlF) (I:=Qji) (Qs9) ?_
 rintro ⟨a0,a1,u⟩ y hy
 exact ⟨0,(Qw1 0 a0 a1).trans hy⟩
def Ji (x1 : (List Int)) (x2 : (List Int)) : List Int → Nat → Option Int
 | [],k =>
   some (YA (x1.length : Int) (x2.length : Int))
 | e :: rest,k =>
   bif decide ((k : Int) < (x2.length : Int)) then
    bif inB (k : Int) x2.length then
     bif !decide (e = rd x2 (k : Int) 0) then
      bif inB (k : Int) x2.length then
       some (YA (IntKind.wrap .i64 (e)) (IntKind.wrap .i64 (rd x2 (k : Int) 0)))
      else none
     else
      Ji x1 x2 rest (k + 1)
    else none
   else
    some (YA (x1.length : Int) (x2.length : Int))
def QX (a0 : (List Int)) (a1 : (List Int)) : Option Int :=
 ZF a0 (Ji a0 a1 a0 0)
def G0 : Ctr:=⟨74,[.str,.str],[I64],fun x=>QX x.1 x.2.1⟩
def Qc2 : List (List Nat × Ann):=[([0,2],[.keep 0 0,.keep 0 1,.keep 0 5])]
def Qbr : List (List Nat × Nat):=[]
def Qbs : List Ctr:=[Qew]
def Qjk (n : Nat) (a0 : (List Int)) (a1 : (List Int)) : Option Int:=run Tryz.prog Qc2 Qbr (Qv Qbs) Tryz.f74 (Tryz.f74.body.getD .skip) (Qy [I64]) n (QE [.str,.str] (a0,a1,()))
abbrev V7 (n : Nat) (x1 : (List Int)) (x2 : (List Int)) (x3 : Int) : Option Int:=lam Tryz.prog Qc2 Qbr (Qv Qbs) Tryz.f74 (Tryz.f74.body.getD .skip) (Qy [I64]) n [0,2] [.d .str x1,.d .str x2,.d I64 x3]
theorem Qpe (n : Nat) (a0 : (List Int)) (a1 : (List Int)) : Qjk n a0 a1 =
  V7 n a0 a1 0:=by kernel_rfl
theorem Qa4 (n : Nat) (x1 : (List Int)) (x2 : (List Int)) (x3 : Int) : V7 (n + 1) x1 x2 x3 =
  bif decide (x3 < (x1.length : Int)) then
   bif decide (x3 < (x2.length : Int)) then
    bif inB x3 x1.length then
     bif inB x3 x2.length then
      bif !decide (rd x1 x3 0 = rd x2 x3 0) then
       bif inB x3 x1.length then
        bif inB x3 x2.length then
         some (YA (IntKind.wrap .i64 (rd x1 x3 0)) (IntKind.wrap .i64 (rd x2 x3 0)))
        else none
       else none
      else
       V7 n x1 x2 (IntKind.wrap .i64 (x3 + 1))
     else none
    else none
   else
    some (YA (x1.length : Int) (x2.length : Int))
  else
   some (YA (x1.length : Int) (x2.length : Int)):=by kernel_rfl
theorem Qnn {x1 : (List Int)} {x2 : (List Int)} (hl : x1.length ≤ maxLen) : ∀ (rest : List Int) (k : Nat) (r : Int),rest = x1.drop k → Ji x1 x2 rest k = some r → Ev (fun n=>V7 n x1 x2 (k : Int)) r:=by
 intro rest
 induction rest with
 | nil =>
  intro k r hr h
  have hk:=QR hr
  rw [Ji] at h
  refine Ev.step ?_ (fun n=>Qa4 n x1 x2 (k : Int))
  rw [show decide ((k : Int) < (x1.length : Int)) = false from decide_eq_false (by omega)]
  exact Ev.neg rfl (Ev.ofSome h)
 | cons e rest ih =>
  intro k r hr h
  obtain ⟨hk,hx,hr2⟩:=QJ (d:=0) hr
  have hw:=QG hl hk
  have ih2 : ∀ (r : Int),Ji x1 x2 rest (k + 1) = some r → Ev (fun n=>V7 n x1 x2 (IntKind.wrap .i64 ((k : Int) + 1))) r:=by
   intro r h; rw [hw]; exact ih (k + 1) r hr2 h
  rw [Ji] at h
  refine Ev.step ?_ (fun n=>Qa4 n x1 x2 (k : Int))
  rw [show decide ((k : Int) < (x1.length : Int)) = true from decide_eq_true (by omega),QM hk,hx]
  exact Ev.pos rfl (Ev.ofBif h (fun h=>(Ev.pos rfl (Ev.ofBif h (fun h=>(Ev.ofBif h (fun h=>(Ev.pos rfl (Ev.ofBif h (fun h=>(Ev.ofSome h)) (fun h=>(Ev.ofNone h))))) (fun h=>(ih2  _ h)))) (fun h=>(Ev.ofNone h))))) (fun h=>(Ev.ofSome h)))
theorem Qvi (a0 : (List Int)) (a1 : (List Int)) {r : Int} (h : QX a0 a1 = some r) : Ev (fun n=>Qjk n a0 a1) r:=by
 rw [QX] at h
 refine Ev.of_eq ?_ (fun n=>Qpe n a0 a1)
 exact (Ev.ofLen h fun hl h=>Qnn hl _ (0 : Nat) _ rfl h)
theorem Qrp : ∀ x ∈ Qbs,Qo Tryz.prog x:=(Ql Qvh Qt)
theorem Wc : Qo Tryz.prog (G0):=by
 refine Qq (c:=G0) (by kernel_rfl) (by kernel_rfl : Tryz.prog.funcs[74]? = some Tryz.f74) (code:=Tryz.f74.body.getD .skip) (by kernel_rfl) (by kernel_rfl) (by kernel_rfl) (A:=Qc2) (I:=Qbr) (Qrp) ?_
 rintro ⟨a0,a1,u⟩ y hy
 exact (Qvi a0 a1 hy).get
def Yv (x1 : (List Int)) : List QF → Option (QF × Bool)
 | [] =>
   some ((([] : List Int),0),false)
 | e :: rest =>
   bif decide ((e).1 = x1) then
    some ((e),true)
   else
    Yv x1 rest
def Vv (a0 : (List QF)) (a1 : (List Int)) : Option (QF × Bool) :=
 ZF a0 (Yv a1 a0)
def Qf6 : Ctr:=⟨180,[(.list Qz),.str],[Qz,.bool],fun x=>Vv x.1 x.2.1⟩
def Qf7 : List (List Nat × Ann):=[([0,2],[.keep 0 1,.keep 0 4,.keep 0 8,.keep 0 9,.keep 0 10,.boxd 0 4 Qz])]
def Qex : List (List Nat × Nat):=[]
def Qey : List Ctr:=[]
def Qno (n : Nat) (a0 : (List QF)) (a1 : (List Int)) : Option (QF × Bool):=run Tryz.prog Qf7 Qex (Qv Qey) Tryz.f180 (Tryz.f180.body.getD .skip) (Qy [Qz,.bool]) n (QE [(.list Qz),.str] (a0,a1,()))
abbrev G8 (n : Nat) (x1 : (List Int)) (x2 : (List QF)) (x3 : Int) (x4 : Int) (x5 : QF) : Option (QF × Bool):=lam Tryz.prog Qf7 Qex (Qv Qey) Tryz.f180 (Tryz.f180.body.getD .skip) (Qy [Qz,.bool]) n [0,2] [.d .str x1,.ptr 0 4 0,.d (.list Qz) x2,.d I64 x3,.d I64 x4,.agg (QA Qz x5)]
theorem Qta (n : Nat) (a0 : (List QF)) (a1 : (List Int)) : Qno n a0 a1 =
  G8 n a1 a0 (a0.length : Int) 0 (([] : List Int),0):=by kernel_rfl
theorem Qcs (n : Nat) (x1 : (List Int)) (x2 : (List QF)) (x3 : Int) (x4 : Int) (x5 : QF) : G8 (n + 1) x1 x2 x3 x4 x5 =
  bif decide (x4 < x3) then
   bif inB x4 x2.length then
    bif decide ((rd x2 x4 (Ty.dflt Qz)).1 = x1) then
     some ((rd x2 x4 (Ty.dflt Qz)),true)
    else
     G8 n x1 x2 x3 (IntKind.wrap .i64 (x4 + 1)) x5
   else none
  else
   some ((([] : List Int),0),false):=by kernel_rfl
theorem Qrq {x1 : (List Int)} {x2 : (List QF)} {x5 : QF} (hl : x2.length ≤ maxLen) : ∀ (rest : List QF) (k : Nat) (r : (QF × Bool)),rest = x2.drop k → Yv x1 rest = some r → Ev (fun n=>G8 n x1 x2 (x2.length : Int) (k : Int) x5) r:=by
 intro rest
 induction rest with
 | nil =>
  intro k r hr h
  have hk:=QR hr
  rw [Yv] at h
  refine Ev.step ?_ (fun n=>Qcs n x1 x2 (x2.length : Int) (k : Int) x5)
  rw [show decide ((k : Int) < (x2.length : Int)) = false from decide_eq_false (by omega)]
  exact Ev.neg rfl (Ev.ofSome h)
 | cons e rest ih =>
  intro k r hr h
  obtain ⟨hk,hx,hr2⟩:=QJ (d:=(Ty.dflt Qz)) hr
  have hw:=QG hl hk
  have ih2 : ∀ (r : (QF × Bool)),Yv x1 rest = some r → Ev (fun n=>G8 n x1 x2 (x2.length : Int) (IntKind.wrap .i64 ((k : Int) + 1)) x5) r:=by
   intro r h; rw [hw]; exact ih (k + 1) r hr2 h
  rw [Yv] at h
  refine Ev.step ?_ (fun n=>Qcs n x1 x2 (x2.length : Int) (k : Int) x5)
  rw [show decide ((k : Int) < (x2.length : Int)) = true from decide_eq_true (by omega),QM hk,hx]
  exact Ev.pos rfl (Ev.pos rfl (Ev.ofBif h (fun h=>(Ev.ofSome h)) (fun h=>(ih2  _ h))))
theorem Qy9 (a0 : (List QF)) (a1 : (List Int)) {r : (QF × Bool)} (h : Vv a0 a1 = some r) : Ev (fun n=>Qno n a0 a1) r:=by
 rw [Vv] at h
 refine Ev.of_eq ?_ (fun n=>Qta n a0 a1)
 exact (Ev.ofLen h fun hl h=>Qrq hl _ (0 : Nat) _ rfl h)
theorem Qvj : ∀ x ∈ Qey,Qo Tryz.prog x:=Qt
theorem Qw2 : Qo Tryz.prog (Qf6):=by
 refine Qq (c:=Qf6) (by kernel_rfl) (by kernel_rfl : Tryz.prog.funcs[180]? = some Tryz.f180) (code:=Tryz.f180.body.getD .skip) (by kernel_rfl) (by kernel_rfl) (by kernel_rfl) (A:=Qf7) (I:=Qex) (Qvj) ?_
 rintro ⟨a0,a1,u⟩ y hy
 exact (Qy9 a0 a1 hy).get
def JM : List Int → Option Bool
 | [] =>
   some true
 | e :: rest =>
   bif decide (e < 32) then
    some false
   else
    bif decide ((126 : Int) < e) then
     some false
    else
     JM rest
def YD (a0 : (List Int)) : Option Bool :=
 ZF a0 (JM a0)
def Qc3 : Ctr:=⟨97,[.str],[.bool],fun x=>YD x.1⟩
def Qc4 : List (List Nat × Ann):=[([0,2],[.keep 0 0,.keep 0 3])]
def Qbt : List (List Nat × Nat):=[]
def Qbu : List Ctr:=[]
def Qjl (n : Nat) (a0 : (List Int)) : Option Bool:=run Tryz.prog Qc4 Qbt (Qv Qbu) Tryz.f97 (Tryz.f97.body.getD .skip) (Qy [.bool]) n (QE [.str] (a0,()))
abbrev V8 (n : Nat) (x1 : (List Int)) (x2 : Int) : Option Bool:=lam Tryz.prog Qc4 Qbt (Qv Qbu) Tryz.f97 (Tryz.f97.body.getD .skip) (Qy [.bool]) n [0,2] [.d .str x1,.d I64 x2]
theorem Qpf (n : Nat) (a0 : (List Int)) : Qjl n a0 =
  V8 n a0 0:=by kernel_rfl
theorem Qa5 (n : Nat) (x1 : (List Int)) (x2 : Int) : V8 (n + 1) x1 x2 =
  bif decide (x2 < (x1.length : Int)) then
   bif inB x2 x1.length then
    bif decide (rd x1 x2 0 < 32) then
     some false
    else
     bif inB x2 x1.length then
      bif decide ((126 : Int) < rd x1 x2 0) then
       some false
      else
       V8 n x1 (IntKind.wrap .i64 (x2 + 1))
     else none
   else none
  else
   some true:=by kernel_rfl
theorem Qnp {x1 : (List Int)} (hl : x1.length ≤ maxLen) : ∀ (rest : List Int) (k : Nat) (r : Bool),rest = x1.drop k → JM rest = some r → Ev (fun n=>V8 n x1 (k : Int)) r:=by
 intro rest
 induction rest with
 | nil =>
  intro k r hr h
  have hk:=QR hr
  rw [JM] at h
  refine Ev.step ?_ (fun n=>Qa5 n x1 (k : Int))
  rw [show decide ((k : Int) < (x1.length : Int)) = false from decide_eq_false (by omega)]
  exact Ev.neg rfl (Ev.ofSome h)
 | cons e rest ih =>
  intro k r hr h
  obtain ⟨hk,hx,hr2⟩:=QJ (d:=0) hr
  have hw:=QG hl hk
  have ih2 : ∀ (r : Bool),JM rest = some r → Ev (fun n=>V8 n x1 (IntKind.wrap .i64 ((k : Int) + 1))) r:=by
   intro r h; rw [hw]; exact ih (k + 1) r hr2 h
  rw [JM] at h
  refine Ev.step ?_ (fun n=>Qa5 n x1 (k : Int))
  rw [show decide ((k : Int) < (x1.length : Int)) = true from decide_eq_true (by omega),QM hk,hx]
  exact Ev.pos rfl (Ev.pos rfl (Ev.ofBif h (fun h=>(Ev.ofSome h)) (fun h=>(Ev.pos rfl (Ev.ofBif h (fun h=>(Ev.ofSome h)) (fun h=>(ih2  _ h)))))))
theorem Qvk (a0 : (List Int)) {r : Bool} (h : YD a0 = some r) : Ev (fun n=>Qjl n a0) r:=by
 rw [YD] at h
 refine Ev.of_eq ?_ (fun n=>Qpf n a0)
 exact (Ev.ofLen h fun hl h=>Qnp hl _ (0 : Nat) _ rfl h)
theorem Qrr : ∀ x ∈ Qbu,Qo Tryz.prog x:=Qt
theorem Qtb : Qo Tryz.prog (Qc3):=by
 refine Qq (c:=Qc3) (by kernel_rfl) (by kernel_rfl : Tryz.prog.funcs[97]? = some Tryz.f97) (code:=Tryz.f97.body.getD .skip) (by kernel_rfl) (by kernel_rfl) (by kernel_rfl) (A:=Qc4) (I:=Qbt) (Qrr) ?_
 rintro ⟨a0,u⟩ y hy
 exact (Qvk a0 hy).get
def Vw (x1 : Int) : Nat → Int → Int → Option Int
 | 0,_,_=>none
 | m + 1,x2,x3 =>
   bif decide (x3 < x1) then
    Vw x1 m (IntKind.wrap .i64 (x2 * 2)) (IntKind.wrap .i64 (x3 + 1))
   else
    some x2
def Qil (m : Nat) (a0 : Int) : Option Int :=
 Vw a0 m 1 0
def X7 (a0 : Int) : Option Int:=Qhw fun m=>Qil m a0
def Qdu : Ctr:=⟨98,[I64],[I64],fun x=>X7 x.1⟩
def Qim : List (List Nat × Ann):=[([0,3],[.keep 0 0,.keep 0 3,.keep 0 4])]
def Qf8 : List (List Nat × Nat):=[]
def Qf9 : List Ctr:=[]
def Qqk (n : Nat) (a0 : Int) : Option Int:=run Tryz.prog Qim Qf8 (Qv Qf9) Tryz.f98 (Tryz.f98.body.getD .skip) (Qy [I64]) n (QE [I64] (a0,()))
abbrev Wd (n : Nat) (x1 : Int) (x2 : Int) (x3 : Int) : Option Int:=lam Tryz.prog Qim Qf8 (Qv Qf9) Tryz.f98 (Tryz.f98.body.getD .skip) (Qy [I64]) n [0,3] [.d I64 x1,.d I64 x2,.d I64 x3]
theorem Qvl (n : Nat) (a0 : Int) : Qqk n a0 =
  Wd n a0 1 0:=by kernel_rfl
theorem Qnq (n : Nat) (x1 : Int) (x2 : Int) (x3 : Int) : Wd (n + 1) x1 x2 x3 =
  bif decide (x3 < x1) then
   Wd n x1 (IntKind.wrap .i64 (x2 * 2)) (IntKind.wrap .i64 (x3 + 1))
  else
   some x2:=by kernel_rfl
theorem Qtc {x1 : Int} : ∀ (m : Nat) (x2 : Int) (x3 : Int) (r : Int),Vw x1 m x2 x3 = some r → Ev (fun n=>Wd n x1 x2 x3) r:=by
 intro m
 induction m with
 | zero=>intro x2 x3 r h; rw [Vw] at h; exact Ev.ofNone h
 | succ m ih2 =>
  intro x2 x3 r h
  rw [Vw] at h
  refine Ev.step ?_ (fun n=>Qnq n x1 x2 x3)
  exact (Ev.ofBif h (fun h=>(ih2 _ _ _ h)) (fun h=>(Ev.ofSome h)))
theorem QAg {m : Nat} (a0 : Int) {r : Int} (h : Qil m a0 = some r) : Ev (fun n=>Qqk n a0) r:=by
 rw [Qil] at h
 refine Ev.of_eq ?_ (fun n=>Qvl n a0)
 exact (Qtc _ _ _ _ h)
theorem Qw3 : ∀ x ∈ Qf9,Qo Tryz.prog x:=Qt
theorem Qnr : Qo Tryz.prog (Qdu):=by
 refine Qq (c:=Qdu) (by kernel_rfl) (by kernel_rfl : Tryz.prog.funcs[98]? = some Tryz.f98) (code:=Tryz.f98.body.getD .skip) (by kernel_rfl) (by kernel_rfl) (by kernel_rfl) (A:=Qim) (I:=Qf8) (Qw3) ?_
 rintro ⟨a0,u⟩ y hy
 exact let ⟨_,h⟩:=(Ee hy).get; (QAg a0 h).get
def G9 (a0 : YB) : Option (Int × Int) :=
 Option.bind (X7 (IntKind.wrap .i64 (32 - (Int.tmod a0.2.1 64)))) fun (y1 : Int) =>
 some (IntKind.wrap .i64 (Int.tdiv a0.2.1 64),y1)
def Qga : Ctr:=⟨99,[Zz],[I64,I64],fun x=>G9 x.1⟩
def Qns : List (List Nat × Ann):=[]
def QlH : List (List Nat × Nat):=[]
def QlI : List Ctr:=[Qdu]
def Qnt (n : Nat) (a0 : YB) : Option (Int × Int):=run Tryz.prog Qns QlH (Qv QlI) Tryz.f99 (Tryz.f99.body.getD .skip) (Qy [I64,I64]) n (QE [Zz] (a0,()))
theorem Qtd (n : Nat) (a0 : YB) : Qnt n a0 =
  Option.bind (X7 (IntKind.wrap .i64 (32 - (Int.tmod a0.2.1 64)))) fun (y1 : Int) =>
  some (IntKind.wrap .i64 (Int.tdiv a0.2.1 64),y1):=by kernel_rfl
theorem Qza (a0 : YB) {r : (Int × Int)} (h : G9 a0 = some r) : Ev (fun n=>Qnt n a0) r:=by
 rw [G9] at h
 refine Ev.of_eq ?_ (fun n=>Qtd n a0)
 exact (Ev.ofBind h fun y1 h=>(Ev.ofSome h))
theorem Qvm : ∀ x ∈ QlI,Qo Tryz.prog x:=(Ql Qnr Qt)
theorem Qw4 : Qo Tryz.prog (Qga):=by
 refine Qq (c:=Qga) (by kernel_rfl) (by kernel_rfl : Tryz.prog.funcs[99]? = some Tryz.f99) (code:=Tryz.f99.body.getD .skip) (by kernel_rfl) (by kernel_rfl) (by kernel_rfl) (A:=Qns) (I:=QlH) (Qvm) ?_
 rintro ⟨a0,u⟩ y hy
 exact (Qza a0 hy).get
def Gz (x1 : Int) (x2 : Bool) (x3 : YB) : Option Bool :=
 bif x2 then
  some true
 else
  bif decide (x1 = 3) then
   bif decide (x3.2.1 = 0) then
    bif decide ((x3.2.2.1.length : Int) ≤ 200) then
     Option.bind (YD x3.2.2.1) fun (y1 : Bool) =>
     some y1
    else
     some false
   else
    some false
  else
   bif decide (x1 = 4) then
    bif decide (x3.2.1 = 0) then
     Option.bind (Zv x3.2.2.2) fun (y2 : Bool) =>
     bif y2 then
      bif decide ((1 : Int) ≤ (x3.2.2.1.length : Int)) then
       bif decide ((x3.2.2.1.length : Int) ≤ 200) then
        Option.bind (YD x3.2.2.1) fun (y3 : Bool) =>
        some y3
       else
        some false
      else
       some false
     else
      some false
    else
     some false
   else
    bif decide (x1 = 6) then
     bif decide (x3.2.1 < 0) then
      some false
     else
      Option.bind (X7 32) fun (y4 : Int) =>
      bif decide (IntKind.wrap .i64 (y4 - 1) < IntKind.wrap .i64 (Int.tdiv x3.2.1 64)) then
       some false
      else
       bif decide ((32 : Int) < Int.tmod x3.2.1 64) then
        some false
       else
        Option.bind (G9 x3) fun (y5 : (Int × Int)) =>
        bif decide (y5.2 = 0) then none else
        some (decide (Int.tmod y5.1 y5.2 = 0))
    else
     bif decide (x1 = 7) then
      bif decide (((-100000000000) : Int) ≤ x3.2.1) then
       some (decide (x3.2.1 ≤ 100000000000))
      else
       some false
     else
      some false
def JD (x1 : YB) : Option Bool :=
 bif decide (x1.1 = 1) then
  bif decide (x1.2.1 = 0) then
   some true
  else
   some (decide (x1.2.1 = 1))
 else
  bif decide (x1.1 = 2) then
   Gz x1.1 (decide (x1.1 = 2)) x1
  else
   Gz x1.1 (decide (x1.1 = 5)) x1
def Gu (a0 : YB) : Option Bool :=
 bif !decide (a0.1 = 3) then
  bif !decide (a0.1 = 4) then
   bif !decide (a0.2.2.1 = ([] : List Int)) then
    some false
   else
    bif !decide (a0.1 = 4) then
     bif !decide (a0.2.2.2 = ([] : List Int)) then
      some false
     else
      JD a0
    else
     JD a0
  else
   bif !decide (a0.1 = 4) then
    bif !decide (a0.2.2.2 = ([] : List Int)) then
     some false
    else
     JD a0
   else
    JD a0
 else
  bif !decide (a0.1 = 4) then
   bif !decide (a0.2.2.2 = ([] : List Int)) then
    some false
   else
    JD a0
  else
   JD a0
def Qez : Ctr:=⟨53,[Zz],[.bool],fun x=>Gu x.1⟩
def Qar : List (List Nat × Ann):=[([1,3],[.keep 0 1,.boxd 0 1 Zz]),([1,8],[.keep 0 1,.keep 0 29,.keep 0 40,.boxd 0 1 Zz])]
def Eg : List (List Nat × Nat):=[]
def Eh : List Ctr:=[Qc3,Uw,Qdu,Qga]
def QlJ (n : Nat) (a0 : YB) : Option Bool:=run Tryz.prog Qar Eg (Qv Eh) Tryz.f53 (Tryz.f53.body.getD .skip) (Qy [.bool]) n (QE [Zz] (a0,()))
abbrev Yc (n : Nat) (x1 : YB) : Option Bool:=lam Tryz.prog Qar Eg (Qv Eh) Tryz.f53 (Tryz.f53.body.getD .skip) (Qy [.bool]) n [1,3] [.ptr 0 1 0,.agg (QA Zz x1)]
abbrev Hl (n : Nat) (x1 : Int) (x2 : Bool) (x3 : YB) : Option Bool:=lam Tryz.prog Qar Eg (Qv Eh) Tryz.f53 (Tryz.f53.body.getD .skip) (Qy [.bool]) n [1,8] [.ptr 0 1 0,.d I64 x1,.d .bool x2,.agg (QA Zz x3)]
theorem Qrs (n : Nat) (a0 : YB) : QlJ n a0 =
  bif !decide (a0.1 = 3) then
   bif !decide (a0.1 = 4) then
    bif !decide (a0.2.2.1 = ([] : List Int)) then
     some false
    else
     bif !decide (a0.1 = 4) then
      bif !decide (a0.2.2.2 = ([] : List Int)) then
       some false
      else
       Yc n a0
     else
      Yc n a0
   else
    bif !decide (a0.1 = 4) then
     bif !decide (a0.2.2.2 = ([] : List Int)) then
      some false
     else
      Yc n a0
    else
     Yc n a0
  else
   bif !decide (a0.1 = 4) then
    bif !decide (a0.2.2.2 = ([] : List Int)) then
     some false
    else
     Yc n a0
   else
    Yc n a0:=by kernel_rfl
theorem QkH (n : Nat) (x1 : YB) : Yc (n + 1) x1 =
  bif decide (x1.1 = 1) then
   bif decide (x1.2.1 = 0) then
    some true
   else
    some (decide (x1.2.1 = 1))
  else
   bif decide (x1.1 = 2) then
    Hl n x1.1 (decide (x1.1 = 2)) x1
   else
    Hl n x1.1 (decide (x1.1 = 5)) x1:=by kernel_rfl
theorem QkI (n : Nat) (x1 : Int) (x2 : Bool) (x3 : YB) : Hl (n + 1) x1 x2 x3 =
  bif x2 then
   some true
  else
   bif decide (x1 = 3) then
    bif decide (x3.2.1 = 0) then
     bif decide ((x3.2.2.1.length : Int) ≤ 200) then
      Option.bind (YD x3.2.2.1) fun (y1 : Bool) =>
      some y1
     else
      some false
    else
     some false
   else
    bif decide (x1 = 4) then
     bif decide (x3.2.1 = 0) then
      Option.bind (Zv x3.2.2.2) fun (y2 : Bool) =>
      bif y2 then
       bif decide ((1 : Int) ≤ (x3.2.2.1.length : Int)) then
        bif decide ((x3.2.2.1.length : Int) ≤ 200) then
         Option.bind (YD x3.2.2.1) fun (y3 : Bool) =>
         some y3
        else
         some false
       else
        some false
      else
       some false
     else
      some false
    else
     bif decide (x1 = 6) then
      bif decide (x3.2.1 < 0) then
       some false
      else
       Option.bind (X7 32) fun (y4 : Int) =>
       bif decide (IntKind.wrap .i64 (y4 - 1) < IntKind.wrap .i64 (Int.tdiv x3.2.1 64)) then
        some false
       else
        bif decide ((32 : Int) < Int.tmod x3.2.1 64) then
         some false
        else
         Option.bind (G9 x3) fun (y5 : (Int × Int)) =>
         bif decide (y5.2 = 0) then none else
         some (decide (Int.tmod y5.1 y5.2 = 0))
     else
      bif decide (x1 = 7) then
       bif decide (((-100000000000) : Int) ≤ x3.2.1) then
        some (decide (x3.2.1 ≤ 100000000000))
       else
        some false
      else
       some false:=by kernel_rfl
theorem Qe5 {x1 : Int} {x2 : Bool} {x3 : YB} {r : Bool} (h : Gz x1 x2 x3 = some r) : Ev (fun n=>Hl n x1 x2 x3) r:=by
 rw [Gz] at h
 refine Ev.step ?_ (fun n=>QkI n x1 x2 x3)
 exact (Ev.ofBif h (fun h=>(Ev.ofSome h)) (fun h=>(Ev.ofBif h (fun h=>(Ev.ofBif h (fun h=>(Ev.ofBif h (fun h=>(Ev.ofBind h fun y1 h=>(Ev.ofSome h))) (fun h=>(Ev.ofSome h)))) (fun h=>(Ev.ofSome h)))) (fun h=>(Ev.ofBif h (fun h=>(Ev.ofBif h (fun h=>(Ev.ofBind h fun y2 h=>(Ev.ofBif h (fun h=>(Ev.ofBif h (fun h=>(Ev.ofBif h (fun h=>(Ev.ofBind h fun y3 h=>(Ev.ofSome h))) (fun h=>(Ev.ofSome h)))) (fun h=>(Ev.ofSome h)))) (fun h=>(Ev.ofSome h))))) (fun h=>(Ev.ofSome h)))) (fun h=>(Ev.ofBif h (fun h=>(Ev.ofBif h (fun h=>(Ev.ofSome h)) (fun h=>(Ev.ofBind h fun y4 h=>(Ev.ofBif h (fun h=>(Ev.ofSome h)) (fun h=>(Ev.ofBif h (fun h=>(Ev.ofSome h)) (fun h=>(Ev.ofBind h fun y5 h=>(Ev.ofBif h (fun h=>(Ev.ofNone h)) (fun h=>(Ev.ofSome h)))))))))))) (fun h=>(Ev.ofBif h (fun h=>(Ev.ofBif h (fun h=>(Ev.ofSome h)) (fun h=>(Ev.ofSome h)))) (fun h=>(Ev.ofSome h)))))))))))
theorem VL {x1 : YB} {r : Bool} (h : JD x1 = some r) : Ev (fun n=>Yc n x1) r:=by
 rw [JD] at h
 refine Ev.step ?_ (fun n=>QkH n x1)
 exact (Ev.ofBif h (fun h=>(Ev.ofBif h (fun h=>(Ev.ofSome h)) (fun h=>(Ev.ofSome h)))) (fun h=>(Ev.ofBif h (fun h=>(Qe5 h)) (fun h=>(Qe5 h)))))
theorem Qw5 (a0 : YB) {r : Bool} (h : Gu a0 = some r) : Ev (fun n=>QlJ n a0) r:=by
 rw [Gu] at h
 refine Ev.of_eq ?_ (fun n=>Qrs n a0)
 exact (Ev.ofBif h (fun h=>(Ev.ofBif h (fun h=>(Ev.ofBif h (fun h=>(Ev.ofSome h)) (fun h=>(Ev.ofBif h (fun h=>(Ev.ofBif h (fun h=>(Ev.ofSome h)) (fun h=>(VL h)))) (fun h=>(VL h)))))) (fun h=>(Ev.ofBif h (fun h=>(Ev.ofBif h (fun h=>(Ev.ofSome h)) (fun h=>(VL h)))) (fun h=>(VL h)))))) (fun h=>(Ev.ofBif h (fun h=>(Ev.ofBif h (fun h=>(Ev.ofSome h)) (fun h=>(VL h)))) (fun h=>(VL h)))))
theorem Qte : ∀ x ∈ Eh,Qo Tryz.prog x:=(Ql Qtb (Ql Qc1 (Ql Qnr (Ql Qw4 Qt))))
theorem Qvn : Qo Tryz.prog (Qez):=by
 refine Qq (c:=Qez) (by kernel_rfl) (by kernel_rfl : Tryz.prog.funcs[53]? = some Tryz.f53) (code:=Tryz.f53.body.getD .skip) (by kernel_rfl) (by kernel_rfl) (by kernel_rfl) (A:=Qar) (I:=Eg) (Qte) ?_
 rintro ⟨a0,u⟩ y hy
 exact (Qw5 a0 hy).get
def YE (x1 : Int) (x2 : Bool) (x3 : QH) : Option Bool :=
 bif x2 then
  bif decide (x1 = 2) then
   some true
  else
   bif decide (x1 = 3) then
    some true
   else
    bif decide (x1 = 5) then
     some true
    else
     some (decide (x1 = 7))
 else
  bif decide (x3.2.1 = 4) then
   some (decide (x1 = 6))
  else
   some false
def YF (x1 : Int) (x2 : QH) (x3 : QF) : Option Bool :=
 bif !decide (x1 = x3.2) then
  some false
 else
  bif decide (x2.2.1 = 1) then
   some true
  else
   bif decide (x2.2.1 = 2) then
    YE x1 (decide (x2.2.1 = 2)) x2
   else
    YE x1 (decide (x2.2.1 = 3)) x2
def Vx (a0 : QH) (a1 : (List QF)) : Option Bool :=
 Option.bind (Vv a1 a0.1) fun (y1 : (QF × Bool)) =>
 bif !(y1.2) then
  some false
 else
  bif !decide (a0.2.2.1 = ([] : List Int)) then
   Option.bind (Vv a1 a0.2.2.1) fun (y2 : (QF × Bool)) =>
   bif !(y2.2) then
    some false
   else
    bif !@decide (a0.2.2.2 = (0,0,([] : List Int),([] : List Int))) (Ty.decEq Zz a0.2.2.2 (0,0,([] : List Int),([] : List Int))) then
     some false
    else
     YF y2.1.2 a0 y1.1
  else
   Option.bind (Gu a0.2.2.2) fun (y3 : Bool) =>
   bif !(y3) then
    some false
   else
    YF a0.2.2.2.1 a0 y1.1
def Qbv : Ctr:=⟨129,[Qw,(.list Qz)],[.bool],fun x=>Vx x.1 x.2.1⟩
def We : List (List Nat × Ann):=[([1,12],[.keep 0 2,.keep 0 5,.keep 0 7,.boxd 0 2 Qw,.boxd 0 5 Qz]),([1,19],[.keep 0 2,.keep 0 7,.keep 0 54,.boxd 0 2 Qw])]
def H0 : List (List Nat × Nat):=[]
def H1 : List Ctr:=[Qf6,Qez]
def Qhx (n : Nat) (a0 : QH) (a1 : (List QF)) : Option Bool:=run Tryz.prog We H0 (Qv H1) Tryz.f129 (Tryz.f129.body.getD .skip) (Qy [.bool]) n (QE [Qw,(.list Qz)] (a0,a1,()))
abbrev GI (n : Nat) (x1 : Int) (x2 : QH) (x3 : QF) : Option Bool:=lam Tryz.prog We H0 (Qv H1) Tryz.f129 (Tryz.f129.body.getD .skip) (Qy [.bool]) n [1,12] [.ptr 0 2 0,.ptr 0 5 0,.d I64 x1,.agg (QA Qw x2),.agg (QA Qz x3)]
abbrev GJ (n : Nat) (x1 : Int) (x2 : Bool) (x3 : QH) : Option Bool:=lam Tryz.prog We H0 (Qv H1) Tryz.f129 (Tryz.f129.body.getD .skip) (Qy [.bool]) n [1,19] [.ptr 0 2 0,.d I64 x1,.d .bool x2,.agg (QA Qw x3)]
theorem Qnu (n : Nat) (a0 : QH) (a1 : (List QF)) : Qhx n a0 a1 =
  Option.bind (Vv a1 a0.1) fun (y1 : (QF × Bool)) =>
  bif !(y1.2) then
   some false
  else
   bif !decide (a0.2.2.1 = ([] : List Int)) then
    Option.bind (Vv a1 a0.2.2.1) fun (y2 : (QF × Bool)) =>
    bif !(y2.2) then
     some false
    else
     bif !@decide (a0.2.2.2 = (0,0,([] : List Int),([] : List Int))) (Ty.decEq Zz a0.2.2.2 (0,0,([] : List Int),([] : List Int))) then
      some false
     else
      GI n y2.1.2 a0 y1.1
   else
    Option.bind (Gu a0.2.2.2) fun (y3 : Bool) =>
    bif !(y3) then
     some false
    else
     GI n a0.2.2.2.1 a0 y1.1:=by kernel_rfl
theorem Qg2 (n : Nat) (x1 : Int) (x2 : QH) (x3 : QF) : GI (n + 1) x1 x2 x3 =
  bif !decide (x1 = x3.2) then
   some false
  else
   bif decide (x2.2.1 = 1) then
    some true
   else
    bif decide (x2.2.1 = 2) then
     GJ n x1 (decide (x2.2.1 = 2)) x2
    else
     GJ n x1 (decide (x2.2.1 = 3)) x2:=by kernel_rfl
theorem Qg3 (n : Nat) (x1 : Int) (x2 : Bool) (x3 : QH) : GJ (n + 1) x1 x2 x3 =
  bif x2 then
   bif decide (x1 = 2) then
    some true
   else
    bif decide (x1 = 3) then
     some true
    else
     bif decide (x1 = 5) then
      some true
     else
      some (decide (x1 = 7))
  else
   bif decide (x3.2.1 = 4) then
    some (decide (x1 = 6))
   else
    some false:=by kernel_rfl
theorem Qbw {x1 : Int} {x2 : Bool} {x3 : QH} {r : Bool} (h : YE x1 x2 x3 = some r) : Ev (fun n=>GJ n x1 x2 x3) r:=by
 rw [YE] at h
 refine Ev.step ?_ (fun n=>Qg3 n x1 x2 x3)
 exact (Ev.ofBif h (fun h=>(Ev.ofBif h (fun h=>(Ev.ofSome h)) (fun h=>(Ev.ofBif h (fun h=>(Ev.ofSome h)) (fun h=>(Ev.ofBif h (fun h=>(Ev.ofSome h)) (fun h=>(Ev.ofSome h)))))))) (fun h=>(Ev.ofBif h (fun h=>(Ev.ofSome h)) (fun h=>(Ev.ofSome h)))))
theorem Qbx {x1 : Int} {x2 : QH} {x3 : QF} {r : Bool} (h : YF x1 x2 x3 = some r) : Ev (fun n=>GI n x1 x2 x3) r:=by
 rw [YF] at h
 refine Ev.step ?_ (fun n=>Qg2 n x1 x2 x3)
 exact (Ev.ofBif h (fun h=>(Ev.ofSome h)) (fun h=>(Ev.ofBif h (fun h=>(Ev.ofSome h)) (fun h=>(Ev.ofBif h (fun h=>(Qbw h)) (fun h=>(Qbw h)))))))
theorem Qtf (a0 : QH) (a1 : (List QF)) {r : Bool} (h : Vx a0 a1 = some r) : Ev (fun n=>Qhx n a0 a1) r:=by
 rw [Vx] at h
 refine Ev.of_eq ?_ (fun n=>Qnu n a0 a1)
 exact (Ev.ofBind h fun y1 h=>(Ev.ofBif h (fun h=>(Ev.ofSome h)) (fun h=>(Ev.ofBif h (fun h=>(Ev.ofBind h fun y2 h=>(Ev.ofBif h (fun h=>(Ev.ofSome h)) (fun h=>(Ev.ofBif h (fun h=>(Ev.ofSome h)) (fun h=>(Qbx h))))))) (fun h=>(Ev.ofBind h fun y3 h=>(Ev.ofBif h (fun h=>(Ev.ofSome h)) (fun h=>(Qbx h)))))))))
theorem Qpg : ∀ x ∈ H1,Qo Tryz.prog x:=(Ql Qw2 (Ql Qvn Qt))
theorem Qrt : Qo Tryz.prog (Qbv):=by
 refine Qq (c:=Qbv) (by kernel_rfl) (by kernel_rfl : Tryz.prog.funcs[129]? = some Tryz.f129) (code:=Tryz.f129.body.getD .skip) (by kernel_rfl) (by kernel_rfl) (by kernel_rfl) (A:=We) (I:=H0) (Qpg) ?_
 rintro ⟨a0,a1,u⟩ y hy
 exact (Qtf a0 a1 hy).get
def Jj (x4 : QC) : List QH → Option Bool
 | [] =>
   some true
 | e :: rest =>
   Option.bind (Vx (e) x4.2.1) fun (y4 : Bool) =>
   bif !(y4) then
    some false
   else
    Jj x4 rest
def ZG (x4 : QC) : List QF → Nat → Option Bool
 | [],k =>
   ZF x4.2.2 (Jj x4 x4.2.2)
 | e :: rest,k =>
   Option.bind (Zv ((e).1)) fun (y2 : Bool) =>
   bif !(y2) then
    some false
   else
    bif decide ((e).1 = ([116,114,117,101] : List Int)) then
     some false
    else
     bif decide ((e).1 = ([102,97,108,115,101] : List Int)) then
      some false
     else
      bif decide ((e).2 < 1) then
       some false
      else
       bif decide ((7 : Int) < (e).2) then
        some false
       else
        bif decide ((0 : Int) < (k : Int)) then
         bif inB (IntKind.wrap .i64 ((k : Int) - 1)) x4.2.1.length then
          Option.bind (QX ((rd x4.2.1 (IntKind.wrap .i64 ((k : Int) - 1)) (Ty.dflt Qz)).1) ((e).1)) fun (y3 : Int) =>
          bif decide ((0 : Int) ≤ y3) then
           some false
          else
           ZG x4 rest (k + 1)
         else none
        else
         ZG x4 rest (k + 1)
def Vy (a0 : QC) : Option Bool :=
 Option.bind (Zv a0.1) fun (y1 : Bool) =>
 bif !(y1) then
  some false
 else
  bif decide ((a0.2.1.length : Int) < 1) then
   some false
  else
   bif decide ((6 : Int) < (a0.2.1.length : Int)) then
    some false
   else
    bif decide ((a0.2.2.length : Int) < 1) then
     some false
    else
     bif decide ((6 : Int) < (a0.2.2.length : Int)) then
      some false
     else
      ZF a0.2.1 (ZG a0 a0.2.1 0)
def Qby : Ctr:=⟨73,[Qu],[.bool],fun x=>Vy x.1⟩
def Wf : List (List Nat × Ann):=[([0,4],[.keep 0 1,.keep 0 36,.keep 0 37,.keep 0 38,.boxd 0 1 Qu]),([0,10],[.keep 0 1,.keep 0 86,.keep 0 87,.keep 0 88,.boxd 0 1 Qu])]
def H2 : List (List Nat × Nat):=[]
def H3 : List Ctr:=[Uw,G0,Qbv]
def Qhy (n : Nat) (a0 : QC) : Option Bool:=run Tryz.prog Wf H2 (Qv H3) Tryz.f73 (Tryz.f73.body.getD .skip) (Qy [.bool]) n (QE [Qu] (a0,()))
abbrev YX (n : Nat) (x1 : (List QF)) (x2 : Int) (x3 : Int) (x4 : QC) : Option Bool:=lam Tryz.prog Wf H2 (Qv H3) Tryz.f73 (Tryz.f73.body.getD .skip) (Qy [.bool]) n [0,4] [.ptr 0 1 0,.d (.list Qz) x1,.d I64 x2,.d I64 x3,.agg (QA Qu x4)]
abbrev Vz (n : Nat) (x1 : (List QH)) (x2 : Int) (x3 : Int) (x4 : QC) : Option Bool:=lam Tryz.prog Wf H2 (Qv H3) Tryz.f73 (Tryz.f73.body.getD .skip) (Qy [.bool]) n [0,10] [.ptr 0 1 0,.d (.list Qw) x1,.d I64 x2,.d I64 x3,.agg (QA Qu x4)]
theorem Qnv (n : Nat) (a0 : QC) : Qhy n a0 =
  Option.bind (Zv a0.1) fun (y1 : Bool) =>
  bif !(y1) then
   some false
  else
   bif decide ((a0.2.1.length : Int) < 1) then
    some false
   else
    bif decide ((6 : Int) < (a0.2.1.length : Int)) then
     some false
    else
     bif decide ((a0.2.2.length : Int) < 1) then
      some false
     else
      bif decide ((6 : Int) < (a0.2.2.length : Int)) then
       some false
      else
       YX n a0.2.1 (a0.2.1.length : Int) 0 a0:=by kernel_rfl
theorem E8 (n : Nat) (x1 : (List QF)) (x2 : Int) (x3 : Int) (x4 : QC) : YX (n + 1) x1 x2 x3 x4 =
  bif decide (x3 < x2) then
   bif inB x3 x1.length then
    Option.bind (Zv ((rd x1 x3 (Ty.dflt Qz)).1)) fun (y2 : Bool) =>
    bif !(y2) then
     some false
    else
     bif decide ((rd x1 x3 (Ty.dflt Qz)).1 = ([116,114,117,101] : List Int)) then
      some false
     else
      bif decide ((rd x1 x3 (Ty.dflt Qz)).1 = ([102,97,108,115,101] : List Int)) then
       some false
      else
       bif decide ((rd x1 x3 (Ty.dflt Qz)).2 < 1) then
        some false
       else
        bif decide ((7 : Int) < (rd x1 x3 (Ty.dflt Qz)).2) then
         some false
        else
         bif decide ((0 : Int) < x3) then
          bif inB (IntKind.wrap .i64 (x3 - 1)) x4.2.1.length then
           Option.bind (QX ((rd x4.2.1 (IntKind.wrap .i64 (x3 - 1)) (Ty.dflt Qz)).1) ((rd x1 x3 (Ty.dflt Qz)).1)) fun (y3 : Int) =>
           bif decide ((0 : Int) ≤ y3) then
            some false
           else
            YX n x1 x2 (IntKind.wrap .i64 (x3 + 1)) x4
          else none
         else
          YX n x1 x2 (IntKind.wrap .i64 (x3 + 1)) x4
   else none
  else
   Vz n x4.2.2 (x4.2.2.length : Int) 0 x4:=by kernel_rfl
theorem EF (n : Nat) (x1 : (List QH)) (x2 : Int) (x3 : Int) (x4 : QC) : Vz (n + 1) x1 x2 x3 x4 =
  bif decide (x3 < x2) then
   bif inB x3 x1.length then
    Option.bind (Vx (rd x1 x3 (Ty.dflt Qw)) x4.2.1) fun (y4 : Bool) =>
    bif !(y4) then
     some false
    else
     Vz n x1 x2 (IntKind.wrap .i64 (x3 + 1)) x4
   else none
  else
   some true:=by kernel_rfl
theorem QkJ {x1 : (List QH)} {x4 : QC} (hl : x1.length ≤ maxLen) : ∀ (rest : List QH) (k : Nat) (r : Bool),rest = x1.drop k → Jj x4 rest = some r → Ev (fun n=>Vz n x1 (x1.length : Int) (k : Int) x4) r:=by
 intro rest
 induction rest with
 | nil =>
  intro k r hr h
  have hk:=QR hr
  rw [Jj] at h
  refine Ev.step ?_ (fun n=>EF n x1 (x1.length : Int) (k : Int) x4)
  rw [show decide ((k : Int) < (x1.length : Int)) = false from decide_eq_false (by omega)]
  exact Ev.neg rfl (Ev.ofSome h)
 | cons e rest ih =>
  intro k r hr h
  obtain ⟨hk,hx,hr2⟩:=QJ (d:=(Ty.dflt Qw)) hr
  have hw:=QG hl hk
  have ih2 : ∀ (r : Bool),Jj x4 rest = some r → Ev (fun n=>Vz n x1 (x1.length : Int) (IntKind.wrap .i64 ((k : Int) + 1)) x4) r:=by
   intro r h; rw [hw]; exact ih (k + 1) r hr2 h
  rw [Jj] at h
  refine Ev.step ?_ (fun n=>EF n x1 (x1.length : Int) (k : Int) x4)
  rw [show decide ((k : Int) < (x1.length : Int)) = true from decide_eq_true (by omega),QM hk,hx]
  exact Ev.pos rfl (Ev.pos rfl (Ev.ofBind h fun y4 h=>(Ev.ofBif h (fun h=>(Ev.ofSome h)) (fun h=>(ih2  _ h)))))
theorem Qmn {x1 : (List QF)} {x4 : QC} (hl : x1.length ≤ maxLen) : ∀ (rest : List QF) (k : Nat) (r : Bool),rest = x1.drop k → ZG x4 rest k = some r → Ev (fun n=>YX n x1 (x1.length : Int) (k : Int) x4) r:=by
 intro rest
 induction rest with
 | nil =>
  intro k r hr h
  have hk:=QR hr
  rw [ZG] at h
  refine Ev.step ?_ (fun n=>E8 n x1 (x1.length : Int) (k : Int) x4)
  rw [show decide ((k : Int) < (x1.length : Int)) = false from decide_eq_false (by omega)]
  exact Ev.neg rfl (Ev.ofLen h fun hl h=>QkJ hl _ (0 : Nat) _ rfl h)
 | cons e rest ih =>
  intro k r hr h
  obtain ⟨hk,hx,hr2⟩:=QJ (d:=(Ty.dflt Qz)) hr
  have hw:=QG hl hk
  have ih2 : ∀ (r : Bool),ZG x4 rest (k + 1) = some r → Ev (fun n=>YX n x1 (x1.length : Int) (IntKind.wrap .i64 ((k : Int) + 1)) x4) r:=by
   intro r h; rw [hw]; exact ih (k + 1) r hr2 h
  rw [ZG] at h
  refine Ev.step ?_ (fun n=>E8 n x1 (x1.length : Int) (k : Int) x4)
  rw [show decide ((k : Int) < (x1.length : Int)) = true from decide_eq_true (by omega),QM hk,hx]
  exact Ev.pos rfl (Ev.pos rfl (Ev.ofBind h fun y2 h=>(Ev.ofBif h (fun h=>(Ev.ofSome h)) (fun h=>(Ev.ofBif h (fun h=>(Ev.ofSome h)) (fun h=>(Ev.ofBif h (fun h=>(Ev.ofSome h)) (fun h=>(Ev.ofBif h (fun h=>(Ev.ofSome h)) (fun h=>(Ev.ofBif h (fun h=>(Ev.ofSome h)) (fun h=>(Ev.ofBif h (fun h=>(Ev.ofBif h (fun h=>(Ev.ofBind h fun y3 h=>(Ev.ofBif h (fun h=>(Ev.ofSome h)) (fun h=>(ih2  _ h))))) (fun h=>(Ev.ofNone h)))) (fun h=>(ih2  _ h)))))))))))))))
theorem Qtg (a0 : QC) {r : Bool} (h : Vy a0 = some r) : Ev (fun n=>Qhy n a0) r:=by
 rw [Vy] at h
 refine Ev.of_eq ?_ (fun n=>Qnv n a0)
 exact (Ev.ofBind h fun y1 h=>(Ev.ofBif h (fun h=>(Ev.ofSome h)) (fun h=>(Ev.ofBif h (fun h=>(Ev.ofSome h)) (fun h=>(Ev.ofBif h (fun h=>(Ev.ofSome h)) (fun h=>(Ev.ofBif h (fun h=>(Ev.ofSome h)) (fun h=>(Ev.ofBif h (fun h=>(Ev.ofSome h)) (fun h=>(Ev.ofLen h fun hl h=>Qmn hl _ (0 : Nat) _ rfl h))))))))))))
theorem Qph : ∀ x ∈ H3,Qo Tryz.prog x:=(Ql Qc1 (Ql Wc (Ql Qrt Qt)))
theorem Qru : Qo Tryz.prog (Qby):=by
 refine Qq (c:=Qby) (by kernel_rfl) (by kernel_rfl : Tryz.prog.funcs[73]? = some Tryz.f73) (code:=Tryz.f73.body.getD .skip) (by kernel_rfl) (by kernel_rfl) (by kernel_rfl) (A:=Wf) (I:=H2) (Qph) ?_
 rintro ⟨a0,u⟩ y hy
 exact (Qtg a0 hy).get
def YU (x1 : (List Int)) : List Qb → Option (Qb × Bool)
 | [] =>
   some ((([] : List Int),[],[]),false)
 | e :: rest =>
   bif decide ((e).1 = x1) then
    some ((e),true)
   else
    YU x1 rest
def Y4 (a0 : Qa) (a1 : (List Int)) : Option (Qb × Bool) :=
 ZF a0.2 (YU a1 a0.2)
def E9 : Ctr:=⟨77,[Qi,.str],[Qe,.bool],fun x=>Y4 x.1 x.2.1⟩
def Qin : List (List Nat × Ann):=[([0,2],[.keep 0 1,.keep 0 4,.keep 0 9,.keep 0 10,.keep 0 11,.boxd 0 4 Qe])]
def Qgb : List (List Nat × Nat):=[]
def Qgc : List Ctr:=[]
def Qql (n : Nat) (a0 : Qa) (a1 : (List Int)) : Option (Qb × Bool):=run Tryz.prog Qin Qgb (Qv Qgc) Tryz.f77 (Tryz.f77.body.getD .skip) (Qy [Qe,.bool]) n (QE [Qi,.str] (a0,a1,()))
abbrev XN (n : Nat) (x1 : (List Int)) (x2 : (List Qb)) (x3 : Int) (x4 : Int) (x5 : Qb) : Option (Qb × Bool):=lam Tryz.prog Qin Qgb (Qv Qgc) Tryz.f77 (Tryz.f77.body.getD .skip) (Qy [Qe,.bool]) n [0,2] [.d .str x1,.ptr 0 4 0,.d (.list Qe) x2,.d I64 x3,.d I64 x4,.agg (QA Qe x5)]
theorem Qvo (n : Nat) (a0 : Qa) (a1 : (List Int)) : Qql n a0 a1 =
  XN n a1 a0.2 (a0.2.length : Int) 0 (([] : List Int),[],[]):=by kernel_rfl
theorem QdR (n : Nat) (x1 : (List Int)) (x2 : (List Qb)) (x3 : Int) (x4 : Int) (x5 : Qb) : XN (n + 1) x1 x2 x3 x4 x5 =
  bif decide (x4 < x3) then
   bif inB x4 x2.length then
    bif decide ((rd x2 x4 (Ty.dflt Qe)).1 = x1) then
     some ((rd x2 x4 (Ty.dflt Qe)),true)
    else
     XN n x1 x2 x3 (IntKind.wrap .i64 (x4 + 1)) x5
   else none
  else
   some ((([] : List Int),[],[]),false):=by kernel_rfl
theorem Qth {x1 : (List Int)} {x2 : (List Qb)} {x5 : Qb} (hl : x2.length ≤ maxLen) : ∀ (rest : List Qb) (k : Nat) (r : (Qb × Bool)),rest = x2.drop k → YU x1 rest = some r → Ev (fun n=>XN n x1 x2 (x2.length : Int) (k : Int) x5) r:=by
 intro rest
 induction rest with
 | nil =>
  intro k r hr h
  have hk:=QR hr
  rw [YU] at h
  refine Ev.step ?_ (fun n=>QdR n x1 x2 (x2.length : Int) (k : Int) x5)
  rw [show decide ((k : Int) < (x2.length : Int)) = false from decide_eq_false (by omega)]
  exact Ev.neg rfl (Ev.ofSome h)
 | cons e rest ih =>
  intro k r hr h
  obtain ⟨hk,hx,hr2⟩:=QJ (d:=(Ty.dflt Qe)) hr
  have hw:=QG hl hk
  have ih2 : ∀ (r : (Qb × Bool)),YU x1 rest = some r → Ev (fun n=>XN n x1 x2 (x2.length : Int) (IntKind.wrap .i64 ((k : Int) + 1)) x5) r:=by
   intro r h; rw [hw]; exact ih (k + 1) r hr2 h
  rw [YU] at h
  refine Ev.step ?_ (fun n=>QdR n x1 x2 (x2.length : Int) (k : Int) x5)
  rw [show decide ((k : Int) < (x2.length : Int)) = true from decide_eq_true (by omega),QM hk,hx]
  exact Ev.pos rfl (Ev.pos rfl (Ev.ofBif h (fun h=>(Ev.ofSome h)) (fun h=>(ih2  _ h))))
theorem QAh (a0 : Qa) (a1 : (List Int)) {r : (Qb × Bool)} (h : Y4 a0 a1 = some r) : Ev (fun n=>Qql n a0 a1) r:=by
 rw [Y4] at h
 refine Ev.of_eq ?_ (fun n=>Qvo n a0 a1)
 exact (Ev.ofLen h fun hl h=>Qth hl _ (0 : Nat) _ rfl h)
theorem Qw6 : ∀ x ∈ Qgc,Qo Tryz.prog x:=Qt
theorem Qgd : Qo Tryz.prog (E9):=by
 refine Qq (c:=E9) (by kernel_rfl) (by kernel_rfl : Tryz.prog.funcs[77]? = some Tryz.f77) (code:=Tryz.f77.body.getD .skip) (by kernel_rfl) (by kernel_rfl) (by kernel_rfl) (A:=Qin) (I:=Qgb) (Qw6) ?_
 rintro ⟨a0,a1,u⟩ y hy
 exact (QAh a0 a1 hy).get
def JA (x1 : (List Int)) : List Qf → Option (Qf × Bool)
 | [] =>
   some ((([] : List Int),[]),false)
 | e :: rest =>
   bif decide ((e).1 = x1) then
    some ((e),true)
   else
    JA x1 rest
def Zs (a0 : Qb) (a1 : (List Int)) : Option (Qf × Bool) :=
 ZF a0.2.1 (JA a1 a0.2.1)
def Gj : Ctr:=⟨134,[Qe,.str],[Qj,.bool],fun x=>Zs x.1 x.2.1⟩
def Qbz : List (List Nat × Ann):=[([0,2],[.keep 0 1,.keep 0 4,.keep 0 9,.keep 0 10,.keep 0 11,.boxd 0 4 Qj])]
def QaF : List (List Nat × Nat):=[]
def QaG : List Ctr:=[]
def Qhz (n : Nat) (a0 : Qb) (a1 : (List Int)) : Option (Qf × Bool):=run Tryz.prog Qbz QaF (Qv QaG) Tryz.f134 (Tryz.f134.body.getD .skip) (Qy [Qj,.bool]) n (QE [Qe,.str] (a0,a1,()))
abbrev VW (n : Nat) (x1 : (List Int)) (x2 : (List Qf)) (x3 : Int) (x4 : Int) (x5 : Qf) : Option (Qf × Bool):=lam Tryz.prog Qbz QaF (Qv QaG) Tryz.f134 (Tryz.f134.body.getD .skip) (Qy [Qj,.bool]) n [0,2] [.d .str x1,.ptr 0 4 0,.d (.list Qj) x2,.d I64 x3,.d I64 x4,.agg (QA Qj x5)]
theorem Qnw (n : Nat) (a0 : Qb) (a1 : (List Int)) : Qhz n a0 a1 =
  VW n a1 a0.2.1 (a0.2.1.length : Int) 0 (([] : List Int),[]):=by kernel_rfl
theorem Qaa (n : Nat) (x1 : (List Int)) (x2 : (List Qf)) (x3 : Int) (x4 : Int) (x5 : Qf) : VW (n + 1) x1 x2 x3 x4 x5 =
  bif decide (x4 < x3) then
   bif inB x4 x2.length then
    bif decide ((rd x2 x4 (Ty.dflt Qj)).1 = x1) then
     some ((rd x2 x4 (Ty.dflt Qj)),true)
    else
     VW n x1 x2 x3 (IntKind.wrap .i64 (x4 + 1)) x5
   else none
  else
   some ((([] : List Int),[]),false):=by kernel_rfl
theorem Qmo {x1 : (List Int)} {x2 : (List Qf)} {x5 : Qf} (hl : x2.length ≤ maxLen) : ∀ (rest : List Qf) (k : Nat) (r : (Qf × Bool)),rest = x2.drop k → JA x1 rest = some r → Ev (fun n=>VW n x1 x2 (x2.length : Int) (k : Int) x5) r:=by
 intro rest
 induction rest with
 | nil =>
  intro k r hr h
  have hk:=QR hr
  rw [JA] at h
  refine Ev.step ?_ (fun n=>Qaa n x1 x2 (x2.length : Int) (k : Int) x5)
  rw [show decide ((k : Int) < (x2.length : Int)) = false from decide_eq_false (by omega)]
  exact Ev.neg rfl (Ev.ofSome h)
 | cons e rest ih =>
  intro k r hr h
  obtain ⟨hk,hx,hr2⟩:=QJ (d:=(Ty.dflt Qj)) hr
  have hw:=QG hl hk
  have ih2 : ∀ (r : (Qf × Bool)),JA x1 rest = some r → Ev (fun n=>VW n x1 x2 (x2.length : Int) (IntKind.wrap .i64 ((k : Int) + 1)) x5) r:=by
   intro r h; rw [hw]; exact ih (k + 1) r hr2 h
  rw [JA] at h
  refine Ev.step ?_ (fun n=>Qaa n x1 x2 (x2.length : Int) (k : Int) x5)
  rw [show decide ((k : Int) < (x2.length : Int)) = true from decide_eq_true (by omega),QM hk,hx]
  exact Ev.pos rfl (Ev.pos rfl (Ev.ofBif h (fun h=>(Ev.ofSome h)) (fun h=>(ih2  _ h))))
theorem Qti (a0 : Qb) (a1 : (List Int)) {r : (Qf × Bool)} (h : Zs a0 a1 = some r) : Ev (fun n=>Qhz n a0 a1) r:=by
 rw [Zs] at h
 refine Ev.of_eq ?_ (fun n=>Qnw n a0 a1)
 exact (Ev.ofLen h fun hl h=>Qmo hl _ (0 : Nat) _ rfl h)
theorem Qpi : ∀ x ∈ QaG,Qo Tryz.prog x:=Qt
theorem H4 : Qo Tryz.prog (Gj):=by
 refine Qq (c:=Gj) (by kernel_rfl) (by kernel_rfl : Tryz.prog.funcs[134]? = some Tryz.f134) (code:=Tryz.f134.body.getD .skip) (by kernel_rfl) (by kernel_rfl) (by kernel_rfl) (A:=Qbz) (I:=QaF) (Qpi) ?_
 rintro ⟨a0,a1,u⟩ y hy
 exact (Qti a0 a1 hy).get
def Z3 (x1 : (List Int)) : List Qc → Option (Qc × Bool)
 | [] =>
   some ((([] : List Int),[]),false)
 | e :: rest =>
   bif decide ((e).1 = x1) then
    some ((e),true)
   else
    Z3 x1 rest
def YQ (a0 : Qb) (a1 : (List Int)) : Option (Qc × Bool) :=
 ZF a0.2.2 (Z3 a1 a0.2.2)
def ES : Ctr:=⟨137,[Qe,.str],[Qh,.bool],fun x=>YQ x.1 x.2.1⟩
def ET : List (List Nat × Ann):=[([0,2],[.keep 0 1,.keep 0 4,.keep 0 9,.keep 0 10,.keep 0 11,.boxd 0 4 Qh])]
def WI : List (List Nat × Nat):=[]
def WJ : List Ctr:=[]
def Qe6 (n : Nat) (a0 : Qb) (a1 : (List Int)) : Option (Qc × Bool):=run Tryz.prog ET WI (Qv WJ) Tryz.f137 (Tryz.f137.body.getD .skip) (Qy [Qh,.bool]) n (QE [Qe,.str] (a0,a1,()))
abbrev Vh (n : Nat) (x1 : (List Int)) (x2 : (List Qc)) (x3 : Int) (x4 : Int) (x5 : Qc) : Option (Qc × Bool):=lam Tryz.prog ET WI (Qv WJ) Tryz.f137 (Tryz.f137.body.getD .skip) (Qy [Qh,.bool]) n [0,2] [.d .str x1,.ptr 0 4 0,.d (.list Qh) x2,.d I64 x3,.d I64 x4,.agg (QA Qh x5)]
theorem QkK (n : Nat) (a0 : Qb) (a1 : (List Int)) : Qe6 n a0 a1 =
  Vh n a1 a0.2.2 (a0.2.2.length : Int) 0 (([] : List Int),[]):=by kernel_rfl
theorem WK (n : Nat) (x1 : (List Int)) (x2 : (List Qc)) (x3 : Int) (x4 : Int) (x5 : Qc) : Vh (n + 1) x1 x2 x3 x4 x5 =
  bif decide (x4 < x3) then
   bif inB x4 x2.length then
    bif decide ((rd x2 x4 (Ty.dflt Qh)).1 = x1) then
     some ((rd x2 x4 (Ty.dflt Qh)),true)
    else
     Vh n x1 x2 x3 (IntKind.wrap .i64 (x4 + 1)) x5
   else none
  else
   some ((([] : List Int),[]),false):=by kernel_rfl
theorem Qjm {x1 : (List Int)} {x2 : (List Qc)} {x5 : Qc} (hl : x2.length ≤ maxLen) : ∀ (rest : List Qc) (k : Nat) (r : (Qc × Bool)),rest = x2.drop k → Z3 x1 rest = some r → Ev (fun n=>Vh n x1 x2 (x2.length : Int) (k : Int) x5) r:=by
 intro rest
 induction rest with
 | nil =>
  intro k r hr h
  have hk:=QR hr
  rw [Z3] at h
  refine Ev.step ?_ (fun n=>WK n x1 x2 (x2.length : Int) (k : Int) x5)
  rw [show decide ((k : Int) < (x2.length : Int)) = false from decide_eq_false (by omega)]
  exact Ev.neg rfl (Ev.ofSome h)
 | cons e rest ih =>
  intro k r hr h
  obtain ⟨hk,hx,hr2⟩:=QJ (d:=(Ty.dflt Qh)) hr
  have hw:=QG hl hk
  have ih2 : ∀ (r : (Qc × Bool)),Z3 x1 rest = some r → Ev (fun n=>Vh n x1 x2 (x2.length : Int) (IntKind.wrap .i64 ((k : Int) + 1)) x5) r:=by
   intro r h; rw [hw]; exact ih (k + 1) r hr2 h
  rw [Z3] at h
  refine Ev.step ?_ (fun n=>WK n x1 x2 (x2.length : Int) (k : Int) x5)
  rw [show decide ((k : Int) < (x2.length : Int)) = true from decide_eq_true (by omega),QM hk,hx]
  exact Ev.pos rfl (Ev.pos rfl (Ev.ofBif h (fun h=>(Ev.ofSome h)) (fun h=>(ih2  _ h))))
theorem Qpj (a0 : Qb) (a1 : (List Int)) {r : (Qc × Bool)} (h : YQ a0 a1 = some r) : Ev (fun n=>Qe6 n a0 a1) r:=by
 rw [YQ] at h
 refine Ev.of_eq ?_ (fun n=>QkK n a0 a1)
 exact (Ev.ofLen h fun hl h=>Qjm hl _ (0 : Nat) _ rfl h)
theorem Qmp : ∀ x ∈ WJ,Qo Tryz.prog x:=Qt
theorem Qnx : Qo Tryz.prog (ES):=by
 refine Qq (c:=ES) (by kernel_rfl) (by kernel_rfl : Tryz.prog.funcs[137]? = some Tryz.f137) (code:=Tryz.f137.body.getD .skip) (by kernel_rfl) (by kernel_rfl) (by kernel_rfl) (A:=ET) (I:=WI) (Qmp) ?_
 rintro ⟨a0,a1,u⟩ y hy
 exact (Qpj a0 a1 hy).get
def ZX (a0 : Qa) (a1 : (List Int)) (a2 : (List Int)) : Option Bool :=
 Option.bind (Y4 a0 a1) fun (y1 : (Qb × Bool)) =>
 Option.bind (Zs y1.1 a2) fun (y2 : (Qf × Bool)) =>
 Option.bind (YQ y1.1 a2) fun (y3 : (Qc × Bool)) =>
 bif y1.2 then
  bif y2.2 then
   some true
  else
   some y3.2
 else
  some false
def Hx : Ctr:=⟨78,[Qi,.str,.str],[.bool],fun x=>ZX x.1 x.2.1 x.2.2.1⟩
def Qny : List (List Nat × Ann):=[]
def QlK : List (List Nat × Nat):=[]
def QlL : List Ctr:=[E9,Gj,ES]
def Qnz (n : Nat) (a0 : Qa) (a1 : (List Int)) (a2 : (List Int)) : Option Bool:=run Tryz.prog Qny QlK (Qv QlL) Tryz.f78 (Tryz.f78.body.getD .skip) (Qy [.bool]) n (QE [Qi,.str,.str] (a0,a1,a2,()))
theorem Qtj (n : Nat) (a0 : Qa) (a1 : (List Int)) (a2 : (List Int)) : Qnz n a0 a1 a2 =
  Option.bind (Y4 a0 a1) fun (y1 : (Qb × Bool)) =>
  Option.bind (Zs y1.1 a2) fun (y2 : (Qf × Bool)) =>
  Option.bind (YQ y1.1 a2) fun (y3 : (Qc × Bool)) =>
  bif y1.2 then
   bif y2.2 then
    some true
   else
    some y3.2
  else
   some false:=by kernel_rfl
theorem Qzb (a0 : Qa) (a1 : (List Int)) (a2 : (List Int)) {r : Bool} (h : ZX a0 a1 a2 = some r) : Ev (fun n=>Qnz n a0 a1 a2) r:=by
 rw [ZX] at h
 refine Ev.of_eq ?_ (fun n=>Qtj n a0 a1 a2)
 exact (Ev.ofBind h fun y1 h=>(Ev.ofBind h fun y2 h=>(Ev.ofBind h fun y3 h=>(Ev.ofBif h (fun h=>(Ev.ofBif h (fun h=>(Ev.ofSome h)) (fun h=>(Ev.ofSome h)))) (fun h=>(Ev.ofSome h))))))
theorem Qvp : ∀ x ∈ QlL,Qo Tryz.prog x:=(Ql Qgd (Ql H4 (Ql Qnx Qt)))
theorem Qas : Qo Tryz.prog (Hx):=by
 refine Qq (c:=Hx) (by kernel_rfl) (by kernel_rfl : Tryz.prog.funcs[78]? = some Tryz.f78) (code:=Tryz.f78.body.getD .skip) (by kernel_rfl) (by kernel_rfl) (by kernel_rfl) (A:=Qny) (I:=QlK) (Qvp) ?_
 rintro ⟨a0,a1,a2,u⟩ y hy
 exact (Qzb a0 a1 a2 hy).get
def JE (a0 : Qm) (a1 : Qm) : Option Int :=
 Option.bind (QX a0.1 a1.1) fun (y1 : Int) =>
 bif !decide (y1 = 0) then
  some y1
 else
  Option.bind (QX a0.2.1 a1.2.1) fun (y2 : Int) =>
  bif !decide (y2 = 0) then
   some y2
  else
   bif a0.2.2.1 != a1.2.2.1 then
    bif a1.2.2.1 then
     some (-1)
    else
     some 1
   else
    Option.bind (QX a0.2.2.2 a1.2.2.2) fun (y3 : Int) =>
    some y3
def EU : Ctr:=⟨130,[Qd,Qd],[I64],fun x=>JE x.1 x.2.1⟩
def Qe7 : List (List Nat × Ann):=[]
def QdS : List (List Nat × Nat):=[]
def QdT : List Ctr:=[G0]
def Qe8 (n : Nat) (a0 : Qm) (a1 : Qm) : Option Int:=run Tryz.prog Qe7 QdS (Qv QdT) Tryz.f130 (Tryz.f130.body.getD .skip) (Qy [I64]) n (QE [Qd,Qd] (a0,a1,()))
theorem QkL (n : Nat) (a0 : Qm) (a1 : Qm) : Qe8 n a0 a1 =
  Option.bind (QX a0.1 a1.1) fun (y1 : Int) =>
  bif !decide (y1 = 0) then
   some y1
  else
   Option.bind (QX a0.2.1 a1.2.1) fun (y2 : Int) =>
   bif !decide (y2 = 0) then
    some y2
   else
    bif a0.2.2.1 != a1.2.2.1 then
     bif a1.2.2.1 then
      some (-1)
     else
      some 1
    else
     Option.bind (QX a0.2.2.2 a1.2.2.2) fun (y3 : Int) =>
     some y3:=by kernel_rfl
theorem Qpk (a0 : Qm) (a1 : Qm) {r : Int} (h : JE a0 a1 = some r) : Ev (fun n=>Qe8 n a0 a1) r:=by
 rw [JE] at h
 refine Ev.of_eq ?_ (fun n=>QkL n a0 a1)
 exact (Ev.ofBind h fun y1 h=>(Ev.ofBif h (fun h=>(Ev.ofSome h)) (fun h=>(Ev.ofBind h fun y2 h=>(Ev.ofBif h (fun h=>(Ev.ofSome h)) (fun h=>(Ev.ofBif h (fun h=>(Ev.ofBif h (fun h=>(Ev.ofSome h)) (fun h=>(Ev.ofSome h)))) (fun h=>(Ev.ofBind h fun y3 h=>(Ev.ofSome h))))))))))
theorem Qmq : ∀ x ∈ QdT,Qo Tryz.prog x:=(Ql Wc Qt)
theorem QnA : Qo Tryz.prog (EU):=by
 refine Qq (c:=EU) (by kernel_rfl) (by kernel_rfl : Tryz.prog.funcs[130]? = some Tryz.f130) (code:=Tryz.f130.body.getD .skip) (by kernel_rfl) (by kernel_rfl) (by kernel_rfl) (A:=Qe7) (I:=QdS) (Qmq) ?_
 rintro ⟨a0,a1,u⟩ y hy
 exact (Qpk a0 a1 hy).get
def Yd (x1 : (List Int)) : List QC → Option (QC × Bool)
 | [] =>
   some ((([] : List Int),[],[]),false)
 | e :: rest =>
   bif decide ((e).1 = x1) then
    some ((e),true)
   else
    Yd x1 rest
def Gv (a0 : Qa) (a1 : (List Int)) : Option (QC × Bool) :=
 ZF a0.1 (Yd a1 a0.1)
def QeA : Ctr:=⟨131,[Qi,.str],[Qu,.bool],fun x=>Gv x.1 x.2.1⟩
def QeB : List (List Nat × Ann):=[([0,2],[.keep 0 1,.keep 0 4,.keep 0 9,.keep 0 10,.keep 0 11,.boxd 0 4 Qu])]
def Qc5 : List (List Nat × Nat):=[]
def Qc6 : List Ctr:=[]
def QlM (n : Nat) (a0 : Qa) (a1 : (List Int)) : Option (QC × Bool):=run Tryz.prog QeB Qc5 (Qv Qc6) Tryz.f131 (Tryz.f131.body.getD .skip) (Qy [Qu,.bool]) n (QE [Qi,.str] (a0,a1,()))
abbrev GA (n : Nat) (x1 : (List Int)) (x2 : (List QC)) (x3 : Int) (x4 : Int) (x5 : QC) : Option (QC × Bool):=lam Tryz.prog QeB Qc5 (Qv Qc6) Tryz.f131 (Tryz.f131.body.getD .skip) (Qy [Qu,.bool]) n [0,2] [.d .str x1,.ptr 0 4 0,.d (.list Qu) x2,.d I64 x3,.d I64 x4,.agg (QA Qu x5)]
theorem Qrv (n : Nat) (a0 : Qa) (a1 : (List Int)) : QlM n a0 a1 =
  GA n a1 a0.1 (a0.1.length : Int) 0 (([] : List Int),[],[]):=by kernel_rfl
theorem QbA (n : Nat) (x1 : (List Int)) (x2 : (List QC)) (x3 : Int) (x4 : Int) (x5 : QC) : GA (n + 1) x1 x2 x3 x4 x5 =
  bif decide (x4 < x3) then
   bif inB x4 x2.length then
    bif decide ((rd x2 x4 (Ty.dflt Qu)).1 = x1) then
     some ((rd x2 x4 (Ty.dflt Qu)),true)
    else
     GA n x1 x2 x3 (IntKind.wrap .i64 (x4 + 1)) x5
   else none
  else
   some ((([] : List Int),[],[]),false):=by kernel_rfl
theorem Qpl {x1 : (List Int)} {x2 : (List QC)} {x5 : QC} (hl : x2.length ≤ maxLen) : ∀ (rest : List QC) (k : Nat) (r : (QC × Bool)),rest = x2.drop k → Yd x1 rest = some r → Ev (fun n=>GA n x1 x2 (x2.length : Int) (k : Int) x5) r:=by
 intro rest
 induction rest with
 | nil =>
  intro k r hr h
  have hk:=QR hr
  rw [Yd] at h
  refine Ev.step ?_ (fun n=>QbA n x1 x2 (x2.length : Int) (k : Int) x5)
  rw [show decide ((k : Int) < (x2.length : Int)) = false from decide_eq_false (by omega)]
  exact Ev.neg rfl (Ev.ofSome h)
 | cons e rest ih =>
  intro k r hr h
  obtain ⟨hk,hx,hr2⟩:=QJ (d:=(Ty.dflt Qu)) hr
  have hw:=QG hl hk
  have ih2 : ∀ (r : (QC × Bool)),Yd x1 rest = some r → Ev (fun n=>GA n x1 x2 (x2.length : Int) (IntKind.wrap .i64 ((k : Int) + 1)) x5) r:=by
   intro r h; rw [hw]; exact ih (k + 1) r hr2 h
  rw [Yd] at h
  refine Ev.step ?_ (fun n=>QbA n x1 x2 (x2.length : Int) (k : Int) x5)
  rw [show decide ((k : Int) < (x2.length : Int)) = true from decide_eq_true (by omega),QM hk,hx]
  exact Ev.pos rfl (Ev.pos rfl (Ev.ofBif h (fun h=>(Ev.ofSome h)) (fun h=>(ih2  _ h))))
theorem Qw7 (a0 : Qa) (a1 : (List Int)) {r : (QC × Bool)} (h : Gv a0 a1 = some r) : Ev (fun n=>QlM n a0 a1) r:=by
 rw [Gv] at h
 refine Ev.of_eq ?_ (fun n=>Qrv n a0 a1)
 exact (Ev.ofLen h fun hl h=>Qpl hl _ (0 : Nat) _ rfl h)
theorem Qtk : ∀ x ∈ Qc6,Qo Tryz.prog x:=Qt
theorem Qvq : Qo Tryz.prog (QeA):=by
 refine Qq (c:=QeA) (by kernel_rfl) (by kernel_rfl : Tryz.prog.funcs[131]? = some Tryz.f131) (code:=Tryz.f131.body.getD .skip) (by kernel_rfl) (by kernel_rfl) (by kernel_rfl) (A:=QeB) (I:=Qc5) (Qtk) ?_
 rintro ⟨a0,a1,u⟩ y hy
 exact (Qw7 a0 a1 hy).get
def Jk (Rc : (List Qp) → Int → Int → Option (Q5 × Int)) (x1 : (List Qp)) (x3 : Int) : Nat → Int → Int → (List Q5) → Q5 → Option (Q5 × Int)
 | 0,_,_,_,_=>none
 | m + 1,x2,x4,x6,x7 =>
   bif decide (x4 < 2) then
    Option.bind (Rc x1 x2 (IntKind.wrap .i64 (x3 + 1))) fun (y1 : (Q5 × Int)) =>
    bif decide (y1.2 < 0) then
     some ((Tree.node (0,([] : List Int),([] : List Int)) ([])),(-1))
    else
     bif decide (((x6.length : Int) + (([(Tree.node y1.1.val y1.1.kids)] : List Q5).length : Int)) * 64 ≤ ZB) && decide ((x6.length : Int) + (([(Tree.node y1.1.val y1.1.kids)] : List Q5).length : Int) ≤ ZB) then
      Jk Rc x1 x3 m y1.2 (IntKind.wrap .i64 (x4 + 1)) (x6 ++ ([(Tree.node y1.1.val y1.1.kids)] : List Q5)) (Tree.node x7.val (x6 ++ ([(Tree.node y1.1.val y1.1.kids)] : List Q5)))
     else none
   else
    some ((Tree.node x7.val x6),x2)
def Wg (Rc : (List Qp) → Int → Int → Option (Q5 × Int)) (m : Nat) (x1 : (List Qp)) (x2 : Int) (x3 : Int) : Option (Q5 × Int) :=
 bif inB x2 x1.length then
  bif !decide ((rd x1 x2 (Ty.dflt Qg)).1 = 3) then
   bif !decide ((rd x1 x2 (Ty.dflt Qg)).1 = 4) then
    bif !decide ((rd x1 x2 (Ty.dflt Qg)).1 = 5) then
     some ((Tree.node (rd x1 x2 (Ty.dflt Qg)) ([])),IntKind.wrap .i64 (x2 + 1))
    else
     Jk Rc x1 x3 m (IntKind.wrap .i64 (x2 + 1)) 0 [] (Tree.node (rd x1 x2 (Ty.dflt Qg)) ([]))
   else
    Jk Rc x1 x3 m (IntKind.wrap .i64 (x2 + 1)) 0 [] (Tree.node (rd x1 x2 (Ty.dflt Qg)) ([]))
  else
   Jk Rc x1 x3 m (IntKind.wrap .i64 (x2 + 1)) 0 [] (Tree.node (rd x1 x2 (Ty.dflt Qg)) ([]))
 else none
def Qab (Rc : (List Qp) → Int → Int → Option (Q5 × Int)) (m : Nat) (a0 : (List Qp)) (a1 : Int) (a2 : Int) : Option (Q5 × Int) :=
 bif decide ((a0.length : Int) ≤ a1) then
  some ((Tree.node (0,([] : List Int),([] : List Int)) ([])),(-1))
 else
  bif decide ((10 : Int) < a2) then
   some ((Tree.node (0,([] : List Int),([] : List Int)) ([])),(-1))
  else
   Wg Rc m a0 a1 a2
def X8 : Nat → (List Qp) → Int → Int → Option (Q5 × Int)
 | 0=>fun _ _ _=>none
 | d + 1=>fun a0 a1 a2=>Qhw fun m=>Qab (X8 d) m a0 a1 a2
def Qdv (a0 : (List Qp)) (a1 : Int) (a2 : Int) : Option (Q5 × Int):=Qhw fun d=>X8 d a0 a1 a2
def Qqm : Ctr:=⟨181,[(.list Qg),I64,I64],[Yo,I64],fun x=>Qdv x.1 x.2.1 x.2.2.1⟩
def Qdw : List (List Nat × Ann):=[([1,3],[.keep 0 0,.keep 0 1,.keep 0 2,.keep 0 6,.boxd 0 6 Yo]),([0,9],[.keep 0 0,.keep 0 1,.keep 0 2,.keep 0 6,.keep 0 8,.keep 0 10,.boxd 0 6 Yo,.ownb 0 8 3 Yo,.boxd 0 8 Yo])]
def QbB : List (List Nat × Nat):=[]
def QbC (Rc : (List Qp) → Int → Int → Option (Q5 × Int)) : List Ctr:=[⟨181,[(.list Qg),I64,I64],[Yo,I64],fun x=>Rc x.1 x.2.1 x.2.2.1⟩]
def Qqn (Rc : (List Qp) → Int → Int → Option (Q5 × Int)) (n : Nat) (a0 : (List Qp)) (a1 : Int) (a2 : Int) : Option (Q5 × Int):=run Tryz.prog Qdw QbB (Qv (QbC Rc)) Tryz.f181 (Tryz.f181.body.getD .skip) (Qy [Yo,I64]) n (QE [(.list Qg),I64,I64] (a0,a1,a2,()))
abbrev QbD (Rc : (List Qp) → Int → Int → Option (Q5 × Int)) (n : Nat) (x1 : (List Qp)) (x2 : Int) (x3 : Int) (x4 : Q5) : Option (Q5 × Int):=lam Tryz.prog Qdw QbB (Qv (QbC Rc)) Tryz.f181 (Tryz.f181.body.getD .skip) (Qy [Yo,I64]) n [1,3] [.d (.list Qg) x1,.d I64 x2,.d I64 x3,.ptr 0 6 0,.agg (QA Yo x4)]
abbrev Gk (Rc : (List Qp) → Int → Int → Option (Q5 × Int)) (n : Nat) (x1 : (List Qp)) (x2 : Int) (x3 : Int) (x4 : Int) (x5 : Q5) (x6 : (List Q5)) (x7 : Q5) : Option (Q5 × Int):=lam Tryz.prog Qdw QbB (Qv (QbC Rc)) Tryz.f181 (Tryz.f181.body.getD .skip) (Qy [Yo,I64]) n [0,9] [.d (.list Qg) x1,.d I64 x2,.d I64 x3,.ptr 0 6 0,.ptr 0 8 0,.d I64 x4,.agg (QA Yo x5),.own 0 Yo x6,.agg (QA Yo x7)]
theorem Qvr (Rc : (List Qp) → Int → Int → Option (Q5 × Int)) (n : Nat) (a0 : (List Qp)) (a1 : Int) (a2 : Int) : Qqn Rc n a0 a1 a2 =
  bif decide ((a0.length : Int) ≤ a1) then
   some ((Tree.node (0,([] : List Int),([] : List Int)) ([])),(-1))
  else
   bif decide ((10 : Int) < a2) then
    some ((Tree.node (0,([] : List Int),([] : List Int)) ([])),(-1))
   else
    QbD Rc n a0 a1 a2 (Tree.node (0,([] : List Int),([] : List Int)) ([])):=by kernel_rfl
theorem QnB (Rc : (List Qp) → Int → Int → Option (Q5 × Int)) (n : Nat) (x1 : (List Qp)) (x2 : Int) (x3 : Int) (x4 : Q5) : QbD Rc (n + 1) x1 x2 x3 x4 =
  bif inB x2 x1.length then
   bif !decide ((rd x1 x2 (Ty.dflt Qg)).1 = 3) then
    bif !decide ((rd x1 x2 (Ty.dflt Qg)).1 = 4) then
     bif !decide ((rd x1 x2 (Ty.dflt Qg)).1 = 5) then
      some ((Tree.node (rd x1 x2 (Ty.dflt Qg)) ([])),IntKind.wrap .i64 (x2 + 1))
     else
      Gk Rc n x1 (IntKind.wrap .i64 (x2 + 1)) x3 0 (Tree.node x4.val x4.kids) [] (Tree.node (rd x1 x2 (Ty.dflt Qg)) ([]))
    else
     Gk Rc n x1 (IntKind.wrap .i64 (x2 + 1)) x3 0 (Tree.node x4.val x4.kids) [] (Tree.node (rd x1 x2 (Ty.dflt Qg)) ([]))
   else
    Gk Rc n x1 (IntKind.wrap .i64 (x2 + 1)) x3 0 (Tree.node x4.val x4.kids) [] (Tree.node (rd x1 x2 (Ty.dflt Qg)) ([]))
  else none:=by kernel_rfl
theorem QnC (Rc : (List Qp) → Int → Int → Option (Q5 × Int)) (n : Nat) (x1 : (List Qp)) (x2 : Int) (x3 : Int) (x4 : Int) (x5 : Q5) (x6 : (List Q5)) (x7 : Q5) : Gk Rc (n + 1) x1 x2 x3 x4 x5 x6 x7 =
  bif decide (x4 < 2) then
   Option.bind (Rc x1 x2 (IntKind.wrap .i64 (x3 + 1))) fun (y1 : (Q5 × Int)) =>
   bif decide (y1.2 < 0) then
    some ((Tree.node (0,([] : List Int),([] : List Int)) ([])),(-1))
   else
    bif decide (((x6.length : Int) + (([(Tree.node y1.1.val y1.1.kids)] : List Q5).length : Int)) * 64 ≤ ZB) && decide ((x6.length : Int) + (([(Tree.node y1.1.val y1.1.kids)] : List Q5).length : Int) ≤ ZB) then
     Gk Rc n x1 y1.2 x3 (IntKind.wrap .i64 (x4 + 1)) (Tree.node x5.val x5.kids) (x6 ++ ([(Tree.node y1.1.val y1.1.kids)] : List Q5)) (Tree.node x7.val (x6 ++ ([(Tree.node y1.1.val y1.1.kids)] : List Q5)))
    else none
  else
   some ((Tree.node x7.val x6),x2):=by kernel_rfl
theorem QbE {Rc : (List Qp) → Int → Int → Option (Q5 × Int)} {x1 : (List Qp)} {x3 : Int} : ∀ (m : Nat) (x2 : Int) (x4 : Int) (x5 : Q5) (x6 : (List Q5)) (x7 : Q5) (r : (Q5 × Int)),Jk Rc x1 x3 m x2 x4 x6 x7 = some r → Ev (fun n=>Gk Rc n x1 x2 x3 x4 x5 x6 x7) r:=by
 intro m
 induction m with
 | zero=>intro x2 x4 x5 x6 x7 r h; rw [Jk] at h; exact Ev.ofNone h
 | succ m ih2 =>
  intro x2 x4 x5 x6 x7 r h
  rw [Jk] at h
  refine Ev.step ?_ (fun n=>QnC Rc n x1 x2 x3 x4 x5 x6 x7)
  exact (Ev.ofBif h (fun h=>(Ev.ofBind h fun y1 h=>(Ev.ofBif h (fun h=>(Ev.ofSome h)) (fun h=>(Ev.ofBif h (fun h=>(ih2 _ _ _ _ _ _ h)) (fun h=>(Ev.ofNone h))))))) (fun h=>(Ev.ofSome h)))
theorem Qtl {Rc : (List Qp) → Int → Int → Option (Q5 × Int)} {m : Nat} {x1 : (List Qp)} {x2 : Int} {x3 : Int} {x4 : Q5} {r : (Q5 × Int)} (h : Wg Rc m x1 x2 x3 = some r) : Ev (fun n=>QbD Rc n x1 x2 x3 x4) r:=by
 rw [Wg] at h
 refine Ev.step ?_ (fun n=>QnB Rc n x1 x2 x3 x4)
 exact (Ev.ofBif h (fun h=>(Ev.ofBif h (fun h=>(Ev.ofBif h (fun h=>(Ev.ofBif h (fun h=>(Ev.ofSome h)) (fun h=>(QbE _ _ _ _ _ _ _ h)))) (fun h=>(QbE _ _ _ _ _ _ _ h)))) (fun h=>(QbE _ _ _ _ _ _ _ h)))) (fun h=>(Ev.ofNone h)))
theorem QAi {Rc : (List Qp) → Int → Int → Option (Q5 × Int)} {m : Nat} (a0 : (List Qp)) (a1 : Int) (a2 : Int) {r : (Q5 × Int)} (h : Qab Rc m a0 a1 a2 = some r) : Ev (fun n=>Qqn Rc n a0 a1 a2) r:=by
 rw [Qab] at h
 refine Ev.of_eq ?_ (fun n=>Qvr Rc n a0 a1 a2)
 exact (Ev.ofBif h (fun h=>(Ev.ofSome h)) (fun h=>(Ev.ofBif h (fun h=>(Ev.ofSome h)) (fun h=>(Qtl h)))))
theorem Qw8 : ∀ d,Qo Tryz.prog (⟨181,[(.list Qg),I64,I64],[Yo,I64],fun x=>X8 d x.1 x.2.1 x.2.2.1⟩ : Ctr):=by
 intro d
 induction d with
 | zero=>intro xs y hy; exact (nomatch (show (none : Option (Q5 × Int)) = some y from hy))
 | succ d ih =>
  refine Qq (by kernel_rfl) (by kernel_rfl : Tryz.prog.funcs[181]? = some Tryz.f181) (code:=Tryz.f181.body.getD .skip) (by kernel_rfl) (by kernel_rfl) (by kernel_rfl) (A:=Qdw) (I:=QbB) (cs:=QbC (X8 d)) (Ql ih Qt) ?_
  rintro ⟨a0,a1,a2,u⟩ y hy
  exact let ⟨_,h⟩:=(Ee hy).get; (QAi a0 a1 a2 h).get
theorem Qzc : Qo Tryz.prog (Qqm):=by
 rintro ⟨a0,a1,a2,u⟩ y hy
 obtain ⟨d,hd⟩:=(Ee hy).get
 exact Qw8 d (a0,a1,a2,u) y hd
def Y5 (a0 : (List Qp)) : Option (Q5 × Bool) :=
 bif decide ((a0.length : Int) < 1) then
  some ((Tree.node (0,([] : List Int),([] : List Int)) ([])),false)
 else
  bif decide ((30 : Int) < (a0.length : Int)) then
   some ((Tree.node (0,([] : List Int),([] : List Int)) ([])),false)
  else
   Option.bind (Qdv a0 0 1) fun (y1 : (Q5 × Int)) =>
   some ((Tree.node y1.1.val y1.1.kids),decide (y1.2 = (a0.length : Int)))
def Qdx : Ctr:=⟨132,[(.list Qg)],[Yo,.bool],fun x=>Y5 x.1⟩
def Qqo : List (List Nat × Ann):=[]
def QnD : List (List Nat × Nat):=[]
def QnE : List Ctr:=[Qqm]
def Qqp (n : Nat) (a0 : (List Qp)) : Option (Q5 × Bool):=run Tryz.prog Qqo QnD (Qv QnE) Tryz.f132 (Tryz.f132.body.getD .skip) (Qy [Yo,.bool]) n (QE [(.list Qg)] (a0,()))
theorem Qvs (n : Nat) (a0 : (List Qp)) : Qqp n a0 =
  bif decide ((a0.length : Int) < 1) then
   some ((Tree.node (0,([] : List Int),([] : List Int)) ([])),false)
  else
   bif decide ((30 : Int) < (a0.length : Int)) then
    some ((Tree.node (0,([] : List Int),([] : List Int)) ([])),false)
   else
    Option.bind (Qdv a0 0 1) fun (y1 : (Q5 × Int)) =>
    some ((Tree.node y1.1.val y1.1.kids),decide (y1.2 = (a0.length : Int))):=by kernel_rfl
theorem QAj (a0 : (List Qp)) {r : (Q5 × Bool)} (h : Y5 a0 = some r) : Ev (fun n=>Qqp n a0) r:=by
 rw [Y5] at h
 refine Ev.of_eq ?_ (fun n=>Qvs n a0)
 exact (Ev.ofBif h (fun h=>(Ev.ofSome h)) (fun h=>(Ev.ofBif h (fun h=>(Ev.ofSome h)) (fun h=>(Ev.ofBind h fun y1 h=>(Ev.ofSome h))))))
theorem Qw9 : ∀ x ∈ QnE,Qo Tryz.prog x:=(Ql Qzc Qt)
theorem QnF : Qo Tryz.prog (Qdx):=by
 refine Qq (c:=Qdx) (by kernel_rfl) (by kernel_rfl : Tryz.prog.funcs[132]? = some Tryz.f132) (code:=Tryz.f132.body.getD .skip) (by kernel_rfl) (by kernel_rfl) (by kernel_rfl) (A:=Qqo) (I:=QnD) (Qw9) ?_
 rintro ⟨a0,u⟩ y hy
 exact (QAj a0 hy).get
def Vi (x1 : (List Int)) : List (List Int) → Option Bool
 | [] =>
   some false
 | e :: rest =>
   bif decide (e = x1) then
    some true
   else
    Vi x1 rest
def H5 (a0 : (List (List Int))) (a1 : (List Int)) : Option Bool :=
 ZF a0 (Vi a1 a0)
def QkM : Ctr:=⟨205,[(.list .str),.str],[.bool],fun x=>H5 x.1 x.2.1⟩
def QkN : List (List Nat × Ann):=[([0,2],[.keep 0 1,.keep 0 7,.keep 0 8,.keep 0 9])]
def Qio : List (List Nat × Nat):=[]
def Qip : List Ctr:=[]
def Qtm (n : Nat) (a0 : (List (List Int))) (a1 : (List Int)) : Option Bool:=run Tryz.prog QkN Qio (Qv Qip) Tryz.f205 (Tryz.f205.body.getD .skip) (Qy [.bool]) n (QE [(.list .str),.str] (a0,a1,()))
abbrev Hy (n : Nat) (x1 : (List Int)) (x2 : (List (List Int))) (x3 : Int) (x4 : Int) : Option Bool:=lam Tryz.prog QkN Qio (Qv Qip) Tryz.f205 (Tryz.f205.body.getD .skip) (Qy [.bool]) n [0,2] [.d .str x1,.d (.list .str) x2,.d I64 x3,.d I64 x4]
theorem Qxa (n : Nat) (a0 : (List (List Int))) (a1 : (List Int)) : Qtm n a0 a1 =
  Hy n a1 a0 (a0.length : Int) 0:=by kernel_rfl
theorem Qe9 (n : Nat) (x1 : (List Int)) (x2 : (List (List Int))) (x3 : Int) (x4 : Int) : Hy (n + 1) x1 x2 x3 x4 =
  bif decide (x4 < x3) then
   bif inB x4 x2.length then
    bif decide (rd x2 x4 (Ty.dflt .str) = x1) then
     some true
    else
     Hy n x1 x2 x3 (IntKind.wrap .i64 (x4 + 1))
   else none
  else
   some false:=by kernel_rfl
theorem Qvt {x1 : (List Int)} {x2 : (List (List Int))} (hl : x2.length ≤ maxLen) : ∀ (rest : List (List Int)) (k : Nat) (r : Bool),rest = x2.drop k → Vi x1 rest = some r → Ev (fun n=>Hy n x1 x2 (x2.length : Int) (k : Int)) r:=by
 intro rest
 induction rest with
 | nil =>
  intro k r hr h
  have hk:=QR hr
  rw [Vi] at h
  refine Ev.step ?_ (fun n=>Qe9 n x1 x2 (x2.length : Int) (k : Int))
  rw [show decide ((k : Int) < (x2.length : Int)) = false from decide_eq_false (by omega)]
  exact Ev.neg rfl (Ev.ofSome h)
 | cons e rest ih =>
  intro k r hr h
  obtain ⟨hk,hx,hr2⟩:=QJ (d:=(Ty.dflt .str)) hr
  have hw:=QG hl hk
  have ih2 : ∀ (r : Bool),Vi x1 rest = some r → Ev (fun n=>Hy n x1 x2 (x2.length : Int) (IntKind.wrap .i64 ((k : Int) + 1))) r:=by
   intro r h; rw [hw]; exact ih (k + 1) r hr2 h
  rw [Vi] at h
  refine Ev.step ?_ (fun n=>Qe9 n x1 x2 (x2.length : Int) (k : Int))
  rw [show decide ((k : Int) < (x2.length : Int)) = true from decide_eq_true (by omega),QM hk,hx]
  exact Ev.pos rfl (Ev.pos rfl (Ev.ofBif h (fun h=>(Ev.ofSome h)) (fun h=>(ih2  _ h))))
theorem QBZ (a0 : (List (List Int))) (a1 : (List Int)) {r : Bool} (h : H5 a0 a1 = some r) : Ev (fun n=>Qtm n a0 a1) r:=by
 rw [H5] at h
 refine Ev.of_eq ?_ (fun n=>Qxa n a0 a1)
 exact (Ev.ofLen h fun hl h=>Qvt hl _ (0 : Nat) _ rfl h)
theorem Qzd : ∀ x ∈ Qip,Qo Tryz.prog x:=Qt
theorem QAk : Qo Tryz.prog (QkM):=by
 refine Qq (c:=QkM) (by kernel_rfl) (by kernel_rfl : Tryz.prog.funcs[205]? = some Tryz.f205) (code:=Tryz.f205.body.getD .skip) (by kernel_rfl) (by kernel_rfl) (by kernel_rfl) (A:=QkN) (I:=Qio) (Qzd) ?_
 rintro ⟨a0,a1,u⟩ y hy
 exact (QBZ a0 a1 hy).get
def ZW (x1 : (List Int)) (x6 : Qa) : List Qm → (List (List Int)) → Option (List (List Int))
 | [],x2 =>
   some x2
 | e :: rest,x2 =>
   bif decide (((e).2).1 = ([] : List Int)) then
    bif !((((e).2).2).1) then
     Option.bind (ZX x6 ((e).1) x1) fun (y1 : Bool) =>
     bif y1 then
      Option.bind (H5 x2 ((e).1)) fun (y2 : Bool) =>
      bif !(y2) then
       bif decide (((x2.length : Int) + (([(e).1] : List (List Int)).length : Int)) * 16 ≤ ZB) && decide ((x2.length : Int) + (([(e).1] : List (List Int)).length : Int) ≤ ZB) then
        ZW x1 x6 rest (x2 ++ ([(e).1] : List (List Int)))
       else none
      else
       ZW x1 x6 rest x2
     else
      ZW x1 x6 rest x2
    else
     ZW x1 x6 rest x2
   else
    ZW x1 x6 rest x2
def V5 (a0 : Qa) (a1 : Qf) (a2 : (List Int)) : Option (List (List Int)) :=
 ZF a1.2 (ZW a2 a0 a1.2 [])
def Qdy : Ctr:=⟨182,[Qi,Qj,.str],[(.list .str)],fun x=>V5 x.1 x.2.1 x.2.2.1⟩
def Qiq : List (List Nat × Ann):=[([0,3],[.keep 0 2,.keep 0 3,.own 0 7 .str,.keep 0 11,.keep 0 12,.keep 0 13,.boxd 0 3 Qi])]
def Qge : List (List Nat × Nat):=[]
def Qgf : List Ctr:=[Hx,QkM]
def Qqq (n : Nat) (a0 : Qa) (a1 : Qf) (a2 : (List Int)) : Option (List (List Int)):=run Tryz.prog Qiq Qge (Qv Qgf) Tryz.f182 (Tryz.f182.body.getD .skip) (Qy [(.list .str)]) n (QE [Qi,Qj,.str] (a0,a1,a2,()))
abbrev Yj (n : Nat) (x1 : (List Int)) (x2 : (List (List Int))) (x3 : (List Qm)) (x4 : Int) (x5 : Int) (x6 : Qa) : Option (List (List Int)):=lam Tryz.prog Qiq Qge (Qv Qgf) Tryz.f182 (Tryz.f182.body.getD .skip) (Qy [(.list .str)]) n [0,3] [.d .str x1,.ptr 0 3 0,.own 0 .str x2,.d (.list Qd) x3,.d I64 x4,.d I64 x5,.agg (QA Qi x6)]
theorem Qvu (n : Nat) (a0 : Qa) (a1 : Qf) (a2 : (List Int)) : Qqq n a0 a1 a2 =
  Yj n a2 [] a1.2 (a1.2.length : Int) 0 a0:=by kernel_rfl
theorem QdU (n : Nat) (x1 : (List Int)) (x2 : (List (List Int))) (x3 : (List Qm)) (x4 : Int) (x5 : Int) (x6 : Qa) : Yj (n + 1) x1 x2 x3 x4 x5 x6 =
  bif decide (x5 < x4) then
   bif inB x5 x3.length then
    bif decide (((rd x3 x5 (Ty.dflt Qd)).2).1 = ([] : List Int)) then
     bif !((((rd x3 x5 (Ty.dflt Qd)).2).2).1) then
      Option.bind (ZX x6 ((rd x3 x5 (Ty.dflt Qd)).1) x1) fun (y1 : Bool) =>
      bif y1 then
       Option.bind (H5 x2 ((rd x3 x5 (Ty.dflt Qd)).1)) fun (y2 : Bool) =>
       bif !(y2) then
        bif decide (((x2.length : Int) + (([(rd x3 x5 (Ty.dflt Qd)).1] : List (List Int)).length : Int)) * 16 ≤ ZB) && decide ((x2.length : Int) + (([(rd x3 x5 (Ty.dflt Qd)).1] : List (List Int)).length : Int) ≤ ZB) then
         Yj n x1 (x2 ++ ([(rd x3 x5 (Ty.dflt Qd)).1] : List (List Int))) x3 x4 (IntKind.wrap .i64 (x5 + 1)) x6
        else none
       else
        Yj n x1 x2 x3 x4 (IntKind.wrap .i64 (x5 + 1)) x6
      else
       Yj n x1 x2 x3 x4 (IntKind.wrap .i64 (x5 + 1)) x6
     else
      Yj n x1 x2 x3 x4 (IntKind.wrap .i64 (x5 + 1)) x6
    else
     Yj n x1 x2 x3 x4 (IntKind.wrap .i64 (x5 + 1)) x6
   else none
  else
   some x2:=by kernel_rfl
theorem Qtn {x1 : (List Int)} {x3 : (List Qm)} {x6 : Qa} (hl : x3.length ≤ maxLen) : ∀ (rest : List Qm) (k : Nat) (x2 : (List (List Int))) (r : (List (List Int))),rest = x3.drop k → ZW x1 x6 rest x2 = some r → Ev (fun n=>Yj n x1 x2 x3 (x3.length : Int) (k : Int) x6) r:=by
 intro rest
 induction rest with
 | nil =>
  intro k x2 r hr h
  have hk:=QR hr
  rw [ZW] at h
  refine Ev.step ?_ (fun n=>QdU n x1 x2 x3 (x3.length : Int) (k : Int) x6)
  rw [show decide ((k : Int) < (x3.length : Int)) = false from decide_eq_false (by omega)]
  exact Ev.neg rfl (Ev.ofSome h)
 | cons e rest ih =>
  intro k x2 r hr h
  obtain ⟨hk,hx,hr2⟩:=QJ (d:=(Ty.dflt Qd)) hr
  have hw:=QG hl hk
  have ih2 : ∀ (z2 : (List (List Int))) (r : (List (List Int))),ZW x1 x6 rest z2 = some r → Ev (fun n=>Yj n x1 z2 x3 (x3.length : Int) (IntKind.wrap .i64 ((k : Int) + 1)) x6) r:=by
   intro z2 r h; rw [hw]; exact ih (k + 1) z2 r hr2 h
  rw [ZW] at h
  refine Ev.step ?_ (fun n=>QdU n x1 x2 x3 (x3.length : Int) (k : Int) x6)
  rw [show decide ((k : Int) < (x3.length : Int)) = true from decide_eq_true (by omega),QM hk,hx]
  exact Ev.pos rfl (Ev.pos rfl (Ev.ofBif h (fun h=>(Ev.ofBif h (fun h=>(Ev.ofBind h fun y1 h=>(Ev.ofBif h (fun h=>(Ev.ofBind h fun y2 h=>(Ev.ofBif h (fun h=>(Ev.ofBif h (fun h=>(ih2 _ _ h)) (fun h=>(Ev.ofNone h)))) (fun h=>(ih2 _ _ h))))) (fun h=>(ih2 _ _ h))))) (fun h=>(ih2 _ _ h)))) (fun h=>(ih2 _ _ h))))
theorem QAl (a0 : Qa) (a1 : Qf) (a2 : (List Int)) {r : (List (List Int))} (h : V5 a0 a1 a2 = some r) : Ev (fun n=>Qqq n a0 a1 a2) r:=by
 rw [V5] at h
 refine Ev.of_eq ?_ (fun n=>Qvu n a0 a1 a2)
 exact (Ev.ofLen h fun hl h=>Qtn hl _ (0 : Nat) _ _ rfl h)
theorem Qxb : ∀ x ∈ Qgf,Qo Tryz.prog x:=(Ql Qas (Ql QAk Qt))
theorem QnG : Qo Tryz.prog (Qdy):=by
 refine Qq (c:=Qdy) (by kernel_rfl) (by kernel_rfl : Tryz.prog.funcs[182]? = some Tryz.f182) (code:=Tryz.f182.body.getD .skip) (by kernel_rfl) (by kernel_rfl) (by kernel_rfl) (A:=Qiq) (I:=Qge) (Qxb) ?_
 rintro ⟨a0,a1,a2,u⟩ y hy
 exact (QAl a0 a1 a2 hy).get
def Jl (Rc : Qa → Qb → Q5 → Option Bool) (x1 : Bool) (x2 : Qa) (x3 : Qb) (x4 : Q5) (x5 : Qp) : Option Bool :=
 bif x1 then
  bif decide (x5.2.1 = ([] : List Int)) then
   bif decide (x5.2.2 = ([] : List Int)) then
    bif inB 0 x4.kids.length then
     Option.bind (Rc x2 x3 (Tree.node ((rd x4.kids 0 (Ty.dflt Yo)).val) ((rd x4.kids 0 (Ty.dflt Yo)).kids))) fun (y4 : Bool) =>
     bif y4 then
      bif inB 1 x4.kids.length then
       Option.bind (Rc x2 x3 (Tree.node ((rd x4.kids 1 (Ty.dflt Yo)).val) ((rd x4.kids 1 (Ty.dflt Yo)).kids))) fun (y5 : Bool) =>
       some y5
      else none
     else
      some false
    else none
   else
    some false
  else
   some false
 else
  some false
def Gl (Rc : Qa → Qb → Q5 → Option Bool) (a0 : Qa) (a1 : Qb) (a2 : Q5) : Option Bool :=
 bif decide (a2.val.1 = 6) then
  bif decide (a2.val.2.1 = ([] : List Int)) then
   some (decide (a2.val.2.2 = ([] : List Int)))
  else
   some false
 else
  bif decide (a2.val.1 = 1) then
   bif decide (a2.val.2.1 = ([] : List Int)) then
    Option.bind (ZX a0 a1.1 a2.val.2.2) fun (y1 : Bool) =>
    some y1
   else
    some false
  else
   bif decide (a2.val.1 = 2) then
    Option.bind (Zs a1 a2.val.2.1) fun (y2 : (Qf × Bool)) =>
    bif y2.2 then
     Option.bind (V5 a0 y2.1 a2.val.2.2) fun (y3 : (List (List Int))) =>
     some (decide ((0 : Int) < (y3.length : Int)))
    else
     some false
   else
    bif decide (a2.val.1 = 3) then
     Jl Rc (decide (a2.val.1 = 3)) a0 a1 (Tree.node a2.val a2.kids) a2.val
    else
     bif decide (a2.val.1 = 4) then
      Jl Rc (decide (a2.val.1 = 4)) a0 a1 (Tree.node a2.val a2.kids) a2.val
     else
      Jl Rc (decide (a2.val.1 = 5)) a0 a1 (Tree.node a2.val a2.kids) a2.val
def YV : Nat → Qa → Qb → Q5 → Option Bool
 | 0=>fun _ _ _=>none
 | d + 1=>fun a0 a1 a2=>Gl (YV d) a0 a1 a2
def VA (a0 : Qa) (a1 : Qb) (a2 : Q5) : Option Bool:=Qhw fun d=>YV d a0 a1 a2
def QhA : Ctr:=⟨133,[Qi,Qe,Yo],[.bool],fun x=>VA x.1 x.2.1 x.2.2.1⟩
def QbF : List (List Nat × Ann):=[([1,13],[.keep 0 3,.keep 0 4,.keep 0 5,.keep 0 7,.keep 0 56,.boxd 0 3 Qi,.boxd 0 4 Qe,.boxd 0 5 Yo,.boxd 0 7 Qg])]
def QaH : List (List Nat × Nat):=[]
def QaI (Rc : Qa → Qb → Q5 → Option Bool) : List Ctr:=[Hx,Gj,Qdy,⟨133,[Qi,Qe,Yo],[.bool],fun x=>Rc x.1 x.2.1 x.2.2.1⟩]
def QhB (Rc : Qa → Qb → Q5 → Option Bool) (n : Nat) (a0 : Qa) (a1 : Qb) (a2 : Q5) : Option Bool:=run Tryz.prog QbF QaH (Qv (QaI Rc)) Tryz.f133 (Tryz.f133.body.getD .skip) (Qy [.bool]) n (QE [Qi,Qe,Yo] (a0,a1,a2,()))
abbrev VB (Rc : Qa → Qb → Q5 → Option Bool) (n : Nat) (x1 : Bool) (x2 : Qa) (x3 : Qb) (x4 : Q5) (x5 : Qp) : Option Bool:=lam Tryz.prog QbF QaH (Qv (QaI Rc)) Tryz.f133 (Tryz.f133.body.getD .skip) (Qy [.bool]) n [1,13] [.ptr 0 3 0,.ptr 0 4 0,.ptr 0 5 0,.ptr 0 7 0,.d .bool x1,.agg (QA Qi x2),.agg (QA Qe x3),.agg (QA Yo x4),.agg (QA Qg x5)]
theorem QnH (Rc : Qa → Qb → Q5 → Option Bool) (n : Nat) (a0 : Qa) (a1 : Qb) (a2 : Q5) : QhB Rc n a0 a1 a2 =
  bif decide (a2.val.1 = 6) then
   bif decide (a2.val.2.1 = ([] : List Int)) then
    some (decide (a2.val.2.2 = ([] : List Int)))
   else
    some false
  else
   bif decide (a2.val.1 = 1) then
    bif decide (a2.val.2.1 = ([] : List Int)) then
     Option.bind (ZX a0 a1.1 a2.val.2.2) fun (y1 : Bool) =>
     some y1
    else
     some false
   else
    bif decide (a2.val.1 = 2) then
     Option.bind (Zs a1 a2.val.2.1) fun (y2 : (Qf × Bool)) =>
     bif y2.2 then
      Option.bind (V5 a0 y2.1 a2.val.2.2) fun (y3 : (List (List Int))) =>
      some (decide ((0 : Int) < (y3.length : Int)))
     else
      some false
    else
     bif decide (a2.val.1 = 3) then
      VB Rc n (decide (a2.val.1 = 3)) a0 a1 (Tree.node a2.val a2.kids) a2.val
     else
      bif decide (a2.val.1 = 4) then
       VB Rc n (decide (a2.val.1 = 4)) a0 a1 (Tree.node a2.val a2.kids) a2.val
      else
       VB Rc n (decide (a2.val.1 = 5)) a0 a1 (Tree.node a2.val a2.kids) a2.val:=by kernel_rfl
theorem Qg4 (Rc : Qa → Qb → Q5 → Option Bool) (n : Nat) (x1 : Bool) (x2 : Qa) (x3 : Qb) (x4 : Q5) (x5 : Qp) : VB Rc (n + 1) x1 x2 x3 x4 x5 =
  bif x1 then
   bif decide (x5.2.1 = ([] : List Int)) then
    bif decide (x5.2.2 = ([] : List Int)) then
     bif inB 0 x4.kids.length then
      Option.bind (Rc x2 x3 (Tree.node ((rd x4.kids 0 (Ty.dflt Yo)).val) ((rd x4.kids 0 (Ty.dflt Yo)).kids))) fun (y4 : Bool) =>
      bif y4 then
       bif inB 1 x4.kids.length then
        Option.bind (Rc x2 x3 (Tree.node ((rd x4.kids 1 (Ty.dflt Yo)).val) ((rd x4.kids 1 (Ty.dflt Yo)).kids))) fun (y5 : Bool) =>
        some y5
       else none
      else
       some false
     else none
    else
     some false
   else
    some false
  else
   some false:=by kernel_rfl
theorem H6 {Rc : Qa → Qb → Q5 → Option Bool} {x1 : Bool} {x2 : Qa} {x3 : Qb} {x4 : Q5} {x5 : Qp} {r : Bool} (h : Jl Rc x1 x2 x3 x4 x5 = some r) : Ev (fun n=>VB Rc n x1 x2 x3 x4 x5) r:=by
 rw [Jl] at h
 refine Ev.step ?_ (fun n=>Qg4 Rc n x1 x2 x3 x4 x5)
 exact (Ev.ofBif h (fun h=>(Ev.ofBif h (fun h=>(Ev.ofBif h (fun h=>(Ev.ofBif h (fun h=>(Ev.ofBind h fun y4 h=>(Ev.ofBif h (fun h=>(Ev.ofBif h (fun h=>(Ev.ofBind h fun y5 h=>(Ev.ofSome h))) (fun h=>(Ev.ofNone h)))) (fun h=>(Ev.ofSome h))))) (fun h=>(Ev.ofNone h)))) (fun h=>(Ev.ofSome h)))) (fun h=>(Ev.ofSome h)))) (fun h=>(Ev.ofSome h)))
theorem Qto {Rc : Qa → Qb → Q5 → Option Bool} (a0 : Qa) (a1 : Qb) (a2 : Q5) {r : Bool} (h : Gl Rc a0 a1 a2 = some r) : Ev (fun n=>QhB Rc n a0 a1 a2) r:=by
 rw [Gl] at h
 refine Ev.of_eq ?_ (fun n=>QnH Rc n a0 a1 a2)
 exact (Ev.ofBif h (fun h=>(Ev.ofBif h (fun h=>(Ev.ofSome h)) (fun h=>(Ev.ofSome h)))) (fun h=>(Ev.ofBif h (fun h=>(Ev.ofBif h (fun h=>(Ev.ofBind h fun y1 h=>(Ev.ofSome h))) (fun h=>(Ev.ofSome h)))) (fun h=>(Ev.ofBif h (fun h=>(Ev.ofBind h fun y2 h=>(Ev.ofBif h (fun h=>(Ev.ofBind h fun y3 h=>(Ev.ofSome h))) (fun h=>(Ev.ofSome h))))) (fun h=>(Ev.ofBif h (fun h=>(H6 h)) (fun h=>(Ev.ofBif h (fun h=>(H6 h)) (fun h=>(H6 h)))))))))))
theorem Qpm : ∀ d,Qo Tryz.prog (⟨133,[Qi,Qe,Yo],[.bool],fun x=>YV d x.1 x.2.1 x.2.2.1⟩ : Ctr):=by
 intro d
 induction d with
 | zero=>intro xs y hy; exact (nomatch (show (none : Option Bool) = some y from hy))
 | succ d ih =>
  refine Qq (by kernel_rfl) (by kernel_rfl : Tryz.prog.funcs[133]? = some Tryz.f133) (code:=Tryz.f133.body.getD .skip) (by kernel_rfl) (by kernel_rfl) (by kernel_rfl) (A:=QbF) (I:=QaH) (cs:=QaI (YV d)) (Ql Qas (Ql H4 (Ql QnG (Ql ih Qt)))) ?_
  rintro ⟨a0,a1,a2,u⟩ y hy
  exact (Qto a0 a1 a2 hy).get
theorem Qrw : Qo Tryz.prog (QhA):=by
 rintro ⟨a0,a1,a2,u⟩ y hy
 obtain ⟨d,hd⟩:=(Ee hy).get
 exact Qpm d (a0,a1,a2,u) y hd
def Jm (K1 : Option Bool) (x7 : Qa) (x10 : Qm) : Option Bool :=
 Option.bind (Gv x7 x10.2.2.2) fun (y7 : (QC × Bool)) =>
 bif !(y7.2) then
  bif !decide (x10.2.2.2 = ([] : List Int)) then
   some false
  else
   K1
 else
  K1
def Zc (K0 : Option Bool) (x7 : Qa) (x9 : Qf) : List Qm → Nat → Option Bool
 | [],k =>
   K0
 | e :: rest,k =>
   Option.bind (Y4 x7 ((e).1)) fun (y4 : (Qb × Bool)) =>
   bif !(y4.2) then
    some false
   else
    bif !decide (((e).2).1 = ([] : List Int)) then
     bif (((e).2).2).1 then
      some false
     else
      Option.bind (ZX x7 ((e).1) (((e).2).1)) fun (y5 : Bool) =>
      bif !(y5) then
       some false
      else
       bif decide ((0 : Int) < (k : Int)) then
        bif inB (IntKind.wrap .i64 ((k : Int) - 1)) x9.2.length then
         Option.bind (JE (rd x9.2 (IntKind.wrap .i64 ((k : Int) - 1)) (Ty.dflt Qd)) (e)) fun (y6 : Int) =>
         bif decide ((0 : Int) ≤ y6) then
          some false
         else
          Jm (Zc K0 x7 x9 rest (k + 1)) x7 (e)
        else none
       else
        Jm (Zc K0 x7 x9 rest (k + 1)) x7 (e)
    else
     bif decide ((0 : Int) < (k : Int)) then
      bif inB (IntKind.wrap .i64 ((k : Int) - 1)) x9.2.length then
       Option.bind (JE (rd x9.2 (IntKind.wrap .i64 ((k : Int) - 1)) (Ty.dflt Qd)) (e)) fun (y8 : Int) =>
       bif decide ((0 : Int) ≤ y8) then
        some false
       else
        Jm (Zc K0 x7 x9 rest (k + 1)) x7 (e)
      else none
     else
      Jm (Zc K0 x7 x9 rest (k + 1)) x7 (e)
def ZD (x4 : Qa) (x5 : Qb) : List Qc → Nat → Option Bool
 | [],k =>
   some true
 | e :: rest,k =>
   Option.bind (Y5 ((e).2)) fun (y9 : (Q5 × Bool)) =>
   Option.bind (Zv ((e).1)) fun (y10 : Bool) =>
   bif !(y10) then
    some false
   else
    bif decide ((e).1 = ([110,105,108] : List Int)) then
     some false
    else
     bif decide ((0 : Int) < (k : Int)) then
      bif inB (IntKind.wrap .i64 ((k : Int) - 1)) x5.2.2.length then
       Option.bind (QX ((rd x5.2.2 (IntKind.wrap .i64 ((k : Int) - 1)) (Ty.dflt Qh)).1) ((e).1)) fun (y11 : Int) =>
       bif decide ((0 : Int) ≤ y11) then
        some false
       else
        bif !(y9.2) then
         some false
        else
         Option.bind (VA x4 x5 (Tree.node y9.1.val y9.1.kids)) fun (y12 : Bool) =>
         bif !(y12) then
          some false
         else
          Option.bind (Zs x5 ((e).1)) fun (y13 : (Qf × Bool)) =>
          bif y13.2 then
           some false
          else
           ZD x4 x5 rest (k + 1)
      else none
     else
      bif !(y9.2) then
       some false
      else
       Option.bind (VA x4 x5 (Tree.node y9.1.val y9.1.kids)) fun (y14 : Bool) =>
       bif !(y14) then
        some false
       else
        Option.bind (Zs x5 ((e).1)) fun (y15 : (Qf × Bool)) =>
        bif y15.2 then
         some false
        else
         ZD x4 x5 rest (k + 1)
def ZH (x4 : Qa) (x5 : Qb) : List Qf → Nat → Option Bool
 | [],k =>
   ZF x5.2.2 (ZD x4 x5 x5.2.2 0)
 | e :: rest,k =>
   Option.bind (Zv ((e).1)) fun (y2 : Bool) =>
   bif !(y2) then
    some false
   else
    bif decide ((e).1 = ([110,105,108] : List Int)) then
     some false
    else
     bif decide ((0 : Int) < (k : Int)) then
      bif inB (IntKind.wrap .i64 ((k : Int) - 1)) x5.2.1.length then
       Option.bind (QX ((rd x5.2.1 (IntKind.wrap .i64 ((k : Int) - 1)) (Ty.dflt Qj)).1) ((e).1)) fun (y3 : Int) =>
       bif decide ((0 : Int) ≤ y3) then
        some false
       else
        bif decide ((((e).2).length : Int) < 1) then
         some false
        else
         bif decide ((8 : Int) < (((e).2).length : Int)) then
          some false
         else
          ZF ((e).2) (Zc (ZH x4 x5 rest (k + 1)) x4 (e) ((e).2) 0)
      else none
     else
      bif decide ((((e).2).length : Int) < 1) then
       some false
      else
       bif decide ((8 : Int) < (((e).2).length : Int)) then
        some false
       else
        ZF ((e).2) (Zc (ZH x4 x5 rest (k + 1)) x4 (e) ((e).2) 0)
def VC (a0 : Qa) (a1 : Qb) : Option Bool :=
 Option.bind (Zv a1.1) fun (y1 : Bool) =>
 bif !(y1) then
  some false
 else
  bif decide ((12 : Int) < (a1.2.1.length : Int)) then
   some false
  else
   bif decide ((12 : Int) < (a1.2.2.length : Int)) then
    some false
   else
    ZF a1.2.1 (ZH a0 a1 a1.2.1 0)
def QbG : Ctr:=⟨75,[Qi,Qe],[.bool],fun x=>VC x.1 x.2.1⟩
def Gm : List (List Nat × Ann):=[([0,4],[.keep 0 2,.keep 0 3,.keep 0 36,.keep 0 37,.keep 0 38,.boxd 0 2 Qi,.boxd 0 3 Qe]),([0,9],[.keep 0 2,.keep 0 3,.keep 0 6,.keep 0 36,.keep 0 37,.keep 0 38,.keep 0 82,.keep 0 83,.keep 0 84,.boxd 0 2 Qi,.boxd 0 3 Qe,.boxd 0 6 Qj]),([1,14],[.keep 0 2,.keep 0 3,.keep 0 6,.keep 0 8,.keep 0 36,.keep 0 37,.keep 0 38,.keep 0 82,.keep 0 83,.keep 0 84,.boxd 0 2 Qi,.boxd 0 3 Qe,.boxd 0 6 Qj,.boxd 0 8 Qd]),([0,20],[.keep 0 2,.keep 0 3,.keep 0 148,.keep 0 149,.keep 0 150,.boxd 0 2 Qi,.boxd 0 3 Qe])]
def VY : List (List Nat × Nat):=[]
def VZ : List Ctr:=[Uw,G0,E9,Hx,EU,QeA,Qdx,QhA,Gj]
def QhC (n : Nat) (a0 : Qa) (a1 : Qb) : Option Bool:=run Tryz.prog Gm VY (Qv VZ) Tryz.f75 (Tryz.f75.body.getD .skip) (Qy [.bool]) n (QE [Qi,Qe] (a0,a1,()))
abbrev YY (n : Nat) (x1 : (List Qf)) (x2 : Int) (x3 : Int) (x4 : Qa) (x5 : Qb) : Option Bool:=lam Tryz.prog Gm VY (Qv VZ) Tryz.f75 (Tryz.f75.body.getD .skip) (Qy [.bool]) n [0,4] [.ptr 0 2 0,.ptr 0 3 0,.d (.list Qj) x1,.d I64 x2,.d I64 x3,.agg (QA Qi x4),.agg (QA Qe x5)]
abbrev JB (n : Nat) (x1 : (List Qf)) (x2 : Int) (x3 : Int) (x4 : (List Qm)) (x5 : Int) (x6 : Int) (x7 : Qa) (x8 : Qb) (x9 : Qf) : Option Bool:=lam Tryz.prog Gm VY (Qv VZ) Tryz.f75 (Tryz.f75.body.getD .skip) (Qy [.bool]) n [0,9] [.ptr 0 2 0,.ptr 0 3 0,.ptr 0 6 0,.d (.list Qj) x1,.d I64 x2,.d I64 x3,.d (.list Qd) x4,.d I64 x5,.d I64 x6,.agg (QA Qi x7),.agg (QA Qe x8),.agg (QA Qj x9)]
abbrev YG (n : Nat) (x1 : (List Qf)) (x2 : Int) (x3 : Int) (x4 : (List Qm)) (x5 : Int) (x6 : Int) (x7 : Qa) (x8 : Qb) (x9 : Qf) (x10 : Qm) : Option Bool:=lam Tryz.prog Gm VY (Qv VZ) Tryz.f75 (Tryz.f75.body.getD .skip) (Qy [.bool]) n [1,14] [.ptr 0 2 0,.ptr 0 3 0,.ptr 0 6 0,.ptr 0 8 0,.d (.list Qj) x1,.d I64 x2,.d I64 x3,.d (.list Qd) x4,.d I64 x5,.d I64 x6,.agg (QA Qi x7),.agg (QA Qe x8),.agg (QA Qj x9),.agg (QA Qd x10)]
abbrev YH (n : Nat) (x1 : (List Qc)) (x2 : Int) (x3 : Int) (x4 : Qa) (x5 : Qb) : Option Bool:=lam Tryz.prog Gm VY (Qv VZ) Tryz.f75 (Tryz.f75.body.getD .skip) (Qy [.bool]) n [0,20] [.ptr 0 2 0,.ptr 0 3 0,.d (.list Qh) x1,.d I64 x2,.d I64 x3,.agg (QA Qi x4),.agg (QA Qe x5)]
theorem QnI (n : Nat) (a0 : Qa) (a1 : Qb) : QhC n a0 a1 =
  Option.bind (Zv a1.1) fun (y1 : Bool) =>
  bif !(y1) then
   some false
  else
   bif decide ((12 : Int) < (a1.2.1.length : Int)) then
    some false
   else
    bif decide ((12 : Int) < (a1.2.2.length : Int)) then
     some false
    else
     YY n a1.2.1 (a1.2.1.length : Int) 0 a0 a1:=by kernel_rfl
theorem Qac (n : Nat) (x1 : (List Qf)) (x2 : Int) (x3 : Int) (x4 : Qa) (x5 : Qb) : YY (n + 1) x1 x2 x3 x4 x5 =
  bif decide (x3 < x2) then
   bif inB x3 x1.length then
    Option.bind (Zv ((rd x1 x3 (Ty.dflt Qj)).1)) fun (y2 : Bool) =>
    bif !(y2) then
     some false
    else
     bif decide ((rd x1 x3 (Ty.dflt Qj)).1 = ([110,105,108] : List Int)) then
      some false
     else
      bif decide ((0 : Int) < x3) then
       bif inB (IntKind.wrap .i64 (x3 - 1)) x5.2.1.length then
        Option.bind (QX ((rd x5.2.1 (IntKind.wrap .i64 (x3 - 1)) (Ty.dflt Qj)).1) ((rd x1 x3 (Ty.dflt Qj)).1)) fun (y3 : Int) =>
        bif decide ((0 : Int) ≤ y3) then
         some false
        else
         bif decide ((((rd x1 x3 (Ty.dflt Qj)).2).length : Int) < 1) then
          some false
         else
          bif decide ((8 : Int) < (((rd x1 x3 (Ty.dflt Qj)).2).length : Int)) then
           some false
          else
           JB n x1 x2 x3 ((rd x1 x3 (Ty.dflt Qj)).2) (((rd x1 x3 (Ty.dflt Qj)).2).length : Int) 0 x4 x5 (rd x1 x3 (Ty.dflt Qj))
       else none
      else
       bif decide ((((rd x1 x3 (Ty.dflt Qj)).2).length : Int) < 1) then
        some false
       else
        bif decide ((8 : Int) < (((rd x1 x3 (Ty.dflt Qj)).2).length : Int)) then
         some false
        else
         JB n x1 x2 x3 ((rd x1 x3 (Ty.dflt Qj)).2) (((rd x1 x3 (Ty.dflt Qj)).2).length : Int) 0 x4 x5 (rd x1 x3 (Ty.dflt Qj))
   else none
  else
   YH n x5.2.2 (x5.2.2.length : Int) 0 x4 x5:=by kernel_rfl
theorem Qad (n : Nat) (x1 : (List Qf)) (x2 : Int) (x3 : Int) (x4 : (List Qm)) (x5 : Int) (x6 : Int) (x7 : Qa) (x8 : Qb) (x9 : Qf) : JB (n + 1) x1 x2 x3 x4 x5 x6 x7 x8 x9 =
  bif decide (x6 < x5) then
   bif inB x6 x4.length then
    Option.bind (Y4 x7 ((rd x4 x6 (Ty.dflt Qd)).1)) fun (y4 : (Qb × Bool)) =>
    bif !(y4.2) then
     some false
    else
     bif !decide (((rd x4 x6 (Ty.dflt Qd)).2).1 = ([] : List Int)) then
      bif (((rd x4 x6 (Ty.dflt Qd)).2).2).1 then
       some false
      else
       Option.bind (ZX x7 ((rd x4 x6 (Ty.dflt Qd)).1) (((rd x4 x6 (Ty.dflt Qd)).2).1)) fun (y5 : Bool) =>
       bif !(y5) then
        some false
       else
        bif decide ((0 : Int) < x6) then
         bif inB (IntKind.wrap .i64 (x6 - 1)) x9.2.length then
          Option.bind (JE (rd x9.2 (IntKind.wrap .i64 (x6 - 1)) (Ty.dflt Qd)) (rd x4 x6 (Ty.dflt Qd))) fun (y6 : Int) =>
          bif decide ((0 : Int) ≤ y6) then
           some false
          else
           YG n x1 x2 x3 x4 x5 x6 x7 x8 x9 (rd x4 x6 (Ty.dflt Qd))
         else none
        else
         YG n x1 x2 x3 x4 x5 x6 x7 x8 x9 (rd x4 x6 (Ty.dflt Qd))
     else
      bif decide ((0 : Int) < x6) then
       bif inB (IntKind.wrap .i64 (x6 - 1)) x9.2.length then
        Option.bind (JE (rd x9.2 (IntKind.wrap .i64 (x6 - 1)) (Ty.dflt Qd)) (rd x4 x6 (Ty.dflt Qd))) fun (y8 : Int) =>
        bif decide ((0 : Int) ≤ y8) then
         some false
        else
         YG n x1 x2 x3 x4 x5 x6 x7 x8 x9 (rd x4 x6 (Ty.dflt Qd))
       else none
      else
       YG n x1 x2 x3 x4 x5 x6 x7 x8 x9 (rd x4 x6 (Ty.dflt Qd))
   else none
  else
   YY n x1 x2 (IntKind.wrap .i64 (x3 + 1)) x7 x8:=by kernel_rfl
theorem Qg5 (n : Nat) (x1 : (List Qf)) (x2 : Int) (x3 : Int) (x4 : (List Qm)) (x5 : Int) (x6 : Int) (x7 : Qa) (x8 : Qb) (x9 : Qf) (x10 : Qm) : YG (n + 1) x1 x2 x3 x4 x5 x6 x7 x8 x9 x10 =
  Option.bind (Gv x7 x10.2.2.2) fun (y7 : (QC × Bool)) =>
  bif !(y7.2) then
   bif !decide (x10.2.2.2 = ([] : List Int)) then
    some false
   else
    JB n x1 x2 x3 x4 x5 (IntKind.wrap .i64 (x6 + 1)) x7 x8 x9
  else
   JB n x1 x2 x3 x4 x5 (IntKind.wrap .i64 (x6 + 1)) x7 x8 x9:=by kernel_rfl
theorem EG (n : Nat) (x1 : (List Qc)) (x2 : Int) (x3 : Int) (x4 : Qa) (x5 : Qb) : YH (n + 1) x1 x2 x3 x4 x5 =
  bif decide (x3 < x2) then
   bif inB x3 x1.length then
    Option.bind (Y5 ((rd x1 x3 (Ty.dflt Qh)).2)) fun (y9 : (Q5 × Bool)) =>
    Option.bind (Zv ((rd x1 x3 (Ty.dflt Qh)).1)) fun (y10 : Bool) =>
    bif !(y10) then
     some false
    else
     bif decide ((rd x1 x3 (Ty.dflt Qh)).1 = ([110,105,108] : List Int)) then
      some false
     else
      bif decide ((0 : Int) < x3) then
       bif inB (IntKind.wrap .i64 (x3 - 1)) x5.2.2.length then
        Option.bind (QX ((rd x5.2.2 (IntKind.wrap .i64 (x3 - 1)) (Ty.dflt Qh)).1) ((rd x1 x3 (Ty.dflt Qh)).1)) fun (y11 : Int) =>
        bif decide ((0 : Int) ≤ y11) then
         some false
        else
         bif !(y9.2) then
          some false
         else
          Option.bind (VA x4 x5 (Tree.node y9.1.val y9.1.kids)) fun (y12 : Bool) =>
          bif !(y12) then
           some false
          else
           Option.bind (Zs x5 ((rd x1 x3 (Ty.dflt Qh)).1)) fun (y13 : (Qf × Bool)) =>
           bif y13.2 then
            some false
           else
            YH n x1 x2 (IntKind.wrap .i64 (x3 + 1)) x4 x5
       else none
      else
       bif !(y9.2) then
        some false
       else
        Option.bind (VA x4 x5 (Tree.node y9.1.val y9.1.kids)) fun (y14 : Bool) =>
        bif !(y14) then
         some false
        else
         Option.bind (Zs x5 ((rd x1 x3 (Ty.dflt Qh)).1)) fun (y15 : (Qf × Bool)) =>
         bif y15.2 then
          some false
         else
          YH n x1 x2 (IntKind.wrap .i64 (x3 + 1)) x4 x5
   else none
  else
   some true:=by kernel_rfl
theorem GK {K1 : Option Bool} {x1 : (List Qf)} {x2 : Int} {x3 : Int} {x4 : (List Qm)} {x5 : Int} {x6 : Int} {x7 : Qa} {x8 : Qb} {x9 : Qf} {x10 : Qm} (hK1 : ∀  (r : Bool),K1 = some r → Ev (fun n=>JB n x1 x2 x3 x4 x5 (IntKind.wrap .i64 (x6 + 1)) x7 x8 x9) r) {r : Bool} (h : Jm K1 x7 x10 = some r) : Ev (fun n=>YG n x1 x2 x3 x4 x5 x6 x7 x8 x9 x10) r:=by
 rw [Jm] at h
 refine Ev.step ?_ (fun n=>Qg5 n x1 x2 x3 x4 x5 x6 x7 x8 x9 x10)
 exact (Ev.ofBind h fun y7 h=>(Ev.ofBif h (fun h=>(Ev.ofBif h (fun h=>(Ev.ofSome h)) (fun h=>(hK1  _ h)))) (fun h=>(hK1  _ h))))
theorem Qct {K0 : Option Bool} {x1 : (List Qf)} {x2 : Int} {x3 : Int} {x4 : (List Qm)} {x7 : Qa} {x8 : Qb} {x9 : Qf} (hl : x4.length ≤ maxLen) (hK0 : ∀  (r : Bool),K0 = some r → Ev (fun n=>YY n x1 x2 (IntKind.wrap .i64 (x3 + 1)) x7 x8) r) : ∀ (rest : List Qm) (k : Nat) (r : Bool),rest = x4.drop k → Zc K0 x7 x9 rest k = some r → Ev (fun n=>JB n x1 x2 x3 x4 (x4.length : Int) (k : Int) x7 x8 x9) r:=by
 intro rest
 induction rest with
 | nil =>
  intro k r hr h
  have hk:=QR hr
  rw [Zc] at h
  refine Ev.step ?_ (fun n=>Qad n x1 x2 x3 x4 (x4.length : Int) (k : Int) x7 x8 x9)
  rw [show decide ((k : Int) < (x4.length : Int)) = false from decide_eq_false (by omega)]
  exact Ev.neg rfl (hK0  _ h)
 | cons e rest ih =>
  intro k r hr h
  obtain ⟨hk,hx,hr2⟩:=QJ (d:=(Ty.dflt Qd)) hr
  have hw:=QG hl hk
  have ih2 : ∀ (r : Bool),Zc K0 x7 x9 rest (k + 1) = some r → Ev (fun n=>JB n x1 x2 x3 x4 (x4.length : Int) (IntKind.wrap .i64 ((k : Int) + 1)) x7 x8 x9) r:=by
   intro r h; rw [hw]; exact ih (k + 1) r hr2 h
  rw [Zc] at h
  refine Ev.step ?_ (fun n=>Qad n x1 x2 x3 x4 (x4.length : Int) (k : Int) x7 x8 x9)
  rw [show decide ((k : Int) < (x4.length : Int)) = true from decide_eq_true (by omega),QM hk,hx]
  exact Ev.pos rfl (Ev.pos rfl (Ev.ofBind h fun y4 h=>(Ev.ofBif h (fun h=>(Ev.ofSome h)) (fun h=>(Ev.ofBif h (fun h=>(Ev.ofBif h (fun h=>(Ev.ofSome h)) (fun h=>(Ev.ofBind h fun y5 h=>(Ev.ofBif h (fun h=>(Ev.ofSome h)) (fun h=>(Ev.ofBif h (fun h=>(Ev.ofBif h (fun h=>(Ev.ofBind h fun y6 h=>(Ev.ofBif h (fun h=>(Ev.ofSome h)) (fun h=>(GK ih2 h))))) (fun h=>(Ev.ofNone h)))) (fun h=>(GK ih2 h))))))))) (fun h=>(Ev.ofBif h (fun h=>(Ev.ofBif h (fun h=>(Ev.ofBind h fun y8 h=>(Ev.ofBif h (fun h=>(Ev.ofSome h)) (fun h=>(GK ih2 h))))) (fun h=>(Ev.ofNone h)))) (fun h=>(GK ih2 h)))))))))
theorem QkO {x1 : (List Qc)} {x4 : Qa} {x5 : Qb} (hl : x1.length ≤ maxLen) : ∀ (rest : List Qc) (k : Nat) (r : Bool),rest = x1.drop k → ZD x4 x5 rest k = some r → Ev (fun n=>YH n x1 (x1.length : Int) (k : Int) x4 x5) r:=by
 intro rest
 induction rest with
 | nil =>
  intro k r hr h
  have hk:=QR hr
  rw [ZD] at h
  refine Ev.step ?_ (fun n=>EG n x1 (x1.length : Int) (k : Int) x4 x5)
  rw [show decide ((k : Int) < (x1.length : Int)) = false from decide_eq_false (by omega)]
  exact Ev.neg rfl (Ev.ofSome h)
 | cons e rest ih =>
  intro k r hr h
  obtain ⟨hk,hx,hr2⟩:=QJ (d:=(Ty.dflt Qh)) hr
  have hw:=QG hl hk
  have ih2 : ∀ (r : Bool),ZD x4 x5 rest (k + 1) = some r → Ev (fun n=>YH n x1 (x1.length : Int) (IntKind.wrap .i64 ((k : Int) + 1)) x4 x5) r:=by
   intro r h; rw [hw]; exact ih (k + 1) r hr2 h
  rw [ZD] at h
  refine Ev.step ?_ (fun n=>EG n x1 (x1.length : Int) (k : Int) x4 x5)
  rw [show decide ((k : Int) < (x1.length : Int)) = true from decide_eq_true (by omega),QM hk,hx]
  exact Ev.pos rfl (Ev.pos rfl (Ev.ofBind h fun y9 h=>(Ev.ofBind h fun y10 h=>(Ev.ofBif h (fun h=>(Ev.ofSome h)) (fun h=>(Ev.ofBif h (fun h=>(Ev.ofSome h)) (fun h=>(Ev.ofBif h (fun h=>(Ev.ofBif h (fun h=>(Ev.ofBind h fun y11 h=>(Ev.ofBif h (fun h=>(Ev.ofSome h)) (fun h=>(Ev.ofBif h (fun h=>(Ev.ofSome h)) (fun h=>(Ev.ofBind h fun y12 h=>(Ev.ofBif h (fun h=>(Ev.ofSome h)) (fun h=>(Ev.ofBind h fun y13 h=>(Ev.ofBif h (fun h=>(Ev.ofSome h)) (fun h=>(ih2  _ h))))))))))))) (fun h=>(Ev.ofNone h)))) (fun h=>(Ev.ofBif h (fun h=>(Ev.ofSome h)) (fun h=>(Ev.ofBind h fun y14 h=>(Ev.ofBif h (fun h=>(Ev.ofSome h)) (fun h=>(Ev.ofBind h fun y15 h=>(Ev.ofBif h (fun h=>(Ev.ofSome h)) (fun h=>(ih2  _ h))))))))))))))))))
theorem Qmr {x1 : (List Qf)} {x4 : Qa} {x5 : Qb} (hl : x1.length ≤ maxLen) : ∀ (rest : List Qf) (k : Nat) (r : Bool),rest = x1.drop k → ZH x4 x5 rest k = some r → Ev (fun n=>YY n x1 (x1.length : Int) (k : Int) x4 x5) r:=by
 intro rest
 induction rest with
 | nil =>
  intro k r hr h
  have hk:=QR hr
  rw [ZH] at h
  refine Ev.step ?_ (fun n=>Qac n x1 (x1.length : Int) (k : Int) x4 x5)
  rw [show decide ((k : Int) < (x1.length : Int)) = false from decide_eq_false (by omega)]
  exact Ev.neg rfl (Ev.ofLen h fun hl h=>QkO hl _ (0 : Nat) _ rfl h)
 | cons e rest ih =>
  intro k r hr h
  obtain ⟨hk,hx,hr2⟩:=QJ (d:=(Ty.dflt Qj)) hr
  have hw:=QG hl hk
  have ih2 : ∀ (r : Bool),ZH x4 x5 rest (k + 1) = some r → Ev (fun n=>YY n x1 (x1.length : Int) (IntKind.wrap .i64 ((k : Int) + 1)) x4 x5) r:=by
   intro r h; rw [hw]; exact ih (k + 1) r hr2 h
  rw [ZH] at h
  refine Ev.step ?_ (fun n=>Qac n x1 (x1.length : Int) (k : Int) x4 x5)
  rw [show decide ((k : Int) < (x1.length : Int)) = true from decide_eq_true (by omega),QM hk,hx]
  exact Ev.pos rfl (Ev.pos rfl (Ev.ofBind h fun y2 h=>(Ev.ofBif h (fun h=>(Ev.ofSome h)) (fun h=>(Ev.ofBif h (fun h=>(Ev.ofSome h)) (fun h=>(Ev.ofBif h (fun h=>(Ev.ofBif h (fun h=>(Ev.ofBind h fun y3 h=>(Ev.ofBif h (fun h=>(Ev.ofSome h)) (fun h=>(Ev.ofBif h (fun h=>(Ev.ofSome h)) (fun h=>(Ev.ofBif h (fun h=>(Ev.ofSome h)) (fun h=>(Ev.ofLen h fun hl h=>Qct hl ih2 _ (0 : Nat) _ rfl h))))))))) (fun h=>(Ev.ofNone h)))) (fun h=>(Ev.ofBif h (fun h=>(Ev.ofSome h)) (fun h=>(Ev.ofBif h (fun h=>(Ev.ofSome h)) (fun h=>(Ev.ofLen h fun hl h=>Qct hl ih2 _ (0 : Nat) _ rfl h)))))))))))))
theorem Qtp (a0 : Qa) (a1 : Qb) {r : Bool} (h : VC a0 a1 = some r) : Ev (fun n=>QhC n a0 a1) r:=by
 rw [VC] at h
 refine Ev.of_eq ?_ (fun n=>QnI n a0 a1)
 exact (Ev.ofBind h fun y1 h=>(Ev.ofBif h (fun h=>(Ev.ofSome h)) (fun h=>(Ev.ofBif h (fun h=>(Ev.ofSome h)) (fun h=>(Ev.ofBif h (fun h=>(Ev.ofSome h)) (fun h=>(Ev.ofLen h fun hl h=>Qmr hl _ (0 : Nat) _ rfl h))))))))
theorem Qpn : ∀ x ∈ VZ,Qo Tryz.prog x:=(Ql Qc1 (Ql Wc (Ql Qgd (Ql Qas (Ql QnA (Ql Qvq (Ql QnF (Ql Qrw (Ql H4 Qt)))))))))
theorem Qrx : Qo Tryz.prog (QbG):=by
 refine Qq (c:=QbG) (by kernel_rfl) (by kernel_rfl : Tryz.prog.funcs[75]? = some Tryz.f75) (code:=Tryz.f75.body.getD .skip) (by kernel_rfl) (by kernel_rfl) (by kernel_rfl) (A:=Gm) (I:=VY) (Qpn) ?_
 rintro ⟨a0,a1,u⟩ y hy
 exact (Qtp a0 a1 hy).get
def JF (K0 : (List Qn) → Option (List Qn)) (x8 : Qb) : List Qc → (List Qn) → Option (List Qn)
 | [],x1 =>
   K0 x1
 | e :: rest,x1 =>
   bif decide (((x1.length : Int) + (([(x8.1,(e).1,0)] : List Qn).length : Int)) * 40 ≤ ZB) && decide ((x1.length : Int) + (([(x8.1,(e).1,0)] : List Qn).length : Int) ≤ ZB) then
    JF K0 x8 rest (x1 ++ ([(x8.1,(e).1,0)] : List Qn))
   else none
def JW (K0 : (List Qn) → Option (List Qn)) (x8 : Qb) : List Qf → (List Qn) → Option (List Qn)
 | [],x1 =>
   ZF x8.2.2 (JF K0 x8 x8.2.2 x1)
 | e :: rest,x1 =>
   bif decide (((x1.length : Int) + (([(x8.1,(e).1,0)] : List Qn).length : Int)) * 40 ≤ ZB) && decide ((x1.length : Int) + (([(x8.1,(e).1,0)] : List Qn).length : Int) ≤ ZB) then
    JW K0 x8 rest (x1 ++ ([(x8.1,(e).1,0)] : List Qn))
   else none
def JX : List Qb → (List Qn) → Option (List Qn)
 | [],x1 =>
   some x1
 | e :: rest,x1 =>
   ZF (((e).2).1) (JW (fun s0=>JX rest s0) (e) (((e).2).1) x1)
def V9 (a0 : Qa) : Option (List Qn) :=
 ZF a0.2 (JX a0.2 [])
def Y9 (x1 : (List Int)) (x2 : (List Int)) : List Qn → Nat → Option Int
 | [],k =>
   some (-1)
 | e :: rest,k =>
   bif decide ((e).1 = x1) then
    bif decide (((e).2).1 = x2) then
     some (k : Int)
    else
     Y9 x1 x2 rest (k + 1)
   else
    Y9 x1 x2 rest (k + 1)
def JN (a0 : (List Qn)) (a1 : (List Int)) (a2 : (List Int)) : Option Int :=
 ZF a0 (Y9 a1 a2 a0 0)
def QhD : Ctr:=⟨183,[(.list QN),.str,.str],[I64],fun x=>JN x.1 x.2.1 x.2.2.1⟩
def QnJ : List (List Nat × Ann):=[([0,2],[.keep 0 1,.keep 0 2,.keep 0 9,.keep 0 10,.keep 0 11])]
def QkP : List (List Nat × Nat):=[]
def QkQ : List Ctr:=[]
def QwK (n : Nat) (a0 : (List Qn)) (a1 : (List Int)) (a2 : (List Int)) : Option Int:=run Tryz.prog QnJ QkP (Qv QkQ) Tryz.f183 (Tryz.f183.body.getD .skip) (Qy [I64]) n (QE [(.list QN),.str,.str] (a0,a1,a2,()))
abbrev XH (n : Nat) (x1 : (List Int)) (x2 : (List Int)) (x3 : (List Qn)) (x4 : Int) (x5 : Int) : Option Int:=lam Tryz.prog QnJ QkP (Qv QkQ) Tryz.f183 (Tryz.f183.body.getD .skip) (Qy [I64]) n [0,2] [.d .str x1,.d .str x2,.d (.list QN) x3,.d I64 x4,.d I64 x5]
theorem Qze (n : Nat) (a0 : (List Qn)) (a1 : (List Int)) (a2 : (List Int)) : QwK n a0 a1 a2 =
  XH n a1 a2 a0 (a0.length : Int) 0:=by kernel_rfl
theorem Qgg (n : Nat) (x1 : (List Int)) (x2 : (List Int)) (x3 : (List Qn)) (x4 : Int) (x5 : Int) : XH (n + 1) x1 x2 x3 x4 x5 =
  bif decide (x5 < x4) then
   bif inB x5 x3.length then
    bif decide ((rd x3 x5 (Ty.dflt QN)).1 = x1) then
     bif decide (((rd x3 x5 (Ty.dflt QN)).2).1 = x2) then
      some x5
     else
      XH n x1 x2 x3 x4 (IntKind.wrap .i64 (x5 + 1))
    else
     XH n x1 x2 x3 x4 (IntKind.wrap .i64 (x5 + 1))
   else none
  else
   some (-1):=by kernel_rfl
theorem Qxc {x1 : (List Int)} {x2 : (List Int)} {x3 : (List Qn)} (hl : x3.length ≤ maxLen) : ∀ (rest : List Qn) (k : Nat) (r : Int),rest = x3.drop k → Y9 x1 x2 rest k = some r → Ev (fun n=>XH n x1 x2 x3 (x3.length : Int) (k : Int)) r:=by
 intro rest
 induction rest with
 | nil =>
  intro k r hr h
  have hk:=QR hr
  rw [Y9] at h
  refine Ev.step ?_ (fun n=>Qgg n x1 x2 x3 (x3.length : Int) (k : Int))
  rw [show decide ((k : Int) < (x3.length : Int)) = false from decide_eq_false (by omega)]
  exact Ev.neg rfl (Ev.ofSome h)
 | cons e rest ih =>
  intro k r hr h
  obtain ⟨hk,hx,hr2⟩:=QJ (d:=(Ty.dflt QN)) hr
  have hw:=QG hl hk
  have ih2 : ∀ (r : Int),Y9 x1 x2 rest (k + 1) = some r → Ev (fun n=>XH n x1 x2 x3 (x3.length : Int) (IntKind.wrap .i64 ((k : Int) + 1))) r:=by
   intro r h; rw [hw]; exact ih (k + 1) r hr2 h
  rw [Y9] at h
  refine Ev.step ?_ (fun n=>Qgg n x1 x2 x3 (x3.length : Int) (k : Int))
  rw [show decide ((k : Int) < (x3.length : Int)) = true from decide_eq_true (by omega),QM hk,hx]
  exact Ev.pos rfl (Ev.pos rfl (Ev.ofBif h (fun h=>(Ev.ofBif h (fun h=>(Ev.ofSome h)) (fun h=>(ih2  _ h)))) (fun h=>(ih2  _ h))))
theorem QCP (a0 : (List Qn)) (a1 : (List Int)) (a2 : (List Int)) {r : Int} (h : JN a0 a1 a2 = some r) : Ev (fun n=>QwK n a0 a1 a2) r:=by
 rw [JN] at h
 refine Ev.of_eq ?_ (fun n=>Qze n a0 a1 a2)
 exact (Ev.ofLen h fun hl h=>Qxc hl _ (0 : Nat) _ rfl h)
theorem QAm : ∀ x ∈ QkQ,Qo Tryz.prog x:=Qt
theorem Qtq : Qo Tryz.prog (QhD):=by
 refine Qq (c:=QhD) (by kernel_rfl) (by kernel_rfl : Tryz.prog.funcs[183]? = some Tryz.f183) (code:=Tryz.f183.body.getD .skip) (by kernel_rfl) (by kernel_rfl) (by kernel_rfl) (A:=QnJ) (I:=QkP) (QAm) ?_
 rintro ⟨a0,a1,a2,u⟩ y hy
 exact (QCP a0 a1 a2 hy).get
def Yk (Rc : Qa → Qb → (List Qn) → Int → Q5 → Bool → (List Qr) → Option (List Qr)) (x1 : (List Qn)) (x2 : Int) (x3 : Bool) : List (List Int) → (List Qr) → Q5 → Option (List Qr)
 | [],x4,x8 =>
   some x4
 | e :: rest,x4,x8 =>
   Option.bind (JN x1 (e) x8.val.2.2) fun (y5 : Int) =>
   bif decide (((x4.length : Int) + (([(x2,y5,x3)] : List Qr).length : Int)) * 24 ≤ ZB) && decide ((x4.length : Int) + (([(x2,y5,x3)] : List Qr).length : Int) ≤ ZB) then
    Yk Rc x1 x2 x3 rest (x4 ++ ([(x2,y5,x3)] : List Qr)) (Tree.node x8.val x8.kids)
   else none
def Zt (Rc : Qa → Qb → (List Qn) → Int → Q5 → Bool → (List Qr) → Option (List Qr)) (x1 : (List Qn)) (x2 : Int) (x3 : Bool) (x8 : Qa) (x9 : Qb) : List Q5 → Nat → (List Qr) → Q5 → Option (List Qr)
 | [],k,x4,x10 =>
   some x4
 | e :: rest,k,x4,x10 =>
   bif x3 then
    Option.bind (Rc x8 x9 x1 x2 (Tree.node ((e).val) ((e).kids)) true x4) fun (y6 : (List Qr)) =>
    Zt Rc x1 x2 x3 x8 x9 rest (k + 1) y6 (Tree.node x10.val x10.kids)
   else
    bif decide ((k : Int) = 1) then
     Option.bind (Rc x8 x9 x1 x2 (Tree.node ((e).val) ((e).kids)) (decide (x10.val.1 = 5)) x4) fun (y7 : (List Qr)) =>
     Zt Rc x1 x2 x3 x8 x9 rest (k + 1) y7 (Tree.node x10.val x10.kids)
    else
     Option.bind (Rc x8 x9 x1 x2 (Tree.node ((e).val) ((e).kids)) false x4) fun (y8 : (List Qr)) =>
     Zt Rc x1 x2 x3 x8 x9 rest (k + 1) y8 (Tree.node x10.val x10.kids)
def UL (Rc : Qa → Qb → (List Qn) → Int → Q5 → Bool → (List Qr) → Option (List Qr)) (a0 : Qa) (a1 : Qb) (a2 : (List Qn)) (a3 : Int) (a4 : Q5) (a5 : Bool) (a6 : (List Qr)) : Option (List Qr) :=
 bif decide (a4.val.1 = 1) then
  Option.bind (JN a2 a1.1 a4.val.2.2) fun (y1 : Int) =>
  bif decide (((a6.length : Int) + (([(a3,y1,a5)] : List Qr).length : Int)) * 24 ≤ ZB) && decide ((a6.length : Int) + (([(a3,y1,a5)] : List Qr).length : Int) ≤ ZB) then
   some (a6 ++ ([(a3,y1,a5)] : List Qr))
  else none
 else
  bif decide (a4.val.1 = 2) then
   Option.bind (JN a2 a1.1 a4.val.2.1) fun (y2 : Int) =>
   bif decide (((a6.length : Int) + (([(a3,y2,a5)] : List Qr).length : Int)) * 24 ≤ ZB) && decide ((a6.length : Int) + (([(a3,y2,a5)] : List Qr).length : Int) ≤ ZB) then
    Option.bind (Zs a1 a4.val.2.1) fun (y3 : (Qf × Bool)) =>
    Option.bind (V5 a0 y3.1 a4.val.2.2) fun (y4 : (List (List Int))) =>
    ZF y4 (Yk Rc a2 a3 a5 y4 (a6 ++ ([(a3,y2,a5)] : List Qr)) (Tree.node a4.val a4.kids))
   else none
  else
   ZF a4.kids (Zt Rc a2 a3 a5 a0 a1 a4.kids 0 a6 (Tree.node a4.val a4.kids))
def UM : Nat → Qa → Qb → (List Qn) → Int → Q5 → Bool → (List Qr) → Option (List Qr)
 | 0=>fun _ _ _ _ _ _ _=>none
 | d + 1=>fun a0 a1 a2 a3 a4 a5 a6=>UL (UM d) a0 a1 a2 a3 a4 a5 a6
def Qdz (a0 : Qa) (a1 : Qb) (a2 : (List Qn)) (a3 : Int) (a4 : Q5) (a5 : Bool) (a6 : (List Qr)) : Option (List Qr):=Qhw fun d=>UM d a0 a1 a2 a3 a4 a5 a6
def Qqr : Ctr:=Qrl 184 6 [Qi,Qe,(.list QN),I64,Yo,.bool,(.list Q7)] Q7 fun x=>Qdz x.1 x.2.1 x.2.2.1 x.2.2.2.1 x.2.2.2.2.1 x.2.2.2.2.2.1 x.2.2.2.2.2.2.1
def QdA : List (List Nat × Ann):=[([0,8],[.keep 0 2,.keep 0 3,.keep 0 5,.own 0 6 Q7,.keep 0 11,.keep 0 67,.keep 0 68,.keep 0 69,.boxd 0 11 Yo]),([0,14],[.keep 0 2,.keep 0 3,.keep 0 5,.own 0 6 Q7,.keep 0 7,.keep 0 8,.keep 0 11,.keep 0 88,.keep 0 89,.keep 0 90,.boxd 0 7 Qi,.boxd 0 8 Qe,.boxd 0 11 Yo])]
def QbH : List (List Nat × Nat):=[([16017],4011782)]
def QbI (Rc : Qa → Qb → (List Qn) → Int → Q5 → Bool → (List Qr) → Option (List Qr)) : List Ctr:=[QhD,Gj,Qdy,(Qrl 184 6 [Qi,Qe,(.list QN),I64,Yo,.bool,(.list Q7)] Q7 fun x=>Rc x.1 x.2.1 x.2.2.1 x.2.2.2.1 x.2.2.2.2.1 x.2.2.2.2.2.1 x.2.2.2.2.2.2.1)]
def Qqs (Rc : Qa → Qb → (List Qn) → Int → Q5 → Bool → (List Qr) → Option (List Qr)) (n : Nat) (a0 : Qa) (a1 : Qb) (a2 : (List Qn)) (a3 : Int) (a4 : Q5) (a5 : Bool) (a6 : (List Qr)) : Option (List Qr):=QGk Tryz.prog noG QdA QbH (Qv (QbI Rc)) Tryz.f184 (Tryz.f184.body.getD .skip) (QdK Tryz.prog Tryz.f184 Q7) n (QBX 6 (QE [Qi,Qe,(.list QN),I64,Yo,.bool,(.list Q7)] (a0,a1,a2,a3,a4,a5,a6,())))
abbrev XO (Rc : Qa → Qb → (List Qn) → Int → Q5 → Bool → (List Qr) → Option (List Qr)) (n : Nat) (x1 : (List Qn)) (x2 : Int) (x3 : Bool) (x4 : (List Qr)) (x5 : (List (List Int))) (x6 : Int) (x7 : Int) (x8 : Q5) : Option (List Qr):=Qi0 Tryz.prog noG QdA QbH (Qv (QbI Rc)) Tryz.f184 (Tryz.f184.body.getD .skip) (QdK Tryz.prog Tryz.f184 Q7) n [0,8] [.d (.list QN) x1,.d I64 x2,.d .bool x3,.own 0 Q7 x4,.ptr 0 11 0,.d (.list .str) x5,.d I64 x6,.d I64 x7,.agg (QA Yo x8)]
abbrev Vd (Rc : Qa → Qb → (List Qn) → Int → Q5 → Bool → (List Qr) → Option (List Qr)) (n : Nat) (x1 : (List Qn)) (x2 : Int) (x3 : Bool) (x4 : (List Qr)) (x5 : (List Q5)) (x6 : Int) (x7 : Int) (x8 : Qa) (x9 : Qb) (x10 : Q5) : Option (List Qr):=Qi0 Tryz.prog noG QdA QbH (Qv (QbI Rc)) Tryz.f184 (Tryz.f184.body.getD .skip) (QdK Tryz.prog Tryz.f184 Q7) n [0,14] [.d (.list QN) x1,.d I64 x2,.d .bool x3,.own 0 Q7 x4,.ptr 0 7 0,.ptr 0 8 0,.ptr 0 11 0,.d (.list Yo) x5,.d I64 x6,.d I64 x7,.agg (QA Qi x8),.agg (QA Qe x9),.agg (QA Yo x10)]
theorem Qvv (Rc : Qa → Qb → (List Qn) → Int → Q5 → Bool → (List Qr) → Option (List Qr)) (n : Nat) (a0 : Qa) (a1 : Qb) (a2 : (List Qn)) (a3 : Int) (a4 : Q5) (a5 : Bool) (a6 : (List Qr)) : Qqs Rc n a0 a1 a2 a3 a4 a5 a6 =
  bif decide (a4.val.1 = 1) then
   Option.bind (JN a2 a1.1 a4.val.2.2) fun (y1 : Int) =>
   bif decide (((a6.length : Int) + (([(a3,y1,a5)] : List Qr).length : Int)) * 24 ≤ ZB) && decide ((a6.length : Int) + (([(a3,y1,a5)] : List Qr).length : Int) ≤ ZB) then
    some (a6 ++ ([(a3,y1,a5)] : List Qr))
   else none
  else
   bif decide (a4.val.1 = 2) then
    Option.bind (JN a2 a1.1 a4.val.2.1) fun (y2 : Int) =>
    bif decide (((a6.length : Int) + (([(a3,y2,a5)] : List Qr).length : Int)) * 24 ≤ ZB) && decide ((a6.length : Int) + (([(a3,y2,a5)] : List Qr).length : Int) ≤ ZB) then
     Option.bind (Zs a1 a4.val.2.1) fun (y3 : (Qf × Bool)) =>
     Option.bind (V5 a0 y3.1 a4.val.2.2) fun (y4 : (List (List Int))) =>
     XO Rc n a2 a3 a5 (a6 ++ ([(a3,y2,a5)] : List Qr)) y4 (y4.length : Int) 0 (Tree.node a4.val a4.kids)
    else none
   else
    Vd Rc n a2 a3 a5 a6 a4.kids (a4.kids.length : Int) 0 a0 a1 (Tree.node a4.val a4.kids):=by kernel_rfl
theorem QdV (Rc : Qa → Qb → (List Qn) → Int → Q5 → Bool → (List Qr) → Option (List Qr)) (n : Nat) (x1 : (List Qn)) (x2 : Int) (x3 : Bool) (x4 : (List Qr)) (x5 : (List (List Int))) (x6 : Int) (x7 : Int) (x8 : Q5) : XO Rc (n + 1) x1 x2 x3 x4 x5 x6 x7 x8 =
  bif decide (x7 < x6) then
   bif inB x7 x5.length then
    Option.bind (JN x1 (rd x5 x7 (Ty.dflt .str)) x8.val.2.2) fun (y5 : Int) =>
    bif decide (((x4.length : Int) + (([(x2,y5,x3)] : List Qr).length : Int)) * 24 ≤ ZB) && decide ((x4.length : Int) + (([(x2,y5,x3)] : List Qr).length : Int) ≤ ZB) then
     XO Rc n x1 x2 x3 (x4 ++ ([(x2,y5,x3)] : List Qr)) x5 x6 (IntKind.wrap .i64 (x7 + 1)) (Tree.node x8.val x8.kids)
    else none
   else none
  else
   some x4:=by kernel_rfl
theorem Qcu (Rc : Qa → Qb → (List Qn) → Int → Q5 → Bool → (List Qr) → Option (List Qr)) (n : Nat) (x1 : (List Qn)) (x2 : Int) (x3 : Bool) (x4 : (List Qr)) (x5 : (List Q5)) (x6 : Int) (x7 : Int) (x8 : Qa) (x9 : Qb) (x10 : Q5) : Vd Rc (n + 1) x1 x2 x3 x4 x5 x6 x7 x8 x9 x10 =
  bif decide (x7 < x6) then
   bif inB x7 x5.length then
    bif x3 then
     Option.bind (Rc x8 x9 x1 x2 (Tree.node ((rd x5 x7 (Ty.dflt Yo)).val) ((rd x5 x7 (Ty.dflt Yo)).kids)) true x4) fun (y6 : (List Qr)) =>
     Vd Rc n x1 x2 x3 y6 x5 x6 (IntKind.wrap .i64 (x7 + 1)) x8 x9 (Tree.node x10.val x10.kids)
    else
     bif decide (x7 = 1) then
      Option.bind (Rc x8 x9 x1 x2 (Tree.node ((rd x5 x7 (Ty.dflt Yo)).val) ((rd x5 x7 (Ty.dflt Yo)).kids)) (decide (x10.val.1 = 5)) x4) fun (y7 : (List Qr)) =>
      Vd Rc n x1 x2 x3 y7 x5 x6 (IntKind.wrap .i64 (x7 + 1)) x8 x9 (Tree.node x10.val x10.kids)
     else
      Option.bind (Rc x8 x9 x1 x2 (Tree.node ((rd x5 x7 (Ty.dflt Yo)).val) ((rd x5 x7 (Ty.dflt Yo)).kids)) false x4) fun (y8 : (List Qr)) =>
      Vd Rc n x1 x2 x3 y8 x5 x6 (IntKind.wrap .i64 (x7 + 1)) x8 x9 (Tree.node x10.val x10.kids)
   else none
  else
   some x4:=by kernel_rfl
theorem Qtr {Rc : Qa → Qb → (List Qn) → Int → Q5 → Bool → (List Qr) → Option (List Qr)} {x1 : (List Qn)} {x2 : Int} {x3 : Bool} {x5 : (List (List Int))} (hl : x5.length ≤ maxLen) : ∀ (rest : List (List Int)) (k : Nat) (x4 : (List Qr)) (x8 : Q5) (r : (List Qr)),rest = x5.drop k → Yk Rc x1 x2 x3 rest x4 x8 = some r → Ev (fun n=>XO Rc n x1 x2 x3 x4 x5 (x5.length : Int) (k : Int) x8) r:=by
 intro rest
 induction rest with
 | nil =>
  intro k x4 x8 r hr h
  have hk:=QR hr
  rw [Yk] at h
  refine Ev.step ?_ (fun n=>QdV Rc n x1 x2 x3 x4 x5 (x5.length : Int) (k : Int) x8)
  rw [show decide ((k : Int) < (x5.length : Int)) = false from decide_eq_false (by omega)]
  exact Ev.neg rfl (Ev.ofSome h)
 | cons e rest ih =>
  intro k x4 x8 r hr h
  obtain ⟨hk,hx,hr2⟩:=QJ (d:=(Ty.dflt .str)) hr
  have hw:=QG hl hk
  have ih2 : ∀ (z4 : (List Qr)) (z8 : Q5) (r : (List Qr)),Yk Rc x1 x2 x3 rest z4 z8 = some r → Ev (fun n=>XO Rc n x1 x2 x3 z4 x5 (x5.length : Int) (IntKind.wrap .i64 ((k : Int) + 1)) z8) r:=by
   intro z4 z8 r h; rw [hw]; exact ih (k + 1) z4 z8 r hr2 h
  rw [Yk] at h
  refine Ev.step ?_ (fun n=>QdV Rc n x1 x2 x3 x4 x5 (x5.length : Int) (k : Int) x8)
  rw [show decide ((k : Int) < (x5.length : Int)) = true from decide_eq_true (by omega),QM hk,hx]
  exact Ev.pos rfl (Ev.pos rfl (Ev.ofBind h fun y5 h=>(Ev.ofBif h (fun h=>(ih2 _ _ _ h)) (fun h=>(Ev.ofNone h)))))
theorem Qry {Rc : Qa → Qb → (List Qn) → Int → Q5 → Bool → (List Qr) → Option (List Qr)} {x1 : (List Qn)} {x2 : Int} {x3 : Bool} {x5 : (List Q5)} {x8 : Qa} {x9 : Qb} (hl : x5.length ≤ maxLen) : ∀ (rest : List Q5) (k : Nat) (x4 : (List Qr)) (x10 : Q5) (r : (List Qr)),rest = x5.drop k → Zt Rc x1 x2 x3 x8 x9 rest k x4 x10 = some r → Ev (fun n=>Vd Rc n x1 x2 x3 x4 x5 (x5.length : Int) (k : Int) x8 x9 x10) r:=by
 intro rest
 induction rest with
 | nil =>
  intro k x4 x10 r hr h
  have hk:=QR hr
  rw [Zt] at h
  refine Ev.step ?_ (fun n=>Qcu Rc n x1 x2 x3 x4 x5 (x5.length : Int) (k : Int) x8 x9 x10)
  rw [show decide ((k : Int) < (x5.length : Int)) = false from decide_eq_false (by omega)]
  exact Ev.neg rfl (Ev.ofSome h)
 | cons e rest ih =>
  intro k x4 x10 r hr h
  obtain ⟨hk,hx,hr2⟩:=QJ (d:=(Ty.dflt Yo)) hr
  have hw:=QG hl hk
  have ih2 : ∀ (z4 : (List Qr)) (z10 : Q5) (r : (List Qr)),Zt Rc x1 x2 x3 x8 x9 rest (k + 1) z4 z10 = some r → Ev (fun n=>Vd Rc n x1 x2 x3 z4 x5 (x5.length : Int) (IntKind.wrap .i64 ((k : Int) + 1)) x8 x9 z10) r:=by
   intro z4 z10 r h; rw [hw]; exact ih (k + 1) z4 z10 r hr2 h
  rw [Zt] at h
  refine Ev.step ?_ (fun n=>Qcu Rc n x1 x2 x3 x4 x5 (x5.length : Int) (k : Int) x8 x9 x10)
  rw [show decide ((k : Int) < (x5.length : Int)) = true from decide_eq_true (by omega),QM hk,hx]
  exact Ev.pos rfl (Ev.pos rfl (Ev.ofBif h (fun h=>(Ev.ofBind h fun y6 h=>(ih2 _ _ _ h))) (fun h=>(Ev.ofBif h (fun h=>(Ev.ofBind h fun y7 h=>(ih2 _ _ _ h))) (fun h=>(Ev.ofBind h fun y8 h=>(ih2 _ _ _ h)))))))
theorem QAn {Rc : Qa → Qb → (List Qn) → Int → Q5 → Bool → (List Qr) → Option (List Qr)} (a0 : Qa) (a1 : Qb) (a2 : (List Qn)) (a3 : Int) (a4 : Q5) (a5 : Bool) (a6 : (List Qr)) {r : (List Qr)} (h : UL Rc a0 a1 a2 a3 a4 a5 a6 = some r) : Ev (fun n=>Qqs Rc n a0 a1 a2 a3 a4 a5 a6) r:=by
 rw [UL] at h
 refine Ev.of_eq ?_ (fun n=>Qvv Rc n a0 a1 a2 a3 a4 a5 a6)
 exact (Ev.ofBif h (fun h=>(Ev.ofBind h fun y1 h=>(Ev.ofBif h (fun h=>(Ev.ofSome h)) (fun h=>(Ev.ofNone h))))) (fun h=>(Ev.ofBif h (fun h=>(Ev.ofBind h fun y2 h=>(Ev.ofBif h (fun h=>(Ev.ofBind h fun y3 h=>(Ev.ofBind h fun y4 h=>(Ev.ofLen h fun hl h=>Qtr hl _ (0 : Nat) _ _ _ rfl h)))) (fun h=>(Ev.ofNone h))))) (fun h=>(Ev.ofLen h fun hl h=>Qry hl _ (0 : Nat) _ _ _ rfl h)))))
theorem Qxd : ∀ d,Qo Tryz.prog (Qrl 184 6 [Qi,Qe,(.list QN),I64,Yo,.bool,(.list Q7)] Q7 fun x=>UM d x.1 x.2.1 x.2.2.1 x.2.2.2.1 x.2.2.2.2.1 x.2.2.2.2.2.1 x.2.2.2.2.2.2.1):=by
 intro d
 induction d with
 | zero=>intro xs y hy; exact (nomatch (show (none : Option (List Qr)) = some y from hy))
 | succ d ih =>
  refine QCM (i:=6) (by kernel_rfl) (by kernel_rfl) (by kernel_rfl) (by kernel_rfl : Tryz.prog.funcs[184]? = some Tryz.f184) (code:=Tryz.f184.body.getD .skip) (by kernel_rfl) (by kernel_rfl) (A:=QdA) (I:=QbH) (cs:=QbI (UM d)) (Ql Qtq (Ql H4 (Ql QnG (Ql ih Qt)))) ?_
  rintro ⟨a0,a1,a2,a3,a4,a5,a6,u⟩ y hy
  exact (QAn a0 a1 a2 a3 a4 a5 a6 hy).get
theorem Qzf : Qo Tryz.prog (Qqr):=by
 rintro ⟨a0,a1,a2,a3,a4,a5,a6,u⟩ y hy
 obtain ⟨d,hd⟩:=(Ee hy).get
 exact Qxd d (a0,a1,a2,a3,a4,a5,a6,u) y hd
def Jr (K1 : (List Qr) → Option (List Qr)) (x1 : (List Qn)) (x13 : Qb) (x14 : Qf) : List Qm → (List Qr) → Option (List Qr)
 | [],x2 =>
   K1 x2
 | e :: rest,x2 =>
   bif !decide (((e).2).1 = ([] : List Int)) then
    Option.bind (JN x1 x13.1 x14.1) fun (y1 : Int) =>
    Option.bind (JN x1 ((e).1) (((e).2).1)) fun (y2 : Int) =>
    bif decide (((x2.length : Int) + (([(y1,y2,false)] : List Qr).length : Int)) * 24 ≤ ZB) && decide ((x2.length : Int) + (([(y1,y2,false)] : List Qr).length : Int) ≤ ZB) then
     Jr K1 x1 x13 x14 rest (x2 ++ ([(y1,y2,false)] : List Qr))
    else none
   else
    Jr K1 x1 x13 x14 rest x2
def JG (K0 : (List Qr) → Option (List Qr)) (x1 : (List Qn)) (x9 : Qa) (x10 : Qb) : List Qc → (List Qr) → Option (List Qr)
 | [],x2 =>
   K0 x2
 | e :: rest,x2 =>
   Option.bind (Y5 ((e).2)) fun (y3 : (Q5 × Bool)) =>
   Option.bind (JN x1 x10.1 ((e).1)) fun (y4 : Int) =>
   Option.bind (Qdz x9 x10 x1 y4 (Tree.node y3.1.val y3.1.kids) false x2) fun (y5 : (List Qr)) =>
   JG K0 x1 x9 x10 rest y5
def JY (K0 : (List Qr) → Option (List Qr)) (x1 : (List Qn)) (x9 : Qa) (x10 : Qb) : List Qf → (List Qr) → Option (List Qr)
 | [],x2 =>
   ZF x10.2.2 (JG K0 x1 x9 x10 x10.2.2 x2)
 | e :: rest,x2 =>
   ZF ((e).2) (Jr (fun s0=>JY K0 x1 x9 x10 rest s0) x1 x10 (e) ((e).2) x2)
def JZ (x1 : (List Qn)) (x6 : Qa) : List Qb → (List Qr) → Option (List Qr)
 | [],x2 =>
   some x2
 | e :: rest,x2 =>
   ZF (((e).2).1) (JY (fun s0=>JZ x1 x6 rest s0) x1 x6 (e) (((e).2).1) x2)
def Ga (a0 : Qa) (a1 : (List Qn)) : Option (List Qr) :=
 ZF a0.2 (JZ a1 a0 a0.2 [])
def Qxe : Ctr:=Qy1 135 [Qi] QN fun x=>V9 x.1
def Ux : List (List Nat × Ann):=[([0,3],[.own 0 3 QN,.keep 0 11,.keep 0 12,.keep 0 13]),([0,6],[.own 0 3 QN,.keep 0 5,.keep 0 11,.keep 0 12,.keep 0 13,.keep 0 18,.keep 0 19,.keep 0 20,.boxd 0 5 Qe]),([0,11],[.own 0 3 QN,.keep 0 5,.keep 0 11,.keep 0 12,.keep 0 13,.keep 0 34,.keep 0 35,.keep 0 36,.boxd 0 5 Qe])]
def Hz : List (List Nat × Nat):=[]
def HA : List Ctr:=[]
def QlN (n : Nat) (a0 : Qa) : Option (List Qn):=QuR Tryz.prog noG Ux Hz (Qv HA) Tryz.f135 (Tryz.f135.body.getD .skip) (QdK Tryz.prog Tryz.f135 QN) n (QE [Qi] (a0,()))
abbrev YR (n : Nat) (x1 : (List Qn)) (x2 : (List Qb)) (x3 : Int) (x4 : Int) : Option (List Qn):=Qi0 Tryz.prog noG Ux Hz (Qv HA) Tryz.f135 (Tryz.f135.body.getD .skip) (QdK Tryz.prog Tryz.f135 QN) n [0,3] [.own 0 QN x1,.d (.list Qe) x2,.d I64 x3,.d I64 x4]
abbrev GB (n : Nat) (x1 : (List Qn)) (x2 : (List Qb)) (x3 : Int) (x4 : Int) (x5 : (List Qf)) (x6 : Int) (x7 : Int) (x8 : Qb) : Option (List Qn):=Qi0 Tryz.prog noG Ux Hz (Qv HA) Tryz.f135 (Tryz.f135.body.getD .skip) (QdK Tryz.prog Tryz.f135 QN) n [0,6] [.own 0 QN x1,.ptr 0 5 0,.d (.list Qe) x2,.d I64 x3,.d I64 x4,.d (.list Qj) x5,.d I64 x6,.d I64 x7,.agg (QA Qe x8)]
abbrev Gb (n : Nat) (x1 : (List Qn)) (x2 : (List Qb)) (x3 : Int) (x4 : Int) (x5 : (List Qc)) (x6 : Int) (x7 : Int) (x8 : Qb) : Option (List Qn):=Qi0 Tryz.prog noG Ux Hz (Qv HA) Tryz.f135 (Tryz.f135.body.getD .skip) (QdK Tryz.prog Tryz.f135 QN) n [0,11] [.own 0 QN x1,.ptr 0 5 0,.d (.list Qe) x2,.d I64 x3,.d I64 x4,.d (.list Qh) x5,.d I64 x6,.d I64 x7,.agg (QA Qe x8)]
theorem Qrz (n : Nat) (a0 : Qa) : QlN n a0 =
  YR n [] a0.2 (a0.2.length : Int) 0:=by kernel_rfl
theorem QbJ (n : Nat) (x1 : (List Qn)) (x2 : (List Qb)) (x3 : Int) (x4 : Int) : YR (n + 1) x1 x2 x3 x4 =
  bif decide (x4 < x3) then
   bif inB x4 x2.length then
    GB n x1 x2 x3 x4 (((rd x2 x4 (Ty.dflt Qe)).2).1) ((((rd x2 x4 (Ty.dflt Qe)).2).1).length : Int) 0 (rd x2 x4 (Ty.dflt Qe))
   else none
  else
   some x1:=by kernel_rfl
theorem QbK (n : Nat) (x1 : (List Qn)) (x2 : (List Qb)) (x3 : Int) (x4 : Int) (x5 : (List Qf)) (x6 : Int) (x7 : Int) (x8 : Qb) : GB (n + 1) x1 x2 x3 x4 x5 x6 x7 x8 =
  bif decide (x7 < x6) then
   bif inB x7 x5.length then
    bif decide (((x1.length : Int) + (([(x8.1,(rd x5 x7 (Ty.dflt Qj)).1,0)] : List Qn).length : Int)) * 40 ≤ ZB) && decide ((x1.length : Int) + (([(x8.1,(rd x5 x7 (Ty.dflt Qj)).1,0)] : List Qn).length : Int) ≤ ZB) then
     GB n (x1 ++ ([(x8.1,(rd x5 x7 (Ty.dflt Qj)).1,0)] : List Qn)) x2 x3 x4 x5 x6 (IntKind.wrap .i64 (x7 + 1)) x8
    else none
   else none
  else
   Gb n x1 x2 x3 x4 x8.2.2 (x8.2.2.length : Int) 0 x8:=by kernel_rfl
theorem Qa6 (n : Nat) (x1 : (List Qn)) (x2 : (List Qb)) (x3 : Int) (x4 : Int) (x5 : (List Qc)) (x6 : Int) (x7 : Int) (x8 : Qb) : Gb (n + 1) x1 x2 x3 x4 x5 x6 x7 x8 =
  bif decide (x7 < x6) then
   bif inB x7 x5.length then
    bif decide (((x1.length : Int) + (([(x8.1,(rd x5 x7 (Ty.dflt Qh)).1,0)] : List Qn).length : Int)) * 40 ≤ ZB) && decide ((x1.length : Int) + (([(x8.1,(rd x5 x7 (Ty.dflt Qh)).1,0)] : List Qn).length : Int) ≤ ZB) then
     Gb n (x1 ++ ([(x8.1,(rd x5 x7 (Ty.dflt Qh)).1,0)] : List Qn)) x2 x3 x4 x5 x6 (IntKind.wrap .i64 (x7 + 1)) x8
    else none
   else none
  else
   YR n x1 x2 x3 (IntKind.wrap .i64 (x4 + 1)):=by kernel_rfl
theorem QnK {K0 : (List Qn) → Option (List Qn)} {x2 : (List Qb)} {x3 : Int} {x4 : Int} {x5 : (List Qc)} {x8 : Qb} (hl : x5.length ≤ maxLen) (hK0 : ∀ (z1 : (List Qn)) (r : (List Qn)),K0 z1 = some r → Ev (fun n=>YR n z1 x2 x3 (IntKind.wrap .i64 (x4 + 1))) r) : ∀ (rest : List Qc) (k : Nat) (x1 : (List Qn)) (r : (List Qn)),rest = x5.drop k → JF K0 x8 rest x1 = some r → Ev (fun n=>Gb n x1 x2 x3 x4 x5 (x5.length : Int) (k : Int) x8) r:=by
 intro rest
 induction rest with
 | nil =>
  intro k x1 r hr h
  have hk:=QR hr
  rw [JF] at h
  refine Ev.step ?_ (fun n=>Qa6 n x1 x2 x3 x4 x5 (x5.length : Int) (k : Int) x8)
  rw [show decide ((k : Int) < (x5.length : Int)) = false from decide_eq_false (by omega)]
  exact Ev.neg rfl (hK0 _ _ h)
 | cons e rest ih =>
  intro k x1 r hr h
  obtain ⟨hk,hx,hr2⟩:=QJ (d:=(Ty.dflt Qh)) hr
  have hw:=QG hl hk
  have ih2 : ∀ (z1 : (List Qn)) (r : (List Qn)),JF K0 x8 rest z1 = some r → Ev (fun n=>Gb n z1 x2 x3 x4 x5 (x5.length : Int) (IntKind.wrap .i64 ((k : Int) + 1)) x8) r:=by
   intro z1 r h; rw [hw]; exact ih (k + 1) z1 r hr2 h
  rw [JF] at h
  refine Ev.step ?_ (fun n=>Qa6 n x1 x2 x3 x4 x5 (x5.length : Int) (k : Int) x8)
  rw [show decide ((k : Int) < (x5.length : Int)) = true from decide_eq_true (by omega),QM hk,hx]
  exact Ev.pos rfl (Ev.pos rfl (Ev.ofBif h (fun h=>(ih2 _ _ h)) (fun h=>(Ev.ofNone h))))
theorem Qpo {K0 : (List Qn) → Option (List Qn)} {x2 : (List Qb)} {x3 : Int} {x4 : Int} {x5 : (List Qf)} {x8 : Qb} (hl : x5.length ≤ maxLen) (hK0 : ∀ (z1 : (List Qn)) (r : (List Qn)),K0 z1 = some r → Ev (fun n=>YR n z1 x2 x3 (IntKind.wrap .i64 (x4 + 1))) r) : ∀ (rest : List Qf) (k : Nat) (x1 : (List Qn)) (r : (List Qn)),rest = x5.drop k → JW K0 x8 rest x1 = some r → Ev (fun n=>GB n x1 x2 x3 x4 x5 (x5.length : Int) (k : Int) x8) r:=by
 intro rest
 induction rest with
 | nil =>
  intro k x1 r hr h
  have hk:=QR hr
  rw [JW] at h
  refine Ev.step ?_ (fun n=>QbK n x1 x2 x3 x4 x5 (x5.length : Int) (k : Int) x8)
  rw [show decide ((k : Int) < (x5.length : Int)) = false from decide_eq_false (by omega)]
  exact Ev.neg rfl (Ev.ofLen h fun hl h=>QnK hl hK0 _ (0 : Nat) _ _ rfl h)
 | cons e rest ih =>
  intro k x1 r hr h
  obtain ⟨hk,hx,hr2⟩:=QJ (d:=(Ty.dflt Qj)) hr
  have hw:=QG hl hk
  have ih2 : ∀ (z1 : (List Qn)) (r : (List Qn)),JW K0 x8 rest z1 = some r → Ev (fun n=>GB n z1 x2 x3 x4 x5 (x5.length : Int) (IntKind.wrap .i64 ((k : Int) + 1)) x8) r:=by
   intro z1 r h; rw [hw]; exact ih (k + 1) z1 r hr2 h
  rw [JW] at h
  refine Ev.step ?_ (fun n=>QbK n x1 x2 x3 x4 x5 (x5.length : Int) (k : Int) x8)
  rw [show decide ((k : Int) < (x5.length : Int)) = true from decide_eq_true (by omega),QM hk,hx]
  exact Ev.pos rfl (Ev.pos rfl (Ev.ofBif h (fun h=>(ih2 _ _ h)) (fun h=>(Ev.ofNone h))))
theorem Qpp {x2 : (List Qb)} (hl : x2.length ≤ maxLen) : ∀ (rest : List Qb) (k : Nat) (x1 : (List Qn)) (r : (List Qn)),rest = x2.drop k → JX rest x1 = some r → Ev (fun n=>YR n x1 x2 (x2.length : Int) (k : Int)) r:=by
 intro rest
 induction rest with
 | nil =>
  intro k x1 r hr h
  have hk:=QR hr
  rw [JX] at h
  refine Ev.step ?_ (fun n=>QbJ n x1 x2 (x2.length : Int) (k : Int))
  rw [show decide ((k : Int) < (x2.length : Int)) = false from decide_eq_false (by omega)]
  exact Ev.neg rfl (Ev.ofSome h)
 | cons e rest ih =>
  intro k x1 r hr h
  obtain ⟨hk,hx,hr2⟩:=QJ (d:=(Ty.dflt Qe)) hr
  have hw:=QG hl hk
  have ih2 : ∀ (z1 : (List Qn)) (r : (List Qn)),JX rest z1 = some r → Ev (fun n=>YR n z1 x2 (x2.length : Int) (IntKind.wrap .i64 ((k : Int) + 1))) r:=by
   intro z1 r h; rw [hw]; exact ih (k + 1) z1 r hr2 h
  rw [JX] at h
  refine Ev.step ?_ (fun n=>QbJ n x1 x2 (x2.length : Int) (k : Int))
  rw [show decide ((k : Int) < (x2.length : Int)) = true from decide_eq_true (by omega),QM hk,hx]
  exact Ev.pos rfl (Ev.pos rfl (Ev.ofLen h fun hl h=>Qpo hl ih2 _ (0 : Nat) _ _ rfl h))
theorem Qxf (a0 : Qa) {r : (List Qn)} (h : V9 a0 = some r) : Ev (fun n=>QlN n a0) r:=by
 rw [V9] at h
 refine Ev.of_eq ?_ (fun n=>Qrz n a0)
 exact (Ev.ofLen h fun hl h=>Qpp hl _ (0 : Nat) _ _ rfl h)
theorem Qts : ∀ x ∈ HA,Qo Tryz.prog x:=Qt
theorem Qvw : Qo Tryz.prog (Qxe):=by
 refine Qy2 (by kernel_rfl) (by kernel_rfl : Tryz.prog.funcs[135]? = some Tryz.f135) (code:=Tryz.f135.body.getD .skip) (by kernel_rfl) (by kernel_rfl) (A:=Ux) (I:=Hz) (Qts) ?_
 rintro ⟨a0,u⟩ y hy
 exact (Qxf a0 hy).get
def QlO : Ctr:=QkB 135 [Qi] [(.list QN)] fun x=>V9 x.1
theorem Qvx : Qo Tryz.prog (QlO):=QwD (by kernel_rfl) (by kernel_rfl) Qvw
def Qxg : Ctr:=Qy1 136 [Qi,(.list QN)] Q7 fun x=>Ga x.1 x.2.1
def XI : List (List Nat × Ann):=[([0,3],[.keep 0 1,.keep 0 2,.own 0 5 Q7,.keep 0 17,.keep 0 18,.keep 0 19,.boxd 0 2 Qi]),([0,6],[.keep 0 1,.keep 0 2,.own 0 5 Q7,.keep 0 7,.keep 0 17,.keep 0 18,.keep 0 19,.keep 0 24,.keep 0 25,.keep 0 26,.boxd 0 2 Qi,.boxd 0 7 Qe]),([0,9],[.keep 0 1,.keep 0 2,.own 0 5 Q7,.keep 0 7,.keep 0 9,.keep 0 17,.keep 0 18,.keep 0 19,.keep 0 24,.keep 0 25,.keep 0 26,.keep 0 31,.keep 0 32,.keep 0 33,.boxd 0 2 Qi,.boxd 0 7 Qe,.boxd 0 9 Qj]),([0,16],[.keep 0 1,.keep 0 2,.own 0 5 Q7,.keep 0 7,.keep 0 17,.keep 0 18,.keep 0 19,.keep 0 59,.keep 0 60,.keep 0 61,.boxd 0 2 Qi,.boxd 0 7 Qe])]
def G1 : List (List Nat × Nat):=[([19011],4011782)]
def G2 : List Ctr:=[QhD,Qdx,Qqr]
def QlP (n : Nat) (a0 : Qa) (a1 : (List Qn)) : Option (List Qr):=QuR Tryz.prog noG XI G1 (Qv G2) Tryz.f136 (Tryz.f136.body.getD .skip) (QdK Tryz.prog Tryz.f136 Q7) n (QE [Qi,(.list QN)] (a0,a1,()))
abbrev YS (n : Nat) (x1 : (List Qn)) (x2 : (List Qr)) (x3 : (List Qb)) (x4 : Int) (x5 : Int) (x6 : Qa) : Option (List Qr):=Qi0 Tryz.prog noG XI G1 (Qv G2) Tryz.f136 (Tryz.f136.body.getD .skip) (QdK Tryz.prog Tryz.f136 Q7) n [0,3] [.d (.list QN) x1,.ptr 0 2 0,.own 0 Q7 x2,.d (.list Qe) x3,.d I64 x4,.d I64 x5,.agg (QA Qi x6)]
abbrev VM (n : Nat) (x1 : (List Qn)) (x2 : (List Qr)) (x3 : (List Qb)) (x4 : Int) (x5 : Int) (x6 : (List Qf)) (x7 : Int) (x8 : Int) (x9 : Qa) (x10 : Qb) : Option (List Qr):=Qi0 Tryz.prog noG XI G1 (Qv G2) Tryz.f136 (Tryz.f136.body.getD .skip) (QdK Tryz.prog Tryz.f136 Q7) n [0,6] [.d (.list QN) x1,.ptr 0 2 0,.own 0 Q7 x2,.ptr 0 7 0,.d (.list Qe) x3,.d I64 x4,.d I64 x5,.d (.list Qj) x6,.d I64 x7,.d I64 x8,.agg (QA Qi x9),.agg (QA Qe x10)]
abbrev VN (n : Nat) (x1 : (List Qn)) (x2 : (List Qr)) (x3 : (List Qb)) (x4 : Int) (x5 : Int) (x6 : (List Qf)) (x7 : Int) (x8 : Int) (x9 : (List Qm)) (x10 : Int) (x11 : Int) (x12 : Qa) (x13 : Qb) (x14 : Qf) : Option (List Qr):=Qi0 Tryz.prog noG XI G1 (Qv G2) Tryz.f136 (Tryz.f136.body.getD .skip) (QdK Tryz.prog Tryz.f136 Q7) n [0,9] [.d (.list QN) x1,.ptr 0 2 0,.own 0 Q7 x2,.ptr 0 7 0,.ptr 0 9 0,.d (.list Qe) x3,.d I64 x4,.d I64 x5,.d (.list Qj) x6,.d I64 x7,.d I64 x8,.d (.list Qd) x9,.d I64 x10,.d I64 x11,.agg (QA Qi x12),.agg (QA Qe x13),.agg (QA Qj x14)]
abbrev Gc (n : Nat) (x1 : (List Qn)) (x2 : (List Qr)) (x3 : (List Qb)) (x4 : Int) (x5 : Int) (x6 : (List Qc)) (x7 : Int) (x8 : Int) (x9 : Qa) (x10 : Qb) : Option (List Qr):=Qi0 Tryz.prog noG XI G1 (Qv G2) Tryz.f136 (Tryz.f136.body.getD .skip) (QdK Tryz.prog Tryz.f136 Q7) n [0,16] [.d (.list QN) x1,.ptr 0 2 0,.own 0 Q7 x2,.ptr 0 7 0,.d (.list Qe) x3,.d I64 x4,.d I64 x5,.d (.list Qh) x6,.d I64 x7,.d I64 x8,.agg (QA Qi x9),.agg (QA Qe x10)]
theorem QrA (n : Nat) (a0 : Qa) (a1 : (List Qn)) : QlP n a0 a1 =
  YS n a1 [] a0.2 (a0.2.length : Int) 0 a0:=by kernel_rfl
theorem QbL (n : Nat) (x1 : (List Qn)) (x2 : (List Qr)) (x3 : (List Qb)) (x4 : Int) (x5 : Int) (x6 : Qa) : YS (n + 1) x1 x2 x3 x4 x5 x6 =
  bif decide (x5 < x4) then
   bif inB x5 x3.length then
    VM n x1 x2 x3 x4 x5 (((rd x3 x5 (Ty.dflt Qe)).2).1) ((((rd x3 x5 (Ty.dflt Qe)).2).1).length : Int) 0 x6 (rd x3 x5 (Ty.dflt Qe))
   else none
  else
   some x2:=by kernel_rfl
theorem QbM (n : Nat) (x1 : (List Qn)) (x2 : (List Qr)) (x3 : (List Qb)) (x4 : Int) (x5 : Int) (x6 : (List Qf)) (x7 : Int) (x8 : Int) (x9 : Qa) (x10 : Qb) : VM (n + 1) x1 x2 x3 x4 x5 x6 x7 x8 x9 x10 =
  bif decide (x8 < x7) then
   bif inB x8 x6.length then
    VN n x1 x2 x3 x4 x5 x6 x7 x8 ((rd x6 x8 (Ty.dflt Qj)).2) (((rd x6 x8 (Ty.dflt Qj)).2).length : Int) 0 x9 x10 (rd x6 x8 (Ty.dflt Qj))
   else none
  else
   Gc n x1 x2 x3 x4 x5 x10.2.2 (x10.2.2.length : Int) 0 x9 x10:=by kernel_rfl
theorem QbN (n : Nat) (x1 : (List Qn)) (x2 : (List Qr)) (x3 : (List Qb)) (x4 : Int) (x5 : Int) (x6 : (List Qf)) (x7 : Int) (x8 : Int) (x9 : (List Qm)) (x10 : Int) (x11 : Int) (x12 : Qa) (x13 : Qb) (x14 : Qf) : VN (n + 1) x1 x2 x3 x4 x5 x6 x7 x8 x9 x10 x11 x12 x13 x14 =
  bif decide (x11 < x10) then
   bif inB x11 x9.length then
    bif !decide (((rd x9 x11 (Ty.dflt Qd)).2).1 = ([] : List Int)) then
     Option.bind (JN x1 x13.1 x14.1) fun (y1 : Int) =>
     Option.bind (JN x1 ((rd x9 x11 (Ty.dflt Qd)).1) (((rd x9 x11 (Ty.dflt Qd)).2).1)) fun (y2 : Int) =>
     bif decide (((x2.length : Int) + (([(y1,y2,false)] : List Qr).length : Int)) * 24 ≤ ZB) && decide ((x2.length : Int) + (([(y1,y2,false)] : List Qr).length : Int) ≤ ZB) then
      VN n x1 (x2 ++ ([(y1,y2,false)] : List Qr)) x3 x4 x5 x6 x7 x8 x9 x10 (IntKind.wrap .i64 (x11 + 1)) x12 x13 x14
     else none
    else
     VN n x1 x2 x3 x4 x5 x6 x7 x8 x9 x10 (IntKind.wrap .i64 (x11 + 1)) x12 x13 x14
   else none
  else
   VM n x1 x2 x3 x4 x5 x6 x7 (IntKind.wrap .i64 (x8 + 1)) x12 x13:=by kernel_rfl
theorem Qa7 (n : Nat) (x1 : (List Qn)) (x2 : (List Qr)) (x3 : (List Qb)) (x4 : Int) (x5 : Int) (x6 : (List Qc)) (x7 : Int) (x8 : Int) (x9 : Qa) (x10 : Qb) : Gc (n + 1) x1 x2 x3 x4 x5 x6 x7 x8 x9 x10 =
  bif decide (x8 < x7) then
   bif inB x8 x6.length then
    Option.bind (Y5 ((rd x6 x8 (Ty.dflt Qh)).2)) fun (y3 : (Q5 × Bool)) =>
    Option.bind (JN x1 x10.1 ((rd x6 x8 (Ty.dflt Qh)).1)) fun (y4 : Int) =>
    Option.bind (Qdz x9 x10 x1 y4 (Tree.node y3.1.val y3.1.kids) false x2) fun (y5 : (List Qr)) =>
    Gc n x1 y5 x3 x4 x5 x6 x7 (IntKind.wrap .i64 (x8 + 1)) x9 x10
   else none
  else
   YS n x1 x2 x3 x4 (IntKind.wrap .i64 (x5 + 1)) x9:=by kernel_rfl
theorem Qpq {K1 : (List Qr) → Option (List Qr)} {x1 : (List Qn)} {x3 : (List Qb)} {x4 : Int} {x5 : Int} {x6 : (List Qf)} {x7 : Int} {x8 : Int} {x9 : (List Qm)} {x12 : Qa} {x13 : Qb} {x14 : Qf} (hl : x9.length ≤ maxLen) (hK1 : ∀ (z2 : (List Qr)) (r : (List Qr)),K1 z2 = some r → Ev (fun n=>VM n x1 z2 x3 x4 x5 x6 x7 (IntKind.wrap .i64 (x8 + 1)) x12 x13) r) : ∀ (rest : List Qm) (k : Nat) (x2 : (List Qr)) (r : (List Qr)),rest = x9.drop k → Jr K1 x1 x13 x14 rest x2 = some r → Ev (fun n=>VN n x1 x2 x3 x4 x5 x6 x7 x8 x9 (x9.length : Int) (k : Int) x12 x13 x14) r:=by
 intro rest
 induction rest with
 | nil =>
  intro k x2 r hr h
  have hk:=QR hr
  rw [Jr] at h
  refine Ev.step ?_ (fun n=>QbN n x1 x2 x3 x4 x5 x6 x7 x8 x9 (x9.length : Int) (k : Int) x12 x13 x14)
  rw [show decide ((k : Int) < (x9.length : Int)) = false from decide_eq_false (by omega)]
  exact Ev.neg rfl (hK1 _ _ h)
 | cons e rest ih =>
  intro k x2 r hr h
  obtain ⟨hk,hx,hr2⟩:=QJ (d:=(Ty.dflt Qd)) hr
  have hw:=QG hl hk
  have ih2 : ∀ (z2 : (List Qr)) (r : (List Qr)),Jr K1 x1 x13 x14 rest z2 = some r → Ev (fun n=>VN n x1 z2 x3 x4 x5 x6 x7 x8 x9 (x9.length : Int) (IntKind.wrap .i64 ((k : Int) + 1)) x12 x13 x14) r:=by
   intro z2 r h; rw [hw]; exact ih (k + 1) z2 r hr2 h
  rw [Jr] at h
  refine Ev.step ?_ (fun n=>QbN n x1 x2 x3 x4 x5 x6 x7 x8 x9 (x9.length : Int) (k : Int) x12 x13 x14)
  rw [show decide ((k : Int) < (x9.length : Int)) = true from decide_eq_true (by omega),QM hk,hx]
  exact Ev.pos rfl (Ev.pos rfl (Ev.ofBif h (fun h=>(Ev.ofBind h fun y1 h=>(Ev.ofBind h fun y2 h=>(Ev.ofBif h (fun h=>(ih2 _ _ h)) (fun h=>(Ev.ofNone h)))))) (fun h=>(ih2 _ _ h))))
theorem QnL {K0 : (List Qr) → Option (List Qr)} {x1 : (List Qn)} {x3 : (List Qb)} {x4 : Int} {x5 : Int} {x6 : (List Qc)} {x9 : Qa} {x10 : Qb} (hl : x6.length ≤ maxLen) (hK0 : ∀ (z2 : (List Qr)) (r : (List Qr)),K0 z2 = some r → Ev (fun n=>YS n x1 z2 x3 x4 (IntKind.wrap .i64 (x5 + 1)) x9) r) : ∀ (rest : List Qc) (k : Nat) (x2 : (List Qr)) (r : (List Qr)),rest = x6.drop k → JG K0 x1 x9 x10 rest x2 = some r → Ev (fun n=>Gc n x1 x2 x3 x4 x5 x6 (x6.length : Int) (k : Int) x9 x10) r:=by
 intro rest
 induction rest with
 | nil =>
  intro k x2 r hr h
  have hk:=QR hr
  rw [JG] at h
  refine Ev.step ?_ (fun n=>Qa7 n x1 x2 x3 x4 x5 x6 (x6.length : Int) (k : Int) x9 x10)
  rw [show decide ((k : Int) < (x6.length : Int)) = false from decide_eq_false (by omega)]
  exact Ev.neg rfl (hK0 _ _ h)
 | cons e rest ih =>
  intro k x2 r hr h
  obtain ⟨hk,hx,hr2⟩:=QJ (d:=(Ty.dflt Qh)) hr
  have hw:=QG hl hk
  have ih2 : ∀ (z2 : (List Qr)) (r : (List Qr)),JG K0 x1 x9 x10 rest z2 = some r → Ev (fun n=>Gc n x1 z2 x3 x4 x5 x6 (x6.length : Int) (IntKind.wrap .i64 ((k : Int) + 1)) x9 x10) r:=by
   intro z2 r h; rw [hw]; exact ih (k + 1) z2 r hr2 h
  rw [JG] at h
  refine Ev.step ?_ (fun n=>Qa7 n x1 x2 x3 x4 x5 x6 (x6.length : Int) (k : Int) x9 x10)
  rw [show decide ((k : Int) < (x6.length : Int)) = true from decide_eq_true (by omega),QM hk,hx]
  exact Ev.pos rfl (Ev.pos rfl (Ev.ofBind h fun y3 h=>(Ev.ofBind h fun y4 h=>(Ev.ofBind h fun y5 h=>(ih2 _ _ h)))))
theorem Qpr {K0 : (List Qr) → Option (List Qr)} {x1 : (List Qn)} {x3 : (List Qb)} {x4 : Int} {x5 : Int} {x6 : (List Qf)} {x9 : Qa} {x10 : Qb} (hl : x6.length ≤ maxLen) (hK0 : ∀ (z2 : (List Qr)) (r : (List Qr)),K0 z2 = some r → Ev (fun n=>YS n x1 z2 x3 x4 (IntKind.wrap .i64 (x5 + 1)) x9) r) : ∀ (rest : List Qf) (k : Nat) (x2 : (List Qr)) (r : (List Qr)),rest = x6.drop k → JY K0 x1 x9 x10 rest x2 = some r → Ev (fun n=>VM n x1 x2 x3 x4 x5 x6 (x6.length : Int) (k : Int) x9 x10) r:=by
 intro rest
 induction rest with
 | nil =>
  intro k x2 r hr h
  have hk:=QR hr
  rw [JY] at h
  refine Ev.step ?_ (fun n=>QbM n x1 x2 x3 x4 x5 x6 (x6.length : Int) (k : Int) x9 x10)
  rw [show decide ((k : Int) < (x6.length : Int)) = false from decide_eq_false (by omega)]
  exact Ev.neg rfl (Ev.ofLen h fun hl h=>QnL hl hK0 _ (0 : Nat) _ _ rfl h)
 | cons e rest ih =>
  intro k x2 r hr h
  obtain ⟨hk,hx,hr2⟩:=QJ (d:=(Ty.dflt Qj)) hr
  have hw:=QG hl hk
  have ih2 : ∀ (z2 : (List Qr)) (r : (List Qr)),JY K0 x1 x9 x10 rest z2 = some r → Ev (fun n=>VM n x1 z2 x3 x4 x5 x6 (x6.length : Int) (IntKind.wrap .i64 ((k : Int) + 1)) x9 x10) r:=by
   intro z2 r h; rw [hw]; exact ih (k + 1) z2 r hr2 h
  rw [JY] at h
  refine Ev.step ?_ (fun n=>QbM n x1 x2 x3 x4 x5 x6 (x6.length : Int) (k : Int) x9 x10)
  rw [show decide ((k : Int) < (x6.length : Int)) = true from decide_eq_true (by omega),QM hk,hx]
  exact Ev.pos rfl (Ev.pos rfl (Ev.ofLen h fun hl h=>Qpq hl ih2 _ (0 : Nat) _ _ rfl h))
theorem Qps {x1 : (List Qn)} {x3 : (List Qb)} {x6 : Qa} (hl : x3.length ≤ maxLen) : ∀ (rest : List Qb) (k : Nat) (x2 : (List Qr)) (r : (List Qr)),rest = x3.drop k → JZ x1 x6 rest x2 = some r → Ev (fun n=>YS n x1 x2 x3 (x3.length : Int) (k : Int) x6) r:=by
 intro rest
 induction rest with
 | nil =>
  intro k x2 r hr h
  have hk:=QR hr
  rw [JZ] at h
  refine Ev.step ?_ (fun n=>QbL n x1 x2 x3 (x3.length : Int) (k : Int) x6)
  rw [show decide ((k : Int) < (x3.length : Int)) = false from decide_eq_false (by omega)]
  exact Ev.neg rfl (Ev.ofSome h)
 | cons e rest ih =>
  intro k x2 r hr h
  obtain ⟨hk,hx,hr2⟩:=QJ (d:=(Ty.dflt Qe)) hr
  have hw:=QG hl hk
  have ih2 : ∀ (z2 : (List Qr)) (r : (List Qr)),JZ x1 x6 rest z2 = some r → Ev (fun n=>YS n x1 z2 x3 (x3.length : Int) (IntKind.wrap .i64 ((k : Int) + 1)) x6) r:=by
   intro z2 r h; rw [hw]; exact ih (k + 1) z2 r hr2 h
  rw [JZ] at h
  refine Ev.step ?_ (fun n=>QbL n x1 x2 x3 (x3.length : Int) (k : Int) x6)
  rw [show decide ((k : Int) < (x3.length : Int)) = true from decide_eq_true (by omega),QM hk,hx]
  exact Ev.pos rfl (Ev.pos rfl (Ev.ofLen h fun hl h=>Qpr hl ih2 _ (0 : Nat) _ _ rfl h))
theorem Qxh (a0 : Qa) (a1 : (List Qn)) {r : (List Qr)} (h : Ga a0 a1 = some r) : Ev (fun n=>QlP n a0 a1) r:=by
 rw [Ga] at h
 refine Ev.of_eq ?_ (fun n=>QrA n a0 a1)
 exact (Ev.ofLen h fun hl h=>Qps hl _ (0 : Nat) _ _ rfl h)
theorem Qtt : ∀ x ∈ G2,Qo Tryz.prog x:=(Ql Qtq (Ql QnF (Ql Qzf Qt)))
theorem Qvy : Qo Tryz.prog (Qxg):=by
 refine Qy2 (by kernel_rfl) (by kernel_rfl : Tryz.prog.funcs[136]? = some Tryz.f136) (code:=Tryz.f136.body.getD .skip) (by kernel_rfl) (by kernel_rfl) (A:=XI) (I:=G1) (Qtt) ?_
 rintro ⟨a0,a1,u⟩ y hy
 exact (Qxh a0 a1 hy).get
def QlQ : Ctr:=QkB 136 [Qi,(.list QN)] [(.list Q7)] fun x=>Ga x.1 x.2.1
theorem Qvz : Qo Tryz.prog (QlQ):=QwD (by kernel_rfl) (by kernel_rfl) Qvy
def Vj (K1 : (List Qn) → Bool → Option ((List Qn) × Bool)) (x1 : (List Qn)) (x4 : Bool) (x5 : Int) (x8 : Qr) : Option ((List Qn) × Bool) :=
 bif inB x8.1 x1.length then
  bif inB x8.1 x1.length && true then
   bif decide (((rd x1 x8.1 (Ty.dflt QN)).2).2 < x5) then
    bif inB x8.1 x1.length then
     bif inB x8.1 x1.length && true && true && true && true then
      bif decide (((x1.set (Int.toNat x8.1) ((rd x1 x8.1 (Ty.dflt QN)).1,((rd x1 x8.1 (Ty.dflt QN)).2).1,x5)).length : Int) < x5) then
       some ([],false)
      else
       K1 (x1.set (Int.toNat x8.1) ((rd x1 x8.1 (Ty.dflt QN)).1,((rd x1 x8.1 (Ty.dflt QN)).2).1,x5)) false
     else none
    else none
   else
    bif decide ((x1.length : Int) < x5) then
     some ([],false)
    else
     K1 x1 x4
  else none
 else none
def QV (K0 : (List Qn) → Int → Option ((List Qn) × Bool)) (x3 : Int) : List Qr → (List Qn) → Bool → Option ((List Qn) × Bool)
 | [],x1,x4 =>
   bif x4 then
    some (x1,true)
   else
    K0 x1 (IntKind.wrap .i64 (x3 + 1))
 | e :: rest,x1,x4 =>
   bif true && true then
    bif inB (((e).2).1) x1.length then
     bif inB (((e).2).1) x1.length && true then
      bif ((e).2).2 then
       Vj (fun s0 s1=>QV K0 x3 rest s0 s1) x1 x4 (IntKind.wrap .i64 ((((rd x1 (((e).2).1) (Ty.dflt QN)).2).2) + 1)) (e)
      else
       Vj (fun s0 s1=>QV K0 x3 rest s0 s1) x1 x4 (((rd x1 (((e).2).1) (Ty.dflt QN)).2).2) (e)
     else none
    else none
   else none
def Ye (x2 : (List Qr)) : Nat → (List Qn) → Int → Option ((List Qn) × Bool)
 | 0,_,_=>none
 | m + 1,x1,x3 =>
   bif decide (x3 ≤ IntKind.wrap .i64 ((x1.length : Int) + 1)) then
    ZF x2 (QV (fun s0 s1=>Ye x2 m s0 s1) x3 x2 x1 true)
   else
    some ([],false)
def Uy (m : Nat) (a0 : Qa) : Option ((List Qn) × Bool) :=
 Option.bind (V9 a0) fun (y1 : (List Qn)) =>
 Option.bind (Ga a0 y1) fun (y2 : (List Qr)) =>
 Ye y2 m y1 0
def VP (a0 : Qa) : Option ((List Qn) × Bool):=Qhw fun m=>Uy m a0
def QlR : Ctr:=⟨76,[Qi],[(.list QN),.bool],fun x=>VP x.1⟩
def QvA : Ctr:=QkB 76 [Qi] [(.list QN),.bool] fun x=>VP x.1
def HB : List (List Nat × Ann):=[([0,4],[.drb 0 4 QN,.drb 0 5 Q7,.keep 0 6]),([0,8],[.same 0 23 0 5,.drb 0 4 QN,.drb 0 5 Q7,.keep 0 6,.keep 0 7,.keep 0 24,.keep 0 25]),([1,13],[.same 0 23 0 5,.drb 0 4 QN,.drb 0 5 Q7,.keep 0 6,.keep 0 7,.keep 0 9,.keep 0 10,.keep 0 24,.keep 0 25,.boxd 0 9 Q7])]
def XP : List (List Nat × Nat):=[([1001],2000135),([2002],2000136)]
def XQ : List Ctr:=[QlO,QlQ]
def Qjn (n : Nat) (a0 : Qa) : Option ((List Qn) × Bool):=QuR Tryz.prog noG HB XP (Qv XQ) Tryz.f76 (Tryz.f76.body.getD .skip) (QwV Tryz.prog Tryz.f76 [(.list QN),.bool]) n (QE [Qi] (a0,()))
abbrev Gd (n : Nat) (x1 : (List Qn)) (x2 : (List Qr)) (x3 : Int) : Option ((List Qn) × Bool):=Qi0 Tryz.prog noG HB XP (Qv XQ) Tryz.f76 (Tryz.f76.body.getD .skip) (QwV Tryz.prog Tryz.f76 [(.list QN),.bool]) n [0,4] [.d (.list QN) x1,.d (.list Q7) x2,.d I64 x3]
abbrev Yw (n : Nat) (x1 : (List Qn)) (x2 : (List Qr)) (x3 : Int) (x4 : Bool) (x5 : Int) (x6 : Int) : Option ((List Qn) × Bool):=Qi0 Tryz.prog noG HB XP (Qv XQ) Tryz.f76 (Tryz.f76.body.getD .skip) (QwV Tryz.prog Tryz.f76 [(.list QN),.bool]) n [0,8] [.nils,.d (.list QN) x1,.d (.list Q7) x2,.d I64 x3,.d .bool x4,.d I64 x5,.d I64 x6]
abbrev Xm (n : Nat) (x1 : (List Qn)) (x2 : (List Qr)) (x3 : Int) (x4 : Bool) (x5 : Int) (x6 : Int) (x7 : Int) (x8 : Qr) : Option ((List Qn) × Bool):=Qi0 Tryz.prog noG HB XP (Qv XQ) Tryz.f76 (Tryz.f76.body.getD .skip) (QwV Tryz.prog Tryz.f76 [(.list QN),.bool]) n [1,13] [.nils,.d (.list QN) x1,.d (.list Q7) x2,.d I64 x3,.d .bool x4,.ptr 0 9 0,.d I64 x5,.d I64 x6,.d I64 x7,.agg (QA Q7 x8)]
theorem Qpt (n : Nat) (a0 : Qa) : Qjn n a0 =
  Option.bind (V9 a0) fun (y1 : (List Qn)) =>
  Option.bind (Ga a0 y1) fun (y2 : (List Qr)) =>
  Gd n y1 y2 0:=by kernel_rfl
theorem Qjo (n : Nat) (x1 : (List Qn)) (x2 : (List Qr)) (x3 : Int) : Gd (n + 1) x1 x2 x3 =
  bif decide (x3 ≤ IntKind.wrap .i64 ((x1.length : Int) + 1)) then
   Yw n x1 x2 x3 true (x2.length : Int) 0
  else
   some ([],false):=by kernel_rfl
theorem Qa8 (n : Nat) (x1 : (List Qn)) (x2 : (List Qr)) (x3 : Int) (x4 : Bool) (x5 : Int) (x6 : Int) : Yw (n + 1) x1 x2 x3 x4 x5 x6 =
  bif decide (x6 < x5) then
   bif inB x6 x2.length then
    bif inB x6 x2.length && true then
     bif inB (((rd x2 x6 (Ty.dflt Q7)).2).1) x1.length then
      bif inB (((rd x2 x6 (Ty.dflt Q7)).2).1) x1.length && true then
       bif ((rd x2 x6 (Ty.dflt Q7)).2).2 then
        Xm n x1 x2 x3 x4 (IntKind.wrap .i64 ((((rd x1 (((rd x2 x6 (Ty.dflt Q7)).2).1) (Ty.dflt QN)).2).2) + 1)) x5 x6 (rd x2 x6 (Ty.dflt Q7))
       else
        Xm n x1 x2 x3 x4 (((rd x1 (((rd x2 x6 (Ty.dflt Q7)).2).1) (Ty.dflt QN)).2).2) x5 x6 (rd x2 x6 (Ty.dflt Q7))
      else none
     else none
    else none
   else none
  else
   bif x4 then
    some (x1,true)
   else
    Gd n x1 x2 (IntKind.wrap .i64 (x3 + 1)):=by kernel_rfl
theorem Qir (n : Nat) (x1 : (List Qn)) (x2 : (List Qr)) (x3 : Int) (x4 : Bool) (x5 : Int) (x6 : Int) (x7 : Int) (x8 : Qr) : Xm (n + 1) x1 x2 x3 x4 x5 x6 x7 x8 =
  bif inB x8.1 x1.length then
   bif inB x8.1 x1.length && true then
    bif decide (((rd x1 x8.1 (Ty.dflt QN)).2).2 < x5) then
     bif inB x8.1 x1.length then
      bif inB x8.1 x1.length && true && true && true && true then
       bif decide (((x1.set (Int.toNat x8.1) ((rd x1 x8.1 (Ty.dflt QN)).1,((rd x1 x8.1 (Ty.dflt QN)).2).1,x5)).length : Int) < x5) then
        some ([],false)
       else
        Yw n (x1.set (Int.toNat x8.1) ((rd x1 x8.1 (Ty.dflt QN)).1,((rd x1 x8.1 (Ty.dflt QN)).2).1,x5)) x2 x3 false x6 (IntKind.wrap .i64 (x7 + 1))
      else none
     else none
    else
     bif decide ((x1.length : Int) < x5) then
      some ([],false)
     else
      Yw n x1 x2 x3 x4 x6 (IntKind.wrap .i64 (x7 + 1))
   else none
  else none:=by kernel_rfl
theorem Qcv {K1 : (List Qn) → Bool → Option ((List Qn) × Bool)} {x1 : (List Qn)} {x2 : (List Qr)} {x3 : Int} {x4 : Bool} {x5 : Int} {x6 : Int} {x7 : Int} {x8 : Qr} (hK1 : ∀ (z1 : (List Qn)) (z4 : Bool) (r : ((List Qn) × Bool)),K1 z1 z4 = some r → Ev (fun n=>Yw n z1 x2 x3 z4 x6 (IntKind.wrap .i64 (x7 + 1))) r) {r : ((List Qn) × Bool)} (h : Vj K1 x1 x4 x5 x8 = some r) : Ev (fun n=>Xm n x1 x2 x3 x4 x5 x6 x7 x8) r:=by
 rw [Vj] at h
 refine Ev.step ?_ (fun n=>Qir n x1 x2 x3 x4 x5 x6 x7 x8)
 exact (Ev.ofBif h (fun h=>(Ev.ofBif h (fun h=>(Ev.ofBif h (fun h=>(Ev.ofBif h (fun h=>(Ev.ofBif h (fun h=>(Ev.ofBif h (fun h=>(Ev.ofSome h)) (fun h=>(hK1 _ _ _ h)))) (fun h=>(Ev.ofNone h)))) (fun h=>(Ev.ofNone h)))) (fun h=>(Ev.ofBif h (fun h=>(Ev.ofSome h)) (fun h=>(hK1 _ _ _ h)))))) (fun h=>(Ev.ofNone h)))) (fun h=>(Ev.ofNone h)))
theorem QnM {K0 : (List Qn) → Int → Option ((List Qn) × Bool)} {x2 : (List Qr)} {x3 : Int} (hl : x2.length ≤ maxLen) (hK0 : ∀ (z1 : (List Qn)) (z3 : Int) (r : ((List Qn) × Bool)),K0 z1 z3 = some r → Ev (fun n=>Gd n z1 x2 z3) r) : ∀ (rest : List Qr) (k : Nat) (x1 : (List Qn)) (x4 : Bool) (r : ((List Qn) × Bool)),rest = x2.drop k → QV K0 x3 rest x1 x4 = some r → Ev (fun n=>Yw n x1 x2 x3 x4 (x2.length : Int) (k : Int)) r:=by
 intro rest
 induction rest with
 | nil =>
  intro k x1 x4 r hr h
  have hk:=QR hr
  rw [QV] at h
  refine Ev.step ?_ (fun n=>Qa8 n x1 x2 x3 x4 (x2.length : Int) (k : Int))
  rw [show decide ((k : Int) < (x2.length : Int)) = false from decide_eq_false (by omega)]
  exact Ev.neg rfl (Ev.ofBif h (fun h=>(Ev.ofSome h)) (fun h=>(hK0 _ _ _ h)))
 | cons e rest ih =>
  intro k x1 x4 r hr h
  obtain ⟨hk,hx,hr2⟩:=QJ (d:=(Ty.dflt Q7)) hr
  have hw:=QG hl hk
  have ih2 : ∀ (z1 : (List Qn)) (z4 : Bool) (r : ((List Qn) × Bool)),QV K0 x3 rest z1 z4 = some r → Ev (fun n=>Yw n z1 x2 x3 z4 (x2.length : Int) (IntKind.wrap .i64 ((k : Int) + 1))) r:=by
   intro z1 z4 r h; rw [hw]; exact ih (k + 1) z1 z4 r hr2 h
  rw [QV] at h
  refine Ev.step ?_ (fun n=>Qa8 n x1 x2 x3 x4 (x2.length : Int) (k : Int))
  rw [show decide ((k : Int) < (x2.length : Int)) = true from decide_eq_true (by omega),QM hk,hx]
  exact Ev.pos rfl (Ev.pos rfl (Ev.ofBif h (fun h=>(Ev.ofBif h (fun h=>(Ev.ofBif h (fun h=>(Ev.ofBif h (fun h=>(Qcv ih2 h)) (fun h=>(Qcv ih2 h)))) (fun h=>(Ev.ofNone h)))) (fun h=>(Ev.ofNone h)))) (fun h=>(Ev.ofNone h))))
theorem QnN {x2 : (List Qr)} : ∀ (m : Nat) (x1 : (List Qn)) (x3 : Int) (r : ((List Qn) × Bool)),Ye x2 m x1 x3 = some r → Ev (fun n=>Gd n x1 x2 x3) r:=by
 intro m
 induction m with
 | zero=>intro x1 x3 r h; rw [Ye] at h; exact Ev.ofNone h
 | succ m ih2 =>
  intro x1 x3 r h
  rw [Ye] at h
  refine Ev.step ?_ (fun n=>Qjo n x1 x2 x3)
  exact (Ev.ofBif h (fun h=>(Ev.ofLen h fun hl h=>QnM hl ih2 _ (0 : Nat) _ _ _ rfl h)) (fun h=>(Ev.ofSome h)))
theorem QvB {m : Nat} (a0 : Qa) {r : ((List Qn) × Bool)} (h : Uy m a0 = some r) : Ev (fun n=>Qjn n a0) r:=by
 rw [Uy] at h
 refine Ev.of_eq ?_ (fun n=>Qpt n a0)
 exact (Ev.ofBind h fun y1 h=>(Ev.ofBind h fun y2 h=>(QnN _ _ _ _ h)))
theorem QrB : ∀ x ∈ XQ,Qo Tryz.prog x:=(Ql Qvx (Ql Qvz Qt))
theorem Qtu : Qo Tryz.prog (QvA):=by
 refine QCK (by kernel_rfl) (by kernel_rfl : Tryz.prog.funcs[76]? = some Tryz.f76) (code:=Tryz.f76.body.getD .skip) (by kernel_rfl) (by kernel_rfl) (A:=HB) (I:=XP) (QrB) ?_
 rintro ⟨a0,u⟩ y hy
 exact let ⟨_,h⟩:=(Ee hy).get; (QvB a0 h).get
theorem QvC : Qo Tryz.prog (QlR):=QAf (by kernel_rfl) Qtu
def Zi (x4 : Qa) : List Qb → Nat → Option Bool
 | [],k =>
   Option.bind (VP x4) fun (y5 : ((List Qn) × Bool)) =>
   some y5.2
 | e :: rest,k =>
   Option.bind (VC x4 (e)) fun (y3 : Bool) =>
   bif !(y3) then
    some false
   else
    bif decide ((0 : Int) < (k : Int)) then
     bif inB (IntKind.wrap .i64 ((k : Int) - 1)) x4.2.length then
      Option.bind (QX ((rd x4.2 (IntKind.wrap .i64 ((k : Int) - 1)) (Ty.dflt Qe)).1) ((e).1)) fun (y4 : Int) =>
      bif decide ((0 : Int) ≤ y4) then
       some false
      else
       Zi x4 rest (k + 1)
     else none
    else
     Zi x4 rest (k + 1)
def Zq (x4 : Qa) : List QC → Nat → Option Bool
 | [],k =>
   ZF x4.2 (Zi x4 x4.2 0)
 | e :: rest,k =>
   Option.bind (Vy (e)) fun (y1 : Bool) =>
   bif !(y1) then
    some false
   else
    bif decide ((0 : Int) < (k : Int)) then
     bif inB (IntKind.wrap .i64 ((k : Int) - 1)) x4.1.length then
      Option.bind (QX ((rd x4.1 (IntKind.wrap .i64 ((k : Int) - 1)) (Ty.dflt Qu)).1) ((e).1)) fun (y2 : Int) =>
      bif decide ((0 : Int) ≤ y2) then
       some false
      else
       Zq x4 rest (k + 1)
     else none
    else
     Zq x4 rest (k + 1)
def JO (a0 : Qa) : Option Bool :=
 bif decide ((8 : Int) < (a0.1.length : Int)) then
  some false
 else
  bif decide ((12 : Int) < (a0.2.length : Int)) then
   some false
  else
   ZF a0.1 (Zq a0 a0.1 0)
def WL : Ctr:=⟨40,[Qi],[.bool],fun x=>JO x.1⟩
def XR : List (List Nat × Ann):=[([0,4],[.keep 0 1,.keep 0 20,.keep 0 21,.keep 0 22,.boxd 0 1 Qi]),([0,10],[.keep 0 1,.keep 0 49,.keep 0 50,.keep 0 51,.boxd 0 1 Qi])]
def Xn : List (List Nat × Nat):=[]
def Xo : List Ctr:=[Qby,G0,QbG,QlR]
def QdW (n : Nat) (a0 : Qa) : Option Bool:=run Tryz.prog XR Xn (Qv Xo) Tryz.f40 (Tryz.f40.body.getD .skip) (Qy [.bool]) n (QE [Qi] (a0,()))
abbrev J8 (n : Nat) (x1 : (List QC)) (x2 : Int) (x3 : Int) (x4 : Qa) : Option Bool:=lam Tryz.prog XR Xn (Qv Xo) Tryz.f40 (Tryz.f40.body.getD .skip) (Qy [.bool]) n [0,4] [.ptr 0 1 0,.d (.list Qu) x1,.d I64 x2,.d I64 x3,.agg (QA Qi x4)]
abbrev JT (n : Nat) (x1 : (List Qb)) (x2 : Int) (x3 : Int) (x4 : Qa) : Option Bool:=lam Tryz.prog XR Xn (Qv Xo) Tryz.f40 (Tryz.f40.body.getD .skip) (Qy [.bool]) n [0,10] [.ptr 0 1 0,.d (.list Qe) x1,.d I64 x2,.d I64 x3,.agg (QA Qi x4)]
theorem Qjp (n : Nat) (a0 : Qa) : QdW n a0 =
  bif decide ((8 : Int) < (a0.1.length : Int)) then
   some false
  else
   bif decide ((12 : Int) < (a0.2.length : Int)) then
    some false
   else
    J8 n a0.1 (a0.1.length : Int) 0 a0:=by kernel_rfl
theorem Wh (n : Nat) (x1 : (List QC)) (x2 : Int) (x3 : Int) (x4 : Qa) : J8 (n + 1) x1 x2 x3 x4 =
  bif decide (x3 < x2) then
   bif inB x3 x1.length then
    Option.bind (Vy (rd x1 x3 (Ty.dflt Qu))) fun (y1 : Bool) =>
    bif !(y1) then
     some false
    else
     bif decide ((0 : Int) < x3) then
      bif inB (IntKind.wrap .i64 (x3 - 1)) x4.1.length then
       Option.bind (QX ((rd x4.1 (IntKind.wrap .i64 (x3 - 1)) (Ty.dflt Qu)).1) ((rd x1 x3 (Ty.dflt Qu)).1)) fun (y2 : Int) =>
       bif decide ((0 : Int) ≤ y2) then
        some false
       else
        J8 n x1 x2 (IntKind.wrap .i64 (x3 + 1)) x4
      else none
     else
      J8 n x1 x2 (IntKind.wrap .i64 (x3 + 1)) x4
   else none
  else
   JT n x4.2 (x4.2.length : Int) 0 x4:=by kernel_rfl
theorem Uz (n : Nat) (x1 : (List Qb)) (x2 : Int) (x3 : Int) (x4 : Qa) : JT (n + 1) x1 x2 x3 x4 =
  bif decide (x3 < x2) then
   bif inB x3 x1.length then
    Option.bind (VC x4 (rd x1 x3 (Ty.dflt Qe))) fun (y3 : Bool) =>
    bif !(y3) then
     some false
    else
     bif decide ((0 : Int) < x3) then
      bif inB (IntKind.wrap .i64 (x3 - 1)) x4.2.length then
       Option.bind (QX ((rd x4.2 (IntKind.wrap .i64 (x3 - 1)) (Ty.dflt Qe)).1) ((rd x1 x3 (Ty.dflt Qe)).1)) fun (y4 : Int) =>
       bif decide ((0 : Int) ≤ y4) then
        some false
       else
        JT n x1 x2 (IntKind.wrap .i64 (x3 + 1)) x4
      else none
     else
      JT n x1 x2 (IntKind.wrap .i64 (x3 + 1)) x4
   else none
  else
   Option.bind (VP x4) fun (y5 : ((List Qn) × Bool)) =>
   some y5.2:=by kernel_rfl
theorem Qg6 {x1 : (List Qb)} {x4 : Qa} (hl : x1.length ≤ maxLen) : ∀ (rest : List Qb) (k : Nat) (r : Bool),rest = x1.drop k → Zi x4 rest k = some r → Ev (fun n=>JT n x1 (x1.length : Int) (k : Int) x4) r:=by
 intro rest
 induction rest with
 | nil =>
  intro k r hr h
  have hk:=QR hr
  rw [Zi] at h
  refine Ev.step ?_ (fun n=>Uz n x1 (x1.length : Int) (k : Int) x4)
  rw [show decide ((k : Int) < (x1.length : Int)) = false from decide_eq_false (by omega)]
  exact Ev.neg rfl (Ev.ofBind h fun y5 h=>(Ev.ofSome h))
 | cons e rest ih =>
  intro k r hr h
  obtain ⟨hk,hx,hr2⟩:=QJ (d:=(Ty.dflt Qe)) hr
  have hw:=QG hl hk
  have ih2 : ∀ (r : Bool),Zi x4 rest (k + 1) = some r → Ev (fun n=>JT n x1 (x1.length : Int) (IntKind.wrap .i64 ((k : Int) + 1)) x4) r:=by
   intro r h; rw [hw]; exact ih (k + 1) r hr2 h
  rw [Zi] at h
  refine Ev.step ?_ (fun n=>Uz n x1 (x1.length : Int) (k : Int) x4)
  rw [show decide ((k : Int) < (x1.length : Int)) = true from decide_eq_true (by omega),QM hk,hx]
  exact Ev.pos rfl (Ev.pos rfl (Ev.ofBind h fun y3 h=>(Ev.ofBif h (fun h=>(Ev.ofSome h)) (fun h=>(Ev.ofBif h (fun h=>(Ev.ofBif h (fun h=>(Ev.ofBind h fun y4 h=>(Ev.ofBif h (fun h=>(Ev.ofSome h)) (fun h=>(ih2  _ h))))) (fun h=>(Ev.ofNone h)))) (fun h=>(ih2  _ h)))))))
theorem Qis {x1 : (List QC)} {x4 : Qa} (hl : x1.length ≤ maxLen) : ∀ (rest : List QC) (k : Nat) (r : Bool),rest = x1.drop k → Zq x4 rest k = some r → Ev (fun n=>J8 n x1 (x1.length : Int) (k : Int) x4) r:=by
 intro rest
 induction rest with
 | nil =>
  intro k r hr h
  have hk:=QR hr
  rw [Zq] at h
  refine Ev.step ?_ (fun n=>Wh n x1 (x1.length : Int) (k : Int) x4)
  rw [show decide ((k : Int) < (x1.length : Int)) = false from decide_eq_false (by omega)]
  exact Ev.neg rfl (Ev.ofLen h fun hl h=>Qg6 hl _ (0 : Nat) _ rfl h)
 | cons e rest ih =>
  intro k r hr h
  obtain ⟨hk,hx,hr2⟩:=QJ (d:=(Ty.dflt Qu)) hr
  have hw:=QG hl hk
  have ih2 : ∀ (r : Bool),Zq x4 rest (k + 1) = some r → Ev (fun n=>J8 n x1 (x1.length : Int) (IntKind.wrap .i64 ((k : Int) + 1)) x4) r:=by
   intro r h; rw [hw]; exact ih (k + 1) r hr2 h
  rw [Zq] at h
  refine Ev.step ?_ (fun n=>Wh n x1 (x1.length : Int) (k : Int) x4)
  rw [show decide ((k : Int) < (x1.length : Int)) = true from decide_eq_true (by omega),QM hk,hx]
  exact Ev.pos rfl (Ev.pos rfl (Ev.ofBind h fun y1 h=>(Ev.ofBif h (fun h=>(Ev.ofSome h)) (fun h=>(Ev.ofBif h (fun h=>(Ev.ofBif h (fun h=>(Ev.ofBind h fun y2 h=>(Ev.ofBif h (fun h=>(Ev.ofSome h)) (fun h=>(ih2  _ h))))) (fun h=>(Ev.ofNone h)))) (fun h=>(ih2  _ h)))))))
theorem QnO (a0 : Qa) {r : Bool} (h : JO a0 = some r) : Ev (fun n=>QdW n a0) r:=by
 rw [JO] at h
 refine Ev.of_eq ?_ (fun n=>Qjp n a0)
 exact (Ev.ofBif h (fun h=>(Ev.ofSome h)) (fun h=>(Ev.ofBif h (fun h=>(Ev.ofSome h)) (fun h=>(Ev.ofLen h fun hl h=>Qis hl _ (0 : Nat) _ rfl h)))))
theorem QkR : ∀ x ∈ Xo,Qo Tryz.prog x:=(Ql Qru (Ql Wc (Ql Qrx (Ql QvC Qt))))
theorem Qms : Qo Tryz.prog (WL):=by
 refine Qq (c:=WL) (by kernel_rfl) (by kernel_rfl : Tryz.prog.funcs[40]? = some Tryz.f40) (code:=Tryz.f40.body.getD .skip) (by kernel_rfl) (by kernel_rfl) (by kernel_rfl) (A:=XR) (I:=Xn) (QkR) ?_
 rintro ⟨a0,u⟩ y hy
 exact (QnO a0 hy).get
def Jf (x1 : (List Int)) : List Int → Option Bool
 | [] =>
   bif decide ((1 : Int) ≤ (x1.length : Int)) then
    some (decide ((x1.length : Int) ≤ 40))
   else
    some false
 | e :: rest =>
   bif !(VO (e)) then
    bif !(Y3 (e)) then
     bif !decide (e = 95) then
      bif !decide (e = 45) then
       bif !decide (e = 46) then
        some false
       else
        Jf x1 rest
      else
       Jf x1 rest
     else
      Jf x1 rest
    else
     Jf x1 rest
   else
    Jf x1 rest
def XS (a0 : (List Int)) : Option Bool :=
 ZF a0 (Jf a0 a0)
def QnP : Ctr:=⟨79,[.str],[.bool],fun x=>XS x.1⟩
def QnQ : List (List Nat × Ann):=[([0,2],[.keep 0 0,.keep 0 3])]
def QkS : List (List Nat × Nat):=[]
def QkT : List Ctr:=[Qaq,Qbp]
def QwL (n : Nat) (a0 : (List Int)) : Option Bool:=run Tryz.prog QnQ QkS (Qv QkT) Tryz.f79 (Tryz.f79.body.getD .skip) (Qy [.bool]) n (QE [.str] (a0,()))
abbrev Va (n : Nat) (x1 : (List Int)) (x2 : Int) : Option Bool:=lam Tryz.prog QnQ QkS (Qv QkT) Tryz.f79 (Tryz.f79.body.getD .skip) (Qy [.bool]) n [0,2] [.d .str x1,.d I64 x2]
theorem Qzg (n : Nat) (a0 : (List Int)) : QwL n a0 =
  Va n a0 0:=by kernel_rfl
theorem Qgh (n : Nat) (x1 : (List Int)) (x2 : Int) : Va (n + 1) x1 x2 =
  bif decide (x2 < (x1.length : Int)) then
   bif inB x2 x1.length then
    bif !(VO (rd x1 x2 0)) then
     bif inB x2 x1.length then
      bif !(Y3 (rd x1 x2 0)) then
       bif inB x2 x1.length then
        bif !decide (rd x1 x2 0 = 95) then
         bif inB x2 x1.length then
          bif !decide (rd x1 x2 0 = 45) then
           bif inB x2 x1.length then
            bif !decide (rd x1 x2 0 = 46) then
             some false
            else
             Va n x1 (IntKind.wrap .i64 (x2 + 1))
           else none
          else
           Va n x1 (IntKind.wrap .i64 (x2 + 1))
         else none
        else
         Va n x1 (IntKind.wrap .i64 (x2 + 1))
       else none
      else
       Va n x1 (IntKind.wrap .i64 (x2 + 1))
     else none
    else
     Va n x1 (IntKind.wrap .i64 (x2 + 1))
   else none
  else
   bif decide ((1 : Int) ≤ (x1.length : Int)) then
    some (decide ((x1.length : Int) ≤ 40))
   else
    some false:=by kernel_rfl
theorem Qxi {x1 : (List Int)} (hl : x1.length ≤ maxLen) : ∀ (rest : List Int) (k : Nat) (r : Bool),rest = x1.drop k → Jf x1 rest = some r → Ev (fun n=>Va n x1 (k : Int)) r:=by
 intro rest
 induction rest with
 | nil =>
  intro k r hr h
  have hk:=QR hr
  rw [Jf] at h
  refine Ev.step ?_ (fun n=>Qgh n x1 (k : Int))
  rw [show decide ((k : Int) < (x1.length : Int)) = false from decide_eq_false (by omega)]
  exact Ev.neg rfl (Ev.ofBif h (fun h=>(Ev.ofSome h)) (fun h=>(Ev.ofSome h)))
 | cons e rest ih =>
  intro k r hr h
  obtain ⟨hk,hx,hr2⟩:=QJ (d:=0) hr
  have hw:=QG hl hk
  have ih2 : ∀ (r : Bool),Jf x1 rest = some r → Ev (fun n=>Va n x1 (IntKind.wrap .i64 ((k : Int) + 1))) r:=by
   intro r h; rw [hw]; exact ih (k + 1) r hr2 h
  rw [Jf] at h
  refine Ev.step ?_ (fun n=>Qgh n x1 (k : Int))
  rw [show decide ((k : Int) < (x1.length : Int)) = true from decide_eq_true (by omega),QM hk,hx]
  exact Ev.pos rfl (Ev.pos rfl (Ev.ofBif h (fun h=>(Ev.pos rfl (Ev.ofBif h (fun h=>(Ev.pos rfl (Ev.ofBif h (fun h=>(Ev.pos rfl (Ev.ofBif h (fun h=>(Ev.pos rfl (Ev.ofBif h (fun h=>(Ev.ofSome h)) (fun h=>(ih2  _ h))))) (fun h=>(ih2  _ h))))) (fun h=>(ih2  _ h))))) (fun h=>(ih2  _ h))))) (fun h=>(ih2  _ h))))
theorem QCQ (a0 : (List Int)) {r : Bool} (h : XS a0 = some r) : Ev (fun n=>QwL n a0) r:=by
 rw [XS] at h
 refine Ev.of_eq ?_ (fun n=>Qzg n a0)
 exact (Ev.ofLen h fun hl h=>Qxi hl _ (0 : Nat) _ rfl h)
theorem QAo : ∀ x ∈ QkT,Qo Tryz.prog x:=(Ql Qjh (Ql QlB Qt))
theorem QB0 : Qo Tryz.prog (QnP):=by
 refine Qq (c:=QnP) (by kernel_rfl) (by kernel_rfl : Tryz.prog.funcs[79]? = some Tryz.f79) (code:=Tryz.f79.body.getD .skip) (by kernel_rfl) (by kernel_rfl) (by kernel_rfl) (A:=QnQ) (I:=QkS) (QAo) ?_
 rintro ⟨a0,u⟩ y hy
 exact (QCQ a0 hy).get
def X9 (a0 : Qa) (a1 : Ef) : Option Bool :=
 Option.bind (Y4 a0 a1.2.2.2.1) fun (y1 : (Qb × Bool)) =>
 Option.bind (ZX a0 a1.1 a1.2.2.1) fun (y2 : Bool) =>
 bif y2 then
  Option.bind (XS a1.2.1) fun (y3 : Bool) =>
  bif y3 then
   bif y1.2 then
    Option.bind (XS a1.2.2.2.2.1) fun (y4 : Bool) =>
    bif y4 then
     bif decide (a1.2.2.2.2.2 = ([] : List Int)) then
      some true
     else
      Option.bind (ZX a0 a1.2.2.2.1 a1.2.2.2.2.2) fun (y5 : Bool) =>
      some y5
    else
     some false
   else
    some false
  else
   some false
 else
  some false
def Qit : Ctr:=⟨41,[Qi,G7],[.bool],fun x=>X9 x.1 x.2.1⟩
def Qqt : List (List Nat × Ann):=[]
def QnR : List (List Nat × Nat):=[]
def QnS : List Ctr:=[E9,Hx,QnP]
def Qqu (n : Nat) (a0 : Qa) (a1 : Ef) : Option Bool:=run Tryz.prog Qqt QnR (Qv QnS) Tryz.f41 (Tryz.f41.body.getD .skip) (Qy [.bool]) n (QE [Qi,G7] (a0,a1,()))
theorem QvD (n : Nat) (a0 : Qa) (a1 : Ef) : Qqu n a0 a1 =
  Option.bind (Y4 a0 a1.2.2.2.1) fun (y1 : (Qb × Bool)) =>
  Option.bind (ZX a0 a1.1 a1.2.2.1) fun (y2 : Bool) =>
  bif y2 then
   Option.bind (XS a1.2.1) fun (y3 : Bool) =>
   bif y3 then
    bif y1.2 then
     Option.bind (XS a1.2.2.2.2.1) fun (y4 : Bool) =>
     bif y4 then
      bif decide (a1.2.2.2.2.2 = ([] : List Int)) then
       some true
      else
       Option.bind (ZX a0 a1.2.2.2.1 a1.2.2.2.2.2) fun (y5 : Bool) =>
       some y5
     else
      some false
    else
     some false
   else
    some false
  else
   some false:=by kernel_rfl
theorem QAp (a0 : Qa) (a1 : Ef) {r : Bool} (h : X9 a0 a1 = some r) : Ev (fun n=>Qqu n a0 a1) r:=by
 rw [X9] at h
 refine Ev.of_eq ?_ (fun n=>QvD n a0 a1)
 exact (Ev.ofBind h fun y1 h=>(Ev.ofBind h fun y2 h=>(Ev.ofBif h (fun h=>(Ev.ofBind h fun y3 h=>(Ev.ofBif h (fun h=>(Ev.ofBif h (fun h=>(Ev.ofBind h fun y4 h=>(Ev.ofBif h (fun h=>(Ev.ofBif h (fun h=>(Ev.ofSome h)) (fun h=>(Ev.ofBind h fun y5 h=>(Ev.ofSome h))))) (fun h=>(Ev.ofSome h))))) (fun h=>(Ev.ofSome h)))) (fun h=>(Ev.ofSome h))))) (fun h=>(Ev.ofSome h)))))
theorem Qxj : ∀ x ∈ QnS,Qo Tryz.prog x:=(Ql Qgd (Ql Qas (Ql QB0 Qt)))
theorem Qzh : Qo Tryz.prog (Qit):=by
 refine Qq (c:=Qit) (by kernel_rfl) (by kernel_rfl : Tryz.prog.funcs[41]? = some Tryz.f41) (code:=Tryz.f41.body.getD .skip) (by kernel_rfl) (by kernel_rfl) (by kernel_rfl) (A:=Qqt) (I:=QnR) (Qxj) ?_
 rintro ⟨a0,a1,u⟩ y hy
 exact (QAp a0 a1 hy).get
def Xa (a0 : Qa) (a1 : Ef) : Option Bool :=
 Option.bind (JO a0) fun (y1 : Bool) =>
 bif y1 then
  Option.bind (X9 a0 a1) fun (y2 : Bool) =>
  some y2
 else
  some false
def Qgi : Ctr:=⟨18,[Qi,G7],[.bool],fun x=>Xa x.1 x.2.1⟩
def QnT : List (List Nat × Ann):=[]
def QlS : List (List Nat × Nat):=[]
def QlT : List Ctr:=[WL,Qit]
def QnU (n : Nat) (a0 : Qa) (a1 : Ef) : Option Bool:=run Tryz.prog QnT QlS (Qv QlT) Tryz.f18 (Tryz.f18.body.getD .skip) (Qy [.bool]) n (QE [Qi,G7] (a0,a1,()))
theorem Qtv (n : Nat) (a0 : Qa) (a1 : Ef) : QnU n a0 a1 =
  Option.bind (JO a0) fun (y1 : Bool) =>
  bif y1 then
   Option.bind (X9 a0 a1) fun (y2 : Bool) =>
   some y2
  else
   some false:=by kernel_rfl
theorem Qzi (a0 : Qa) (a1 : Ef) {r : Bool} (h : Xa a0 a1 = some r) : Ev (fun n=>QnU n a0 a1) r:=by
 rw [Xa] at h
 refine Ev.of_eq ?_ (fun n=>Qtv n a0 a1)
 exact (Ev.ofBind h fun y1 h=>(Ev.ofBif h (fun h=>(Ev.ofBind h fun y2 h=>(Ev.ofSome h))) (fun h=>(Ev.ofSome h))))
theorem QvE : ∀ x ∈ QlT,Qo Tryz.prog x:=(Ql Qms (Ql Qzh Qt))
theorem Qxk : Qo Tryz.prog (Qgi):=by
 refine Qq (c:=Qgi) (by kernel_rfl) (by kernel_rfl : Tryz.prog.funcs[18]? = some Tryz.f18) (code:=Tryz.f18.body.getD .skip) (by kernel_rfl) (by kernel_rfl) (by kernel_rfl) (A:=QnT) (I:=QlS) (QvE) ?_
 rintro ⟨a0,a1,u⟩ y hy
 exact (Qzi a0 a1 hy).get
def GU (a0 : Int) : Bool :=
 bif decide ((48 : Int) ≤ a0) then
  decide (a0 ≤ 57)
 else
  false
def QdB : Ctr:=⟨147,[U8],[.bool],fun x=>some (GU x.1)⟩
def Qqv : List (List Nat × Ann):=[]
def QnV : List (List Nat × Nat):=[]
def QnW : List Ctr:=[]
def Qqw (n : Nat) (a0 : Int) : Option Bool:=run Tryz.prog Qqv QnV (Qv QnW) Tryz.f147 (Tryz.f147.body.getD .skip) (Qy [.bool]) n (QE [U8] (a0,()))
theorem QvF (n : Nat) (a0 : Int) : Qqw n a0 =
  bif decide ((48 : Int) ≤ a0) then
   some (decide (a0 ≤ 57))
  else
   some false:=by kernel_rfl
theorem QAq (n : Nat) (a0 : Int) : Qqw n a0 = some (GU a0):=(QvF n a0).trans (Je rfl rfl)
theorem Qxl : ∀ x ∈ QnW,Qo Tryz.prog x:=Qt
theorem QnX : Qo Tryz.prog (QdB):=by
 refine Qq (c:=QdB) (by kernel_rfl) (by kernel_rfl : Tryz.prog.funcs[147]? = some Tryz.f147) (code:=Tryz.f147.body.getD .skip) (by kernel_rfl) (by kernel_rfl) (by kernel_rfl) (A:=Qqv) (I:=QnV) (Qxl) ?_
 rintro ⟨a0,u⟩ y hy
 exact ⟨0,(QAq 0 a0).trans hy⟩
def HC (a0 : Int) : Bool :=
 bif decide ((97 : Int) ≤ a0) then
  bif decide (a0 ≤ 122) then
   true
  else
   bif decide ((65 : Int) ≤ a0) then
    decide (a0 ≤ 90)
   else
    false
 else
  bif decide ((65 : Int) ≤ a0) then
   decide (a0 ≤ 90)
  else
   false
def Qgj : Ctr:=⟨191,[U8],[.bool],fun x=>some (HC x.1)⟩
def QnY : List (List Nat × Ann):=[]
def QlU : List (List Nat × Nat):=[]
def QlV : List Ctr:=[]
def QnZ (n : Nat) (a0 : Int) : Option Bool:=run Tryz.prog QnY QlU (Qv QlV) Tryz.f191 (Tryz.f191.body.getD .skip) (Qy [.bool]) n (QE [U8] (a0,()))
theorem Qtw (n : Nat) (a0 : Int) : QnZ n a0 =
  bif decide ((97 : Int) ≤ a0) then
   bif decide (a0 ≤ 122) then
    some true
   else
    bif decide ((65 : Int) ≤ a0) then
     some (decide (a0 ≤ 90))
    else
     some false
  else
   bif decide ((65 : Int) ≤ a0) then
    some (decide (a0 ≤ 90))
   else
    some false:=by kernel_rfl
theorem Qzj (n : Nat) (a0 : Int) : QnZ n a0 = some (HC a0):=(Qtw n a0).trans (Je (Je rfl (Je rfl rfl)) (Je rfl rfl))
theorem QvG : ∀ x ∈ QlV,Qo Tryz.prog x:=Qt
theorem Qxm : Qo Tryz.prog (Qgj):=by
 refine Qq (c:=Qgj) (by kernel_rfl) (by kernel_rfl : Tryz.prog.funcs[191]? = some Tryz.f191) (code:=Tryz.f191.body.getD .skip) (by kernel_rfl) (by kernel_rfl) (by kernel_rfl) (A:=QnY) (I:=QlU) (QvG) ?_
 rintro ⟨a0,u⟩ y hy
 exact ⟨0,(Qzj 0 a0).trans hy⟩
def Vk (a0 : Int) : Bool :=
 bif HC a0 then
  true
 else
  bif GU a0 then
   true
  else
   decide (a0 = 95)
def Ei : Ctr:=⟨148,[U8],[.bool],fun x=>some (Vk x.1)⟩
def Qjq : List (List Nat × Ann):=[]
def QhE : List (List Nat × Nat):=[]
def QhF : List Ctr:=[Qgj,QdB]
def Qjr (n : Nat) (a0 : Int) : Option Bool:=run Tryz.prog Qjq QhE (Qv QhF) Tryz.f148 (Tryz.f148.body.getD .skip) (Qy [.bool]) n (QE [U8] (a0,()))
theorem Qpu (n : Nat) (a0 : Int) : Qjr n a0 =
  bif HC a0 then
   some true
  else
   bif GU a0 then
    some true
   else
    some (decide (a0 = 95)):=by kernel_rfl
theorem QvH (n : Nat) (a0 : Int) : Qjr n a0 = some (Vk a0):=(Qpu n a0).trans (Je rfl (Je rfl rfl))
theorem QrC : ∀ x ∈ QhF,Qo Tryz.prog x:=(Ql Qxm (Ql QnX Qt))
theorem QhG : Qo Tryz.prog (Ei):=by
 refine Qq (c:=Ei) (by kernel_rfl) (by kernel_rfl : Tryz.prog.funcs[148]? = some Tryz.f148) (code:=Tryz.f148.body.getD .skip) (by kernel_rfl) (by kernel_rfl) (by kernel_rfl) (A:=Qjq) (I:=QhE) (QrC) ?_
 rintro ⟨a0,u⟩ y hy
 exact ⟨0,(QvH 0 a0).trans hy⟩
def Yf : List Int → Option Bool
 | [] =>
   some true
 | e :: rest =>
   bif !(Vk (e)) then
    some false
   else
    Yf rest
def Zw (a0 : (List Int)) : Option Bool :=
 bif decide (a0 = ([] : List Int)) then
  some false
 else
  bif decide ((30 : Int) < (a0.length : Int)) then
   some false
  else
   bif inB 0 a0.length then
    bif GU (rd a0 0 0) then
     some false
    else
     ZF a0 (Yf a0)
   else none
def UA : Ctr:=⟨83,[.str],[.bool],fun x=>Zw x.1⟩
def QeC : List (List Nat × Ann):=[([0,4],[.keep 0 0,.keep 0 17,.keep 0 18])]
def Qc7 : List (List Nat × Nat):=[]
def Qc8 : List Ctr:=[QdB,Ei]
def QlW (n : Nat) (a0 : (List Int)) : Option Bool:=run Tryz.prog QeC Qc7 (Qv Qc8) Tryz.f83 (Tryz.f83.body.getD .skip) (Qy [.bool]) n (QE [.str] (a0,()))
abbrev GC (n : Nat) (x1 : (List Int)) (x2 : Int) (x3 : Int) : Option Bool:=lam Tryz.prog QeC Qc7 (Qv Qc8) Tryz.f83 (Tryz.f83.body.getD .skip) (Qy [.bool]) n [0,4] [.d .str x1,.d I64 x2,.d I64 x3]
theorem QrD (n : Nat) (a0 : (List Int)) : QlW n a0 =
  bif decide (a0 = ([] : List Int)) then
   some false
  else
   bif decide ((30 : Int) < (a0.length : Int)) then
    some false
   else
    bif inB 0 a0.length then
     bif GU (rd a0 0 0) then
      some false
     else
      GC n a0 (a0.length : Int) 0
    else none:=by kernel_rfl
theorem QbO (n : Nat) (x1 : (List Int)) (x2 : Int) (x3 : Int) : GC (n + 1) x1 x2 x3 =
  bif decide (x3 < x2) then
   bif inB x3 x1.length then
    bif !(Vk (rd x1 x3 0)) then
     some false
    else
     GC n x1 x2 (IntKind.wrap .i64 (x3 + 1))
   else none
  else
   some true:=by kernel_rfl
theorem Qpv {x1 : (List Int)} (hl : x1.length ≤ maxLen) : ∀ (rest : List Int) (k : Nat) (r : Bool),rest = x1.drop k → Yf rest = some r → Ev (fun n=>GC n x1 (x1.length : Int) (k : Int)) r:=by
 intro rest
 induction rest with
 | nil =>
  intro k r hr h
  have hk:=QR hr
  rw [Yf] at h
  refine Ev.step ?_ (fun n=>QbO n x1 (x1.length : Int) (k : Int))
  rw [show decide ((k : Int) < (x1.length : Int)) = false from decide_eq_false (by omega)]
  exact Ev.neg rfl (Ev.ofSome h)
 | cons e rest ih =>
  intro k r hr h
  obtain ⟨hk,hx,hr2⟩:=QJ (d:=0) hr
  have hw:=QG hl hk
  have ih2 : ∀ (r : Bool),Yf rest = some r → Ev (fun n=>GC n x1 (x1.length : Int) (IntKind.wrap .i64 ((k : Int) + 1))) r:=by
   intro r h; rw [hw]; exact ih (k + 1) r hr2 h
  rw [Yf] at h
  refine Ev.step ?_ (fun n=>QbO n x1 (x1.length : Int) (k : Int))
  rw [show decide ((k : Int) < (x1.length : Int)) = true from decide_eq_true (by omega),QM hk,hx]
  exact Ev.pos rfl (Ev.pos rfl (Ev.ofBif h (fun h=>(Ev.ofSome h)) (fun h=>(ih2  _ h))))
theorem Qxn (a0 : (List Int)) {r : Bool} (h : Zw a0 = some r) : Ev (fun n=>QlW n a0) r:=by
 rw [Zw] at h
 refine Ev.of_eq ?_ (fun n=>QrD n a0)
 exact (Ev.ofBif h (fun h=>(Ev.ofSome h)) (fun h=>(Ev.ofBif h (fun h=>(Ev.ofSome h)) (fun h=>(Ev.ofBif h (fun h=>(Ev.ofBif h (fun h=>(Ev.ofSome h)) (fun h=>(Ev.ofLen h fun hl h=>Qpv hl _ (0 : Nat) _ rfl h)))) (fun h=>(Ev.ofNone h)))))))
theorem Qtx : ∀ x ∈ Qc8,Qo Tryz.prog x:=(Ql QnX (Ql QhG Qt))
theorem Qc9 : Qo Tryz.prog (UA):=by
 refine Qq (c:=UA) (by kernel_rfl) (by kernel_rfl : Tryz.prog.funcs[83]? = some Tryz.f83) (code:=Tryz.f83.body.getD .skip) (by kernel_rfl) (by kernel_rfl) (by kernel_rfl) (A:=QeC) (I:=Qc7) (Qtx) ?_
 rintro ⟨a0,u⟩ y hy
 exact (Qxn a0 hy).get
def Zn (x1 : (List Int)) : List QF → Option (QF × Bool)
 | [] =>
   some ((([] : List Int),0),false)
 | e :: rest =>
   bif decide ((e).1 = x1) then
    some ((e),true)
   else
    Zn x1 rest
def Jn (a0 : QC) (a1 : (List Int)) : Option (QF × Bool) :=
 ZF a0.2.1 (Zn a1 a0.2.1)
def WM : Ctr:=⟨144,[Qu,.str],[Qz,.bool],fun x=>Jn x.1 x.2.1⟩
def WN : List (List Nat × Ann):=[([0,2,1003],[.keep 0 4,.keep 1 1,.keep 1 2,.keep 1 6,.keep 1 11,.keep 1 12,.keep 1 13,.boxd 0 4 Qz,.boxd 1 6 Qz])]
def UO : List (List Nat × Nat):=[([1003],189),([4002,1003],190)]
def UP : List Ctr:=[]
def QdX (n : Nat) (a0 : QC) (a1 : (List Int)) : Option (QF × Bool):=run Tryz.prog WN UO (Qv UP) Tryz.f144 (Tryz.f144.body.getD .skip) (Qy [Qz,.bool]) n (QE [Qu,.str] (a0,a1,()))
abbrev JP (n : Nat) (x1 : (List Int)) (x2 : (List QF)) (x3 : Int) (x4 : Int) (x5 : QF) (x6 : QF) : Option (QF × Bool):=lam Tryz.prog WN UO (Qv UP) Tryz.f144 (Tryz.f144.body.getD .skip) (Qy [Qz,.bool]) n [0,2,1003] [.ptr 0 4 0,.fn 190 [],.d .str x1,.ptr 1 6 0,.d (.list Qz) x2,.d I64 x3,.d I64 x4,.agg (QA Qz x5),.agg (QA Qz x6)]
theorem Qjs (n : Nat) (a0 : QC) (a1 : (List Int)) : QdX n a0 a1 =
  JP n a1 a0.2.1 (a0.2.1.length : Int) 0 (([] : List Int),0) (([] : List Int),0):=by kernel_rfl
theorem XT (n : Nat) (x1 : (List Int)) (x2 : (List QF)) (x3 : Int) (x4 : Int) (x5 : QF) (x6 : QF) : JP (n + 1) x1 x2 x3 x4 x5 x6 =
  bif decide (x4 < x3) then
   bif inB x4 x2.length then
    bif decide ((rd x2 x4 (Ty.dflt Qz)).1 = x1) then
     some ((rd x2 x4 (Ty.dflt Qz)),true)
    else
     JP n x1 x2 x3 (IntKind.wrap .i64 (x4 + 1)) x5 x6
   else none
  else
   some ((([] : List Int),0),false):=by kernel_rfl
theorem QdY {x1 : (List Int)} {x2 : (List QF)} {x5 : QF} (hl : x2.length ≤ maxLen) : ∀ (rest : List QF) (k : Nat) (r : (QF × Bool)),rest = x2.drop k → Zn x1 rest = some r → Ev (fun n=>JP n x1 x2 (x2.length : Int) (k : Int) x5 x5) r:=by
 intro rest
 induction rest with
 | nil =>
  intro k r hr h
  have hk:=QR hr
  rw [Zn] at h
  refine Ev.step ?_ (fun n=>XT n x1 x2 (x2.length : Int) (k : Int) x5 x5)
  rw [show decide ((k : Int) < (x2.length : Int)) = false from decide_eq_false (by omega)]
  exact Ev.neg rfl (Ev.ofSome h)
 | cons e rest ih =>
  intro k r hr h
  obtain ⟨hk,hx,hr2⟩:=QJ (d:=(Ty.dflt Qz)) hr
  have hw:=QG hl hk
  have ih2 : ∀ (r : (QF × Bool)),Zn x1 rest = some r → Ev (fun n=>JP n x1 x2 (x2.length : Int) (IntKind.wrap .i64 ((k : Int) + 1)) x5 x5) r:=by
   intro r h; rw [hw]; exact ih (k + 1) r hr2 h
  rw [Zn] at h
  refine Ev.step ?_ (fun n=>XT n x1 x2 (x2.length : Int) (k : Int) x5 x5)
  rw [show decide ((k : Int) < (x2.length : Int)) = true from decide_eq_true (by omega),QM hk,hx]
  exact Ev.pos rfl (Ev.pos rfl (Ev.ofBif h (fun h=>(Ev.ofSome h)) (fun h=>(ih2  _ h))))
theorem Qn0 (a0 : QC) (a1 : (List Int)) {r : (QF × Bool)} (h : Jn a0 a1 = some r) : Ev (fun n=>QdX n a0 a1) r:=by
 rw [Jn] at h
 refine Ev.of_eq ?_ (fun n=>Qjs n a0 a1)
 exact (Ev.ofLen h fun hl h=>QdY hl _ (0 : Nat) _ rfl h)
theorem QkU : ∀ x ∈ UP,Qo Tryz.prog x:=Qt
theorem Qmt : Qo Tryz.prog (WM):=by
 refine Qq (c:=WM) (by kernel_rfl) (by kernel_rfl : Tryz.prog.funcs[144]? = some Tryz.f144) (code:=Tryz.f144.body.getD .skip) (by kernel_rfl) (by kernel_rfl) (by kernel_rfl) (A:=WN) (I:=UO) (QkU) ?_
 rintro ⟨a0,a1,u⟩ y hy
 exact (Qn0 a0 a1 hy).get
def V0 (x1 : Int) (x2 : Int) (x3 : Bool) : Option Bool :=
 bif x3 then
  bif decide (x1 = 2) then
   some true
  else
   bif decide (x1 = 3) then
    some true
   else
    bif decide (x1 = 5) then
     some true
    else
     some (decide (x1 = 7))
 else
  bif decide (x2 = 4) then
   some (decide (x1 = 6))
  else
   some false
def VD (a0 : Int) (a1 : Int) : Option Bool :=
 bif decide (a0 = 1) then
  some true
 else
  bif decide (a0 = 2) then
   V0 a1 a0 (decide (a0 = 2))
  else
   V0 a1 a0 (decide (a0 = 3))
def Qgk : Ctr:=⟨146,[I64,I64],[.bool],fun x=>VD x.1 x.2.1⟩
def Qgl : List (List Nat × Ann):=[([1,6],[.keep 0 1,.keep 0 5,.keep 0 8])]
def QeD : List (List Nat × Nat):=[]
def QeE : List Ctr:=[]
def Qn1 (n : Nat) (a0 : Int) (a1 : Int) : Option Bool:=run Tryz.prog Qgl QeD (Qv QeE) Tryz.f146 (Tryz.f146.body.getD .skip) (Qy [.bool]) n (QE [I64,I64] (a0,a1,()))
abbrev H7 (n : Nat) (x1 : Int) (x2 : Int) (x3 : Bool) : Option Bool:=lam Tryz.prog Qgl QeD (Qv QeE) Tryz.f146 (Tryz.f146.body.getD .skip) (Qy [.bool]) n [1,6] [.d I64 x1,.d I64 x2,.d .bool x3]
theorem Qty (n : Nat) (a0 : Int) (a1 : Int) : Qn1 n a0 a1 =
  bif decide (a0 = 1) then
   some true
  else
   bif decide (a0 = 2) then
    H7 n a1 a0 (decide (a0 = 2))
   else
    H7 n a1 a0 (decide (a0 = 3)):=by kernel_rfl
theorem Qmu (n : Nat) (x1 : Int) (x2 : Int) (x3 : Bool) : H7 (n + 1) x1 x2 x3 =
  bif x3 then
   bif decide (x1 = 2) then
    some true
   else
    bif decide (x1 = 3) then
     some true
    else
     bif decide (x1 = 5) then
      some true
     else
      some (decide (x1 = 7))
  else
   bif decide (x2 = 4) then
    some (decide (x1 = 6))
   else
    some false:=by kernel_rfl
theorem Qgm {x1 : Int} {x2 : Int} {x3 : Bool} {r : Bool} (h : V0 x1 x2 x3 = some r) : Ev (fun n=>H7 n x1 x2 x3) r:=by
 rw [V0] at h
 refine Ev.step ?_ (fun n=>Qmu n x1 x2 x3)
 exact (Ev.ofBif h (fun h=>(Ev.ofBif h (fun h=>(Ev.ofSome h)) (fun h=>(Ev.ofBif h (fun h=>(Ev.ofSome h)) (fun h=>(Ev.ofBif h (fun h=>(Ev.ofSome h)) (fun h=>(Ev.ofSome h)))))))) (fun h=>(Ev.ofBif h (fun h=>(Ev.ofSome h)) (fun h=>(Ev.ofSome h)))))
theorem Qzk (a0 : Int) (a1 : Int) {r : Bool} (h : VD a0 a1 = some r) : Ev (fun n=>Qn1 n a0 a1) r:=by
 rw [VD] at h
 refine Ev.of_eq ?_ (fun n=>Qty n a0 a1)
 exact (Ev.ofBif h (fun h=>(Ev.ofSome h)) (fun h=>(Ev.ofBif h (fun h=>(Qgm h)) (fun h=>(Qgm h)))))
theorem QvI : ∀ x ∈ QeE,Qo Tryz.prog x:=Qt
theorem Qxo : Qo Tryz.prog (Qgk):=by
 refine Qq (c:=Qgk) (by kernel_rfl) (by kernel_rfl : Tryz.prog.funcs[146]? = some Tryz.f146) (code:=Tryz.f146.body.getD .skip) (by kernel_rfl) (by kernel_rfl) (by kernel_rfl) (A:=Qgl) (I:=QeD) (QvI) ?_
 rintro ⟨a0,a1,u⟩ y hy
 exact (Qzk a0 a1 hy).get
def G3 (a0 : YB) : Bool :=
 @decide (a0 = (0,0,([] : List Int),([] : List Int))) (Ty.decEq Zz a0 (0,0,([] : List Int),([] : List Int)))
def Qda : Ctr:=⟨145,[Zz],[.bool],fun x=>some (G3 x.1)⟩
def Qjt : List (List Nat × Ann):=[]
def QhH : List (List Nat × Nat):=[]
def QhI : List Ctr:=[]
def Qju (n : Nat) (a0 : YB) : Option Bool:=run Tryz.prog Qjt QhH (Qv QhI) Tryz.f145 (Tryz.f145.body.getD .skip) (Qy [.bool]) n (QE [Zz] (a0,()))
theorem Qpw (n : Nat) (a0 : YB) : Qju n a0 =
  some (@decide (a0 = (0,0,([] : List Int),([] : List Int))) (Ty.decEq Zz a0 (0,0,([] : List Int),([] : List Int)))):=by kernel_rfl
theorem QvJ (n : Nat) (a0 : YB) : Qju n a0 = some (G3 a0):=(Qpw n a0).trans rfl
theorem QrE : ∀ x ∈ QhI,Qo Tryz.prog x:=Qt
theorem Qtz : Qo Tryz.prog (Qda):=by
 refine Qq (c:=Qda) (by kernel_rfl) (by kernel_rfl : Tryz.prog.funcs[145]? = some Tryz.f145) (code:=Tryz.f145.body.getD .skip) (by kernel_rfl) (by kernel_rfl) (by kernel_rfl) (A:=Qjt) (I:=QhH) (QrE) ?_
 rintro ⟨a0,u⟩ y hy
 exact ⟨0,(QvJ 0 a0).trans hy⟩
end
end Go.Ab
