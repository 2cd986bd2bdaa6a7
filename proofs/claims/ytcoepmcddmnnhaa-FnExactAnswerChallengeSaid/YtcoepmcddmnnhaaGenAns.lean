import Derived.Test.YtcoepmcddmnnhaaGrowLay
import Derived.Test.YtcoepmcddmnnhaaProg
import Derived.KernelRfl
namespace Go.Ab
noncomputable section
open Go.Proofs
set_option maxRecDepth 20000
abbrev I64 : Ty:=.int .i64
abbrev U8 : Ty:=.int .u8
abbrev GK : Ty:=(.pair I64 I64)
abbrev GL : Type:=(Int × Int)
abbrev Jw : Ty:=(.pair .str (.pair I64 (.pair I64 I64)))
abbrev Jx : Type:=((List Int) × (Int × (Int × Int)))
def J2 (a0 : Int) : Bool :=
 bif decide ((1 : Int) ≤ a0) then
  decide (a0 < 1073741789)
 else
  false
def V2 : Ctr:=⟨24,[I64],[.bool],fun x=>some (J2 x.1)⟩
def Hy : List (List Nat × Ann):=[]
def XK : List (List Nat × Nat):=[]
def XL : List Ctr:=[]
def Hz (n : Nat) (a0 : Int) : Option Bool:=run Try.prog Hy XK (Qp XL) Try.f24 (Try.f24.body.getD .skip) (QG [.bool]) n (QM [I64] (a0,()))
theorem WT (n : Nat) (a0 : Int) : Hz n a0 =
  bif decide ((1 : Int) ≤ a0) then
   some (decide (a0 < 1073741789))
  else
   some false:=by kernel_rfl
theorem Qbh (n : Nat) (a0 : Int) : Hz n a0 = some (J2 a0):=(WT n a0).trans (J7 rfl rfl)
theorem EL : ∀ x ∈ XL,Qu Try.prog x:=Qm
theorem QaD : Qu Try.prog (V2):=by
 refine Qq (c:=V2) (by kernel_rfl) (by kernel_rfl : Try.prog.funcs[24]? = some Try.f24) (code:=Try.f24.body.getD .skip) (by kernel_rfl) (by kernel_rfl) (by kernel_rfl) (A:=Hy) (I:=XK) (EL) ?_
 rintro ⟨a0,u⟩ y hy
 exact ⟨0,(Qbh 0 a0).trans hy⟩
def Js (a0 : (List Int)) (a1 : (List Int)) (a2 : Int) : Bool :=
 bif decide ((1 : Int) ≤ (a0.length : Int)) then
  bif decide ((a0.length : Int) ≤ 100) then
   bif decide ((a1.length : Int) ≤ 100) then
    bif decide ((0 : Int) ≤ a2) then
     decide (a2 ≤ 1000000000)
    else
     false
   else
    false
  else
   false
 else
  false
def V3 : Ctr:=⟨25,[.str,(.list U8),I64],[.bool],fun x=>some (Js x.1 x.2.1 x.2.2.1)⟩
def HA : List (List Nat × Ann):=[]
def XM : List (List Nat × Nat):=[]
def XN : List Ctr:=[]
def HB (n : Nat) (a0 : (List Int)) (a1 : (List Int)) (a2 : Int) : Option Bool:=run Try.prog HA XM (Qp XN) Try.f25 (Try.f25.body.getD .skip) (QG [.bool]) n (QM [.str,(.list U8),I64] (a0,a1,a2,()))
theorem WU (n : Nat) (a0 : (List Int)) (a1 : (List Int)) (a2 : Int) : HB n a0 a1 a2 =
  bif decide ((1 : Int) ≤ (a0.length : Int)) then
   bif decide ((a0.length : Int) ≤ 100) then
    bif decide ((a1.length : Int) ≤ 100) then
     bif decide ((0 : Int) ≤ a2) then
      some (decide (a2 ≤ 1000000000))
     else
      some false
    else
     some false
   else
    some false
  else
   some false:=by kernel_rfl
theorem Qbi (n : Nat) (a0 : (List Int)) (a1 : (List Int)) (a2 : Int) : HB n a0 a1 a2 = some (Js a0 a1 a2):=(WU n a0 a1 a2).trans (J7 (J7 (J7 (J7 rfl rfl) rfl) rfl) rfl)
theorem EM : ∀ x ∈ XN,Qu Try.prog x:=Qm
theorem QaE : Qu Try.prog (V3):=by
 refine Qq (c:=V3) (by kernel_rfl) (by kernel_rfl : Try.prog.funcs[25]? = some Try.f25) (code:=Try.f25.body.getD .skip) (by kernel_rfl) (by kernel_rfl) (by kernel_rfl) (A:=HA) (I:=XM) (EM) ?_
 rintro ⟨a0,a1,a2,u⟩ y hy
 exact ⟨0,(Qbi 0 a0 a1 a2).trans hy⟩
def ZK (x2 : Int) : Nat → Int → Int → (List Int) → Option (List Int)
 | 0,_,_,_=>none
 | m + 1,x1,x3,x4 =>
   bif decide (x3 < x2) then
    bif inB x3 x4.length then
     bif inB x3 x4.length && true && true && true && true then
      ZK x2 m (IntKind.wrap .i64 (Int.tdiv x1 256)) (IntKind.wrap .i64 (x3 + 1)) (x4.set (Int.toNat x3) (IntKind.wrap .u8 (Int.tmod x1 256)))
     else none
    else none
   else
    some x4
def Yl (m : Nat) (a0 : Int) : Option (List Int) :=
 bif true && true && decide ((4 : Int) * 1 ≤ QI) && true then
  ZK ((List.replicate (Int.toNat 4) 0).length : Int) m a0 0 (List.replicate (Int.toNat 4) 0)
 else none
def QA (a0 : Int) : Option (List Int):=Wn fun m=>Yl m a0
def Ji : Ctr:=⟨36,[I64],[(.list U8)],fun x=>QA x.1⟩
def GM : List (List Nat × Ann):=[([0,3],[.keep 0 0,.keep 0 3,.keep 0 7,.keep 0 8,.rows 0 5 U8])]
def V4 : List (List Nat × Nat):=[]
def V5 : List Ctr:=[]
def Ur (n : Nat) (a0 : Int) : Option (List Int):=run Try.prog GM V4 (Qp V5) Try.f36 (Try.f36.body.getD .skip) (QG [(.list U8)]) n (QM [I64] (a0,()))
abbrev JU (n : Nat) (x1 : Int) (x2 : Int) (x3 : Int) (x4 : (List Int)) : Option (List Int):=lam Try.prog GM V4 (Qp V5) Try.f36 (Try.f36.body.getD .skip) (QG [(.list U8)]) n [0,3] [.d I64 x1,.msl 0 5,.d I64 x2,.d I64 x3,.d (.list U8) x4]
theorem EN (n : Nat) (a0 : Int) : Ur n a0 =
  bif true && true && decide ((4 : Int) * 1 ≤ QI) && true then
   JU n a0 ((List.replicate (Int.toNat 4) 0).length : Int) 0 (List.replicate (Int.toNat 4) 0)
  else none:=by kernel_rfl
theorem HS (n : Nat) (x1 : Int) (x2 : Int) (x3 : Int) (x4 : (List Int)) : JU (n + 1) x1 x2 x3 x4 =
  bif decide (x3 < x2) then
   bif inB x3 x4.length then
    bif inB x3 x4.length && true && true && true && true then
     JU n (IntKind.wrap .i64 (Int.tdiv x1 256)) x2 (IntKind.wrap .i64 (x3 + 1)) (x4.set (Int.toNat x3) (IntKind.wrap .u8 (Int.tmod x1 256)))
    else none
   else none
  else
   some x4:=by kernel_rfl
theorem WV {x2 : Int} : ∀ (m : Nat) (x1 : Int) (x3 : Int) (x4 : (List Int)) (r : (List Int)),ZK x2 m x1 x3 x4 = some r → Ev (fun n=>JU n x1 x2 x3 x4) r:=by
 intro m
 induction m with
 | zero=>intro x1 x3 x4 r h; rw [ZK] at h; exact Ev.ofNone h
 | succ m ih2 =>
  intro x1 x3 x4 r h
  rw [ZK] at h
  refine Ev.step ?_ (fun n=>HS n x1 x2 x3 x4)
  exact (Ev.ofBif h (fun h=>(Ev.ofBif h (fun h=>(Ev.ofBif h (fun h=>(ih2 _ _ _ _ h)) (fun h=>(Ev.ofNone h)))) (fun h=>(Ev.ofNone h)))) (fun h=>(Ev.ofSome h)))
theorem QcH {m : Nat} (a0 : Int) {r : (List Int)} (h : Yl m a0 = some r) : Ev (fun n=>Ur n a0) r:=by
 rw [Yl] at h
 refine Ev.of_eq ?_ (fun n=>EN n a0)
 exact (Ev.ofBif h (fun h=>(WV _ _ _ _ _ h)) (fun h=>(Ev.ofNone h)))
theorem QaF : ∀ x ∈ V5,Qu Try.prog x:=Qm
theorem J3 : Qu Try.prog (Ji):=by
 refine Qq (c:=Ji) (by kernel_rfl) (by kernel_rfl : Try.prog.funcs[36]? = some Try.f36) (code:=Try.f36.body.getD .skip) (by kernel_rfl) (by kernel_rfl) (by kernel_rfl) (A:=GM) (I:=V4) (QaF) ?_
 rintro ⟨a0,u⟩ y hy
 exact let ⟨_,h⟩:=(YU hy).get; (QcH a0 h).get
def Qi (K0 : (List Int) → Option (List Int)) (x6 : Int) (x7 : (List Int)) : Nat → (List Int) → Int → Option (List Int)
 | 0,_,_=>none
 | m + 1,x2,x8 =>
   bif decide (x8 < 4) then
    bif inB x8 x2.length then
     bif inB x8 x2.length then
      bif inB x8 x7.length then
       bif inB (Int.tmod (IntKind.wrap .i64 (x8 + 1)) 4) x2.length then
        bif inB (Int.tmod (IntKind.wrap .i64 (x8 + 1)) 4) x2.length then
         bif inB x8 x2.length then
          bif inB x8 x2.length && true && true && true && true then
           Qi K0 x6 x7 m (x2.set (Int.toNat x8) (Int.tmod (IntKind.wrap .i64 ((IntKind.wrap .i64 ((IntKind.wrap .i64 ((IntKind.wrap .i64 ((rd x2 x8 (Ty.dflt I64)) * (rd x7 x8 (Ty.dflt I64)))) + x6)) + 1)) + (rd x2 (Int.tmod (IntKind.wrap .i64 (x8 + 1)) 4) (Ty.dflt I64)))) 2147483579)) (IntKind.wrap .i64 (x8 + 1))
          else none
         else none
        else none
       else none
      else none
     else none
    else none
   else
    K0 x2
def Qf (K2 : (List Int) → Option (List Int)) (x5 : Int) (x6 : (List Int)) : Nat → (List Int) → Int → Option (List Int)
 | 0,_,_=>none
 | m + 1,x1,x7 =>
   bif decide (x7 < 4) then
    bif inB x7 x1.length then
     bif inB x7 x1.length then
      bif inB x7 x6.length then
       bif inB (Int.tmod (IntKind.wrap .i64 (x7 + 1)) 4) x1.length then
        bif inB (Int.tmod (IntKind.wrap .i64 (x7 + 1)) 4) x1.length then
         bif inB x7 x1.length then
          bif inB x7 x1.length && true && true && true && true then
           Qf K2 x5 x6 m (x1.set (Int.toNat x7) (Int.tmod (IntKind.wrap .i64 ((IntKind.wrap .i64 ((IntKind.wrap .i64 ((IntKind.wrap .i64 ((rd x1 x7 (Ty.dflt I64)) * (rd x6 x7 (Ty.dflt I64)))) + x5)) + 1)) + (rd x1 (Int.tmod (IntKind.wrap .i64 (x7 + 1)) 4) (Ty.dflt I64)))) 2147483579)) (IntKind.wrap .i64 (x7 + 1))
          else none
         else none
        else none
       else none
      else none
     else none
    else none
   else
    K2 x1
def Qg (K4 : (List Int) → Int → Option (List Int)) (x2 : Int) (x4 : (List Int)) : Nat → (List Int) → Int → Option (List Int)
 | 0,_,_=>none
 | m + 1,x1,x5 =>
   bif decide (x5 < 4) then
    bif inB x5 x1.length then
     bif inB x5 x1.length then
      bif inB x5 x4.length then
       bif inB (Int.tmod (IntKind.wrap .i64 (x5 + 1)) 4) x1.length then
        bif inB (Int.tmod (IntKind.wrap .i64 (x5 + 1)) 4) x1.length then
         bif inB x5 x1.length then
          bif inB x5 x1.length && true && true && true && true then
           Qg K4 x2 x4 m (x1.set (Int.toNat x5) (Int.tmod (IntKind.wrap .i64 ((IntKind.wrap .i64 ((IntKind.wrap .i64 ((IntKind.wrap .i64 ((rd x1 x5 (Ty.dflt I64)) * (rd x4 x5 (Ty.dflt I64)))) + (0 : Int))) + 1)) + (rd x1 (Int.tmod (IntKind.wrap .i64 (x5 + 1)) 4) (Ty.dflt I64)))) 2147483579)) (IntKind.wrap .i64 (x5 + 1))
          else none
         else none
        else none
       else none
      else none
     else none
    else none
   else
    K4 x1 (IntKind.wrap .i64 (x2 + 1))
def Qk : List Int → (List Int) → Option (List Int)
 | [],x1 =>
   some x1
 | e :: rest,x1 =>
   Option.bind (QA (e)) fun (y2 : (List Int)) =>
   bif decide (((x1.length : Int) + (y2.length : Int)) * 1 ≤ QI) && decide ((x1.length : Int) + (y2.length : Int) ≤ QI) then
    Qk rest (x1 ++ y2)
   else none
def Qh : Nat → (List Int) → Int → Option (List Int)
 | 0,_,_=>none
 | m + 1,x1,x2 =>
   bif decide (x2 < 8) then
    Qg (fun s0 s1=>Qh m s0 s1) x2 ([1103515245,69069,1664525,22695477] : List Int) m x1 0
   else
    Uq x1 (Qk x1 [])
def Qj (m : Nat) : List Int → (List Int) → Option (List Int)
 | [],x1 =>
   Qh m x1 0
 | e :: rest,x1 =>
   Qf (fun s0=>Qj m rest s0) (IntKind.wrap .i64 (e)) ([1103515245,69069,1664525,22695477] : List Int) m x1 0
def Qd (m : Nat) (x1 : (List Int)) : List Int → (List Int) → Option (List Int)
 | [],x2 =>
   Option.bind (QA (x1.length : Int)) fun (y1 : (List Int)) =>
   Uq y1 (Qj m y1 x2)
 | e :: rest,x2 =>
   Qi (fun s0=>Qd m x1 rest s0) (IntKind.wrap .i64 (e)) ([1103515245,69069,1664525,22695477] : List Int) m x2 0
def Z6 (m : Nat) (a0 : (List Int)) : Option (List Int) :=
 Uq a0 (Qd m a0 a0 ([11,22,33,44] : List Int))
def Ql (a0 : (List Int)) : Option (List Int):=Wn fun m=>Z6 m a0
def Jt : Ctr:=⟨39,[(.list U8)],[(.list U8)],fun x=>Ql x.1⟩
def Zf : List (List Nat × Ann):=[([0,3],[.keep 0 0,.raw 0 3 I64,.keep 0 13,.keep 0 14,.keep 0 15]),([0,2,5003],[.same 1 0 0 3,.keep 0 0,.raw 0 3 I64,.keep 0 13,.keep 0 14,.keep 0 15,.keep 1 1,.own 1 4 I64,.keep 1 5]),([0,8],[.raw 0 3 I64,.keep 0 26,.keep 0 27,.keep 0 28]),([0,2,10003],[.same 1 0 0 3,.raw 0 3 I64,.keep 0 26,.keep 0 27,.keep 0 28,.keep 1 1,.own 1 4 I64,.keep 1 5]),([0,13],[.raw 0 3 I64,.keep 0 8]),([0,2,15001],[.same 1 0 0 3,.raw 0 3 I64,.keep 0 8,.keep 1 1,.own 1 4 I64,.keep 1 5]),([0,18],[.own 0 9 U8,.raw 0 43 I64,.keep 0 44,.keep 0 45])]
def Q2 : List (List Nat × Nat):=[([1000],1),([5003],47),([10003],47),([15001],47)]
def Q3 : List Ctr:=[Ji]
def HC (n : Nat) (a0 : (List Int)) : Option (List Int):=run Try.prog Zf Q2 (Qp Q3) Try.f39 (Try.f39.body.getD .skip) (QG [(.list U8)]) n (QM [(.list U8)] (a0,()))
abbrev Zx (n : Nat) (x1 : (List Int)) (x2 : (List Int)) (x3 : (List Int)) (x4 : Int) (x5 : Int) : Option (List Int):=lam Try.prog Zf Q2 (Qp Q3) Try.f39 (Try.f39.body.getD .skip) (QG [(.list U8)]) n [0,3] [.d (.list U8) x1,.own 0 I64 x2,.d (.list U8) x3,.d I64 x4,.d I64 x5]
abbrev ZP (n : Nat) (x1 : (List Int)) (x2 : (List Int)) (x3 : (List Int)) (x4 : Int) (x5 : Int) (x6 : Int) (x7 : (List Int)) (x8 : Int) : Option (List Int):=lam Try.prog Zf Q2 (Qp Q3) Try.f39 (Try.f39.body.getD .skip) (QG [(.list U8)]) n [0,2,5003] [.nils,.d (.list U8) x1,.own 0 I64 x2,.d (.list U8) x3,.d I64 x4,.d I64 x5,.d I64 x6,.own 0 I64 x7,.d I64 x8]
abbrev Zy (n : Nat) (x1 : (List Int)) (x2 : (List Int)) (x3 : Int) (x4 : Int) : Option (List Int):=lam Try.prog Zf Q2 (Qp Q3) Try.f39 (Try.f39.body.getD .skip) (QG [(.list U8)]) n [0,8] [.own 0 I64 x1,.d (.list U8) x2,.d I64 x3,.d I64 x4]
abbrev ZC (n : Nat) (x1 : (List Int)) (x2 : (List Int)) (x3 : Int) (x4 : Int) (x5 : Int) (x6 : (List Int)) (x7 : Int) : Option (List Int):=lam Try.prog Zf Q2 (Qp Q3) Try.f39 (Try.f39.body.getD .skip) (QG [(.list U8)]) n [0,2,10003] [.nils,.own 0 I64 x1,.d (.list U8) x2,.d I64 x3,.d I64 x4,.d I64 x5,.own 0 I64 x6,.d I64 x7]
abbrev ZV (n : Nat) (x1 : (List Int)) (x2 : Int) : Option (List Int):=lam Try.prog Zf Q2 (Qp Q3) Try.f39 (Try.f39.body.getD .skip) (QG [(.list U8)]) n [0,13] [.own 0 I64 x1,.d I64 x2]
abbrev ZD (n : Nat) (x1 : (List Int)) (x2 : Int) (x3 : Int) (x4 : (List Int)) (x5 : Int) : Option (List Int):=lam Try.prog Zf Q2 (Qp Q3) Try.f39 (Try.f39.body.getD .skip) (QG [(.list U8)]) n [0,2,15001] [.nils,.own 0 I64 x1,.d I64 x2,.d I64 x3,.own 0 I64 x4,.d I64 x5]
abbrev ZW (n : Nat) (x1 : (List Int)) (x2 : (List Int)) (x3 : Int) (x4 : Int) : Option (List Int):=lam Try.prog Zf Q2 (Qp Q3) Try.f39 (Try.f39.body.getD .skip) (QG [(.list U8)]) n [0,18] [.own 0 U8 x1,.own 0 I64 x2,.d I64 x3,.d I64 x4]
theorem WW (n : Nat) (a0 : (List Int)) : HC n a0 =
  Zx n a0 ([11,22,33,44] : List Int) a0 (a0.length : Int) 0:=by kernel_rfl
theorem Vb (n : Nat) (x1 : (List Int)) (x2 : (List Int)) (x3 : (List Int)) (x4 : Int) (x5 : Int) : Zx (n + 1) x1 x2 x3 x4 x5 =
  bif decide (x5 < x4) then
   bif inB x5 x3.length then
    ZP n x1 x2 x3 x4 x5 (IntKind.wrap .i64 (rd x3 x5 (Ty.dflt U8))) ([1103515245,69069,1664525,22695477] : List Int) 0
   else none
  else
   Option.bind (QA (x1.length : Int)) fun (y1 : (List Int)) =>
   Zy n x2 y1 (y1.length : Int) 0:=by kernel_rfl
theorem Gp (n : Nat) (x1 : (List Int)) (x2 : (List Int)) (x3 : (List Int)) (x4 : Int) (x5 : Int) (x6 : Int) (x7 : (List Int)) (x8 : Int) : ZP (n + 1) x1 x2 x3 x4 x5 x6 x7 x8 =
  bif decide (x8 < 4) then
   bif inB x8 x2.length then
    bif inB x8 x2.length then
     bif inB x8 x7.length then
      bif inB (Int.tmod (IntKind.wrap .i64 (x8 + 1)) 4) x2.length then
       bif inB (Int.tmod (IntKind.wrap .i64 (x8 + 1)) 4) x2.length then
        bif inB x8 x2.length then
         bif inB x8 x2.length && true && true && true && true then
          ZP n x1 (x2.set (Int.toNat x8) (Int.tmod (IntKind.wrap .i64 ((IntKind.wrap .i64 ((IntKind.wrap .i64 ((IntKind.wrap .i64 ((rd x2 x8 (Ty.dflt I64)) * (rd x7 x8 (Ty.dflt I64)))) + x6)) + 1)) + (rd x2 (Int.tmod (IntKind.wrap .i64 (x8 + 1)) 4) (Ty.dflt I64)))) 2147483579)) x3 x4 x5 x6 x7 (IntKind.wrap .i64 (x8 + 1))
         else none
        else none
       else none
      else none
     else none
    else none
   else none
  else
   Zx n x1 x2 x3 x4 (IntKind.wrap .i64 (x5 + 1)):=by kernel_rfl
theorem Vc (n : Nat) (x1 : (List Int)) (x2 : (List Int)) (x3 : Int) (x4 : Int) : Zy (n + 1) x1 x2 x3 x4 =
  bif decide (x4 < x3) then
   bif inB x4 x2.length then
    ZC n x1 x2 x3 x4 (IntKind.wrap .i64 (rd x2 x4 (Ty.dflt U8))) ([1103515245,69069,1664525,22695477] : List Int) 0
   else none
  else
   ZV n x1 0:=by kernel_rfl
theorem V6 (n : Nat) (x1 : (List Int)) (x2 : (List Int)) (x3 : Int) (x4 : Int) (x5 : Int) (x6 : (List Int)) (x7 : Int) : ZC (n + 1) x1 x2 x3 x4 x5 x6 x7 =
  bif decide (x7 < 4) then
   bif inB x7 x1.length then
    bif inB x7 x1.length then
     bif inB x7 x6.length then
      bif inB (Int.tmod (IntKind.wrap .i64 (x7 + 1)) 4) x1.length then
       bif inB (Int.tmod (IntKind.wrap .i64 (x7 + 1)) 4) x1.length then
        bif inB x7 x1.length then
         bif inB x7 x1.length && true && true && true && true then
          ZC n (x1.set (Int.toNat x7) (Int.tmod (IntKind.wrap .i64 ((IntKind.wrap .i64 ((IntKind.wrap .i64 ((IntKind.wrap .i64 ((rd x1 x7 (Ty.dflt I64)) * (rd x6 x7 (Ty.dflt I64)))) + x5)) + 1)) + (rd x1 (Int.tmod (IntKind.wrap .i64 (x7 + 1)) 4) (Ty.dflt I64)))) 2147483579)) x2 x3 x4 x5 x6 (IntKind.wrap .i64 (x7 + 1))
         else none
        else none
       else none
      else none
     else none
    else none
   else none
  else
   Zy n x1 x2 x3 (IntKind.wrap .i64 (x4 + 1)):=by kernel_rfl
theorem XO (n : Nat) (x1 : (List Int)) (x2 : Int) : ZV (n + 1) x1 x2 =
  bif decide (x2 < 8) then
   ZD n x1 x2 0 ([1103515245,69069,1664525,22695477] : List Int) 0
  else
   ZW n [] x1 (x1.length : Int) 0:=by kernel_rfl
theorem V7 (n : Nat) (x1 : (List Int)) (x2 : Int) (x3 : Int) (x4 : (List Int)) (x5 : Int) : ZD (n + 1) x1 x2 x3 x4 x5 =
  bif decide (x5 < 4) then
   bif inB x5 x1.length then
    bif inB x5 x1.length then
     bif inB x5 x4.length then
      bif inB (Int.tmod (IntKind.wrap .i64 (x5 + 1)) 4) x1.length then
       bif inB (Int.tmod (IntKind.wrap .i64 (x5 + 1)) 4) x1.length then
        bif inB x5 x1.length then
         bif inB x5 x1.length && true && true && true && true then
          ZD n (x1.set (Int.toNat x5) (Int.tmod (IntKind.wrap .i64 ((IntKind.wrap .i64 ((IntKind.wrap .i64 ((IntKind.wrap .i64 ((rd x1 x5 (Ty.dflt I64)) * (rd x4 x5 (Ty.dflt I64)))) + x3)) + 1)) + (rd x1 (Int.tmod (IntKind.wrap .i64 (x5 + 1)) 4) (Ty.dflt I64)))) 2147483579)) x2 x3 x4 (IntKind.wrap .i64 (x5 + 1))
         else none
        else none
       else none
      else none
     else none
    else none
   else none
  else
   ZV n x1 (IntKind.wrap .i64 (x2 + 1)):=by kernel_rfl
theorem YV (n : Nat) (x1 : (List Int)) (x2 : (List Int)) (x3 : Int) (x4 : Int) : ZW (n + 1) x1 x2 x3 x4 =
  bif decide (x4 < x3) then
   bif inB x4 x2.length then
    bif inB x4 x2.length then
     Option.bind (QA (rd x2 x4 (Ty.dflt I64))) fun (y2 : (List Int)) =>
     bif decide (((x1.length : Int) + (y2.length : Int)) * 1 ≤ QI) && decide ((x1.length : Int) + (y2.length : Int) ≤ QI) then
      ZW n (x1 ++ y2) x2 x3 (IntKind.wrap .i64 (x4 + 1))
     else none
    else none
   else none
  else
   some x1:=by kernel_rfl
theorem Xo {K0 : (List Int) → Option (List Int)} {x1 : (List Int)} {x4 : Int} {x5 : Int} {x6 : Int} {x7 : (List Int)} (hK0 : ∀ (z2 : (List Int)) (r : (List Int)),K0 z2 = some r → Ev (fun n=>Zx n x1 z2 x1 x4 (IntKind.wrap .i64 (x5 + 1))) r) : ∀ (m : Nat) (x2 : (List Int)) (x8 : Int) (r : (List Int)),Qi K0 x6 x7 m x2 x8 = some r → Ev (fun n=>ZP n x1 x2 x1 x4 x5 x6 x7 x8) r:=by
 intro m
 induction m with
 | zero=>intro x2 x8 r h; rw [Qi] at h; exact Ev.ofNone h
 | succ m ih2 =>
  intro x2 x8 r h
  rw [Qi] at h
  refine Ev.step ?_ (fun n=>Gp n x1 x2 x1 x4 x5 x6 x7 x8)
  exact (Ev.ofBif h (fun h=>(Ev.ofBif h (fun h=>(Ev.ofBif h (fun h=>(Ev.ofBif h (fun h=>(Ev.ofBif h (fun h=>(Ev.ofBif h (fun h=>(Ev.ofBif h (fun h=>(Ev.ofBif h (fun h=>(ih2 _ _ _ h)) (fun h=>(Ev.ofNone h)))) (fun h=>(Ev.ofNone h)))) (fun h=>(Ev.ofNone h)))) (fun h=>(Ev.ofNone h)))) (fun h=>(Ev.ofNone h)))) (fun h=>(Ev.ofNone h)))) (fun h=>(Ev.ofNone h)))) (fun h=>(hK0 _ _ h)))
theorem G5 {K2 : (List Int) → Option (List Int)} {x2 : (List Int)} {x3 : Int} {x4 : Int} {x5 : Int} {x6 : (List Int)} (hK2 : ∀ (z1 : (List Int)) (r : (List Int)),K2 z1 = some r → Ev (fun n=>Zy n z1 x2 x3 (IntKind.wrap .i64 (x4 + 1))) r) : ∀ (m : Nat) (x1 : (List Int)) (x7 : Int) (r : (List Int)),Qf K2 x5 x6 m x1 x7 = some r → Ev (fun n=>ZC n x1 x2 x3 x4 x5 x6 x7) r:=by
 intro m
 induction m with
 | zero=>intro x1 x7 r h; rw [Qf] at h; exact Ev.ofNone h
 | succ m ih2 =>
  intro x1 x7 r h
  rw [Qf] at h
  refine Ev.step ?_ (fun n=>V6 n x1 x2 x3 x4 x5 x6 x7)
  exact (Ev.ofBif h (fun h=>(Ev.ofBif h (fun h=>(Ev.ofBif h (fun h=>(Ev.ofBif h (fun h=>(Ev.ofBif h (fun h=>(Ev.ofBif h (fun h=>(Ev.ofBif h (fun h=>(Ev.ofBif h (fun h=>(ih2 _ _ _ h)) (fun h=>(Ev.ofNone h)))) (fun h=>(Ev.ofNone h)))) (fun h=>(Ev.ofNone h)))) (fun h=>(Ev.ofNone h)))) (fun h=>(Ev.ofNone h)))) (fun h=>(Ev.ofNone h)))) (fun h=>(Ev.ofNone h)))) (fun h=>(hK2 _ _ h)))
theorem G6 {K4 : (List Int) → Int → Option (List Int)} {x2 : Int} {x4 : (List Int)} (hK4 : ∀ (z1 : (List Int)) (z2 : Int) (r : (List Int)),K4 z1 z2 = some r → Ev (fun n=>ZV n z1 z2) r) : ∀ (m : Nat) (x1 : (List Int)) (x5 : Int) (r : (List Int)),Qg K4 x2 x4 m x1 x5 = some r → Ev (fun n=>ZD n x1 x2 (0 : Int) x4 x5) r:=by
 intro m
 induction m with
 | zero=>intro x1 x5 r h; rw [Qg] at h; exact Ev.ofNone h
 | succ m ih2 =>
  intro x1 x5 r h
  rw [Qg] at h
  refine Ev.step ?_ (fun n=>V7 n x1 x2 (0 : Int) x4 x5)
  exact (Ev.ofBif h (fun h=>(Ev.ofBif h (fun h=>(Ev.ofBif h (fun h=>(Ev.ofBif h (fun h=>(Ev.ofBif h (fun h=>(Ev.ofBif h (fun h=>(Ev.ofBif h (fun h=>(Ev.ofBif h (fun h=>(ih2 _ _ _ h)) (fun h=>(Ev.ofNone h)))) (fun h=>(Ev.ofNone h)))) (fun h=>(Ev.ofNone h)))) (fun h=>(Ev.ofNone h)))) (fun h=>(Ev.ofNone h)))) (fun h=>(Ev.ofNone h)))) (fun h=>(Ev.ofNone h)))) (fun h=>(hK4 _ _ _ h)))
theorem Us {x2 : (List Int)} (hl : x2.length ≤ maxLen) : ∀ (rest : List Int) (k : Nat) (x1 : (List Int)) (r : (List Int)),rest = x2.drop k → Qk rest x1 = some r → Ev (fun n=>ZW n x1 x2 (x2.length : Int) (k : Int)) r:=by
 intro rest
 induction rest with
 | nil =>
  intro k x1 r hr h
  have hk:=J0 hr
  rw [Qk] at h
  refine Ev.step ?_ (fun n=>YV n x1 x2 (x2.length : Int) (k : Int))
  rw [show decide ((k : Int) < (x2.length : Int)) = false from decide_eq_false (by omega)]
  exact Ev.neg rfl (Ev.ofSome h)
 | cons e rest ih =>
  intro k x1 r hr h
  obtain ⟨hk,hx,hr2⟩:=Jr (d:=(Ty.dflt I64)) hr
  have hw:=Jq hl hk
  have ih2 : ∀ (z1 : (List Int)) (r : (List Int)),Qk rest z1 = some r → Ev (fun n=>ZW n z1 x2 (x2.length : Int) (IntKind.wrap .i64 ((k : Int) + 1))) r:=by
   intro z1 r h; rw [hw]; exact ih (k + 1) z1 r hr2 h
  rw [Qk] at h
  refine Ev.step ?_ (fun n=>YV n x1 x2 (x2.length : Int) (k : Int))
  rw [show decide ((k : Int) < (x2.length : Int)) = true from decide_eq_true (by omega),J1 hk,hx]
  exact Ev.pos rfl (Ev.pos rfl (Ev.pos rfl (Ev.ofBind h fun y2 h=>(Ev.ofBif h (fun h=>(ih2 _ _ h)) (fun h=>(Ev.ofNone h))))))
theorem Ut : ∀ (m : Nat) (x1 : (List Int)) (x2 : Int) (r : (List Int)),Qh m x1 x2 = some r → Ev (fun n=>ZV n x1 x2) r:=by
 intro m
 induction m with
 | zero=>intro x1 x2 r h; rw [Qh] at h; exact Ev.ofNone h
 | succ m ih2 =>
  intro x1 x2 r h
  rw [Qh] at h
  refine Ev.step ?_ (fun n=>XO n x1 x2)
  exact (Ev.ofBif h (fun h=>(G6 ih2 _ _ _ _ h)) (fun h=>(Ev.ofLen h fun hl h=>Us hl _ (0 : Nat) _ _ rfl h)))
theorem U6 {m : Nat} {x2 : (List Int)} (hl : x2.length ≤ maxLen) : ∀ (rest : List Int) (k : Nat) (x1 : (List Int)) (r : (List Int)),rest = x2.drop k → Qj m rest x1 = some r → Ev (fun n=>Zy n x1 x2 (x2.length : Int) (k : Int)) r:=by
 intro rest
 induction rest with
 | nil =>
  intro k x1 r hr h
  have hk:=J0 hr
  rw [Qj] at h
  refine Ev.step ?_ (fun n=>Vc n x1 x2 (x2.length : Int) (k : Int))
  rw [show decide ((k : Int) < (x2.length : Int)) = false from decide_eq_false (by omega)]
  exact Ev.neg rfl (Ut _ _ _ _ h)
 | cons e rest ih =>
  intro k x1 r hr h
  obtain ⟨hk,hx,hr2⟩:=Jr (d:=(Ty.dflt U8)) hr
  have hw:=Jq hl hk
  have ih2 : ∀ (z1 : (List Int)) (r : (List Int)),Qj m rest z1 = some r → Ev (fun n=>Zy n z1 x2 (x2.length : Int) (IntKind.wrap .i64 ((k : Int) + 1))) r:=by
   intro z1 r h; rw [hw]; exact ih (k + 1) z1 r hr2 h
  rw [Qj] at h
  refine Ev.step ?_ (fun n=>Vc n x1 x2 (x2.length : Int) (k : Int))
  rw [show decide ((k : Int) < (x2.length : Int)) = true from decide_eq_true (by omega),J1 hk,hx]
  exact Ev.pos rfl (Ev.pos rfl (G5 ih2 _ _ _ _ h))
theorem U7 {m : Nat} {x1 : (List Int)} (hl : x1.length ≤ maxLen) : ∀ (rest : List Int) (k : Nat) (x2 : (List Int)) (r : (List Int)),rest = x1.drop k → Qd m x1 rest x2 = some r → Ev (fun n=>Zx n x1 x2 x1 (x1.length : Int) (k : Int)) r:=by
 intro rest
 induction rest with
 | nil =>
  intro k x2 r hr h
  have hk:=J0 hr
  rw [Qd] at h
  refine Ev.step ?_ (fun n=>Vb n x1 x2 x1 (x1.length : Int) (k : Int))
  rw [show decide ((k : Int) < (x1.length : Int)) = false from decide_eq_false (by omega)]
  exact Ev.neg rfl (Ev.ofBind h fun y1 h=>(Ev.ofLen h fun hl h=>U6 hl _ (0 : Nat) _ _ rfl h))
 | cons e rest ih =>
  intro k x2 r hr h
  obtain ⟨hk,hx,hr2⟩:=Jr (d:=(Ty.dflt U8)) hr
  have hw:=Jq hl hk
  have ih2 : ∀ (z2 : (List Int)) (r : (List Int)),Qd m x1 rest z2 = some r → Ev (fun n=>Zx n x1 z2 x1 (x1.length : Int) (IntKind.wrap .i64 ((k : Int) + 1))) r:=by
   intro z2 r h; rw [hw]; exact ih (k + 1) z2 r hr2 h
  rw [Qd] at h
  refine Ev.step ?_ (fun n=>Vb n x1 x2 x1 (x1.length : Int) (k : Int))
  rw [show decide ((k : Int) < (x1.length : Int)) = true from decide_eq_true (by omega),J1 hk,hx]
  exact Ev.pos rfl (Ev.pos rfl (Xo ih2 _ _ _ _ h))
theorem Qbj {m : Nat} (a0 : (List Int)) {r : (List Int)} (h : Z6 m a0 = some r) : Ev (fun n=>HC n a0) r:=by
 rw [Z6] at h
 refine Ev.of_eq ?_ (fun n=>WW n a0)
 exact (Ev.ofLen h fun hl h=>U7 hl _ (0 : Nat) _ _ rfl h)
theorem EO : ∀ x ∈ Q3,Qu Try.prog x:=(Qc J3 Qm)
theorem Ys : Qu Try.prog (Jt):=by
 refine Qq (c:=Jt) (by kernel_rfl) (by kernel_rfl : Try.prog.funcs[39]? = some Try.f39) (code:=Try.f39.body.getD .skip) (by kernel_rfl) (by kernel_rfl) (by kernel_rfl) (A:=Zf) (I:=Q2) (EO) ?_
 rintro ⟨a0,u⟩ y hy
 exact let ⟨_,h⟩:=(YU hy).get; (Qbj a0 h).get
def XP : Ctr:=Hx 39 [(.list U8)] U8 fun x=>Ql x.1
def Q4 : List (List Nat × Ann):=[([0,3],[.keep 0 0,.raw 0 3 I64,.keep 0 13,.keep 0 14,.keep 0 15]),([0,2,5003],[.same 1 0 0 3,.keep 0 0,.raw 0 3 I64,.keep 0 13,.keep 0 14,.keep 0 15,.keep 1 1,.own 1 4 I64,.keep 1 5]),([0,8],[.raw 0 3 I64,.keep 0 26,.keep 0 27,.keep 0 28]),([0,2,10003],[.same 1 0 0 3,.raw 0 3 I64,.keep 0 26,.keep 0 27,.keep 0 28,.keep 1 1,.own 1 4 I64,.keep 1 5]),([0,13],[.raw 0 3 I64,.keep 0 8]),([0,2,15001],[.same 1 0 0 3,.raw 0 3 I64,.keep 0 8,.keep 1 1,.own 1 4 I64,.keep 1 5]),([0,18],[.own 0 9 U8,.raw 0 43 I64,.keep 0 44,.keep 0 45])]
def QZ : List (List Nat × Nat):=[([1000],1),([5003],47),([10003],47),([15001],47)]
def Q0 : List Ctr:=[Ji]
def XQ (n : Nat) (a0 : (List Int)) : Option (List Int):=Qbe Try.prog noG Q4 QZ (Qp Q0) Try.f39 (Try.f39.body.getD .skip) (Y5 Try.prog Try.f39 U8) n (QM [(.list U8)] (a0,()))
abbrev Zj (n : Nat) (x1 : (List Int)) (x2 : (List Int)) (x3 : (List Int)) (x4 : Int) (x5 : Int) : Option (List Int):=Gy Try.prog noG Q4 QZ (Qp Q0) Try.f39 (Try.f39.body.getD .skip) (Y5 Try.prog Try.f39 U8) n [0,3] [.d (.list U8) x1,.own 0 I64 x2,.d (.list U8) x3,.d I64 x4,.d I64 x5]
abbrev ZE (n : Nat) (x1 : (List Int)) (x2 : (List Int)) (x3 : (List Int)) (x4 : Int) (x5 : Int) (x6 : Int) (x7 : (List Int)) (x8 : Int) : Option (List Int):=Gy Try.prog noG Q4 QZ (Qp Q0) Try.f39 (Try.f39.body.getD .skip) (Y5 Try.prog Try.f39 U8) n [0,2,5003] [.nils,.d (.list U8) x1,.own 0 I64 x2,.d (.list U8) x3,.d I64 x4,.d I64 x5,.d I64 x6,.own 0 I64 x7,.d I64 x8]
abbrev Zk (n : Nat) (x1 : (List Int)) (x2 : (List Int)) (x3 : Int) (x4 : Int) : Option (List Int):=Gy Try.prog noG Q4 QZ (Qp Q0) Try.f39 (Try.f39.body.getD .skip) (Y5 Try.prog Try.f39 U8) n [0,8] [.own 0 I64 x1,.d (.list U8) x2,.d I64 x3,.d I64 x4]
abbrev Zp (n : Nat) (x1 : (List Int)) (x2 : (List Int)) (x3 : Int) (x4 : Int) (x5 : Int) (x6 : (List Int)) (x7 : Int) : Option (List Int):=Gy Try.prog noG Q4 QZ (Qp Q0) Try.f39 (Try.f39.body.getD .skip) (Y5 Try.prog Try.f39 U8) n [0,2,10003] [.nils,.own 0 I64 x1,.d (.list U8) x2,.d I64 x3,.d I64 x4,.d I64 x5,.own 0 I64 x6,.d I64 x7]
abbrev ZH (n : Nat) (x1 : (List Int)) (x2 : Int) : Option (List Int):=Gy Try.prog noG Q4 QZ (Qp Q0) Try.f39 (Try.f39.body.getD .skip) (Y5 Try.prog Try.f39 U8) n [0,13] [.own 0 I64 x1,.d I64 x2]
abbrev Zq (n : Nat) (x1 : (List Int)) (x2 : Int) (x3 : Int) (x4 : (List Int)) (x5 : Int) : Option (List Int):=Gy Try.prog noG Q4 QZ (Qp Q0) Try.f39 (Try.f39.body.getD .skip) (Y5 Try.prog Try.f39 U8) n [0,2,15001] [.nils,.own 0 I64 x1,.d I64 x2,.d I64 x3,.own 0 I64 x4,.d I64 x5]
abbrev ZI (n : Nat) (x1 : (List Int)) (x2 : (List Int)) (x3 : Int) (x4 : Int) : Option (List Int):=Gy Try.prog noG Q4 QZ (Qp Q0) Try.f39 (Try.f39.body.getD .skip) (Y5 Try.prog Try.f39 U8) n [0,18] [.own 0 U8 x1,.own 0 I64 x2,.d I64 x3,.d I64 x4]
theorem U9 (n : Nat) (a0 : (List Int)) : XQ n a0 =
  Zj n a0 ([11,22,33,44] : List Int) a0 (a0.length : Int) 0:=by kernel_rfl
theorem YW (n : Nat) (x1 : (List Int)) (x2 : (List Int)) (x3 : (List Int)) (x4 : Int) (x5 : Int) : Zj (n + 1) x1 x2 x3 x4 x5 =
  bif decide (x5 < x4) then
   bif inB x5 x3.length then
    ZE n x1 x2 x3 x4 x5 (IntKind.wrap .i64 (rd x3 x5 (Ty.dflt U8))) ([1103515245,69069,1664525,22695477] : List Int) 0
   else none
  else
   Option.bind (QA (x1.length : Int)) fun (y1 : (List Int)) =>
   Zk n x2 y1 (y1.length : Int) 0:=by kernel_rfl
theorem V8 (n : Nat) (x1 : (List Int)) (x2 : (List Int)) (x3 : (List Int)) (x4 : Int) (x5 : Int) (x6 : Int) (x7 : (List Int)) (x8 : Int) : ZE (n + 1) x1 x2 x3 x4 x5 x6 x7 x8 =
  bif decide (x8 < 4) then
   bif inB x8 x2.length then
    bif inB x8 x2.length then
     bif inB x8 x7.length then
      bif inB (Int.tmod (IntKind.wrap .i64 (x8 + 1)) 4) x2.length then
       bif inB (Int.tmod (IntKind.wrap .i64 (x8 + 1)) 4) x2.length then
        bif inB x8 x2.length then
         bif inB x8 x2.length && true && true && true && true then
          ZE n x1 (x2.set (Int.toNat x8) (Int.tmod (IntKind.wrap .i64 ((IntKind.wrap .i64 ((IntKind.wrap .i64 ((IntKind.wrap .i64 ((rd x2 x8 (Ty.dflt I64)) * (rd x7 x8 (Ty.dflt I64)))) + x6)) + 1)) + (rd x2 (Int.tmod (IntKind.wrap .i64 (x8 + 1)) 4) (Ty.dflt I64)))) 2147483579)) x3 x4 x5 x6 x7 (IntKind.wrap .i64 (x8 + 1))
         else none
        else none
       else none
      else none
     else none
    else none
   else none
  else
   Zj n x1 x2 x3 x4 (IntKind.wrap .i64 (x5 + 1)):=by kernel_rfl
theorem YX (n : Nat) (x1 : (List Int)) (x2 : (List Int)) (x3 : Int) (x4 : Int) : Zk (n + 1) x1 x2 x3 x4 =
  bif decide (x4 < x3) then
   bif inB x4 x2.length then
    Zp n x1 x2 x3 x4 (IntKind.wrap .i64 (rd x2 x4 (Ty.dflt U8))) ([1103515245,69069,1664525,22695477] : List Int) 0
   else none
  else
   ZH n x1 0:=by kernel_rfl
theorem VS (n : Nat) (x1 : (List Int)) (x2 : (List Int)) (x3 : Int) (x4 : Int) (x5 : Int) (x6 : (List Int)) (x7 : Int) : Zp (n + 1) x1 x2 x3 x4 x5 x6 x7 =
  bif decide (x7 < 4) then
   bif inB x7 x1.length then
    bif inB x7 x1.length then
     bif inB x7 x6.length then
      bif inB (Int.tmod (IntKind.wrap .i64 (x7 + 1)) 4) x1.length then
       bif inB (Int.tmod (IntKind.wrap .i64 (x7 + 1)) 4) x1.length then
        bif inB x7 x1.length then
         bif inB x7 x1.length && true && true && true && true then
          Zp n (x1.set (Int.toNat x7) (Int.tmod (IntKind.wrap .i64 ((IntKind.wrap .i64 ((IntKind.wrap .i64 ((IntKind.wrap .i64 ((rd x1 x7 (Ty.dflt I64)) * (rd x6 x7 (Ty.dflt I64)))) + x5)) + 1)) + (rd x1 (Int.tmod (IntKind.wrap .i64 (x7 + 1)) 4) (Ty.dflt I64)))) 2147483579)) x2 x3 x4 x5 x6 (IntKind.wrap .i64 (x7 + 1))
         else none
        else none
       else none
      else none
     else none
    else none
   else none
  else
   Zk n x1 x2 x3 (IntKind.wrap .i64 (x4 + 1)):=by kernel_rfl
theorem Xp (n : Nat) (x1 : (List Int)) (x2 : Int) : ZH (n + 1) x1 x2 =
  bif decide (x2 < 8) then
   Zq n x1 x2 0 ([1103515245,69069,1664525,22695477] : List Int) 0
  else
   ZI n [] x1 (x1.length : Int) 0:=by kernel_rfl
theorem VT (n : Nat) (x1 : (List Int)) (x2 : Int) (x3 : Int) (x4 : (List Int)) (x5 : Int) : Zq (n + 1) x1 x2 x3 x4 x5 =
  bif decide (x5 < 4) then
   bif inB x5 x1.length then
    bif inB x5 x1.length then
     bif inB x5 x4.length then
      bif inB (Int.tmod (IntKind.wrap .i64 (x5 + 1)) 4) x1.length then
       bif inB (Int.tmod (IntKind.wrap .i64 (x5 + 1)) 4) x1.length then
        bif inB x5 x1.length then
         bif inB x5 x1.length && true && true && true && true then
          Zq n (x1.set (Int.toNat x5) (Int.tmod (IntKind.wrap .i64 ((IntKind.wrap .i64 ((IntKind.wrap .i64 ((IntKind.wrap .i64 ((rd x1 x5 (Ty.dflt I64)) * (rd x4 x5 (Ty.dflt I64)))) + x3)) + 1)) + (rd x1 (Int.tmod (IntKind.wrap .i64 (x5 + 1)) 4) (Ty.dflt I64)))) 2147483579)) x2 x3 x4 (IntKind.wrap .i64 (x5 + 1))
         else none
        else none
       else none
      else none
     else none
    else none
   else none
  else
   ZH n x1 (IntKind.wrap .i64 (x2 + 1)):=by kernel_rfl
theorem Yz (n : Nat) (x1 : (List Int)) (x2 : (List Int)) (x3 : Int) (x4 : Int) : ZI (n + 1) x1 x2 x3 x4 =
  bif decide (x4 < x3) then
   bif inB x4 x2.length then
    bif inB x4 x2.length then
     Option.bind (QA (rd x2 x4 (Ty.dflt I64))) fun (y2 : (List Int)) =>
     bif decide (((x1.length : Int) + (y2.length : Int)) * 1 ≤ QI) && decide ((x1.length : Int) + (y2.length : Int) ≤ QI) then
      ZI n (x1 ++ y2) x2 x3 (IntKind.wrap .i64 (x4 + 1))
     else none
    else none
   else none
  else
   some x1:=by kernel_rfl
theorem G7 {K0 : (List Int) → Option (List Int)} {x1 : (List Int)} {x4 : Int} {x5 : Int} {x6 : Int} {x7 : (List Int)} (hK0 : ∀ (z2 : (List Int)) (r : (List Int)),K0 z2 = some r → Ev (fun n=>Zj n x1 z2 x1 x4 (IntKind.wrap .i64 (x5 + 1))) r) : ∀ (m : Nat) (x2 : (List Int)) (x8 : Int) (r : (List Int)),Qi K0 x6 x7 m x2 x8 = some r → Ev (fun n=>ZE n x1 x2 x1 x4 x5 x6 x7 x8) r:=by
 intro m
 induction m with
 | zero=>intro x2 x8 r h; rw [Qi] at h; exact Ev.ofNone h
 | succ m ih2 =>
  intro x2 x8 r h
  rw [Qi] at h
  refine Ev.step ?_ (fun n=>V8 n x1 x2 x1 x4 x5 x6 x7 x8)
  exact (Ev.ofBif h (fun h=>(Ev.ofBif h (fun h=>(Ev.ofBif h (fun h=>(Ev.ofBif h (fun h=>(Ev.ofBif h (fun h=>(Ev.ofBif h (fun h=>(Ev.ofBif h (fun h=>(Ev.ofBif h (fun h=>(ih2 _ _ _ h)) (fun h=>(Ev.ofNone h)))) (fun h=>(Ev.ofNone h)))) (fun h=>(Ev.ofNone h)))) (fun h=>(Ev.ofNone h)))) (fun h=>(Ev.ofNone h)))) (fun h=>(Ev.ofNone h)))) (fun h=>(Ev.ofNone h)))) (fun h=>(hK0 _ _ h)))
theorem GN {K2 : (List Int) → Option (List Int)} {x2 : (List Int)} {x3 : Int} {x4 : Int} {x5 : Int} {x6 : (List Int)} (hK2 : ∀ (z1 : (List Int)) (r : (List Int)),K2 z1 = some r → Ev (fun n=>Zk n z1 x2 x3 (IntKind.wrap .i64 (x4 + 1))) r) : ∀ (m : Nat) (x1 : (List Int)) (x7 : Int) (r : (List Int)),Qf K2 x5 x6 m x1 x7 = some r → Ev (fun n=>Zp n x1 x2 x3 x4 x5 x6 x7) r:=by
 intro m
 induction m with
 | zero=>intro x1 x7 r h; rw [Qf] at h; exact Ev.ofNone h
 | succ m ih2 =>
  intro x1 x7 r h
  rw [Qf] at h
  refine Ev.step ?_ (fun n=>VS n x1 x2 x3 x4 x5 x6 x7)
  exact (Ev.ofBif h (fun h=>(Ev.ofBif h (fun h=>(Ev.ofBif h (fun h=>(Ev.ofBif h (fun h=>(Ev.ofBif h (fun h=>(Ev.ofBif h (fun h=>(Ev.ofBif h (fun h=>(Ev.ofBif h (fun h=>(ih2 _ _ _ h)) (fun h=>(Ev.ofNone h)))) (fun h=>(Ev.ofNone h)))) (fun h=>(Ev.ofNone h)))) (fun h=>(Ev.ofNone h)))) (fun h=>(Ev.ofNone h)))) (fun h=>(Ev.ofNone h)))) (fun h=>(Ev.ofNone h)))) (fun h=>(hK2 _ _ h)))
theorem GO {K4 : (List Int) → Int → Option (List Int)} {x2 : Int} {x4 : (List Int)} (hK4 : ∀ (z1 : (List Int)) (z2 : Int) (r : (List Int)),K4 z1 z2 = some r → Ev (fun n=>ZH n z1 z2) r) : ∀ (m : Nat) (x1 : (List Int)) (x5 : Int) (r : (List Int)),Qg K4 x2 x4 m x1 x5 = some r → Ev (fun n=>Zq n x1 x2 (0 : Int) x4 x5) r:=by
 intro m
 induction m with
 | zero=>intro x1 x5 r h; rw [Qg] at h; exact Ev.ofNone h
 | succ m ih2 =>
  intro x1 x5 r h
  rw [Qg] at h
  refine Ev.step ?_ (fun n=>VT n x1 x2 (0 : Int) x4 x5)
  exact (Ev.ofBif h (fun h=>(Ev.ofBif h (fun h=>(Ev.ofBif h (fun h=>(Ev.ofBif h (fun h=>(Ev.ofBif h (fun h=>(Ev.ofBif h (fun h=>(Ev.ofBif h (fun h=>(Ev.ofBif h (fun h=>(ih2 _ _ _ h)) (fun h=>(Ev.ofNone h)))) (fun h=>(Ev.ofNone h)))) (fun h=>(Ev.ofNone h)))) (fun h=>(Ev.ofNone h)))) (fun h=>(Ev.ofNone h)))) (fun h=>(Ev.ofNone h)))) (fun h=>(Ev.ofNone h)))) (fun h=>(hK4 _ _ _ h)))
theorem HT {x2 : (List Int)} (hl : x2.length ≤ maxLen) : ∀ (rest : List Int) (k : Nat) (x1 : (List Int)) (r : (List Int)),rest = x2.drop k → Qk rest x1 = some r → Ev (fun n=>ZI n x1 x2 (x2.length : Int) (k : Int)) r:=by
 intro rest
 induction rest with
 | nil =>
  intro k x1 r hr h
  have hk:=J0 hr
  rw [Qk] at h
  refine Ev.step ?_ (fun n=>Yz n x1 x2 (x2.length : Int) (k : Int))
  rw [show decide ((k : Int) < (x2.length : Int)) = false from decide_eq_false (by omega)]
  exact Ev.neg rfl (Ev.ofSome h)
 | cons e rest ih =>
  intro k x1 r hr h
  obtain ⟨hk,hx,hr2⟩:=Jr (d:=(Ty.dflt I64)) hr
  have hw:=Jq hl hk
  have ih2 : ∀ (z1 : (List Int)) (r : (List Int)),Qk rest z1 = some r → Ev (fun n=>ZI n z1 x2 (x2.length : Int) (IntKind.wrap .i64 ((k : Int) + 1))) r:=by
   intro z1 r h; rw [hw]; exact ih (k + 1) z1 r hr2 h
  rw [Qk] at h
  refine Ev.step ?_ (fun n=>Yz n x1 x2 (x2.length : Int) (k : Int))
  rw [show decide ((k : Int) < (x2.length : Int)) = true from decide_eq_true (by omega),J1 hk,hx]
  exact Ev.pos rfl (Ev.pos rfl (Ev.pos rfl (Ev.ofBind h fun y2 h=>(Ev.ofBif h (fun h=>(ih2 _ _ h)) (fun h=>(Ev.ofNone h))))))
theorem HU : ∀ (m : Nat) (x1 : (List Int)) (x2 : Int) (r : (List Int)),Qh m x1 x2 = some r → Ev (fun n=>ZH n x1 x2) r:=by
 intro m
 induction m with
 | zero=>intro x1 x2 r h; rw [Qh] at h; exact Ev.ofNone h
 | succ m ih2 =>
  intro x1 x2 r h
  rw [Qh] at h
  refine Ev.step ?_ (fun n=>Xp n x1 x2)
  exact (Ev.ofBif h (fun h=>(GO ih2 _ _ _ _ h)) (fun h=>(Ev.ofLen h fun hl h=>HT hl _ (0 : Nat) _ _ rfl h)))
theorem Uu {m : Nat} {x2 : (List Int)} (hl : x2.length ≤ maxLen) : ∀ (rest : List Int) (k : Nat) (x1 : (List Int)) (r : (List Int)),rest = x2.drop k → Qj m rest x1 = some r → Ev (fun n=>Zk n x1 x2 (x2.length : Int) (k : Int)) r:=by
 intro rest
 induction rest with
 | nil =>
  intro k x1 r hr h
  have hk:=J0 hr
  rw [Qj] at h
  refine Ev.step ?_ (fun n=>YX n x1 x2 (x2.length : Int) (k : Int))
  rw [show decide ((k : Int) < (x2.length : Int)) = false from decide_eq_false (by omega)]
  exact Ev.neg rfl (HU _ _ _ _ h)
 | cons e rest ih =>
  intro k x1 r hr h
  obtain ⟨hk,hx,hr2⟩:=Jr (d:=(Ty.dflt U8)) hr
  have hw:=Jq hl hk
  have ih2 : ∀ (z1 : (List Int)) (r : (List Int)),Qj m rest z1 = some r → Ev (fun n=>Zk n z1 x2 (x2.length : Int) (IntKind.wrap .i64 ((k : Int) + 1))) r:=by
   intro z1 r h; rw [hw]; exact ih (k + 1) z1 r hr2 h
  rw [Qj] at h
  refine Ev.step ?_ (fun n=>YX n x1 x2 (x2.length : Int) (k : Int))
  rw [show decide ((k : Int) < (x2.length : Int)) = true from decide_eq_true (by omega),J1 hk,hx]
  exact Ev.pos rfl (Ev.pos rfl (GN ih2 _ _ _ _ h))
theorem Uv {m : Nat} {x1 : (List Int)} (hl : x1.length ≤ maxLen) : ∀ (rest : List Int) (k : Nat) (x2 : (List Int)) (r : (List Int)),rest = x1.drop k → Qd m x1 rest x2 = some r → Ev (fun n=>Zj n x1 x2 x1 (x1.length : Int) (k : Int)) r:=by
 intro rest
 induction rest with
 | nil =>
  intro k x2 r hr h
  have hk:=J0 hr
  rw [Qd] at h
  refine Ev.step ?_ (fun n=>YW n x1 x2 x1 (x1.length : Int) (k : Int))
  rw [show decide ((k : Int) < (x1.length : Int)) = false from decide_eq_false (by omega)]
  exact Ev.neg rfl (Ev.ofBind h fun y1 h=>(Ev.ofLen h fun hl h=>Uu hl _ (0 : Nat) _ _ rfl h))
 | cons e rest ih =>
  intro k x2 r hr h
  obtain ⟨hk,hx,hr2⟩:=Jr (d:=(Ty.dflt U8)) hr
  have hw:=Jq hl hk
  have ih2 : ∀ (z2 : (List Int)) (r : (List Int)),Qd m x1 rest z2 = some r → Ev (fun n=>Zj n x1 z2 x1 (x1.length : Int) (IntKind.wrap .i64 ((k : Int) + 1))) r:=by
   intro z2 r h; rw [hw]; exact ih (k + 1) z2 r hr2 h
  rw [Qd] at h
  refine Ev.step ?_ (fun n=>YW n x1 x2 x1 (x1.length : Int) (k : Int))
  rw [show decide ((k : Int) < (x1.length : Int)) = true from decide_eq_true (by omega),J1 hk,hx]
  exact Ev.pos rfl (Ev.pos rfl (G7 ih2 _ _ _ _ h))
theorem QaG {m : Nat} (a0 : (List Int)) {r : (List Int)} (h : Z6 m a0 = some r) : Ev (fun n=>XQ n a0) r:=by
 rw [Z6] at h
 refine Ev.of_eq ?_ (fun n=>U9 n a0)
 exact (Ev.ofLen h fun hl h=>Uv hl _ (0 : Nat) _ _ rfl h)
theorem WX : ∀ x ∈ Q0,Qu Try.prog x:=(Qc J3 Qm)
theorem EP : Qu Try.prog (XP):=by
 refine WR (by kernel_rfl) (by kernel_rfl : Try.prog.funcs[39]? = some Try.f39) (code:=Try.f39.body.getD .skip) (by kernel_rfl) (by kernel_rfl) (A:=Q4) (I:=QZ) (WX) ?_
 rintro ⟨a0,u⟩ y hy
 exact let ⟨_,h⟩:=(YU hy).get; (QaG a0 h).get
def Z7 (a0 : (List Int)) (a1 : (List Int)) (a2 : Int) : Option (List Int) :=
 Option.bind (Ql a0) fun (y1 : (List Int)) =>
 Option.bind (Ql a1) fun (y2 : (List Int)) =>
 bif decide (((y1.length : Int) + (y2.length : Int)) * 1 ≤ QI) && decide ((y1.length : Int) + (y2.length : Int) ≤ QI) then
  Option.bind (QA a2) fun (y3 : (List Int)) =>
  bif decide ((((y1 ++ y2).length : Int) + (y3.length : Int)) * 1 ≤ QI) && decide (((y1 ++ y2).length : Int) + (y3.length : Int) ≤ QI) then
   some ((y1 ++ y2) ++ y3)
  else none
 else none
def V9 : Ctr:=⟨27,[.str,(.list U8),I64],[(.list U8)],fun x=>Z7 x.1 x.2.1 x.2.2.1⟩
def HD : List (List Nat × Ann):=[]
def XR : List (List Nat × Nat):=[([1002],1000039)]
def XS : List Ctr:=[XP,Jt,Ji]
def HE (n : Nat) (a0 : (List Int)) (a1 : (List Int)) (a2 : Int) : Option (List Int):=run Try.prog HD XR (Qp XS) Try.f27 (Try.f27.body.getD .skip) (QG [(.list U8)]) n (QM [.str,(.list U8),I64] (a0,a1,a2,()))
theorem WY (n : Nat) (a0 : (List Int)) (a1 : (List Int)) (a2 : Int) : HE n a0 a1 a2 =
  Option.bind (Ql a0) fun (y1 : (List Int)) =>
  Option.bind (Ql a1) fun (y2 : (List Int)) =>
  bif decide (((y1.length : Int) + (y2.length : Int)) * 1 ≤ QI) && decide ((y1.length : Int) + (y2.length : Int) ≤ QI) then
   Option.bind (QA a2) fun (y3 : (List Int)) =>
   bif decide ((((y1 ++ y2).length : Int) + (y3.length : Int)) * 1 ≤ QI) && decide (((y1 ++ y2).length : Int) + (y3.length : Int) ≤ QI) then
    some ((y1 ++ y2) ++ y3)
   else none
  else none:=by kernel_rfl
theorem Qbk (a0 : (List Int)) (a1 : (List Int)) (a2 : Int) {r : (List Int)} (h : Z7 a0 a1 a2 = some r) : Ev (fun n=>HE n a0 a1 a2) r:=by
 rw [Z7] at h
 refine Ev.of_eq ?_ (fun n=>WY n a0 a1 a2)
 exact (Ev.ofBind h fun y1 h=>(Ev.ofBind h fun y2 h=>(Ev.ofBif h (fun h=>(Ev.ofBind h fun y3 h=>(Ev.ofBif h (fun h=>(Ev.ofSome h)) (fun h=>(Ev.ofNone h))))) (fun h=>(Ev.ofNone h)))))
theorem EQ : ∀ x ∈ XS,Qu Try.prog x:=(Qc EP (Qc Ys (Qc J3 Qm)))
theorem QaH : Qu Try.prog (V9):=by
 refine Qq (c:=V9) (by kernel_rfl) (by kernel_rfl : Try.prog.funcs[27]? = some Try.f27) (code:=Try.f27.body.getD .skip) (by kernel_rfl) (by kernel_rfl) (by kernel_rfl) (A:=HD) (I:=XR) (EQ) ?_
 rintro ⟨a0,a1,a2,u⟩ y hy
 exact (Qbk a0 a1 a2 hy).get
def Yt (a0 : (List Int)) (a1 : (List Int)) : Option (List Int) :=
 bif decide ((a0.length : Int) * 1 ≤ QI) && decide ((a0.length : Int) ≤ QI) then
  bif decide (((a0.length : Int) + (a1.length : Int)) * 1 ≤ QI) && decide ((a0.length : Int) + (a1.length : Int) ≤ QI) then
   Option.bind (Ql (a0 ++ a1)) fun (y1 : (List Int)) =>
   some y1
  else none
 else none
def Hh : Ctr:=⟨45,[(.list U8),(.list U8)],[(.list U8)],fun x=>Yt x.1 x.2.1⟩
def ER : List (List Nat × Ann):=[]
def Wo : List (List Nat × Nat):=[]
def Wp : List Ctr:=[Jt]
def ES (n : Nat) (a0 : (List Int)) (a1 : (List Int)) : Option (List Int):=run Try.prog ER Wo (Qp Wp) Try.f45 (Try.f45.body.getD .skip) (QG [(.list U8)]) n (QM [(.list U8),(.list U8)] (a0,a1,()))
theorem Qbl (n : Nat) (a0 : (List Int)) (a1 : (List Int)) : ES n a0 a1 =
  bif decide ((a0.length : Int) * 1 ≤ QI) && decide ((a0.length : Int) ≤ QI) then
   bif decide (((a0.length : Int) + (a1.length : Int)) * 1 ≤ QI) && decide ((a0.length : Int) + (a1.length : Int) ≤ QI) then
    Option.bind (Ql (a0 ++ a1)) fun (y1 : (List Int)) =>
    some y1
   else none
  else none:=by kernel_rfl
theorem Qeu (a0 : (List Int)) (a1 : (List Int)) {r : (List Int)} (h : Yt a0 a1 = some r) : Ev (fun n=>ES n a0 a1) r:=by
 rw [Yt] at h
 refine Ev.of_eq ?_ (fun n=>Qbl n a0 a1)
 exact (Ev.ofBif h (fun h=>(Ev.ofBif h (fun h=>(Ev.ofBind h fun y1 h=>(Ev.ofSome h))) (fun h=>(Ev.ofNone h)))) (fun h=>(Ev.ofNone h)))
theorem QcI : ∀ x ∈ Wp,Qu Try.prog x:=(Qc Ys Qm)
theorem Qdm : Qu Try.prog (Hh):=by
 refine Qq (c:=Hh) (by kernel_rfl) (by kernel_rfl : Try.prog.funcs[45]? = some Try.f45) (code:=Try.f45.body.getD .skip) (by kernel_rfl) (by kernel_rfl) (by kernel_rfl) (A:=ER) (I:=Wo) (QcI) ?_
 rintro ⟨a0,a1,u⟩ y hy
 exact (Qeu a0 a1 hy).get
def JV (a0 : (List Int)) (a1 : (List Int)) : Option (List Int) :=
 Option.bind (Ql a0) fun (y1 : (List Int)) =>
 Option.bind (Ql a1) fun (y2 : (List Int)) =>
 Option.bind (Yt y1 y2) fun (y3 : (List Int)) =>
 some y3
def Hi : Ctr:=⟨33,[(.list U8),(.list U8)],[(.list U8)],fun x=>JV x.1 x.2.1⟩
def ET : List (List Nat × Ann):=[]
def Wq : List (List Nat × Nat):=[]
def Wr : List Ctr:=[Jt,Hh]
def EU (n : Nat) (a0 : (List Int)) (a1 : (List Int)) : Option (List Int):=run Try.prog ET Wq (Qp Wr) Try.f33 (Try.f33.body.getD .skip) (QG [(.list U8)]) n (QM [(.list U8),(.list U8)] (a0,a1,()))
theorem Qbm (n : Nat) (a0 : (List Int)) (a1 : (List Int)) : EU n a0 a1 =
  Option.bind (Ql a0) fun (y1 : (List Int)) =>
  Option.bind (Ql a1) fun (y2 : (List Int)) =>
  Option.bind (Yt y1 y2) fun (y3 : (List Int)) =>
  some y3:=by kernel_rfl
theorem Qev (a0 : (List Int)) (a1 : (List Int)) {r : (List Int)} (h : JV a0 a1 = some r) : Ev (fun n=>EU n a0 a1) r:=by
 rw [JV] at h
 refine Ev.of_eq ?_ (fun n=>Qbm n a0 a1)
 exact (Ev.ofBind h fun y1 h=>(Ev.ofBind h fun y2 h=>(Ev.ofBind h fun y3 h=>(Ev.ofSome h))))
theorem QcJ : ∀ x ∈ Wr,Qu Try.prog x:=(Qc Ys (Qc Qdm Qm))
theorem Qdn : Qu Try.prog (Hi):=by
 refine Qq (c:=Hi) (by kernel_rfl) (by kernel_rfl : Try.prog.funcs[33]? = some Try.f33) (code:=Try.f33.body.getD .skip) (by kernel_rfl) (by kernel_rfl) (by kernel_rfl) (A:=ET) (I:=Wq) (QcJ) ?_
 rintro ⟨a0,a1,u⟩ y hy
 exact (Qev a0 a1 hy).get
def Zz (x1 : (List Int)) : Nat → Int → Int → Option Int
 | 0,_,_=>none
 | m + 1,x2,x3 =>
   bif decide ((0 : Int) ≤ x3) then
    bif inB x3 x1.length then
     Zz x1 m (IntKind.wrap .i64 ((IntKind.wrap .i64 (x2 * 256)) + (IntKind.wrap .i64 (rd x1 x3 (Ty.dflt U8))))) (IntKind.wrap .i64 (x3 - 1))
    else none
   else
    some x2
def J4 (m : Nat) (a0 : (List Int)) : Option Int :=
 Zz a0 m 0 3
def Ju (a0 : (List Int)) : Option Int:=Wn fun m=>J4 m a0
def YE : Ctr:=⟨35,[(.list U8)],[I64],fun x=>Ju x.1⟩
def Ga : List (List Nat × Ann):=[([0,3],[.keep 0 0,.keep 0 3,.keep 0 4])]
def VH : List (List Nat × Nat):=[]
def VI : List Ctr:=[]
def HF (n : Nat) (a0 : (List Int)) : Option Int:=run Try.prog Ga VH (Qp VI) Try.f35 (Try.f35.body.getD .skip) (QG [I64]) n (QM [(.list U8)] (a0,()))
abbrev JI (n : Nat) (x1 : (List Int)) (x2 : Int) (x3 : Int) : Option Int:=lam Try.prog Ga VH (Qp VI) Try.f35 (Try.f35.body.getD .skip) (QG [I64]) n [0,3] [.d (.list U8) x1,.d I64 x2,.d I64 x3]
theorem WZ (n : Nat) (a0 : (List Int)) : HF n a0 =
  JI n a0 0 3:=by kernel_rfl
theorem Hj (n : Nat) (x1 : (List Int)) (x2 : Int) (x3 : Int) : JI (n + 1) x1 x2 x3 =
  bif decide ((0 : Int) ≤ x3) then
   bif inB x3 x1.length then
    JI n x1 (IntKind.wrap .i64 ((IntKind.wrap .i64 (x2 * 256)) + (IntKind.wrap .i64 (rd x1 x3 (Ty.dflt U8))))) (IntKind.wrap .i64 (x3 - 1))
   else none
  else
   some x2:=by kernel_rfl
theorem Wa {x1 : (List Int)} : ∀ (m : Nat) (x2 : Int) (x3 : Int) (r : Int),Zz x1 m x2 x3 = some r → Ev (fun n=>JI n x1 x2 x3) r:=by
 intro m
 induction m with
 | zero=>intro x2 x3 r h; rw [Zz] at h; exact Ev.ofNone h
 | succ m ih2 =>
  intro x2 x3 r h
  rw [Zz] at h
  refine Ev.step ?_ (fun n=>Hj n x1 x2 x3)
  exact (Ev.ofBif h (fun h=>(Ev.ofBif h (fun h=>(ih2 _ _ _ h)) (fun h=>(Ev.ofNone h)))) (fun h=>(Ev.ofSome h)))
theorem Qbn {m : Nat} (a0 : (List Int)) {r : Int} (h : J4 m a0 = some r) : Ev (fun n=>HF n a0) r:=by
 rw [J4] at h
 refine Ev.of_eq ?_ (fun n=>WZ n a0)
 exact (Wa _ _ _ _ h)
theorem EV : ∀ x ∈ VI,Qu Try.prog x:=Qm
theorem XT : Qu Try.prog (YE):=by
 refine Qq (c:=YE) (by kernel_rfl) (by kernel_rfl : Try.prog.funcs[35]? = some Try.f35) (code:=Try.f35.body.getD .skip) (by kernel_rfl) (by kernel_rfl) (by kernel_rfl) (A:=Ga) (I:=VH) (EV) ?_
 rintro ⟨a0,u⟩ y hy
 exact let ⟨_,h⟩:=(YU hy).get; (Qbn a0 h).get
def QQ (x1 : Int) (x2 : Int) (x3 : Int) : Nat → Int → Int → Option Int
 | 0,_,_=>none
 | m + 1,x4,x5 =>
   bif decide ((0 : Int) ≤ x5) then
    bif decide (x3 = 0) then none else
    bif decide ((0 : Int) ≤ IntKind.wrap .u64 x5) then
     bif decide (IntKind.wrap .i64 (BitVec.toNat (BitVec.ofInt 64 (Int.fdiv x2 (2 ^ (min (Int.toNat (IntKind.wrap .u64 x5)) 64))) &&& BitVec.ofInt 64 1)) = 1) then
      bif decide (x3 = 0) then none else
      QQ x1 x2 x3 m (Int.tmod (IntKind.wrap .i64 ((Int.tmod (IntKind.wrap .i64 (x4 * x4)) x3) * x1)) x3) (IntKind.wrap .i64 (x5 - 1))
     else
      QQ x1 x2 x3 m (Int.tmod (IntKind.wrap .i64 (x4 * x4)) x3) (IntKind.wrap .i64 (x5 - 1))
    else none
   else
    some x4
def Ym (m : Nat) (a0 : Int) (a1 : Int) (a2 : Int) : Option Int :=
 QQ a0 a1 a2 m 1 40
def Yn (a0 : Int) (a1 : Int) (a2 : Int) : Option Int:=Wn fun m=>Ym m a0 a1 a2
def GP : Ctr:=⟨37,[I64,I64,I64],[I64],fun x=>Yn x.1 x.2.1 x.2.2.1⟩
def GQ : List (List Nat × Ann):=[([0,3],[.keep 0 0,.keep 0 1,.keep 0 2,.keep 0 7,.keep 0 8])]
def Gb : List (List Nat × Nat):=[]
def Gc : List Ctr:=[]
def Uw (n : Nat) (a0 : Int) (a1 : Int) (a2 : Int) : Option Int:=run Try.prog GQ Gb (Qp Gc) Try.f37 (Try.f37.body.getD .skip) (QG [I64]) n (QM [I64,I64,I64] (a0,a1,a2,()))
abbrev Jj (n : Nat) (x1 : Int) (x2 : Int) (x3 : Int) (x4 : Int) (x5 : Int) : Option Int:=lam Try.prog GQ Gb (Qp Gc) Try.f37 (Try.f37.body.getD .skip) (QG [I64]) n [0,3] [.d I64 x1,.d I64 x2,.d I64 x3,.d I64 x4,.d I64 x5]
theorem EW (n : Nat) (a0 : Int) (a1 : Int) (a2 : Int) : Uw n a0 a1 a2 =
  Jj n a0 a1 a2 1 40:=by kernel_rfl
theorem HV (n : Nat) (x1 : Int) (x2 : Int) (x3 : Int) (x4 : Int) (x5 : Int) : Jj (n + 1) x1 x2 x3 x4 x5 =
  bif decide ((0 : Int) ≤ x5) then
   bif decide (x3 = 0) then none else
   bif decide ((0 : Int) ≤ IntKind.wrap .u64 x5) then
    bif decide (IntKind.wrap .i64 (BitVec.toNat (BitVec.ofInt 64 (Int.fdiv x2 (2 ^ (min (Int.toNat (IntKind.wrap .u64 x5)) 64))) &&& BitVec.ofInt 64 1)) = 1) then
     bif decide (x3 = 0) then none else
     Jj n x1 x2 x3 (Int.tmod (IntKind.wrap .i64 ((Int.tmod (IntKind.wrap .i64 (x4 * x4)) x3) * x1)) x3) (IntKind.wrap .i64 (x5 - 1))
    else
     Jj n x1 x2 x3 (Int.tmod (IntKind.wrap .i64 (x4 * x4)) x3) (IntKind.wrap .i64 (x5 - 1))
   else none
  else
   some x4:=by kernel_rfl
theorem W0 {x1 : Int} {x2 : Int} {x3 : Int} : ∀ (m : Nat) (x4 : Int) (x5 : Int) (r : Int),QQ x1 x2 x3 m x4 x5 = some r → Ev (fun n=>Jj n x1 x2 x3 x4 x5) r:=by
 intro m
 induction m with
 | zero=>intro x4 x5 r h; rw [QQ] at h; exact Ev.ofNone h
 | succ m ih2 =>
  intro x4 x5 r h
  rw [QQ] at h
  refine Ev.step ?_ (fun n=>HV n x1 x2 x3 x4 x5)
  exact (Ev.ofBif h (fun h=>(Ev.ofBif h (fun h=>(Ev.ofNone h)) (fun h=>(Ev.ofBif h (fun h=>(Ev.ofBif h (fun h=>(Ev.ofBif h (fun h=>(Ev.ofNone h)) (fun h=>(ih2 _ _ _ h)))) (fun h=>(ih2 _ _ _ h)))) (fun h=>(Ev.ofNone h)))))) (fun h=>(Ev.ofSome h)))
theorem QcK {m : Nat} (a0 : Int) (a1 : Int) (a2 : Int) {r : Int} (h : Ym m a0 a1 a2 = some r) : Ev (fun n=>Uw n a0 a1 a2) r:=by
 rw [Ym] at h
 refine Ev.of_eq ?_ (fun n=>EW n a0 a1 a2)
 exact (W0 _ _ _ _ h)
theorem QaI : ∀ x ∈ Gc,Qu Try.prog x:=Qm
theorem Qbo : Qu Try.prog (GP):=by
 refine Qq (c:=GP) (by kernel_rfl) (by kernel_rfl : Try.prog.funcs[37]? = some Try.f37) (code:=Try.f37.body.getD .skip) (by kernel_rfl) (by kernel_rfl) (by kernel_rfl) (A:=GQ) (I:=Gb) (QaI) ?_
 rintro ⟨a0,a1,a2,u⟩ y hy
 exact let ⟨_,h⟩:=(YU hy).get; (QcK a0 a1 a2 h).get
def YM (a0 : Int) (a1 : (List Int)) : Option Int :=
 Option.bind (QA a0) fun (y1 : (List Int)) =>
 bif decide ((y1.length : Int) * 1 ≤ QI) && decide ((y1.length : Int) ≤ QI) then
  Option.bind (Ql a1) fun (y2 : (List Int)) =>
  bif decide (((y1.length : Int) + (y2.length : Int)) * 1 ≤ QI) && decide ((y1.length : Int) + (y2.length : Int) ≤ QI) then
   Option.bind (Ql (y1 ++ y2)) fun (y3 : (List Int)) =>
   Option.bind (Ju y3) fun (y4 : Int) =>
   some (Int.tmod y4 1073741789)
  else none
 else none
def W1 : Ctr:=⟨38,[I64,(.list U8)],[I64],fun x=>YM x.1 x.2.1⟩
def QcL : List (List Nat × Ann):=[]
def Qa7 : List (List Nat × Nat):=[]
def Qa8 : List Ctr:=[Ji,Jt,YE]
def QcM (n : Nat) (a0 : Int) (a1 : (List Int)) : Option Int:=run Try.prog QcL Qa7 (Qp Qa8) Try.f38 (Try.f38.body.getD .skip) (QG [I64]) n (QM [I64,(.list U8)] (a0,a1,()))
theorem Qdo (n : Nat) (a0 : Int) (a1 : (List Int)) : QcM n a0 a1 =
  Option.bind (QA a0) fun (y1 : (List Int)) =>
  bif decide ((y1.length : Int) * 1 ≤ QI) && decide ((y1.length : Int) ≤ QI) then
   Option.bind (Ql a1) fun (y2 : (List Int)) =>
   bif decide (((y1.length : Int) + (y2.length : Int)) * 1 ≤ QI) && decide ((y1.length : Int) + (y2.length : Int) ≤ QI) then
    Option.bind (Ql (y1 ++ y2)) fun (y3 : (List Int)) =>
    Option.bind (Ju y3) fun (y4 : Int) =>
    some (Int.tmod y4 1073741789)
   else none
  else none:=by kernel_rfl
theorem QfW (a0 : Int) (a1 : (List Int)) {r : Int} (h : YM a0 a1 = some r) : Ev (fun n=>QcM n a0 a1) r:=by
 rw [YM] at h
 refine Ev.of_eq ?_ (fun n=>Qdo n a0 a1)
 exact (Ev.ofBind h fun y1 h=>(Ev.ofBif h (fun h=>(Ev.ofBind h fun y2 h=>(Ev.ofBif h (fun h=>(Ev.ofBind h fun y3 h=>(Ev.ofBind h fun y4 h=>(Ev.ofSome h)))) (fun h=>(Ev.ofNone h))))) (fun h=>(Ev.ofNone h))))
theorem Qew : ∀ x ∈ Qa8,Qu Try.prog x:=(Qc J3 (Qc Ys (Qc XT Qm)))
theorem Qfb : Qu Try.prog (W1):=by
 refine Qq (c:=W1) (by kernel_rfl) (by kernel_rfl : Try.prog.funcs[38]? = some Try.f38) (code:=Try.f38.body.getD .skip) (by kernel_rfl) (by kernel_rfl) (by kernel_rfl) (A:=QcL) (I:=Qa7) (Qew) ?_
 rintro ⟨a0,a1,u⟩ y hy
 exact (QfW a0 a1 hy).get
def JD (a0 : Int) (a1 : (List Int)) : Option GL :=
 Option.bind (QA a0) fun (y1 : (List Int)) =>
 Option.bind (JV y1 a1) fun (y2 : (List Int)) =>
 Option.bind (Ju y2) fun (y3 : Int) =>
 Option.bind (Yn 4 (IntKind.wrap .i64 (1 + (Int.tmod y3 1073741788))) 2147483579) fun (y4 : Int) =>
 Option.bind (YM y4 a1) fun (y5 : Int) =>
 some (y4,Int.tmod (IntKind.wrap .i64 ((IntKind.wrap .i64 (1 + (Int.tmod y3 1073741788))) + (IntKind.wrap .i64 (y5 * a0)))) 1073741789)
def Xq : Ctr:=⟨26,[I64,(.list U8)],[GK],fun x=>JD x.1 x.2.1⟩
def Ws : List (List Nat × Ann):=[]
def Ux : List (List Nat × Nat):=[]
def Uy : List Ctr:=[Ji,Hi,YE,GP,W1]
def Wt (n : Nat) (a0 : Int) (a1 : (List Int)) : Option GL:=run Try.prog Ws Ux (Qp Uy) Try.f26 (Try.f26.body.getD .skip) (QG [GK]) n (QM [I64,(.list U8)] (a0,a1,()))
theorem QaJ (n : Nat) (a0 : Int) (a1 : (List Int)) : Wt n a0 a1 =
  Option.bind (QA a0) fun (y1 : (List Int)) =>
  Option.bind (JV y1 a1) fun (y2 : (List Int)) =>
  Option.bind (Ju y2) fun (y3 : Int) =>
  Option.bind (Yn 4 (IntKind.wrap .i64 (1 + (Int.tmod y3 1073741788))) 2147483579) fun (y4 : Int) =>
  Option.bind (YM y4 a1) fun (y5 : Int) =>
  some (y4,Int.tmod (IntKind.wrap .i64 ((IntKind.wrap .i64 (1 + (Int.tmod y3 1073741788))) + (IntKind.wrap .i64 (y5 * a0)))) 1073741789):=by kernel_rfl
theorem Qdp (a0 : Int) (a1 : (List Int)) {r : GL} (h : JD a0 a1 = some r) : Ev (fun n=>Wt n a0 a1) r:=by
 rw [JD] at h
 refine Ev.of_eq ?_ (fun n=>QaJ n a0 a1)
 exact (Ev.ofBind h fun y1 h=>(Ev.ofBind h fun y2 h=>(Ev.ofBind h fun y3 h=>(Ev.ofBind h fun y4 h=>(Ev.ofBind h fun y5 h=>(Ev.ofSome h))))))
theorem Qbp : ∀ x ∈ Uy,Qu Try.prog x:=(Qc J3 (Qc Qdn (Qc XT (Qc Qbo (Qc Qfb Qm)))))
theorem QcN : Qu Try.prog (Xq):=by
 refine Qq (c:=Xq) (by kernel_rfl) (by kernel_rfl : Try.prog.funcs[26]? = some Try.f26) (code:=Try.f26.body.getD .skip) (by kernel_rfl) (by kernel_rfl) (by kernel_rfl) (A:=Ws) (I:=Ux) (Qbp) ?_
 rintro ⟨a0,a1,u⟩ y hy
 exact (Qdp a0 a1 hy).get
def QR (a0 : Int) (a1 : (List Int)) (a2 : (List Int)) (a3 : Int) : Option Jx :=
 bif !(J2 a0) then
  some (([] : List Int),0,0,0)
 else
  bif !(Js a1 a2 a3) then
   some (([] : List Int),0,0,0)
  else
   Option.bind (Z7 a1 a2 a3) fun (y1 : (List Int)) =>
   Option.bind (JD a0 y1) fun (y2 : GL) =>
   some (a1,a3,y2)
def JW : Ctr:=⟨17,[I64,.str,(.list U8),I64],[Jw],fun x=>QR x.1 x.2.1 x.2.2.1 x.2.2.2.1⟩
def Vd : List (List Nat × Ann):=[]
def YY : List (List Nat × Nat):=[]
def YZ : List Ctr:=[V2,V3,V9,Xq]
def Ve (n : Nat) (a0 : Int) (a1 : (List Int)) (a2 : (List Int)) (a3 : Int) : Option Jx:=run Try.prog Vd YY (Qp YZ) Try.f17 (Try.f17.body.getD .skip) (QG [Jw]) n (QM [I64,.str,(.list U8),I64] (a0,a1,a2,a3,()))
theorem G8 (n : Nat) (a0 : Int) (a1 : (List Int)) (a2 : (List Int)) (a3 : Int) : Ve n a0 a1 a2 a3 =
  bif !(J2 a0) then
   some (([] : List Int),0,0,0)
  else
   bif !(Js a1 a2 a3) then
    some (([] : List Int),0,0,0)
   else
    Option.bind (Z7 a1 a2 a3) fun (y1 : (List Int)) =>
    Option.bind (JD a0 y1) fun (y2 : GL) =>
    some (a1,a3,y2):=by kernel_rfl
theorem Hk (a0 : Int) (a1 : (List Int)) (a2 : (List Int)) (a3 : Int) {r : Jx} (h : QR a0 a1 a2 a3 = some r) : Ev (fun n=>Ve n a0 a1 a2 a3) r:=by
 rw [QR] at h
 refine Ev.of_eq ?_ (fun n=>G8 n a0 a1 a2 a3)
 exact (Ev.ofBif h (fun h=>(Ev.ofSome h)) (fun h=>(Ev.ofBif h (fun h=>(Ev.ofSome h)) (fun h=>(Ev.ofBind h fun y1 h=>(Ev.ofBind h fun y2 h=>(Ev.ofSome h)))))))
theorem Xr : ∀ x ∈ YZ,Qu Try.prog x:=(Qc QaD (Qc QaE (Qc QaH (Qc QcN Qm))))
theorem XU : Qu Try.prog (JW):=by
 refine Qq (c:=JW) (by kernel_rfl) (by kernel_rfl : Try.prog.funcs[17]? = some Try.f17) (code:=Try.f17.body.getD .skip) (by kernel_rfl) (by kernel_rfl) (by kernel_rfl) (A:=Vd) (I:=YY) (Xr) ?_
 rintro ⟨a0,a1,a2,a3,u⟩ y hy
 exact (Hk a0 a1 a2 a3 hy).get
def QN (a0 : Int) : Bool :=
 bif decide ((1 : Int) ≤ a0) then
  decide (a0 < 1073741789)
 else
  false
def Vf : Ctr:=⟨28,[I64],[.bool],fun x=>some (QN x.1)⟩
def Uz : List (List Nat × Ann):=[]
def HG : List (List Nat × Nat):=[]
def HH : List Ctr:=[]
def UA (n : Nat) (a0 : Int) : Option Bool:=run Try.prog Uz HG (Qp HH) Try.f28 (Try.f28.body.getD .skip) (QG [.bool]) n (QM [I64] (a0,()))
theorem EX (n : Nat) (a0 : Int) : UA n a0 =
  bif decide ((1 : Int) ≤ a0) then
   some (decide (a0 < 1073741789))
  else
   some false:=by kernel_rfl
theorem QcO (n : Nat) (a0 : Int) : UA n a0 = some (QN a0):=(EX n a0).trans (J7 rfl rfl)
theorem QaK : ∀ x ∈ HH,Qu Try.prog x:=Qm
theorem HJ : Qu Try.prog (Vf):=by
 refine Qq (c:=Vf) (by kernel_rfl) (by kernel_rfl : Try.prog.funcs[28]? = some Try.f28) (code:=Try.f28.body.getD .skip) (by kernel_rfl) (by kernel_rfl) (by kernel_rfl) (A:=Uz) (I:=HG) (QaK) ?_
 rintro ⟨a0,u⟩ y hy
 exact ⟨0,(QcO 0 a0).trans hy⟩
def ZJ (a0 : (List Int)) (a1 : (List Int)) (a2 : Int) : Bool :=
 bif decide ((1 : Int) ≤ (a0.length : Int)) then
  bif decide ((a0.length : Int) ≤ 100) then
   bif decide ((a1.length : Int) ≤ 100) then
    bif decide ((0 : Int) ≤ a2) then
     decide (a2 ≤ 1000000000)
    else
     false
   else
    false
  else
   false
 else
  false
def J9 : Ctr:=⟨29,[.str,(.list U8),I64],[.bool],fun x=>some (ZJ x.1 x.2.1 x.2.2.1)⟩
def Vu : List (List Nat × Ann):=[]
def Vg : List (List Nat × Nat):=[]
def Vh : List Ctr:=[]
def Vv (n : Nat) (a0 : (List Int)) (a1 : (List Int)) (a2 : Int) : Option Bool:=run Try.prog Vu Vg (Qp Vh) Try.f29 (Try.f29.body.getD .skip) (QG [.bool]) n (QM [.str,(.list U8),I64] (a0,a1,a2,()))
theorem Xs (n : Nat) (a0 : (List Int)) (a1 : (List Int)) (a2 : Int) : Vv n a0 a1 a2 =
  bif decide ((1 : Int) ≤ (a0.length : Int)) then
   bif decide ((a0.length : Int) ≤ 100) then
    bif decide ((a1.length : Int) ≤ 100) then
     bif decide ((0 : Int) ≤ a2) then
      some (decide (a2 ≤ 1000000000))
     else
      some false
    else
     some false
   else
    some false
  else
   some false:=by kernel_rfl
theorem HW (n : Nat) (a0 : (List Int)) (a1 : (List Int)) (a2 : Int) : Vv n a0 a1 a2 = some (ZJ a0 a1 a2):=(Xs n a0 a1 a2).trans (J7 (J7 (J7 (J7 rfl rfl) rfl) rfl) rfl)
theorem XV : ∀ x ∈ Vh,Qu Try.prog x:=Qm
theorem Hl : Qu Try.prog (J9):=by
 refine Qq (c:=J9) (by kernel_rfl) (by kernel_rfl : Try.prog.funcs[29]? = some Try.f29) (code:=Try.f29.body.getD .skip) (by kernel_rfl) (by kernel_rfl) (by kernel_rfl) (A:=Vu) (I:=Vg) (XV) ?_
 rintro ⟨a0,a1,a2,u⟩ y hy
 exact ⟨0,(HW 0 a0 a1 a2).trans hy⟩
def Qb (a0 : Int) : (List Int) :=
 ([IntKind.wrap .u8 a0,IntKind.wrap .u8 (Int.fdiv a0 (2 ^ (min (Int.toNat 8) 64))),IntKind.wrap .u8 (Int.fdiv a0 (2 ^ (min (Int.toNat 16) 64))),IntKind.wrap .u8 (Int.fdiv a0 (2 ^ (min (Int.toNat 24) 64)))] : List Int)
def J8 : Ctr:=⟨41,[I64],[(.list U8)],fun x=>some (Qb x.1)⟩
def Wu : List (List Nat × Ann):=[]
def UB : List (List Nat × Nat):=[]
def UC : List Ctr:=[]
def Wv (n : Nat) (a0 : Int) : Option (List Int):=run Try.prog Wu UB (Qp UC) Try.f41 (Try.f41.body.getD .skip) (QG [(.list U8)]) n (QM [I64] (a0,()))
theorem QaL (n : Nat) (a0 : Int) : Wv n a0 =
  some ([IntKind.wrap .u8 a0,IntKind.wrap .u8 (Int.fdiv a0 (2 ^ (min (Int.toNat 8) 64))),IntKind.wrap .u8 (Int.fdiv a0 (2 ^ (min (Int.toNat 16) 64))),IntKind.wrap .u8 (Int.fdiv a0 (2 ^ (min (Int.toNat 24) 64)))] : List Int):=by kernel_rfl
theorem Qdq (n : Nat) (a0 : Int) : Wv n a0 = some (Qb a0):=(QaL n a0).trans rfl
theorem Qbq : ∀ x ∈ UC,Qu Try.prog x:=Qm
theorem Vi : Qu Try.prog (J8):=by
 refine Qq (c:=J8) (by kernel_rfl) (by kernel_rfl : Try.prog.funcs[41]? = some Try.f41) (code:=Try.f41.body.getD .skip) (by kernel_rfl) (by kernel_rfl) (by kernel_rfl) (A:=Wu) (I:=UB) (Qbq) ?_
 rintro ⟨a0,u⟩ y hy
 exact ⟨0,(Qdq 0 a0).trans hy⟩
def Qv (K0 : Int → Int → Int → Int → Option (List Int)) (x5 : Int) (x11 : Int) (x12 : Int) (x13 : Int) (x14 : Int) : Nat → Int → Int → Int → Int → Int → Option (List Int)
 | 0,_,_,_,_,_=>none
 | m + 1,x6,x7,x8,x9,x10 =>
   bif decide (x6 < 4) then
    bif inB x6 4 then
     bif inB x6 4 then
      bif inB x6 4 then
       bif inB x6 4 then
        bif inB (Int.tmod (IntKind.wrap .i64 (x6 + 1)) 4) 4 then
         bif inB (Int.tmod (IntKind.wrap .i64 (x6 + 1)) 4) 4 then
          bif inB x6 4 then
           bif inB x6 4 then
            Qv K0 x5 x11 x12 x13 x14 m (IntKind.wrap .i64 (x6 + 1)) (bif decide (x6 = 0) then (Int.tmod (IntKind.wrap .i64 ((IntKind.wrap .i64 ((IntKind.wrap .i64 ((IntKind.wrap .i64 ((rd ([x7,x8,x9,x10] : List Int) x6 (Ty.dflt I64)) * (rd ([x11,x12,x13,x14] : List Int) x6 (Ty.dflt I64)))) + (IntKind.wrap .i64 x5))) + 1)) + (rd ([x7,x8,x9,x10] : List Int) (Int.tmod (IntKind.wrap .i64 (x6 + 1)) 4) (Ty.dflt I64)))) 2147483579) else x7) (bif decide (x6 = 1) then (Int.tmod (IntKind.wrap .i64 ((IntKind.wrap .i64 ((IntKind.wrap .i64 ((IntKind.wrap .i64 ((rd ([x7,x8,x9,x10] : List Int) x6 (Ty.dflt I64)) * (rd ([x11,x12,x13,x14] : List Int) x6 (Ty.dflt I64)))) + (IntKind.wrap .i64 x5))) + 1)) + (rd ([x7,x8,x9,x10] : List Int) (Int.tmod (IntKind.wrap .i64 (x6 + 1)) 4) (Ty.dflt I64)))) 2147483579) else x8) (bif decide (x6 = 2) then (Int.tmod (IntKind.wrap .i64 ((IntKind.wrap .i64 ((IntKind.wrap .i64 ((IntKind.wrap .i64 ((rd ([x7,x8,x9,x10] : List Int) x6 (Ty.dflt I64)) * (rd ([x11,x12,x13,x14] : List Int) x6 (Ty.dflt I64)))) + (IntKind.wrap .i64 x5))) + 1)) + (rd ([x7,x8,x9,x10] : List Int) (Int.tmod (IntKind.wrap .i64 (x6 + 1)) 4) (Ty.dflt I64)))) 2147483579) else x9) (bif decide (x6 = 3) then (Int.tmod (IntKind.wrap .i64 ((IntKind.wrap .i64 ((IntKind.wrap .i64 ((IntKind.wrap .i64 ((rd ([x7,x8,x9,x10] : List Int) x6 (Ty.dflt I64)) * (rd ([x11,x12,x13,x14] : List Int) x6 (Ty.dflt I64)))) + (IntKind.wrap .i64 x5))) + 1)) + (rd ([x7,x8,x9,x10] : List Int) (Int.tmod (IntKind.wrap .i64 (x6 + 1)) 4) (Ty.dflt I64)))) 2147483579) else x10)
           else none
          else none
         else none
        else none
       else none
      else none
     else none
    else none
   else
    K0 x7 x8 x9 x10
def Qn (K2 : Int → Int → Int → Int → Option (List Int)) (x4 : Int) (x10 : Int) (x11 : Int) (x12 : Int) (x13 : Int) : Nat → Int → Int → Int → Int → Int → Option (List Int)
 | 0,_,_,_,_,_=>none
 | m + 1,x5,x6,x7,x8,x9 =>
   bif decide (x5 < 4) then
    bif inB x5 4 then
     bif inB x5 4 then
      bif inB x5 4 then
       bif inB x5 4 then
        bif inB (Int.tmod (IntKind.wrap .i64 (x5 + 1)) 4) 4 then
         bif inB (Int.tmod (IntKind.wrap .i64 (x5 + 1)) 4) 4 then
          bif inB x5 4 then
           bif inB x5 4 then
            Qn K2 x4 x10 x11 x12 x13 m (IntKind.wrap .i64 (x5 + 1)) (bif decide (x5 = 0) then (Int.tmod (IntKind.wrap .i64 ((IntKind.wrap .i64 ((IntKind.wrap .i64 ((IntKind.wrap .i64 ((rd ([x6,x7,x8,x9] : List Int) x5 (Ty.dflt I64)) * (rd ([x10,x11,x12,x13] : List Int) x5 (Ty.dflt I64)))) + (IntKind.wrap .i64 x4))) + 1)) + (rd ([x6,x7,x8,x9] : List Int) (Int.tmod (IntKind.wrap .i64 (x5 + 1)) 4) (Ty.dflt I64)))) 2147483579) else x6) (bif decide (x5 = 1) then (Int.tmod (IntKind.wrap .i64 ((IntKind.wrap .i64 ((IntKind.wrap .i64 ((IntKind.wrap .i64 ((rd ([x6,x7,x8,x9] : List Int) x5 (Ty.dflt I64)) * (rd ([x10,x11,x12,x13] : List Int) x5 (Ty.dflt I64)))) + (IntKind.wrap .i64 x4))) + 1)) + (rd ([x6,x7,x8,x9] : List Int) (Int.tmod (IntKind.wrap .i64 (x5 + 1)) 4) (Ty.dflt I64)))) 2147483579) else x7) (bif decide (x5 = 2) then (Int.tmod (IntKind.wrap .i64 ((IntKind.wrap .i64 ((IntKind.wrap .i64 ((IntKind.wrap .i64 ((rd ([x6,x7,x8,x9] : List Int) x5 (Ty.dflt I64)) * (rd ([x10,x11,x12,x13] : List Int) x5 (Ty.dflt I64)))) + (IntKind.wrap .i64 x4))) + 1)) + (rd ([x6,x7,x8,x9] : List Int) (Int.tmod (IntKind.wrap .i64 (x5 + 1)) 4) (Ty.dflt I64)))) 2147483579) else x8) (bif decide (x5 = 3) then (Int.tmod (IntKind.wrap .i64 ((IntKind.wrap .i64 ((IntKind.wrap .i64 ((IntKind.wrap .i64 ((rd ([x6,x7,x8,x9] : List Int) x5 (Ty.dflt I64)) * (rd ([x10,x11,x12,x13] : List Int) x5 (Ty.dflt I64)))) + (IntKind.wrap .i64 x4))) + 1)) + (rd ([x6,x7,x8,x9] : List Int) (Int.tmod (IntKind.wrap .i64 (x5 + 1)) 4) (Ty.dflt I64)))) 2147483579) else x9)
           else none
          else none
         else none
        else none
       else none
      else none
     else none
    else none
   else
    K2 x6 x7 x8 x9
def Qo (K4 : Int → Int → Int → Int → Int → Option (List Int)) (x1 : Int) (x8 : Int) (x9 : Int) (x10 : Int) (x11 : Int) : Nat → Int → Int → Int → Int → Int → Option (List Int)
 | 0,_,_,_,_,_=>none
 | m + 1,x3,x4,x5,x6,x7 =>
   bif decide (x3 < 4) then
    bif inB x3 4 then
     bif inB x3 4 then
      bif inB x3 4 then
       bif inB x3 4 then
        bif inB (Int.tmod (IntKind.wrap .i64 (x3 + 1)) 4) 4 then
         bif inB (Int.tmod (IntKind.wrap .i64 (x3 + 1)) 4) 4 then
          bif inB x3 4 then
           bif inB x3 4 then
            Qo K4 x1 x8 x9 x10 x11 m (IntKind.wrap .i64 (x3 + 1)) (bif decide (x3 = 0) then (Int.tmod (IntKind.wrap .i64 ((IntKind.wrap .i64 ((IntKind.wrap .i64 ((IntKind.wrap .i64 ((rd ([x4,x5,x6,x7] : List Int) x3 (Ty.dflt I64)) * (rd ([x8,x9,x10,x11] : List Int) x3 (Ty.dflt I64)))) + (IntKind.wrap .i64 (0 : Int)))) + 1)) + (rd ([x4,x5,x6,x7] : List Int) (Int.tmod (IntKind.wrap .i64 (x3 + 1)) 4) (Ty.dflt I64)))) 2147483579) else x4) (bif decide (x3 = 1) then (Int.tmod (IntKind.wrap .i64 ((IntKind.wrap .i64 ((IntKind.wrap .i64 ((IntKind.wrap .i64 ((rd ([x4,x5,x6,x7] : List Int) x3 (Ty.dflt I64)) * (rd ([x8,x9,x10,x11] : List Int) x3 (Ty.dflt I64)))) + (IntKind.wrap .i64 (0 : Int)))) + 1)) + (rd ([x4,x5,x6,x7] : List Int) (Int.tmod (IntKind.wrap .i64 (x3 + 1)) 4) (Ty.dflt I64)))) 2147483579) else x5) (bif decide (x3 = 2) then (Int.tmod (IntKind.wrap .i64 ((IntKind.wrap .i64 ((IntKind.wrap .i64 ((IntKind.wrap .i64 ((rd ([x4,x5,x6,x7] : List Int) x3 (Ty.dflt I64)) * (rd ([x8,x9,x10,x11] : List Int) x3 (Ty.dflt I64)))) + (IntKind.wrap .i64 (0 : Int)))) + 1)) + (rd ([x4,x5,x6,x7] : List Int) (Int.tmod (IntKind.wrap .i64 (x3 + 1)) 4) (Ty.dflt I64)))) 2147483579) else x6) (bif decide (x3 = 3) then (Int.tmod (IntKind.wrap .i64 ((IntKind.wrap .i64 ((IntKind.wrap .i64 ((IntKind.wrap .i64 ((rd ([x4,x5,x6,x7] : List Int) x3 (Ty.dflt I64)) * (rd ([x8,x9,x10,x11] : List Int) x3 (Ty.dflt I64)))) + (IntKind.wrap .i64 (0 : Int)))) + 1)) + (rd ([x4,x5,x6,x7] : List Int) (Int.tmod (IntKind.wrap .i64 (x3 + 1)) 4) (Ty.dflt I64)))) 2147483579) else x7)
           else none
          else none
         else none
        else none
       else none
      else none
     else none
    else none
   else
    K4 (IntKind.wrap .i64 (x1 + 1)) x4 x5 x6 x7
def QH (x2 : Int) (x3 : Int) (x4 : Int) (x5 : Int) : Nat → (List Int) → Int → Option (List Int)
 | 0,_,_=>none
 | m + 1,x1,x6 =>
   bif decide (x6 < 4) then
    bif inB x6 4 then
     bif decide (((x1.length : Int) + ((Qb (rd ([x2,x3,x4,x5] : List Int) x6 (Ty.dflt I64))).length : Int)) * 1 ≤ QI) && decide ((x1.length : Int) + ((Qb (rd ([x2,x3,x4,x5] : List Int) x6 (Ty.dflt I64))).length : Int) ≤ QI) then
      QH x2 x3 x4 x5 m (x1 ++ (Qb (rd ([x2,x3,x4,x5] : List Int) x6 (Ty.dflt I64)))) (IntKind.wrap .i64 (x6 + 1))
     else none
    else none
   else
    some x1
def Qr (x6 : Int) (x7 : Int) (x8 : Int) (x9 : Int) : Nat → Int → Int → Int → Int → Int → Option (List Int)
 | 0,_,_,_,_,_=>none
 | m + 1,x1,x2,x3,x4,x5 =>
   bif decide (x1 < 8) then
    Qo (fun s0 s1 s2 s3 s4=>Qr x6 x7 x8 x9 m s0 s1 s2 s3 s4) x1 x6 x7 x8 x9 m 0 x2 x3 x4 x5
   else
    QH x2 x3 x4 x5 m [] 0
def Qs (m : Nat) (x8 : Int) (x9 : Int) (x10 : Int) (x11 : Int) : List Int → Int → Int → Int → Int → Option (List Int)
 | [],x4,x5,x6,x7 =>
   Qr x8 x9 x10 x11 m 0 x4 x5 x6 x7
 | e :: rest,x4,x5,x6,x7 =>
   Qn (fun s0 s1 s2 s3=>Qs m x8 x9 x10 x11 rest s0 s1 s2 s3) (e) x8 x9 x10 x11 m 0 x4 x5 x6 x7
def Qx (m : Nat) (x1 : (List Int)) : List Int → Int → Int → Int → Int → Option (List Int)
 | [],x5,x6,x7,x8 =>
   Uq (Qb (x1.length : Int)) (Qs m (1103515245 : Int) (69069 : Int) (1664525 : Int) (22695477 : Int) (Qb (x1.length : Int)) x5 x6 x7 x8)
 | e :: rest,x5,x6,x7,x8 =>
   Qv (fun s0 s1 s2 s3=>Qx m x1 rest s0 s1 s2 s3) (e) (1103515245 : Int) (69069 : Int) (1664525 : Int) (22695477 : Int) m 0 x5 x6 x7 x8
def JE (m : Nat) (a0 : (List Int)) : Option (List Int) :=
 bif decide ((20000 : Int) < (a0.length : Int)) then
  some ([])
 else
  Uq a0 (Qx m a0 a0 11 22 33 44)
def QC (a0 : (List Int)) : Option (List Int):=Wn fun m=>JE m a0
def YA : Ctr:=⟨34,[(.list U8)],[(.list U8)],fun x=>QC x.1⟩
def ZQ : List (List Nat × Ann):=[([0,7],[.keep 0 0,.keep 0 3,.keep 0 5,.keep 0 19,.keep 0 20,.keep 0 21,.box 0 3 4,.box 0 4 4]),([0,1,9002],[.keep 0 0,.keep 0 3,.keep 0 5,.keep 0 19,.keep 0 20,.keep 0 21,.keep 1 0,.keep 1 1,.keep 1 2,.keep 1 5,.box 0 3 4,.box 0 4 4]),([0,12],[.keep 0 3,.keep 0 5,.keep 0 31,.keep 0 32,.keep 0 33,.box 0 3 4,.box 0 4 4]),([0,1,14002],[.keep 0 3,.keep 0 5,.keep 0 31,.keep 0 32,.keep 0 33,.keep 1 0,.keep 1 1,.keep 1 2,.keep 1 5,.box 0 3 4,.box 0 4 4]),([0,17],[.keep 0 3,.keep 0 5,.keep 0 41,.box 0 3 4,.box 0 4 4]),([0,1,18001],[.keep 0 3,.keep 0 5,.keep 0 41,.keep 1 0,.keep 1 1,.keep 1 2,.keep 1 5,.box 0 3 4,.box 0 4 4]),([0,22],[.own 0 10 U8,.keep 0 46,.keep 0 47])]
def Zr : List (List Nat × Nat):=[([9002],46),([14002],46),([18001],46)]
def Zs : List Ctr:=[J8]
def Ww (n : Nat) (a0 : (List Int)) : Option (List Int):=run Try.prog ZQ Zr (Qp Zs) Try.f34 (Try.f34.body.getD .skip) (QG [(.list U8)]) n (QM [(.list U8)] (a0,()))
abbrev Z1 (n : Nat) (x1 : (List Int)) (x2 : (List Int)) (x3 : Int) (x4 : Int) (x5 : Int) (x6 : Int) (x7 : Int) (x8 : Int) (x9 : Int) (x10 : Int) (x11 : Int) (x12 : Int) : Option (List Int):=lam Try.prog ZQ Zr (Qp Zs) Try.f34 (Try.f34.body.getD .skip) (QG [(.list U8)]) n [0,7] [.d (.list U8) x1,.ptr 0 3 0,.fn 46 [.ptr 0 3 0,.ptr 0 4 0],.d (.list U8) x2,.d I64 x3,.d I64 x4,.agg [.d I64 x5,.d I64 x6,.d I64 x7,.d I64 x8],.agg [.d I64 x9,.d I64 x10,.d I64 x11,.d I64 x12]]
abbrev Ja (n : Nat) (x1 : (List Int)) (x2 : (List Int)) (x3 : Int) (x4 : Int) (x5 : Int) (x6 : Int) (x7 : Int) (x8 : Int) (x9 : Int) (x10 : Int) (x11 : Int) (x12 : Int) (x13 : Int) (x14 : Int) : Option (List Int):=lam Try.prog ZQ Zr (Qp Zs) Try.f34 (Try.f34.body.getD .skip) (QG [(.list U8)]) n [0,1,9002] [.d (.list U8) x1,.ptr 0 3 0,.fn 46 [.ptr 0 3 0,.ptr 0 4 0],.d (.list U8) x2,.d I64 x3,.d I64 x4,.d U8 x5,.ptr 0 3 0,.ptr 0 4 0,.d I64 x6,.agg [.d I64 x7,.d I64 x8,.d I64 x9,.d I64 x10],.agg [.d I64 x11,.d I64 x12,.d I64 x13,.d I64 x14]]
abbrev ZL (n : Nat) (x1 : (List Int)) (x2 : Int) (x3 : Int) (x4 : Int) (x5 : Int) (x6 : Int) (x7 : Int) (x8 : Int) (x9 : Int) (x10 : Int) (x11 : Int) : Option (List Int):=lam Try.prog ZQ Zr (Qp Zs) Try.f34 (Try.f34.body.getD .skip) (QG [(.list U8)]) n [0,12] [.ptr 0 3 0,.fn 46 [.ptr 0 3 0,.ptr 0 4 0],.d (.list U8) x1,.d I64 x2,.d I64 x3,.agg [.d I64 x4,.d I64 x5,.d I64 x6,.d I64 x7],.agg [.d I64 x8,.d I64 x9,.d I64 x10,.d I64 x11]]
abbrev Z2 (n : Nat) (x1 : (List Int)) (x2 : Int) (x3 : Int) (x4 : Int) (x5 : Int) (x6 : Int) (x7 : Int) (x8 : Int) (x9 : Int) (x10 : Int) (x11 : Int) (x12 : Int) (x13 : Int) : Option (List Int):=lam Try.prog ZQ Zr (Qp Zs) Try.f34 (Try.f34.body.getD .skip) (QG [(.list U8)]) n [0,1,14002] [.ptr 0 3 0,.fn 46 [.ptr 0 3 0,.ptr 0 4 0],.d (.list U8) x1,.d I64 x2,.d I64 x3,.d U8 x4,.ptr 0 3 0,.ptr 0 4 0,.d I64 x5,.agg [.d I64 x6,.d I64 x7,.d I64 x8,.d I64 x9],.agg [.d I64 x10,.d I64 x11,.d I64 x12,.d I64 x13]]
abbrev Jk (n : Nat) (x1 : Int) (x2 : Int) (x3 : Int) (x4 : Int) (x5 : Int) (x6 : Int) (x7 : Int) (x8 : Int) (x9 : Int) : Option (List Int):=lam Try.prog ZQ Zr (Qp Zs) Try.f34 (Try.f34.body.getD .skip) (QG [(.list U8)]) n [0,17] [.ptr 0 3 0,.fn 46 [.ptr 0 3 0,.ptr 0 4 0],.d I64 x1,.agg [.d I64 x2,.d I64 x3,.d I64 x4,.d I64 x5],.agg [.d I64 x6,.d I64 x7,.d I64 x8,.d I64 x9]]
abbrev Z3 (n : Nat) (x1 : Int) (x2 : Int) (x3 : Int) (x4 : Int) (x5 : Int) (x6 : Int) (x7 : Int) (x8 : Int) (x9 : Int) (x10 : Int) (x11 : Int) : Option (List Int):=lam Try.prog ZQ Zr (Qp Zs) Try.f34 (Try.f34.body.getD .skip) (QG [(.list U8)]) n [0,1,18001] [.ptr 0 3 0,.fn 46 [.ptr 0 3 0,.ptr 0 4 0],.d I64 x1,.d U8 x2,.ptr 0 3 0,.ptr 0 4 0,.d I64 x3,.agg [.d I64 x4,.d I64 x5,.d I64 x6,.d I64 x7],.agg [.d I64 x8,.d I64 x9,.d I64 x10,.d I64 x11]]
abbrev JX (n : Nat) (x1 : (List Int)) (x2 : Int) (x3 : Int) (x4 : Int) (x5 : Int) (x6 : Int) : Option (List Int):=lam Try.prog ZQ Zr (Qp Zs) Try.f34 (Try.f34.body.getD .skip) (QG [(.list U8)]) n [0,22] [.own 0 U8 x1,.agg [.d I64 x2,.d I64 x3,.d I64 x4,.d I64 x5],.d I64 x6]
theorem QaM (n : Nat) (a0 : (List Int)) : Ww n a0 =
  bif decide ((20000 : Int) < (a0.length : Int)) then
   some ([])
  else
   Z1 n a0 a0 (a0.length : Int) 0 11 22 33 44 1103515245 69069 1664525 22695477:=by kernel_rfl
theorem VU (n : Nat) (x1 : (List Int)) (x2 : (List Int)) (x3 : Int) (x4 : Int) (x5 : Int) (x6 : Int) (x7 : Int) (x8 : Int) (x9 : Int) (x10 : Int) (x11 : Int) (x12 : Int) : Z1 (n + 1) x1 x2 x3 x4 x5 x6 x7 x8 x9 x10 x11 x12 =
  bif decide (x4 < x3) then
   bif inB x4 x2.length then
    Ja n x1 x2 x3 x4 (rd x2 x4 (Ty.dflt U8)) 0 x5 x6 x7 x8 x9 x10 x11 x12
   else none
  else
   ZL n (Qb (x1.length : Int)) ((Qb (x1.length : Int)).length : Int) 0 x5 x6 x7 x8 x9 x10 x11 x12:=by kernel_rfl
theorem G9 (n : Nat) (x1 : (List Int)) (x2 : (List Int)) (x3 : Int) (x4 : Int) (x5 : Int) (x6 : Int) (x7 : Int) (x8 : Int) (x9 : Int) (x10 : Int) (x11 : Int) (x12 : Int) (x13 : Int) (x14 : Int) : Ja (n + 1) x1 x2 x3 x4 x5 x6 x7 x8 x9 x10 x11 x12 x13 x14 =
  bif decide (x6 < 4) then
   bif inB x6 4 then
    bif inB x6 4 then
     bif inB x6 4 then
      bif inB x6 4 then
       bif inB (Int.tmod (IntKind.wrap .i64 (x6 + 1)) 4) 4 then
        bif inB (Int.tmod (IntKind.wrap .i64 (x6 + 1)) 4) 4 then
         bif inB x6 4 then
          bif inB x6 4 then
           Ja n x1 x2 x3 x4 x5 (IntKind.wrap .i64 (x6 + 1)) (bif decide (x6 = 0) then (Int.tmod (IntKind.wrap .i64 ((IntKind.wrap .i64 ((IntKind.wrap .i64 ((IntKind.wrap .i64 ((rd ([x7,x8,x9,x10] : List Int) x6 (Ty.dflt I64)) * (rd ([x11,x12,x13,x14] : List Int) x6 (Ty.dflt I64)))) + (IntKind.wrap .i64 x5))) + 1)) + (rd ([x7,x8,x9,x10] : List Int) (Int.tmod (IntKind.wrap .i64 (x6 + 1)) 4) (Ty.dflt I64)))) 2147483579) else x7) (bif decide (x6 = 1) then (Int.tmod (IntKind.wrap .i64 ((IntKind.wrap .i64 ((IntKind.wrap .i64 ((IntKind.wrap .i64 ((rd ([x7,x8,x9,x10] : List Int) x6 (Ty.dflt I64)) * (rd ([x11,x12,x13,x14] : List Int) x6 (Ty.dflt I64)))) + (IntKind.wrap .i64 x5))) + 1)) + (rd ([x7,x8,x9,x10] : List Int) (Int.tmod (IntKind.wrap .i64 (x6 + 1)) 4) (Ty.dflt I64)))) 2147483579) else x8) (bif decide (x6 = 2) then (Int.tmod (IntKind.wrap .i64 ((IntKind.wrap .i64 ((IntKind.wrap .i64 ((IntKind.wrap .i64 ((rd ([x7,x8,x9,x10] : List Int) x6 (Ty.dflt I64)) * (rd ([x11,x12,x13,x14] : List Int) x6 (Ty.dflt I64)))) + (IntKind.wrap .i64 x5))) + 1)) + (rd ([x7,x8,x9,x10] : List Int) (Int.tmod (IntKind.wrap .i64 (x6 + 1)) 4) (Ty.dflt I64)))) 2147483579) else x9) (bif decide (x6 = 3) then (Int.tmod (IntKind.wrap .i64 ((IntKind.wrap .i64 ((IntKind.wrap .i64 ((IntKind.wrap .i64 ((rd ([x7,x8,x9,x10] : List Int) x6 (Ty.dflt I64)) * (rd ([x11,x12,x13,x14] : List Int) x6 (Ty.dflt I64)))) + (IntKind.wrap .i64 x5))) + 1)) + (rd ([x7,x8,x9,x10] : List Int) (Int.tmod (IntKind.wrap .i64 (x6 + 1)) 4) (Ty.dflt I64)))) 2147483579) else x10) x11 x12 x13 x14
          else none
         else none
        else none
       else none
      else none
     else none
    else none
   else none
  else
   Z1 n x1 x2 x3 (IntKind.wrap .i64 (x4 + 1)) x7 x8 x9 x10 x11 x12 x13 x14:=by kernel_rfl
theorem Vw (n : Nat) (x1 : (List Int)) (x2 : Int) (x3 : Int) (x4 : Int) (x5 : Int) (x6 : Int) (x7 : Int) (x8 : Int) (x9 : Int) (x10 : Int) (x11 : Int) : ZL (n + 1) x1 x2 x3 x4 x5 x6 x7 x8 x9 x10 x11 =
  bif decide (x3 < x2) then
   bif inB x3 x1.length then
    Z2 n x1 x2 x3 (rd x1 x3 (Ty.dflt U8)) 0 x4 x5 x6 x7 x8 x9 x10 x11
   else none
  else
   Jk n 0 x4 x5 x6 x7 x8 x9 x10 x11:=by kernel_rfl
theorem GR (n : Nat) (x1 : (List Int)) (x2 : Int) (x3 : Int) (x4 : Int) (x5 : Int) (x6 : Int) (x7 : Int) (x8 : Int) (x9 : Int) (x10 : Int) (x11 : Int) (x12 : Int) (x13 : Int) : Z2 (n + 1) x1 x2 x3 x4 x5 x6 x7 x8 x9 x10 x11 x12 x13 =
  bif decide (x5 < 4) then
   bif inB x5 4 then
    bif inB x5 4 then
     bif inB x5 4 then
      bif inB x5 4 then
       bif inB (Int.tmod (IntKind.wrap .i64 (x5 + 1)) 4) 4 then
        bif inB (Int.tmod (IntKind.wrap .i64 (x5 + 1)) 4) 4 then
         bif inB x5 4 then
          bif inB x5 4 then
           Z2 n x1 x2 x3 x4 (IntKind.wrap .i64 (x5 + 1)) (bif decide (x5 = 0) then (Int.tmod (IntKind.wrap .i64 ((IntKind.wrap .i64 ((IntKind.wrap .i64 ((IntKind.wrap .i64 ((rd ([x6,x7,x8,x9] : List Int) x5 (Ty.dflt I64)) * (rd ([x10,x11,x12,x13] : List Int) x5 (Ty.dflt I64)))) + (IntKind.wrap .i64 x4))) + 1)) + (rd ([x6,x7,x8,x9] : List Int) (Int.tmod (IntKind.wrap .i64 (x5 + 1)) 4) (Ty.dflt I64)))) 2147483579) else x6) (bif decide (x5 = 1) then (Int.tmod (IntKind.wrap .i64 ((IntKind.wrap .i64 ((IntKind.wrap .i64 ((IntKind.wrap .i64 ((rd ([x6,x7,x8,x9] : List Int) x5 (Ty.dflt I64)) * (rd ([x10,x11,x12,x13] : List Int) x5 (Ty.dflt I64)))) + (IntKind.wrap .i64 x4))) + 1)) + (rd ([x6,x7,x8,x9] : List Int) (Int.tmod (IntKind.wrap .i64 (x5 + 1)) 4) (Ty.dflt I64)))) 2147483579) else x7) (bif decide (x5 = 2) then (Int.tmod (IntKind.wrap .i64 ((IntKind.wrap .i64 ((IntKind.wrap .i64 ((IntKind.wrap .i64 ((rd ([x6,x7,x8,x9] : List Int) x5 (Ty.dflt I64)) * (rd ([x10,x11,x12,x13] : List Int) x5 (Ty.dflt I64)))) + (IntKind.wrap .i64 x4))) + 1)) + (rd ([x6,x7,x8,x9] : List Int) (Int.tmod (IntKind.wrap .i64 (x5 + 1)) 4) (Ty.dflt I64)))) 2147483579) else x8) (bif decide (x5 = 3) then (Int.tmod (IntKind.wrap .i64 ((IntKind.wrap .i64 ((IntKind.wrap .i64 ((IntKind.wrap .i64 ((rd ([x6,x7,x8,x9] : List Int) x5 (Ty.dflt I64)) * (rd ([x10,x11,x12,x13] : List Int) x5 (Ty.dflt I64)))) + (IntKind.wrap .i64 x4))) + 1)) + (rd ([x6,x7,x8,x9] : List Int) (Int.tmod (IntKind.wrap .i64 (x5 + 1)) 4) (Ty.dflt I64)))) 2147483579) else x9) x10 x11 x12 x13
          else none
         else none
        else none
       else none
      else none
     else none
    else none
   else none
  else
   ZL n x1 x2 (IntKind.wrap .i64 (x3 + 1)) x6 x7 x8 x9 x10 x11 x12 x13:=by kernel_rfl
theorem HX (n : Nat) (x1 : Int) (x2 : Int) (x3 : Int) (x4 : Int) (x5 : Int) (x6 : Int) (x7 : Int) (x8 : Int) (x9 : Int) : Jk (n + 1) x1 x2 x3 x4 x5 x6 x7 x8 x9 =
  bif decide (x1 < 8) then
   Z3 n x1 0 0 x2 x3 x4 x5 x6 x7 x8 x9
  else
   JX n [] x2 x3 x4 x5 0:=by kernel_rfl
theorem GS (n : Nat) (x1 : Int) (x2 : Int) (x3 : Int) (x4 : Int) (x5 : Int) (x6 : Int) (x7 : Int) (x8 : Int) (x9 : Int) (x10 : Int) (x11 : Int) : Z3 (n + 1) x1 x2 x3 x4 x5 x6 x7 x8 x9 x10 x11 =
  bif decide (x3 < 4) then
   bif inB x3 4 then
    bif inB x3 4 then
     bif inB x3 4 then
      bif inB x3 4 then
       bif inB (Int.tmod (IntKind.wrap .i64 (x3 + 1)) 4) 4 then
        bif inB (Int.tmod (IntKind.wrap .i64 (x3 + 1)) 4) 4 then
         bif inB x3 4 then
          bif inB x3 4 then
           Z3 n x1 x2 (IntKind.wrap .i64 (x3 + 1)) (bif decide (x3 = 0) then (Int.tmod (IntKind.wrap .i64 ((IntKind.wrap .i64 ((IntKind.wrap .i64 ((IntKind.wrap .i64 ((rd ([x4,x5,x6,x7] : List Int) x3 (Ty.dflt I64)) * (rd ([x8,x9,x10,x11] : List Int) x3 (Ty.dflt I64)))) + (IntKind.wrap .i64 x2))) + 1)) + (rd ([x4,x5,x6,x7] : List Int) (Int.tmod (IntKind.wrap .i64 (x3 + 1)) 4) (Ty.dflt I64)))) 2147483579) else x4) (bif decide (x3 = 1) then (Int.tmod (IntKind.wrap .i64 ((IntKind.wrap .i64 ((IntKind.wrap .i64 ((IntKind.wrap .i64 ((rd ([x4,x5,x6,x7] : List Int) x3 (Ty.dflt I64)) * (rd ([x8,x9,x10,x11] : List Int) x3 (Ty.dflt I64)))) + (IntKind.wrap .i64 x2))) + 1)) + (rd ([x4,x5,x6,x7] : List Int) (Int.tmod (IntKind.wrap .i64 (x3 + 1)) 4) (Ty.dflt I64)))) 2147483579) else x5) (bif decide (x3 = 2) then (Int.tmod (IntKind.wrap .i64 ((IntKind.wrap .i64 ((IntKind.wrap .i64 ((IntKind.wrap .i64 ((rd ([x4,x5,x6,x7] : List Int) x3 (Ty.dflt I64)) * (rd ([x8,x9,x10,x11] : List Int) x3 (Ty.dflt I64)))) + (IntKind.wrap .i64 x2))) + 1)) + (rd ([x4,x5,x6,x7] : List Int) (Int.tmod (IntKind.wrap .i64 (x3 + 1)) 4) (Ty.dflt I64)))) 2147483579) else x6) (bif decide (x3 = 3) then (Int.tmod (IntKind.wrap .i64 ((IntKind.wrap .i64 ((IntKind.wrap .i64 ((IntKind.wrap .i64 ((rd ([x4,x5,x6,x7] : List Int) x3 (Ty.dflt I64)) * (rd ([x8,x9,x10,x11] : List Int) x3 (Ty.dflt I64)))) + (IntKind.wrap .i64 x2))) + 1)) + (rd ([x4,x5,x6,x7] : List Int) (Int.tmod (IntKind.wrap .i64 (x3 + 1)) 4) (Ty.dflt I64)))) 2147483579) else x7) x8 x9 x10 x11
          else none
         else none
        else none
       else none
      else none
     else none
    else none
   else none
  else
   Jk n (IntKind.wrap .i64 (x1 + 1)) x4 x5 x6 x7 x8 x9 x10 x11:=by kernel_rfl
theorem HY (n : Nat) (x1 : (List Int)) (x2 : Int) (x3 : Int) (x4 : Int) (x5 : Int) (x6 : Int) : JX (n + 1) x1 x2 x3 x4 x5 x6 =
  bif decide (x6 < 4) then
   bif inB x6 4 then
    bif decide (((x1.length : Int) + ((Qb (rd ([x2,x3,x4,x5] : List Int) x6 (Ty.dflt I64))).length : Int)) * 1 ≤ QI) && decide ((x1.length : Int) + ((Qb (rd ([x2,x3,x4,x5] : List Int) x6 (Ty.dflt I64))).length : Int) ≤ QI) then
     JX n (x1 ++ (Qb (rd ([x2,x3,x4,x5] : List Int) x6 (Ty.dflt I64)))) x2 x3 x4 x5 (IntKind.wrap .i64 (x6 + 1))
    else none
   else none
  else
   some x1:=by kernel_rfl
theorem Hm {K0 : Int → Int → Int → Int → Option (List Int)} {x1 : (List Int)} {x3 : Int} {x4 : Int} {x5 : Int} {x11 : Int} {x12 : Int} {x13 : Int} {x14 : Int} (hK0 : ∀ (z5 : Int) (z6 : Int) (z7 : Int) (z8 : Int) (r : (List Int)),K0 z5 z6 z7 z8 = some r → Ev (fun n=>Z1 n x1 x1 x3 (IntKind.wrap .i64 (x4 + 1)) z5 z6 z7 z8 x11 x12 x13 x14) r) : ∀ (m : Nat) (x6 : Int) (x7 : Int) (x8 : Int) (x9 : Int) (x10 : Int) (r : (List Int)),Qv K0 x5 x11 x12 x13 x14 m x6 x7 x8 x9 x10 = some r → Ev (fun n=>Ja n x1 x1 x3 x4 x5 x6 x7 x8 x9 x10 x11 x12 x13 x14) r:=by
 intro m
 induction m with
 | zero=>intro x6 x7 x8 x9 x10 r h; rw [Qv] at h; exact Ev.ofNone h
 | succ m ih2 =>
  intro x6 x7 x8 x9 x10 r h
  rw [Qv] at h
  refine Ev.step ?_ (fun n=>G9 n x1 x1 x3 x4 x5 x6 x7 x8 x9 x10 x11 x12 x13 x14)
  exact (Ev.ofBif h (fun h=>(Ev.ofBif h (fun h=>(Ev.ofBif h (fun h=>(Ev.ofBif h (fun h=>(Ev.ofBif h (fun h=>(Ev.ofBif h (fun h=>(Ev.ofBif h (fun h=>(Ev.ofBif h (fun h=>(Ev.ofBif h (fun h=>(ih2 _ _ _ _ _ _ h)) (fun h=>(Ev.ofNone h)))) (fun h=>(Ev.ofNone h)))) (fun h=>(Ev.ofNone h)))) (fun h=>(Ev.ofNone h)))) (fun h=>(Ev.ofNone h)))) (fun h=>(Ev.ofNone h)))) (fun h=>(Ev.ofNone h)))) (fun h=>(Ev.ofNone h)))) (fun h=>(hK0 _ _ _ _ _ h)))
theorem XW {K2 : Int → Int → Int → Int → Option (List Int)} {x1 : (List Int)} {x2 : Int} {x3 : Int} {x4 : Int} {x10 : Int} {x11 : Int} {x12 : Int} {x13 : Int} (hK2 : ∀ (z4 : Int) (z5 : Int) (z6 : Int) (z7 : Int) (r : (List Int)),K2 z4 z5 z6 z7 = some r → Ev (fun n=>ZL n x1 x2 (IntKind.wrap .i64 (x3 + 1)) z4 z5 z6 z7 x10 x11 x12 x13) r) : ∀ (m : Nat) (x5 : Int) (x6 : Int) (x7 : Int) (x8 : Int) (x9 : Int) (r : (List Int)),Qn K2 x4 x10 x11 x12 x13 m x5 x6 x7 x8 x9 = some r → Ev (fun n=>Z2 n x1 x2 x3 x4 x5 x6 x7 x8 x9 x10 x11 x12 x13) r:=by
 intro m
 induction m with
 | zero=>intro x5 x6 x7 x8 x9 r h; rw [Qn] at h; exact Ev.ofNone h
 | succ m ih2 =>
  intro x5 x6 x7 x8 x9 r h
  rw [Qn] at h
  refine Ev.step ?_ (fun n=>GR n x1 x2 x3 x4 x5 x6 x7 x8 x9 x10 x11 x12 x13)
  exact (Ev.ofBif h (fun h=>(Ev.ofBif h (fun h=>(Ev.ofBif h (fun h=>(Ev.ofBif h (fun h=>(Ev.ofBif h (fun h=>(Ev.ofBif h (fun h=>(Ev.ofBif h (fun h=>(Ev.ofBif h (fun h=>(Ev.ofBif h (fun h=>(ih2 _ _ _ _ _ _ h)) (fun h=>(Ev.ofNone h)))) (fun h=>(Ev.ofNone h)))) (fun h=>(Ev.ofNone h)))) (fun h=>(Ev.ofNone h)))) (fun h=>(Ev.ofNone h)))) (fun h=>(Ev.ofNone h)))) (fun h=>(Ev.ofNone h)))) (fun h=>(Ev.ofNone h)))) (fun h=>(hK2 _ _ _ _ _ h)))
theorem XX {K4 : Int → Int → Int → Int → Int → Option (List Int)} {x1 : Int} {x8 : Int} {x9 : Int} {x10 : Int} {x11 : Int} (hK4 : ∀ (z1 : Int) (z2 : Int) (z3 : Int) (z4 : Int) (z5 : Int) (r : (List Int)),K4 z1 z2 z3 z4 z5 = some r → Ev (fun n=>Jk n z1 z2 z3 z4 z5 x8 x9 x10 x11) r) : ∀ (m : Nat) (x3 : Int) (x4 : Int) (x5 : Int) (x6 : Int) (x7 : Int) (r : (List Int)),Qo K4 x1 x8 x9 x10 x11 m x3 x4 x5 x6 x7 = some r → Ev (fun n=>Z3 n x1 (0 : Int) x3 x4 x5 x6 x7 x8 x9 x10 x11) r:=by
 intro m
 induction m with
 | zero=>intro x3 x4 x5 x6 x7 r h; rw [Qo] at h; exact Ev.ofNone h
 | succ m ih2 =>
  intro x3 x4 x5 x6 x7 r h
  rw [Qo] at h
  refine Ev.step ?_ (fun n=>GS n x1 (0 : Int) x3 x4 x5 x6 x7 x8 x9 x10 x11)
  exact (Ev.ofBif h (fun h=>(Ev.ofBif h (fun h=>(Ev.ofBif h (fun h=>(Ev.ofBif h (fun h=>(Ev.ofBif h (fun h=>(Ev.ofBif h (fun h=>(Ev.ofBif h (fun h=>(Ev.ofBif h (fun h=>(Ev.ofBif h (fun h=>(ih2 _ _ _ _ _ _ h)) (fun h=>(Ev.ofNone h)))) (fun h=>(Ev.ofNone h)))) (fun h=>(Ev.ofNone h)))) (fun h=>(Ev.ofNone h)))) (fun h=>(Ev.ofNone h)))) (fun h=>(Ev.ofNone h)))) (fun h=>(Ev.ofNone h)))) (fun h=>(Ev.ofNone h)))) (fun h=>(hK4 _ _ _ _ _ _ h)))
theorem W2 {x2 : Int} {x3 : Int} {x4 : Int} {x5 : Int} : ∀ (m : Nat) (x1 : (List Int)) (x6 : Int) (r : (List Int)),QH x2 x3 x4 x5 m x1 x6 = some r → Ev (fun n=>JX n x1 x2 x3 x4 x5 x6) r:=by
 intro m
 induction m with
 | zero=>intro x1 x6 r h; rw [QH] at h; exact Ev.ofNone h
 | succ m ih2 =>
  intro x1 x6 r h
  rw [QH] at h
  refine Ev.step ?_ (fun n=>HY n x1 x2 x3 x4 x5 x6)
  exact (Ev.ofBif h (fun h=>(Ev.ofBif h (fun h=>(Ev.ofBif h (fun h=>(ih2 _ _ _ h)) (fun h=>(Ev.ofNone h)))) (fun h=>(Ev.ofNone h)))) (fun h=>(Ev.ofSome h)))
theorem W3 {x6 : Int} {x7 : Int} {x8 : Int} {x9 : Int} : ∀ (m : Nat) (x1 : Int) (x2 : Int) (x3 : Int) (x4 : Int) (x5 : Int) (r : (List Int)),Qr x6 x7 x8 x9 m x1 x2 x3 x4 x5 = some r → Ev (fun n=>Jk n x1 x2 x3 x4 x5 x6 x7 x8 x9) r:=by
 intro m
 induction m with
 | zero=>intro x1 x2 x3 x4 x5 r h; rw [Qr] at h; exact Ev.ofNone h
 | succ m ih2 =>
  intro x1 x2 x3 x4 x5 r h
  rw [Qr] at h
  refine Ev.step ?_ (fun n=>HX n x1 x2 x3 x4 x5 x6 x7 x8 x9)
  exact (Ev.ofBif h (fun h=>(XX ih2 _ _ _ _ _ _ _ h)) (fun h=>(W2 _ _ _ _ h)))
theorem W4 {m : Nat} {x1 : (List Int)} {x8 : Int} {x9 : Int} {x10 : Int} {x11 : Int} (hl : x1.length ≤ maxLen) : ∀ (rest : List Int) (k : Nat) (x4 : Int) (x5 : Int) (x6 : Int) (x7 : Int) (r : (List Int)),rest = x1.drop k → Qs m x8 x9 x10 x11 rest x4 x5 x6 x7 = some r → Ev (fun n=>ZL n x1 (x1.length : Int) (k : Int) x4 x5 x6 x7 x8 x9 x10 x11) r:=by
 intro rest
 induction rest with
 | nil =>
  intro k x4 x5 x6 x7 r hr h
  have hk:=J0 hr
  rw [Qs] at h
  refine Ev.step ?_ (fun n=>Vw n x1 (x1.length : Int) (k : Int) x4 x5 x6 x7 x8 x9 x10 x11)
  rw [show decide ((k : Int) < (x1.length : Int)) = false from decide_eq_false (by omega)]
  exact Ev.neg rfl (W3 _ _ _ _ _ _ _ h)
 | cons e rest ih =>
  intro k x4 x5 x6 x7 r hr h
  obtain ⟨hk,hx,hr2⟩:=Jr (d:=(Ty.dflt U8)) hr
  have hw:=Jq hl hk
  have ih2 : ∀ (z4 : Int) (z5 : Int) (z6 : Int) (z7 : Int) (r : (List Int)),Qs m x8 x9 x10 x11 rest z4 z5 z6 z7 = some r → Ev (fun n=>ZL n x1 (x1.length : Int) (IntKind.wrap .i64 ((k : Int) + 1)) z4 z5 z6 z7 x8 x9 x10 x11) r:=by
   intro z4 z5 z6 z7 r h; rw [hw]; exact ih (k + 1) z4 z5 z6 z7 r hr2 h
  rw [Qs] at h
  refine Ev.step ?_ (fun n=>Vw n x1 (x1.length : Int) (k : Int) x4 x5 x6 x7 x8 x9 x10 x11)
  rw [show decide ((k : Int) < (x1.length : Int)) = true from decide_eq_true (by omega),J1 hk,hx]
  exact Ev.pos rfl (Ev.pos rfl (XW ih2 _ _ _ _ _ _ _ h))
theorem EY {m : Nat} {x1 : (List Int)} (hl : x1.length ≤ maxLen) : ∀ (rest : List Int) (k : Nat) (x5 : Int) (x6 : Int) (x7 : Int) (x8 : Int) (r : (List Int)),rest = x1.drop k → Qx m x1 rest x5 x6 x7 x8 = some r → Ev (fun n=>Z1 n x1 x1 (x1.length : Int) (k : Int) x5 x6 x7 x8 (1103515245 : Int) (69069 : Int) (1664525 : Int) (22695477 : Int)) r:=by
 intro rest
 induction rest with
 | nil =>
  intro k x5 x6 x7 x8 r hr h
  have hk:=J0 hr
  rw [Qx] at h
  refine Ev.step ?_ (fun n=>VU n x1 x1 (x1.length : Int) (k : Int) x5 x6 x7 x8 (1103515245 : Int) (69069 : Int) (1664525 : Int) (22695477 : Int))
  rw [show decide ((k : Int) < (x1.length : Int)) = false from decide_eq_false (by omega)]
  exact Ev.neg rfl (Ev.ofLen h fun hl h=>W4 hl _ (0 : Nat) _ _ _ _ _ rfl h)
 | cons e rest ih =>
  intro k x5 x6 x7 x8 r hr h
  obtain ⟨hk,hx,hr2⟩:=Jr (d:=(Ty.dflt U8)) hr
  have hw:=Jq hl hk
  have ih2 : ∀ (z5 : Int) (z6 : Int) (z7 : Int) (z8 : Int) (r : (List Int)),Qx m x1 rest z5 z6 z7 z8 = some r → Ev (fun n=>Z1 n x1 x1 (x1.length : Int) (IntKind.wrap .i64 ((k : Int) + 1)) z5 z6 z7 z8 (1103515245 : Int) (69069 : Int) (1664525 : Int) (22695477 : Int)) r:=by
   intro z5 z6 z7 z8 r h; rw [hw]; exact ih (k + 1) z5 z6 z7 z8 r hr2 h
  rw [Qx] at h
  refine Ev.step ?_ (fun n=>VU n x1 x1 (x1.length : Int) (k : Int) x5 x6 x7 x8 (1103515245 : Int) (69069 : Int) (1664525 : Int) (22695477 : Int))
  rw [show decide ((k : Int) < (x1.length : Int)) = true from decide_eq_true (by omega),J1 hk,hx]
  exact Ev.pos rfl (Ev.pos rfl (Hm ih2 _ _ _ _ _ _ _ h))
theorem Qdr {m : Nat} (a0 : (List Int)) {r : (List Int)} (h : JE m a0 = some r) : Ev (fun n=>Ww n a0) r:=by
 rw [JE] at h
 refine Ev.of_eq ?_ (fun n=>QaM n a0)
 exact (Ev.ofBif h (fun h=>(Ev.ofSome h)) (fun h=>(Ev.ofLen h fun hl h=>EY hl _ (0 : Nat) _ _ _ _ _ rfl h)))
theorem Qbr : ∀ x ∈ Zs,Qu Try.prog x:=(Qc Vi Qm)
theorem GT : Qu Try.prog (YA):=by
 refine Qq (c:=YA) (by kernel_rfl) (by kernel_rfl : Try.prog.funcs[34]? = some Try.f34) (code:=Try.f34.body.getD .skip) (by kernel_rfl) (by kernel_rfl) (by kernel_rfl) (A:=ZQ) (I:=Zr) (Qbr) ?_
 rintro ⟨a0,u⟩ y hy
 exact let ⟨_,h⟩:=(YU hy).get; (Qdr a0 h).get
def Qt : List (List Int) → (List Int) → Option (List Int)
 | [],x1 =>
   some x1
 | e :: rest,x1 =>
   bif decide (((x1.length : Int) + ((e).length : Int)) * 1 ≤ QI) && decide ((x1.length : Int) + ((e).length : Int) ≤ QI) then
    Qt rest (x1 ++ (e))
   else none
def Qw (x1 : (List (List Int))) : List (List Int) → Int → Option (List Int)
 | [],x2 =>
   bif decide ((0 : Int) < x2) && decide ((x2 : Int) ≤ 1000000000000) then
    Uq x1 (Qt x1 ([] : List Int))
   else none
 | e :: rest,x2 =>
   bif decide (IntKind.wrap .i64 (x2 + ((e).length : Int)) < 0) then none else
   Qw x1 rest (IntKind.wrap .i64 (x2 + ((e).length : Int)))
def Qy (a0 : (List (List Int))) : Option (List Int) :=
 Uq a0 (Qw a0 a0 0)
def Yu : Ctr:=⟨44,[(.list (.list U8))],[(.list U8)],fun x=>Qy x.1⟩
def GU : Ctr:=Hx 44 [(.list (.list U8))] U8 fun x=>Qy x.1
def Zt : List (List Nat × Ann):=[([0,3],[.keep 0 0,.keep 0 3,.keep 0 9,.keep 0 10,.keep 0 11]),([0,11],[.own 0 6 U8,.keep 0 25,.keep 0 26,.keep 0 27])]
def Zm : List (List Nat × Nat):=[([9001],1000048)]
def Zn : List Ctr:=[]
def Yo (n : Nat) (a0 : (List (List Int))) : Option (List Int):=Qbe Try.prog noG Zt Zm (EK 48 U8 (Qp Zn)) Try.f44 (Try.f44.body.getD .skip) (Y5 Try.prog Try.f44 U8) n (QM [(.list (.list U8))] (a0,()))
abbrev QO (n : Nat) (x1 : (List (List Int))) (x2 : Int) (x3 : (List (List Int))) (x4 : Int) (x5 : Int) : Option (List Int):=Gy Try.prog noG Zt Zm (EK 48 U8 (Qp Zn)) Try.f44 (Try.f44.body.getD .skip) (Y5 Try.prog Try.f44 U8) n [0,3] [.d (.list (.list U8)) x1,.d I64 x2,.d (.list (.list U8)) x3,.d I64 x4,.d I64 x5]
abbrev QJ (n : Nat) (x1 : (List Int)) (x2 : (List (List Int))) (x3 : Int) (x4 : Int) : Option (List Int):=Gy Try.prog noG Zt Zm (EK 48 U8 (Qp Zn)) Try.f44 (Try.f44.body.getD .skip) (Y5 Try.prog Try.f44 U8) n [0,11] [.own 0 U8 x1,.d (.list (.list U8)) x2,.d I64 x3,.d I64 x4]
theorem VV (n : Nat) (a0 : (List (List Int))) : Yo n a0 =
  QO n a0 0 a0 (a0.length : Int) 0:=by kernel_rfl
theorem Jo (n : Nat) (x1 : (List (List Int))) (x2 : Int) (x3 : (List (List Int))) (x4 : Int) (x5 : Int) : QO (n + 1) x1 x2 x3 x4 x5 =
  bif decide (x5 < x4) then
   bif inB x5 x3.length then
    bif decide (IntKind.wrap .i64 (x2 + ((rd x3 x5 (Ty.dflt (.list U8))).length : Int)) < 0) then none else
    QO n x1 (IntKind.wrap .i64 (x2 + ((rd x3 x5 (Ty.dflt (.list U8))).length : Int))) x3 x4 (IntKind.wrap .i64 (x5 + 1))
   else none
  else
   bif decide ((0 : Int) < x2) && decide ((x2 : Int) ≤ 1000000000000) then
    QJ n ([] : List Int) x1 (x1.length : Int) 0
   else none:=by kernel_rfl
theorem Jl (n : Nat) (x1 : (List Int)) (x2 : (List (List Int))) (x3 : Int) (x4 : Int) : QJ (n + 1) x1 x2 x3 x4 =
  bif decide (x4 < x3) then
   bif inB x4 x2.length then
    bif decide (((x1.length : Int) + ((rd x2 x4 (Ty.dflt (.list U8))).length : Int)) * 1 ≤ QI) && decide ((x1.length : Int) + ((rd x2 x4 (Ty.dflt (.list U8))).length : Int) ≤ QI) then
     QJ n (x1 ++ (rd x2 x4 (Ty.dflt (.list U8)))) x2 x3 (IntKind.wrap .i64 (x4 + 1))
    else none
   else none
  else
   some x1:=by kernel_rfl
theorem Vs {x2 : (List (List Int))} (hl : x2.length ≤ maxLen) : ∀ (rest : List (List Int)) (k : Nat) (x1 : (List Int)) (r : (List Int)),rest = x2.drop k → Qt rest x1 = some r → Ev (fun n=>QJ n x1 x2 (x2.length : Int) (k : Int)) r:=by
 intro rest
 induction rest with
 | nil =>
  intro k x1 r hr h
  have hk:=J0 hr
  rw [Qt] at h
  refine Ev.step ?_ (fun n=>Jl n x1 x2 (x2.length : Int) (k : Int))
  rw [show decide ((k : Int) < (x2.length : Int)) = false from decide_eq_false (by omega)]
  exact Ev.neg rfl (Ev.ofSome h)
 | cons e rest ih =>
  intro k x1 r hr h
  obtain ⟨hk,hx,hr2⟩:=Jr (d:=(Ty.dflt (.list U8))) hr
  have hw:=Jq hl hk
  have ih2 : ∀ (z1 : (List Int)) (r : (List Int)),Qt rest z1 = some r → Ev (fun n=>QJ n z1 x2 (x2.length : Int) (IntKind.wrap .i64 ((k : Int) + 1))) r:=by
   intro z1 r h; rw [hw]; exact ih (k + 1) z1 r hr2 h
  rw [Qt] at h
  refine Ev.step ?_ (fun n=>Jl n x1 x2 (x2.length : Int) (k : Int))
  rw [show decide ((k : Int) < (x2.length : Int)) = true from decide_eq_true (by omega),J1 hk,hx]
  exact Ev.pos rfl (Ev.pos rfl (Ev.ofBif h (fun h=>(ih2 _ _ h)) (fun h=>(Ev.ofNone h))))
theorem VJ {x1 : (List (List Int))} (hl : x1.length ≤ maxLen) : ∀ (rest : List (List Int)) (k : Nat) (x2 : Int) (r : (List Int)),rest = x1.drop k → Qw x1 rest x2 = some r → Ev (fun n=>QO n x1 x2 x1 (x1.length : Int) (k : Int)) r:=by
 intro rest
 induction rest with
 | nil =>
  intro k x2 r hr h
  have hk:=J0 hr
  rw [Qw] at h
  refine Ev.step ?_ (fun n=>Jo n x1 x2 x1 (x1.length : Int) (k : Int))
  rw [show decide ((k : Int) < (x1.length : Int)) = false from decide_eq_false (by omega)]
  exact Ev.neg rfl (Ev.ofBif h (fun h=>(Ev.ofLen h fun hl h=>Vs hl _ (0 : Nat) _ _ rfl h)) (fun h=>(Ev.ofNone h)))
 | cons e rest ih =>
  intro k x2 r hr h
  obtain ⟨hk,hx,hr2⟩:=Jr (d:=(Ty.dflt (.list U8))) hr
  have hw:=Jq hl hk
  have ih2 : ∀ (z2 : Int) (r : (List Int)),Qw x1 rest z2 = some r → Ev (fun n=>QO n x1 z2 x1 (x1.length : Int) (IntKind.wrap .i64 ((k : Int) + 1))) r:=by
   intro z2 r h; rw [hw]; exact ih (k + 1) z2 r hr2 h
  rw [Qw] at h
  refine Ev.step ?_ (fun n=>Jo n x1 x2 x1 (x1.length : Int) (k : Int))
  rw [show decide ((k : Int) < (x1.length : Int)) = true from decide_eq_true (by omega),J1 hk,hx]
  exact Ev.pos rfl (Ev.pos rfl (Ev.ofBif h (fun h=>(Ev.ofNone h)) (fun h=>(ih2 _ _ h))))
theorem GV (a0 : (List (List Int))) {r : (List Int)} (h : Qy a0 = some r) : Ev (fun n=>Yo n a0) r:=by
 rw [Qy] at h
 refine Ev.of_eq ?_ (fun n=>VV n a0)
 exact (Ev.ofLen h fun hl h=>VJ hl _ (0 : Nat) _ _ rfl h)
theorem Gd : ∀ x ∈ Zn,Qu Try.prog x:=Qm
theorem Gq : Qu Try.prog (GU):=by
 refine Qfa (by kernel_rfl) (by kernel_rfl : Try.prog.funcs[44]? = some Try.f44) (code:=Try.f44.body.getD .skip) (by kernel_rfl) (by kernel_rfl) (A:=Zt) (I:=Zm) (QfV (by kernel_rfl) Qid (EI (Gd))) ?_
 rintro ⟨a0,u⟩ y hy
 exact (GV a0 hy).get
theorem GW : Qu Try.prog Yu:=Qdl (by kernel_rfl) Gq
def Q6 (a0 : (List Int)) (a1 : (List Int)) (a2 : Int) : Option (List Int) :=
 Option.bind (QC a0) fun (y1 : (List Int)) =>
 Option.bind (QC a1) fun (y2 : (List Int)) =>
 Option.bind (Qy ([y1,y2,Qb a2] : List (List Int))) fun (y3 : (List Int)) =>
 some y3
def Yy : Ctr:=⟨31,[.str,(.list U8),I64],[(.list U8)],fun x=>Q6 x.1 x.2.1 x.2.2.1⟩
def Gh : List (List Nat × Ann):=[]
def VW : List (List Nat × Nat):=[]
def VX : List Ctr:=[YA,J8,Yu]
def Gi (n : Nat) (a0 : (List Int)) (a1 : (List Int)) (a2 : Int) : Option (List Int):=run Try.prog Gh VW (Qp VX) Try.f31 (Try.f31.body.getD .skip) (QG [(.list U8)]) n (QM [.str,(.list U8),I64] (a0,a1,a2,()))
theorem Hn (n : Nat) (a0 : (List Int)) (a1 : (List Int)) (a2 : Int) : Gi n a0 a1 a2 =
  Option.bind (QC a0) fun (y1 : (List Int)) =>
  Option.bind (QC a1) fun (y2 : (List Int)) =>
  Option.bind (Qy ([y1,y2,Qb a2] : List (List Int))) fun (y3 : (List Int)) =>
  some y3:=by kernel_rfl
theorem Wb (a0 : (List Int)) (a1 : (List Int)) (a2 : Int) {r : (List Int)} (h : Q6 a0 a1 a2 = some r) : Ev (fun n=>Gi n a0 a1 a2) r:=by
 rw [Q6] at h
 refine Ev.of_eq ?_ (fun n=>Hn n a0 a1 a2)
 exact (Ev.ofBind h fun y1 h=>(Ev.ofBind h fun y2 h=>(Ev.ofBind h fun y3 h=>(Ev.ofSome h))))
theorem HZ : ∀ x ∈ VX,Qu Try.prog x:=(Qc GT (Qc Vi (Qc GW Qm)))
theorem UD : Qu Try.prog (Yy):=by
 refine Qq (c:=Yy) (by kernel_rfl) (by kernel_rfl : Try.prog.funcs[31]? = some Try.f31) (code:=Try.f31.body.getD .skip) (by kernel_rfl) (by kernel_rfl) (by kernel_rfl) (A:=Gh) (I:=VW) (HZ) ?_
 rintro ⟨a0,a1,a2,u⟩ y hy
 exact (Wb a0 a1 a2 hy).get
def UE : Ctr:=Hx 34 [(.list U8)] U8 fun x=>QC x.1
def Zu : List (List Nat × Ann):=[([0,7],[.keep 0 0,.keep 0 3,.keep 0 5,.keep 0 19,.keep 0 20,.keep 0 21,.box 0 3 4,.box 0 4 4]),([0,1,9002],[.keep 0 0,.keep 0 3,.keep 0 5,.keep 0 19,.keep 0 20,.keep 0 21,.keep 1 0,.keep 1 1,.keep 1 2,.keep 1 5,.box 0 3 4,.box 0 4 4]),([0,12],[.keep 0 3,.keep 0 5,.keep 0 31,.keep 0 32,.keep 0 33,.box 0 3 4,.box 0 4 4]),([0,1,14002],[.keep 0 3,.keep 0 5,.keep 0 31,.keep 0 32,.keep 0 33,.keep 1 0,.keep 1 1,.keep 1 2,.keep 1 5,.box 0 3 4,.box 0 4 4]),([0,17],[.keep 0 3,.keep 0 5,.keep 0 41,.box 0 3 4,.box 0 4 4]),([0,1,18001],[.keep 0 3,.keep 0 5,.keep 0 41,.keep 1 0,.keep 1 1,.keep 1 2,.keep 1 5,.box 0 3 4,.box 0 4 4]),([0,22],[.own 0 10 U8,.keep 0 46,.keep 0 47])]
def Zg : List (List Nat × Nat):=[([9002],46),([14002],46),([18001],46)]
def Zh : List Ctr:=[J8]
def UF (n : Nat) (a0 : (List Int)) : Option (List Int):=Qbe Try.prog noG Zu Zg (Qp Zh) Try.f34 (Try.f34.body.getD .skip) (Y5 Try.prog Try.f34 U8) n (QM [(.list U8)] (a0,()))
abbrev ZM (n : Nat) (x1 : (List Int)) (x2 : (List Int)) (x3 : Int) (x4 : Int) (x5 : Int) (x6 : Int) (x7 : Int) (x8 : Int) (x9 : Int) (x10 : Int) (x11 : Int) (x12 : Int) : Option (List Int):=Gy Try.prog noG Zu Zg (Qp Zh) Try.f34 (Try.f34.body.getD .skip) (Y5 Try.prog Try.f34 U8) n [0,7] [.d (.list U8) x1,.ptr 0 3 0,.fn 46 [.ptr 0 3 0,.ptr 0 4 0],.d (.list U8) x2,.d I64 x3,.d I64 x4,.agg [.d I64 x5,.d I64 x6,.d I64 x7,.d I64 x8],.agg [.d I64 x9,.d I64 x10,.d I64 x11,.d I64 x12]]
abbrev Z4 (n : Nat) (x1 : (List Int)) (x2 : (List Int)) (x3 : Int) (x4 : Int) (x5 : Int) (x6 : Int) (x7 : Int) (x8 : Int) (x9 : Int) (x10 : Int) (x11 : Int) (x12 : Int) (x13 : Int) (x14 : Int) : Option (List Int):=Gy Try.prog noG Zu Zg (Qp Zh) Try.f34 (Try.f34.body.getD .skip) (Y5 Try.prog Try.f34 U8) n [0,1,9002] [.d (.list U8) x1,.ptr 0 3 0,.fn 46 [.ptr 0 3 0,.ptr 0 4 0],.d (.list U8) x2,.d I64 x3,.d I64 x4,.d U8 x5,.ptr 0 3 0,.ptr 0 4 0,.d I64 x6,.agg [.d I64 x7,.d I64 x8,.d I64 x9,.d I64 x10],.agg [.d I64 x11,.d I64 x12,.d I64 x13,.d I64 x14]]
abbrev ZA (n : Nat) (x1 : (List Int)) (x2 : Int) (x3 : Int) (x4 : Int) (x5 : Int) (x6 : Int) (x7 : Int) (x8 : Int) (x9 : Int) (x10 : Int) (x11 : Int) : Option (List Int):=Gy Try.prog noG Zu Zg (Qp Zh) Try.f34 (Try.f34.body.getD .skip) (Y5 Try.prog Try.f34 U8) n [0,12] [.ptr 0 3 0,.fn 46 [.ptr 0 3 0,.ptr 0 4 0],.d (.list U8) x1,.d I64 x2,.d I64 x3,.agg [.d I64 x4,.d I64 x5,.d I64 x6,.d I64 x7],.agg [.d I64 x8,.d I64 x9,.d I64 x10,.d I64 x11]]
abbrev ZR (n : Nat) (x1 : (List Int)) (x2 : Int) (x3 : Int) (x4 : Int) (x5 : Int) (x6 : Int) (x7 : Int) (x8 : Int) (x9 : Int) (x10 : Int) (x11 : Int) (x12 : Int) (x13 : Int) : Option (List Int):=Gy Try.prog noG Zu Zg (Qp Zh) Try.f34 (Try.f34.body.getD .skip) (Y5 Try.prog Try.f34 U8) n [0,1,14002] [.ptr 0 3 0,.fn 46 [.ptr 0 3 0,.ptr 0 4 0],.d (.list U8) x1,.d I64 x2,.d I64 x3,.d U8 x4,.ptr 0 3 0,.ptr 0 4 0,.d I64 x5,.agg [.d I64 x6,.d I64 x7,.d I64 x8,.d I64 x9],.agg [.d I64 x10,.d I64 x11,.d I64 x12,.d I64 x13]]
abbrev Z9 (n : Nat) (x1 : Int) (x2 : Int) (x3 : Int) (x4 : Int) (x5 : Int) (x6 : Int) (x7 : Int) (x8 : Int) (x9 : Int) : Option (List Int):=Gy Try.prog noG Zu Zg (Qp Zh) Try.f34 (Try.f34.body.getD .skip) (Y5 Try.prog Try.f34 U8) n [0,17] [.ptr 0 3 0,.fn 46 [.ptr 0 3 0,.ptr 0 4 0],.d I64 x1,.agg [.d I64 x2,.d I64 x3,.d I64 x4,.d I64 x5],.agg [.d I64 x6,.d I64 x7,.d I64 x8,.d I64 x9]]
abbrev ZS (n : Nat) (x1 : Int) (x2 : Int) (x3 : Int) (x4 : Int) (x5 : Int) (x6 : Int) (x7 : Int) (x8 : Int) (x9 : Int) (x10 : Int) (x11 : Int) : Option (List Int):=Gy Try.prog noG Zu Zg (Qp Zh) Try.f34 (Try.f34.body.getD .skip) (Y5 Try.prog Try.f34 U8) n [0,1,18001] [.ptr 0 3 0,.fn 46 [.ptr 0 3 0,.ptr 0 4 0],.d I64 x1,.d U8 x2,.ptr 0 3 0,.ptr 0 4 0,.d I64 x3,.agg [.d I64 x4,.d I64 x5,.d I64 x6,.d I64 x7],.agg [.d I64 x8,.d I64 x9,.d I64 x10,.d I64 x11]]
abbrev JJ (n : Nat) (x1 : (List Int)) (x2 : Int) (x3 : Int) (x4 : Int) (x5 : Int) (x6 : Int) : Option (List Int):=Gy Try.prog noG Zu Zg (Qp Zh) Try.f34 (Try.f34.body.getD .skip) (Y5 Try.prog Try.f34 U8) n [0,22] [.own 0 U8 x1,.agg [.d I64 x2,.d I64 x3,.d I64 x4,.d I64 x5],.d I64 x6]
theorem EZ (n : Nat) (a0 : (List Int)) : UF n a0 =
  bif decide ((20000 : Int) < (a0.length : Int)) then
   some ([])
  else
   ZM n a0 a0 (a0.length : Int) 0 11 22 33 44 1103515245 69069 1664525 22695477:=by kernel_rfl
theorem Vx (n : Nat) (x1 : (List Int)) (x2 : (List Int)) (x3 : Int) (x4 : Int) (x5 : Int) (x6 : Int) (x7 : Int) (x8 : Int) (x9 : Int) (x10 : Int) (x11 : Int) (x12 : Int) : ZM (n + 1) x1 x2 x3 x4 x5 x6 x7 x8 x9 x10 x11 x12 =
  bif decide (x4 < x3) then
   bif inB x4 x2.length then
    Z4 n x1 x2 x3 x4 (rd x2 x4 (Ty.dflt U8)) 0 x5 x6 x7 x8 x9 x10 x11 x12
   else none
  else
   ZA n (Qb (x1.length : Int)) ((Qb (x1.length : Int)).length : Int) 0 x5 x6 x7 x8 x9 x10 x11 x12:=by kernel_rfl
theorem GX (n : Nat) (x1 : (List Int)) (x2 : (List Int)) (x3 : Int) (x4 : Int) (x5 : Int) (x6 : Int) (x7 : Int) (x8 : Int) (x9 : Int) (x10 : Int) (x11 : Int) (x12 : Int) (x13 : Int) (x14 : Int) : Z4 (n + 1) x1 x2 x3 x4 x5 x6 x7 x8 x9 x10 x11 x12 x13 x14 =
  bif decide (x6 < 4) then
   bif inB x6 4 then
    bif inB x6 4 then
     bif inB x6 4 then
      bif inB x6 4 then
       bif inB (Int.tmod (IntKind.wrap .i64 (x6 + 1)) 4) 4 then
        bif inB (Int.tmod (IntKind.wrap .i64 (x6 + 1)) 4) 4 then
         bif inB x6 4 then
          bif inB x6 4 then
           Z4 n x1 x2 x3 x4 x5 (IntKind.wrap .i64 (x6 + 1)) (bif decide (x6 = 0) then (Int.tmod (IntKind.wrap .i64 ((IntKind.wrap .i64 ((IntKind.wrap .i64 ((IntKind.wrap .i64 ((rd ([x7,x8,x9,x10] : List Int) x6 (Ty.dflt I64)) * (rd ([x11,x12,x13,x14] : List Int) x6 (Ty.dflt I64)))) + (IntKind.wrap .i64 x5))) + 1)) + (rd ([x7,x8,x9,x10] : List Int) (Int.tmod (IntKind.wrap .i64 (x6 + 1)) 4) (Ty.dflt I64)))) 2147483579) else x7) (bif decide (x6 = 1) then (Int.tmod (IntKind.wrap .i64 ((IntKind.wrap .i64 ((IntKind.wrap .i64 ((IntKind.wrap .i64 ((rd ([x7,x8,x9,x10] : List Int) x6 (Ty.dflt I64)) * (rd ([x11,x12,x13,x14] : List Int) x6 (Ty.dflt I64)))) + (IntKind.wrap .i64 x5))) + 1)) + (rd ([x7,x8,x9,x10] : List Int) (Int.tmod (IntKind.wrap .i64 (x6 + 1)) 4) (Ty.dflt I64)))) 2147483579) else x8) (bif decide (x6 = 2) then (Int.tmod (IntKind.wrap .i64 ((IntKind.wrap .i64 ((IntKind.wrap .i64 ((IntKind.wrap .i64 ((rd ([x7,x8,x9,x10] : List Int) x6 (Ty.dflt I64)) * (rd ([x11,x12,x13,x14] : List Int) x6 (Ty.dflt I64)))) + (IntKind.wrap .i64 x5))) + 1)) + (rd ([x7,x8,x9,x10] : List Int) (Int.tmod (IntKind.wrap .i64 (x6 + 1)) 4) (Ty.dflt I64)))) 2147483579) else x9) (bif decide (x6 = 3) then (Int.tmod (IntKind.wrap .i64 ((IntKind.wrap .i64 ((IntKind.wrap .i64 ((IntKind.wrap .i64 ((rd ([x7,x8,x9,x10] : List Int) x6 (Ty.dflt I64)) * (rd ([x11,x12,x13,x14] : List Int) x6 (Ty.dflt I64)))) + (IntKind.wrap .i64 x5))) + 1)) + (rd ([x7,x8,x9,x10] : List Int) (Int.tmod (IntKind.wrap .i64 (x6 + 1)) 4) (Ty.dflt I64)))) 2147483579) else x10) x11 x12 x13 x14
          else none
         else none
        else none
       else none
      else none
     else none
    else none
   else none
  else
   ZM n x1 x2 x3 (IntKind.wrap .i64 (x4 + 1)) x7 x8 x9 x10 x11 x12 x13 x14:=by kernel_rfl
theorem Vj (n : Nat) (x1 : (List Int)) (x2 : Int) (x3 : Int) (x4 : Int) (x5 : Int) (x6 : Int) (x7 : Int) (x8 : Int) (x9 : Int) (x10 : Int) (x11 : Int) : ZA (n + 1) x1 x2 x3 x4 x5 x6 x7 x8 x9 x10 x11 =
  bif decide (x3 < x2) then
   bif inB x3 x1.length then
    ZR n x1 x2 x3 (rd x1 x3 (Ty.dflt U8)) 0 x4 x5 x6 x7 x8 x9 x10 x11
   else none
  else
   Z9 n 0 x4 x5 x6 x7 x8 x9 x10 x11:=by kernel_rfl
theorem Gr (n : Nat) (x1 : (List Int)) (x2 : Int) (x3 : Int) (x4 : Int) (x5 : Int) (x6 : Int) (x7 : Int) (x8 : Int) (x9 : Int) (x10 : Int) (x11 : Int) (x12 : Int) (x13 : Int) : ZR (n + 1) x1 x2 x3 x4 x5 x6 x7 x8 x9 x10 x11 x12 x13 =
  bif decide (x5 < 4) then
   bif inB x5 4 then
    bif inB x5 4 then
     bif inB x5 4 then
      bif inB x5 4 then
       bif inB (Int.tmod (IntKind.wrap .i64 (x5 + 1)) 4) 4 then
        bif inB (Int.tmod (IntKind.wrap .i64 (x5 + 1)) 4) 4 then
         bif inB x5 4 then
          bif inB x5 4 then
           ZR n x1 x2 x3 x4 (IntKind.wrap .i64 (x5 + 1)) (bif decide (x5 = 0) then (Int.tmod (IntKind.wrap .i64 ((IntKind.wrap .i64 ((IntKind.wrap .i64 ((IntKind.wrap .i64 ((rd ([x6,x7,x8,x9] : List Int) x5 (Ty.dflt I64)) * (rd ([x10,x11,x12,x13] : List Int) x5 (Ty.dflt I64)))) + (IntKind.wrap .i64 x4))) + 1)) + (rd ([x6,x7,x8,x9] : List Int) (Int.tmod (IntKind.wrap .i64 (x5 + 1)) 4) (Ty.dflt I64)))) 2147483579) else x6) (bif decide (x5 = 1) then (Int.tmod (IntKind.wrap .i64 ((IntKind.wrap .i64 ((IntKind.wrap .i64 ((IntKind.wrap .i64 ((rd ([x6,x7,x8,x9] : List Int) x5 (Ty.dflt I64)) * (rd ([x10,x11,x12,x13] : List Int) x5 (Ty.dflt I64)))) + (IntKind.wrap .i64 x4))) + 1)) + (rd ([x6,x7,x8,x9] : List Int) (Int.tmod (IntKind.wrap .i64 (x5 + 1)) 4) (Ty.dflt I64)))) 2147483579) else x7) (bif decide (x5 = 2) then (Int.tmod (IntKind.wrap .i64 ((IntKind.wrap .i64 ((IntKind.wrap .i64 ((IntKind.wrap .i64 ((rd ([x6,x7,x8,x9] : List Int) x5 (Ty.dflt I64)) * (rd ([x10,x11,x12,x13] : List Int) x5 (Ty.dflt I64)))) + (IntKind.wrap .i64 x4))) + 1)) + (rd ([x6,x7,x8,x9] : List Int) (Int.tmod (IntKind.wrap .i64 (x5 + 1)) 4) (Ty.dflt I64)))) 2147483579) else x8) (bif decide (x5 = 3) then (Int.tmod (IntKind.wrap .i64 ((IntKind.wrap .i64 ((IntKind.wrap .i64 ((IntKind.wrap .i64 ((rd ([x6,x7,x8,x9] : List Int) x5 (Ty.dflt I64)) * (rd ([x10,x11,x12,x13] : List Int) x5 (Ty.dflt I64)))) + (IntKind.wrap .i64 x4))) + 1)) + (rd ([x6,x7,x8,x9] : List Int) (Int.tmod (IntKind.wrap .i64 (x5 + 1)) 4) (Ty.dflt I64)))) 2147483579) else x9) x10 x11 x12 x13
          else none
         else none
        else none
       else none
      else none
     else none
    else none
   else none
  else
   ZA n x1 x2 (IntKind.wrap .i64 (x3 + 1)) x6 x7 x8 x9 x10 x11 x12 x13:=by kernel_rfl
theorem Ho (n : Nat) (x1 : Int) (x2 : Int) (x3 : Int) (x4 : Int) (x5 : Int) (x6 : Int) (x7 : Int) (x8 : Int) (x9 : Int) : Z9 (n + 1) x1 x2 x3 x4 x5 x6 x7 x8 x9 =
  bif decide (x1 < 8) then
   ZS n x1 0 0 x2 x3 x4 x5 x6 x7 x8 x9
  else
   JJ n [] x2 x3 x4 x5 0:=by kernel_rfl
theorem Gs (n : Nat) (x1 : Int) (x2 : Int) (x3 : Int) (x4 : Int) (x5 : Int) (x6 : Int) (x7 : Int) (x8 : Int) (x9 : Int) (x10 : Int) (x11 : Int) : ZS (n + 1) x1 x2 x3 x4 x5 x6 x7 x8 x9 x10 x11 =
  bif decide (x3 < 4) then
   bif inB x3 4 then
    bif inB x3 4 then
     bif inB x3 4 then
      bif inB x3 4 then
       bif inB (Int.tmod (IntKind.wrap .i64 (x3 + 1)) 4) 4 then
        bif inB (Int.tmod (IntKind.wrap .i64 (x3 + 1)) 4) 4 then
         bif inB x3 4 then
          bif inB x3 4 then
           ZS n x1 x2 (IntKind.wrap .i64 (x3 + 1)) (bif decide (x3 = 0) then (Int.tmod (IntKind.wrap .i64 ((IntKind.wrap .i64 ((IntKind.wrap .i64 ((IntKind.wrap .i64 ((rd ([x4,x5,x6,x7] : List Int) x3 (Ty.dflt I64)) * (rd ([x8,x9,x10,x11] : List Int) x3 (Ty.dflt I64)))) + (IntKind.wrap .i64 x2))) + 1)) + (rd ([x4,x5,x6,x7] : List Int) (Int.tmod (IntKind.wrap .i64 (x3 + 1)) 4) (Ty.dflt I64)))) 2147483579) else x4) (bif decide (x3 = 1) then (Int.tmod (IntKind.wrap .i64 ((IntKind.wrap .i64 ((IntKind.wrap .i64 ((IntKind.wrap .i64 ((rd ([x4,x5,x6,x7] : List Int) x3 (Ty.dflt I64)) * (rd ([x8,x9,x10,x11] : List Int) x3 (Ty.dflt I64)))) + (IntKind.wrap .i64 x2))) + 1)) + (rd ([x4,x5,x6,x7] : List Int) (Int.tmod (IntKind.wrap .i64 (x3 + 1)) 4) (Ty.dflt I64)))) 2147483579) else x5) (bif decide (x3 = 2) then (Int.tmod (IntKind.wrap .i64 ((IntKind.wrap .i64 ((IntKind.wrap .i64 ((IntKind.wrap .i64 ((rd ([x4,x5,x6,x7] : List Int) x3 (Ty.dflt I64)) * (rd ([x8,x9,x10,x11] : List Int) x3 (Ty.dflt I64)))) + (IntKind.wrap .i64 x2))) + 1)) + (rd ([x4,x5,x6,x7] : List Int) (Int.tmod (IntKind.wrap .i64 (x3 + 1)) 4) (Ty.dflt I64)))) 2147483579) else x6) (bif decide (x3 = 3) then (Int.tmod (IntKind.wrap .i64 ((IntKind.wrap .i64 ((IntKind.wrap .i64 ((IntKind.wrap .i64 ((rd ([x4,x5,x6,x7] : List Int) x3 (Ty.dflt I64)) * (rd ([x8,x9,x10,x11] : List Int) x3 (Ty.dflt I64)))) + (IntKind.wrap .i64 x2))) + 1)) + (rd ([x4,x5,x6,x7] : List Int) (Int.tmod (IntKind.wrap .i64 (x3 + 1)) 4) (Ty.dflt I64)))) 2147483579) else x7) x8 x9 x10 x11
          else none
         else none
        else none
       else none
      else none
     else none
    else none
   else none
  else
   Z9 n (IntKind.wrap .i64 (x1 + 1)) x4 x5 x6 x7 x8 x9 x10 x11:=by kernel_rfl
theorem Hp (n : Nat) (x1 : (List Int)) (x2 : Int) (x3 : Int) (x4 : Int) (x5 : Int) (x6 : Int) : JJ (n + 1) x1 x2 x3 x4 x5 x6 =
  bif decide (x6 < 4) then
   bif inB x6 4 then
    bif decide (((x1.length : Int) + ((Qb (rd ([x2,x3,x4,x5] : List Int) x6 (Ty.dflt I64))).length : Int)) * 1 ≤ QI) && decide ((x1.length : Int) + ((Qb (rd ([x2,x3,x4,x5] : List Int) x6 (Ty.dflt I64))).length : Int) ≤ QI) then
     JJ n (x1 ++ (Qb (rd ([x2,x3,x4,x5] : List Int) x6 (Ty.dflt I64)))) x2 x3 x4 x5 (IntKind.wrap .i64 (x6 + 1))
    else none
   else none
  else
   some x1:=by kernel_rfl
theorem XY {K0 : Int → Int → Int → Int → Option (List Int)} {x1 : (List Int)} {x3 : Int} {x4 : Int} {x5 : Int} {x11 : Int} {x12 : Int} {x13 : Int} {x14 : Int} (hK0 : ∀ (z5 : Int) (z6 : Int) (z7 : Int) (z8 : Int) (r : (List Int)),K0 z5 z6 z7 z8 = some r → Ev (fun n=>ZM n x1 x1 x3 (IntKind.wrap .i64 (x4 + 1)) z5 z6 z7 z8 x11 x12 x13 x14) r) : ∀ (m : Nat) (x6 : Int) (x7 : Int) (x8 : Int) (x9 : Int) (x10 : Int) (r : (List Int)),Qv K0 x5 x11 x12 x13 x14 m x6 x7 x8 x9 x10 = some r → Ev (fun n=>Z4 n x1 x1 x3 x4 x5 x6 x7 x8 x9 x10 x11 x12 x13 x14) r:=by
 intro m
 induction m with
 | zero=>intro x6 x7 x8 x9 x10 r h; rw [Qv] at h; exact Ev.ofNone h
 | succ m ih2 =>
  intro x6 x7 x8 x9 x10 r h
  rw [Qv] at h
  refine Ev.step ?_ (fun n=>GX n x1 x1 x3 x4 x5 x6 x7 x8 x9 x10 x11 x12 x13 x14)
  exact (Ev.ofBif h (fun h=>(Ev.ofBif h (fun h=>(Ev.ofBif h (fun h=>(Ev.ofBif h (fun h=>(Ev.ofBif h (fun h=>(Ev.ofBif h (fun h=>(Ev.ofBif h (fun h=>(Ev.ofBif h (fun h=>(Ev.ofBif h (fun h=>(ih2 _ _ _ _ _ _ h)) (fun h=>(Ev.ofNone h)))) (fun h=>(Ev.ofNone h)))) (fun h=>(Ev.ofNone h)))) (fun h=>(Ev.ofNone h)))) (fun h=>(Ev.ofNone h)))) (fun h=>(Ev.ofNone h)))) (fun h=>(Ev.ofNone h)))) (fun h=>(Ev.ofNone h)))) (fun h=>(hK0 _ _ _ _ _ h)))
theorem Xt {K2 : Int → Int → Int → Int → Option (List Int)} {x1 : (List Int)} {x2 : Int} {x3 : Int} {x4 : Int} {x10 : Int} {x11 : Int} {x12 : Int} {x13 : Int} (hK2 : ∀ (z4 : Int) (z5 : Int) (z6 : Int) (z7 : Int) (r : (List Int)),K2 z4 z5 z6 z7 = some r → Ev (fun n=>ZA n x1 x2 (IntKind.wrap .i64 (x3 + 1)) z4 z5 z6 z7 x10 x11 x12 x13) r) : ∀ (m : Nat) (x5 : Int) (x6 : Int) (x7 : Int) (x8 : Int) (x9 : Int) (r : (List Int)),Qn K2 x4 x10 x11 x12 x13 m x5 x6 x7 x8 x9 = some r → Ev (fun n=>ZR n x1 x2 x3 x4 x5 x6 x7 x8 x9 x10 x11 x12 x13) r:=by
 intro m
 induction m with
 | zero=>intro x5 x6 x7 x8 x9 r h; rw [Qn] at h; exact Ev.ofNone h
 | succ m ih2 =>
  intro x5 x6 x7 x8 x9 r h
  rw [Qn] at h
  refine Ev.step ?_ (fun n=>Gr n x1 x2 x3 x4 x5 x6 x7 x8 x9 x10 x11 x12 x13)
  exact (Ev.ofBif h (fun h=>(Ev.ofBif h (fun h=>(Ev.ofBif h (fun h=>(Ev.ofBif h (fun h=>(Ev.ofBif h (fun h=>(Ev.ofBif h (fun h=>(Ev.ofBif h (fun h=>(Ev.ofBif h (fun h=>(Ev.ofBif h (fun h=>(ih2 _ _ _ _ _ _ h)) (fun h=>(Ev.ofNone h)))) (fun h=>(Ev.ofNone h)))) (fun h=>(Ev.ofNone h)))) (fun h=>(Ev.ofNone h)))) (fun h=>(Ev.ofNone h)))) (fun h=>(Ev.ofNone h)))) (fun h=>(Ev.ofNone h)))) (fun h=>(Ev.ofNone h)))) (fun h=>(hK2 _ _ _ _ _ h)))
theorem Xu {K4 : Int → Int → Int → Int → Int → Option (List Int)} {x1 : Int} {x8 : Int} {x9 : Int} {x10 : Int} {x11 : Int} (hK4 : ∀ (z1 : Int) (z2 : Int) (z3 : Int) (z4 : Int) (z5 : Int) (r : (List Int)),K4 z1 z2 z3 z4 z5 = some r → Ev (fun n=>Z9 n z1 z2 z3 z4 z5 x8 x9 x10 x11) r) : ∀ (m : Nat) (x3 : Int) (x4 : Int) (x5 : Int) (x6 : Int) (x7 : Int) (r : (List Int)),Qo K4 x1 x8 x9 x10 x11 m x3 x4 x5 x6 x7 = some r → Ev (fun n=>ZS n x1 (0 : Int) x3 x4 x5 x6 x7 x8 x9 x10 x11) r:=by
 intro m
 induction m with
 | zero=>intro x3 x4 x5 x6 x7 r h; rw [Qo] at h; exact Ev.ofNone h
 | succ m ih2 =>
  intro x3 x4 x5 x6 x7 r h
  rw [Qo] at h
  refine Ev.step ?_ (fun n=>Gs n x1 (0 : Int) x3 x4 x5 x6 x7 x8 x9 x10 x11)
  exact (Ev.ofBif h (fun h=>(Ev.ofBif h (fun h=>(Ev.ofBif h (fun h=>(Ev.ofBif h (fun h=>(Ev.ofBif h (fun h=>(Ev.ofBif h (fun h=>(Ev.ofBif h (fun h=>(Ev.ofBif h (fun h=>(Ev.ofBif h (fun h=>(ih2 _ _ _ _ _ _ h)) (fun h=>(Ev.ofNone h)))) (fun h=>(Ev.ofNone h)))) (fun h=>(Ev.ofNone h)))) (fun h=>(Ev.ofNone h)))) (fun h=>(Ev.ofNone h)))) (fun h=>(Ev.ofNone h)))) (fun h=>(Ev.ofNone h)))) (fun h=>(Ev.ofNone h)))) (fun h=>(hK4 _ _ _ _ _ _ h)))
theorem Wc {x2 : Int} {x3 : Int} {x4 : Int} {x5 : Int} : ∀ (m : Nat) (x1 : (List Int)) (x6 : Int) (r : (List Int)),QH x2 x3 x4 x5 m x1 x6 = some r → Ev (fun n=>JJ n x1 x2 x3 x4 x5 x6) r:=by
 intro m
 induction m with
 | zero=>intro x1 x6 r h; rw [QH] at h; exact Ev.ofNone h
 | succ m ih2 =>
  intro x1 x6 r h
  rw [QH] at h
  refine Ev.step ?_ (fun n=>Hp n x1 x2 x3 x4 x5 x6)
  exact (Ev.ofBif h (fun h=>(Ev.ofBif h (fun h=>(Ev.ofBif h (fun h=>(ih2 _ _ _ h)) (fun h=>(Ev.ofNone h)))) (fun h=>(Ev.ofNone h)))) (fun h=>(Ev.ofSome h)))
theorem Wd {x6 : Int} {x7 : Int} {x8 : Int} {x9 : Int} : ∀ (m : Nat) (x1 : Int) (x2 : Int) (x3 : Int) (x4 : Int) (x5 : Int) (r : (List Int)),Qr x6 x7 x8 x9 m x1 x2 x3 x4 x5 = some r → Ev (fun n=>Z9 n x1 x2 x3 x4 x5 x6 x7 x8 x9) r:=by
 intro m
 induction m with
 | zero=>intro x1 x2 x3 x4 x5 r h; rw [Qr] at h; exact Ev.ofNone h
 | succ m ih2 =>
  intro x1 x2 x3 x4 x5 r h
  rw [Qr] at h
  refine Ev.step ?_ (fun n=>Ho n x1 x2 x3 x4 x5 x6 x7 x8 x9)
  exact (Ev.ofBif h (fun h=>(Xu ih2 _ _ _ _ _ _ _ h)) (fun h=>(Wc _ _ _ _ h)))
theorem We {m : Nat} {x1 : (List Int)} {x8 : Int} {x9 : Int} {x10 : Int} {x11 : Int} (hl : x1.length ≤ maxLen) : ∀ (rest : List Int) (k : Nat) (x4 : Int) (x5 : Int) (x6 : Int) (x7 : Int) (r : (List Int)),rest = x1.drop k → Qs m x8 x9 x10 x11 rest x4 x5 x6 x7 = some r → Ev (fun n=>ZA n x1 (x1.length : Int) (k : Int) x4 x5 x6 x7 x8 x9 x10 x11) r:=by
 intro rest
 induction rest with
 | nil =>
  intro k x4 x5 x6 x7 r hr h
  have hk:=J0 hr
  rw [Qs] at h
  refine Ev.step ?_ (fun n=>Vj n x1 (x1.length : Int) (k : Int) x4 x5 x6 x7 x8 x9 x10 x11)
  rw [show decide ((k : Int) < (x1.length : Int)) = false from decide_eq_false (by omega)]
  exact Ev.neg rfl (Wd _ _ _ _ _ _ _ h)
 | cons e rest ih =>
  intro k x4 x5 x6 x7 r hr h
  obtain ⟨hk,hx,hr2⟩:=Jr (d:=(Ty.dflt U8)) hr
  have hw:=Jq hl hk
  have ih2 : ∀ (z4 : Int) (z5 : Int) (z6 : Int) (z7 : Int) (r : (List Int)),Qs m x8 x9 x10 x11 rest z4 z5 z6 z7 = some r → Ev (fun n=>ZA n x1 (x1.length : Int) (IntKind.wrap .i64 ((k : Int) + 1)) z4 z5 z6 z7 x8 x9 x10 x11) r:=by
   intro z4 z5 z6 z7 r h; rw [hw]; exact ih (k + 1) z4 z5 z6 z7 r hr2 h
  rw [Qs] at h
  refine Ev.step ?_ (fun n=>Vj n x1 (x1.length : Int) (k : Int) x4 x5 x6 x7 x8 x9 x10 x11)
  rw [show decide ((k : Int) < (x1.length : Int)) = true from decide_eq_true (by omega),J1 hk,hx]
  exact Ev.pos rfl (Ev.pos rfl (Xt ih2 _ _ _ _ _ _ _ h))
theorem W5 {m : Nat} {x1 : (List Int)} (hl : x1.length ≤ maxLen) : ∀ (rest : List Int) (k : Nat) (x5 : Int) (x6 : Int) (x7 : Int) (x8 : Int) (r : (List Int)),rest = x1.drop k → Qx m x1 rest x5 x6 x7 x8 = some r → Ev (fun n=>ZM n x1 x1 (x1.length : Int) (k : Int) x5 x6 x7 x8 (1103515245 : Int) (69069 : Int) (1664525 : Int) (22695477 : Int)) r:=by
 intro rest
 induction rest with
 | nil =>
  intro k x5 x6 x7 x8 r hr h
  have hk:=J0 hr
  rw [Qx] at h
  refine Ev.step ?_ (fun n=>Vx n x1 x1 (x1.length : Int) (k : Int) x5 x6 x7 x8 (1103515245 : Int) (69069 : Int) (1664525 : Int) (22695477 : Int))
  rw [show decide ((k : Int) < (x1.length : Int)) = false from decide_eq_false (by omega)]
  exact Ev.neg rfl (Ev.ofLen h fun hl h=>We hl _ (0 : Nat) _ _ _ _ _ rfl h)
 | cons e rest ih =>
  intro k x5 x6 x7 x8 r hr h
  obtain ⟨hk,hx,hr2⟩:=Jr (d:=(Ty.dflt U8)) hr
  have hw:=Jq hl hk
  have ih2 : ∀ (z5 : Int) (z6 : Int) (z7 : Int) (z8 : Int) (r : (List Int)),Qx m x1 rest z5 z6 z7 z8 = some r → Ev (fun n=>ZM n x1 x1 (x1.length : Int) (IntKind.wrap .i64 ((k : Int) + 1)) z5 z6 z7 z8 (1103515245 : Int) (69069 : Int) (1664525 : Int) (22695477 : Int)) r:=by
   intro z5 z6 z7 z8 r h; rw [hw]; exact ih (k + 1) z5 z6 z7 z8 r hr2 h
  rw [Qx] at h
  refine Ev.step ?_ (fun n=>Vx n x1 x1 (x1.length : Int) (k : Int) x5 x6 x7 x8 (1103515245 : Int) (69069 : Int) (1664525 : Int) (22695477 : Int))
  rw [show decide ((k : Int) < (x1.length : Int)) = true from decide_eq_true (by omega),J1 hk,hx]
  exact Ev.pos rfl (Ev.pos rfl (XY ih2 _ _ _ _ _ _ _ h))
theorem QcP {m : Nat} (a0 : (List Int)) {r : (List Int)} (h : JE m a0 = some r) : Ev (fun n=>UF n a0) r:=by
 rw [JE] at h
 refine Ev.of_eq ?_ (fun n=>EZ n a0)
 exact (Ev.ofBif h (fun h=>(Ev.ofSome h)) (fun h=>(Ev.ofLen h fun hl h=>W5 hl _ (0 : Nat) _ _ _ _ _ rfl h)))
theorem QaN : ∀ x ∈ Zh,Qu Try.prog x:=(Qc Vi Qm)
theorem Qbs : Qu Try.prog (UE):=by
 refine WR (by kernel_rfl) (by kernel_rfl : Try.prog.funcs[34]? = some Try.f34) (code:=Try.f34.body.getD .skip) (by kernel_rfl) (by kernel_rfl) (A:=Zu) (I:=Zg) (QaN) ?_
 rintro ⟨a0,u⟩ y hy
 exact let ⟨_,h⟩:=(YU hy).get; (QcP a0 h).get
def Yp (x1 : (List Int)) (x2 : (List Int)) (x3 : Bool) : Option (List Int) :=
 bif x3 then
  some ([])
 else
  Option.bind (QC x1) fun (y1 : (List Int)) =>
  Option.bind (QC x2) fun (y2 : (List Int)) =>
  bif decide (((y1.length : Int) + (y2.length : Int)) * 1 ≤ QI) && decide ((y1.length : Int) + (y2.length : Int) ≤ QI) then
   Option.bind (QC (y1 ++ y2)) fun (y3 : (List Int)) =>
   some y3
  else none
def YN (a0 : (List Int)) (a1 : (List Int)) : Option (List Int) :=
 bif decide ((20000 : Int) < (a0.length : Int)) then
  Yp a0 a1 true
 else
  Yp a0 a1 (decide ((20000 : Int) < (a1.length : Int)))
def W6 : Ctr:=⟨21,[(.list U8),(.list U8)],[(.list U8)],fun x=>YN x.1 x.2.1⟩
def W7 : List (List Nat × Ann):=[([1,2],[.keep 0 0,.keep 0 1,.keep 0 12])]
def UG : List (List Nat × Nat):=[([3001],1000034)]
def UH : List Ctr:=[UE,YA]
def QcQ (n : Nat) (a0 : (List Int)) (a1 : (List Int)) : Option (List Int):=run Try.prog W7 UG (Qp UH) Try.f21 (Try.f21.body.getD .skip) (QG [(.list U8)]) n (QM [(.list U8),(.list U8)] (a0,a1,()))
abbrev Vk (n : Nat) (x1 : (List Int)) (x2 : (List Int)) (x3 : Bool) : Option (List Int):=lam Try.prog W7 UG (Qp UH) Try.f21 (Try.f21.body.getD .skip) (QG [(.list U8)]) n [1,2] [.d (.list U8) x1,.d (.list U8) x2,.d .bool x3]
theorem Qds (n : Nat) (a0 : (List Int)) (a1 : (List Int)) : QcQ n a0 a1 =
  bif decide ((20000 : Int) < (a0.length : Int)) then
   Vk n a0 a1 true
  else
   Vk n a0 a1 (decide ((20000 : Int) < (a1.length : Int))):=by kernel_rfl
theorem E0 (n : Nat) (x1 : (List Int)) (x2 : (List Int)) (x3 : Bool) : Vk (n + 1) x1 x2 x3 =
  bif x3 then
   some ([])
  else
   Option.bind (QC x1) fun (y1 : (List Int)) =>
   Option.bind (QC x2) fun (y2 : (List Int)) =>
   bif decide (((y1.length : Int) + (y2.length : Int)) * 1 ≤ QI) && decide ((y1.length : Int) + (y2.length : Int) ≤ QI) then
    Option.bind (QC (y1 ++ y2)) fun (y3 : (List Int)) =>
    some y3
   else none:=by kernel_rfl
theorem UI {x1 : (List Int)} {x2 : (List Int)} {x3 : Bool} {r : (List Int)} (h : Yp x1 x2 x3 = some r) : Ev (fun n=>Vk n x1 x2 x3) r:=by
 rw [Yp] at h
 refine Ev.step ?_ (fun n=>E0 n x1 x2 x3)
 exact (Ev.ofBif h (fun h=>(Ev.ofSome h)) (fun h=>(Ev.ofBind h fun y1 h=>(Ev.ofBind h fun y2 h=>(Ev.ofBif h (fun h=>(Ev.ofBind h fun y3 h=>(Ev.ofSome h))) (fun h=>(Ev.ofNone h)))))))
theorem QfX (a0 : (List Int)) (a1 : (List Int)) {r : (List Int)} (h : YN a0 a1 = some r) : Ev (fun n=>QcQ n a0 a1) r:=by
 rw [YN] at h
 refine Ev.of_eq ?_ (fun n=>Qds n a0 a1)
 exact (Ev.ofBif h (fun h=>(UI h)) (fun h=>(UI h)))
theorem Qex : ∀ x ∈ UH,Qu Try.prog x:=(Qc Qbs (Qc GT Qm))
theorem Qfc : Qu Try.prog (W6):=by
 refine Qq (c:=W6) (by kernel_rfl) (by kernel_rfl : Try.prog.funcs[21]? = some Try.f21) (code:=Try.f21.body.getD .skip) (by kernel_rfl) (by kernel_rfl) (by kernel_rfl) (A:=W7) (I:=UG) (Qex) ?_
 rintro ⟨a0,a1,u⟩ y hy
 exact (QfX a0 a1 hy).get
def Zv (a0 : (List Int)) : Option Int :=
 bif decide ((a0.length : Int) < 4) then
  some 0
 else
  bif inB 0 a0.length then
   bif inB 1 a0.length then
    bif inB 2 a0.length then
     bif inB 3 a0.length then
      some (IntKind.wrap .i64 (BitVec.toNat (BitVec.ofInt 64 (IntKind.wrap .i64 (BitVec.toNat (BitVec.ofInt 64 (IntKind.wrap .i64 (BitVec.toNat (BitVec.ofInt 64 (IntKind.wrap .i64 (rd a0 0 (Ty.dflt U8))) ||| BitVec.ofInt 64 (IntKind.wrap .i64 ((IntKind.wrap .i64 (rd a0 1 (Ty.dflt U8))) * 2 ^ (min (Int.toNat 8) 64)))))) ||| BitVec.ofInt 64 (IntKind.wrap .i64 ((IntKind.wrap .i64 (rd a0 2 (Ty.dflt U8))) * 2 ^ (min (Int.toNat 16) 64)))))) ||| BitVec.ofInt 64 (IntKind.wrap .i64 ((IntKind.wrap .i64 (rd a0 3 (Ty.dflt U8))) * 2 ^ (min (Int.toNat 24) 64))))))
     else none
    else none
   else none
  else none
def Vl : Ctr:=⟨40,[(.list U8)],[I64],fun x=>Zv x.1⟩
def UJ : List (List Nat × Ann):=[]
def HK : List (List Nat × Nat):=[]
def HL : List Ctr:=[]
def UK (n : Nat) (a0 : (List Int)) : Option Int:=run Try.prog UJ HK (Qp HL) Try.f40 (Try.f40.body.getD .skip) (QG [I64]) n (QM [(.list U8)] (a0,()))
theorem E1 (n : Nat) (a0 : (List Int)) : UK n a0 =
  bif decide ((a0.length : Int) < 4) then
   some 0
  else
   bif inB 0 a0.length then
    bif inB 1 a0.length then
     bif inB 2 a0.length then
      bif inB 3 a0.length then
       some (IntKind.wrap .i64 (BitVec.toNat (BitVec.ofInt 64 (IntKind.wrap .i64 (BitVec.toNat (BitVec.ofInt 64 (IntKind.wrap .i64 (BitVec.toNat (BitVec.ofInt 64 (IntKind.wrap .i64 (rd a0 0 (Ty.dflt U8))) ||| BitVec.ofInt 64 (IntKind.wrap .i64 ((IntKind.wrap .i64 (rd a0 1 (Ty.dflt U8))) * 2 ^ (min (Int.toNat 8) 64)))))) ||| BitVec.ofInt 64 (IntKind.wrap .i64 ((IntKind.wrap .i64 (rd a0 2 (Ty.dflt U8))) * 2 ^ (min (Int.toNat 16) 64)))))) ||| BitVec.ofInt 64 (IntKind.wrap .i64 ((IntKind.wrap .i64 (rd a0 3 (Ty.dflt U8))) * 2 ^ (min (Int.toNat 24) 64))))))
      else none
     else none
    else none
   else none:=by kernel_rfl
theorem QcR (a0 : (List Int)) {r : Int} (h : Zv a0 = some r) : Ev (fun n=>UK n a0) r:=by
 rw [Zv] at h
 refine Ev.of_eq ?_ (fun n=>E1 n a0)
 exact (Ev.ofBif h (fun h=>(Ev.ofSome h)) (fun h=>(Ev.ofBif h (fun h=>(Ev.ofBif h (fun h=>(Ev.ofBif h (fun h=>(Ev.ofBif h (fun h=>(Ev.ofSome h)) (fun h=>(Ev.ofNone h)))) (fun h=>(Ev.ofNone h)))) (fun h=>(Ev.ofNone h)))) (fun h=>(Ev.ofNone h)))))
theorem QaO : ∀ x ∈ HL,Qu Try.prog x:=Qm
theorem HM : Qu Try.prog (Vl):=by
 refine Qq (c:=Vl) (by kernel_rfl) (by kernel_rfl : Try.prog.funcs[40]? = some Try.f40) (code:=Try.f40.body.getD .skip) (by kernel_rfl) (by kernel_rfl) (by kernel_rfl) (A:=UJ) (I:=HK) (QaO) ?_
 rintro ⟨a0,u⟩ y hy
 exact (QcR a0 hy).get
def Zi (x3 : Int) : Nat → Int → Int → Int → Option Int
 | 0,_,_,_=>none
 | m + 1,x1,x2,x4 =>
   bif decide ((0 : Int) < x2) then
    bif decide (IntKind.wrap .i64 (BitVec.toNat (BitVec.ofInt 64 x2 &&& BitVec.ofInt 64 1)) = 1) then
     bif decide (x3 = 0) then none else
     bif decide (x3 = 0) then none else
     Zi x3 m (Int.tmod (IntKind.wrap .i64 (x1 * x1)) x3) (Int.fdiv x2 (2 ^ (min (Int.toNat 1) 64))) (Int.tmod (IntKind.wrap .i64 (x4 * x1)) x3)
    else
     bif decide (x3 = 0) then none else
     Zi x3 m (Int.tmod (IntKind.wrap .i64 (x1 * x1)) x3) (Int.fdiv x2 (2 ^ (min (Int.toNat 1) 64))) x4
   else
    some x4
def VY (m : Nat) (a0 : Int) (a1 : Int) (a2 : Int) : Option Int :=
 bif decide (a2 = 0) then none else
 Zi a2 m (Int.tmod a0 a2) a1 1
def VZ (a0 : Int) (a1 : Int) (a2 : Int) : Option Int:=Wn fun m=>VY m a0 a1 a2
def UL : Ctr:=⟨42,[I64,I64,I64],[I64],fun x=>VZ x.1 x.2.1 x.2.2.1⟩
def UM : List (List Nat × Ann):=[([0,3],[.keep 0 0,.keep 0 1,.keep 0 2,.keep 0 7])]
def Hq : List (List Nat × Nat):=[]
def Hr : List Ctr:=[]
def Qa9 (n : Nat) (a0 : Int) (a1 : Int) (a2 : Int) : Option Int:=run Try.prog UM Hq (Qp Hr) Try.f42 (Try.f42.body.getD .skip) (QG [I64]) n (QM [I64,I64,I64] (a0,a1,a2,()))
abbrev J5 (n : Nat) (x1 : Int) (x2 : Int) (x3 : Int) (x4 : Int) : Option Int:=lam Try.prog UM Hq (Qp Hr) Try.f42 (Try.f42.body.getD .skip) (QG [I64]) n [0,3] [.d I64 x1,.d I64 x2,.d I64 x3,.d I64 x4]
theorem QcS (n : Nat) (a0 : Int) (a1 : Int) (a2 : Int) : Qa9 n a0 a1 a2 =
  bif decide (a2 = 0) then none else
  J5 n (Int.tmod a0 a2) a1 a2 1:=by kernel_rfl
theorem W8 (n : Nat) (x1 : Int) (x2 : Int) (x3 : Int) (x4 : Int) : J5 (n + 1) x1 x2 x3 x4 =
  bif decide ((0 : Int) < x2) then
   bif decide (IntKind.wrap .i64 (BitVec.toNat (BitVec.ofInt 64 x2 &&& BitVec.ofInt 64 1)) = 1) then
    bif decide (x3 = 0) then none else
    bif decide (x3 = 0) then none else
    J5 n (Int.tmod (IntKind.wrap .i64 (x1 * x1)) x3) (Int.fdiv x2 (2 ^ (min (Int.toNat 1) 64))) x3 (Int.tmod (IntKind.wrap .i64 (x4 * x1)) x3)
   else
    bif decide (x3 = 0) then none else
    J5 n (Int.tmod (IntKind.wrap .i64 (x1 * x1)) x3) (Int.fdiv x2 (2 ^ (min (Int.toNat 1) 64))) x3 x4
  else
   some x4:=by kernel_rfl
theorem Qbt {x3 : Int} : ∀ (m : Nat) (x1 : Int) (x2 : Int) (x4 : Int) (r : Int),Zi x3 m x1 x2 x4 = some r → Ev (fun n=>J5 n x1 x2 x3 x4) r:=by
 intro m
 induction m with
 | zero=>intro x1 x2 x4 r h; rw [Zi] at h; exact Ev.ofNone h
 | succ m ih2 =>
  intro x1 x2 x4 r h
  rw [Zi] at h
  refine Ev.step ?_ (fun n=>W8 n x1 x2 x3 x4)
  exact (Ev.ofBif h (fun h=>(Ev.ofBif h (fun h=>(Ev.ofBif h (fun h=>(Ev.ofNone h)) (fun h=>(Ev.ofBif h (fun h=>(Ev.ofNone h)) (fun h=>(ih2 _ _ _ _ h)))))) (fun h=>(Ev.ofBif h (fun h=>(Ev.ofNone h)) (fun h=>(ih2 _ _ _ _ h)))))) (fun h=>(Ev.ofSome h)))
theorem Qfd {m : Nat} (a0 : Int) (a1 : Int) (a2 : Int) {r : Int} (h : VY m a0 a1 a2 = some r) : Ev (fun n=>Qa9 n a0 a1 a2) r:=by
 rw [VY] at h
 refine Ev.of_eq ?_ (fun n=>QcS n a0 a1 a2)
 exact (Ev.ofBif h (fun h=>(Ev.ofNone h)) (fun h=>(Qbt _ _ _ _ _ h)))
theorem Qdt : ∀ x ∈ Hr,Qu Try.prog x:=Qm
theorem Qey : Qu Try.prog (UL):=by
 refine Qq (c:=UL) (by kernel_rfl) (by kernel_rfl : Try.prog.funcs[42]? = some Try.f42) (code:=Try.f42.body.getD .skip) (by kernel_rfl) (by kernel_rfl) (by kernel_rfl) (A:=UM) (I:=Hq) (Qdt) ?_
 rintro ⟨a0,a1,a2,u⟩ y hy
 exact let ⟨_,h⟩:=(YU hy).get; (Qfd a0 a1 a2 h).get
def UN : Ctr:=Hx 41 [I64] U8 fun x=>some (Qb x.1)
def UO : List (List Nat × Ann):=[]
def HN : List (List Nat × Nat):=[]
def HO : List Ctr:=[]
def UP (n : Nat) (a0 : Int) : Option (List Int):=Qbe Try.prog noG UO HN (Qp HO) Try.f41 (Try.f41.body.getD .skip) (Y5 Try.prog Try.f41 U8) n (QM [I64] (a0,()))
theorem E2 (n : Nat) (a0 : Int) : UP n a0 =
  some ([IntKind.wrap .u8 a0,IntKind.wrap .u8 (Int.fdiv a0 (2 ^ (min (Int.toNat 8) 64))),IntKind.wrap .u8 (Int.fdiv a0 (2 ^ (min (Int.toNat 16) 64))),IntKind.wrap .u8 (Int.fdiv a0 (2 ^ (min (Int.toNat 24) 64)))] : List Int):=by kernel_rfl
theorem QcT (n : Nat) (a0 : Int) : UP n a0 = some (Qb a0):=(E2 n a0).trans rfl
theorem QaP : ∀ x ∈ HO,Qu Try.prog x:=Qm
theorem Qbu : Qu Try.prog (UN):=by
 refine WR (by kernel_rfl) (by kernel_rfl : Try.prog.funcs[41]? = some Try.f41) (code:=Try.f41.body.getD .skip) (by kernel_rfl) (by kernel_rfl) (A:=UO) (I:=HN) (QaP) ?_
 rintro ⟨a0,u⟩ y hy
 exact ⟨0,(QcT 0 a0).trans hy⟩
def Zw (a0 : Int) (a1 : (List Int)) : Option Int :=
 Option.bind (QC a1) fun (y1 : (List Int)) =>
 bif decide ((((Qb a0).length : Int) + (y1.length : Int)) * 1 ≤ QI) && decide (((Qb a0).length : Int) + (y1.length : Int) ≤ QI) then
  Option.bind (QC ((Qb a0) ++ y1)) fun (y2 : (List Int)) =>
  Option.bind (Zv y2) fun (y3 : Int) =>
  some (Int.tmod y3 1073741789)
 else none
def Vm : Ctr:=⟨43,[I64,(.list U8)],[I64],fun x=>Zw x.1 x.2.1⟩
def Xj : List (List Nat × Ann):=[]
def GY : List (List Nat × Nat):=[([1001],1000041)]
def GZ : List Ctr:=[UN,YA,Vl]
def Xk (n : Nat) (a0 : Int) (a1 : (List Int)) : Option Int:=run Try.prog Xj GY (Qp GZ) Try.f43 (Try.f43.body.getD .skip) (QG [I64]) n (QM [I64,(.list U8)] (a0,a1,()))
theorem UQ (n : Nat) (a0 : Int) (a1 : (List Int)) : Xk n a0 a1 =
  Option.bind (QC a1) fun (y1 : (List Int)) =>
  bif decide ((((Qb a0).length : Int) + (y1.length : Int)) * 1 ≤ QI) && decide (((Qb a0).length : Int) + (y1.length : Int) ≤ QI) then
   Option.bind (QC ((Qb a0) ++ y1)) fun (y2 : (List Int)) =>
   Option.bind (Zv y2) fun (y3 : Int) =>
   some (Int.tmod y3 1073741789)
  else none:=by kernel_rfl
theorem E3 (a0 : Int) (a1 : (List Int)) {r : Int} (h : Zw a0 a1 = some r) : Ev (fun n=>Xk n a0 a1) r:=by
 rw [Zw] at h
 refine Ev.of_eq ?_ (fun n=>UQ n a0 a1)
 exact (Ev.ofBind h fun y1 h=>(Ev.ofBif h (fun h=>(Ev.ofBind h fun y2 h=>(Ev.ofBind h fun y3 h=>(Ev.ofSome h)))) (fun h=>(Ev.ofNone h))))
theorem Wf : ∀ x ∈ GZ,Qu Try.prog x:=(Qc Qbu (Qc GT (Qc HM Qm)))
theorem W9 : Qu Try.prog (Vm):=by
 refine Qq (c:=Vm) (by kernel_rfl) (by kernel_rfl : Try.prog.funcs[43]? = some Try.f43) (code:=Try.f43.body.getD .skip) (by kernel_rfl) (by kernel_rfl) (by kernel_rfl) (A:=Xj) (I:=GY) (Wf) ?_
 rintro ⟨a0,a1,u⟩ y hy
 exact (E3 a0 a1 hy).get
def YF (x1 : Int) (x2 : (List Int)) : Option GL :=
 Option.bind (YN (Qb x1) x2) fun (y1 : (List Int)) =>
 Option.bind (Zv y1) fun (y2 : Int) =>
 Option.bind (VZ 4 (IntKind.wrap .i64 (1 + (Int.tmod y2 1073741788))) 2147483579) fun (y3 : Int) =>
 Option.bind (Zw y3 x2) fun (y4 : Int) =>
 some (y3,Int.tmod (IntKind.wrap .i64 ((IntKind.wrap .i64 (1 + (Int.tmod y2 1073741788))) + (IntKind.wrap .i64 (y4 * x1)))) 1073741789)
def Yq (a0 : Int) (a1 : (List Int)) : Option GL :=
 bif !(QN a0) then
  some (0,0)
 else
  bif decide ((20000 : Int) < (a1.length : Int)) then
   some (0,0)
  else
   YF a0 a1
def UR : Ctr:=⟨30,[I64,(.list U8)],[GK],fun x=>Yq x.1 x.2.1⟩
def US : List (List Nat × Ann):=[([1,3],[.keep 0 0,.keep 0 1,.keep 0 4,.boxd 0 4 GK])]
def Hs : List (List Nat × Nat):=[]
def Ht : List Ctr:=[Vf,J8,W6,Vl,UL,Vm]
def Qba (n : Nat) (a0 : Int) (a1 : (List Int)) : Option GL:=run Try.prog US Hs (Qp Ht) Try.f30 (Try.f30.body.getD .skip) (QG [GK]) n (QM [I64,(.list U8)] (a0,a1,()))
abbrev Ge (n : Nat) (x1 : Int) (x2 : (List Int)) (x3 : GL) : Option GL:=lam Try.prog US Hs (Qp Ht) Try.f30 (Try.f30.body.getD .skip) (QG [GK]) n [1,3] [.d I64 x1,.d (.list U8) x2,.ptr 0 4 0,.agg (ZN GK x3)]
theorem QcU (n : Nat) (a0 : Int) (a1 : (List Int)) : Qba n a0 a1 =
  bif !(QN a0) then
   some (0,0)
  else
   bif decide ((20000 : Int) < (a1.length : Int)) then
    some (0,0)
   else
    Ge n a0 a1 (0,0):=by kernel_rfl
theorem Ea (n : Nat) (x1 : Int) (x2 : (List Int)) (x3 : GL) : Ge (n + 1) x1 x2 x3 =
  Option.bind (YN (Qb x1) x2) fun (y1 : (List Int)) =>
  Option.bind (Zv y1) fun (y2 : Int) =>
  Option.bind (VZ 4 (IntKind.wrap .i64 (1 + (Int.tmod y2 1073741788))) 2147483579) fun (y3 : Int) =>
  Option.bind (Zw y3 x2) fun (y4 : Int) =>
  some (y3,Int.tmod (IntKind.wrap .i64 ((IntKind.wrap .i64 (1 + (Int.tmod y2 1073741788))) + (IntKind.wrap .i64 (y4 * x1)))) 1073741789):=by kernel_rfl
theorem Qbv {x1 : Int} {x2 : (List Int)} {x3 : GL} {r : GL} (h : YF x1 x2 = some r) : Ev (fun n=>Ge n x1 x2 x3) r:=by
 rw [YF] at h
 refine Ev.step ?_ (fun n=>Ea n x1 x2 x3)
 exact (Ev.ofBind h fun y1 h=>(Ev.ofBind h fun y2 h=>(Ev.ofBind h fun y3 h=>(Ev.ofBind h fun y4 h=>(Ev.ofSome h)))))
theorem Qfe (a0 : Int) (a1 : (List Int)) {r : GL} (h : Yq a0 a1 = some r) : Ev (fun n=>Qba n a0 a1) r:=by
 rw [Yq] at h
 refine Ev.of_eq ?_ (fun n=>QcU n a0 a1)
 exact (Ev.ofBif h (fun h=>(Ev.ofSome h)) (fun h=>(Ev.ofBif h (fun h=>(Ev.ofSome h)) (fun h=>(Qbv h)))))
theorem Qdu : ∀ x ∈ Ht,Qu Try.prog x:=(Qc HJ (Qc Vi (Qc Qfc (Qc HM (Qc Qey (Qc W9 Qm))))))
theorem Qez : Qu Try.prog (UR):=by
 refine Qq (c:=UR) (by kernel_rfl) (by kernel_rfl : Try.prog.funcs[30]? = some Try.f30) (code:=Try.f30.body.getD .skip) (by kernel_rfl) (by kernel_rfl) (by kernel_rfl) (A:=US) (I:=Hs) (Qdu) ?_
 rintro ⟨a0,a1,u⟩ y hy
 exact (Qfe a0 a1 hy).get
def QS (a0 : Int) (a1 : (List Int)) (a2 : (List Int)) (a3 : Int) : Option Jx :=
 bif !(QN a0) then
  some (([] : List Int),0,0,0)
 else
  bif !(ZJ a1 a2 a3) then
   some (([] : List Int),0,0,0)
  else
   Option.bind (Q6 a1 a2 a3) fun (y1 : (List Int)) =>
   Option.bind (Yq a0 y1) fun (y2 : GL) =>
   some (a1,a3,y2)
def JY : Ctr:=⟨18,[I64,.str,(.list U8),I64],[Jw],fun x=>QS x.1 x.2.1 x.2.2.1 x.2.2.2.1⟩
def Vn : List (List Nat × Ann):=[]
def Y0 : List (List Nat × Nat):=[]
def Y1 : List Ctr:=[Vf,J9,Yy,UR]
def Vo (n : Nat) (a0 : Int) (a1 : (List Int)) (a2 : (List Int)) (a3 : Int) : Option Jx:=run Try.prog Vn Y0 (Qp Y1) Try.f18 (Try.f18.body.getD .skip) (QG [Jw]) n (QM [I64,.str,(.list U8),I64] (a0,a1,a2,a3,()))
theorem Xa (n : Nat) (a0 : Int) (a1 : (List Int)) (a2 : (List Int)) (a3 : Int) : Vo n a0 a1 a2 a3 =
  bif !(QN a0) then
   some (([] : List Int),0,0,0)
  else
   bif !(ZJ a1 a2 a3) then
    some (([] : List Int),0,0,0)
   else
    Option.bind (Q6 a1 a2 a3) fun (y1 : (List Int)) =>
    Option.bind (Yq a0 y1) fun (y2 : GL) =>
    some (a1,a3,y2):=by kernel_rfl
theorem Hu (a0 : Int) (a1 : (List Int)) (a2 : (List Int)) (a3 : Int) {r : Jx} (h : QS a0 a1 a2 a3 = some r) : Ev (fun n=>Vo n a0 a1 a2 a3) r:=by
 rw [QS] at h
 refine Ev.of_eq ?_ (fun n=>Xa n a0 a1 a2 a3)
 exact (Ev.ofBif h (fun h=>(Ev.ofSome h)) (fun h=>(Ev.ofBif h (fun h=>(Ev.ofSome h)) (fun h=>(Ev.ofBind h fun y1 h=>(Ev.ofBind h fun y2 h=>(Ev.ofSome h)))))))
theorem Xv : ∀ x ∈ Y1,Qu Try.prog x:=(Qc HJ (Qc Hl (Qc UD (Qc Qez Qm))))
theorem XZ : Qu Try.prog (JY):=by
 refine Qq (c:=JY) (by kernel_rfl) (by kernel_rfl : Try.prog.funcs[18]? = some Try.f18) (code:=Try.f18.body.getD .skip) (by kernel_rfl) (by kernel_rfl) (by kernel_rfl) (A:=Vn) (I:=Y0) (Xv) ?_
 rintro ⟨a0,a1,a2,a3,u⟩ y hy
 exact (Hu a0 a1 a2 a3 hy).get
def Vp : Ctr:=⟨7,[(.list U8)],[(.list U8)],fun x=>toC (.list U8) x.1⟩
def G0 : List (List Nat × Ann):=[([0,3],[.keep 0 0,.keep 0 3,.keep 0 4,.rows 0 7 U8])]
def Gf : List (List Nat × Nat):=[]
def YG : List Ctr:=[]
def UT (n : Nat) (a0 : (List Int)) : Option (List Int):=run Try.prog G0 Gf (Qp YG) Try.f7 (Try.f7.body.getD .skip) (QG [(.list U8)]) n (QM [(.list U8)] (a0,()))
abbrev YO (n : Nat) (x1 : (List Int)) (x2 : Int) (x3 : (List Int)) : Option (List Int):=lam Try.prog G0 Gf (Qp YG) Try.f7 (Try.f7.body.getD .skip) (QG [(.list U8)]) n [0,3] [.d (.list U8) x1,.msl 0 7,.d I64 x2,.d (.list U8) x3]
theorem E4 (n : Nat) (a0 : (List Int)) : UT n a0 =
  bif decide ((a0.length : Int) = (a0.length : Int)) && decide ((0 : Int) ≤ (a0.length : Int)) && decide ((a0.length : Int) * 1 ≤ QI) && true then
   YO n a0 0 (List.replicate (Int.toNat (a0.length : Int)) 0)
  else none:=by kernel_rfl
theorem H0 (n : Nat) (x1 : (List Int)) (x2 : Int) (x3 : (List Int)) : YO (n + 1) x1 x2 x3 =
  bif decide (x2 < (x1.length : Int)) then
   bif inB x2 x1.length then
    bif inB x2 x3.length then
     bif inB x2 x3.length && true && true && true && true then
      YO n x1 (IntKind.wrap .i64 (x2 + 1)) (x3.set (Int.toNat x2) (rd x1 x2 (Ty.dflt U8)))
     else none
    else none
   else none
  else
   some x3:=by kernel_rfl
theorem Qbw (hcs : ∀ x ∈ YG,Qu Try.prog x) (h : ∀ (a0 : (List Int)) y,toC (.list U8) a0 = some y → ∃ n,UT n a0 = some y) : Qu Try.prog Vp:=by
 refine Qq (c:=Vp) (by kernel_rfl) (by kernel_rfl : Try.prog.funcs[7]? = some Try.f7) (code:=Try.f7.body.getD .skip) (by kernel_rfl) (by kernel_rfl) (by kernel_rfl) (A:=G0) (I:=Gf) hcs ?_
 rintro ⟨a0,u⟩ y hy
 exact h a0 y hy
theorem QaQ : ∀ x ∈ YG,Qu Try.prog x:=Qm
theorem Qbx : Qu Try.prog Vp:=Qbw QaQ fun a0 y hy=>by
 obtain ⟨n,hn⟩:=QiH (t:=U8) (f:=fun x=>some x) (fun x _ _=>rfl) (by_:=1) (by omega) (fun n xs i out=>H0 n xs i out) hy
 exact ⟨n,(E4 n a0).trans hn⟩
def Gt : Ctr:=⟨32,[GK,GK],[.bool],fun x=>eqC GK x.1 x.2.1⟩
def E5 : List (List Nat × Ann):=[]
def Wx : List (List Nat × Nat):=[]
def Xw : List Ctr:=[]
def E6 (n : Nat) (a0 : GL) (a1 : GL) : Option Bool:=run Try.prog E5 Wx (Qp Xw) Try.f32 (Try.f32.body.getD .skip) (QG [.bool]) n (QM [GK,GK] (a0,a1,()))
theorem Qby (n : Nat) (a0 : GL) (a1 : GL) : E6 n a0 a1 =
  bif !decide (a0.1 = a1.1) then
   some false
  else
   bif !decide (a0.2 = a1.2) then
    some false
   else
    some true:=by kernel_rfl
theorem Qdv (hcs : ∀ x ∈ Xw,Qu Try.prog x) (h : ∀ (a0 : GL) (a1 : GL) y,eqC GK a0 a1 = some y → ∃ n,E6 n a0 a1 = some y) : Qu Try.prog Gt:=by
 refine Qq (c:=Gt) (by kernel_rfl) (by kernel_rfl : Try.prog.funcs[32]? = some Try.f32) (code:=Try.f32.body.getD .skip) (by kernel_rfl) (by kernel_rfl) (by kernel_rfl) (A:=E5) (I:=Wx) hcs ?_
 rintro ⟨a0,a1,u⟩ y hy
 exact h a0 a1 y hy
theorem QcV : ∀ x ∈ Xw,Qu Try.prog x:=Qm
theorem Qdw : Qu Try.prog Gt:=Qdv QcV fun a0 a1 y hy=>by
 obtain ⟨rfl,hw,rfl⟩:=Qet hy
 have hw2 : wfD I64 a0.1 ∧ wfD I64 a0.2:=hw
 refine ⟨0,?_⟩
 rw [Qby]
 simp []
def YH : Ctr:=⟨19,[Jw,Jw],[.bool],fun x=>eqC Jw x.1 x.2.1⟩
def HP : List (List Nat × Ann):=[]
def X0 : List (List Nat × Nat):=[]
def VK : List Ctr:=[Gt]
def HQ (n : Nat) (a0 : Jx) (a1 : Jx) : Option Bool:=run Try.prog HP X0 (Qp VK) Try.f19 (Try.f19.body.getD .skip) (QG [.bool]) n (QM [Jw,Jw] (a0,a1,()))
theorem Eb (n : Nat) (a0 : Jx) (a1 : Jx) : HQ n a0 a1 =
  bif !decide (a0.1 = a1.1) then
   some false
  else
   bif !decide (a0.2.1 = a1.2.1) then
    some false
   else
    Option.bind (eqC GK a0.2.2 a1.2.2) fun (y1 : Bool) =>
    bif !(y1) then
     some false
    else
     some true:=by kernel_rfl
theorem QaR (hcs : ∀ x ∈ VK,Qu Try.prog x) (h : ∀ (a0 : Jx) (a1 : Jx) y,eqC Jw a0 a1 = some y → ∃ n,HQ n a0 a1 = some y) : Qu Try.prog YH:=by
 refine Qq (c:=YH) (by kernel_rfl) (by kernel_rfl : Try.prog.funcs[19]? = some Try.f19) (code:=Try.f19.body.getD .skip) (by kernel_rfl) (by kernel_rfl) (by kernel_rfl) (A:=HP) (I:=X0) hcs ?_
 rintro ⟨a0,a1,u⟩ y hy
 exact h a0 a1 y hy
theorem E7 : ∀ x ∈ VK,Qu Try.prog x:=(Qc Qdw Qm)
theorem QaS : Qu Try.prog YH:=QaR E7 fun a0 a1 y hy=>by
 obtain ⟨rfl,hw,rfl⟩:=Qet hy
 have hw2 : wfD .str a0.1 ∧ wfD I64 a0.2.1 ∧ wfD GK a0.2.2:=hw
 refine ⟨0,?_⟩
 rw [Eb]
 simp [QcF hw2.2.2]
def Vq : Ctr:=⟨9,[(.list U8),(.list U8)],[.bool],fun x=>eqC (.list U8) x.1 x.2.1⟩
def G1 : List (List Nat × Ann):=[([0,4],[.keep 0 0,.keep 0 1,.keep 0 5])]
def Gg : List (List Nat × Nat):=[]
def YI : List Ctr:=[]
def UU (n : Nat) (a0 : (List Int)) (a1 : (List Int)) : Option Bool:=run Try.prog G1 Gg (Qp YI) Try.f9 (Try.f9.body.getD .skip) (QG [.bool]) n (QM [(.list U8),(.list U8)] (a0,a1,()))
abbrev YP (n : Nat) (x1 : (List Int)) (x2 : (List Int)) (x3 : Int) : Option Bool:=lam Try.prog G1 Gg (Qp YI) Try.f9 (Try.f9.body.getD .skip) (QG [.bool]) n [0,4] [.d (.list U8) x1,.d (.list U8) x2,.d I64 x3]
theorem E8 (n : Nat) (a0 : (List Int)) (a1 : (List Int)) : UU n a0 a1 =
  bif !decide ((a0.length : Int) = (a1.length : Int)) then
   some false
  else
   YP n a0 a1 0:=by kernel_rfl
theorem H1 (n : Nat) (x1 : (List Int)) (x2 : (List Int)) (x3 : Int) : YP (n + 1) x1 x2 x3 =
  bif decide (x3 < (x1.length : Int)) then
   bif inB x3 x1.length then
    bif inB x3 x2.length then
     bif !decide (rd x1 x3 (Ty.dflt U8) = rd x2 x3 (Ty.dflt U8)) then
      some false
     else
      YP n x1 x2 (IntKind.wrap .i64 (x3 + 1))
    else none
   else none
  else
   some true:=by kernel_rfl
theorem Qbz (hcs : ∀ x ∈ YI,Qu Try.prog x) (h : ∀ (a0 : (List Int)) (a1 : (List Int)) y,eqC (.list U8) a0 a1 = some y → ∃ n,UU n a0 a1 = some y) : Qu Try.prog Vq:=by
 refine Qq (c:=Vq) (by kernel_rfl) (by kernel_rfl : Try.prog.funcs[9]? = some Try.f9) (code:=Try.f9.body.getD .skip) (by kernel_rfl) (by kernel_rfl) (by kernel_rfl) (A:=G1) (I:=Gg) hcs ?_
 rintro ⟨a0,a1,u⟩ y hy
 exact h a0 a1 y hy
theorem QaT : ∀ x ∈ YI,Qu Try.prog x:=Qm
theorem QbA : Qu Try.prog Vq:=Qbz QaT fun a0 a1 y hy=>by
 obtain ⟨n,hn⟩:=QiI (t:=U8) (body:=fun x y K=>bif !decide (x = y) then some false else K ()) (fun x K h=>by simp) (fun n xs ys i=>H1 n xs ys i) hy
 exact ⟨n,(E8 n a0 a1).trans hn⟩
def Q8 (a0 : Int) (a1 : (List Int)) (a2 : (List Int)) (a3 : Int) : Option Bool :=
 bif decide ((1048576 : Int) < (a1.length : Int)) then
  some true
 else
  bif decide ((1048576 : Int) < (a2.length : Int)) then
   some true
  else
   Option.bind (toC (.list U8) a2) fun (y1 : (List Int)) =>
   Option.bind (QR a0 a1 y1 a3) fun (y2 : Jx) =>
   Option.bind (toC (.list U8) a2) fun (y3 : (List Int)) =>
   Option.bind (QS a0 a1 y3 a3) fun (y4 : Jx) =>
   Option.bind (eqC Jw y4 y2) fun (y5 : Bool) =>
   bif !(y5) then
    some false
   else
    Option.bind (toC (.list U8) a2) fun (y6 : (List Int)) =>
    Option.bind (eqC (.list U8) y3 y6) fun (y7 : Bool) =>
    bif !(y7) then
     some false
    else
     some true
def JP : List (List Nat × Ann):=[]
def JM : List (List Nat × Nat):=[]
def JN : List Ctr:=[Vp,JW,JY,YH,Vq]
def JQ (n : Nat) (a0 : Int) (a1 : (List Int)) (a2 : (List Int)) (a3 : Int) : Option Bool:=run Try.prog JP JM (Qp JN) Try.f5 (Try.f5.body.getD .skip) (QG [.bool]) n (QM [I64,.str,(.list U8),I64] (a0,a1,a2,a3,()))
theorem Vr (n : Nat) (a0 : Int) (a1 : (List Int)) (a2 : (List Int)) (a3 : Int) : JQ n a0 a1 a2 a3 =
  bif decide ((1048576 : Int) < (a1.length : Int)) then
   some true
  else
   bif decide ((1048576 : Int) < (a2.length : Int)) then
    some true
   else
    Option.bind (toC (.list U8) a2) fun (y1 : (List Int)) =>
    Option.bind (QR a0 a1 y1 a3) fun (y2 : Jx) =>
    Option.bind (toC (.list U8) a2) fun (y3 : (List Int)) =>
    Option.bind (QS a0 a1 y3 a3) fun (y4 : Jx) =>
    Option.bind (eqC Jw y4 y2) fun (y5 : Bool) =>
    bif !(y5) then
     some false
    else
     Option.bind (toC (.list U8) a2) fun (y6 : (List Int)) =>
     Option.bind (eqC (.list U8) y3 y6) fun (y7 : Bool) =>
     bif !(y7) then
      some false
     else
      some true:=by kernel_rfl
theorem V0 (a0 : Int) (a1 : (List Int)) (a2 : (List Int)) (a3 : Int) {r : Bool} (h : Q8 a0 a1 a2 a3 = some r) : Ev (fun n=>JQ n a0 a1 a2 a3) r:=by
 rw [Q8] at h
 refine Ev.of_eq ?_ (fun n=>Vr n a0 a1 a2 a3)
 exact (Ev.ofBif h (fun h=>(Ev.ofSome h)) (fun h=>(Ev.ofBif h (fun h=>(Ev.ofSome h)) (fun h=>(Ev.ofBind h fun y1 h=>(Ev.ofBind h fun y2 h=>(Ev.ofBind h fun y3 h=>(Ev.ofBind h fun y4 h=>(Ev.ofBind h fun y5 h=>(Ev.ofBif h (fun h=>(Ev.ofSome h)) (fun h=>(Ev.ofBind h fun y6 h=>(Ev.ofBind h fun y7 h=>(Ev.ofBif h (fun h=>(Ev.ofSome h)) (fun h=>(Ev.ofSome h))))))))))))))))
end
end Go.Ab
