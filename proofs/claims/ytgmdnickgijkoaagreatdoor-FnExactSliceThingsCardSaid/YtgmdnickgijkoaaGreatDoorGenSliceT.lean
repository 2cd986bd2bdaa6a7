import Derived.Test.YtgmdnickgijkoaaGreatDoorGenSliceTb
import Derived.Test.YtgmdnickgijkoaaGreatDoorProg
import Derived.KernelRfl
namespace Go.Ab
noncomputable section
open Go.Proofs
set_option maxRecDepth 20000
theorem QpX : Qee Tryz.prog 18 (.list Qg):=Qjj (tl:=41) (by kernel_rfl : Tryz.prog.funcs[18]? = some Tryz.f18) (c:=Tryz.f18.body.getD .skip) (by kernel_rfl) (by kernel_rfl) (gt:=(some 49)) (hs:=[(53,(.list Qo))]) (Qgb VU) (QaN QtO Qgt) (by kernel_rfl)
def QfO : Ctr:=QEJ 18 (.list Qg) fun x=>Qef (.list Qg) x.1 x.2.1
theorem QpY : Qh Tryz.prog QfO:=QDW (by kernel_rfl) (by kernel_rfl) QpX
def Jz : List Qb → Int → Option Int
 | [],x2 =>
   some x2
 | e :: rest,x2 =>
   bif !decide ((e).1 = x2) then
    some (-1)
   else
    bif !decide (((e).2).1 = IntKind.wrap .i64 (x2 + 1)) then
     some (-1)
    else
     Option.bind (Q9 (IntKind.wrap .i64 ((IntKind.wrap .i64 (x2 + 1)) + 1))) fun (y1 : (List Int)) =>
     bif !decide ((((e).2).2).1 = y1) then
      some (-1)
     else
      Option.bind (Q9 (IntKind.wrap .i64 ((IntKind.wrap .i64 ((IntKind.wrap .i64 (x2 + 1)) + 1)) + 1))) fun (y2 : (List Int)) =>
      bif !decide ((((e).2).2).2 = y2) then
       some (-1)
      else
       Jz rest (IntKind.wrap .i64 ((IntKind.wrap .i64 ((IntKind.wrap .i64 ((IntKind.wrap .i64 (x2 + 1)) + 1)) + 1)) + 1))
def Jk (a0 : (List Qb)) (a1 : Int) : Option Int :=
 Zu a0 (Jz a0 a1)
def WB : Ctr:=⟨54,[(.list Qa),I64],[I64],fun x=>Jk x.1 x.2.1⟩
def QdH : List (List Nat × Ann):=[([0,2],[.keep 0 0,.keep 0 1,.keep 0 5])]
def Qb2 : List (List Nat × Nat):=[]
def Qb3 : List Ctr:=[Xn]
def Qkz (n : Nat) (a0 : (List Qb)) (a1 : Int) : Option Int:=run Tryz.prog QdH Qb2 (Qn Qb3) Tryz.f54 (Tryz.f54.body.getD .skip) (Qp [I64]) n (Qt [(.list Qa),I64] (a0,a1,()))
abbrev Ge (n : Nat) (x1 : (List Qb)) (x2 : Int) (x3 : Int) : Option Int:=lam Tryz.prog QdH Qb2 (Qn Qb3) Tryz.f54 (Tryz.f54.body.getD .skip) (Qp [I64]) n [0,2] [.d (.list Qa) x1,.d I64 x2,.d I64 x3]
theorem Qrr (n : Nat) (a0 : (List Qb)) (a1 : Int) : Qkz n a0 a1 =
  Ge n a0 a1 0:=by kernel_rfl
theorem QaV (n : Nat) (x1 : (List Qb)) (x2 : Int) (x3 : Int) : Ge (n + 1) x1 x2 x3 =
  bif decide (x3 < (x1.length : Int)) then
   bif inB x3 x1.length then
    bif !decide ((rd x1 x3 (Ty.dflt Qa)).1 = x2) then
     some (-1)
    else
     bif inB x3 x1.length then
      bif !decide (((rd x1 x3 (Ty.dflt Qa)).2).1 = IntKind.wrap .i64 (x2 + 1)) then
       some (-1)
      else
       bif inB x3 x1.length then
        Option.bind (Q9 (IntKind.wrap .i64 ((IntKind.wrap .i64 (x2 + 1)) + 1))) fun (y1 : (List Int)) =>
        bif !decide ((((rd x1 x3 (Ty.dflt Qa)).2).2).1 = y1) then
         some (-1)
        else
         bif inB x3 x1.length then
          Option.bind (Q9 (IntKind.wrap .i64 ((IntKind.wrap .i64 ((IntKind.wrap .i64 (x2 + 1)) + 1)) + 1))) fun (y2 : (List Int)) =>
          bif !decide ((((rd x1 x3 (Ty.dflt Qa)).2).2).2 = y2) then
           some (-1)
          else
           Ge n x1 (IntKind.wrap .i64 ((IntKind.wrap .i64 ((IntKind.wrap .i64 ((IntKind.wrap .i64 (x2 + 1)) + 1)) + 1)) + 1)) (IntKind.wrap .i64 (x3 + 1))
         else none
       else none
     else none
   else none
  else
   some x2:=by kernel_rfl
theorem QpZ {x1 : (List Qb)} (hl : x1.length ≤ maxLen) : ∀ (rest : List Qb) (k : Nat) (x2 : Int) (r : Int),rest = x1.drop k → Jz rest x2 = some r → Ev (fun n=>Ge n x1 x2 (k : Int)) r:=by
 intro rest
 induction rest with
 | nil =>
  intro k x2 r hr h
  have hk:=QH hr
  rw [Jz] at h
  refine Ev.step ?_ (fun n=>QaV n x1 x2 (k : Int))
  rw [show decide ((k : Int) < (x1.length : Int)) = false from decide_eq_false (by omega)]
  exact Ev.neg rfl (Ev.ofSome h)
 | cons e rest ih =>
  intro k x2 r hr h
  obtain ⟨hk,hx,hr2⟩:=Qz (d:=(Ty.dflt Qa)) hr
  have hw:=Qy hl hk
  have ih2 : ∀ (z2 : Int) (r : Int),Jz rest z2 = some r → Ev (fun n=>Ge n x1 z2 (IntKind.wrap .i64 ((k : Int) + 1))) r:=by
   intro z2 r h; rw [hw]; exact ih (k + 1) z2 r hr2 h
  rw [Jz] at h
  refine Ev.step ?_ (fun n=>QaV n x1 x2 (k : Int))
  rw [show decide ((k : Int) < (x1.length : Int)) = true from decide_eq_true (by omega),Qx hk,hx]
  exact Ev.pos rfl (Ev.pos rfl (Ev.ofBif h (fun h=>(Ev.ofSome h)) (fun h=>(Ev.pos rfl (Ev.ofBif h (fun h=>(Ev.ofSome h)) (fun h=>(Ev.pos rfl (Ev.ofBind h fun y1 h=>(Ev.ofBif h (fun h=>(Ev.ofSome h)) (fun h=>(Ev.pos rfl (Ev.ofBind h fun y2 h=>(Ev.ofBif h (fun h=>(Ev.ofSome h)) (fun h=>(ih2 _ _ h)))))))))))))))
theorem Qx3 (a0 : (List Qb)) (a1 : Int) {r : Int} (h : Jk a0 a1 = some r) : Ev (fun n=>Qkz n a0 a1) r:=by
 rw [Jk] at h
 refine Ev.of_eq ?_ (fun n=>Qrr n a0 a1)
 exact (Ev.ofLen h fun hl h=>QpZ hl _ (0 : Nat) _ _ rfl h)
theorem QtP : ∀ x ∈ Qb3,Qh Tryz.prog x:=(Qd Hi Qk)
theorem Qiv : Qh Tryz.prog (WB):=by
 refine Qj (c:=WB) (by kernel_rfl) (by kernel_rfl : Tryz.prog.funcs[54]? = some Tryz.f54) (code:=Tryz.f54.body.getD .skip) (by kernel_rfl) (by kernel_rfl) (by kernel_rfl) (A:=QdH) (I:=Qb2) (QtP) ?_
 rintro ⟨a0,a1,u⟩ y hy
 exact (Qx3 a0 a1 hy).get
def ZY : List (List Int) → Int → Option Int
 | [],x2 =>
   some x2
 | e :: rest,x2 =>
   Option.bind (Q9 x2) fun (y1 : (List Int)) =>
   bif !decide (e = y1) then
    some (-1)
   else
    ZY rest (IntKind.wrap .i64 (x2 + 1))
def ZE (a0 : (List (List Int))) (a1 : Int) : Option Int :=
 Zu a0 (ZY a0 a1)
def HO : Ctr:=⟨55,[(.list .str),I64],[I64],fun x=>ZE x.1 x.2.1⟩
def Qax : List (List Nat × Ann):=[([0,2],[.keep 0 0,.keep 0 1,.keep 0 5])]
def W9 : List (List Nat × Nat):=[]
def Ea : List Ctr:=[Xn]
def Qhs (n : Nat) (a0 : (List (List Int))) (a1 : Int) : Option Int:=run Tryz.prog Qax W9 (Qn Ea) Tryz.f55 (Tryz.f55.body.getD .skip) (Qp [I64]) n (Qt [(.list .str),I64] (a0,a1,()))
abbrev Vw (n : Nat) (x1 : (List (List Int))) (x2 : Int) (x3 : Int) : Option Int:=lam Tryz.prog Qax W9 (Qn Ea) Tryz.f55 (Tryz.f55.body.getD .skip) (Qp [I64]) n [0,2] [.d (.list .str) x1,.d I64 x2,.d I64 x3]
theorem QnY (n : Nat) (a0 : (List (List Int))) (a1 : Int) : Qhs n a0 a1 =
  Vw n a0 a1 0:=by kernel_rfl
theorem WS (n : Nat) (x1 : (List (List Int))) (x2 : Int) (x3 : Int) : Vw (n + 1) x1 x2 x3 =
  bif decide (x3 < (x1.length : Int)) then
   bif inB x3 x1.length then
    Option.bind (Q9 x2) fun (y1 : (List Int)) =>
    bif !decide (rd x1 x3 (Ty.dflt .str) = y1) then
     some (-1)
    else
     Vw n x1 (IntKind.wrap .i64 (x2 + 1)) (IntKind.wrap .i64 (x3 + 1))
   else none
  else
   some x2:=by kernel_rfl
theorem QlT {x1 : (List (List Int))} (hl : x1.length ≤ maxLen) : ∀ (rest : List (List Int)) (k : Nat) (x2 : Int) (r : Int),rest = x1.drop k → ZY rest x2 = some r → Ev (fun n=>Vw n x1 x2 (k : Int)) r:=by
 intro rest
 induction rest with
 | nil =>
  intro k x2 r hr h
  have hk:=QH hr
  rw [ZY] at h
  refine Ev.step ?_ (fun n=>WS n x1 x2 (k : Int))
  rw [show decide ((k : Int) < (x1.length : Int)) = false from decide_eq_false (by omega)]
  exact Ev.neg rfl (Ev.ofSome h)
 | cons e rest ih =>
  intro k x2 r hr h
  obtain ⟨hk,hx,hr2⟩:=Qz (d:=(Ty.dflt .str)) hr
  have hw:=Qy hl hk
  have ih2 : ∀ (z2 : Int) (r : Int),ZY rest z2 = some r → Ev (fun n=>Vw n x1 z2 (IntKind.wrap .i64 ((k : Int) + 1))) r:=by
   intro z2 r h; rw [hw]; exact ih (k + 1) z2 r hr2 h
  rw [ZY] at h
  refine Ev.step ?_ (fun n=>WS n x1 x2 (k : Int))
  rw [show decide ((k : Int) < (x1.length : Int)) = true from decide_eq_true (by omega),Qx hk,hx]
  exact Ev.pos rfl (Ev.pos rfl (Ev.ofBind h fun y1 h=>(Ev.ofBif h (fun h=>(Ev.ofSome h)) (fun h=>(ih2 _ _ h)))))
theorem QtQ (a0 : (List (List Int))) (a1 : Int) {r : Int} (h : ZE a0 a1 = some r) : Ev (fun n=>Qhs n a0 a1) r:=by
 rw [ZE] at h
 refine Ev.of_eq ?_ (fun n=>QnY n a0 a1)
 exact (Ev.ofLen h fun hl h=>QlT hl _ (0 : Nat) _ _ rfl h)
theorem Qp0 : ∀ x ∈ Ea,Qh Tryz.prog x:=(Qd Hi Qk)
theorem QfP : Qh Tryz.prog (HO):=by
 refine Qj (c:=HO) (by kernel_rfl) (by kernel_rfl : Tryz.prog.funcs[55]? = some Tryz.f55) (code:=Tryz.f55.body.getD .skip) (by kernel_rfl) (by kernel_rfl) (by kernel_rfl) (A:=Qax) (I:=W9) (Qp0) ?_
 rintro ⟨a0,a1,u⟩ y hy
 exact (QtQ a0 a1 hy).get
def Z7 : List Ql → Int → Option Int
 | [],x2 =>
   some x2
 | e :: rest,x2 =>
   bif !decide ((e).1 = x2) then
    some (-1)
   else
    bif !decide ((((e).2).1).1 = IntKind.wrap .i64 (x2 + 1)) then
     some (-1)
    else
     bif !decide (((((e).2).1).2).1 = IntKind.wrap .i64 ((IntKind.wrap .i64 (x2 + 1)) + 1)) then
      some (-1)
     else
      Option.bind (Q9 (IntKind.wrap .i64 ((IntKind.wrap .i64 ((IntKind.wrap .i64 (x2 + 1)) + 1)) + 1))) fun (y1 : (List Int)) =>
      bif !decide ((((((e).2).1).2).2).1 = y1) then
       some (-1)
      else
       Option.bind (Q9 (IntKind.wrap .i64 ((IntKind.wrap .i64 ((IntKind.wrap .i64 ((IntKind.wrap .i64 (x2 + 1)) + 1)) + 1)) + 1))) fun (y2 : (List Int)) =>
       bif !decide ((((((e).2).1).2).2).2 = y2) then
        some (-1)
       else
        Option.bind (Jk ((((e).2).2).1) (IntKind.wrap .i64 ((IntKind.wrap .i64 ((IntKind.wrap .i64 ((IntKind.wrap .i64 ((IntKind.wrap .i64 (x2 + 1)) + 1)) + 1)) + 1)) + 1))) fun (y3 : Int) =>
        bif decide (y3 < 0) then
         some (-1)
        else
         Option.bind (ZE ((((e).2).2).2) y3) fun (y4 : Int) =>
         bif decide (y4 < 0) then
          some (-1)
         else
          Z7 rest y4
def YG (a0 : (List Ql)) (a1 : Int) : Option Int :=
 Zu a0 (Z7 a0 a1)
def Qb4 : Ctr:=⟨56,[(.list Qf),I64],[I64],fun x=>YG x.1 x.2.1⟩
def Qb5 : List (List Nat × Ann):=[([0,2],[.keep 0 0,.keep 0 1,.keep 0 5])]
def Qay : List (List Nat × Nat):=[]
def Qaz : List Ctr:=[Xn,WB,HO]
def Qiw (n : Nat) (a0 : (List Ql)) (a1 : Int) : Option Int:=run Tryz.prog Qb5 Qay (Qn Qaz) Tryz.f56 (Tryz.f56.body.getD .skip) (Qp [I64]) n (Qt [(.list Qf),I64] (a0,a1,()))
abbrev VM (n : Nat) (x1 : (List Ql)) (x2 : Int) (x3 : Int) : Option Int:=lam Tryz.prog Qb5 Qay (Qn Qaz) Tryz.f56 (Tryz.f56.body.getD .skip) (Qp [I64]) n [0,2] [.d (.list Qf) x1,.d I64 x2,.d I64 x3]
theorem Qp1 (n : Nat) (a0 : (List Ql)) (a1 : Int) : Qiw n a0 a1 =
  VM n a0 a1 0:=by kernel_rfl
theorem Eo (n : Nat) (x1 : (List Ql)) (x2 : Int) (x3 : Int) : VM (n + 1) x1 x2 x3 =
  bif decide (x3 < (x1.length : Int)) then
   bif inB x3 x1.length then
    bif !decide ((rd x1 x3 (Ty.dflt Qf)).1 = x2) then
     some (-1)
    else
     bif inB x3 x1.length then
      bif !decide ((((rd x1 x3 (Ty.dflt Qf)).2).1).1 = IntKind.wrap .i64 (x2 + 1)) then
       some (-1)
      else
       bif inB x3 x1.length then
        bif !decide (((((rd x1 x3 (Ty.dflt Qf)).2).1).2).1 = IntKind.wrap .i64 ((IntKind.wrap .i64 (x2 + 1)) + 1)) then
         some (-1)
        else
         bif inB x3 x1.length then
          Option.bind (Q9 (IntKind.wrap .i64 ((IntKind.wrap .i64 ((IntKind.wrap .i64 (x2 + 1)) + 1)) + 1))) fun (y1 : (List Int)) =>
          bif !decide ((((((rd x1 x3 (Ty.dflt Qf)).2).1).2).2).1 = y1) then
           some (-1)
          else
           bif inB x3 x1.length then
            Option.bind (Q9 (IntKind.wrap .i64 ((IntKind.wrap .i64 ((IntKind.wrap .i64 ((IntKind.wrap .i64 (x2 + 1)) + 1)) + 1)) + 1))) fun (y2 : (List Int)) =>
            bif !decide ((((((rd x1 x3 (Ty.dflt Qf)).2).1).2).2).2 = y2) then
             some (-1)
            else
             bif inB x3 x1.length then
              Option.bind (Jk ((((rd x1 x3 (Ty.dflt Qf)).2).2).1) (IntKind.wrap .i64 ((IntKind.wrap .i64 ((IntKind.wrap .i64 ((IntKind.wrap .i64 ((IntKind.wrap .i64 (x2 + 1)) + 1)) + 1)) + 1)) + 1))) fun (y3 : Int) =>
              bif decide (y3 < 0) then
               some (-1)
              else
               bif inB x3 x1.length then
                Option.bind (ZE ((((rd x1 x3 (Ty.dflt Qf)).2).2).2) y3) fun (y4 : Int) =>
                bif decide (y4 < 0) then
                 some (-1)
                else
                 VM n x1 y4 (IntKind.wrap .i64 (x3 + 1))
               else none
             else none
           else none
         else none
       else none
     else none
   else none
  else
   some x2:=by kernel_rfl
theorem QnZ {x1 : (List Ql)} (hl : x1.length ≤ maxLen) : ∀ (rest : List Ql) (k : Nat) (x2 : Int) (r : Int),rest = x1.drop k → Z7 rest x2 = some r → Ev (fun n=>VM n x1 x2 (k : Int)) r:=by
 intro rest
 induction rest with
 | nil =>
  intro k x2 r hr h
  have hk:=QH hr
  rw [Z7] at h
  refine Ev.step ?_ (fun n=>Eo n x1 x2 (k : Int))
  rw [show decide ((k : Int) < (x1.length : Int)) = false from decide_eq_false (by omega)]
  exact Ev.neg rfl (Ev.ofSome h)
 | cons e rest ih =>
  intro k x2 r hr h
  obtain ⟨hk,hx,hr2⟩:=Qz (d:=(Ty.dflt Qf)) hr
  have hw:=Qy hl hk
  have ih2 : ∀ (z2 : Int) (r : Int),Z7 rest z2 = some r → Ev (fun n=>VM n x1 z2 (IntKind.wrap .i64 ((k : Int) + 1))) r:=by
   intro z2 r h; rw [hw]; exact ih (k + 1) z2 r hr2 h
  rw [Z7] at h
  refine Ev.step ?_ (fun n=>Eo n x1 x2 (k : Int))
  rw [show decide ((k : Int) < (x1.length : Int)) = true from decide_eq_true (by omega),Qx hk,hx]
  exact Ev.pos rfl (Ev.pos rfl (Ev.ofBif h (fun h=>(Ev.ofSome h)) (fun h=>(Ev.pos rfl (Ev.ofBif h (fun h=>(Ev.ofSome h)) (fun h=>(Ev.pos rfl (Ev.ofBif h (fun h=>(Ev.ofSome h)) (fun h=>(Ev.pos rfl (Ev.ofBind h fun y1 h=>(Ev.ofBif h (fun h=>(Ev.ofSome h)) (fun h=>(Ev.pos rfl (Ev.ofBind h fun y2 h=>(Ev.ofBif h (fun h=>(Ev.ofSome h)) (fun h=>(Ev.pos rfl (Ev.ofBind h fun y3 h=>(Ev.ofBif h (fun h=>(Ev.ofSome h)) (fun h=>(Ev.pos rfl (Ev.ofBind h fun y4 h=>(Ev.ofBif h (fun h=>(Ev.ofSome h)) (fun h=>(ih2 _ _ h))))))))))))))))))))))))))
theorem QvY (a0 : (List Ql)) (a1 : Int) {r : Int} (h : YG a0 a1 = some r) : Ev (fun n=>Qiw n a0 a1) r:=by
 rw [YG] at h
 refine Ev.of_eq ?_ (fun n=>Qp1 n a0 a1)
 exact (Ev.ofLen h fun hl h=>QnZ hl _ (0 : Nat) _ _ rfl h)
theorem Qrs : ∀ x ∈ Qaz,Qh Tryz.prog x:=(Qd Hi (Qd Qiv (Qd QfP Qk)))
theorem QtR : Qh Tryz.prog (Qb4):=by
 refine Qj (c:=Qb4) (by kernel_rfl) (by kernel_rfl : Tryz.prog.funcs[56]? = some Tryz.f56) (code:=Tryz.f56.body.getD .skip) (by kernel_rfl) (by kernel_rfl) (by kernel_rfl) (A:=Qb5) (I:=Qay) (Qrs) ?_
 rintro ⟨a0,a1,u⟩ y hy
 exact (QvY a0 a1 hy).get
def Z8 : List Qc → Int → Option Int
 | [],x2 =>
   some x2
 | e :: rest,x2 =>
   bif !decide (((e).1).1 = x2) then
    some (-1)
   else
    bif !decide ((((e).1).2).1 = IntKind.wrap .i64 (x2 + 1)) then
     some (-1)
    else
     Option.bind (Q9 (IntKind.wrap .i64 ((IntKind.wrap .i64 (x2 + 1)) + 1))) fun (y1 : (List Int)) =>
     bif !decide (((((e).1).2).2).1 = y1) then
      some (-1)
     else
      Option.bind (Q9 (IntKind.wrap .i64 ((IntKind.wrap .i64 ((IntKind.wrap .i64 (x2 + 1)) + 1)) + 1))) fun (y2 : (List Int)) =>
      bif !decide (((((e).1).2).2).2 = y2) then
       some (-1)
      else
       Option.bind (Jk (((e).2).1) (IntKind.wrap .i64 ((IntKind.wrap .i64 ((IntKind.wrap .i64 ((IntKind.wrap .i64 (x2 + 1)) + 1)) + 1)) + 1))) fun (y3 : Int) =>
       bif decide (y3 < 0) then
        some (-1)
       else
        Option.bind (ZE ((((e).2).2).1) y3) fun (y4 : Int) =>
        bif decide (y4 < 0) then
         some (-1)
        else
         Option.bind (YG ((((e).2).2).2) y4) fun (y5 : Int) =>
         bif decide (y5 < 0) then
          some (-1)
         else
          Z8 rest y5
def J5 (a0 : (List Qc)) (a1 : Int) : Option Int :=
 Zu a0 (Z8 a0 a1)
def Qb6 : Ctr:=⟨19,[(.list Qe),I64],[I64],fun x=>J5 x.1 x.2.1⟩
def Qb7 : List (List Nat × Ann):=[([0,2],[.keep 0 0,.keep 0 1,.keep 0 5])]
def QaA : List (List Nat × Nat):=[]
def QaB : List Ctr:=[Xn,WB,HO,Qb4]
def Qix (n : Nat) (a0 : (List Qc)) (a1 : Int) : Option Int:=run Tryz.prog Qb7 QaA (Qn QaB) Tryz.f19 (Tryz.f19.body.getD .skip) (Qp [I64]) n (Qt [(.list Qe),I64] (a0,a1,()))
abbrev VN (n : Nat) (x1 : (List Qc)) (x2 : Int) (x3 : Int) : Option Int:=lam Tryz.prog Qb7 QaA (Qn QaB) Tryz.f19 (Tryz.f19.body.getD .skip) (Qp [I64]) n [0,2] [.d (.list Qe) x1,.d I64 x2,.d I64 x3]
theorem Qp2 (n : Nat) (a0 : (List Qc)) (a1 : Int) : Qix n a0 a1 =
  VN n a0 a1 0:=by kernel_rfl
theorem Ep (n : Nat) (x1 : (List Qc)) (x2 : Int) (x3 : Int) : VN (n + 1) x1 x2 x3 =
  bif decide (x3 < (x1.length : Int)) then
   bif inB x3 x1.length then
    bif !decide (((rd x1 x3 (Ty.dflt Qe)).1).1 = x2) then
     some (-1)
    else
     bif inB x3 x1.length then
      bif !decide ((((rd x1 x3 (Ty.dflt Qe)).1).2).1 = IntKind.wrap .i64 (x2 + 1)) then
       some (-1)
      else
       bif inB x3 x1.length then
        Option.bind (Q9 (IntKind.wrap .i64 ((IntKind.wrap .i64 (x2 + 1)) + 1))) fun (y1 : (List Int)) =>
        bif !decide (((((rd x1 x3 (Ty.dflt Qe)).1).2).2).1 = y1) then
         some (-1)
        else
         bif inB x3 x1.length then
          Option.bind (Q9 (IntKind.wrap .i64 ((IntKind.wrap .i64 ((IntKind.wrap .i64 (x2 + 1)) + 1)) + 1))) fun (y2 : (List Int)) =>
          bif !decide (((((rd x1 x3 (Ty.dflt Qe)).1).2).2).2 = y2) then
           some (-1)
          else
           bif inB x3 x1.length then
            Option.bind (Jk (((rd x1 x3 (Ty.dflt Qe)).2).1) (IntKind.wrap .i64 ((IntKind.wrap .i64 ((IntKind.wrap .i64 ((IntKind.wrap .i64 (x2 + 1)) + 1)) + 1)) + 1))) fun (y3 : Int) =>
            bif decide (y3 < 0) then
             some (-1)
            else
             bif inB x3 x1.length then
              Option.bind (ZE ((((rd x1 x3 (Ty.dflt Qe)).2).2).1) y3) fun (y4 : Int) =>
              bif decide (y4 < 0) then
               some (-1)
              else
               bif inB x3 x1.length then
                Option.bind (YG ((((rd x1 x3 (Ty.dflt Qe)).2).2).2) y4) fun (y5 : Int) =>
                bif decide (y5 < 0) then
                 some (-1)
                else
                 VN n x1 y5 (IntKind.wrap .i64 (x3 + 1))
               else none
             else none
           else none
         else none
       else none
     else none
   else none
  else
   some x2:=by kernel_rfl
theorem Qn0 {x1 : (List Qc)} (hl : x1.length ≤ maxLen) : ∀ (rest : List Qc) (k : Nat) (x2 : Int) (r : Int),rest = x1.drop k → Z8 rest x2 = some r → Ev (fun n=>VN n x1 x2 (k : Int)) r:=by
 intro rest
 induction rest with
 | nil =>
  intro k x2 r hr h
  have hk:=QH hr
  rw [Z8] at h
  refine Ev.step ?_ (fun n=>Ep n x1 x2 (k : Int))
  rw [show decide ((k : Int) < (x1.length : Int)) = false from decide_eq_false (by omega)]
  exact Ev.neg rfl (Ev.ofSome h)
 | cons e rest ih =>
  intro k x2 r hr h
  obtain ⟨hk,hx,hr2⟩:=Qz (d:=(Ty.dflt Qe)) hr
  have hw:=Qy hl hk
  have ih2 : ∀ (z2 : Int) (r : Int),Z8 rest z2 = some r → Ev (fun n=>VN n x1 z2 (IntKind.wrap .i64 ((k : Int) + 1))) r:=by
   intro z2 r h; rw [hw]; exact ih (k + 1) z2 r hr2 h
  rw [Z8] at h
  refine Ev.step ?_ (fun n=>Ep n x1 x2 (k : Int))
  rw [show decide ((k : Int) < (x1.length : Int)) = true from decide_eq_true (by omega),Qx hk,hx]
  exact Ev.pos rfl (Ev.pos rfl (Ev.ofBif h (fun h=>(Ev.ofSome h)) (fun h=>(Ev.pos rfl (Ev.ofBif h (fun h=>(Ev.ofSome h)) (fun h=>(Ev.pos rfl (Ev.ofBind h fun y1 h=>(Ev.ofBif h (fun h=>(Ev.ofSome h)) (fun h=>(Ev.pos rfl (Ev.ofBind h fun y2 h=>(Ev.ofBif h (fun h=>(Ev.ofSome h)) (fun h=>(Ev.pos rfl (Ev.ofBind h fun y3 h=>(Ev.ofBif h (fun h=>(Ev.ofSome h)) (fun h=>(Ev.pos rfl (Ev.ofBind h fun y4 h=>(Ev.ofBif h (fun h=>(Ev.ofSome h)) (fun h=>(Ev.pos rfl (Ev.ofBind h fun y5 h=>(Ev.ofBif h (fun h=>(Ev.ofSome h)) (fun h=>(ih2 _ _ h)))))))))))))))))))))))))))
theorem QvZ (a0 : (List Qc)) (a1 : Int) {r : Int} (h : J5 a0 a1 = some r) : Ev (fun n=>Qix n a0 a1) r:=by
 rw [J5] at h
 refine Ev.of_eq ?_ (fun n=>Qp2 n a0 a1)
 exact (Ev.ofLen h fun hl h=>Qn0 hl _ (0 : Nat) _ _ rfl h)
theorem Qrt : ∀ x ∈ QaB,Qh Tryz.prog x:=(Qd Hi (Qd Qiv (Qd QfP (Qd QtR Qk))))
theorem QtS : Qh Tryz.prog (Qb6):=by
 refine Qj (c:=Qb6) (by kernel_rfl) (by kernel_rfl : Tryz.prog.funcs[19]? = some Tryz.f19) (code:=Tryz.f19.body.getD .skip) (by kernel_rfl) (by kernel_rfl) (by kernel_rfl) (A:=Qb7) (I:=QaA) (Qrt) ?_
 rintro ⟨a0,a1,u⟩ y hy
 exact (QvZ a0 a1 hy).get
def V2 : Ctr:=⟨24,[Qa,I64],[I64],fun x=>szC Qa x.1 x.2.1⟩
def QrX : List (List Nat × Ann):=[]
def Qp3 : List (List Nat × Nat):=[]
def Qht : List Ctr:=[]
def QrY (n : Nat) (a0 : Qb) (a1 : Int) : Option Int:=run Tryz.prog QrX Qp3 (Qn Qht) Tryz.f24 (Tryz.f24.body.getD .skip) (Qp [I64]) n (Qt [Qa,I64] (a0,a1,()))
theorem Qx4 (n : Nat) (a0 : Qb) (a1 : Int) : QrY n a0 a1 =
  bif decide (IntKind.wrap .i64 (a1 - (a0.2.2.1.length : Int)) < 0) then
   some (-1)
  else
   bif decide (IntKind.wrap .i64 ((IntKind.wrap .i64 (a1 - (a0.2.2.1.length : Int))) - (a0.2.2.2.length : Int)) < 0) then
    some (-1)
   else
    some (IntKind.wrap .i64 ((IntKind.wrap .i64 (a1 - (a0.2.2.1.length : Int))) - (a0.2.2.2.length : Int))):=by kernel_rfl
theorem QBU (hcs : ∀ x ∈ Qht,Qh Tryz.prog x) (h : ∀ (a0 : Qb) (a1 : Int) y,szC Qa a0 a1 = some y → ∃ n,QrY n a0 a1 = some y) : Qh Tryz.prog V2:=by
 refine Qj (c:=V2) (by kernel_rfl) (by kernel_rfl : Tryz.prog.funcs[24]? = some Tryz.f24) (code:=Tryz.f24.body.getD .skip) (by kernel_rfl) (by kernel_rfl) (by kernel_rfl) (A:=QrX) (I:=Qp3) hcs ?_
 rintro ⟨a0,a1,u⟩ y hy
 exact h a0 a1 y hy
theorem QzS : ∀ x ∈ Qht,Qh Tryz.prog x:=Qk
theorem Hj : Qh Tryz.prog V2:=QBU QzS fun a0 a1 y hy=>by
 obtain ⟨hw,h0,h1,rfl⟩:=Qf2 hy
 have hw2 : wfD I64 a0.1 ∧ wfD I64 a0.2.1 ∧ wfD .str a0.2.2.1 ∧ wfD .str a0.2.2.2:=hw
 have hsz : Ty.size Qa a0 = Ty.size I64 a0.1 + (Ty.size I64 a0.2.1 + (Ty.size .str a0.2.2.1 + (Ty.size .str a0.2.2.2))):=rfl
 have z0 : Ty.size I64 a0.1 = 0:=rfl
 have z1 : Ty.size I64 a0.2.1 = 0:=rfl
 have z2 : Ty.size .str a0.2.2.1 = a0.2.2.1.length:=rfl
 have z3 : Ty.size .str a0.2.2.2 = a0.2.2.2.length:=rfl
 refine ⟨0,?_⟩
 rw [Qx4,hsz]
 have hn2 : a0.2.2.1.length ≤ maxLen:=by have:=(hw2.2.2.1).1; unfold maxLen; omega
 rw [QcR (left:=a1) (n:=a0.2.2.1.length) (by omega) (by omega) hn2]
 rcases Int.lt_or_le (a1) (a0.2.2.1.length : Int) with h | h
 ·rw [decide_eq_true (show (a1 - (a0.2.2.1.length : Int)) < 0 by omega)]; simp only [cond_true]; unfold QE; rw [if_neg (by omega)]
 rw [decide_eq_false (show ¬ (a1 - (a0.2.2.1.length : Int)) < 0 by omega)]; simp only [cond_false]
 have h_2:=h; clear h
 have hn3 : a0.2.2.2.length ≤ maxLen:=by have:=(hw2.2.2.2).1; unfold maxLen; omega
 rw [QcR (left:=(a1 - (a0.2.2.1.length : Int))) (n:=a0.2.2.2.length) (by omega) (by omega) hn3]
 rcases Int.lt_or_le ((a1 - (a0.2.2.1.length : Int))) (a0.2.2.2.length : Int) with h | h
 ·rw [decide_eq_true (show ((a1 - (a0.2.2.1.length : Int)) - (a0.2.2.2.length : Int)) < 0 by omega)]; simp only [cond_true]; unfold QE; rw [if_neg (by omega)]
 rw [decide_eq_false (show ¬ ((a1 - (a0.2.2.1.length : Int)) - (a0.2.2.2.length : Int)) < 0 by omega)]; simp only [cond_false]
 have h_3:=h; clear h
 unfold QE; rw [if_pos (by omega)]; congr 1 <;> omega
def U5 : Ctr:=⟨62,[(.list Qa),I64],[I64],fun x=>szC (.list Qa) x.1 x.2.1⟩
def Qhu : List (List Nat × Ann):=[([0,5],[.keep 0 0,.keep 0 1,.keep 0 5])]
def Qe9 : List (List Nat × Nat):=[]
def ET : List Ctr:=[V2]
def Qp4 (n : Nat) (a0 : (List Qb)) (a1 : Int) : Option Int:=run Tryz.prog Qhu Qe9 (Qn ET) Tryz.f62 (Tryz.f62.body.getD .skip) (Qp [I64]) n (Qt [(.list Qa),I64] (a0,a1,()))
abbrev QaC (n : Nat) (x1 : (List Qb)) (x2 : Int) (x3 : Int) : Option Int:=lam Tryz.prog Qhu Qe9 (Qn ET) Tryz.f62 (Tryz.f62.body.getD .skip) (Qp [I64]) n [0,5] [.d (.list Qa) x1,.d I64 x2,.d I64 x3]
theorem Qv0 (n : Nat) (a0 : (List Qb)) (a1 : Int) : Qp4 n a0 a1 =
  bif decide (IntKind.wrap .i64 (a1 - (a0.length : Int)) < 0) then
   some (-1)
  else
   QaC n a0 (IntKind.wrap .i64 (a1 - (a0.length : Int))) 0:=by kernel_rfl
theorem Qn1 (n : Nat) (x1 : (List Qb)) (x2 : Int) (x3 : Int) : QaC (n + 1) x1 x2 x3 =
  bif decide (x3 < (x1.length : Int)) then
   bif inB x3 x1.length then
    Option.bind (szC Qa (rd x1 x3 (Ty.dflt Qa)) x2) fun (y1 : Int) =>
    bif decide (y1 < 0) then
     some (-1)
    else
     QaC n x1 y1 (IntKind.wrap .i64 (x3 + 1))
   else none
  else
   some x2:=by kernel_rfl
theorem QzT (hcs : ∀ x ∈ ET,Qh Tryz.prog x) (h : ∀ (a0 : (List Qb)) (a1 : Int) y,szC (.list Qa) a0 a1 = some y → ∃ n,Qp4 n a0 a1 = some y) : Qh Tryz.prog U5:=by
 refine Qj (c:=U5) (by kernel_rfl) (by kernel_rfl : Tryz.prog.funcs[62]? = some Tryz.f62) (code:=Tryz.f62.body.getD .skip) (by kernel_rfl) (by kernel_rfl) (by kernel_rfl) (A:=Qhu) (I:=Qe9) hcs ?_
 rintro ⟨a0,a1,u⟩ y hy
 exact h a0 a1 y hy
theorem Qx5 : ∀ x ∈ ET,Qh Tryz.prog x:=(Qd Hj Qk)
theorem Qne : Qh Tryz.prog U5:=QzT Qx5 fun a0 a1 y hy=>by
 obtain ⟨n,hn⟩:=QoF (fun n xs s i=>Qn1 n xs s i) hy
 exact ⟨n,(Qv0 n a0 a1).trans hn⟩
def GQ : Ctr:=⟨25,[(.list .str),I64],[I64],fun x=>szC (.list .str) x.1 x.2.1⟩
def QdI : List (List Nat × Ann):=[([0,5],[.keep 0 0,.keep 0 1,.keep 0 5])]
def Qb8 : List (List Nat × Nat):=[]
def Us : List Ctr:=[]
def QkA (n : Nat) (a0 : (List (List Int))) (a1 : Int) : Option Int:=run Tryz.prog QdI Qb8 (Qn Us) Tryz.f25 (Tryz.f25.body.getD .skip) (Qp [I64]) n (Qt [(.list .str),I64] (a0,a1,()))
abbrev U6 (n : Nat) (x1 : (List (List Int))) (x2 : Int) (x3 : Int) : Option Int:=lam Tryz.prog QdI Qb8 (Qn Us) Tryz.f25 (Tryz.f25.body.getD .skip) (Qp [I64]) n [0,5] [.d (.list .str) x1,.d I64 x2,.d I64 x3]
theorem Qru (n : Nat) (a0 : (List (List Int))) (a1 : Int) : QkA n a0 a1 =
  bif decide (IntKind.wrap .i64 (a1 - (a0.length : Int)) < 0) then
   some (-1)
  else
   U6 n a0 (IntKind.wrap .i64 (a1 - (a0.length : Int))) 0:=by kernel_rfl
theorem QkB (n : Nat) (x1 : (List (List Int))) (x2 : Int) (x3 : Int) : U6 (n + 1) x1 x2 x3 =
  bif decide (x3 < (x1.length : Int)) then
   bif inB x3 x1.length then
    bif decide (IntKind.wrap .i64 (x2 - ((rd x1 x3 (Ty.dflt .str)).length : Int)) < 0) then
     some (-1)
    else
     U6 n x1 (IntKind.wrap .i64 (x2 - ((rd x1 x3 (Ty.dflt .str)).length : Int))) (IntKind.wrap .i64 (x3 + 1))
   else none
  else
   some x2:=by kernel_rfl
theorem Qv1 (hcs : ∀ x ∈ Us,Qh Tryz.prog x) (h : ∀ (a0 : (List (List Int))) (a1 : Int) y,szC (.list .str) a0 a1 = some y → ∃ n,QkA n a0 a1 = some y) : Qh Tryz.prog GQ:=by
 refine Qj (c:=GQ) (by kernel_rfl) (by kernel_rfl : Tryz.prog.funcs[25]? = some Tryz.f25) (code:=Tryz.f25.body.getD .skip) (by kernel_rfl) (by kernel_rfl) (by kernel_rfl) (A:=QdI) (I:=Qb8) hcs ?_
 rintro ⟨a0,a1,u⟩ y hy
 exact h a0 a1 y hy
theorem QtT : ∀ x ∈ Us,Qh Tryz.prog x:=Qk
theorem Qb9 : Qh Tryz.prog GQ:=Qv1 QtT fun a0 a1 y hy=>by
 obtain ⟨n,hn⟩:=QIC (fun n xs s i=>QkB n xs s i) hy
 exact ⟨n,(Qru n a0 a1).trans hn⟩
def Qca : Ctr:=⟨63,[Qf,I64],[I64],fun x=>szC Qf x.1 x.2.1⟩
def Qp5 : List (List Nat × Ann):=[]
def Qnf : List (List Nat × Nat):=[]
def Qfa : List Ctr:=[V2,U5,GQ]
def Qp6 (n : Nat) (a0 : Ql) (a1 : Int) : Option Int:=run Tryz.prog Qp5 Qnf (Qn Qfa) Tryz.f63 (Tryz.f63.body.getD .skip) (Qp [I64]) n (Qt [Qf,I64] (a0,a1,()))
theorem Qv2 (n : Nat) (a0 : Ql) (a1 : Int) : Qp6 n a0 a1 =
  Option.bind (szC Qa a0.2.1 a1) fun (y1 : Int) =>
  bif decide (y1 < 0) then
   some (-1)
  else
   Option.bind (szC (.list Qa) a0.2.2.1 y1) fun (y2 : Int) =>
   bif decide (y2 < 0) then
    some (-1)
   else
    Option.bind (szC (.list .str) a0.2.2.2 y2) fun (y3 : Int) =>
    bif decide (y3 < 0) then
     some (-1)
    else
     some y3:=by kernel_rfl
theorem QzU (hcs : ∀ x ∈ Qfa,Qh Tryz.prog x) (h : ∀ (a0 : Ql) (a1 : Int) y,szC Qf a0 a1 = some y → ∃ n,Qp6 n a0 a1 = some y) : Qh Tryz.prog Qca:=by
 refine Qj (c:=Qca) (by kernel_rfl) (by kernel_rfl : Tryz.prog.funcs[63]? = some Tryz.f63) (code:=Tryz.f63.body.getD .skip) (by kernel_rfl) (by kernel_rfl) (by kernel_rfl) (A:=Qp5) (I:=Qnf) hcs ?_
 rintro ⟨a0,a1,u⟩ y hy
 exact h a0 a1 y hy
theorem Qx6 : ∀ x ∈ Qfa,Qh Tryz.prog x:=(Qd Hj (Qd Qne (Qd Qb9 Qk)))
theorem QzV : Qh Tryz.prog Qca:=QzU Qx6 fun a0 a1 y hy=>by
 obtain ⟨hw,h0,h1,rfl⟩:=Qf2 hy
 have hw2 : wfD I64 a0.1 ∧ wfD Qa a0.2.1 ∧ wfD (.list Qa) a0.2.2.1 ∧ wfD (.list .str) a0.2.2.2:=hw
 have hsz : Ty.size Qf a0 = Ty.size I64 a0.1 + (Ty.size Qa a0.2.1 + (Ty.size (.list Qa) a0.2.2.1 + (Ty.size (.list .str) a0.2.2.2))):=rfl
 have z0 : Ty.size I64 a0.1 = 0:=rfl
 refine ⟨0,?_⟩
 rw [Qv2,hsz]
 rw [Yt hw2.2.1 (show 0 ≤ a1 by omega) (by omega)]
 simp only [Option.bind_some]
 rcases Int.lt_or_le (a1) ((Ty.size Qa a0.2.1 : Nat) : Int) with h | h
 ·rw [show QE (a1) (Ty.size Qa a0.2.1) = -1 by unfold QE; rw [if_neg (by omega)]]; rw [decide_eq_true (show (-1 : Int) < 0 by omega)]; simp only [cond_true]; unfold QE; rw [if_neg (by omega)]
 rw [show QE (a1) (Ty.size Qa a0.2.1) = (a1 - ((Ty.size Qa a0.2.1 : Nat) : Int)) by unfold QE; rw [if_pos h]]; rw [decide_eq_false (show ¬ (a1 - ((Ty.size Qa a0.2.1 : Nat) : Int)) < 0 by omega)]; simp only [cond_false]
 have h_1:=h; clear h
 rw [Yt hw2.2.2.1 (show 0 ≤ (a1 - ((Ty.size Qa a0.2.1 : Nat) : Int)) by omega) (by omega)]
 simp only [Option.bind_some]
 rcases Int.lt_or_le ((a1 - ((Ty.size Qa a0.2.1 : Nat) : Int))) ((Ty.size (.list Qa) a0.2.2.1 : Nat) : Int) with h | h
 ·rw [show QE ((a1 - ((Ty.size Qa a0.2.1 : Nat) : Int))) (Ty.size (.list Qa) a0.2.2.1) = -1 by unfold QE; rw [if_neg (by omega)]]; rw [decide_eq_true (show (-1 : Int) < 0 by omega)]; simp only [cond_true]; unfold QE; rw [if_neg (by omega)]
 rw [show QE ((a1 - ((Ty.size Qa a0.2.1 : Nat) : Int))) (Ty.size (.list Qa) a0.2.2.1) = ((a1 - ((Ty.size Qa a0.2.1 : Nat) : Int)) - ((Ty.size (.list Qa) a0.2.2.1 : Nat) : Int)) by unfold QE; rw [if_pos h]]; rw [decide_eq_false (show ¬ ((a1 - ((Ty.size Qa a0.2.1 : Nat) : Int)) - ((Ty.size (.list Qa) a0.2.2.1 : Nat) : Int)) < 0 by omega)]; simp only [cond_false]
 have h_2:=h; clear h
 rw [Yt hw2.2.2.2 (show 0 ≤ ((a1 - ((Ty.size Qa a0.2.1 : Nat) : Int)) - ((Ty.size (.list Qa) a0.2.2.1 : Nat) : Int)) by omega) (by omega)]
 simp only [Option.bind_some]
 rcases Int.lt_or_le (((a1 - ((Ty.size Qa a0.2.1 : Nat) : Int)) - ((Ty.size (.list Qa) a0.2.2.1 : Nat) : Int))) ((Ty.size (.list .str) a0.2.2.2 : Nat) : Int) with h | h
 ·rw [show QE (((a1 - ((Ty.size Qa a0.2.1 : Nat) : Int)) - ((Ty.size (.list Qa) a0.2.2.1 : Nat) : Int))) (Ty.size (.list .str) a0.2.2.2) = -1 by unfold QE; rw [if_neg (by omega)]]; rw [decide_eq_true (show (-1 : Int) < 0 by omega)]; simp only [cond_true]; unfold QE; rw [if_neg (by omega)]
 rw [show QE (((a1 - ((Ty.size Qa a0.2.1 : Nat) : Int)) - ((Ty.size (.list Qa) a0.2.2.1 : Nat) : Int))) (Ty.size (.list .str) a0.2.2.2) = (((a1 - ((Ty.size Qa a0.2.1 : Nat) : Int)) - ((Ty.size (.list Qa) a0.2.2.1 : Nat) : Int)) - ((Ty.size (.list .str) a0.2.2.2 : Nat) : Int)) by unfold QE; rw [if_pos h]]; rw [decide_eq_false (show ¬ (((a1 - ((Ty.size Qa a0.2.1 : Nat) : Int)) - ((Ty.size (.list Qa) a0.2.2.1 : Nat) : Int)) - ((Ty.size (.list .str) a0.2.2.2 : Nat) : Int)) < 0 by omega)]; simp only [cond_false]
 have h_3:=h; clear h
 unfold QE; rw [if_pos (by omega)]; congr 1 <;> omega
def HZ : Ctr:=⟨26,[(.list Qf),I64],[I64],fun x=>szC (.list Qf) x.1 x.2.1⟩
def Qfb : List (List Nat × Ann):=[([0,5],[.keep 0 0,.keep 0 1,.keep 0 5])]
def QdJ : List (List Nat × Nat):=[]
def WC : List Ctr:=[Qca]
def Qng (n : Nat) (a0 : (List Ql)) (a1 : Int) : Option Int:=run Tryz.prog Qfb QdJ (Qn WC) Tryz.f26 (Tryz.f26.body.getD .skip) (Qp [I64]) n (Qt [(.list Qf),I64] (a0,a1,()))
abbrev Eb (n : Nat) (x1 : (List Ql)) (x2 : Int) (x3 : Int) : Option Int:=lam Tryz.prog Qfb QdJ (Qn WC) Tryz.f26 (Tryz.f26.body.getD .skip) (Qp [I64]) n [0,5] [.d (.list Qf) x1,.d I64 x2,.d I64 x3]
theorem QtU (n : Nat) (a0 : (List Ql)) (a1 : Int) : Qng n a0 a1 =
  bif decide (IntKind.wrap .i64 (a1 - (a0.length : Int)) < 0) then
   some (-1)
  else
   Eb n a0 (IntKind.wrap .i64 (a1 - (a0.length : Int))) 0:=by kernel_rfl
theorem QlU (n : Nat) (x1 : (List Ql)) (x2 : Int) (x3 : Int) : Eb (n + 1) x1 x2 x3 =
  bif decide (x3 < (x1.length : Int)) then
   bif inB x3 x1.length then
    Option.bind (szC Qf (rd x1 x3 (Ty.dflt Qf)) x2) fun (y1 : Int) =>
    bif decide (y1 < 0) then
     some (-1)
    else
     Eb n x1 y1 (IntKind.wrap .i64 (x3 + 1))
   else none
  else
   some x2:=by kernel_rfl
theorem Qx7 (hcs : ∀ x ∈ WC,Qh Tryz.prog x) (h : ∀ (a0 : (List Ql)) (a1 : Int) y,szC (.list Qf) a0 a1 = some y → ∃ n,Qng n a0 a1 = some y) : Qh Tryz.prog HZ:=by
 refine Qj (c:=HZ) (by kernel_rfl) (by kernel_rfl : Tryz.prog.funcs[26]? = some Tryz.f26) (code:=Tryz.f26.body.getD .skip) (by kernel_rfl) (by kernel_rfl) (by kernel_rfl) (A:=Qfb) (I:=QdJ) hcs ?_
 rintro ⟨a0,a1,u⟩ y hy
 exact h a0 a1 y hy
theorem Qv3 : ∀ x ∈ WC,Qh Tryz.prog x:=(Qd QzV Qk)
theorem QkC : Qh Tryz.prog HZ:=Qx7 Qv3 fun a0 a1 y hy=>by
 obtain ⟨n,hn⟩:=QoF (fun n xs s i=>QlU n xs s i) hy
 exact ⟨n,(QtU n a0 a1).trans hn⟩
def Qcb : Ctr:=⟨23,[Qe,I64],[I64],fun x=>szC Qe x.1 x.2.1⟩
def Qp7 : List (List Nat × Ann):=[]
def Qnh : List (List Nat × Nat):=[]
def Qfc : List Ctr:=[V2,U5,GQ,HZ]
def Qp8 (n : Nat) (a0 : Qc) (a1 : Int) : Option Int:=run Tryz.prog Qp7 Qnh (Qn Qfc) Tryz.f23 (Tryz.f23.body.getD .skip) (Qp [I64]) n (Qt [Qe,I64] (a0,a1,()))
theorem Qv4 (n : Nat) (a0 : Qc) (a1 : Int) : Qp8 n a0 a1 =
  Option.bind (szC Qa a0.1 a1) fun (y1 : Int) =>
  bif decide (y1 < 0) then
   some (-1)
  else
   Option.bind (szC (.list Qa) a0.2.1 y1) fun (y2 : Int) =>
   bif decide (y2 < 0) then
    some (-1)
   else
    Option.bind (szC (.list .str) a0.2.2.1 y2) fun (y3 : Int) =>
    bif decide (y3 < 0) then
     some (-1)
    else
     Option.bind (szC (.list Qf) a0.2.2.2 y3) fun (y4 : Int) =>
     bif decide (y4 < 0) then
      some (-1)
     else
      some y4:=by kernel_rfl
theorem QzW (hcs : ∀ x ∈ Qfc,Qh Tryz.prog x) (h : ∀ (a0 : Qc) (a1 : Int) y,szC Qe a0 a1 = some y → ∃ n,Qp8 n a0 a1 = some y) : Qh Tryz.prog Qcb:=by
 refine Qj (c:=Qcb) (by kernel_rfl) (by kernel_rfl : Tryz.prog.funcs[23]? = some Tryz.f23) (code:=Tryz.f23.body.getD .skip) (by kernel_rfl) (by kernel_rfl) (by kernel_rfl) (A:=Qp7) (I:=Qnh) hcs ?_
 rintro ⟨a0,a1,u⟩ y hy
 exact h a0 a1 y hy
theorem Qx8 : ∀ x ∈ Qfc,Qh Tryz.prog x:=(Qd Hj (Qd Qne (Qd Qb9 (Qd QkC Qk))))
theorem QzX : Qh Tryz.prog Qcb:=QzW Qx8 fun a0 a1 y hy=>by
 obtain ⟨hw,h0,h1,rfl⟩:=Qf2 hy
 have hw2 : wfD Qa a0.1 ∧ wfD (.list Qa) a0.2.1 ∧ wfD (.list .str) a0.2.2.1 ∧ wfD (.list Qf) a0.2.2.2:=hw
 have hsz : Ty.size Qe a0 = Ty.size Qa a0.1 + (Ty.size (.list Qa) a0.2.1 + (Ty.size (.list .str) a0.2.2.1 + (Ty.size (.list Qf) a0.2.2.2))):=rfl
 refine ⟨0,?_⟩
 rw [Qv4,hsz]
 rw [Yt hw2.1 (show 0 ≤ a1 by omega) (by omega)]
 simp only [Option.bind_some]
 rcases Int.lt_or_le (a1) ((Ty.size Qa a0.1 : Nat) : Int) with h | h
 ·rw [show QE (a1) (Ty.size Qa a0.1) = -1 by unfold QE; rw [if_neg (by omega)]]; rw [decide_eq_true (show (-1 : Int) < 0 by omega)]; simp only [cond_true]; unfold QE; rw [if_neg (by omega)]
 rw [show QE (a1) (Ty.size Qa a0.1) = (a1 - ((Ty.size Qa a0.1 : Nat) : Int)) by unfold QE; rw [if_pos h]]; rw [decide_eq_false (show ¬ (a1 - ((Ty.size Qa a0.1 : Nat) : Int)) < 0 by omega)]; simp only [cond_false]
 have h_0:=h; clear h
 rw [Yt hw2.2.1 (show 0 ≤ (a1 - ((Ty.size Qa a0.1 : Nat) : Int)) by omega) (by omega)]
 simp only [Option.bind_some]
 rcases Int.lt_or_le ((a1 - ((Ty.size Qa a0.1 : Nat) : Int))) ((Ty.size (.list Qa) a0.2.1 : Nat) : Int) with h | h
 ·rw [show QE ((a1 - ((Ty.size Qa a0.1 : Nat) : Int))) (Ty.size (.list Qa) a0.2.1) = -1 by unfold QE; rw [if_neg (by omega)]]; rw [decide_eq_true (show (-1 : Int) < 0 by omega)]; simp only [cond_true]; unfold QE; rw [if_neg (by omega)]
 rw [show QE ((a1 - ((Ty.size Qa a0.1 : Nat) : Int))) (Ty.size (.list Qa) a0.2.1) = ((a1 - ((Ty.size Qa a0.1 : Nat) : Int)) - ((Ty.size (.list Qa) a0.2.1 : Nat) : Int)) by unfold QE; rw [if_pos h]]; rw [decide_eq_false (show ¬ ((a1 - ((Ty.size Qa a0.1 : Nat) : Int)) - ((Ty.size (.list Qa) a0.2.1 : Nat) : Int)) < 0 by omega)]; simp only [cond_false]
 have h_1:=h; clear h
 rw [Yt hw2.2.2.1 (show 0 ≤ ((a1 - ((Ty.size Qa a0.1 : Nat) : Int)) - ((Ty.size (.list Qa) a0.2.1 : Nat) : Int)) by omega) (by omega)]
 simp only [Option.bind_some]
 rcases Int.lt_or_le (((a1 - ((Ty.size Qa a0.1 : Nat) : Int)) - ((Ty.size (.list Qa) a0.2.1 : Nat) : Int))) ((Ty.size (.list .str) a0.2.2.1 : Nat) : Int) with h | h
 ·rw [show QE (((a1 - ((Ty.size Qa a0.1 : Nat) : Int)) - ((Ty.size (.list Qa) a0.2.1 : Nat) : Int))) (Ty.size (.list .str) a0.2.2.1) = -1 by unfold QE; rw [if_neg (by omega)]]; rw [decide_eq_true (show (-1 : Int) < 0 by omega)]; simp only [cond_true]; unfold QE; rw [if_neg (by omega)]
 rw [show QE (((a1 - ((Ty.size Qa a0.1 : Nat) : Int)) - ((Ty.size (.list Qa) a0.2.1 : Nat) : Int))) (Ty.size (.list .str) a0.2.2.1) = (((a1 - ((Ty.size Qa a0.1 : Nat) : Int)) - ((Ty.size (.list Qa) a0.2.1 : Nat) : Int)) - ((Ty.size (.list .str) a0.2.2.1 : Nat) : Int)) by unfold QE; rw [if_pos h]]; rw [decide_eq_false (show ¬ (((a1 - ((Ty.size Qa a0.1 : Nat) : Int)) - ((Ty.size (.list Qa) a0.2.1 : Nat) : Int)) - ((Ty.size (.list .str) a0.2.2.1 : Nat) : Int)) < 0 by omega)]; simp only [cond_false]
 have h_2:=h; clear h
 rw [Yt hw2.2.2.2 (show 0 ≤ (((a1 - ((Ty.size Qa a0.1 : Nat) : Int)) - ((Ty.size (.list Qa) a0.2.1 : Nat) : Int)) - ((Ty.size (.list .str) a0.2.2.1 : Nat) : Int)) by omega) (by omega)]
 simp only [Option.bind_some]
 rcases Int.lt_or_le ((((a1 - ((Ty.size Qa a0.1 : Nat) : Int)) - ((Ty.size (.list Qa) a0.2.1 : Nat) : Int)) - ((Ty.size (.list .str) a0.2.2.1 : Nat) : Int))) ((Ty.size (.list Qf) a0.2.2.2 : Nat) : Int) with h | h
 ·rw [show QE ((((a1 - ((Ty.size Qa a0.1 : Nat) : Int)) - ((Ty.size (.list Qa) a0.2.1 : Nat) : Int)) - ((Ty.size (.list .str) a0.2.2.1 : Nat) : Int))) (Ty.size (.list Qf) a0.2.2.2) = -1 by unfold QE; rw [if_neg (by omega)]]; rw [decide_eq_true (show (-1 : Int) < 0 by omega)]; simp only [cond_true]; unfold QE; rw [if_neg (by omega)]
 rw [show QE ((((a1 - ((Ty.size Qa a0.1 : Nat) : Int)) - ((Ty.size (.list Qa) a0.2.1 : Nat) : Int)) - ((Ty.size (.list .str) a0.2.2.1 : Nat) : Int))) (Ty.size (.list Qf) a0.2.2.2) = ((((a1 - ((Ty.size Qa a0.1 : Nat) : Int)) - ((Ty.size (.list Qa) a0.2.1 : Nat) : Int)) - ((Ty.size (.list .str) a0.2.2.1 : Nat) : Int)) - ((Ty.size (.list Qf) a0.2.2.2 : Nat) : Int)) by unfold QE; rw [if_pos h]]; rw [decide_eq_false (show ¬ ((((a1 - ((Ty.size Qa a0.1 : Nat) : Int)) - ((Ty.size (.list Qa) a0.2.1 : Nat) : Int)) - ((Ty.size (.list .str) a0.2.2.1 : Nat) : Int)) - ((Ty.size (.list Qf) a0.2.2.2 : Nat) : Int)) < 0 by omega)]; simp only [cond_false]
 have h_3:=h; clear h
 unfold QE; rw [if_pos (by omega)]; congr 1 <;> omega
def EU : Ctr:=⟨5,[(.list Qe),I64],[I64],fun x=>szC (.list Qe) x.1 x.2.1⟩
def Qfd : List (List Nat × Ann):=[([0,5],[.keep 0 0,.keep 0 1,.keep 0 5])]
def QdK : List (List Nat × Nat):=[]
def WD : List Ctr:=[Qcb]
def Qni (n : Nat) (a0 : (List Qc)) (a1 : Int) : Option Int:=run Tryz.prog Qfd QdK (Qn WD) Tryz.f5 (Tryz.f5.body.getD .skip) (Qp [I64]) n (Qt [(.list Qe),I64] (a0,a1,()))
abbrev Ec (n : Nat) (x1 : (List Qc)) (x2 : Int) (x3 : Int) : Option Int:=lam Tryz.prog Qfd QdK (Qn WD) Tryz.f5 (Tryz.f5.body.getD .skip) (Qp [I64]) n [0,5] [.d (.list Qe) x1,.d I64 x2,.d I64 x3]
theorem QtV (n : Nat) (a0 : (List Qc)) (a1 : Int) : Qni n a0 a1 =
  bif decide (IntKind.wrap .i64 (a1 - (a0.length : Int)) < 0) then
   some (-1)
  else
   Ec n a0 (IntKind.wrap .i64 (a1 - (a0.length : Int))) 0:=by kernel_rfl
theorem QlV (n : Nat) (x1 : (List Qc)) (x2 : Int) (x3 : Int) : Ec (n + 1) x1 x2 x3 =
  bif decide (x3 < (x1.length : Int)) then
   bif inB x3 x1.length then
    Option.bind (szC Qe (((rd x1 x3 (Ty.dflt Qe)).1),((rd x1 x3 (Ty.dflt Qe)).2)) x2) fun (y1 : Int) =>
    bif decide (y1 < 0) then
     some (-1)
    else
     Ec n x1 y1 (IntKind.wrap .i64 (x3 + 1))
   else none
  else
   some x2:=by kernel_rfl
theorem Qx9 (hcs : ∀ x ∈ WD,Qh Tryz.prog x) (h : ∀ (a0 : (List Qc)) (a1 : Int) y,szC (.list Qe) a0 a1 = some y → ∃ n,Qni n a0 a1 = some y) : Qh Tryz.prog EU:=by
 refine Qj (c:=EU) (by kernel_rfl) (by kernel_rfl : Tryz.prog.funcs[5]? = some Tryz.f5) (code:=Tryz.f5.body.getD .skip) (by kernel_rfl) (by kernel_rfl) (by kernel_rfl) (A:=Qfd) (I:=QdK) hcs ?_
 rintro ⟨a0,a1,u⟩ y hy
 exact h a0 a1 y hy
theorem Qv5 : ∀ x ∈ WD,Qh Tryz.prog x:=(Qd QzX Qk)
theorem Qya : Qh Tryz.prog EU:=Qx9 Qv5 fun a0 a1 y hy=>by
 obtain ⟨n,hn⟩:=QoF (fun n xs s i=>QlV n xs s i) hy
 exact ⟨n,(QtV n a0 a1).trans hn⟩
def WE : Ctr:=⟨6,[Qu,I64],[I64],fun x=>szC Qu x.1 x.2.1⟩
def QkD : List (List Nat × Ann):=[]
def Qiy : List (List Nat × Nat):=[]
def Qcc : List Ctr:=[V2,GQ,HZ]
def QkE (n : Nat) (a0 : QD) (a1 : Int) : Option Int:=run Tryz.prog QkD Qiy (Qn Qcc) Tryz.f6 (Tryz.f6.body.getD .skip) (Qp [I64]) n (Qt [Qu,I64] (a0,a1,()))
theorem Qrv (n : Nat) (a0 : QD) (a1 : Int) : QkE n a0 a1 =
  Option.bind (szC Qa a0.1 a1) fun (y1 : Int) =>
  bif decide (y1 < 0) then
   some (-1)
  else
   Option.bind (szC Qa a0.2.1 y1) fun (y2 : Int) =>
   bif decide (y2 < 0) then
    some (-1)
   else
    Option.bind (szC Qa a0.2.2.1 y2) fun (y3 : Int) =>
    bif decide (y3 < 0) then
     some (-1)
    else
     Option.bind (szC (.list .str) a0.2.2.2.1 y3) fun (y4 : Int) =>
     bif decide (y4 < 0) then
      some (-1)
     else
      Option.bind (szC (.list Qf) a0.2.2.2.2 y4) fun (y5 : Int) =>
      bif decide (y5 < 0) then
       some (-1)
      else
       some y5:=by kernel_rfl
theorem Qv6 (hcs : ∀ x ∈ Qcc,Qh Tryz.prog x) (h : ∀ (a0 : QD) (a1 : Int) y,szC Qu a0 a1 = some y → ∃ n,QkE n a0 a1 = some y) : Qh Tryz.prog WE:=by
 refine Qj (c:=WE) (by kernel_rfl) (by kernel_rfl : Tryz.prog.funcs[6]? = some Tryz.f6) (code:=Tryz.f6.body.getD .skip) (by kernel_rfl) (by kernel_rfl) (by kernel_rfl) (A:=QkD) (I:=Qiy) hcs ?_
 rintro ⟨a0,a1,u⟩ y hy
 exact h a0 a1 y hy
theorem QtW : ∀ x ∈ Qcc,Qh Tryz.prog x:=(Qd Hj (Qd Qb9 (Qd QkC Qk)))
theorem Qv7 : Qh Tryz.prog WE:=Qv6 QtW fun a0 a1 y hy=>by
 obtain ⟨hw,h0,h1,rfl⟩:=Qf2 hy
 have hw2 : wfD Qa a0.1 ∧ wfD Qa a0.2.1 ∧ wfD Qa a0.2.2.1 ∧ wfD (.list .str) a0.2.2.2.1 ∧ wfD (.list Qf) a0.2.2.2.2:=hw
 have hsz : Ty.size Qu a0 = Ty.size Qa a0.1 + (Ty.size Qa a0.2.1 + (Ty.size Qa a0.2.2.1 + (Ty.size (.list .str) a0.2.2.2.1 + (Ty.size (.list Qf) a0.2.2.2.2)))):=rfl
 refine ⟨0,?_⟩
 rw [Qrv,hsz]
 rw [Yt hw2.1 (show 0 ≤ a1 by omega) (by omega)]
 simp only [Option.bind_some]
 rcases Int.lt_or_le (a1) ((Ty.size Qa a0.1 : Nat) : Int) with h | h
 ·rw [show QE (a1) (Ty.size Qa a0.1) = -1 by unfold QE; rw [if_neg (by omega)]]; rw [decide_eq_true (show (-1 : Int) < 0 by omega)]; simp only [cond_true]; unfold QE; rw [if_neg (by omega)]
 rw [show QE (a1) (Ty.size Qa a0.1) = (a1 - ((Ty.size Qa a0.1 : Nat) : Int)) by unfold QE; rw [if_pos h]]; rw [decide_eq_false (show ¬ (a1 - ((Ty.size Qa a0.1 : Nat) : Int)) < 0 by omega)]; simp only [cond_false]
 have h_0:=h; clear h
 rw [Yt hw2.2.1 (show 0 ≤ (a1 - ((Ty.size Qa a0.1 : Nat) : Int)) by omega) (by omega)]
 simp only [Option.bind_some]
 rcases Int.lt_or_le ((a1 - ((Ty.size Qa a0.1 : Nat) : Int))) ((Ty.size Qa a0.2.1 : Nat) : Int) with h | h
 ·rw [show QE ((a1 - ((Ty.size Qa a0.1 : Nat) : Int))) (Ty.size Qa a0.2.1) = -1 by unfold QE; rw [if_neg (by omega)]]; rw [decide_eq_true (show (-1 : Int) < 0 by omega)]; simp only [cond_true]; unfold QE; rw [if_neg (by omega)]
 rw [show QE ((a1 - ((Ty.size Qa a0.1 : Nat) : Int))) (Ty.size Qa a0.2.1) = ((a1 - ((Ty.size Qa a0.1 : Nat) : Int)) - ((Ty.size Qa a0.2.1 : Nat) : Int)) by unfold QE; rw [if_pos h]]; rw [decide_eq_false (show ¬ ((a1 - ((Ty.size Qa a0.1 : Nat) : Int)) - ((Ty.size Qa a0.2.1 : Nat) : Int)) < 0 by omega)]; simp only [cond_false]
 have h_1:=h; clear h
 rw [Yt hw2.2.2.1 (show 0 ≤ ((a1 - ((Ty.size Qa a0.1 : Nat) : Int)) - ((Ty.size Qa a0.2.1 : Nat) : Int)) by omega) (by omega)]
 simp only [Option.bind_some]
 rcases Int.lt_or_le (((a1 - ((Ty.size Qa a0.1 : Nat) : Int)) - ((Ty.size Qa a0.2.1 : Nat) : Int))) ((Ty.size Qa a0.2.2.1 : Nat) : Int) with h | h
 ·rw [show QE (((a1 - ((Ty.size Qa a0.1 : Nat) : Int)) - ((Ty.size Qa a0.2.1 : Nat) : Int))) (Ty.size Qa a0.2.2.1) = -1 by unfold QE; rw [if_neg (by omega)]]; rw [decide_eq_true (show (-1 : Int) < 0 by omega)]; simp only [cond_true]; unfold QE; rw [if_neg (by omega)]
 rw [show QE (((a1 - ((Ty.size Qa a0.1 : Nat) : Int)) - ((Ty.size Qa a0.2.1 : Nat) : Int))) (Ty.size Qa a0.2.2.1) = (((a1 - ((Ty.size Qa a0.1 : Nat) : Int)) - ((Ty.size Qa a0.2.1 : Nat) : Int)) - ((Ty.size Qa a0.2.2.1 : Nat) : Int)) by unfold QE; rw [if_pos h]]; rw [decide_eq_false (show ¬ (((a1 - ((Ty.size Qa a0.1 : Nat) : Int)) - ((Ty.size Qa a0.2.1 : Nat) : Int)) - ((Ty.size Qa a0.2.2.1 : Nat) : Int)) < 0 by omega)]; simp only [cond_false]
 have h_2:=h; clear h
 rw [Yt hw2.2.2.2.1 (show 0 ≤ (((a1 - ((Ty.size Qa a0.1 : Nat) : Int)) - ((Ty.size Qa a0.2.1 : Nat) : Int)) - ((Ty.size Qa a0.2.2.1 : Nat) : Int)) by omega) (by omega)]
 simp only [Option.bind_some]
 rcases Int.lt_or_le ((((a1 - ((Ty.size Qa a0.1 : Nat) : Int)) - ((Ty.size Qa a0.2.1 : Nat) : Int)) - ((Ty.size Qa a0.2.2.1 : Nat) : Int))) ((Ty.size (.list .str) a0.2.2.2.1 : Nat) : Int) with h | h
 ·rw [show QE ((((a1 - ((Ty.size Qa a0.1 : Nat) : Int)) - ((Ty.size Qa a0.2.1 : Nat) : Int)) - ((Ty.size Qa a0.2.2.1 : Nat) : Int))) (Ty.size (.list .str) a0.2.2.2.1) = -1 by unfold QE; rw [if_neg (by omega)]]; rw [decide_eq_true (show (-1 : Int) < 0 by omega)]; simp only [cond_true]; unfold QE; rw [if_neg (by omega)]
 rw [show QE ((((a1 - ((Ty.size Qa a0.1 : Nat) : Int)) - ((Ty.size Qa a0.2.1 : Nat) : Int)) - ((Ty.size Qa a0.2.2.1 : Nat) : Int))) (Ty.size (.list .str) a0.2.2.2.1) = ((((a1 - ((Ty.size Qa a0.1 : Nat) : Int)) - ((Ty.size Qa a0.2.1 : Nat) : Int)) - ((Ty.size Qa a0.2.2.1 : Nat) : Int)) - ((Ty.size (.list .str) a0.2.2.2.1 : Nat) : Int)) by unfold QE; rw [if_pos h]]; rw [decide_eq_false (show ¬ ((((a1 - ((Ty.size Qa a0.1 : Nat) : Int)) - ((Ty.size Qa a0.2.1 : Nat) : Int)) - ((Ty.size Qa a0.2.2.1 : Nat) : Int)) - ((Ty.size (.list .str) a0.2.2.2.1 : Nat) : Int)) < 0 by omega)]; simp only [cond_false]
 have h_3:=h; clear h
 rw [Yt hw2.2.2.2.2 (show 0 ≤ ((((a1 - ((Ty.size Qa a0.1 : Nat) : Int)) - ((Ty.size Qa a0.2.1 : Nat) : Int)) - ((Ty.size Qa a0.2.2.1 : Nat) : Int)) - ((Ty.size (.list .str) a0.2.2.2.1 : Nat) : Int)) by omega) (by omega)]
 simp only [Option.bind_some]
 rcases Int.lt_or_le (((((a1 - ((Ty.size Qa a0.1 : Nat) : Int)) - ((Ty.size Qa a0.2.1 : Nat) : Int)) - ((Ty.size Qa a0.2.2.1 : Nat) : Int)) - ((Ty.size (.list .str) a0.2.2.2.1 : Nat) : Int))) ((Ty.size (.list Qf) a0.2.2.2.2 : Nat) : Int) with h | h
 ·rw [show QE (((((a1 - ((Ty.size Qa a0.1 : Nat) : Int)) - ((Ty.size Qa a0.2.1 : Nat) : Int)) - ((Ty.size Qa a0.2.2.1 : Nat) : Int)) - ((Ty.size (.list .str) a0.2.2.2.1 : Nat) : Int))) (Ty.size (.list Qf) a0.2.2.2.2) = -1 by unfold QE; rw [if_neg (by omega)]]; rw [decide_eq_true (show (-1 : Int) < 0 by omega)]; simp only [cond_true]; unfold QE; rw [if_neg (by omega)]
 rw [show QE (((((a1 - ((Ty.size Qa a0.1 : Nat) : Int)) - ((Ty.size Qa a0.2.1 : Nat) : Int)) - ((Ty.size Qa a0.2.2.1 : Nat) : Int)) - ((Ty.size (.list .str) a0.2.2.2.1 : Nat) : Int))) (Ty.size (.list Qf) a0.2.2.2.2) = (((((a1 - ((Ty.size Qa a0.1 : Nat) : Int)) - ((Ty.size Qa a0.2.1 : Nat) : Int)) - ((Ty.size Qa a0.2.2.1 : Nat) : Int)) - ((Ty.size (.list .str) a0.2.2.2.1 : Nat) : Int)) - ((Ty.size (.list Qf) a0.2.2.2.2 : Nat) : Int)) by unfold QE; rw [if_pos h]]; rw [decide_eq_false (show ¬ (((((a1 - ((Ty.size Qa a0.1 : Nat) : Int)) - ((Ty.size Qa a0.2.1 : Nat) : Int)) - ((Ty.size Qa a0.2.2.1 : Nat) : Int)) - ((Ty.size (.list .str) a0.2.2.2.1 : Nat) : Int)) - ((Ty.size (.list Qf) a0.2.2.2.2 : Nat) : Int)) < 0 by omega)]; simp only [cond_false]
 have h_4:=h; clear h
 unfold QE; rw [if_pos (by omega)]; congr 1 <;> omega
def Qd4 : Ctr:=⟨64,[Qs,I64],[I64],fun x=>szC Qs x.1 x.2.1⟩
def QrZ : List (List Nat × Ann):=[]
def Qp9 : List (List Nat × Nat):=[]
def Qhv : List Ctr:=[V2]
def Qr0 (n : Nat) (a0 : J6) (a1 : Int) : Option Int:=run Tryz.prog QrZ Qp9 (Qn Qhv) Tryz.f64 (Tryz.f64.body.getD .skip) (Qp [I64]) n (Qt [Qs,I64] (a0,a1,()))
theorem Qyb (n : Nat) (a0 : J6) (a1 : Int) : Qr0 n a0 a1 =
  Option.bind (szC Qa a0.2.1 a1) fun (y1 : Int) =>
  bif decide (y1 < 0) then
   some (-1)
  else
   bif decide (IntKind.wrap .i64 (y1 - (a0.2.2.length : Int)) < 0) then
    some (-1)
   else
    some (IntKind.wrap .i64 (y1 - (a0.2.2.length : Int))):=by kernel_rfl
theorem QBV (hcs : ∀ x ∈ Qhv,Qh Tryz.prog x) (h : ∀ (a0 : J6) (a1 : Int) y,szC Qs a0 a1 = some y → ∃ n,Qr0 n a0 a1 = some y) : Qh Tryz.prog Qd4:=by
 refine Qj (c:=Qd4) (by kernel_rfl) (by kernel_rfl : Tryz.prog.funcs[64]? = some Tryz.f64) (code:=Tryz.f64.body.getD .skip) (by kernel_rfl) (by kernel_rfl) (by kernel_rfl) (A:=QrZ) (I:=Qp9) hcs ?_
 rintro ⟨a0,a1,u⟩ y hy
 exact h a0 a1 y hy
theorem QzY : ∀ x ∈ Qhv,Qh Tryz.prog x:=(Qd Hj Qk)
theorem QBW : Qh Tryz.prog Qd4:=QBV QzY fun a0 a1 y hy=>by
 obtain ⟨hw,h0,h1,rfl⟩:=Qf2 hy
 have hw2 : wfD I64 a0.1 ∧ wfD Qa a0.2.1 ∧ wfD .str a0.2.2:=hw
 have hsz : Ty.size Qs a0 = Ty.size I64 a0.1 + (Ty.size Qa a0.2.1 + (Ty.size .str a0.2.2)):=rfl
 have z0 : Ty.size I64 a0.1 = 0:=rfl
 have z2 : Ty.size .str a0.2.2 = a0.2.2.length:=rfl
 refine ⟨0,?_⟩
 rw [Qyb,hsz]
 rw [Yt hw2.2.1 (show 0 ≤ a1 by omega) (by omega)]
 simp only [Option.bind_some]
 rcases Int.lt_or_le (a1) ((Ty.size Qa a0.2.1 : Nat) : Int) with h | h
 ·rw [show QE (a1) (Ty.size Qa a0.2.1) = -1 by unfold QE; rw [if_neg (by omega)]]; rw [decide_eq_true (show (-1 : Int) < 0 by omega)]; simp only [cond_true]; unfold QE; rw [if_neg (by omega)]
 rw [show QE (a1) (Ty.size Qa a0.2.1) = (a1 - ((Ty.size Qa a0.2.1 : Nat) : Int)) by unfold QE; rw [if_pos h]]; rw [decide_eq_false (show ¬ (a1 - ((Ty.size Qa a0.2.1 : Nat) : Int)) < 0 by omega)]; simp only [cond_false]
 have h_1:=h; clear h
 have hn2 : a0.2.2.length ≤ maxLen:=by have:=(hw2.2.2).1; unfold maxLen; omega
 rw [QcR (left:=(a1 - ((Ty.size Qa a0.2.1 : Nat) : Int))) (n:=a0.2.2.length) (by omega) (by omega) hn2]
 rcases Int.lt_or_le ((a1 - ((Ty.size Qa a0.2.1 : Nat) : Int))) (a0.2.2.length : Int) with h | h
 ·rw [decide_eq_true (show ((a1 - ((Ty.size Qa a0.2.1 : Nat) : Int)) - (a0.2.2.length : Int)) < 0 by omega)]; simp only [cond_true]; unfold QE; rw [if_neg (by omega)]
 rw [decide_eq_false (show ¬ ((a1 - ((Ty.size Qa a0.2.1 : Nat) : Int)) - (a0.2.2.length : Int)) < 0 by omega)]; simp only [cond_false]
 have h_2:=h; clear h
 unfold QE; rw [if_pos (by omega)]; congr 1 <;> omega
def Qd5 : Ctr:=⟨95,[Qo,I64],[I64],fun x=>szC Qo x.1 x.2.1⟩
def Qr1 : List (List Nat × Ann):=[]
def Qqa : List (List Nat × Nat):=[]
def Qhw : List Ctr:=[V2]
def Qr2 (n : Nat) (a0 : Qr) (a1 : Int) : Option Int:=run Tryz.prog Qr1 Qqa (Qn Qhw) Tryz.f95 (Tryz.f95.body.getD .skip) (Qp [I64]) n (Qt [Qo,I64] (a0,a1,()))
theorem Qyc (n : Nat) (a0 : Qr) (a1 : Int) : Qr2 n a0 a1 =
  bif decide (IntKind.wrap .i64 (a1 - (a0.2.1.length : Int)) < 0) then
   some (-1)
  else
   Option.bind (szC Qa a0.2.2.1 (IntKind.wrap .i64 (a1 - (a0.2.1.length : Int)))) fun (y1 : Int) =>
   bif decide (y1 < 0) then
    some (-1)
   else
    some y1:=by kernel_rfl
theorem QBX (hcs : ∀ x ∈ Qhw,Qh Tryz.prog x) (h : ∀ (a0 : Qr) (a1 : Int) y,szC Qo a0 a1 = some y → ∃ n,Qr2 n a0 a1 = some y) : Qh Tryz.prog Qd5:=by
 refine Qj (c:=Qd5) (by kernel_rfl) (by kernel_rfl : Tryz.prog.funcs[95]? = some Tryz.f95) (code:=Tryz.f95.body.getD .skip) (by kernel_rfl) (by kernel_rfl) (by kernel_rfl) (A:=Qr1) (I:=Qqa) hcs ?_
 rintro ⟨a0,a1,u⟩ y hy
 exact h a0 a1 y hy
theorem QzZ : ∀ x ∈ Qhw,Qh Tryz.prog x:=(Qd Hj Qk)
theorem QBY : Qh Tryz.prog Qd5:=QBX QzZ fun a0 a1 y hy=>by
 obtain ⟨hw,h0,h1,rfl⟩:=Qf2 hy
 have hw2 : wfD I64 a0.1 ∧ wfD .str a0.2.1 ∧ wfD Qa a0.2.2.1 ∧ wfD I64 a0.2.2.2:=hw
 have hsz : Ty.size Qo a0 = Ty.size I64 a0.1 + (Ty.size .str a0.2.1 + (Ty.size Qa a0.2.2.1 + (Ty.size I64 a0.2.2.2))):=rfl
 have z0 : Ty.size I64 a0.1 = 0:=rfl
 have z3 : Ty.size I64 a0.2.2.2 = 0:=rfl
 have z1 : Ty.size .str a0.2.1 = a0.2.1.length:=rfl
 refine ⟨0,?_⟩
 rw [Qyc,hsz]
 have hn1 : a0.2.1.length ≤ maxLen:=by have:=(hw2.2.1).1; unfold maxLen; omega
 rw [QcR (left:=a1) (n:=a0.2.1.length) (by omega) (by omega) hn1]
 rcases Int.lt_or_le (a1) (a0.2.1.length : Int) with h | h
 ·rw [decide_eq_true (show (a1 - (a0.2.1.length : Int)) < 0 by omega)]; simp only [cond_true]; unfold QE; rw [if_neg (by omega)]
 rw [decide_eq_false (show ¬ (a1 - (a0.2.1.length : Int)) < 0 by omega)]; simp only [cond_false]
 have h_1:=h; clear h
 rw [Yt hw2.2.2.1 (show 0 ≤ (a1 - (a0.2.1.length : Int)) by omega) (by omega)]
 simp only [Option.bind_some]
 rcases Int.lt_or_le ((a1 - (a0.2.1.length : Int))) ((Ty.size Qa a0.2.2.1 : Nat) : Int) with h | h
 ·rw [show QE ((a1 - (a0.2.1.length : Int))) (Ty.size Qa a0.2.2.1) = -1 by unfold QE; rw [if_neg (by omega)]]; rw [decide_eq_true (show (-1 : Int) < 0 by omega)]; simp only [cond_true]; unfold QE; rw [if_neg (by omega)]
 rw [show QE ((a1 - (a0.2.1.length : Int))) (Ty.size Qa a0.2.2.1) = ((a1 - (a0.2.1.length : Int)) - ((Ty.size Qa a0.2.2.1 : Nat) : Int)) by unfold QE; rw [if_pos h]]; rw [decide_eq_false (show ¬ ((a1 - (a0.2.1.length : Int)) - ((Ty.size Qa a0.2.2.1 : Nat) : Int)) < 0 by omega)]; simp only [cond_false]
 have h_2:=h; clear h
 unfold QE; rw [if_pos (by omega)]; congr 1 <;> omega
def Qcd : Ctr:=⟨65,[(.list Qo),I64],[I64],fun x=>szC (.list Qo) x.1 x.2.1⟩
def Qhx : List (List Nat × Ann):=[([0,5],[.keep 0 0,.keep 0 1,.keep 0 5])]
def Qfe : List (List Nat × Nat):=[]
def EV : List Ctr:=[Qd5]
def Qqb (n : Nat) (a0 : (List Qr)) (a1 : Int) : Option Int:=run Tryz.prog Qhx Qfe (Qn EV) Tryz.f65 (Tryz.f65.body.getD .skip) (Qp [I64]) n (Qt [(.list Qo),I64] (a0,a1,()))
abbrev QaD (n : Nat) (x1 : (List Qr)) (x2 : Int) (x3 : Int) : Option Int:=lam Tryz.prog Qhx Qfe (Qn EV) Tryz.f65 (Tryz.f65.body.getD .skip) (Qp [I64]) n [0,5] [.d (.list Qo) x1,.d I64 x2,.d I64 x3]
theorem Qv8 (n : Nat) (a0 : (List Qr)) (a1 : Int) : Qqb n a0 a1 =
  bif decide (IntKind.wrap .i64 (a1 - (a0.length : Int)) < 0) then
   some (-1)
  else
   QaD n a0 (IntKind.wrap .i64 (a1 - (a0.length : Int))) 0:=by kernel_rfl
theorem Qn2 (n : Nat) (x1 : (List Qr)) (x2 : Int) (x3 : Int) : QaD (n + 1) x1 x2 x3 =
  bif decide (x3 < (x1.length : Int)) then
   bif inB x3 x1.length then
    Option.bind (szC Qo (rd x1 x3 (Ty.dflt Qo)) x2) fun (y1 : Int) =>
    bif decide (y1 < 0) then
     some (-1)
    else
     QaD n x1 y1 (IntKind.wrap .i64 (x3 + 1))
   else none
  else
   some x2:=by kernel_rfl
theorem Qz0 (hcs : ∀ x ∈ EV,Qh Tryz.prog x) (h : ∀ (a0 : (List Qr)) (a1 : Int) y,szC (.list Qo) a0 a1 = some y → ∃ n,Qqb n a0 a1 = some y) : Qh Tryz.prog Qcd:=by
 refine Qj (c:=Qcd) (by kernel_rfl) (by kernel_rfl : Tryz.prog.funcs[65]? = some Tryz.f65) (code:=Tryz.f65.body.getD .skip) (by kernel_rfl) (by kernel_rfl) (by kernel_rfl) (A:=Qhx) (I:=Qfe) hcs ?_
 rintro ⟨a0,a1,u⟩ y hy
 exact h a0 a1 y hy
theorem Qyd : ∀ x ∈ EV,Qh Tryz.prog x:=(Qd QBY Qk)
theorem Qz1 : Qh Tryz.prog Qcd:=Qz0 Qyd fun a0 a1 y hy=>by
 obtain ⟨n,hn⟩:=QoF (fun n xs s i=>Qn2 n xs s i) hy
 exact ⟨n,(Qv8 n a0 a1).trans hn⟩
def EW : Ctr:=⟨27,[Qg,I64],[I64],fun x=>szC Qg x.1 x.2.1⟩
def Qnj : List (List Nat × Ann):=[]
def QkF : List (List Nat × Nat):=[]
def QdL : List Ctr:=[Qd4,Qcd]
def Qnk (n : Nat) (a0 : Qi) (a1 : Int) : Option Int:=run Tryz.prog Qnj QkF (Qn QdL) Tryz.f27 (Tryz.f27.body.getD .skip) (Qp [I64]) n (Qt [Qg,I64] (a0,a1,()))
theorem QtX (n : Nat) (a0 : Qi) (a1 : Int) : Qnk n a0 a1 =
  bif decide (IntKind.wrap .i64 (a1 - (a0.1.length : Int)) < 0) then
   some (-1)
  else
   Option.bind (szC Qs a0.2.2.1 (IntKind.wrap .i64 (a1 - (a0.1.length : Int)))) fun (y1 : Int) =>
   bif decide (y1 < 0) then
    some (-1)
   else
    Option.bind (szC Qs a0.2.2.2.1 y1) fun (y2 : Int) =>
    bif decide (y2 < 0) then
     some (-1)
    else
     Option.bind (szC Qs a0.2.2.2.2.1 y2) fun (y3 : Int) =>
     bif decide (y3 < 0) then
      some (-1)
     else
      Option.bind (szC (.list Qo) a0.2.2.2.2.2 y3) fun (y4 : Int) =>
      bif decide (y4 < 0) then
       some (-1)
      else
       some y4:=by kernel_rfl
theorem Qye (hcs : ∀ x ∈ QdL,Qh Tryz.prog x) (h : ∀ (a0 : Qi) (a1 : Int) y,szC Qg a0 a1 = some y → ∃ n,Qnk n a0 a1 = some y) : Qh Tryz.prog EW:=by
 refine Qj (c:=EW) (by kernel_rfl) (by kernel_rfl : Tryz.prog.funcs[27]? = some Tryz.f27) (code:=Tryz.f27.body.getD .skip) (by kernel_rfl) (by kernel_rfl) (by kernel_rfl) (A:=Qnj) (I:=QkF) hcs ?_
 rintro ⟨a0,a1,u⟩ y hy
 exact h a0 a1 y hy
theorem Qv9 : ∀ x ∈ QdL,Qh Tryz.prog x:=(Qd QBW (Qd Qz1 Qk))
theorem Qyf : Qh Tryz.prog EW:=Qye Qv9 fun a0 a1 y hy=>by
 obtain ⟨hw,h0,h1,rfl⟩:=Qf2 hy
 have hw2 : wfD .str a0.1 ∧ wfD .bool a0.2.1 ∧ wfD Qs a0.2.2.1 ∧ wfD Qs a0.2.2.2.1 ∧ wfD Qs a0.2.2.2.2.1 ∧ wfD (.list Qo) a0.2.2.2.2.2:=hw
 have hsz : Ty.size Qg a0 = Ty.size .str a0.1 + (Ty.size .bool a0.2.1 + (Ty.size Qs a0.2.2.1 + (Ty.size Qs a0.2.2.2.1 + (Ty.size Qs a0.2.2.2.2.1 + (Ty.size (.list Qo) a0.2.2.2.2.2))))):=rfl
 have z1 : Ty.size .bool a0.2.1 = 0:=rfl
 have z0 : Ty.size .str a0.1 = a0.1.length:=rfl
 refine ⟨0,?_⟩
 rw [QtX,hsz]
 have hn0 : a0.1.length ≤ maxLen:=by have:=(hw2.1).1; unfold maxLen; omega
 rw [QcR (left:=a1) (n:=a0.1.length) (by omega) (by omega) hn0]
 rcases Int.lt_or_le (a1) (a0.1.length : Int) with h | h
 ·rw [decide_eq_true (show (a1 - (a0.1.length : Int)) < 0 by omega)]; simp only [cond_true]; unfold QE; rw [if_neg (by omega)]
 rw [decide_eq_false (show ¬ (a1 - (a0.1.length : Int)) < 0 by omega)]; simp only [cond_false]
 have h_0:=h; clear h
 rw [Yt hw2.2.2.1 (show 0 ≤ (a1 - (a0.1.length : Int)) by omega) (by omega)]
 simp only [Option.bind_some]
 rcases Int.lt_or_le ((a1 - (a0.1.length : Int))) ((Ty.size Qs a0.2.2.1 : Nat) : Int) with h | h
 ·rw [show QE ((a1 - (a0.1.length : Int))) (Ty.size Qs a0.2.2.1) = -1 by unfold QE; rw [if_neg (by omega)]]; rw [decide_eq_true (show (-1 : Int) < 0 by omega)]; simp only [cond_true]; unfold QE; rw [if_neg (by omega)]
 rw [show QE ((a1 - (a0.1.length : Int))) (Ty.size Qs a0.2.2.1) = ((a1 - (a0.1.length : Int)) - ((Ty.size Qs a0.2.2.1 : Nat) : Int)) by unfold QE; rw [if_pos h]]; rw [decide_eq_false (show ¬ ((a1 - (a0.1.length : Int)) - ((Ty.size Qs a0.2.2.1 : Nat) : Int)) < 0 by omega)]; simp only [cond_false]
 have h_2:=h; clear h
 rw [Yt hw2.2.2.2.1 (show 0 ≤ ((a1 - (a0.1.length : Int)) - ((Ty.size Qs a0.2.2.1 : Nat) : Int)) by omega) (by omega)]
 simp only [Option.bind_some]
 rcases Int.lt_or_le (((a1 - (a0.1.length : Int)) - ((Ty.size Qs a0.2.2.1 : Nat) : Int))) ((Ty.size Qs a0.2.2.2.1 : Nat) : Int) with h | h
 ·rw [show QE (((a1 - (a0.1.length : Int)) - ((Ty.size Qs a0.2.2.1 : Nat) : Int))) (Ty.size Qs a0.2.2.2.1) = -1 by unfold QE; rw [if_neg (by omega)]]; rw [decide_eq_true (show (-1 : Int) < 0 by omega)]; simp only [cond_true]; unfold QE; rw [if_neg (by omega)]
 rw [show QE (((a1 - (a0.1.length : Int)) - ((Ty.size Qs a0.2.2.1 : Nat) : Int))) (Ty.size Qs a0.2.2.2.1) = (((a1 - (a0.1.length : Int)) - ((Ty.size Qs a0.2.2.1 : Nat) : Int)) - ((Ty.size Qs a0.2.2.2.1 : Nat) : Int)) by unfold QE; rw [if_pos h]]; rw [decide_eq_false (show ¬ (((a1 - (a0.1.length : Int)) - ((Ty.size Qs a0.2.2.1 : Nat) : Int)) - ((Ty.size Qs a0.2.2.2.1 : Nat) : Int)) < 0 by omega)]; simp only [cond_false]
 have h_3:=h; clear h
 rw [Yt hw2.2.2.2.2.1 (show 0 ≤ (((a1 - (a0.1.length : Int)) - ((Ty.size Qs a0.2.2.1 : Nat) : Int)) - ((Ty.size Qs a0.2.2.2.1 : Nat) : Int)) by omega) (by omega)]
 simp only [Option.bind_some]
 rcases Int.lt_or_le ((((a1 - (a0.1.length : Int)) - ((Ty.size Qs a0.2.2.1 : Nat) : Int)) - ((Ty.size Qs a0.2.2.2.1 : Nat) : Int))) ((Ty.size Qs a0.2.2.2.2.1 : Nat) : Int) with h | h
 ·rw [show QE ((((a1 - (a0.1.length : Int)) - ((Ty.size Qs a0.2.2.1 : Nat) : Int)) - ((Ty.size Qs a0.2.2.2.1 : Nat) : Int))) (Ty.size Qs a0.2.2.2.2.1) = -1 by unfold QE; rw [if_neg (by omega)]]; rw [decide_eq_true (show (-1 : Int) < 0 by omega)]; simp only [cond_true]; unfold QE; rw [if_neg (by omega)]
 rw [show QE ((((a1 - (a0.1.length : Int)) - ((Ty.size Qs a0.2.2.1 : Nat) : Int)) - ((Ty.size Qs a0.2.2.2.1 : Nat) : Int))) (Ty.size Qs a0.2.2.2.2.1) = ((((a1 - (a0.1.length : Int)) - ((Ty.size Qs a0.2.2.1 : Nat) : Int)) - ((Ty.size Qs a0.2.2.2.1 : Nat) : Int)) - ((Ty.size Qs a0.2.2.2.2.1 : Nat) : Int)) by unfold QE; rw [if_pos h]]; rw [decide_eq_false (show ¬ ((((a1 - (a0.1.length : Int)) - ((Ty.size Qs a0.2.2.1 : Nat) : Int)) - ((Ty.size Qs a0.2.2.2.1 : Nat) : Int)) - ((Ty.size Qs a0.2.2.2.2.1 : Nat) : Int)) < 0 by omega)]; simp only [cond_false]
 have h_4:=h; clear h
 rw [Yt hw2.2.2.2.2.2 (show 0 ≤ ((((a1 - (a0.1.length : Int)) - ((Ty.size Qs a0.2.2.1 : Nat) : Int)) - ((Ty.size Qs a0.2.2.2.1 : Nat) : Int)) - ((Ty.size Qs a0.2.2.2.2.1 : Nat) : Int)) by omega) (by omega)]
 simp only [Option.bind_some]
 rcases Int.lt_or_le (((((a1 - (a0.1.length : Int)) - ((Ty.size Qs a0.2.2.1 : Nat) : Int)) - ((Ty.size Qs a0.2.2.2.1 : Nat) : Int)) - ((Ty.size Qs a0.2.2.2.2.1 : Nat) : Int))) ((Ty.size (.list Qo) a0.2.2.2.2.2 : Nat) : Int) with h | h
 ·rw [show QE (((((a1 - (a0.1.length : Int)) - ((Ty.size Qs a0.2.2.1 : Nat) : Int)) - ((Ty.size Qs a0.2.2.2.1 : Nat) : Int)) - ((Ty.size Qs a0.2.2.2.2.1 : Nat) : Int))) (Ty.size (.list Qo) a0.2.2.2.2.2) = -1 by unfold QE; rw [if_neg (by omega)]]; rw [decide_eq_true (show (-1 : Int) < 0 by omega)]; simp only [cond_true]; unfold QE; rw [if_neg (by omega)]
 rw [show QE (((((a1 - (a0.1.length : Int)) - ((Ty.size Qs a0.2.2.1 : Nat) : Int)) - ((Ty.size Qs a0.2.2.2.1 : Nat) : Int)) - ((Ty.size Qs a0.2.2.2.2.1 : Nat) : Int))) (Ty.size (.list Qo) a0.2.2.2.2.2) = (((((a1 - (a0.1.length : Int)) - ((Ty.size Qs a0.2.2.1 : Nat) : Int)) - ((Ty.size Qs a0.2.2.2.1 : Nat) : Int)) - ((Ty.size Qs a0.2.2.2.2.1 : Nat) : Int)) - ((Ty.size (.list Qo) a0.2.2.2.2.2 : Nat) : Int)) by unfold QE; rw [if_pos h]]; rw [decide_eq_false (show ¬ (((((a1 - (a0.1.length : Int)) - ((Ty.size Qs a0.2.2.1 : Nat) : Int)) - ((Ty.size Qs a0.2.2.2.1 : Nat) : Int)) - ((Ty.size Qs a0.2.2.2.2.1 : Nat) : Int)) - ((Ty.size (.list Qo) a0.2.2.2.2.2 : Nat) : Int)) < 0 by omega)]; simp only [cond_false]
 have h_5:=h; clear h
 unfold QE; rw [if_pos (by omega)]; congr 1 <;> omega
def WF : Ctr:=⟨7,[(.list Qg),I64],[I64],fun x=>szC (.list Qg) x.1 x.2.1⟩
def QdM : List (List Nat × Ann):=[([0,5],[.keep 0 0,.keep 0 1,.keep 0 5])]
def Qce : List (List Nat × Nat):=[]
def Ut : List Ctr:=[EW]
def QkG (n : Nat) (a0 : (List Qi)) (a1 : Int) : Option Int:=run Tryz.prog QdM Qce (Qn Ut) Tryz.f7 (Tryz.f7.body.getD .skip) (Qp [I64]) n (Qt [(.list Qg),I64] (a0,a1,()))
abbrev U7 (n : Nat) (x1 : (List Qi)) (x2 : Int) (x3 : Int) : Option Int:=lam Tryz.prog QdM Qce (Qn Ut) Tryz.f7 (Tryz.f7.body.getD .skip) (Qp [I64]) n [0,5] [.d (.list Qg) x1,.d I64 x2,.d I64 x3]
theorem Qrw (n : Nat) (a0 : (List Qi)) (a1 : Int) : QkG n a0 a1 =
  bif decide (IntKind.wrap .i64 (a1 - (a0.length : Int)) < 0) then
   some (-1)
  else
   U7 n a0 (IntKind.wrap .i64 (a1 - (a0.length : Int))) 0:=by kernel_rfl
theorem QkH (n : Nat) (x1 : (List Qi)) (x2 : Int) (x3 : Int) : U7 (n + 1) x1 x2 x3 =
  bif decide (x3 < (x1.length : Int)) then
   bif inB x3 x1.length then
    Option.bind (szC Qg (rd x1 x3 (Ty.dflt Qg)) x2) fun (y1 : Int) =>
    bif decide (y1 < 0) then
     some (-1)
    else
     U7 n x1 y1 (IntKind.wrap .i64 (x3 + 1))
   else none
  else
   some x2:=by kernel_rfl
theorem Qwa (hcs : ∀ x ∈ Ut,Qh Tryz.prog x) (h : ∀ (a0 : (List Qi)) (a1 : Int) y,szC (.list Qg) a0 a1 = some y → ∃ n,QkG n a0 a1 = some y) : Qh Tryz.prog WF:=by
 refine Qj (c:=WF) (by kernel_rfl) (by kernel_rfl : Tryz.prog.funcs[7]? = some Tryz.f7) (code:=Tryz.f7.body.getD .skip) (by kernel_rfl) (by kernel_rfl) (by kernel_rfl) (A:=QdM) (I:=Qce) hcs ?_
 rintro ⟨a0,a1,u⟩ y hy
 exact h a0 a1 y hy
theorem QtY : ∀ x ∈ Ut,Qh Tryz.prog x:=(Qd Qyf Qk)
theorem Qwb : Qh Tryz.prog WF:=Qwa QtY fun a0 a1 y hy=>by
 obtain ⟨n,hn⟩:=QoF (fun n xs s i=>QkH n xs s i) hy
 exact ⟨n,(Qrw n a0 a1).trans hn⟩
def V3 : Ctr:=⟨45,[Qa,Qa],[.bool],fun x=>eqC Qa x.1 x.2.1⟩
def Qr3 : List (List Nat × Ann):=[]
def Qqc : List (List Nat × Nat):=[]
def Qhy : List Ctr:=[]
def Qr4 (n : Nat) (a0 : Qb) (a1 : Qb) : Option Bool:=run Tryz.prog Qr3 Qqc (Qn Qhy) Tryz.f45 (Tryz.f45.body.getD .skip) (Qp [.bool]) n (Qt [Qa,Qa] (a0,a1,()))
theorem Qyg (n : Nat) (a0 : Qb) (a1 : Qb) : Qr4 n a0 a1 =
  bif !decide (a0.1 = a1.1) then
   some false
  else
   bif !decide (a0.2.1 = a1.2.1) then
    some false
   else
    bif !decide (a0.2.2.1 = a1.2.2.1) then
     some false
    else
     bif !decide (a0.2.2.2 = a1.2.2.2) then
      some false
     else
      some true:=by kernel_rfl
theorem QBZ (hcs : ∀ x ∈ Qhy,Qh Tryz.prog x) (h : ∀ (a0 : Qb) (a1 : Qb) y,eqC Qa a0 a1 = some y → ∃ n,Qr4 n a0 a1 = some y) : Qh Tryz.prog V3:=by
 refine Qj (c:=V3) (by kernel_rfl) (by kernel_rfl : Tryz.prog.funcs[45]? = some Tryz.f45) (code:=Tryz.f45.body.getD .skip) (by kernel_rfl) (by kernel_rfl) (by kernel_rfl) (A:=Qr3) (I:=Qqc) hcs ?_
 rintro ⟨a0,a1,u⟩ y hy
 exact h a0 a1 y hy
theorem Qz2 : ∀ x ∈ Qhy,Qh Tryz.prog x:=Qk
theorem Hk : Qh Tryz.prog V3:=QBZ Qz2 fun a0 a1 y hy=>by
 obtain ⟨rfl,hw,rfl⟩:=QhZ hy
 have hw2 : wfD I64 a0.1 ∧ wfD I64 a0.2.1 ∧ wfD .str a0.2.2.1 ∧ wfD .str a0.2.2.2:=hw
 refine ⟨0,?_⟩
 rw [Qyg]
 simp []
def U9 : Ctr:=⟨88,[(.list Qa),(.list Qa)],[.bool],fun x=>eqC (.list Qa) x.1 x.2.1⟩
def Qhz : List (List Nat × Ann):=[([0,4],[.keep 0 0,.keep 0 1,.keep 0 5])]
def Qff : List (List Nat × Nat):=[]
def EX : List Ctr:=[V3]
def Qqd (n : Nat) (a0 : (List Qb)) (a1 : (List Qb)) : Option Bool:=run Tryz.prog Qhz Qff (Qn EX) Tryz.f88 (Tryz.f88.body.getD .skip) (Qp [.bool]) n (Qt [(.list Qa),(.list Qa)] (a0,a1,()))
abbrev QaE (n : Nat) (x1 : (List Qb)) (x2 : (List Qb)) (x3 : Int) : Option Bool:=lam Tryz.prog Qhz Qff (Qn EX) Tryz.f88 (Tryz.f88.body.getD .skip) (Qp [.bool]) n [0,4] [.d (.list Qa) x1,.d (.list Qa) x2,.d I64 x3]
theorem Qwc (n : Nat) (a0 : (List Qb)) (a1 : (List Qb)) : Qqd n a0 a1 =
  bif !decide ((a0.length : Int) = (a1.length : Int)) then
   some false
  else
   QaE n a0 a1 0:=by kernel_rfl
theorem Qn3 (n : Nat) (x1 : (List Qb)) (x2 : (List Qb)) (x3 : Int) : QaE (n + 1) x1 x2 x3 =
  bif decide (x3 < (x1.length : Int)) then
   bif inB x3 x1.length then
    bif inB x3 x2.length then
     Option.bind (eqC Qa (rd x1 x3 (Ty.dflt Qa)) (rd x2 x3 (Ty.dflt Qa))) fun (y1 : Bool) =>
     bif !(y1) then
      some false
     else
      QaE n x1 x2 (IntKind.wrap .i64 (x3 + 1))
    else none
   else none
  else
   some true:=by kernel_rfl
theorem Qz3 (hcs : ∀ x ∈ EX,Qh Tryz.prog x) (h : ∀ (a0 : (List Qb)) (a1 : (List Qb)) y,eqC (.list Qa) a0 a1 = some y → ∃ n,Qqd n a0 a1 = some y) : Qh Tryz.prog U9:=by
 refine Qj (c:=U9) (by kernel_rfl) (by kernel_rfl : Tryz.prog.funcs[88]? = some Tryz.f88) (code:=Tryz.f88.body.getD .skip) (by kernel_rfl) (by kernel_rfl) (by kernel_rfl) (A:=Qhz) (I:=Qff) hcs ?_
 rintro ⟨a0,a1,u⟩ y hy
 exact h a0 a1 y hy
theorem Qyh : ∀ x ∈ EX,Qh Tryz.prog x:=(Qd Hk Qk)
theorem Qnl : Qh Tryz.prog U9:=Qz3 Qyh fun a0 a1 y hy=>by
 obtain ⟨n,hn⟩:=Qw7 (t:=Qa) (body:=fun x y K=>Option.bind (eqC Qa x y) fun b=>bif !b then some false else K ()) (fun x K h=>by simp only [Z5 h,Option.bind_some,Bool.not_true,cond_false]) (fun n xs ys i=>Qn3 n xs ys i) hy
 exact ⟨n,(Qwc n a0 a1).trans hn⟩
def GR : Ctr:=⟨46,[(.list .str),(.list .str)],[.bool],fun x=>eqC (.list .str) x.1 x.2.1⟩
def QdN : List (List Nat × Ann):=[([0,4],[.keep 0 0,.keep 0 1,.keep 0 5])]
def Qcf : List (List Nat × Nat):=[]
def Uu : List Ctr:=[]
def QkI (n : Nat) (a0 : (List (List Int))) (a1 : (List (List Int))) : Option Bool:=run Tryz.prog QdN Qcf (Qn Uu) Tryz.f46 (Tryz.f46.body.getD .skip) (Qp [.bool]) n (Qt [(.list .str),(.list .str)] (a0,a1,()))
abbrev Wa (n : Nat) (x1 : (List (List Int))) (x2 : (List (List Int))) (x3 : Int) : Option Bool:=lam Tryz.prog QdN Qcf (Qn Uu) Tryz.f46 (Tryz.f46.body.getD .skip) (Qp [.bool]) n [0,4] [.d (.list .str) x1,.d (.list .str) x2,.d I64 x3]
theorem Qrx (n : Nat) (a0 : (List (List Int))) (a1 : (List (List Int))) : QkI n a0 a1 =
  bif !decide ((a0.length : Int) = (a1.length : Int)) then
   some false
  else
   Wa n a0 a1 0:=by kernel_rfl
theorem QkJ (n : Nat) (x1 : (List (List Int))) (x2 : (List (List Int))) (x3 : Int) : Wa (n + 1) x1 x2 x3 =
  bif decide (x3 < (x1.length : Int)) then
   bif inB x3 x1.length then
    bif inB x3 x2.length then
     bif !decide (rd x1 x3 (Ty.dflt .str) = rd x2 x3 (Ty.dflt .str)) then
      some false
     else
      Wa n x1 x2 (IntKind.wrap .i64 (x3 + 1))
    else none
   else none
  else
   some true:=by kernel_rfl
theorem Qwd (hcs : ∀ x ∈ Uu,Qh Tryz.prog x) (h : ∀ (a0 : (List (List Int))) (a1 : (List (List Int))) y,eqC (.list .str) a0 a1 = some y → ∃ n,QkI n a0 a1 = some y) : Qh Tryz.prog GR:=by
 refine Qj (c:=GR) (by kernel_rfl) (by kernel_rfl : Tryz.prog.funcs[46]? = some Tryz.f46) (code:=Tryz.f46.body.getD .skip) (by kernel_rfl) (by kernel_rfl) (by kernel_rfl) (A:=QdN) (I:=Qcf) hcs ?_
 rintro ⟨a0,a1,u⟩ y hy
 exact h a0 a1 y hy
theorem QtZ : ∀ x ∈ Uu,Qh Tryz.prog x:=Qk
theorem Qcg : Qh Tryz.prog GR:=Qwd QtZ fun a0 a1 y hy=>by
 obtain ⟨n,hn⟩:=Qw7 (t:=.str) (body:=fun x y K=>bif !decide (x = y) then some false else K ()) (fun x K h=>by simp) (fun n xs ys i=>QkJ n xs ys i) hy
 exact ⟨n,(Qrx n a0 a1).trans hn⟩
def Qch : Ctr:=⟨89,[Qf,Qf],[.bool],fun x=>eqC Qf x.1 x.2.1⟩
def Qqe : List (List Nat × Ann):=[]
def Qnm : List (List Nat × Nat):=[]
def Qfg : List Ctr:=[V3,U9,GR]
def Qqf (n : Nat) (a0 : Ql) (a1 : Ql) : Option Bool:=run Tryz.prog Qqe Qnm (Qn Qfg) Tryz.f89 (Tryz.f89.body.getD .skip) (Qp [.bool]) n (Qt [Qf,Qf] (a0,a1,()))
theorem Qwe (n : Nat) (a0 : Ql) (a1 : Ql) : Qqf n a0 a1 =
  bif !decide (a0.1 = a1.1) then
   some false
  else
   Option.bind (eqC Qa a0.2.1 a1.2.1) fun (y1 : Bool) =>
   bif !(y1) then
    some false
   else
    Option.bind (eqC (.list Qa) a0.2.2.1 a1.2.2.1) fun (y2 : Bool) =>
    bif !(y2) then
     some false
    else
     Option.bind (eqC (.list .str) a0.2.2.2 a1.2.2.2) fun (y3 : Bool) =>
     bif !(y3) then
      some false
     else
      some true:=by kernel_rfl
theorem Qz4 (hcs : ∀ x ∈ Qfg,Qh Tryz.prog x) (h : ∀ (a0 : Ql) (a1 : Ql) y,eqC Qf a0 a1 = some y → ∃ n,Qqf n a0 a1 = some y) : Qh Tryz.prog Qch:=by
 refine Qj (c:=Qch) (by kernel_rfl) (by kernel_rfl : Tryz.prog.funcs[89]? = some Tryz.f89) (code:=Tryz.f89.body.getD .skip) (by kernel_rfl) (by kernel_rfl) (by kernel_rfl) (A:=Qqe) (I:=Qnm) hcs ?_
 rintro ⟨a0,a1,u⟩ y hy
 exact h a0 a1 y hy
theorem Qyi : ∀ x ∈ Qfg,Qh Tryz.prog x:=(Qd Hk (Qd Qnl (Qd Qcg Qk)))
theorem Qz5 : Qh Tryz.prog Qch:=Qz4 Qyi fun a0 a1 y hy=>by
 obtain ⟨rfl,hw,rfl⟩:=QhZ hy
 have hw2 : wfD I64 a0.1 ∧ wfD Qa a0.2.1 ∧ wfD (.list Qa) a0.2.2.1 ∧ wfD (.list .str) a0.2.2.2:=hw
 refine ⟨0,?_⟩
 rw [Qwe]
 simp [Z5 hw2.2.1,Z5 hw2.2.2.1,Z5 hw2.2.2.2]
def H0 : Ctr:=⟨47,[(.list Qf),(.list Qf)],[.bool],fun x=>eqC (.list Qf) x.1 x.2.1⟩
def Qfh : List (List Nat × Ann):=[([0,4],[.keep 0 0,.keep 0 1,.keep 0 5])]
def QdO : List (List Nat × Nat):=[]
def WG : List Ctr:=[Qch]
def Qnn (n : Nat) (a0 : (List Ql)) (a1 : (List Ql)) : Option Bool:=run Tryz.prog Qfh QdO (Qn WG) Tryz.f47 (Tryz.f47.body.getD .skip) (Qp [.bool]) n (Qt [(.list Qf),(.list Qf)] (a0,a1,()))
abbrev Ed (n : Nat) (x1 : (List Ql)) (x2 : (List Ql)) (x3 : Int) : Option Bool:=lam Tryz.prog Qfh QdO (Qn WG) Tryz.f47 (Tryz.f47.body.getD .skip) (Qp [.bool]) n [0,4] [.d (.list Qf) x1,.d (.list Qf) x2,.d I64 x3]
theorem Qt0 (n : Nat) (a0 : (List Ql)) (a1 : (List Ql)) : Qnn n a0 a1 =
  bif !decide ((a0.length : Int) = (a1.length : Int)) then
   some false
  else
   Ed n a0 a1 0:=by kernel_rfl
theorem QlW (n : Nat) (x1 : (List Ql)) (x2 : (List Ql)) (x3 : Int) : Ed (n + 1) x1 x2 x3 =
  bif decide (x3 < (x1.length : Int)) then
   bif inB x3 x1.length then
    bif inB x3 x2.length then
     Option.bind (eqC Qf (rd x1 x3 (Ty.dflt Qf)) (rd x2 x3 (Ty.dflt Qf))) fun (y1 : Bool) =>
     bif !(y1) then
      some false
     else
      Ed n x1 x2 (IntKind.wrap .i64 (x3 + 1))
    else none
   else none
  else
   some true:=by kernel_rfl
theorem Qyj (hcs : ∀ x ∈ WG,Qh Tryz.prog x) (h : ∀ (a0 : (List Ql)) (a1 : (List Ql)) y,eqC (.list Qf) a0 a1 = some y → ∃ n,Qnn n a0 a1 = some y) : Qh Tryz.prog H0:=by
 refine Qj (c:=H0) (by kernel_rfl) (by kernel_rfl : Tryz.prog.funcs[47]? = some Tryz.f47) (code:=Tryz.f47.body.getD .skip) (by kernel_rfl) (by kernel_rfl) (by kernel_rfl) (A:=Qfh) (I:=QdO) hcs ?_
 rintro ⟨a0,a1,u⟩ y hy
 exact h a0 a1 y hy
theorem Qwf : ∀ x ∈ WG,Qh Tryz.prog x:=(Qd Qz5 Qk)
theorem QkK : Qh Tryz.prog H0:=Qyj Qwf fun a0 a1 y hy=>by
 obtain ⟨n,hn⟩:=Qw7 (t:=Qf) (body:=fun x y K=>Option.bind (eqC Qf x y) fun b=>bif !b then some false else K ()) (fun x K h=>by simp only [Z5 h,Option.bind_some,Bool.not_true,cond_false]) (fun n xs ys i=>QlW n xs ys i) hy
 exact ⟨n,(Qt0 n a0 a1).trans hn⟩
def Qci : Ctr:=⟨44,[Qe,Qe],[.bool],fun x=>eqC Qe x.1 x.2.1⟩
def Qqg : List (List Nat × Ann):=[]
def Qno : List (List Nat × Nat):=[]
def Qfi : List Ctr:=[V3,U9,GR,H0]
def Qqh (n : Nat) (a0 : Qc) (a1 : Qc) : Option Bool:=run Tryz.prog Qqg Qno (Qn Qfi) Tryz.f44 (Tryz.f44.body.getD .skip) (Qp [.bool]) n (Qt [Qe,Qe] (a0,a1,()))
theorem Qwg (n : Nat) (a0 : Qc) (a1 : Qc) : Qqh n a0 a1 =
  Option.bind (eqC Qa a0.1 a1.1) fun (y1 : Bool) =>
  bif !(y1) then
   some false
  else
   Option.bind (eqC (.list Qa) a0.2.1 a1.2.1) fun (y2 : Bool) =>
   bif !(y2) then
    some false
   else
    Option.bind (eqC (.list .str) a0.2.2.1 a1.2.2.1) fun (y3 : Bool) =>
    bif !(y3) then
     some false
    else
     Option.bind (eqC (.list Qf) a0.2.2.2 a1.2.2.2) fun (y4 : Bool) =>
     bif !(y4) then
      some false
     else
      some true:=by kernel_rfl
theorem Qz6 (hcs : ∀ x ∈ Qfi,Qh Tryz.prog x) (h : ∀ (a0 : Qc) (a1 : Qc) y,eqC Qe a0 a1 = some y → ∃ n,Qqh n a0 a1 = some y) : Qh Tryz.prog Qci:=by
 refine Qj (c:=Qci) (by kernel_rfl) (by kernel_rfl : Tryz.prog.funcs[44]? = some Tryz.f44) (code:=Tryz.f44.body.getD .skip) (by kernel_rfl) (by kernel_rfl) (by kernel_rfl) (A:=Qqg) (I:=Qno) hcs ?_
 rintro ⟨a0,a1,u⟩ y hy
 exact h a0 a1 y hy
theorem Qyk : ∀ x ∈ Qfi,Qh Tryz.prog x:=(Qd Hk (Qd Qnl (Qd Qcg (Qd QkK Qk))))
theorem Qz7 : Qh Tryz.prog Qci:=Qz6 Qyk fun a0 a1 y hy=>by
 obtain ⟨rfl,hw,rfl⟩:=QhZ hy
 have hw2 : wfD Qa a0.1 ∧ wfD (.list Qa) a0.2.1 ∧ wfD (.list .str) a0.2.2.1 ∧ wfD (.list Qf) a0.2.2.2:=hw
 refine ⟨0,?_⟩
 rw [Qwg]
 simp [Z5 hw2.1,Z5 hw2.2.1,Z5 hw2.2.2.1,Z5 hw2.2.2.2]
def EY : Ctr:=⟨13,[(.list Qe),(.list Qe)],[.bool],fun x=>eqC (.list Qe) x.1 x.2.1⟩
def Qfj : List (List Nat × Ann):=[([0,4],[.keep 0 0,.keep 0 1,.keep 0 5])]
def QdP : List (List Nat × Nat):=[]
def WH : List Ctr:=[Qci]
def Qnp (n : Nat) (a0 : (List Qc)) (a1 : (List Qc)) : Option Bool:=run Tryz.prog Qfj QdP (Qn WH) Tryz.f13 (Tryz.f13.body.getD .skip) (Qp [.bool]) n (Qt [(.list Qe),(.list Qe)] (a0,a1,()))
abbrev Ee (n : Nat) (x1 : (List Qc)) (x2 : (List Qc)) (x3 : Int) : Option Bool:=lam Tryz.prog Qfj QdP (Qn WH) Tryz.f13 (Tryz.f13.body.getD .skip) (Qp [.bool]) n [0,4] [.d (.list Qe) x1,.d (.list Qe) x2,.d I64 x3]
theorem Qt1 (n : Nat) (a0 : (List Qc)) (a1 : (List Qc)) : Qnp n a0 a1 =
  bif !decide ((a0.length : Int) = (a1.length : Int)) then
   some false
  else
   Ee n a0 a1 0:=by kernel_rfl
theorem QlX (n : Nat) (x1 : (List Qc)) (x2 : (List Qc)) (x3 : Int) : Ee (n + 1) x1 x2 x3 =
  bif decide (x3 < (x1.length : Int)) then
   bif inB x3 x1.length then
    bif inB x3 x2.length then
     Option.bind (eqC Qe (((rd x1 x3 (Ty.dflt Qe)).1),((rd x1 x3 (Ty.dflt Qe)).2)) (((rd x2 x3 (Ty.dflt Qe)).1),((rd x2 x3 (Ty.dflt Qe)).2))) fun (y1 : Bool) =>
     bif !(y1) then
      some false
     else
      Ee n x1 x2 (IntKind.wrap .i64 (x3 + 1))
    else none
   else none
  else
   some true:=by kernel_rfl
theorem Qyl (hcs : ∀ x ∈ WH,Qh Tryz.prog x) (h : ∀ (a0 : (List Qc)) (a1 : (List Qc)) y,eqC (.list Qe) a0 a1 = some y → ∃ n,Qnp n a0 a1 = some y) : Qh Tryz.prog EY:=by
 refine Qj (c:=EY) (by kernel_rfl) (by kernel_rfl : Tryz.prog.funcs[13]? = some Tryz.f13) (code:=Tryz.f13.body.getD .skip) (by kernel_rfl) (by kernel_rfl) (by kernel_rfl) (A:=Qfj) (I:=QdP) hcs ?_
 rintro ⟨a0,a1,u⟩ y hy
 exact h a0 a1 y hy
theorem Qwh : ∀ x ∈ WH,Qh Tryz.prog x:=(Qd Qz7 Qk)
theorem Qym : Qh Tryz.prog EY:=Qyl Qwh fun a0 a1 y hy=>by
 obtain ⟨n,hn⟩:=Qw7 (t:=Qe) (body:=fun x y K=>Option.bind (eqC Qe x y) fun b=>bif !b then some false else K ()) (fun x K h=>by simp only [Z5 h,Option.bind_some,Bool.not_true,cond_false]) (fun n xs ys i=>QlX n xs ys i) hy
 exact ⟨n,(Qt1 n a0 a1).trans hn⟩
def WI : Ctr:=⟨14,[Qu,Qu],[.bool],fun x=>eqC Qu x.1 x.2.1⟩
def QkL : List (List Nat × Ann):=[]
def Qiz : List (List Nat × Nat):=[]
def Qcj : List Ctr:=[V3,GR,H0]
def QkM (n : Nat) (a0 : QD) (a1 : QD) : Option Bool:=run Tryz.prog QkL Qiz (Qn Qcj) Tryz.f14 (Tryz.f14.body.getD .skip) (Qp [.bool]) n (Qt [Qu,Qu] (a0,a1,()))
theorem Qry (n : Nat) (a0 : QD) (a1 : QD) : QkM n a0 a1 =
  Option.bind (eqC Qa a0.1 a1.1) fun (y1 : Bool) =>
  bif !(y1) then
   some false
  else
   Option.bind (eqC Qa a0.2.1 a1.2.1) fun (y2 : Bool) =>
   bif !(y2) then
    some false
   else
    Option.bind (eqC Qa a0.2.2.1 a1.2.2.1) fun (y3 : Bool) =>
    bif !(y3) then
     some false
    else
     Option.bind (eqC (.list .str) a0.2.2.2.1 a1.2.2.2.1) fun (y4 : Bool) =>
     bif !(y4) then
      some false
     else
      Option.bind (eqC (.list Qf) a0.2.2.2.2 a1.2.2.2.2) fun (y5 : Bool) =>
      bif !(y5) then
       some false
      else
       some true:=by kernel_rfl
theorem Qwi (hcs : ∀ x ∈ Qcj,Qh Tryz.prog x) (h : ∀ (a0 : QD) (a1 : QD) y,eqC Qu a0 a1 = some y → ∃ n,QkM n a0 a1 = some y) : Qh Tryz.prog WI:=by
 refine Qj (c:=WI) (by kernel_rfl) (by kernel_rfl : Tryz.prog.funcs[14]? = some Tryz.f14) (code:=Tryz.f14.body.getD .skip) (by kernel_rfl) (by kernel_rfl) (by kernel_rfl) (A:=QkL) (I:=Qiz) hcs ?_
 rintro ⟨a0,a1,u⟩ y hy
 exact h a0 a1 y hy
theorem Qt2 : ∀ x ∈ Qcj,Qh Tryz.prog x:=(Qd Hk (Qd Qcg (Qd QkK Qk)))
theorem Qwj : Qh Tryz.prog WI:=Qwi Qt2 fun a0 a1 y hy=>by
 obtain ⟨rfl,hw,rfl⟩:=QhZ hy
 have hw2 : wfD Qa a0.1 ∧ wfD Qa a0.2.1 ∧ wfD Qa a0.2.2.1 ∧ wfD (.list .str) a0.2.2.2.1 ∧ wfD (.list Qf) a0.2.2.2.2:=hw
 refine ⟨0,?_⟩
 rw [Qry]
 simp [Z5 hw2.1,Z5 hw2.2.1,Z5 hw2.2.2.1,Z5 hw2.2.2.2.1,Z5 hw2.2.2.2.2]
def Qd6 : Ctr:=⟨90,[Qs,Qs],[.bool],fun x=>eqC Qs x.1 x.2.1⟩
def Qr5 : List (List Nat × Ann):=[]
def Qqi : List (List Nat × Nat):=[]
def QhA : List Ctr:=[V3]
def Qr6 (n : Nat) (a0 : J6) (a1 : J6) : Option Bool:=run Tryz.prog Qr5 Qqi (Qn QhA) Tryz.f90 (Tryz.f90.body.getD .skip) (Qp [.bool]) n (Qt [Qs,Qs] (a0,a1,()))
theorem Qyn (n : Nat) (a0 : J6) (a1 : J6) : Qr6 n a0 a1 =
  bif !decide (a0.1 = a1.1) then
   some false
  else
   Option.bind (eqC Qa a0.2.1 a1.2.1) fun (y1 : Bool) =>
   bif !(y1) then
    some false
   else
    bif !decide (a0.2.2 = a1.2.2) then
     some false
    else
     some true:=by kernel_rfl
theorem QB0 (hcs : ∀ x ∈ QhA,Qh Tryz.prog x) (h : ∀ (a0 : J6) (a1 : J6) y,eqC Qs a0 a1 = some y → ∃ n,Qr6 n a0 a1 = some y) : Qh Tryz.prog Qd6:=by
 refine Qj (c:=Qd6) (by kernel_rfl) (by kernel_rfl : Tryz.prog.funcs[90]? = some Tryz.f90) (code:=Tryz.f90.body.getD .skip) (by kernel_rfl) (by kernel_rfl) (by kernel_rfl) (A:=Qr5) (I:=Qqi) hcs ?_
 rintro ⟨a0,a1,u⟩ y hy
 exact h a0 a1 y hy
theorem Qz8 : ∀ x ∈ QhA,Qh Tryz.prog x:=(Qd Hk Qk)
theorem QB1 : Qh Tryz.prog Qd6:=QB0 Qz8 fun a0 a1 y hy=>by
 obtain ⟨rfl,hw,rfl⟩:=QhZ hy
 have hw2 : wfD I64 a0.1 ∧ wfD Qa a0.2.1 ∧ wfD .str a0.2.2:=hw
 refine ⟨0,?_⟩
 rw [Qyn]
 simp [Z5 hw2.2.1]
def Qd7 : Ctr:=⟨119,[Qo,Qo],[.bool],fun x=>eqC Qo x.1 x.2.1⟩
def Qr7 : List (List Nat × Ann):=[]
def Qqj : List (List Nat × Nat):=[]
def QhB : List Ctr:=[V3]
def Qr8 (n : Nat) (a0 : Qr) (a1 : Qr) : Option Bool:=run Tryz.prog Qr7 Qqj (Qn QhB) Tryz.f119 (Tryz.f119.body.getD .skip) (Qp [.bool]) n (Qt [Qo,Qo] (a0,a1,()))
theorem Qyo (n : Nat) (a0 : Qr) (a1 : Qr) : Qr8 n a0 a1 =
  bif !decide (a0.1 = a1.1) then
   some false
  else
   bif !decide (a0.2.1 = a1.2.1) then
    some false
   else
    Option.bind (eqC Qa a0.2.2.1 a1.2.2.1) fun (y1 : Bool) =>
    bif !(y1) then
     some false
    else
     bif !decide (a0.2.2.2 = a1.2.2.2) then
      some false
     else
      some true:=by kernel_rfl
theorem QB2 (hcs : ∀ x ∈ QhB,Qh Tryz.prog x) (h : ∀ (a0 : Qr) (a1 : Qr) y,eqC Qo a0 a1 = some y → ∃ n,Qr8 n a0 a1 = some y) : Qh Tryz.prog Qd7:=by
 refine Qj (c:=Qd7) (by kernel_rfl) (by kernel_rfl : Tryz.prog.funcs[119]? = some Tryz.f119) (code:=Tryz.f119.body.getD .skip) (by kernel_rfl) (by kernel_rfl) (by kernel_rfl) (A:=Qr7) (I:=Qqj) hcs ?_
 rintro ⟨a0,a1,u⟩ y hy
 exact h a0 a1 y hy
theorem Qz9 : ∀ x ∈ QhB,Qh Tryz.prog x:=(Qd Hk Qk)
theorem QB3 : Qh Tryz.prog Qd7:=QB2 Qz9 fun a0 a1 y hy=>by
 obtain ⟨rfl,hw,rfl⟩:=QhZ hy
 have hw2 : wfD I64 a0.1 ∧ wfD .str a0.2.1 ∧ wfD Qa a0.2.2.1 ∧ wfD I64 a0.2.2.2:=hw
 refine ⟨0,?_⟩
 rw [Qyo]
 simp [Z5 hw2.2.2.1]
def Qck : Ctr:=⟨91,[(.list Qo),(.list Qo)],[.bool],fun x=>eqC (.list Qo) x.1 x.2.1⟩
def QhC : List (List Nat × Ann):=[([0,4],[.keep 0 0,.keep 0 1,.keep 0 5])]
def Qfk : List (List Nat × Nat):=[]
def EZ : List Ctr:=[Qd7]
def Qqk (n : Nat) (a0 : (List Qr)) (a1 : (List Qr)) : Option Bool:=run Tryz.prog QhC Qfk (Qn EZ) Tryz.f91 (Tryz.f91.body.getD .skip) (Qp [.bool]) n (Qt [(.list Qo),(.list Qo)] (a0,a1,()))
abbrev QaF (n : Nat) (x1 : (List Qr)) (x2 : (List Qr)) (x3 : Int) : Option Bool:=lam Tryz.prog QhC Qfk (Qn EZ) Tryz.f91 (Tryz.f91.body.getD .skip) (Qp [.bool]) n [0,4] [.d (.list Qo) x1,.d (.list Qo) x2,.d I64 x3]
theorem Qwk (n : Nat) (a0 : (List Qr)) (a1 : (List Qr)) : Qqk n a0 a1 =
  bif !decide ((a0.length : Int) = (a1.length : Int)) then
   some false
  else
   QaF n a0 a1 0:=by kernel_rfl
theorem Qn4 (n : Nat) (x1 : (List Qr)) (x2 : (List Qr)) (x3 : Int) : QaF (n + 1) x1 x2 x3 =
  bif decide (x3 < (x1.length : Int)) then
   bif inB x3 x1.length then
    bif inB x3 x2.length then
     Option.bind (eqC Qo (rd x1 x3 (Ty.dflt Qo)) (rd x2 x3 (Ty.dflt Qo))) fun (y1 : Bool) =>
     bif !(y1) then
      some false
     else
      QaF n x1 x2 (IntKind.wrap .i64 (x3 + 1))
    else none
   else none
  else
   some true:=by kernel_rfl
theorem QAa (hcs : ∀ x ∈ EZ,Qh Tryz.prog x) (h : ∀ (a0 : (List Qr)) (a1 : (List Qr)) y,eqC (.list Qo) a0 a1 = some y → ∃ n,Qqk n a0 a1 = some y) : Qh Tryz.prog Qck:=by
 refine Qj (c:=Qck) (by kernel_rfl) (by kernel_rfl : Tryz.prog.funcs[91]? = some Tryz.f91) (code:=Tryz.f91.body.getD .skip) (by kernel_rfl) (by kernel_rfl) (by kernel_rfl) (A:=QhC) (I:=Qfk) hcs ?_
 rintro ⟨a0,a1,u⟩ y hy
 exact h a0 a1 y hy
theorem Qyp : ∀ x ∈ EZ,Qh Tryz.prog x:=(Qd QB3 Qk)
theorem QAb : Qh Tryz.prog Qck:=QAa Qyp fun a0 a1 y hy=>by
 obtain ⟨n,hn⟩:=Qw7 (t:=Qo) (body:=fun x y K=>Option.bind (eqC Qo x y) fun b=>bif !b then some false else K ()) (fun x K h=>by simp only [Z5 h,Option.bind_some,Bool.not_true,cond_false]) (fun n xs ys i=>Qn4 n xs ys i) hy
 exact ⟨n,(Qwk n a0 a1).trans hn⟩
def E0 : Ctr:=⟨48,[Qg,Qg],[.bool],fun x=>eqC Qg x.1 x.2.1⟩
def Qnq : List (List Nat × Ann):=[]
def QkN : List (List Nat × Nat):=[]
def QdQ : List Ctr:=[Qd6,Qck]
def Qnr (n : Nat) (a0 : Qi) (a1 : Qi) : Option Bool:=run Tryz.prog Qnq QkN (Qn QdQ) Tryz.f48 (Tryz.f48.body.getD .skip) (Qp [.bool]) n (Qt [Qg,Qg] (a0,a1,()))
theorem Qt3 (n : Nat) (a0 : Qi) (a1 : Qi) : Qnr n a0 a1 =
  bif !decide (a0.1 = a1.1) then
   some false
  else
   bif a0.2.1 != a1.2.1 then
    some false
   else
    Option.bind (eqC Qs a0.2.2.1 a1.2.2.1) fun (y1 : Bool) =>
    bif !(y1) then
     some false
    else
     Option.bind (eqC Qs a0.2.2.2.1 a1.2.2.2.1) fun (y2 : Bool) =>
     bif !(y2) then
      some false
     else
      Option.bind (eqC Qs a0.2.2.2.2.1 a1.2.2.2.2.1) fun (y3 : Bool) =>
      bif !(y3) then
       some false
      else
       Option.bind (eqC (.list Qo) a0.2.2.2.2.2 a1.2.2.2.2.2) fun (y4 : Bool) =>
       bif !(y4) then
        some false
       else
        some true:=by kernel_rfl
theorem Qyq (hcs : ∀ x ∈ QdQ,Qh Tryz.prog x) (h : ∀ (a0 : Qi) (a1 : Qi) y,eqC Qg a0 a1 = some y → ∃ n,Qnr n a0 a1 = some y) : Qh Tryz.prog E0:=by
 refine Qj (c:=E0) (by kernel_rfl) (by kernel_rfl : Tryz.prog.funcs[48]? = some Tryz.f48) (code:=Tryz.f48.body.getD .skip) (by kernel_rfl) (by kernel_rfl) (by kernel_rfl) (A:=Qnq) (I:=QkN) hcs ?_
 rintro ⟨a0,a1,u⟩ y hy
 exact h a0 a1 y hy
theorem Qwl : ∀ x ∈ QdQ,Qh Tryz.prog x:=(Qd QB1 (Qd QAb Qk))
theorem Qyr : Qh Tryz.prog E0:=Qyq Qwl fun a0 a1 y hy=>by
 obtain ⟨rfl,hw,rfl⟩:=QhZ hy
 have hw2 : wfD .str a0.1 ∧ wfD .bool a0.2.1 ∧ wfD Qs a0.2.2.1 ∧ wfD Qs a0.2.2.2.1 ∧ wfD Qs a0.2.2.2.2.1 ∧ wfD (.list Qo) a0.2.2.2.2.2:=hw
 refine ⟨0,?_⟩
 rw [Qt3]
 simp [Z5 hw2.2.2.1,Z5 hw2.2.2.2.1,Z5 hw2.2.2.2.2.1,Z5 hw2.2.2.2.2.2]
def WJ : Ctr:=⟨15,[(.list Qg),(.list Qg)],[.bool],fun x=>eqC (.list Qg) x.1 x.2.1⟩
def QdR : List (List Nat × Ann):=[([0,4],[.keep 0 0,.keep 0 1,.keep 0 5])]
def Qcl : List (List Nat × Nat):=[]
def Uv : List Ctr:=[E0]
def QkO (n : Nat) (a0 : (List Qi)) (a1 : (List Qi)) : Option Bool:=run Tryz.prog QdR Qcl (Qn Uv) Tryz.f15 (Tryz.f15.body.getD .skip) (Qp [.bool]) n (Qt [(.list Qg),(.list Qg)] (a0,a1,()))
abbrev Wb (n : Nat) (x1 : (List Qi)) (x2 : (List Qi)) (x3 : Int) : Option Bool:=lam Tryz.prog QdR Qcl (Qn Uv) Tryz.f15 (Tryz.f15.body.getD .skip) (Qp [.bool]) n [0,4] [.d (.list Qg) x1,.d (.list Qg) x2,.d I64 x3]
theorem Qrz (n : Nat) (a0 : (List Qi)) (a1 : (List Qi)) : QkO n a0 a1 =
  bif !decide ((a0.length : Int) = (a1.length : Int)) then
   some false
  else
   Wb n a0 a1 0:=by kernel_rfl
theorem QkP (n : Nat) (x1 : (List Qi)) (x2 : (List Qi)) (x3 : Int) : Wb (n + 1) x1 x2 x3 =
  bif decide (x3 < (x1.length : Int)) then
   bif inB x3 x1.length then
    bif inB x3 x2.length then
     Option.bind (eqC Qg (rd x1 x3 (Ty.dflt Qg)) (rd x2 x3 (Ty.dflt Qg))) fun (y1 : Bool) =>
     bif !(y1) then
      some false
     else
      Wb n x1 x2 (IntKind.wrap .i64 (x3 + 1))
    else none
   else none
  else
   some true:=by kernel_rfl
theorem Qwm (hcs : ∀ x ∈ Uv,Qh Tryz.prog x) (h : ∀ (a0 : (List Qi)) (a1 : (List Qi)) y,eqC (.list Qg) a0 a1 = some y → ∃ n,QkO n a0 a1 = some y) : Qh Tryz.prog WJ:=by
 refine Qj (c:=WJ) (by kernel_rfl) (by kernel_rfl : Tryz.prog.funcs[15]? = some Tryz.f15) (code:=Tryz.f15.body.getD .skip) (by kernel_rfl) (by kernel_rfl) (by kernel_rfl) (A:=QdR) (I:=Qcl) hcs ?_
 rintro ⟨a0,a1,u⟩ y hy
 exact h a0 a1 y hy
theorem Qt4 : ∀ x ∈ Uv,Qh Tryz.prog x:=(Qd Qyr Qk)
theorem Qwn : Qh Tryz.prog WJ:=Qwm Qt4 fun a0 a1 y hy=>by
 obtain ⟨n,hn⟩:=Qw7 (t:=Qg) (body:=fun x y K=>Option.bind (eqC Qg x y) fun b=>bif !b then some false else K ()) (fun x K h=>by simp only [Z5 h,Option.bind_some,Bool.not_true,cond_false]) (fun n xs ys i=>QkP n xs ys i) hy
 exact ⟨n,(Qrz n a0 a1).trans hn⟩
def Ys (g0 : (List (List Int))) (x1 : (List Qc)) (x2 : (List Qi)) (x3 : (List Qc)) (x4 : (List Qc)) (x5 : QD) : Option Bool :=
 Option.bind (Qef (.list Qe) x4 1) fun (y23 : (Int × (List Qc))) =>
 Option.bind (J5 y23.2 1) fun (y24 : Int) =>
 bif decide (y24 < 0) then
  some false
 else
  bif !decide (y24 = y23.1) then
   some false
  else
   Option.bind (toC (.list Qe) x1) fun (y25 : (List Qc)) =>
   Option.bind (toC Qu x5) fun (y26 : QD) =>
   Option.bind (toC (.list Qg) x2) fun (y27 : (List Qi)) =>
   Option.bind (Y4 g0 y25 y26 y27) fun (y28 : (List Qc)) =>
   Option.bind (eqC (.list Qe) y28 x3) fun (y29 : Bool) =>
   bif !(y29) then
    some false
   else
    Option.bind (J5 y23.2 1) fun (y30 : Int) =>
    bif decide (y30 < 0) then
     some false
    else
     bif !decide (y30 = y23.1) then
      some false
     else
      some true
def VE (g0 : (List (List Int))) (a0 : (List Qc)) (a1 : QD) (a2 : (List Qi)) : Option Bool :=
 Option.bind (szC (.list Qe) a0 1048576) fun (y1 : Int) =>
 bif decide (y1 < 0) then
  some true
 else
  Option.bind (szC Qu a1 y1) fun (y2 : Int) =>
  bif decide (y2 < 0) then
   some true
  else
   Option.bind (szC (.list Qg) a2 y2) fun (y3 : Int) =>
   bif decide (y3 < 0) then
    some true
   else
    Option.bind (toC (.list Qe) a0) fun (y4 : (List Qc)) =>
    Option.bind (toC Qu a1) fun (y5 : QD) =>
    Option.bind (toC (.list Qg) a2) fun (y6 : (List Qi)) =>
    Option.bind (HK y4 y5 y6) fun (y7 : (List Qc)) =>
    Option.bind (toC (.list Qe) a0) fun (y8 : (List Qc)) =>
    Option.bind (toC Qu a1) fun (y9 : QD) =>
    Option.bind (toC (.list Qg) a2) fun (y10 : (List Qi)) =>
    Option.bind (Y4 g0 y8 y9 y10) fun (y11 : (List Qc)) =>
    Option.bind (eqC (.list Qe) y11 y7) fun (y12 : Bool) =>
    bif !(y12) then
     some false
    else
     Option.bind (toC (.list Qe) a0) fun (y13 : (List Qc)) =>
     Option.bind (eqC (.list Qe) y8 y13) fun (y14 : Bool) =>
     bif !(y14) then
      some false
     else
      Option.bind (toC Qu a1) fun (y15 : QD) =>
      Option.bind (eqC Qu y9 y15) fun (y16 : Bool) =>
      bif !(y16) then
       some false
      else
       Option.bind (toC (.list Qg) a2) fun (y17 : (List Qi)) =>
       Option.bind (eqC (.list Qg) y10 y17) fun (y18 : Bool) =>
       bif !(y18) then
        some false
       else
        Option.bind (Qef (.list Qe) y8 1) fun (y19 : (Int × (List Qc))) =>
        Option.bind (Qef Qu y9 y19.1) fun (y20 : (Int × QD)) =>
        Option.bind (Qef (.list Qg) y10 y20.1) fun (y21 : (Int × (List Qi))) =>
        bif decide (y21.1 < 0) then
         some false
        else
         Option.bind (eqC (.list Qe) y11 y7) fun (y22 : Bool) =>
         bif !(y22) then
          some false
         else
          Ys g0 a0 a2 y7 y11 a1
def Xg : List (List Nat × Ann):=[([1,30],[.keep 0 0,.keep 0 2,.keep 0 4,.keep 0 8,.drb 0 12 Qe,.boxd 0 4 Qu])]
def G4 : List (List Nat × Nat):=[([12001],2000009),([13001],2000010),([14001],2000011),([15003],2000012),([25002],3000016),([26002],3000017),([27002],3000018),([31002],3000016)]
def Vx (g0 : (List (List Int))) : List Ctr:=[EU,WE,WF,EQ,Wz,WA,Qab,Qko,Qip,Qiu,(QfK g0),EY,WI,WJ,Qhm,QfN,QfO,Qb6,(Qao g0)]
def WT (g0 : (List (List Int))) (n : Nat) (a0 : (List Qc)) (a1 : QD) (a2 : (List Qi)) : Option Bool:=WV Tryz.prog (Xt [(0,Qq (.list .str) g0)]) Xg G4 (Qn (Vx g0)) Tryz.f3 (Tryz.f3.body.getD .skip) (QfX Tryz.prog Tryz.f3 (Qp [.bool])) n (Qt [(.list Qe),Qu,(.list Qg)] (a0,a1,a2,()))
abbrev VV (g0 : (List (List Int))) (n : Nat) (x1 : (List Qc)) (x2 : (List Qi)) (x3 : (List Qc)) (x4 : (List Qc)) (x5 : QD) : Option Bool:=Uy Tryz.prog (Xt [(0,Qq (.list .str) g0)]) Xg G4 (Qn (Vx g0)) Tryz.f3 (Tryz.f3.body.getD .skip) (QfX Tryz.prog Tryz.f3 (Qp [.bool])) n [1,30] [.d (.list Qe) x1,.d (.list Qg) x2,.ptr 0 4 0,.d (.list Qe) x3,.d (.list Qe) x4,.agg (Qq Qu x5)]
theorem Qfl (g0 : (List (List Int))) (n : Nat) (a0 : (List Qc)) (a1 : QD) (a2 : (List Qi)) : WT g0 n a0 a1 a2 =
  Option.bind (szC (.list Qe) a0 1048576) fun (y1 : Int) =>
  bif decide (y1 < 0) then
   some true
  else
   Option.bind (szC Qu a1 y1) fun (y2 : Int) =>
   bif decide (y2 < 0) then
    some true
   else
    Option.bind (szC (.list Qg) a2 y2) fun (y3 : Int) =>
    bif decide (y3 < 0) then
     some true
    else
     Option.bind (toC (.list Qe) a0) fun (y4 : (List Qc)) =>
     Option.bind (toC Qu a1) fun (y5 : QD) =>
     Option.bind (toC (.list Qg) a2) fun (y6 : (List Qi)) =>
     Option.bind (HK y4 y5 y6) fun (y7 : (List Qc)) =>
     Option.bind (toC (.list Qe) a0) fun (y8 : (List Qc)) =>
     Option.bind (toC Qu a1) fun (y9 : QD) =>
     Option.bind (toC (.list Qg) a2) fun (y10 : (List Qi)) =>
     Option.bind (Y4 g0 y8 y9 y10) fun (y11 : (List Qc)) =>
     Option.bind (eqC (.list Qe) y11 y7) fun (y12 : Bool) =>
     bif !(y12) then
      some false
     else
      Option.bind (toC (.list Qe) a0) fun (y13 : (List Qc)) =>
      Option.bind (eqC (.list Qe) y8 y13) fun (y14 : Bool) =>
      bif !(y14) then
       some false
      else
       Option.bind (toC Qu a1) fun (y15 : QD) =>
       Option.bind (eqC Qu y9 y15) fun (y16 : Bool) =>
       bif !(y16) then
        some false
       else
        Option.bind (toC (.list Qg) a2) fun (y17 : (List Qi)) =>
        Option.bind (eqC (.list Qg) y10 y17) fun (y18 : Bool) =>
        bif !(y18) then
         some false
        else
         Option.bind (Qef (.list Qe) y8 1) fun (y19 : (Int × (List Qc))) =>
         Option.bind (Qef Qu y9 y19.1) fun (y20 : (Int × QD)) =>
         Option.bind (Qef (.list Qg) y10 y20.1) fun (y21 : (Int × (List Qi))) =>
         bif decide (y21.1 < 0) then
          some false
         else
          Option.bind (eqC (.list Qe) y11 y7) fun (y22 : Bool) =>
          bif !(y22) then
           some false
          else
           VV g0 n a0 a2 y7 y11 a1:=by kernel_rfl
theorem QaY (g0 : (List (List Int))) (n : Nat) (x1 : (List Qc)) (x2 : (List Qi)) (x3 : (List Qc)) (x4 : (List Qc)) (x5 : QD) : VV g0 (n + 1) x1 x2 x3 x4 x5 =
  Option.bind (Qef (.list Qe) x4 1) fun (y23 : (Int × (List Qc))) =>
  Option.bind (J5 y23.2 1) fun (y24 : Int) =>
  bif decide (y24 < 0) then
   some false
  else
   bif !decide (y24 = y23.1) then
    some false
   else
    Option.bind (toC (.list Qe) x1) fun (y25 : (List Qc)) =>
    Option.bind (toC Qu x5) fun (y26 : QD) =>
    Option.bind (toC (.list Qg) x2) fun (y27 : (List Qi)) =>
    Option.bind (Y4 g0 y25 y26 y27) fun (y28 : (List Qc)) =>
    Option.bind (eqC (.list Qe) y28 x3) fun (y29 : Bool) =>
    bif !(y29) then
     some false
    else
     Option.bind (J5 y23.2 1) fun (y30 : Int) =>
     bif decide (y30 < 0) then
      some false
     else
      bif !decide (y30 = y23.1) then
       some false
      else
       some true:=by kernel_rfl
theorem QdS {g0 : (List (List Int))} {x1 : (List Qc)} {x2 : (List Qi)} {x3 : (List Qc)} {x4 : (List Qc)} {x5 : QD} {r : Bool} (h : Ys g0 x1 x2 x3 x4 x5 = some r) : Ev (fun n=>VV g0 n x1 x2 x3 x4 x5) r:=by
 rw [Ys] at h
 refine Ev.step ?_ (fun n=>QaY g0 n x1 x2 x3 x4 x5)
 exact (Ev.ofBind h fun y23 h=>(Ev.ofBind h fun y24 h=>(Ev.ofBif h (fun h=>(Ev.ofSome h)) (fun h=>(Ev.ofBif h (fun h=>(Ev.ofSome h)) (fun h=>(Ev.ofBind h fun y25 h=>(Ev.ofBind h fun y26 h=>(Ev.ofBind h fun y27 h=>(Ev.ofBind h fun y28 h=>(Ev.ofBind h fun y29 h=>(Ev.ofBif h (fun h=>(Ev.ofSome h)) (fun h=>(Ev.ofBind h fun y30 h=>(Ev.ofBif h (fun h=>(Ev.ofSome h)) (fun h=>(Ev.ofBif h (fun h=>(Ev.ofSome h)) (fun h=>(Ev.ofSome h)))))))))))))))))))
theorem QhS {g0 : (List (List Int))} (a0 : (List Qc)) (a1 : QD) (a2 : (List Qi)) {r : Bool} (h : VE g0 a0 a1 a2 = some r) : Ev (fun n=>WT g0 n a0 a1 a2) r:=by
 rw [VE] at h
 refine Ev.of_eq ?_ (fun n=>Qfl g0 n a0 a1 a2)
 exact (Ev.ofBind h fun y1 h=>(Ev.ofBif h (fun h=>(Ev.ofSome h)) (fun h=>(Ev.ofBind h fun y2 h=>(Ev.ofBif h (fun h=>(Ev.ofSome h)) (fun h=>(Ev.ofBind h fun y3 h=>(Ev.ofBif h (fun h=>(Ev.ofSome h)) (fun h=>(Ev.ofBind h fun y4 h=>(Ev.ofBind h fun y5 h=>(Ev.ofBind h fun y6 h=>(Ev.ofBind h fun y7 h=>(Ev.ofBind h fun y8 h=>(Ev.ofBind h fun y9 h=>(Ev.ofBind h fun y10 h=>(Ev.ofBind h fun y11 h=>(Ev.ofBind h fun y12 h=>(Ev.ofBif h (fun h=>(Ev.ofSome h)) (fun h=>(Ev.ofBind h fun y13 h=>(Ev.ofBind h fun y14 h=>(Ev.ofBif h (fun h=>(Ev.ofSome h)) (fun h=>(Ev.ofBind h fun y15 h=>(Ev.ofBind h fun y16 h=>(Ev.ofBif h (fun h=>(Ev.ofSome h)) (fun h=>(Ev.ofBind h fun y17 h=>(Ev.ofBind h fun y18 h=>(Ev.ofBif h (fun h=>(Ev.ofSome h)) (fun h=>(Ev.ofBind h fun y19 h=>(Ev.ofBind h fun y20 h=>(Ev.ofBind h fun y21 h=>(Ev.ofBif h (fun h=>(Ev.ofSome h)) (fun h=>(Ev.ofBind h fun y22 h=>(Ev.ofBif h (fun h=>(Ev.ofSome h)) (fun h=>(QdS h)))))))))))))))))))))))))))))))))))))))))
end
end Go.Ab
