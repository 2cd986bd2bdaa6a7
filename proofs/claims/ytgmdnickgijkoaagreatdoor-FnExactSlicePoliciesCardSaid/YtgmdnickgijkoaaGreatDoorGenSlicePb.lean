import Derived.Test.YtgmdnickgijkoaaGreatDoorGenSlicePa
import Derived.Test.YtgmdnickgijkoaaGreatDoorProg
import Derived.KernelRfl
namespace Go.Ab
open Go.Proofs
set_option maxRecDepth 20000
noncomputable def QJ : List Qz → Nat → Option Bool
 | [], k =>
   some true
 | e :: rest, k =>
   bif decide ((e).1 = 3) then
    some (!decide ((0 : Int) ≤ (k : Int)))
   else
    Option.bind (YZ (e)) fun (y3 : Bool) =>
    bif !(y3) then
     some (!decide ((0 : Int) ≤ (k : Int)))
    else
     QJ rest (k + 1)
noncomputable def Zj (a0 : (List (List Int))) (a1 : (List Qz)) : Option Bool :=
 bif decide ((a0.length : Int) ≤ 20) then
  bif decide ((a0.length : Int) = (a1.length : Int)) then
   Option.bind (JP a0) fun (y1 : Bool) =>
   bif y1 then
    Option.bind (YE a0) fun (y2 : Bool) =>
    bif y2 then
     Jg a1 (QJ a1 0)
    else
     some false
   else
    some false
  else
   some false
 else
  some false
noncomputable def XF : Ctr := ⟨78, [(.list .str), (.list Qm)], [.bool], fun x => Zj x.1 x.2.1⟩
def WQ : List (List Nat × Ann) := [([0, 2, 1002, 1020], [.keep 0 23, .keep 2 0, .keep 2 1, .keep 2 7, .keep 2 8])]
def UL : List (List Nat × Nat) := [([1020], 112), ([1002, 1020], 135), ([4005, 1002, 1020], 113)]
noncomputable def UM : List Ctr := [Ur, E8, QbO]
noncomputable def QfE (n : Nat) (a0 : (List (List Int))) (a1 : (List Qz)) : Option Bool := run Tryz.prog WQ UL (Qn UM) Tryz.f78 (Tryz.f78.body.getD .skip) (Qp [.bool]) n (Qu [(.list .str), (.list Qm)] (a0, a1, ()))
noncomputable abbrev ZB (n : Nat) (x1 : Bool) (x2 : (List Qz)) (x3 : Int) (x4 : Int) : Option Bool := lam Tryz.prog WQ UL (Qn UM) Tryz.f78 (Tryz.f78.body.getD .skip) (Qp [.bool]) n [0, 2, 1002, 1020] [.d .bool x1, .d (.list Qm) x2, .fn 113 [], .d I64 x3, .d I64 x4]
theorem Qmf (n : Nat) (a0 : (List (List Int))) (a1 : (List Qz)) : QfE n a0 a1 =
  bif decide ((a0.length : Int) ≤ 20) then
   bif decide ((a0.length : Int) = (a1.length : Int)) then
    Option.bind (JP a0) fun (y1 : Bool) =>
    bif y1 then
     Option.bind (YE a0) fun (y2 : Bool) =>
     bif y2 then
      ZB n true a1 (a1.length : Int) 0
     else
      some false
    else
     some false
   else
    some false
  else
   some false := by kernel_rfl
theorem VO (n : Nat) (x1 : Bool) (x2 : (List Qz)) (x3 : Int) (x4 : Int) : ZB (n + 1) x1 x2 x3 x4 =
  bif decide (x4 < x3) then
   bif inB x4 x2.length then
    bif decide ((rd x2 x4 (Ty.dflt Qm)).1 = 3) then
     bif x1 then
      some (!decide ((0 : Int) ≤ x4))
     else
      some false
    else
     Option.bind (YZ (rd x2 x4 (Ty.dflt Qm))) fun (y3 : Bool) =>
     bif !(y3) then
      bif x1 then
       some (!decide ((0 : Int) ≤ x4))
      else
       some false
     else
      ZB n x1 x2 x3 (IntKind.wrap .i64 (x4 + 1))
   else none
  else
   bif x1 then
    some true
   else
    some false := by kernel_rfl
theorem Qac {x2 : (List Qz)} (hl : x2.length ≤ maxLen) : ∀ (rest : List Qz) (k : Nat) (r : Bool), rest = x2.drop k → QJ rest k = some r → Ev (fun n => ZB n true x2 (x2.length : Int) (k : Int)) r := by
 intro rest
 induction rest with
 | nil =>
  intro k r hr h
  have hk := QO hr
  rw [QJ] at h
  refine Ev.step ?_ (fun n => VO n true x2 (x2.length : Int) (k : Int))
  rw [show decide ((k : Int) < (x2.length : Int)) = false from decide_eq_false (by omega)]
  exact Ev.neg rfl (Ev.pos rfl (Ev.ofSome h))
 | cons e rest ih =>
  intro k r hr h
  obtain ⟨hk, hx, hr2⟩ := QE (d := (Ty.dflt Qm)) hr
  have hw := QA hl hk
  have ih2 : ∀ (r : Bool), QJ rest (k + 1) = some r → Ev (fun n => ZB n true x2 (x2.length : Int) (IntKind.wrap .i64 ((k : Int) + 1))) r := by
   intro r h; rw [hw]; exact ih (k + 1) r hr2 h
  rw [QJ] at h
  refine Ev.step ?_ (fun n => VO n true x2 (x2.length : Int) (k : Int))
  rw [show decide ((k : Int) < (x2.length : Int)) = true from decide_eq_true (by omega), QB hk, hx]
  exact Ev.pos rfl (Ev.pos rfl (Ev.ofBif h (fun h => (Ev.pos rfl (Ev.ofSome h))) (fun h => (Ev.ofBind h fun y3 h => (Ev.ofBif h (fun h => (Ev.pos rfl (Ev.ofSome h))) (fun h => (ih2  _ h)))))))
theorem Qrs (a0 : (List (List Int))) (a1 : (List Qz)) {r : Bool} (h : Zj a0 a1 = some r) : Ev (fun n => QfE n a0 a1) r := by
 rw [Zj] at h
 refine Ev.of_eq ?_ (fun n => Qmf n a0 a1)
 exact (Ev.ofBif h (fun h => (Ev.ofBif h (fun h => (Ev.ofBind h fun y1 h => (Ev.ofBif h (fun h => (Ev.ofBind h fun y2 h => (Ev.ofBif h (fun h => (Ev.ofLen h fun hl h => Qac hl _ (0 : Nat) _ rfl h)) (fun h => (Ev.ofSome h))))) (fun h => (Ev.ofSome h))))) (fun h => (Ev.ofSome h)))) (fun h => (Ev.ofSome h)))
theorem QnH : ∀ x ∈ UM, Qg Tryz.prog x := (Qb QgO (Qb Qlr (Qb Qtr Qi)))
theorem Qem : Qg Tryz.prog (XF) := by
 refine Qh (c := XF) (by kernel_rfl) (by kernel_rfl : Tryz.prog.funcs[78]? = some Tryz.f78) (code := Tryz.f78.body.getD .skip) (by kernel_rfl) (by kernel_rfl) (by kernel_rfl) (A := WQ) (I := UL) (QnH) ?_
 rintro ⟨a0, a1, u⟩ y hy
 exact (Qrs a0 a1 hy).get
noncomputable def Zp (x1 : (List Qj)) : List Qj → Nat → Option Bool
 | [], k =>
   some true
 | e :: rest, k =>
   Option.bind (Zc ((e).1)) fun (y1 : Bool) =>
   bif !(y1) then
    some false
   else
    bif decide ((0 : Int) < (k : Int)) then
     bif inB (IntKind.wrap .i64 ((k : Int) - 1)) x1.length then
      Option.bind (Yh ((rd x1 (IntKind.wrap .i64 ((k : Int) - 1)) (Ty.dflt Qf)).1) ((e).1)) fun (y2 : Int) =>
      bif decide ((0 : Int) ≤ y2) then
       some false
      else
       Option.bind (JO (((e).2).1) 50) fun (y3 : Bool) =>
       bif !(y3) then
        some false
       else
        Option.bind (Zj ((((e).2).2).1) ((((e).2).2).2)) fun (y4 : Bool) =>
        bif !(y4) then
         some false
        else
         Zp x1 rest (k + 1)
     else none
    else
     Option.bind (JO (((e).2).1) 50) fun (y5 : Bool) =>
     bif !(y5) then
      some false
     else
      Option.bind (Zj ((((e).2).2).1) ((((e).2).2).2)) fun (y6 : Bool) =>
      bif !(y6) then
       some false
      else
       Zp x1 rest (k + 1)
noncomputable def J1 (a0 : (List Qj)) : Option Bool :=
 bif decide ((100 : Int) < (a0.length : Int)) then
  some false
 else
  Jg a0 (Zp a0 a0 0)
noncomputable def Ho : Ctr := ⟨38, [(.list Qf)], [.bool], fun x => J1 x.1⟩
def Qad : List (List Nat × Ann) := [([0, 4], [.keep 0 0, .keep 0 8, .keep 0 9, .keep 0 10])]
def WR : List (List Nat × Nat) := []
noncomputable def WS : List Ctr := [XT, Wr, QbJ, XF]
noncomputable def QgR (n : Nat) (a0 : (List Qj)) : Option Bool := run Tryz.prog Qad WR (Qn WS) Tryz.f38 (Tryz.f38.body.getD .skip) (Qp [.bool]) n (Qu [(.list Qf)] (a0, ()))
noncomputable abbrev J4 (n : Nat) (x1 : (List Qj)) (x2 : (List Qj)) (x3 : Int) (x4 : Int) : Option Bool := lam Tryz.prog Qad WR (Qn WS) Tryz.f38 (Tryz.f38.body.getD .skip) (Qp [.bool]) n [0, 4] [.d (.list Qf) x1, .d (.list Qf) x2, .d I64 x3, .d I64 x4]
theorem QnI (n : Nat) (a0 : (List Qj)) : QgR n a0 =
  bif decide ((100 : Int) < (a0.length : Int)) then
   some false
  else
   J4 n a0 a0 (a0.length : Int) 0 := by kernel_rfl
theorem U1 (n : Nat) (x1 : (List Qj)) (x2 : (List Qj)) (x3 : Int) (x4 : Int) : J4 (n + 1) x1 x2 x3 x4 =
  bif decide (x4 < x3) then
   bif inB x4 x2.length then
    Option.bind (Zc ((rd x2 x4 (Ty.dflt Qf)).1)) fun (y1 : Bool) =>
    bif !(y1) then
     some false
    else
     bif decide ((0 : Int) < x4) then
      bif inB (IntKind.wrap .i64 (x4 - 1)) x1.length then
       Option.bind (Yh ((rd x1 (IntKind.wrap .i64 (x4 - 1)) (Ty.dflt Qf)).1) ((rd x2 x4 (Ty.dflt Qf)).1)) fun (y2 : Int) =>
       bif decide ((0 : Int) ≤ y2) then
        some false
       else
        Option.bind (JO (((rd x2 x4 (Ty.dflt Qf)).2).1) 50) fun (y3 : Bool) =>
        bif !(y3) then
         some false
        else
         Option.bind (Zj ((((rd x2 x4 (Ty.dflt Qf)).2).2).1) ((((rd x2 x4 (Ty.dflt Qf)).2).2).2)) fun (y4 : Bool) =>
         bif !(y4) then
          some false
         else
          J4 n x1 x2 x3 (IntKind.wrap .i64 (x4 + 1))
      else none
     else
      Option.bind (JO (((rd x2 x4 (Ty.dflt Qf)).2).1) 50) fun (y5 : Bool) =>
      bif !(y5) then
       some false
      else
       Option.bind (Zj ((((rd x2 x4 (Ty.dflt Qf)).2).2).1) ((((rd x2 x4 (Ty.dflt Qf)).2).2).2)) fun (y6 : Bool) =>
       bif !(y6) then
        some false
       else
        J4 n x1 x2 x3 (IntKind.wrap .i64 (x4 + 1))
   else none
  else
   some true := by kernel_rfl
theorem Qmg {x1 : (List Qj)} (hl : x1.length ≤ maxLen) : ∀ (rest : List Qj) (k : Nat) (r : Bool), rest = x1.drop k → Zp x1 rest k = some r → Ev (fun n => J4 n x1 x1 (x1.length : Int) (k : Int)) r := by
 intro rest
 induction rest with
 | nil =>
  intro k r hr h
  have hk := QO hr
  rw [Zp] at h
  refine Ev.step ?_ (fun n => U1 n x1 x1 (x1.length : Int) (k : Int))
  rw [show decide ((k : Int) < (x1.length : Int)) = false from decide_eq_false (by omega)]
  exact Ev.neg rfl (Ev.ofSome h)
 | cons e rest ih =>
  intro k r hr h
  obtain ⟨hk, hx, hr2⟩ := QE (d := (Ty.dflt Qf)) hr
  have hw := QA hl hk
  have ih2 : ∀ (r : Bool), Zp x1 rest (k + 1) = some r → Ev (fun n => J4 n x1 x1 (x1.length : Int) (IntKind.wrap .i64 ((k : Int) + 1))) r := by
   intro r h; rw [hw]; exact ih (k + 1) r hr2 h
  rw [Zp] at h
  refine Ev.step ?_ (fun n => U1 n x1 x1 (x1.length : Int) (k : Int))
  rw [show decide ((k : Int) < (x1.length : Int)) = true from decide_eq_true (by omega), QB hk, hx]
  exact Ev.pos rfl (Ev.pos rfl (Ev.ofBind h fun y1 h => (Ev.ofBif h (fun h => (Ev.ofSome h)) (fun h => (Ev.ofBif h (fun h => (Ev.ofBif h (fun h => (Ev.ofBind h fun y2 h => (Ev.ofBif h (fun h => (Ev.ofSome h)) (fun h => (Ev.ofBind h fun y3 h => (Ev.ofBif h (fun h => (Ev.ofSome h)) (fun h => (Ev.ofBind h fun y4 h => (Ev.ofBif h (fun h => (Ev.ofSome h)) (fun h => (ih2  _ h))))))))))) (fun h => (Ev.ofNone h)))) (fun h => (Ev.ofBind h fun y5 h => (Ev.ofBif h (fun h => (Ev.ofSome h)) (fun h => (Ev.ofBind h fun y6 h => (Ev.ofBif h (fun h => (Ev.ofSome h)) (fun h => (ih2  _ h)))))))))))))
theorem Qts (a0 : (List Qj)) {r : Bool} (h : J1 a0 = some r) : Ev (fun n => QgR n a0) r := by
 rw [J1] at h
 refine Ev.of_eq ?_ (fun n => QnI n a0)
 exact (Ev.ofBif h (fun h => (Ev.ofSome h)) (fun h => (Ev.ofLen h fun hl h => Qmg hl _ (0 : Nat) _ rfl h)))
theorem Qpj : ∀ x ∈ WS, Qg Tryz.prog x := (Qb QbI (Qb QiH (Qb Qtp (Qb Qem Qi))))
theorem QfF : Qg Tryz.prog (Ho) := by
 refine Qh (c := Ho) (by kernel_rfl) (by kernel_rfl : Tryz.prog.funcs[38]? = some Tryz.f38) (code := Tryz.f38.body.getD .skip) (by kernel_rfl) (by kernel_rfl) (by kernel_rfl) (A := Qad) (I := WR) (Qpj) ?_
 rintro ⟨a0, u⟩ y hy
 exact (Qts a0 hy).get
noncomputable def JF (a0 : Qt) : Option Bool :=
 Option.bind (Zc a0.1) fun (y1 : Bool) =>
 bif y1 then
  Option.bind (Zc a0.2.1) fun (y2 : Bool) =>
  bif y2 then
   Option.bind (Zc a0.2.2.1) fun (y3 : Bool) =>
   bif y3 then
    Option.bind (Zj a0.2.2.2.1 a0.2.2.2.2) fun (y4 : Bool) =>
    some y4
   else
    some false
  else
   some false
 else
  some false
noncomputable def XG : Ctr := ⟨39, [Qr], [.bool], fun x => JF x.1⟩
def QfG : List (List Nat × Ann) := []
def Qen : List (List Nat × Nat) := []
noncomputable def Qeo : List Ctr := [XT, XF]
noncomputable def QfH (n : Nat) (a0 : Qt) : Option Bool := run Tryz.prog QfG Qen (Qn Qeo) Tryz.f39 (Tryz.f39.body.getD .skip) (Qp [.bool]) n (Qu [Qr] (a0, ()))
theorem Qmh (n : Nat) (a0 : Qt) : QfH n a0 =
  Option.bind (Zc a0.1) fun (y1 : Bool) =>
  bif y1 then
   Option.bind (Zc a0.2.1) fun (y2 : Bool) =>
   bif y2 then
    Option.bind (Zc a0.2.2.1) fun (y3 : Bool) =>
    bif y3 then
     Option.bind (Zj a0.2.2.2.1 a0.2.2.2.2) fun (y4 : Bool) =>
     some y4
    else
     some false
   else
    some false
  else
   some false := by kernel_rfl
theorem Qrt (a0 : Qt) {r : Bool} (h : JF a0 = some r) : Ev (fun n => QfH n a0) r := by
 rw [JF] at h
 refine Ev.of_eq ?_ (fun n => Qmh n a0)
 exact (Ev.ofBind h fun y1 h => (Ev.ofBif h (fun h => (Ev.ofBind h fun y2 h => (Ev.ofBif h (fun h => (Ev.ofBind h fun y3 h => (Ev.ofBif h (fun h => (Ev.ofBind h fun y4 h => (Ev.ofSome h))) (fun h => (Ev.ofSome h))))) (fun h => (Ev.ofSome h))))) (fun h => (Ev.ofSome h))))
theorem QnJ : ∀ x ∈ Qeo, Qg Tryz.prog x := (Qb QbI (Qb Qem Qi))
theorem Qep : Qg Tryz.prog (XG) := by
 refine Qh (c := XG) (by kernel_rfl) (by kernel_rfl : Tryz.prog.funcs[39]? = some Tryz.f39) (code := Tryz.f39.body.getD .skip) (by kernel_rfl) (by kernel_rfl) (by kernel_rfl) (A := QfG) (I := Qen) (QnJ) ?_
 rintro ⟨a0, u⟩ y hy
 exact (Qrt a0 hy).get
noncomputable def Q7 (x1 : (List Qd)) : List Qd → Nat → Option Bool
 | [], k =>
   some true
 | e :: rest, k =>
   bif decide ((0 : Int) < (k : Int)) then
    bif inB (IntKind.wrap .i64 ((k : Int) - 1)) x1.length then
     bif !Jn ((rd x1 (IntKind.wrap .i64 ((k : Int) - 1)) (Ty.dflt Qc)).1) ((e).1) then
      some false
     else
      Q7 x1 rest (k + 1)
    else none
   else
    Q7 x1 rest (k + 1)
noncomputable def Vp (a0 : (List Qd)) : Option Bool :=
 Jg a0 (Q7 a0 a0 0)
noncomputable def Qae : Ctr := ⟨79, [(.list Qc)], [.bool], fun x => Vp x.1⟩
def Qaf : List (List Nat × Ann) := [([0, 2], [.keep 0 0, .keep 0 5, .keep 0 6])]
def WT : List (List Nat × Nat) := []
noncomputable def WU : List Ctr := []
noncomputable def QgS (n : Nat) (a0 : (List Qd)) : Option Bool := run Tryz.prog Qaf WT (Qn WU) Tryz.f79 (Tryz.f79.body.getD .skip) (Qp [.bool]) n (Qu [(.list Qc)] (a0, ()))
noncomputable abbrev J5 (n : Nat) (x1 : (List Qd)) (x2 : Int) (x3 : Int) : Option Bool := lam Tryz.prog Qaf WT (Qn WU) Tryz.f79 (Tryz.f79.body.getD .skip) (Qp [.bool]) n [0, 2] [.d (.list Qc) x1, .d I64 x2, .d I64 x3]
theorem QnK (n : Nat) (a0 : (List Qd)) : QgS n a0 =
  J5 n a0 (a0.length : Int) 0 := by kernel_rfl
theorem U2 (n : Nat) (x1 : (List Qd)) (x2 : Int) (x3 : Int) : J5 (n + 1) x1 x2 x3 =
  bif decide (x3 < x2) then
   bif decide ((0 : Int) < x3) then
    bif inB (IntKind.wrap .i64 (x3 - 1)) x1.length then
     bif inB x3 x1.length then
      bif !Jn ((rd x1 (IntKind.wrap .i64 (x3 - 1)) (Ty.dflt Qc)).1) ((rd x1 x3 (Ty.dflt Qc)).1) then
       some false
      else
       J5 n x1 x2 (IntKind.wrap .i64 (x3 + 1))
     else none
    else none
   else
    J5 n x1 x2 (IntKind.wrap .i64 (x3 + 1))
  else
   some true := by kernel_rfl
theorem Qmi {x1 : (List Qd)} (hl : x1.length ≤ maxLen) : ∀ (rest : List Qd) (k : Nat) (r : Bool), rest = x1.drop k → Q7 x1 rest k = some r → Ev (fun n => J5 n x1 (x1.length : Int) (k : Int)) r := by
 intro rest
 induction rest with
 | nil =>
  intro k r hr h
  have hk := QO hr
  rw [Q7] at h
  refine Ev.step ?_ (fun n => U2 n x1 (x1.length : Int) (k : Int))
  rw [show decide ((k : Int) < (x1.length : Int)) = false from decide_eq_false (by omega)]
  exact Ev.neg rfl (Ev.ofSome h)
 | cons e rest ih =>
  intro k r hr h
  obtain ⟨hk, hx, hr2⟩ := QE (d := (Ty.dflt Qc)) hr
  have hw := QA hl hk
  have ih2 : ∀ (r : Bool), Q7 x1 rest (k + 1) = some r → Ev (fun n => J5 n x1 (x1.length : Int) (IntKind.wrap .i64 ((k : Int) + 1))) r := by
   intro r h; rw [hw]; exact ih (k + 1) r hr2 h
  rw [Q7] at h
  refine Ev.step ?_ (fun n => U2 n x1 (x1.length : Int) (k : Int))
  rw [show decide ((k : Int) < (x1.length : Int)) = true from decide_eq_true (by omega), QB hk, hx]
  exact Ev.pos rfl (Ev.ofBif h (fun h => (Ev.ofBif h (fun h => (Ev.pos rfl (Ev.ofBif h (fun h => (Ev.ofSome h)) (fun h => (ih2  _ h))))) (fun h => (Ev.ofNone h)))) (fun h => (ih2  _ h)))
theorem Qtt (a0 : (List Qd)) {r : Bool} (h : Vp a0 = some r) : Ev (fun n => QgS n a0) r := by
 rw [Vp] at h
 refine Ev.of_eq ?_ (fun n => QnK n a0)
 exact (Ev.ofLen h fun hl h => Qmi hl _ (0 : Nat) _ rfl h)
theorem Qpk : ∀ x ∈ WU, Qg Tryz.prog x := Qi
theorem Qru : Qg Tryz.prog (Qae) := by
 refine Qh (c := Qae) (by kernel_rfl) (by kernel_rfl : Tryz.prog.funcs[79]? = some Tryz.f79) (code := Tryz.f79.body.getD .skip) (by kernel_rfl) (by kernel_rfl) (by kernel_rfl) (A := Qaf) (I := WT) (Qpk) ?_
 rintro ⟨a0, u⟩ y hy
 exact (Qtt a0 hy).get
noncomputable def ZG : List Int → Option Bool
 | [] =>
   some true
 | e :: rest =>
   bif !(Ys (e)) then
    bif !decide (e = 45) then
     bif !decide (e = 46) then
      some false
     else
      ZG rest
    else
     ZG rest
   else
    ZG rest
noncomputable def V6 (a0 : (List Int)) : Option Bool :=
 bif decide ((a0.length : Int) < 1) then
  some false
 else
  bif decide ((40 : Int) < (a0.length : Int)) then
   some false
  else
   Jg a0 (ZG a0)
noncomputable def QfI : Ctr := ⟨116, [.str], [.bool], fun x => V6 x.1⟩
def QfJ : List (List Nat × Ann) := [([0, 4], [.keep 0 0, .keep 0 13, .keep 0 14])]
def Qdw : List (List Nat × Nat) := []
noncomputable def Qdx : List Ctr := [Ul]
noncomputable def QnL (n : Nat) (a0 : (List Int)) : Option Bool := run Tryz.prog QfJ Qdw (Qn Qdx) Tryz.f116 (Tryz.f116.body.getD .skip) (Qp [.bool]) n (Qu [.str] (a0, ()))
noncomputable abbrev Ym (n : Nat) (x1 : (List Int)) (x2 : Int) (x3 : Int) : Option Bool := lam Tryz.prog QfJ Qdw (Qn Qdx) Tryz.f116 (Tryz.f116.body.getD .skip) (Qp [.bool]) n [0, 4] [.d .str x1, .d I64 x2, .d I64 x3]
theorem Qtu (n : Nat) (a0 : (List Int)) : QnL n a0 =
  bif decide ((a0.length : Int) < 1) then
   some false
  else
   bif decide ((40 : Int) < (a0.length : Int)) then
    some false
   else
    Ym n a0 (a0.length : Int) 0 := by kernel_rfl
theorem Qa5 (n : Nat) (x1 : (List Int)) (x2 : Int) (x3 : Int) : Ym (n + 1) x1 x2 x3 =
  bif decide (x3 < x2) then
   bif inB x3 x1.length then
    bif !(Ys (rd x1 x3 0)) then
     bif inB x3 x1.length then
      bif !decide (rd x1 x3 0 = 45) then
       bif inB x3 x1.length then
        bif !decide (rd x1 x3 0 = 46) then
         some false
        else
         Ym n x1 x2 (IntKind.wrap .i64 (x3 + 1))
       else none
      else
       Ym n x1 x2 (IntKind.wrap .i64 (x3 + 1))
     else none
    else
     Ym n x1 x2 (IntKind.wrap .i64 (x3 + 1))
   else none
  else
   some true := by kernel_rfl
theorem Qrv {x1 : (List Int)} (hl : x1.length ≤ maxLen) : ∀ (rest : List Int) (k : Nat) (r : Bool), rest = x1.drop k → ZG rest = some r → Ev (fun n => Ym n x1 (x1.length : Int) (k : Int)) r := by
 intro rest
 induction rest with
 | nil =>
  intro k r hr h
  have hk := QO hr
  rw [ZG] at h
  refine Ev.step ?_ (fun n => Qa5 n x1 (x1.length : Int) (k : Int))
  rw [show decide ((k : Int) < (x1.length : Int)) = false from decide_eq_false (by omega)]
  exact Ev.neg rfl (Ev.ofSome h)
 | cons e rest ih =>
  intro k r hr h
  obtain ⟨hk, hx, hr2⟩ := QE (d := 0) hr
  have hw := QA hl hk
  have ih2 : ∀ (r : Bool), ZG rest = some r → Ev (fun n => Ym n x1 (x1.length : Int) (IntKind.wrap .i64 ((k : Int) + 1))) r := by
   intro r h; rw [hw]; exact ih (k + 1) r hr2 h
  rw [ZG] at h
  refine Ev.step ?_ (fun n => Qa5 n x1 (x1.length : Int) (k : Int))
  rw [show decide ((k : Int) < (x1.length : Int)) = true from decide_eq_true (by omega), QB hk, hx]
  exact Ev.pos rfl (Ev.pos rfl (Ev.ofBif h (fun h => (Ev.pos rfl (Ev.ofBif h (fun h => (Ev.pos rfl (Ev.ofBif h (fun h => (Ev.ofSome h)) (fun h => (ih2  _ h))))) (fun h => (ih2  _ h))))) (fun h => (ih2  _ h))))
theorem QzH (a0 : (List Int)) {r : Bool} (h : V6 a0 = some r) : Ev (fun n => QnL n a0) r := by
 rw [V6] at h
 refine Ev.of_eq ?_ (fun n => Qtu n a0)
 exact (Ev.ofBif h (fun h => (Ev.ofSome h)) (fun h => (Ev.ofBif h (fun h => (Ev.ofSome h)) (fun h => (Ev.ofLen h fun hl h => Qrv hl _ (0 : Nat) _ rfl h)))))
theorem QvN : ∀ x ∈ Qdx, Qg Tryz.prog x := (Qb QgL Qi)
theorem QxA : Qg Tryz.prog (QfI) := by
 refine Qh (c := QfI) (by kernel_rfl) (by kernel_rfl : Tryz.prog.funcs[116]? = some Tryz.f116) (code := Tryz.f116.body.getD .skip) (by kernel_rfl) (by kernel_rfl) (by kernel_rfl) (A := QfJ) (I := Qdw) (QvN) ?_
 rintro ⟨a0, u⟩ y hy
 exact (QzH a0 hy).get
noncomputable def J6 (x1 : Bool) (x2 : Bool) (x3 : ZE) : Option Bool :=
 bif x2 then
  bif QH x3.2.1 then
   bif decide (x3.2.2 = ([] : List Int)) then
    some (!(x1))
   else
    some false
  else
   some false
 else
  some false
noncomputable def Yt (x1 : Bool) (x2 : Int) (x3 : Bool) (x4 : ZE) : Option Bool :=
 bif x3 then
  Option.bind (Zc x4.2.1) fun (y1 : Bool) =>
  bif y1 then
   some (decide (x4.2.2 = ([] : List Int)))
  else
   some false
 else
  bif decide (x2 = 4) then
   bif QH x4.2.1 then
    Option.bind (Zv x4.2.2) fun (y2 : Bool) =>
    some y2
   else
    some false
  else
   bif decide (x2 = 5) then
    J6 x1 (decide (x2 = 5)) x4
   else
    J6 x1 (decide (x2 = 6)) x4
noncomputable def Zg (a0 : ZE) (a1 : Bool) : Option Bool :=
 bif decide (a0.1 = 1) then
  bif QH a0.2.1 then
   some (decide (a0.2.2 = ([] : List Int)))
  else
   some false
 else
  bif decide (a0.1 = 2) then
   Yt a1 a0.1 (decide (a0.1 = 2)) a0
  else
   Yt a1 a0.1 (decide (a0.1 = 3)) a0
noncomputable def QbR : Ctr := ⟨117, [Qs, .bool], [.bool], fun x => Zg x.1 x.2.1⟩
def Us : List (List Nat × Ann) := [([1, 6], [.keep 0 1, .keep 0 2, .keep 0 6, .keep 0 17, .boxd 0 2 Qs]), ([1, 11], [.keep 0 1, .keep 0 2, .keep 0 38, .boxd 0 2 Qs])]
def Hp : List (List Nat × Nat) := []
noncomputable def Hq : List Ctr := [Xk, XT, Gp]
noncomputable def QiO (n : Nat) (a0 : ZE) (a1 : Bool) : Option Bool := run Tryz.prog Us Hp (Qn Hq) Tryz.f117 (Tryz.f117.body.getD .skip) (Qp [.bool]) n (Qu [Qs, .bool] (a0, a1, ()))
noncomputable abbrev GF (n : Nat) (x1 : Bool) (x2 : Int) (x3 : Bool) (x4 : ZE) : Option Bool := lam Tryz.prog Us Hp (Qn Hq) Tryz.f117 (Tryz.f117.body.getD .skip) (Qp [.bool]) n [1, 6] [.d .bool x1, .ptr 0 2 0, .d I64 x2, .d .bool x3, .agg (Qq Qs x4)]
noncomputable abbrev Ga (n : Nat) (x1 : Bool) (x2 : Bool) (x3 : ZE) : Option Bool := lam Tryz.prog Us Hp (Qn Hq) Tryz.f117 (Tryz.f117.body.getD .skip) (Qp [.bool]) n [1, 11] [.d .bool x1, .ptr 0 2 0, .d .bool x2, .agg (Qq Qs x3)]
theorem Qpl (n : Nat) (a0 : ZE) (a1 : Bool) : QiO n a0 a1 =
  bif decide (a0.1 = 1) then
   bif QH a0.2.1 then
    some (decide (a0.2.2 = ([] : List Int)))
   else
    some false
  else
   bif decide (a0.1 = 2) then
    GF n a1 a0.1 (decide (a0.1 = 2)) a0
   else
    GF n a1 a0.1 (decide (a0.1 = 3)) a0 := by kernel_rfl
theorem QiP (n : Nat) (x1 : Bool) (x2 : Int) (x3 : Bool) (x4 : ZE) : GF (n + 1) x1 x2 x3 x4 =
  bif x3 then
   Option.bind (Zc x4.2.1) fun (y1 : Bool) =>
   bif y1 then
    some (decide (x4.2.2 = ([] : List Int)))
   else
    some false
  else
   bif decide (x2 = 4) then
    bif QH x4.2.1 then
     Option.bind (Zv x4.2.2) fun (y2 : Bool) =>
     some y2
    else
     some false
   else
    bif decide (x2 = 5) then
     Ga n x1 (decide (x2 = 5)) x4
    else
     Ga n x1 (decide (x2 = 6)) x4 := by kernel_rfl
theorem Qhv (n : Nat) (x1 : Bool) (x2 : Bool) (x3 : ZE) : Ga (n + 1) x1 x2 x3 =
  bif x2 then
   bif QH x3.2.1 then
    bif decide (x3.2.2 = ([] : List Int)) then
     some (!(x1))
    else
     some false
   else
    some false
  else
   some false := by kernel_rfl
theorem Qa6 {x1 : Bool} {x2 : Bool} {x3 : ZE} {r : Bool} (h : J6 x1 x2 x3 = some r) : Ev (fun n => Ga n x1 x2 x3) r := by
 rw [J6] at h
 refine Ev.step ?_ (fun n => Qhv n x1 x2 x3)
 exact (Ev.ofBif h (fun h => (Ev.ofBif h (fun h => (Ev.ofBif h (fun h => (Ev.ofSome h)) (fun h => (Ev.ofSome h)))) (fun h => (Ev.ofSome h)))) (fun h => (Ev.ofSome h)))
theorem QcZ {x1 : Bool} {x2 : Int} {x3 : Bool} {x4 : ZE} {r : Bool} (h : Yt x1 x2 x3 x4 = some r) : Ev (fun n => GF n x1 x2 x3 x4) r := by
 rw [Yt] at h
 refine Ev.step ?_ (fun n => QiP n x1 x2 x3 x4)
 exact (Ev.ofBif h (fun h => (Ev.ofBind h fun y1 h => (Ev.ofBif h (fun h => (Ev.ofSome h)) (fun h => (Ev.ofSome h))))) (fun h => (Ev.ofBif h (fun h => (Ev.ofBif h (fun h => (Ev.ofBind h fun y2 h => (Ev.ofSome h))) (fun h => (Ev.ofSome h)))) (fun h => (Ev.ofBif h (fun h => (Qa6 h)) (fun h => (Qa6 h)))))))
theorem QvO (a0 : ZE) (a1 : Bool) {r : Bool} (h : Zg a0 a1 = some r) : Ev (fun n => QiO n a0 a1) r := by
 rw [Zg] at h
 refine Ev.of_eq ?_ (fun n => Qpl n a0 a1)
 exact (Ev.ofBif h (fun h => (Ev.ofBif h (fun h => (Ev.ofSome h)) (fun h => (Ev.ofSome h)))) (fun h => (Ev.ofBif h (fun h => (QcZ h)) (fun h => (QcZ h)))))
theorem Qrw : ∀ x ∈ Hq, Qg Tryz.prog x := (Qb E9 (Qb QbI (Qb Um Qi)))
theorem Qtv : Qg Tryz.prog (QbR) := by
 refine Qh (c := QbR) (by kernel_rfl) (by kernel_rfl : Tryz.prog.funcs[117]? = some Tryz.f117) (code := Tryz.f117.body.getD .skip) (by kernel_rfl) (by kernel_rfl) (by kernel_rfl) (A := Us) (I := Hp) (Qrw) ?_
 rintro ⟨a0, a1, u⟩ y hy
 exact (QvO a0 a1 hy).get
noncomputable def V7 (x1 : Int) (x2 : Bool) : Option (Int × Int) :=
 bif x2 then
  some (0, 0)
 else
  bif decide (x1 = 2) then
   some (0, 10)
  else
   bif decide (x1 = 4) then
    bif decide (x1 = 4) then
     some (1, 1)
    else
     bif decide (x1 = 10) then
      some (3, 3)
     else
      some (2, 2)
   else
    bif decide (x1 = 5) then
     bif decide (x1 = 5) then
      some (1, 1)
     else
      bif decide (x1 = 10) then
       some (3, 3)
      else
       some (2, 2)
    else
     bif decide (x1 = 6) then
      bif decide (x1 = 6) then
       some (1, 1)
      else
       bif decide (x1 = 10) then
        some (3, 3)
       else
        some (2, 2)
     else
      bif decide (x1 = 7) then
       bif decide (x1 = 7) then
        some (1, 1)
       else
        bif decide (x1 = 10) then
         some (3, 3)
        else
         some (2, 2)
      else
       bif decide (x1 = 20) then
        bif decide (x1 = 20) then
         some (1, 1)
        else
         bif decide (x1 = 10) then
          some (3, 3)
         else
          some (2, 2)
       else
        bif decide (x1 = 21) then
         some (1, 1)
        else
         bif decide (x1 = 10) then
          some (3, 3)
         else
          some (2, 2)
noncomputable def V8 (a0 : Int) : Option (Int × Int) :=
 bif decide (a0 = 1) then
  V7 a0 (decide (a0 = 1))
 else
  V7 a0 (decide (a0 = 3))
noncomputable def QfK : Ctr := ⟨154, [I64], [I64, I64], fun x => V8 x.1⟩
def QfL : List (List Nat × Ann) := [([1, 4], [.keep 0 4, .keep 0 5])]
def Qdy : List (List Nat × Nat) := []
noncomputable def Qdz : List Ctr := []
noncomputable def QnM (n : Nat) (a0 : Int) : Option (Int × Int) := run Tryz.prog QfL Qdy (Qn Qdz) Tryz.f154 (Tryz.f154.body.getD .skip) (Qp [I64, I64]) n (Qu [I64] (a0, ()))
noncomputable abbrev XH (n : Nat) (x1 : Int) (x2 : Bool) : Option (Int × Int) := lam Tryz.prog QfL Qdy (Qn Qdz) Tryz.f154 (Tryz.f154.body.getD .skip) (Qp [I64, I64]) n [1, 4] [.d I64 x1, .d .bool x2]
theorem Qtw (n : Nat) (a0 : Int) : QnM n a0 =
  bif decide (a0 = 1) then
   XH n a0 (decide (a0 = 1))
  else
   XH n a0 (decide (a0 = 3)) := by kernel_rfl
theorem Qmj (n : Nat) (x1 : Int) (x2 : Bool) : XH (n + 1) x1 x2 =
  bif x2 then
   some (0, 0)
  else
   bif decide (x1 = 2) then
    some (0, 10)
   else
    bif decide (x1 = 4) then
     bif decide (x1 = 4) then
      some (1, 1)
     else
      bif decide (x1 = 10) then
       some (3, 3)
      else
       some (2, 2)
    else
     bif decide (x1 = 5) then
      bif decide (x1 = 5) then
       some (1, 1)
      else
       bif decide (x1 = 10) then
        some (3, 3)
       else
        some (2, 2)
     else
      bif decide (x1 = 6) then
       bif decide (x1 = 6) then
        some (1, 1)
       else
        bif decide (x1 = 10) then
         some (3, 3)
        else
         some (2, 2)
      else
       bif decide (x1 = 7) then
        bif decide (x1 = 7) then
         some (1, 1)
        else
         bif decide (x1 = 10) then
          some (3, 3)
         else
          some (2, 2)
       else
        bif decide (x1 = 20) then
         bif decide (x1 = 20) then
          some (1, 1)
         else
          bif decide (x1 = 10) then
           some (3, 3)
          else
           some (2, 2)
        else
         bif decide (x1 = 21) then
          some (1, 1)
         else
          bif decide (x1 = 10) then
           some (3, 3)
          else
           some (2, 2) := by kernel_rfl
theorem QfM {x1 : Int} {x2 : Bool} {r : (Int × Int)} (h : V7 x1 x2 = some r) : Ev (fun n => XH n x1 x2) r := by
 rw [V7] at h
 refine Ev.step ?_ (fun n => Qmj n x1 x2)
 exact (Ev.ofBif h (fun h => (Ev.ofSome h)) (fun h => (Ev.ofBif h (fun h => (Ev.ofSome h)) (fun h => (Ev.ofBif h (fun h => (Ev.ofBif h (fun h => (Ev.ofSome h)) (fun h => (Ev.ofBif h (fun h => (Ev.ofSome h)) (fun h => (Ev.ofSome h)))))) (fun h => (Ev.ofBif h (fun h => (Ev.ofBif h (fun h => (Ev.ofSome h)) (fun h => (Ev.ofBif h (fun h => (Ev.ofSome h)) (fun h => (Ev.ofSome h)))))) (fun h => (Ev.ofBif h (fun h => (Ev.ofBif h (fun h => (Ev.ofSome h)) (fun h => (Ev.ofBif h (fun h => (Ev.ofSome h)) (fun h => (Ev.ofSome h)))))) (fun h => (Ev.ofBif h (fun h => (Ev.ofBif h (fun h => (Ev.ofSome h)) (fun h => (Ev.ofBif h (fun h => (Ev.ofSome h)) (fun h => (Ev.ofSome h)))))) (fun h => (Ev.ofBif h (fun h => (Ev.ofBif h (fun h => (Ev.ofSome h)) (fun h => (Ev.ofBif h (fun h => (Ev.ofSome h)) (fun h => (Ev.ofSome h)))))) (fun h => (Ev.ofBif h (fun h => (Ev.ofSome h)) (fun h => (Ev.ofBif h (fun h => (Ev.ofSome h)) (fun h => (Ev.ofSome h)))))))))))))))))))
theorem QzI (a0 : Int) {r : (Int × Int)} (h : V8 a0 = some r) : Ev (fun n => QnM n a0) r := by
 rw [V8] at h
 refine Ev.of_eq ?_ (fun n => Qtw n a0)
 exact (Ev.ofBif h (fun h => (QfM h)) (fun h => (QfM h)))
theorem QvP : ∀ x ∈ Qdz, Qg Tryz.prog x := Qi
theorem QxB : Qg Tryz.prog (QfK) := by
 refine Qh (c := QfK) (by kernel_rfl) (by kernel_rfl : Tryz.prog.funcs[154]? = some Tryz.f154) (code := Tryz.f154.body.getD .skip) (by kernel_rfl) (by kernel_rfl) (by kernel_rfl) (A := QfL) (I := Qdy) (QvP) ?_
 rintro ⟨a0, u⟩ y hy
 exact (QzI a0 hy).get
noncomputable def QK (x2 : (List Int)) : List (List Int) → Nat → Option Int
 | [], k =>
   some (-1)
 | e :: rest, k =>
   bif decide (x2 = e) then
    some (k : Int)
   else
    QK x2 rest (k + 1)
noncomputable def Zw (a0 : (List (List Int))) (a1 : (List Int)) : Option Int :=
 Jg a0 (QK a1 a0 0)
noncomputable def Vu : Ctr := ⟨159, [(.list .str), .str], [I64], fun x => Zw x.1 x.2.1⟩
def Vv : List (List Nat × Ann) := [([0, 2], [.keep 0 0, .keep 0 1, .keep 0 7, .keep 0 8])]
def Vi : List (List Nat × Nat) := []
noncomputable def Vj : List Ctr := []
noncomputable def XU (n : Nat) (a0 : (List (List Int))) (a1 : (List Int)) : Option Int := run Tryz.prog Vv Vi (Qn Vj) Tryz.f159 (Tryz.f159.body.getD .skip) (Qp [I64]) n (Qu [(.list .str), .str] (a0, a1, ()))
noncomputable abbrev ZC (n : Nat) (x1 : (List (List Int))) (x2 : (List Int)) (x3 : Int) (x4 : Int) : Option Int := lam Tryz.prog Vv Vi (Qn Vj) Tryz.f159 (Tryz.f159.body.getD .skip) (Qp [I64]) n [0, 2] [.d (.list .str) x1, .d .str x2, .d I64 x3, .d I64 x4]
theorem QaV (n : Nat) (a0 : (List (List Int))) (a1 : (List Int)) : XU n a0 a1 =
  ZC n a0 a1 (a0.length : Int) 0 := by kernel_rfl
theorem VP (n : Nat) (x1 : (List (List Int))) (x2 : (List Int)) (x3 : Int) (x4 : Int) : ZC (n + 1) x1 x2 x3 x4 =
  bif decide (x4 < x3) then
   bif inB x4 x1.length then
    bif decide (x2 = rd x1 x4 (Ty.dflt .str)) then
     some x4
    else
     ZC n x1 x2 x3 (IntKind.wrap .i64 (x4 + 1))
   else none
  else
   some (-1) := by kernel_rfl
theorem Qag {x1 : (List (List Int))} {x2 : (List Int)} (hl : x1.length ≤ maxLen) : ∀ (rest : List (List Int)) (k : Nat) (r : Int), rest = x1.drop k → QK x2 rest k = some r → Ev (fun n => ZC n x1 x2 (x1.length : Int) (k : Int)) r := by
 intro rest
 induction rest with
 | nil =>
  intro k r hr h
  have hk := QO hr
  rw [QK] at h
  refine Ev.step ?_ (fun n => VP n x1 x2 (x1.length : Int) (k : Int))
  rw [show decide ((k : Int) < (x1.length : Int)) = false from decide_eq_false (by omega)]
  exact Ev.neg rfl (Ev.ofSome h)
 | cons e rest ih =>
  intro k r hr h
  obtain ⟨hk, hx, hr2⟩ := QE (d := (Ty.dflt .str)) hr
  have hw := QA hl hk
  have ih2 : ∀ (r : Int), QK x2 rest (k + 1) = some r → Ev (fun n => ZC n x1 x2 (x1.length : Int) (IntKind.wrap .i64 ((k : Int) + 1))) r := by
   intro r h; rw [hw]; exact ih (k + 1) r hr2 h
  rw [QK] at h
  refine Ev.step ?_ (fun n => VP n x1 x2 (x1.length : Int) (k : Int))
  rw [show decide ((k : Int) < (x1.length : Int)) = true from decide_eq_true (by omega), QB hk, hx]
  exact Ev.pos rfl (Ev.pos rfl (Ev.ofBif h (fun h => (Ev.ofSome h)) (fun h => (ih2  _ h))))
theorem QdA (a0 : (List (List Int))) (a1 : (List Int)) {r : Int} (h : Zw a0 a1 = some r) : Ev (fun n => XU n a0 a1) r := by
 rw [Zw] at h
 refine Ev.of_eq ?_ (fun n => QaV n a0 a1)
 exact (Ev.ofLen h fun hl h => Qag hl _ (0 : Nat) _ rfl h)
theorem QbS : ∀ x ∈ Vj, Qg Tryz.prog x := Qi
theorem Qc0 : Qg Tryz.prog (Vu) := by
 refine Qh (c := Vu) (by kernel_rfl) (by kernel_rfl : Tryz.prog.funcs[159]? = some Tryz.f159) (code := Tryz.f159.body.getD .skip) (by kernel_rfl) (by kernel_rfl) (by kernel_rfl) (A := Vv) (I := Vi) (QbS) ?_
 rintro ⟨a0, a1, u⟩ y hy
 exact (QdA a0 a1 hy).get
noncomputable def QN (a0 : (List (List Int))) (a1 : (List Int)) : Option Bool :=
 Option.bind (Zw a0 a1) fun (y1 : Int) =>
 some (decide ((0 : Int) ≤ y1))
noncomputable def YP : Ctr := ⟨155, [(.list .str), .str], [.bool], fun x => QN x.1 x.2.1⟩
def GQ : List (List Nat × Ann) := []
def GG : List (List Nat × Nat) := []
noncomputable def GH : List Ctr := [Vu]
noncomputable def GR (n : Nat) (a0 : (List (List Int))) (a1 : (List Int)) : Option Bool := run Tryz.prog GQ GG (Qn GH) Tryz.f155 (Tryz.f155.body.getD .skip) (Qp [.bool]) n (Qu [(.list .str), .str] (a0, a1, ()))
theorem WV (n : Nat) (a0 : (List (List Int))) (a1 : (List Int)) : GR n a0 a1 =
  Option.bind (Zw a0 a1) fun (y1 : Int) =>
  some (decide ((0 : Int) ≤ y1)) := by kernel_rfl
theorem QaW (a0 : (List (List Int))) (a1 : (List Int)) {r : Bool} (h : QN a0 a1 = some r) : Ev (fun n => GR n a0 a1) r := by
 rw [QN] at h
 refine Ev.of_eq ?_ (fun n => WV n a0 a1)
 exact (Ev.ofBind h fun y1 h => (Ev.ofSome h))
theorem Et : ∀ x ∈ GH, Qg Tryz.prog x := (Qb Qc0 Qi)
theorem Qah : Qg Tryz.prog (YP) := by
 refine Qh (c := YP) (by kernel_rfl) (by kernel_rfl : Tryz.prog.funcs[155]? = some Tryz.f155) (code := Tryz.f155.body.getD .skip) (by kernel_rfl) (by kernel_rfl) (by kernel_rfl) (A := GQ) (I := GG) (Et) ?_
 rintro ⟨a0, a1, u⟩ y hy
 exact (QaW a0 a1 hy).get
noncomputable def Q0 (x1 : (List Int)) : Nat → (List Int) → Int → Option ((List Int) × Bool)
 | 0, _, _ => none
 | m + 1, x2, x3 =>
   bif decide (x3 < (x1.length : Int)) then
    bif inB x3 x1.length then
     bif decide (rd x1 x3 0 = 42) then
      bif decide (((x2.length : Int) + (([(-1)] : List Int).length : Int)) * 8 ≤ QI) && decide ((x2.length : Int) + (([(-1)] : List Int).length : Int) ≤ QI) then
       Q0 x1 m (x2 ++ ([(-1)] : List Int)) (IntKind.wrap .i64 (x3 + 1))
      else none
     else
      bif inB x3 x1.length then
       bif decide (rd x1 x3 0 = 92) then
        bif decide ((x1.length : Int) ≤ IntKind.wrap .i64 (x3 + 1)) then
         some ([], false)
        else
         bif inB (IntKind.wrap .i64 (x3 + 1)) x1.length then
          bif !decide (rd x1 (IntKind.wrap .i64 (x3 + 1)) 0 = 42) then
           bif inB (IntKind.wrap .i64 (x3 + 1)) x1.length then
            bif !decide (rd x1 (IntKind.wrap .i64 (x3 + 1)) 0 = 92) then
             some ([], false)
            else
             bif inB (IntKind.wrap .i64 (x3 + 1)) x1.length then
              bif decide (((x2.length : Int) + (([IntKind.wrap .i64 (rd x1 (IntKind.wrap .i64 (x3 + 1)) 0)] : List Int).length : Int)) * 8 ≤ QI) && decide ((x2.length : Int) + (([IntKind.wrap .i64 (rd x1 (IntKind.wrap .i64 (x3 + 1)) 0)] : List Int).length : Int) ≤ QI) then
               Q0 x1 m (x2 ++ ([IntKind.wrap .i64 (rd x1 (IntKind.wrap .i64 (x3 + 1)) 0)] : List Int)) (IntKind.wrap .i64 ((IntKind.wrap .i64 (x3 + 1)) + 1))
              else none
             else none
           else none
          else
           bif inB (IntKind.wrap .i64 (x3 + 1)) x1.length then
            bif decide (((x2.length : Int) + (([IntKind.wrap .i64 (rd x1 (IntKind.wrap .i64 (x3 + 1)) 0)] : List Int).length : Int)) * 8 ≤ QI) && decide ((x2.length : Int) + (([IntKind.wrap .i64 (rd x1 (IntKind.wrap .i64 (x3 + 1)) 0)] : List Int).length : Int) ≤ QI) then
             Q0 x1 m (x2 ++ ([IntKind.wrap .i64 (rd x1 (IntKind.wrap .i64 (x3 + 1)) 0)] : List Int)) (IntKind.wrap .i64 ((IntKind.wrap .i64 (x3 + 1)) + 1))
            else none
           else none
         else none
       else
        bif inB x3 x1.length then
         bif decide (((x2.length : Int) + (([IntKind.wrap .i64 (rd x1 x3 0)] : List Int).length : Int)) * 8 ≤ QI) && decide ((x2.length : Int) + (([IntKind.wrap .i64 (rd x1 x3 0)] : List Int).length : Int) ≤ QI) then
          Q0 x1 m (x2 ++ ([IntKind.wrap .i64 (rd x1 x3 0)] : List Int)) (IntKind.wrap .i64 (x3 + 1))
         else none
        else none
      else none
    else none
   else
    some (x2, true)
noncomputable def QdB (m : Nat) (a0 : (List Int)) : Option ((List Int) × Bool) :=
 Q0 a0 m [] 0
noncomputable def Ws (a0 : (List Int)) : Option ((List Int) × Bool) := QaY fun m => QdB m a0
noncomputable def QdC : Ctr := ⟨156, [.str], [(.list I64), .bool], fun x => Ws x.1⟩
def QdD : List (List Nat × Ann) := [([0, 3], [.keep 0 0, .own 0 4 I64, .keep 0 5])]
def QbT : List (List Nat × Nat) := []
noncomputable def QbU : List Ctr := []
noncomputable def Qls (n : Nat) (a0 : (List Int)) : Option ((List Int) × Bool) := run Tryz.prog QdD QbT (Qn QbU) Tryz.f156 (Tryz.f156.body.getD .skip) (Qp [(.list I64), .bool]) n (Qu [.str] (a0, ()))
noncomputable abbrev JV (n : Nat) (x1 : (List Int)) (x2 : (List Int)) (x3 : Int) : Option ((List Int) × Bool) := lam Tryz.prog QdD QbT (Qn QbU) Tryz.f156 (Tryz.f156.body.getD .skip) (Qp [(.list I64), .bool]) n [0, 3] [.d .str x1, .own 0 I64 x2, .d I64 x3]
theorem Qrx (n : Nat) (a0 : (List Int)) : Qls n a0 =
  JV n a0 [] 0 := by kernel_rfl
theorem Qkx (n : Nat) (x1 : (List Int)) (x2 : (List Int)) (x3 : Int) : JV (n + 1) x1 x2 x3 =
  bif decide (x3 < (x1.length : Int)) then
   bif inB x3 x1.length then
    bif decide (rd x1 x3 0 = 42) then
     bif decide (((x2.length : Int) + (([(-1)] : List Int).length : Int)) * 8 ≤ QI) && decide ((x2.length : Int) + (([(-1)] : List Int).length : Int) ≤ QI) then
      JV n x1 (x2 ++ ([(-1)] : List Int)) (IntKind.wrap .i64 (x3 + 1))
     else none
    else
     bif inB x3 x1.length then
      bif decide (rd x1 x3 0 = 92) then
       bif decide ((x1.length : Int) ≤ IntKind.wrap .i64 (x3 + 1)) then
        some ([], false)
       else
        bif inB (IntKind.wrap .i64 (x3 + 1)) x1.length then
         bif !decide (rd x1 (IntKind.wrap .i64 (x3 + 1)) 0 = 42) then
          bif inB (IntKind.wrap .i64 (x3 + 1)) x1.length then
           bif !decide (rd x1 (IntKind.wrap .i64 (x3 + 1)) 0 = 92) then
            some ([], false)
           else
            bif inB (IntKind.wrap .i64 (x3 + 1)) x1.length then
             bif decide (((x2.length : Int) + (([IntKind.wrap .i64 (rd x1 (IntKind.wrap .i64 (x3 + 1)) 0)] : List Int).length : Int)) * 8 ≤ QI) && decide ((x2.length : Int) + (([IntKind.wrap .i64 (rd x1 (IntKind.wrap .i64 (x3 + 1)) 0)] : List Int).length : Int) ≤ QI) then
              JV n x1 (x2 ++ ([IntKind.wrap .i64 (rd x1 (IntKind.wrap .i64 (x3 + 1)) 0)] : List Int)) (IntKind.wrap .i64 ((IntKind.wrap .i64 (x3 + 1)) + 1))
             else none
            else none
          else none
         else
          bif inB (IntKind.wrap .i64 (x3 + 1)) x1.length then
           bif decide (((x2.length : Int) + (([IntKind.wrap .i64 (rd x1 (IntKind.wrap .i64 (x3 + 1)) 0)] : List Int).length : Int)) * 8 ≤ QI) && decide ((x2.length : Int) + (([IntKind.wrap .i64 (rd x1 (IntKind.wrap .i64 (x3 + 1)) 0)] : List Int).length : Int) ≤ QI) then
            JV n x1 (x2 ++ ([IntKind.wrap .i64 (rd x1 (IntKind.wrap .i64 (x3 + 1)) 0)] : List Int)) (IntKind.wrap .i64 ((IntKind.wrap .i64 (x3 + 1)) + 1))
           else none
          else none
        else none
      else
       bif inB x3 x1.length then
        bif decide (((x2.length : Int) + (([IntKind.wrap .i64 (rd x1 x3 0)] : List Int).length : Int)) * 8 ≤ QI) && decide ((x2.length : Int) + (([IntKind.wrap .i64 (rd x1 x3 0)] : List Int).length : Int) ≤ QI) then
         JV n x1 (x2 ++ ([IntKind.wrap .i64 (rd x1 x3 0)] : List Int)) (IntKind.wrap .i64 (x3 + 1))
        else none
       else none
     else none
   else none
  else
   some (x2, true) := by kernel_rfl
theorem Qpm {x1 : (List Int)} : ∀ (m : Nat) (x2 : (List Int)) (x3 : Int) (r : ((List Int) × Bool)), Q0 x1 m x2 x3 = some r → Ev (fun n => JV n x1 x2 x3) r := by
 intro m
 induction m with
 | zero => intro x2 x3 r h; rw [Q0] at h; exact Ev.ofNone h
 | succ m ih2 =>
  intro x2 x3 r h
  rw [Q0] at h
  refine Ev.step ?_ (fun n => Qkx n x1 x2 x3)
  exact (Ev.ofBif h (fun h => (Ev.ofBif h (fun h => (Ev.ofBif h (fun h => (Ev.ofBif h (fun h => (ih2 _ _ _ h)) (fun h => (Ev.ofNone h)))) (fun h => (Ev.ofBif h (fun h => (Ev.ofBif h (fun h => (Ev.ofBif h (fun h => (Ev.ofSome h)) (fun h => (Ev.ofBif h (fun h => (Ev.ofBif h (fun h => (Ev.ofBif h (fun h => (Ev.ofBif h (fun h => (Ev.ofSome h)) (fun h => (Ev.ofBif h (fun h => (Ev.ofBif h (fun h => (ih2 _ _ _ h)) (fun h => (Ev.ofNone h)))) (fun h => (Ev.ofNone h)))))) (fun h => (Ev.ofNone h)))) (fun h => (Ev.ofBif h (fun h => (Ev.ofBif h (fun h => (ih2 _ _ _ h)) (fun h => (Ev.ofNone h)))) (fun h => (Ev.ofNone h)))))) (fun h => (Ev.ofNone h)))))) (fun h => (Ev.ofBif h (fun h => (Ev.ofBif h (fun h => (ih2 _ _ _ h)) (fun h => (Ev.ofNone h)))) (fun h => (Ev.ofNone h)))))) (fun h => (Ev.ofNone h)))))) (fun h => (Ev.ofNone h)))) (fun h => (Ev.ofSome h)))
theorem QxC {m : Nat} (a0 : (List Int)) {r : ((List Int) × Bool)} (h : QdB m a0 = some r) : Ev (fun n => Qls n a0) r := by
 rw [QdB] at h
 refine Ev.of_eq ?_ (fun n => Qrx n a0)
 exact (Qpm _ _ _ _ h)
theorem Qtx : ∀ x ∈ QbU, Qg Tryz.prog x := Qi
theorem QvQ : Qg Tryz.prog (QdC) := by
 refine Qh (c := QdC) (by kernel_rfl) (by kernel_rfl : Tryz.prog.funcs[156]? = some Tryz.f156) (code := Tryz.f156.body.getD .skip) (by kernel_rfl) (by kernel_rfl) (by kernel_rfl) (A := QdD) (I := QbT) (Qtx) ?_
 rintro ⟨a0, u⟩ y hy
 exact let ⟨_, h⟩ := (Gj hy).get; (QxC a0 h).get
noncomputable def Z6 (g0 : (List (List Int))) (x1 : Int) (x2 : Bool) (x3 : Qo) : Option Bool :=
 bif x2 then
  Option.bind (Zv x3.2.1) fun (y4 : Bool) =>
  some y4
 else
  bif decide (x1 = 20) then
   Option.bind (Ws x3.2.1) fun (y5 : ((List Int) × Bool)) =>
   bif y5.2 then
    Option.bind (Ji x3.2.1 0 200) fun (y6 : Bool) =>
    some y6
   else
    some false
  else
   some (decide (x3.2.1 = ([] : List Int)))
noncomputable def Yb (g0 : (List (List Int))) (x1 : Qo) : Option Bool :=
 bif decide (x1.1 = 1) then
  bif decide (x1.2.1 = ([] : List Int)) then
   Option.bind (Zb x1.2.2.1) fun (y2 : Bool) =>
   some y2
  else
   some false
 else
  bif decide (x1.1 = 3) then
   Option.bind (QN g0 x1.2.1) fun (y3 : Bool) =>
   some y3
  else
   bif decide (x1.1 = 4) then
    Z6 g0 x1.1 (decide (x1.1 = 4)) x1
   else
    bif decide (x1.1 = 5) then
     Z6 g0 x1.1 (decide (x1.1 = 5)) x1
    else
     Z6 g0 x1.1 (decide (x1.1 = 21)) x1
noncomputable def Y5 (g0 : (List (List Int))) (x1 : Qo) : Option Bool :=
 Option.bind (V8 x1.1) fun (y1 : (Int × Int)) =>
 bif decide (x1.2.2.2 < y1.1) then
  some false
 else
  bif decide (y1.2 < x1.2.2.2) then
   some false
  else
   bif !decide (x1.1 = 1) then
    bif !(QH x1.2.2.1) then
     some false
    else
     Yb g0 x1
   else
    Yb g0 x1
noncomputable def JG (g0 : (List (List Int))) (a0 : Qo) : Option Bool :=
 bif decide (a0.1 < 1) then
  some false
 else
  bif decide ((21 : Int) < a0.1) then
   some false
  else
   Y5 g0 a0
noncomputable def HV (g0 : (List (List Int))) : Ctr := ⟨141, [Ql], [.bool], fun x => JG g0 x.1⟩
def Vk : List (List Nat × Ann) := [([1, 3], [.keep 0 1, .boxd 0 1 Ql]), ([1, 6], [.keep 0 1, .boxd 0 1 Ql]), ([1, 14], [.keep 0 1, .keep 0 43, .keep 0 60, .boxd 0 1 Ql])]
def YT : List (List Nat × Nat) := []
noncomputable def YU (g0 : (List (List Int))) : List Ctr := [QfK, Xk, Gq, YP, Gp, QdC, Wp]
noncomputable def Qc1 (g0 : (List (List Int))) (n : Nat) (a0 : Qo) : Option Bool := Er Tryz.prog (Ud [(0, Qq (.list .str) g0)]) Vk YT (Qn (YU g0)) Tryz.f141 (Tryz.f141.body.getD .skip) (QjS Tryz.prog Tryz.f141 (Qp [.bool])) n (Qu [Ql] (a0, ()))
noncomputable abbrev GO (g0 : (List (List Int))) (n : Nat) (x1 : Qo) : Option Bool := Qhf Tryz.prog (Ud [(0, Qq (.list .str) g0)]) Vk YT (Qn (YU g0)) Tryz.f141 (Tryz.f141.body.getD .skip) (QjS Tryz.prog Tryz.f141 (Qp [.bool])) n [1, 3] [.ptr 0 1 0, .agg (Qq Ql x1)]
noncomputable abbrev Y6 (g0 : (List (List Int))) (n : Nat) (x1 : Qo) : Option Bool := Qhf Tryz.prog (Ud [(0, Qq (.list .str) g0)]) Vk YT (Qn (YU g0)) Tryz.f141 (Tryz.f141.body.getD .skip) (QjS Tryz.prog Tryz.f141 (Qp [.bool])) n [1, 6] [.ptr 0 1 0, .agg (Qq Ql x1)]
noncomputable abbrev JR (g0 : (List (List Int))) (n : Nat) (x1 : Int) (x2 : Bool) (x3 : Qo) : Option Bool := Qhf Tryz.prog (Ud [(0, Qq (.list .str) g0)]) Vk YT (Qn (YU g0)) Tryz.f141 (Tryz.f141.body.getD .skip) (QjS Tryz.prog Tryz.f141 (Qp [.bool])) n [1, 14] [.ptr 0 1 0, .d I64 x1, .d .bool x2, .agg (Qq Ql x3)]
theorem QiQ (g0 : (List (List Int))) (n : Nat) (a0 : Qo) : Qc1 g0 n a0 =
  bif decide (a0.1 < 1) then
   some false
  else
   bif decide ((21 : Int) < a0.1) then
    some false
   else
    GO g0 n a0 := by kernel_rfl
theorem QeS (g0 : (List (List Int))) (n : Nat) (x1 : Qo) : GO g0 (n + 1) x1 =
  Option.bind (V8 x1.1) fun (y1 : (Int × Int)) =>
  bif decide (x1.2.2.2 < y1.1) then
   some false
  else
   bif decide (y1.2 < x1.2.2.2) then
    some false
   else
    bif !decide (x1.1 = 1) then
     bif !(QH x1.2.2.1) then
      some false
     else
      Y6 g0 n x1
    else
     Y6 g0 n x1 := by kernel_rfl
theorem QeT (g0 : (List (List Int))) (n : Nat) (x1 : Qo) : Y6 g0 (n + 1) x1 =
  bif decide (x1.1 = 1) then
   bif decide (x1.2.1 = ([] : List Int)) then
    Option.bind (Zb x1.2.2.1) fun (y2 : Bool) =>
    some y2
   else
    some false
  else
   bif decide (x1.1 = 3) then
    Option.bind (QN g0 x1.2.1) fun (y3 : Bool) =>
    some y3
   else
    bif decide (x1.1 = 4) then
     JR g0 n x1.1 (decide (x1.1 = 4)) x1
    else
     bif decide (x1.1 = 5) then
      JR g0 n x1.1 (decide (x1.1 = 5)) x1
     else
      JR g0 n x1.1 (decide (x1.1 = 21)) x1 := by kernel_rfl
theorem QdE (g0 : (List (List Int))) (n : Nat) (x1 : Int) (x2 : Bool) (x3 : Qo) : JR g0 (n + 1) x1 x2 x3 =
  bif x2 then
   Option.bind (Zv x3.2.1) fun (y4 : Bool) =>
   some y4
  else
   bif decide (x1 = 20) then
    Option.bind (Ws x3.2.1) fun (y5 : ((List Int) × Bool)) =>
    bif y5.2 then
     Option.bind (Ji x3.2.1 0 200) fun (y6 : Bool) =>
     some y6
    else
     some false
   else
    some (decide (x3.2.1 = ([] : List Int))) := by kernel_rfl
theorem Gh {g0 : (List (List Int))} {x1 : Int} {x2 : Bool} {x3 : Qo} {r : Bool} (h : Z6 g0 x1 x2 x3 = some r) : Ev (fun n => JR g0 n x1 x2 x3) r := by
 rw [Z6] at h
 refine Ev.step ?_ (fun n => QdE g0 n x1 x2 x3)
 exact (Ev.ofBif h (fun h => (Ev.ofBind h fun y4 h => (Ev.ofSome h))) (fun h => (Ev.ofBif h (fun h => (Ev.ofBind h fun y5 h => (Ev.ofBif h (fun h => (Ev.ofBind h fun y6 h => (Ev.ofSome h))) (fun h => (Ev.ofSome h))))) (fun h => (Ev.ofSome h)))))
theorem U3 {g0 : (List (List Int))} {x1 : Qo} {r : Bool} (h : Yb g0 x1 = some r) : Ev (fun n => Y6 g0 n x1) r := by
 rw [Yb] at h
 refine Ev.step ?_ (fun n => QeT g0 n x1)
 exact (Ev.ofBif h (fun h => (Ev.ofBif h (fun h => (Ev.ofBind h fun y2 h => (Ev.ofSome h))) (fun h => (Ev.ofSome h)))) (fun h => (Ev.ofBif h (fun h => (Ev.ofBind h fun y3 h => (Ev.ofSome h))) (fun h => (Ev.ofBif h (fun h => (Gh h)) (fun h => (Ev.ofBif h (fun h => (Gh h)) (fun h => (Gh h)))))))))
theorem Qhw {g0 : (List (List Int))} {x1 : Qo} {r : Bool} (h : Y5 g0 x1 = some r) : Ev (fun n => GO g0 n x1) r := by
 rw [Y5] at h
 refine Ev.step ?_ (fun n => QeS g0 n x1)
 exact (Ev.ofBind h fun y1 h => (Ev.ofBif h (fun h => (Ev.ofSome h)) (fun h => (Ev.ofBif h (fun h => (Ev.ofSome h)) (fun h => (Ev.ofBif h (fun h => (Ev.ofBif h (fun h => (Ev.ofSome h)) (fun h => (U3 h)))) (fun h => (U3 h))))))))
theorem QnN {g0 : (List (List Int))} (a0 : Qo) {r : Bool} (h : JG g0 a0 = some r) : Ev (fun n => Qc1 g0 n a0) r := by
 rw [JG] at h
 refine Ev.of_eq ?_ (fun n => QiQ g0 n a0)
 exact (Ev.ofBif h (fun h => (Ev.ofSome h)) (fun h => (Ev.ofBif h (fun h => (Ev.ofSome h)) (fun h => (Qhw h)))))
theorem Qky (g0 : (List (List Int))) : ∀ x ∈ YU g0, CtrOkG Tryz.prog (Ud [(0, Qq (.list .str) g0)]) x := (Qb QxB.any (Qb E9.any (Qb Up.any (Qb Qah.any (Qb Um.any (Qb QvQ.any (Qb Qix.any Qi)))))))
theorem Qmk (g0 : (List (List Int))) : CtrOkG Tryz.prog (Ud [(0, Qq (.list .str) g0)]) (HV g0) := by
 refine Qh (c := HV g0) (by kernel_rfl) (by kernel_rfl : Tryz.prog.funcs[141]? = some Tryz.f141) (code := Tryz.f141.body.getD .skip) (by kernel_rfl) (by kernel_rfl) (by kernel_rfl) (A := Vk) (I := YT) (Qky g0) ?_
 rintro ⟨a0, u⟩ y hy
 exact (QnN a0 hy).get
noncomputable def ZP (Rc : (List Qo) → Int → Int → Option Int) (x1 : (List Qo)) (x3 : Int) (x4 : Int) (x6 : Qo) : Nat → Int → Int → Option Int
 | 0, _, _ => none
 | m + 1, x2, x5 =>
   bif decide (x5 < x4) then
    bif decide (x6.1 = 2) then
     bif decide ((x1.length : Int) ≤ x2) then
      some (-1)
     else
      bif inB x2 x1.length then
       bif !decide ((rd x1 x2 (Ty.dflt Ql)).1 = 1) then
        some (-1)
       else
        Option.bind (Rc x1 x2 (IntKind.wrap .i64 (x3 + 1))) fun (y1 : Int) =>
        bif decide (y1 < 0) then
         some (-1)
        else
         ZP Rc x1 x3 x4 x6 m y1 (IntKind.wrap .i64 (x5 + 1))
      else none
    else
     Option.bind (Rc x1 x2 (IntKind.wrap .i64 (x3 + 1))) fun (y2 : Int) =>
     bif decide (y2 < 0) then
      some (-1)
     else
      ZP Rc x1 x3 x4 x6 m y2 (IntKind.wrap .i64 (x5 + 1))
   else
    some x2
noncomputable def XV (Rc : (List Qo) → Int → Int → Option Int) (m : Nat) (a0 : (List Qo)) (a1 : Int) (a2 : Int) : Option Int :=
 bif decide ((a0.length : Int) ≤ a1) then
  some (-1)
 else
  bif decide ((12 : Int) < a2) then
   some (-1)
  else
   bif inB a1 a0.length then
    ZP Rc a0 a2 ((((rd a0 a1 (Ty.dflt Ql)).2).2).2) (rd a0 a1 (Ty.dflt Ql)) m (IntKind.wrap .i64 (a1 + 1)) 0
   else none
noncomputable def Vw : Nat → (List Qo) → Int → Int → Option Int
 | 0 => fun _ _ _ => none
 | d + 1 => fun a0 a1 a2 => QaY fun m => XV (Vw d) m a0 a1 a2
noncomputable def Vx (a0 : (List Qo)) (a1 : Int) (a2 : Int) : Option Int := QaY fun d => Vw d a0 a1 a2
noncomputable def Qlt : Ctr := ⟨142, [(.list Ql), I64, I64], [I64], fun x => Vx x.1 x.2.1 x.2.2.1⟩
def QdF : List (List Nat × Ann) := [([0, 6], [.keep 0 0, .keep 0 1, .keep 0 2, .keep 0 7, .keep 0 23, .keep 0 24, .boxd 0 7 Ql])]
def QbV : List (List Nat × Nat) := []
noncomputable def QbW (Rc : (List Qo) → Int → Int → Option Int) : List Ctr := [⟨142, [(.list Ql), I64, I64], [I64], fun x => Rc x.1 x.2.1 x.2.2.1⟩]
noncomputable def Qlu (Rc : (List Qo) → Int → Int → Option Int) (n : Nat) (a0 : (List Qo)) (a1 : Int) (a2 : Int) : Option Int := run Tryz.prog QdF QbV (Qn (QbW Rc)) Tryz.f142 (Tryz.f142.body.getD .skip) (Qp [I64]) n (Qu [(.list Ql), I64, I64] (a0, a1, a2, ()))
noncomputable abbrev VJ (Rc : (List Qo) → Int → Int → Option Int) (n : Nat) (x1 : (List Qo)) (x2 : Int) (x3 : Int) (x4 : Int) (x5 : Int) (x6 : Qo) : Option Int := lam Tryz.prog QdF QbV (Qn (QbW Rc)) Tryz.f142 (Tryz.f142.body.getD .skip) (Qp [I64]) n [0, 6] [.d (.list Ql) x1, .d I64 x2, .d I64 x3, .ptr 0 7 0, .d I64 x4, .d I64 x5, .agg (Qq Ql x6)]
theorem Qry (Rc : (List Qo) → Int → Int → Option Int) (n : Nat) (a0 : (List Qo)) (a1 : Int) (a2 : Int) : Qlu Rc n a0 a1 a2 =
  bif decide ((a0.length : Int) ≤ a1) then
   some (-1)
  else
   bif decide ((12 : Int) < a2) then
    some (-1)
   else
    bif inB a1 a0.length then
     VJ Rc n a0 (IntKind.wrap .i64 (a1 + 1)) a2 ((((rd a0 a1 (Ty.dflt Ql)).2).2).2) 0 (rd a0 a1 (Ty.dflt Ql))
    else none := by kernel_rfl
theorem Qkz (Rc : (List Qo) → Int → Int → Option Int) (n : Nat) (x1 : (List Qo)) (x2 : Int) (x3 : Int) (x4 : Int) (x5 : Int) (x6 : Qo) : VJ Rc (n + 1) x1 x2 x3 x4 x5 x6 =
  bif decide (x5 < x4) then
   bif decide (x6.1 = 2) then
    bif decide ((x1.length : Int) ≤ x2) then
     some (-1)
    else
     bif inB x2 x1.length then
      bif !decide ((rd x1 x2 (Ty.dflt Ql)).1 = 1) then
       some (-1)
      else
       Option.bind (Rc x1 x2 (IntKind.wrap .i64 (x3 + 1))) fun (y1 : Int) =>
       bif decide (y1 < 0) then
        some (-1)
       else
        VJ Rc n x1 y1 x3 x4 (IntKind.wrap .i64 (x5 + 1)) x6
     else none
   else
    Option.bind (Rc x1 x2 (IntKind.wrap .i64 (x3 + 1))) fun (y2 : Int) =>
    bif decide (y2 < 0) then
     some (-1)
    else
     VJ Rc n x1 y2 x3 x4 (IntKind.wrap .i64 (x5 + 1)) x6
  else
   some x2 := by kernel_rfl
theorem Qpn {Rc : (List Qo) → Int → Int → Option Int} {x1 : (List Qo)} {x3 : Int} {x4 : Int} {x6 : Qo} : ∀ (m : Nat) (x2 : Int) (x5 : Int) (r : Int), ZP Rc x1 x3 x4 x6 m x2 x5 = some r → Ev (fun n => VJ Rc n x1 x2 x3 x4 x5 x6) r := by
 intro m
 induction m with
 | zero => intro x2 x5 r h; rw [ZP] at h; exact Ev.ofNone h
 | succ m ih2 =>
  intro x2 x5 r h
  rw [ZP] at h
  refine Ev.step ?_ (fun n => Qkz Rc n x1 x2 x3 x4 x5 x6)
  exact (Ev.ofBif h (fun h => (Ev.ofBif h (fun h => (Ev.ofBif h (fun h => (Ev.ofSome h)) (fun h => (Ev.ofBif h (fun h => (Ev.ofBif h (fun h => (Ev.ofSome h)) (fun h => (Ev.ofBind h fun y1 h => (Ev.ofBif h (fun h => (Ev.ofSome h)) (fun h => (ih2 _ _ _ h))))))) (fun h => (Ev.ofNone h)))))) (fun h => (Ev.ofBind h fun y2 h => (Ev.ofBif h (fun h => (Ev.ofSome h)) (fun h => (ih2 _ _ _ h))))))) (fun h => (Ev.ofSome h)))
theorem QxD {Rc : (List Qo) → Int → Int → Option Int} {m : Nat} (a0 : (List Qo)) (a1 : Int) (a2 : Int) {r : Int} (h : XV Rc m a0 a1 a2 = some r) : Ev (fun n => Qlu Rc n a0 a1 a2) r := by
 rw [XV] at h
 refine Ev.of_eq ?_ (fun n => Qry Rc n a0 a1 a2)
 exact (Ev.ofBif h (fun h => (Ev.ofSome h)) (fun h => (Ev.ofBif h (fun h => (Ev.ofSome h)) (fun h => (Ev.ofBif h (fun h => (Qpn _ _ _ _ h)) (fun h => (Ev.ofNone h)))))))
theorem Qty : ∀ d, Qg Tryz.prog (⟨142, [(.list Ql), I64, I64], [I64], fun x => Vw d x.1 x.2.1 x.2.2.1⟩ : Ctr) := by
 intro d
 induction d with
 | zero => intro xs y hy; exact (nomatch (show (none : Option Int) = some y from hy))
 | succ d ih =>
  refine Qh (by kernel_rfl) (by kernel_rfl : Tryz.prog.funcs[142]? = some Tryz.f142) (code := Tryz.f142.body.getD .skip) (by kernel_rfl) (by kernel_rfl) (by kernel_rfl) (A := QdF) (I := QbV) (cs := QbW (Vw d)) (Qb ih Qi) ?_
  rintro ⟨a0, a1, a2, u⟩ y hy
  exact let ⟨_, h⟩ := (Gj hy).get; (QxD a0 a1 a2 h).get
theorem QvR : Qg Tryz.prog (Qlt) := by
 rintro ⟨a0, a1, a2, u⟩ y hy
 obtain ⟨d, hd⟩ := (Gj hy).get
 exact Qty d (a0, a1, a2, u) y hd
noncomputable def QL (g0 : (List (List Int))) (x1 : (List Qo)) : List Qo → Nat → Option Bool
 | [], k =>
   bif false then
    some false
   else
    Option.bind (Vx x1 0 1) fun (y3 : Int) =>
    some (decide (y3 = (x1.length : Int)))
 | e :: rest, k =>
   Option.bind (JG g0 (e)) fun (y1 : Bool) =>
   bif !(y1) then
    bif false then
     some false
    else
     bif decide ((0 : Int) ≤ (k : Int)) then
      some false
     else
      Option.bind (Vx x1 0 1) fun (y2 : Int) =>
      some (decide (y2 = (x1.length : Int)))
   else
    QL g0 x1 rest (k + 1)
noncomputable def Vy (g0 : (List (List Int))) (a0 : (List Qo)) : Option Bool :=
 bif decide ((a0.length : Int) = 0) then
  some false
 else
  bif decide ((60 : Int) < (a0.length : Int)) then
   some false
  else
   Jg a0 (QL g0 a0 a0 0)
noncomputable def QdG (g0 : (List (List Int))) : Ctr := ⟨118, [(.list Ql)], [.bool], fun x => Vy g0 x.1⟩
def QdH : List (List Nat × Ann) := [([0, 2, 1002, 1010], [.keep 0 0, .keep 0 11, .keep 2 0, .keep 2 1, .keep 2 7, .keep 2 8])]
def QbX : List (List Nat × Nat) := [([1010], 139), ([1002, 1010], 153), ([4005, 1002, 1010], 140)]
noncomputable def QbY (g0 : (List (List Int))) : List Ctr := [(HV g0), Qlt]
noncomputable def Qlv (g0 : (List (List Int))) (n : Nat) (a0 : (List Qo)) : Option Bool := Er Tryz.prog (Ud [(0, Qq (.list .str) g0)]) QdH QbX (Qn (QbY g0)) Tryz.f118 (Tryz.f118.body.getD .skip) (QjS Tryz.prog Tryz.f118 (Qp [.bool])) n (Qu [(.list Ql)] (a0, ()))
noncomputable abbrev Z3 (g0 : (List (List Int))) (n : Nat) (x1 : (List Qo)) (x2 : Bool) (x3 : (List Qo)) (x4 : Int) (x5 : Int) : Option Bool := Qhf Tryz.prog (Ud [(0, Qq (.list .str) g0)]) QdH QbX (Qn (QbY g0)) Tryz.f118 (Tryz.f118.body.getD .skip) (QjS Tryz.prog Tryz.f118 (Qp [.bool])) n [0, 2, 1002, 1010] [.d (.list Ql) x1, .d .bool x2, .d (.list Ql) x3, .fn 140 [], .d I64 x4, .d I64 x5]
theorem Qrz (g0 : (List (List Int))) (n : Nat) (a0 : (List Qo)) : Qlv g0 n a0 =
  bif decide ((a0.length : Int) = 0) then
   some false
  else
   bif decide ((60 : Int) < (a0.length : Int)) then
    some false
   else
    Z3 g0 n a0 false a0 (a0.length : Int) 0 := by kernel_rfl
theorem GI (g0 : (List (List Int))) (n : Nat) (x1 : (List Qo)) (x2 : Bool) (x3 : (List Qo)) (x4 : Int) (x5 : Int) : Z3 g0 (n + 1) x1 x2 x3 x4 x5 =
  bif decide (x5 < x4) then
   bif inB x5 x3.length then
    Option.bind (JG g0 (rd x3 x5 (Ty.dflt Ql))) fun (y1 : Bool) =>
    bif !(y1) then
     bif x2 then
      some false
     else
      bif decide ((0 : Int) ≤ x5) then
       some false
      else
       Option.bind (Vx x1 0 1) fun (y2 : Int) =>
       some (decide (y2 = (x1.length : Int)))
    else
     Z3 g0 n x1 x2 x3 x4 (IntKind.wrap .i64 (x5 + 1))
   else none
  else
   bif x2 then
    some false
   else
    Option.bind (Vx x1 0 1) fun (y3 : Int) =>
    some (decide (y3 = (x1.length : Int))) := by kernel_rfl
theorem Qc2 {g0 : (List (List Int))} {x1 : (List Qo)} (hl : x1.length ≤ maxLen) : ∀ (rest : List Qo) (k : Nat) (r : Bool), rest = x1.drop k → QL g0 x1 rest k = some r → Ev (fun n => Z3 g0 n x1 false x1 (x1.length : Int) (k : Int)) r := by
 intro rest
 induction rest with
 | nil =>
  intro k r hr h
  have hk := QO hr
  rw [QL] at h
  refine Ev.step ?_ (fun n => GI g0 n x1 false x1 (x1.length : Int) (k : Int))
  rw [show decide ((k : Int) < (x1.length : Int)) = false from decide_eq_false (by omega)]
  exact Ev.neg rfl (Ev.ofBif h (fun h => (Ev.ofSome h)) (fun h => (Ev.ofBind h fun y3 h => (Ev.ofSome h))))
 | cons e rest ih =>
  intro k r hr h
  obtain ⟨hk, hx, hr2⟩ := QE (d := (Ty.dflt Ql)) hr
  have hw := QA hl hk
  have ih2 : ∀ (r : Bool), QL g0 x1 rest (k + 1) = some r → Ev (fun n => Z3 g0 n x1 false x1 (x1.length : Int) (IntKind.wrap .i64 ((k : Int) + 1))) r := by
   intro r h; rw [hw]; exact ih (k + 1) r hr2 h
  rw [QL] at h
  refine Ev.step ?_ (fun n => GI g0 n x1 false x1 (x1.length : Int) (k : Int))
  rw [show decide ((k : Int) < (x1.length : Int)) = true from decide_eq_true (by omega), QB hk, hx]
  exact Ev.pos rfl (Ev.pos rfl (Ev.ofBind h fun y1 h => (Ev.ofBif h (fun h => (Ev.ofBif h (fun h => (Ev.ofSome h)) (fun h => (Ev.ofBif h (fun h => (Ev.ofSome h)) (fun h => (Ev.ofBind h fun y2 h => (Ev.ofSome h))))))) (fun h => (ih2  _ h)))))
theorem QxE {g0 : (List (List Int))} (a0 : (List Qo)) {r : Bool} (h : Vy g0 a0 = some r) : Ev (fun n => Qlv g0 n a0) r := by
 rw [Vy] at h
 refine Ev.of_eq ?_ (fun n => Qrz g0 n a0)
 exact (Ev.ofBif h (fun h => (Ev.ofSome h)) (fun h => (Ev.ofBif h (fun h => (Ev.ofSome h)) (fun h => (Ev.ofLen h fun hl h => Qc2 hl _ (0 : Nat) _ rfl h)))))
theorem Qtz (g0 : (List (List Int))) : ∀ x ∈ QbY g0, CtrOkG Tryz.prog (Ud [(0, Qq (.list .str) g0)]) x := (Qb (Qmk g0) (Qb QvR.any Qi))
theorem QvS (g0 : (List (List Int))) : CtrOkG Tryz.prog (Ud [(0, Qq (.list .str) g0)]) (QdG g0) := by
 refine Qh (c := QdG g0) (by kernel_rfl) (by kernel_rfl : Tryz.prog.funcs[118]? = some Tryz.f118) (code := Tryz.f118.body.getD .skip) (by kernel_rfl) (by kernel_rfl) (by kernel_rfl) (A := QdH) (I := QbX) (Qtz g0) ?_
 rintro ⟨a0, u⟩ y hy
 exact (QxE a0 hy).get
noncomputable def YF (g0 : (List (List Int))) (a0 : Qd) : Option Bool :=
 Option.bind (V6 a0.1) fun (y1 : Bool) =>
 bif y1 then
  Option.bind (Zg a0.2.2.1 false) fun (y2 : Bool) =>
  bif y2 then
   Option.bind (Zg a0.2.2.2.1 true) fun (y3 : Bool) =>
   bif y3 then
    Option.bind (Zg a0.2.2.2.2.1 false) fun (y4 : Bool) =>
    bif y4 then
     bif decide ((a0.2.2.2.2.2.length : Int) = 0) then
      some true
     else
      Option.bind (Vy g0 a0.2.2.2.2.2) fun (y5 : Bool) =>
      some y5
    else
     some false
   else
    some false
  else
   some false
 else
  some false
noncomputable def Qai (g0 : (List (List Int))) : Ctr := ⟨82, [Qc], [.bool], fun x => YF g0 x.1⟩
def QgT : List (List Nat × Ann) := []
def QfN : List (List Nat × Nat) := []
noncomputable def QfO (g0 : (List (List Int))) : List Ctr := [QfI, QbR, (QdG g0)]
noncomputable def QgU (g0 : (List (List Int))) (n : Nat) (a0 : Qd) : Option Bool := Er Tryz.prog (Ud [(0, Qq (.list .str) g0)]) QgT QfN (Qn (QfO g0)) Tryz.f82 (Tryz.f82.body.getD .skip) (QjS Tryz.prog Tryz.f82 (Qp [.bool])) n (Qu [Qc] (a0, ()))
theorem QnO (g0 : (List (List Int))) (n : Nat) (a0 : Qd) : QgU g0 n a0 =
  Option.bind (V6 a0.1) fun (y1 : Bool) =>
  bif y1 then
   Option.bind (Zg a0.2.2.1 false) fun (y2 : Bool) =>
   bif y2 then
    Option.bind (Zg a0.2.2.2.1 true) fun (y3 : Bool) =>
    bif y3 then
     Option.bind (Zg a0.2.2.2.2.1 false) fun (y4 : Bool) =>
     bif y4 then
      bif decide ((a0.2.2.2.2.2.length : Int) = 0) then
       some true
      else
       Option.bind (Vy g0 a0.2.2.2.2.2) fun (y5 : Bool) =>
       some y5
     else
      some false
    else
     some false
   else
    some false
  else
   some false := by kernel_rfl
theorem QtA {g0 : (List (List Int))} (a0 : Qd) {r : Bool} (h : YF g0 a0 = some r) : Ev (fun n => QgU g0 n a0) r := by
 rw [YF] at h
 refine Ev.of_eq ?_ (fun n => QnO g0 n a0)
 exact (Ev.ofBind h fun y1 h => (Ev.ofBif h (fun h => (Ev.ofBind h fun y2 h => (Ev.ofBif h (fun h => (Ev.ofBind h fun y3 h => (Ev.ofBif h (fun h => (Ev.ofBind h fun y4 h => (Ev.ofBif h (fun h => (Ev.ofBif h (fun h => (Ev.ofSome h)) (fun h => (Ev.ofBind h fun y5 h => (Ev.ofSome h))))) (fun h => (Ev.ofSome h))))) (fun h => (Ev.ofSome h))))) (fun h => (Ev.ofSome h))))) (fun h => (Ev.ofSome h))))
theorem Qpo (g0 : (List (List Int))) : ∀ x ∈ QfO g0, CtrOkG Tryz.prog (Ud [(0, Qq (.list .str) g0)]) x := (Qb QxA.any (Qb Qtv.any (Qb (QvS g0) Qi)))
theorem QrA (g0 : (List (List Int))) : CtrOkG Tryz.prog (Ud [(0, Qq (.list .str) g0)]) (Qai g0) := by
 refine Qh (c := Qai g0) (by kernel_rfl) (by kernel_rfl : Tryz.prog.funcs[82]? = some Tryz.f82) (code := Tryz.f82.body.getD .skip) (by kernel_rfl) (by kernel_rfl) (by kernel_rfl) (A := QgT) (I := QfN) (Qpo g0) ?_
 rintro ⟨a0, u⟩ y hy
 exact (QtA a0 hy).get
noncomputable def QG (g0 : (List (List Int))) : List Qd → Nat → Option Bool
 | [], k =>
   some true
 | e :: rest, k =>
   Option.bind (YF g0 (e)) fun (y2 : Bool) =>
   bif !(y2) then
    some (!decide ((0 : Int) ≤ (k : Int)))
   else
    QG g0 rest (k + 1)
noncomputable def Z4 (g0 : (List (List Int))) (a0 : (List Qd)) : Option Bool :=
 bif decide ((a0.length : Int) ≤ 40) then
  Option.bind (Vp a0) fun (y1 : Bool) =>
  bif y1 then
   Jg a0 (QG g0 a0 0)
  else
   some false
 else
  some false
noncomputable def GJ (g0 : (List (List Int))) : Ctr := ⟨40, [(.list Qc)], [.bool], fun x => Z4 g0 x.1⟩
def HW : List (List Nat × Ann) := [([0, 2, 1002, 1009], [.keep 0 10, .keep 2 0, .keep 2 1, .keep 2 7, .keep 2 8])]
def Hb : List (List Nat × Nat) := [([1009], 80), ([1002, 1009], 115), ([4005, 1002, 1009], 81)]
noncomputable def Hc (g0 : (List (List Int))) : List Ctr := [Qae, (Qai g0)]
noncomputable def Qc3 (g0 : (List (List Int))) (n : Nat) (a0 : (List Qd)) : Option Bool := Er Tryz.prog (Ud [(0, Qq (.list .str) g0)]) HW Hb (Qn (Hc g0)) Tryz.f40 (Tryz.f40.body.getD .skip) (QjS Tryz.prog Tryz.f40 (Qp [.bool])) n (Qu [(.list Qc)] (a0, ()))
noncomputable abbrev Zk (g0 : (List (List Int))) (n : Nat) (x1 : Bool) (x2 : (List Qd)) (x3 : Int) (x4 : Int) : Option Bool := Qhf Tryz.prog (Ud [(0, Qq (.list .str) g0)]) HW Hb (Qn (Hc g0)) Tryz.f40 (Tryz.f40.body.getD .skip) (QjS Tryz.prog Tryz.f40 (Qp [.bool])) n [0, 2, 1002, 1009] [.d .bool x1, .d (.list Qc) x2, .fn 81 [], .d I64 x3, .d I64 x4]
theorem QiR (g0 : (List (List Int))) (n : Nat) (a0 : (List Qd)) : Qc3 g0 n a0 =
  bif decide ((a0.length : Int) ≤ 40) then
   Option.bind (Vp a0) fun (y1 : Bool) =>
   bif y1 then
    Zk g0 n true a0 (a0.length : Int) 0
   else
    some false
  else
   some false := by kernel_rfl
theorem Vq (g0 : (List (List Int))) (n : Nat) (x1 : Bool) (x2 : (List Qd)) (x3 : Int) (x4 : Int) : Zk g0 (n + 1) x1 x2 x3 x4 =
  bif decide (x4 < x3) then
   bif inB x4 x2.length then
    Option.bind (YF g0 (rd x2 x4 (Ty.dflt Qc))) fun (y2 : Bool) =>
    bif !(y2) then
     bif x1 then
      some (!decide ((0 : Int) ≤ x4))
     else
      some false
    else
     Zk g0 n x1 x2 x3 (IntKind.wrap .i64 (x4 + 1))
   else none
  else
   bif x1 then
    some true
   else
    some false := by kernel_rfl
theorem WW {g0 : (List (List Int))} {x2 : (List Qd)} (hl : x2.length ≤ maxLen) : ∀ (rest : List Qd) (k : Nat) (r : Bool), rest = x2.drop k → QG g0 rest k = some r → Ev (fun n => Zk g0 n true x2 (x2.length : Int) (k : Int)) r := by
 intro rest
 induction rest with
 | nil =>
  intro k r hr h
  have hk := QO hr
  rw [QG] at h
  refine Ev.step ?_ (fun n => Vq g0 n true x2 (x2.length : Int) (k : Int))
  rw [show decide ((k : Int) < (x2.length : Int)) = false from decide_eq_false (by omega)]
  exact Ev.neg rfl (Ev.pos rfl (Ev.ofSome h))
 | cons e rest ih =>
  intro k r hr h
  obtain ⟨hk, hx, hr2⟩ := QE (d := (Ty.dflt Qc)) hr
  have hw := QA hl hk
  have ih2 : ∀ (r : Bool), QG g0 rest (k + 1) = some r → Ev (fun n => Zk g0 n true x2 (x2.length : Int) (IntKind.wrap .i64 ((k : Int) + 1))) r := by
   intro r h; rw [hw]; exact ih (k + 1) r hr2 h
  rw [QG] at h
  refine Ev.step ?_ (fun n => Vq g0 n true x2 (x2.length : Int) (k : Int))
  rw [show decide ((k : Int) < (x2.length : Int)) = true from decide_eq_true (by omega), QB hk, hx]
  exact Ev.pos rfl (Ev.pos rfl (Ev.ofBind h fun y2 h => (Ev.ofBif h (fun h => (Ev.pos rfl (Ev.ofSome h))) (fun h => (ih2  _ h)))))
theorem QnP {g0 : (List (List Int))} (a0 : (List Qd)) {r : Bool} (h : Z4 g0 a0 = some r) : Ev (fun n => Qc3 g0 n a0) r := by
 rw [Z4] at h
 refine Ev.of_eq ?_ (fun n => QiR g0 n a0)
 exact (Ev.ofBif h (fun h => (Ev.ofBind h fun y1 h => (Ev.ofBif h (fun h => (Ev.ofLen h fun hl h => WW hl _ (0 : Nat) _ rfl h)) (fun h => (Ev.ofSome h))))) (fun h => (Ev.ofSome h)))
theorem QkA (g0 : (List (List Int))) : ∀ x ∈ Hc g0, CtrOkG Tryz.prog (Ud [(0, Qq (.list .str) g0)]) x := (Qb Qru.any (Qb (QrA g0) Qi))
theorem Qa7 (g0 : (List (List Int))) : CtrOkG Tryz.prog (Ud [(0, Qq (.list .str) g0)]) (GJ g0) := by
 refine Qh (c := GJ g0) (by kernel_rfl) (by kernel_rfl : Tryz.prog.funcs[40]? = some Tryz.f40) (code := Tryz.f40.body.getD .skip) (by kernel_rfl) (by kernel_rfl) (by kernel_rfl) (A := HW) (I := Hb) (QkA g0) ?_
 rintro ⟨a0, u⟩ y hy
 exact (QnP a0 hy).get
noncomputable def Q3 (x6 : Qe) : List Qj → Nat → Option (Qj × Bool)
 | [], k =>
   some (((0, 0, ([] : List Int), ([] : List Int)), [], [], []), false)
 | e :: rest, k =>
   bif @decide (((e).1) = x6) (Ty.decEq Qa ((e).1) x6) then
    bif decide ((k : Int) < 0) then
     some (((0, 0, ([] : List Int), ([] : List Int)), [], [], []), false)
    else
     some ((((e).1), ((e).2)), true)
   else
    Q3 x6 rest (k + 1)
noncomputable def YG (a0 : (List Qj)) (a1 : Qe) : Option (Qj × Bool) :=
 Jg a0 (Q3 a1 a0 0)
noncomputable def Qaj : Ctr := ⟨42, [(.list Qf), Qa], [Qf, .bool], fun x => YG x.1 x.2.1⟩
def Qak : List (List Nat × Ann) := [([0, 2, 1002], [.keep 0 0, .keep 0 4, .keep 1 0, .keep 1 1, .keep 1 7, .keep 1 8, .boxd 0 4 Qf, .boxd 0 3 Qa])]
def WX : List (List Nat × Nat) := [([1002], 83), ([4005, 1002], 84)]
noncomputable def WY : List Ctr := []
noncomputable def QgV (n : Nat) (a0 : (List Qj)) (a1 : Qe) : Option (Qj × Bool) := run Tryz.prog Qak WX (Qn WY) Tryz.f42 (Tryz.f42.body.getD .skip) (Qp [Qf, .bool]) n (Qu [(.list Qf), Qa] (a0, a1, ()))
noncomputable abbrev JH (n : Nat) (x1 : (List Qj)) (x2 : (List Qj)) (x3 : Int) (x4 : Int) (x5 : Qj) (x6 : Qe) : Option (Qj × Bool) := lam Tryz.prog Qak WX (Qn WY) Tryz.f42 (Tryz.f42.body.getD .skip) (Qp [Qf, .bool]) n [0, 2, 1002] [.d (.list Qf) x1, .ptr 0 4 0, .d (.list Qf) x2, .fn 84 [.ptr 0 3 0], .d I64 x3, .d I64 x4, .agg (Qq Qf x5), .agg (Qq Qa x6)]
theorem QnQ (n : Nat) (a0 : (List Qj)) (a1 : Qe) : QgV n a0 a1 =
  JH n a0 a0 (a0.length : Int) 0 ((0, 0, ([] : List Int), ([] : List Int)), [], [], []) a1 := by kernel_rfl
theorem Xr (n : Nat) (x1 : (List Qj)) (x2 : (List Qj)) (x3 : Int) (x4 : Int) (x5 : Qj) (x6 : Qe) : JH (n + 1) x1 x2 x3 x4 x5 x6 =
  bif decide (x4 < x3) then
   bif inB x4 x2.length then
    bif @decide (((rd x2 x4 (Ty.dflt Qf)).1) = x6) (Ty.decEq Qa ((rd x2 x4 (Ty.dflt Qf)).1) x6) then
     bif decide (x4 < 0) then
      some (((0, 0, ([] : List Int), ([] : List Int)), [], [], []), false)
     else
      bif inB x4 x1.length then
       some ((((rd x1 x4 (Ty.dflt Qf)).1), ((rd x1 x4 (Ty.dflt Qf)).2)), true)
      else none
    else
     JH n x1 x2 x3 (IntKind.wrap .i64 (x4 + 1)) x5 x6
   else none
  else
   some (((0, 0, ([] : List Int), ([] : List Int)), [], [], []), false) := by kernel_rfl
theorem QfP {x1 : (List Qj)} {x5 : Qj} {x6 : Qe} (hl : x1.length ≤ maxLen) : ∀ (rest : List Qj) (k : Nat) (r : (Qj × Bool)), rest = x1.drop k → Q3 x6 rest k = some r → Ev (fun n => JH n x1 x1 (x1.length : Int) (k : Int) x5 x6) r := by
 intro rest
 induction rest with
 | nil =>
  intro k r hr h
  have hk := QO hr
  rw [Q3] at h
  refine Ev.step ?_ (fun n => Xr n x1 x1 (x1.length : Int) (k : Int) x5 x6)
  rw [show decide ((k : Int) < (x1.length : Int)) = false from decide_eq_false (by omega)]
  exact Ev.neg rfl (Ev.ofSome h)
 | cons e rest ih =>
  intro k r hr h
  obtain ⟨hk, hx, hr2⟩ := QE (d := (Ty.dflt Qf)) hr
  have hw := QA hl hk
  have ih2 : ∀ (r : (Qj × Bool)), Q3 x6 rest (k + 1) = some r → Ev (fun n => JH n x1 x1 (x1.length : Int) (IntKind.wrap .i64 ((k : Int) + 1)) x5 x6) r := by
   intro r h; rw [hw]; exact ih (k + 1) r hr2 h
  rw [Q3] at h
  refine Ev.step ?_ (fun n => Xr n x1 x1 (x1.length : Int) (k : Int) x5 x6)
  rw [show decide ((k : Int) < (x1.length : Int)) = true from decide_eq_true (by omega), QB hk, hx]
  exact Ev.pos rfl (Ev.pos rfl (Ev.ofBif h (fun h => (Ev.ofBif h (fun h => (Ev.ofSome h)) (fun h => (Ev.pos rfl (Ev.ofSome h))))) (fun h => (ih2  _ h))))
theorem QtB (a0 : (List Qj)) (a1 : Qe) {r : (Qj × Bool)} (h : YG a0 a1 = some r) : Ev (fun n => QgV n a0 a1) r := by
 rw [YG] at h
 refine Ev.of_eq ?_ (fun n => QnQ n a0 a1)
 exact (Ev.ofLen h fun hl h => QfP hl _ (0 : Nat) _ rfl h)
theorem Qpp : ∀ x ∈ WY, Qg Tryz.prog x := Qi
theorem QrB : Qg Tryz.prog (Qaj) := by
 refine Qh (c := Qaj) (by kernel_rfl) (by kernel_rfl : Tryz.prog.funcs[42]? = some Tryz.f42) (code := Tryz.f42.body.getD .skip) (by kernel_rfl) (by kernel_rfl) (by kernel_rfl) (A := Qak) (I := WX) (Qpp) ?_
 rintro ⟨a0, a1, u⟩ y hy
 exact (QtB a0 a1 hy).get
noncomputable def Q8 (K0 : (List Qe) → (List (Qe × Bool)) → Option (List (Qe × Bool))) : List Qe → (List Qe) → (List (Qe × Bool)) → Option (List (Qe × Bool))
 | [], x2, x6 =>
   bif true && decide ((1 : Int) ≤ (x2.length : Int)) then
    K0 (cut x2 1 (x2.length : Int)) x6
   else none
 | e :: rest, x2, x6 =>
   bif !(Qhd Qa x6 (e) false) then
    bif decide (((x2.length : Int) + (([(e)] : List Qe).length : Int)) * 48 ≤ QI) && decide ((x2.length : Int) + (([(e)] : List Qe).length : Int) ≤ QI) then
     Q8 K0 rest (x2 ++ ([(e)] : List Qe)) (Qgp Qa x6 (e) true)
    else none
   else
    Q8 K0 rest x2 x6
noncomputable def Zq (x1 : (List Qj)) : Nat → (List Qe) → (List (Qe × Bool)) → Option (List (Qe × Bool))
 | 0, _, _ => none
 | m + 1, x2, x3 =>
   bif decide ((0 : Int) < (x2.length : Int)) then
    bif inB 0 x2.length then
     Option.bind (YG x1 (rd x2 0 (Ty.dflt Qa))) fun (y1 : (Qj × Bool)) =>
     Jg y1.1.2.1 (Q8 (fun s0 s1 => Zq x1 m s0 s1) y1.1.2.1 x2 x3)
    else none
   else
    some x3
noncomputable def Qal (m : Nat) (a0 : (List Qj)) (a1 : Qe) : Option (List (Qe × Bool)) :=
 Zq a0 m ([a1] : List Qe) (Qgp Qa ([] : List (Qe × Bool)) a1 true)
noncomputable def Hr (a0 : (List Qj)) (a1 : Qe) : Option (List (Qe × Bool)) := QaY fun m => Qal m a0 a1
noncomputable def Qam : Ctr := ⟨121, [(.list Qf), Qa], [(.map Qa .bool)], fun x => Hr x.1 x.2.1⟩
def Hs : List (List Nat × Ann) := [([0, 3], [.keep 0 0, .keep 0 5, .own 0 6 Qa, .mapb 0 11 Qa .bool]), ([0, 7], [.keep 0 0, .keep 0 5, .own 0 6 Qa, .keep 0 30, .keep 0 31, .keep 0 32, .mapb 0 11 Qa .bool])]
def XI : List (List Nat × Nat) := []
noncomputable def XJ : List Ctr := [Qaj]
noncomputable def QgW (n : Nat) (a0 : (List Qj)) (a1 : Qe) : Option (List (Qe × Bool)) := run Tryz.prog Hs XI (Qn XJ) Tryz.f121 (Tryz.f121.body.getD .skip) (Qp [(.map Qa .bool)]) n (Qu [(.list Qf), Qa] (a0, a1, ()))
noncomputable abbrev YV (n : Nat) (x1 : (List Qj)) (x2 : (List Qe)) (x3 : (List (Qe × Bool))) : Option (List (Qe × Bool)) := lam Tryz.prog Hs XI (Qn XJ) Tryz.f121 (Tryz.f121.body.getD .skip) (Qp [(.map Qa .bool)]) n [0, 3] [.d (.list Qf) x1, .mp 0 11, .own 0 Qa x2, .d (.map Qa .bool) x3]
noncomputable abbrev J7 (n : Nat) (x1 : (List Qj)) (x2 : (List Qe)) (x3 : (List Qe)) (x4 : Int) (x5 : Int) (x6 : (List (Qe × Bool))) : Option (List (Qe × Bool)) := lam Tryz.prog Hs XI (Qn XJ) Tryz.f121 (Tryz.f121.body.getD .skip) (Qp [(.map Qa .bool)]) n [0, 7] [.d (.list Qf) x1, .mp 0 11, .own 0 Qa x2, .d (.list Qa) x3, .d I64 x4, .d I64 x5, .d (.map Qa .bool) x6]
theorem QnR (n : Nat) (a0 : (List Qj)) (a1 : Qe) : QgW n a0 a1 =
  YV n a0 ([a1] : List Qe) (Qgp Qa ([] : List (Qe × Bool)) a1 true) := by kernel_rfl
theorem Qhx (n : Nat) (x1 : (List Qj)) (x2 : (List Qe)) (x3 : (List (Qe × Bool))) : YV (n + 1) x1 x2 x3 =
  bif decide ((0 : Int) < (x2.length : Int)) then
   bif inB 0 x2.length then
    Option.bind (YG x1 (rd x2 0 (Ty.dflt Qa))) fun (y1 : (Qj × Bool)) =>
    J7 n x1 x2 y1.1.2.1 (y1.1.2.1.length : Int) 0 x3
   else none
  else
   some x3 := by kernel_rfl
theorem U4 (n : Nat) (x1 : (List Qj)) (x2 : (List Qe)) (x3 : (List Qe)) (x4 : Int) (x5 : Int) (x6 : (List (Qe × Bool))) : J7 (n + 1) x1 x2 x3 x4 x5 x6 =
  bif decide (x5 < x4) then
   bif inB x5 x3.length then
    bif !(Qhd Qa x6 (rd x3 x5 (Ty.dflt Qa)) false) then
     bif decide (((x2.length : Int) + (([(rd x3 x5 (Ty.dflt Qa))] : List Qe).length : Int)) * 48 ≤ QI) && decide ((x2.length : Int) + (([(rd x3 x5 (Ty.dflt Qa))] : List Qe).length : Int) ≤ QI) then
      J7 n x1 (x2 ++ ([(rd x3 x5 (Ty.dflt Qa))] : List Qe)) x3 x4 (IntKind.wrap .i64 (x5 + 1)) (Qgp Qa x6 (rd x3 x5 (Ty.dflt Qa)) true)
     else none
    else
     J7 n x1 x2 x3 x4 (IntKind.wrap .i64 (x5 + 1)) x6
   else none
  else
   bif true && decide ((1 : Int) ≤ (x2.length : Int)) then
    YV n x1 (cut x2 1 (x2.length : Int)) x6
   else none := by kernel_rfl
theorem Qml {K0 : (List Qe) → (List (Qe × Bool)) → Option (List (Qe × Bool))} {x1 : (List Qj)} {x3 : (List Qe)} (hl : x3.length ≤ maxLen) (hK0 : ∀ (z2 : (List Qe)) (z3 : (List (Qe × Bool))) (r : (List (Qe × Bool))), K0 z2 z3 = some r → Ev (fun n => YV n x1 z2 z3) r) : ∀ (rest : List Qe) (k : Nat) (x2 : (List Qe)) (x6 : (List (Qe × Bool))) (r : (List (Qe × Bool))), rest = x3.drop k → Q8 K0 rest x2 x6 = some r → Ev (fun n => J7 n x1 x2 x3 (x3.length : Int) (k : Int) x6) r := by
 intro rest
 induction rest with
 | nil =>
  intro k x2 x6 r hr h
  have hk := QO hr
  rw [Q8] at h
  refine Ev.step ?_ (fun n => U4 n x1 x2 x3 (x3.length : Int) (k : Int) x6)
  rw [show decide ((k : Int) < (x3.length : Int)) = false from decide_eq_false (by omega)]
  exact Ev.neg rfl (Ev.ofBif h (fun h => (hK0 _ _ _ h)) (fun h => (Ev.ofNone h)))
 | cons e rest ih =>
  intro k x2 x6 r hr h
  obtain ⟨hk, hx, hr2⟩ := QE (d := (Ty.dflt Qa)) hr
  have hw := QA hl hk
  have ih2 : ∀ (z2 : (List Qe)) (z6 : (List (Qe × Bool))) (r : (List (Qe × Bool))), Q8 K0 rest z2 z6 = some r → Ev (fun n => J7 n x1 z2 x3 (x3.length : Int) (IntKind.wrap .i64 ((k : Int) + 1)) z6) r := by
   intro z2 z6 r h; rw [hw]; exact ih (k + 1) z2 z6 r hr2 h
  rw [Q8] at h
  refine Ev.step ?_ (fun n => U4 n x1 x2 x3 (x3.length : Int) (k : Int) x6)
  rw [show decide ((k : Int) < (x3.length : Int)) = true from decide_eq_true (by omega), QB hk, hx]
  exact Ev.pos rfl (Ev.pos rfl (Ev.ofBif h (fun h => (Ev.ofBif h (fun h => (ih2 _ _ _ h)) (fun h => (Ev.ofNone h)))) (fun h => (ih2 _ _ _ h))))
theorem Qmm {x1 : (List Qj)} : ∀ (m : Nat) (x2 : (List Qe)) (x3 : (List (Qe × Bool))) (r : (List (Qe × Bool))), Zq x1 m x2 x3 = some r → Ev (fun n => YV n x1 x2 x3) r := by
 intro m
 induction m with
 | zero => intro x2 x3 r h; rw [Zq] at h; exact Ev.ofNone h
 | succ m ih2 =>
  intro x2 x3 r h
  rw [Zq] at h
  refine Ev.step ?_ (fun n => Qhx n x1 x2 x3)
  exact (Ev.ofBif h (fun h => (Ev.ofBif h (fun h => (Ev.ofBind h fun y1 h => (Ev.ofLen h fun hl h => Qml hl ih2 _ (0 : Nat) _ _ _ rfl h))) (fun h => (Ev.ofNone h)))) (fun h => (Ev.ofSome h)))
theorem QtC {m : Nat} (a0 : (List Qj)) (a1 : Qe) {r : (List (Qe × Bool))} (h : Qal m a0 a1 = some r) : Ev (fun n => QgW n a0 a1) r := by
 rw [Qal] at h
 refine Ev.of_eq ?_ (fun n => QnR n a0 a1)
 exact (Qmm _ _ _ _ h)
theorem Qpq : ∀ x ∈ XJ, Qg Tryz.prog x := (Qb QrB Qi)
theorem QrC : Qg Tryz.prog (Qam) := by
 refine Qh (c := Qam) (by kernel_rfl) (by kernel_rfl : Tryz.prog.funcs[121]? = some Tryz.f121) (code := Tryz.f121.body.getD .skip) (by kernel_rfl) (by kernel_rfl) (by kernel_rfl) (A := Hs) (I := XI) (Qpq) ?_
 rintro ⟨a0, a1, u⟩ y hy
 exact let ⟨_, h⟩ := (Gj hy).get; (QtC a0 a1 h).get
noncomputable def Q1 (a0 : (List Qj)) (a1 : ZE) (a2 : Qe) : Option Bool :=
 bif decide (a1.1 = 1) then
  some true
 else
  bif decide (a1.1 = 2) then
   some (@decide (a1.2.1 = a2) (Ty.decEq Qa a1.2.1 a2))
  else
   bif decide (a1.1 = 3) then
    Option.bind (Hr a0 a2) fun (y1 : (List (Qe × Bool))) =>
    some (Qhd Qa y1 a1.2.1 false)
   else
    bif decide (a1.1 = 4) then
     some (decide (a1.2.2 = a2.2.2.2))
    else
     some false
noncomputable def UN : Ctr := ⟨93, [(.list Qf), Qs, Qa], [.bool], fun x => Q1 x.1 x.2.1 x.2.2.1⟩
def Qeq : List (List Nat × Ann) := []
def Qc4 : List (List Nat × Nat) := []
noncomputable def Qc5 : List Ctr := [Qam]
noncomputable def Qer (n : Nat) (a0 : (List Qj)) (a1 : ZE) (a2 : Qe) : Option Bool := run Tryz.prog Qeq Qc4 (Qn Qc5) Tryz.f93 (Tryz.f93.body.getD .skip) (Qp [.bool]) n (Qu [(.list Qf), Qs, Qa] (a0, a1, a2, ()))
theorem QkB (n : Nat) (a0 : (List Qj)) (a1 : ZE) (a2 : Qe) : Qer n a0 a1 a2 =
  bif decide (a1.1 = 1) then
   some true
  else
   bif decide (a1.1 = 2) then
    some (@decide (a1.2.1 = a2) (Ty.decEq Qa a1.2.1 a2))
   else
    bif decide (a1.1 = 3) then
     Option.bind (Hr a0 a2) fun (y1 : (List (Qe × Bool))) =>
     some (Qhd Qa y1 a1.2.1 false)
    else
     bif decide (a1.1 = 4) then
      some (decide (a1.2.2 = a2.2.2.2))
     else
      some false := by kernel_rfl
theorem Qpr (a0 : (List Qj)) (a1 : ZE) (a2 : Qe) {r : Bool} (h : Q1 a0 a1 a2 = some r) : Ev (fun n => Qer n a0 a1 a2) r := by
 rw [Q1] at h
 refine Ev.of_eq ?_ (fun n => QkB n a0 a1 a2)
 exact (Ev.ofBif h (fun h => (Ev.ofSome h)) (fun h => (Ev.ofBif h (fun h => (Ev.ofSome h)) (fun h => (Ev.ofBif h (fun h => (Ev.ofBind h fun y1 h => (Ev.ofSome h))) (fun h => (Ev.ofBif h (fun h => (Ev.ofSome h)) (fun h => (Ev.ofSome h)))))))))
theorem Qmn : ∀ x ∈ Qc5, Qg Tryz.prog x := (Qb QrC Qi)
theorem QnS : Qg Tryz.prog (UN) := by
 refine Qh (c := UN) (by kernel_rfl) (by kernel_rfl : Tryz.prog.funcs[93]? = some Tryz.f93) (code := Tryz.f93.body.getD .skip) (by kernel_rfl) (by kernel_rfl) (by kernel_rfl) (A := Qeq) (I := Qc4) (Qmn) ?_
 rintro ⟨a0, a1, a2, u⟩ y hy
 exact (Qpr a0 a1 a2 hy).get
noncomputable def ZH (a0 : (List Qj)) (a1 : Qt) (a2 : Qd) : Option Bool :=
 Option.bind (Q1 a0 a2.2.2.1 a1.1) fun (y1 : Bool) =>
 bif y1 then
  Option.bind (Q1 a0 a2.2.2.2.1 a1.2.1) fun (y2 : Bool) =>
  bif y2 then
   Option.bind (Q1 a0 a2.2.2.2.2.1 a1.2.2.1) fun (y3 : Bool) =>
   some y3
  else
   some false
 else
  some false
noncomputable def XK : Ctr := ⟨59, [(.list Qf), Qr, Qc], [.bool], fun x => ZH x.1 x.2.1 x.2.2.1⟩
def QfQ : List (List Nat × Ann) := []
def Qes : List (List Nat × Nat) := []
noncomputable def Qet : List Ctr := [UN]
noncomputable def QfR (n : Nat) (a0 : (List Qj)) (a1 : Qt) (a2 : Qd) : Option Bool := run Tryz.prog QfQ Qes (Qn Qet) Tryz.f59 (Tryz.f59.body.getD .skip) (Qp [.bool]) n (Qu [(.list Qf), Qr, Qc] (a0, a1, a2, ()))
theorem Qmo (n : Nat) (a0 : (List Qj)) (a1 : Qt) (a2 : Qd) : QfR n a0 a1 a2 =
  Option.bind (Q1 a0 a2.2.2.1 a1.1) fun (y1 : Bool) =>
  bif y1 then
   Option.bind (Q1 a0 a2.2.2.2.1 a1.2.1) fun (y2 : Bool) =>
   bif y2 then
    Option.bind (Q1 a0 a2.2.2.2.2.1 a1.2.2.1) fun (y3 : Bool) =>
    some y3
   else
    some false
  else
   some false := by kernel_rfl
theorem QrD (a0 : (List Qj)) (a1 : Qt) (a2 : Qd) {r : Bool} (h : ZH a0 a1 a2 = some r) : Ev (fun n => QfR n a0 a1 a2) r := by
 rw [ZH] at h
 refine Ev.of_eq ?_ (fun n => Qmo n a0 a1 a2)
 exact (Ev.ofBind h fun y1 h => (Ev.ofBif h (fun h => (Ev.ofBind h fun y2 h => (Ev.ofBif h (fun h => (Ev.ofBind h fun y3 h => (Ev.ofSome h))) (fun h => (Ev.ofSome h))))) (fun h => (Ev.ofSome h))))
theorem QnT : ∀ x ∈ Qet, Qg Tryz.prog x := (Qb QnS Qi)
theorem Qeu : Qg Tryz.prog (XK) := by
 refine Qh (c := XK) (by kernel_rfl) (by kernel_rfl : Tryz.prog.funcs[59]? = some Tryz.f59) (code := Tryz.f59.body.getD .skip) (by kernel_rfl) (by kernel_rfl) (by kernel_rfl) (A := QfQ) (I := Qes) (QnT) ?_
 rintro ⟨a0, a1, a2, u⟩ y hy
 exact (QrD a0 a1 a2 hy).get
noncomputable def YO (a0 : (List Qo)) : Option (List Qo) :=
 bif decide (0 < a0.length) then
  bif decide (((([] : List Qo).length : Int) + (a0.length : Int)) * 80 ≤ QI) && decide ((([] : List Qo).length : Int) + (a0.length : Int) ≤ QI) then
   some (([] : List Qo) ++ a0)
  else none
 else
  QuJ
   (some ([]))
   (bif decide (((([] : List Qo).length : Int) + (a0.length : Int)) * 80 ≤ QI) && decide ((([] : List Qo).length : Int) + (a0.length : Int) ≤ QI) then
    some (([] : List Qo) ++ a0)
   else none)
noncomputable def QnU : Ctr := ⟨94, [(.list Ql)], [(.list Ql)], fun x => YO x.1⟩
def QwX : List (List Nat × Ann) := []
def QtD : List (List Nat × Nat) := []
noncomputable def QtE : List Ctr := []
noncomputable def QwY (n : Nat) (a0 : (List Qo)) : Option (List Qo) := run Tryz.prog QwX QtD (Qn QtE) Tryz.f94 (Tryz.f94.body.getD .skip) (Qp [(.list Ql)]) n (Qu [(.list Ql)] (a0, ()))
theorem QzJ (n : Nat) (a0 : (List Qo)) : QwY n a0 =
  bif decide (0 < a0.length) then
   bif decide (((([] : List Qo).length : Int) + (a0.length : Int)) * 80 ≤ QI) && decide ((([] : List Qo).length : Int) + (a0.length : Int) ≤ QI) then
    some (([] : List Qo) ++ a0)
   else none
  else
   QuJ
    (some ([]))
    (bif decide (((([] : List Qo).length : Int) + (a0.length : Int)) * 80 ≤ QI) && decide ((([] : List Qo).length : Int) + (a0.length : Int) ≤ QI) then
     some (([] : List Qo) ++ a0)
    else none) := by kernel_rfl
theorem QCO (a0 : (List Qo)) {r : (List Qo)} (h : YO a0 = some r) : Ev (fun n => QwY n a0) r := by
 rw [YO] at h
 refine Ev.of_eq ?_ (fun n => QzJ n a0)
 exact (Ev.ofBif h (fun h => (Ev.ofBif h (fun h => (Ev.ofSome h)) (fun h => (Ev.ofNone h)))) (fun h => (Ev.ofBoth h (fun h => (Ev.ofSome h)) (fun h => (Ev.ofBif h (fun h => (Ev.ofSome h)) (fun h => (Ev.ofNone h)))))))
theorem QAD : ∀ x ∈ QtE, Qg Tryz.prog x := Qi
theorem QB1 : Qg Tryz.prog (QnU) := by
 refine Qh (c := QnU) (by kernel_rfl) (by kernel_rfl : Tryz.prog.funcs[94]? = some Tryz.f94) (code := Tryz.f94.body.getD .skip) (by kernel_rfl) (by kernel_rfl) (by kernel_rfl) (A := QwX) (I := QtD) (QAD) ?_
 rintro ⟨a0, u⟩ y hy
 exact (QCO a0 hy).get
noncomputable def Zl (a0 : Qd) : Option Qd :=
 Option.bind (YO a0.2.2.2.2.2) fun (y1 : (List Qo)) =>
 some (a0.1, a0.2.1, a0.2.2.1, a0.2.2.2.1, a0.2.2.2.2.1, y1)
noncomputable def WZ : Ctr := ⟨60, [Qc], [Qc], fun x => Zl x.1⟩
def QfS : List (List Nat × Ann) := []
def Qev : List (List Nat × Nat) := []
noncomputable def Qew : List Ctr := [QnU]
noncomputable def QfT (n : Nat) (a0 : Qd) : Option Qd := run Tryz.prog QfS Qev (Qn Qew) Tryz.f60 (Tryz.f60.body.getD .skip) (Qp [Qc]) n (Qu [Qc] (a0, ()))
theorem Qmp (n : Nat) (a0 : Qd) : QfT n a0 =
  Option.bind (YO a0.2.2.2.2.2) fun (y1 : (List Qo)) =>
  some (a0.1, a0.2.1, a0.2.2.1, a0.2.2.2.1, a0.2.2.2.2.1, y1) := by kernel_rfl
theorem QrE (a0 : Qd) {r : Qd} (h : Zl a0 = some r) : Ev (fun n => QfT n a0) r := by
 rw [Zl] at h
 refine Ev.of_eq ?_ (fun n => Qmp n a0)
 exact (Ev.ofBind h fun y1 h => (Ev.ofSome h))
theorem QnV : ∀ x ∈ Qew, Qg Tryz.prog x := (Qb QB1 Qi)
theorem Qps : Qg Tryz.prog (WZ) := by
 refine Qh (c := WZ) (by kernel_rfl) (by kernel_rfl : Tryz.prog.funcs[60]? = some Tryz.f60) (code := Tryz.f60.body.getD .skip) (by kernel_rfl) (by kernel_rfl) (by kernel_rfl) (A := QfS) (I := Qev) (QnV) ?_
 rintro ⟨a0, u⟩ y hy
 exact (QrE a0 hy).get
noncomputable def QC (g0 : (List (List Int))) (x1 : (List Qj)) (x6 : Qt) : List Qd → (List Qd) → Option (List Qd)
 | [], x2 =>
   some x2
 | e :: rest, x2 =>
   Option.bind (ZH x1 x6 (e)) fun (y4 : Bool) =>
   bif y4 then
    Option.bind (Zl (e)) fun (y5 : Qd) =>
    bif decide (((x2.length : Int) + (([y5] : List Qd).length : Int)) * 264 ≤ QI) && decide ((x2.length : Int) + (([y5] : List Qd).length : Int) ≤ QI) then
     QC g0 x1 x6 rest (x2 ++ ([y5] : List Qd))
    else none
   else
    QC g0 x1 x6 rest x2
noncomputable def QV (g0 : (List (List Int))) (a0 : (List Qj)) (a1 : Qt) (a2 : (List Qd)) : Option (List Qd) :=
 Option.bind (J1 a0) fun (y1 : Bool) =>
 bif !(y1) then
  some ([])
 else
  Option.bind (JF a1) fun (y2 : Bool) =>
  bif !(y2) then
   some ([])
  else
   Option.bind (Z4 g0 a2) fun (y3 : Bool) =>
   bif !(y3) then
    some ([])
   else
    Jg a2 (QC g0 a0 a1 a2 [])
noncomputable def HX (g0 : (List (List Int))) : Ctr := ⟨21, [(.list Qf), Qr, (.list Qc)], [(.list Qc)], fun x => QV g0 x.1 x.2.1 x.2.2.1⟩
def HY : List (List Nat × Ann) := [([0, 5], [.keep 0 0, .keep 0 4, .own 0 7 Qc, .keep 0 23, .keep 0 24, .keep 0 25, .boxd 0 4 Qr])]
def Hd : List (List Nat × Nat) := []
noncomputable def He (g0 : (List (List Int))) : List Ctr := [Ho, XG, (GJ g0), XK, WZ]
noncomputable def Qc6 (g0 : (List (List Int))) (n : Nat) (a0 : (List Qj)) (a1 : Qt) (a2 : (List Qd)) : Option (List Qd) := Er Tryz.prog (Ud [(0, Qq (.list .str) g0)]) HY Hd (Qn (He g0)) Tryz.f21 (Tryz.f21.body.getD .skip) (QjS Tryz.prog Tryz.f21 (Qp [(.list Qc)])) n (Qu [(.list Qf), Qr, (.list Qc)] (a0, a1, a2, ()))
noncomputable abbrev Jl (g0 : (List (List Int))) (n : Nat) (x1 : (List Qj)) (x2 : (List Qd)) (x3 : (List Qd)) (x4 : Int) (x5 : Int) (x6 : Qt) : Option (List Qd) := Qhf Tryz.prog (Ud [(0, Qq (.list .str) g0)]) HY Hd (Qn (He g0)) Tryz.f21 (Tryz.f21.body.getD .skip) (QjS Tryz.prog Tryz.f21 (Qp [(.list Qc)])) n [0, 5] [.d (.list Qf) x1, .ptr 0 4 0, .own 0 Qc x2, .d (.list Qc) x3, .d I64 x4, .d I64 x5, .agg (Qq Qr x6)]
theorem QiS (g0 : (List (List Int))) (n : Nat) (a0 : (List Qj)) (a1 : Qt) (a2 : (List Qd)) : Qc6 g0 n a0 a1 a2 =
  Option.bind (J1 a0) fun (y1 : Bool) =>
  bif !(y1) then
   some ([])
  else
   Option.bind (JF a1) fun (y2 : Bool) =>
   bif !(y2) then
    some ([])
   else
    Option.bind (Z4 g0 a2) fun (y3 : Bool) =>
    bif !(y3) then
     some ([])
    else
     Jl g0 n a0 [] a2 (a2.length : Int) 0 a1 := by kernel_rfl
theorem Ht (g0 : (List (List Int))) (n : Nat) (x1 : (List Qj)) (x2 : (List Qd)) (x3 : (List Qd)) (x4 : Int) (x5 : Int) (x6 : Qt) : Jl g0 (n + 1) x1 x2 x3 x4 x5 x6 =
  bif decide (x5 < x4) then
   bif inB x5 x3.length then
    Option.bind (ZH x1 x6 (rd x3 x5 (Ty.dflt Qc))) fun (y4 : Bool) =>
    bif y4 then
     Option.bind (Zl (rd x3 x5 (Ty.dflt Qc))) fun (y5 : Qd) =>
     bif decide (((x2.length : Int) + (([y5] : List Qd).length : Int)) * 264 ≤ QI) && decide ((x2.length : Int) + (([y5] : List Qd).length : Int) ≤ QI) then
      Jl g0 n x1 (x2 ++ ([y5] : List Qd)) x3 x4 (IntKind.wrap .i64 (x5 + 1)) x6
     else none
    else
     Jl g0 n x1 x2 x3 x4 (IntKind.wrap .i64 (x5 + 1)) x6
   else none
  else
   some x2 := by kernel_rfl
theorem Qhy {g0 : (List (List Int))} {x1 : (List Qj)} {x3 : (List Qd)} {x6 : Qt} (hl : x3.length ≤ maxLen) : ∀ (rest : List Qd) (k : Nat) (x2 : (List Qd)) (r : (List Qd)), rest = x3.drop k → QC g0 x1 x6 rest x2 = some r → Ev (fun n => Jl g0 n x1 x2 x3 (x3.length : Int) (k : Int) x6) r := by
 intro rest
 induction rest with
 | nil =>
  intro k x2 r hr h
  have hk := QO hr
  rw [QC] at h
  refine Ev.step ?_ (fun n => Ht g0 n x1 x2 x3 (x3.length : Int) (k : Int) x6)
  rw [show decide ((k : Int) < (x3.length : Int)) = false from decide_eq_false (by omega)]
  exact Ev.neg rfl (Ev.ofSome h)
 | cons e rest ih =>
  intro k x2 r hr h
  obtain ⟨hk, hx, hr2⟩ := QE (d := (Ty.dflt Qc)) hr
  have hw := QA hl hk
  have ih2 : ∀ (z2 : (List Qd)) (r : (List Qd)), QC g0 x1 x6 rest z2 = some r → Ev (fun n => Jl g0 n x1 z2 x3 (x3.length : Int) (IntKind.wrap .i64 ((k : Int) + 1)) x6) r := by
   intro z2 r h; rw [hw]; exact ih (k + 1) z2 r hr2 h
  rw [QC] at h
  refine Ev.step ?_ (fun n => Ht g0 n x1 x2 x3 (x3.length : Int) (k : Int) x6)
  rw [show decide ((k : Int) < (x3.length : Int)) = true from decide_eq_true (by omega), QB hk, hx]
  exact Ev.pos rfl (Ev.pos rfl (Ev.ofBind h fun y4 h => (Ev.ofBif h (fun h => (Ev.ofBind h fun y5 h => (Ev.ofBif h (fun h => (ih2 _ _ h)) (fun h => (Ev.ofNone h))))) (fun h => (ih2 _ _ h)))))
theorem QnW {g0 : (List (List Int))} (a0 : (List Qj)) (a1 : Qt) (a2 : (List Qd)) {r : (List Qd)} (h : QV g0 a0 a1 a2 = some r) : Ev (fun n => Qc6 g0 n a0 a1 a2) r := by
 rw [QV] at h
 refine Ev.of_eq ?_ (fun n => QiS g0 n a0 a1 a2)
 exact (Ev.ofBind h fun y1 h => (Ev.ofBif h (fun h => (Ev.ofSome h)) (fun h => (Ev.ofBind h fun y2 h => (Ev.ofBif h (fun h => (Ev.ofSome h)) (fun h => (Ev.ofBind h fun y3 h => (Ev.ofBif h (fun h => (Ev.ofSome h)) (fun h => (Ev.ofLen h fun hl h => Qhy hl _ (0 : Nat) _ _ rfl h))))))))))
theorem QkC (g0 : (List (List Int))) : ∀ x ∈ He g0, CtrOkG Tryz.prog (Ud [(0, Qq (.list .str) g0)]) x := (Qb QfF.any (Qb Qep.any (Qb (Qa7 g0) (Qb Qeu.any (Qb Qps.any Qi)))))
theorem Qmq (g0 : (List (List Int))) : CtrOkG Tryz.prog (Ud [(0, Qq (.list .str) g0)]) (HX g0) := by
 refine Qh (c := HX g0) (by kernel_rfl) (by kernel_rfl : Tryz.prog.funcs[21]? = some Tryz.f21) (code := Tryz.f21.body.getD .skip) (by kernel_rfl) (by kernel_rfl) (by kernel_rfl) (A := HY) (I := Hd) (QkC g0) ?_
 rintro ⟨a0, a1, a2, u⟩ y hy
 exact (QnW a0 a1 a2 hy).get
noncomputable def Jm : Ctr := ⟨34, [Qa], [Qa], fun x => toC Qa x.1⟩
def Qp2 : List (List Nat × Ann) := []
def QnX : List (List Nat × Nat) := []
noncomputable def QfU : List Ctr := []
noncomputable def Qp3 (n : Nat) (a0 : Qe) : Option Qe := run Tryz.prog Qp2 QnX (Qn QfU) Tryz.f34 (Tryz.f34.body.getD .skip) (Qp [Qa]) n (Qu [Qa] (a0, ()))
theorem QvT (n : Nat) (a0 : Qe) : Qp3 n a0 =
  some a0 := by kernel_rfl
theorem QzK (hcs : ∀ x ∈ QfU, Qg Tryz.prog x) (h : ∀ (a0 : Qe) y, toC Qa a0 = some y → ∃ n, Qp3 n a0 = some y) : Qg Tryz.prog Jm := by
 refine Qh (c := Jm) (by kernel_rfl) (by kernel_rfl : Tryz.prog.funcs[34]? = some Tryz.f34) (code := Tryz.f34.body.getD .skip) (by kernel_rfl) (by kernel_rfl) (by kernel_rfl) (A := Qp2) (I := QnX) hcs ?_
 rintro ⟨a0, u⟩ y hy
 exact h a0 y hy
theorem QxF : ∀ x ∈ QfU, Qg Tryz.prog x := Qi
theorem Yc : Qg Tryz.prog Jm := QzK QxF fun a0 y hy => by
 obtain ⟨hw, hs, rfl⟩ := Uc hy
 have hw2 : wfD I64 y.1 ∧ wfD I64 y.2.1 ∧ wfD .str y.2.2.1 ∧ wfD .str y.2.2.2 := hw
 have hs2 : Ty.size I64 y.1 + (Ty.size I64 y.2.1 + (Ty.size .str y.2.2.1 + (Ty.size .str y.2.2.2))) ≤ 1073741824 := hs
 refine ⟨0, ?_⟩
 rw [QvT]
 try rfl
noncomputable def HZ : Ctr := ⟨71, [(.list Qa)], [(.list Qa)], fun x => toC (.list Qa) x.1⟩
def QfV : List (List Nat × Ann) := [([0, 3], [.keep 0 0, .keep 0 3, .keep 0 4, .rows 0 7 Qa])]
def QdI : List (List Nat × Nat) := []
noncomputable def Wt : List Ctr := [Jm]
noncomputable def QnY (n : Nat) (a0 : (List Qe)) : Option (List Qe) := run Tryz.prog QfV QdI (Qn Wt) Tryz.f71 (Tryz.f71.body.getD .skip) (Qp [(.list Qa)]) n (Qu [(.list Qa)] (a0, ()))
noncomputable abbrev W0 (n : Nat) (x1 : (List Qe)) (x2 : Int) (x3 : (List Qe)) : Option (List Qe) := lam Tryz.prog QfV QdI (Qn Wt) Tryz.f71 (Tryz.f71.body.getD .skip) (Qp [(.list Qa)]) n [0, 3] [.d (.list Qa) x1, .msl 0 7, .d I64 x2, .d (.list Qa) x3]
theorem QtF (n : Nat) (a0 : (List Qe)) : QnY n a0 =
  bif decide ((a0.length : Int) = (a0.length : Int)) && decide ((0 : Int) ≤ (a0.length : Int)) && decide ((a0.length : Int) * 48 ≤ QI) && true then
   W0 n a0 0 (List.replicate (Int.toNat (a0.length : Int)) (0, 0, ([] : List Int), ([] : List Int)))
  else none := by kernel_rfl
theorem Qmr (n : Nat) (x1 : (List Qe)) (x2 : Int) (x3 : (List Qe)) : W0 (n + 1) x1 x2 x3 =
  bif decide (x2 < (x1.length : Int)) then
   bif inB x2 x1.length then
    Option.bind (toC Qa (rd x1 x2 (Ty.dflt Qa))) fun (y1 : Qe) =>
    bif inB x2 x3.length then
     bif inB x2 x3.length && true && true && true && true then
      W0 n x1 (IntKind.wrap .i64 (x2 + 1)) (x3.set (Int.toNat x2) y1)
     else none
    else none
   else none
  else
   some x3 := by kernel_rfl
theorem QxG (hcs : ∀ x ∈ Wt, Qg Tryz.prog x) (h : ∀ (a0 : (List Qe)) y, toC (.list Qa) a0 = some y → ∃ n, QnY n a0 = some y) : Qg Tryz.prog HZ := by
 refine Qh (c := HZ) (by kernel_rfl) (by kernel_rfl : Tryz.prog.funcs[71]? = some Tryz.f71) (code := Tryz.f71.body.getD .skip) (by kernel_rfl) (by kernel_rfl) (by kernel_rfl) (A := QfV) (I := QdI) hcs ?_
 rintro ⟨a0, u⟩ y hy
 exact h a0 y hy
theorem QvU : ∀ x ∈ Wt, Qg Tryz.prog x := (Qb Yc Qi)
theorem Qlw : Qg Tryz.prog HZ := QxG QvU fun a0 y hy => by
 obtain ⟨n, hn⟩ := Qva (t := Qa) (f := toC Qa) (fun x h h2 => QD h h2) (by_ := 48) (by omega) (fun n xs i out => Qmr n xs i out) hy
 exact ⟨n, (QtF n a0).trans hn⟩
noncomputable def VW : Ctr := ⟨35, [(.list .str)], [(.list .str)], fun x => toC (.list .str) x.1⟩
def QbZ : List (List Nat × Ann) := [([0, 3], [.keep 0 0, .keep 0 3, .keep 0 4, .rows 0 7 .str])]
def Qan : List (List Nat × Nat) := []
noncomputable def Hu : List Ctr := []
noncomputable def QiT (n : Nat) (a0 : (List (List Int))) : Option (List (List Int)) := run Tryz.prog QbZ Qan (Qn Hu) Tryz.f35 (Tryz.f35.body.getD .skip) (Qp [(.list .str)]) n (Qu [(.list .str)] (a0, ()))
noncomputable abbrev H0 (n : Nat) (x1 : (List (List Int))) (x2 : Int) (x3 : (List (List Int))) : Option (List (List Int)) := lam Tryz.prog QbZ Qan (Qn Hu) Tryz.f35 (Tryz.f35.body.getD .skip) (Qp [(.list .str)]) n [0, 3] [.d (.list .str) x1, .msl 0 7, .d I64 x2, .d (.list .str) x3]
theorem Qpt (n : Nat) (a0 : (List (List Int))) : QiT n a0 =
  bif decide ((a0.length : Int) = (a0.length : Int)) && decide ((0 : Int) ≤ (a0.length : Int)) && decide ((a0.length : Int) * 16 ≤ QI) && true then
   H0 n a0 0 (List.replicate (Int.toNat (a0.length : Int)) ([] : List Int))
  else none := by kernel_rfl
theorem QiU (n : Nat) (x1 : (List (List Int))) (x2 : Int) (x3 : (List (List Int))) : H0 (n + 1) x1 x2 x3 =
  bif decide (x2 < (x1.length : Int)) then
   bif inB x2 x1.length then
    bif inB x2 x3.length then
     bif inB x2 x3.length && true && true && true && true then
      H0 n x1 (IntKind.wrap .i64 (x2 + 1)) (x3.set (Int.toNat x2) (rd x1 x2 (Ty.dflt .str)))
     else none
    else none
   else none
  else
   some x3 := by kernel_rfl
theorem QtG (hcs : ∀ x ∈ Hu, Qg Tryz.prog x) (h : ∀ (a0 : (List (List Int))) y, toC (.list .str) a0 = some y → ∃ n, QiT n a0 = some y) : Qg Tryz.prog VW := by
 refine Qh (c := VW) (by kernel_rfl) (by kernel_rfl : Tryz.prog.funcs[35]? = some Tryz.f35) (code := Tryz.f35.body.getD .skip) (by kernel_rfl) (by kernel_rfl) (by kernel_rfl) (A := QbZ) (I := Qan) hcs ?_
 rintro ⟨a0, u⟩ y hy
 exact h a0 y hy
theorem QrF : ∀ x ∈ Hu, Qg Tryz.prog x := Qi
theorem Qao : Qg Tryz.prog VW := QtG QrF fun a0 y hy => by
 obtain ⟨n, hn⟩ := Qva (t := .str) (f := fun x => some x) (fun x _ _ => rfl) (by_ := 16) (by omega) (fun n xs i out => QiU n xs i out) hy
 exact ⟨n, (Qpt n a0).trans hn⟩
noncomputable def Qap : Ctr := ⟨72, [Qm], [Qm], fun x => toC Qm x.1⟩
def QnZ : List (List Nat × Ann) := []
def Qlx : List (List Nat × Nat) := []
noncomputable def QdJ : List Ctr := [Jm, HZ, VW]
noncomputable def Qn0 (n : Nat) (a0 : Qz) : Option Qz := run Tryz.prog QnZ Qlx (Qn QdJ) Tryz.f72 (Tryz.f72.body.getD .skip) (Qp [Qm]) n (Qu [Qm] (a0, ()))
theorem QtH (n : Nat) (a0 : Qz) : Qn0 n a0 =
  Option.bind (toC Qa a0.2.1) fun (y1 : Qe) =>
  Option.bind (toC (.list Qa) a0.2.2.1) fun (y2 : (List Qe)) =>
  Option.bind (toC (.list .str) a0.2.2.2) fun (y3 : (List (List Int))) =>
  some (a0.1, y1, y2, y3) := by kernel_rfl
theorem QxH (hcs : ∀ x ∈ QdJ, Qg Tryz.prog x) (h : ∀ (a0 : Qz) y, toC Qm a0 = some y → ∃ n, Qn0 n a0 = some y) : Qg Tryz.prog Qap := by
 refine Qh (c := Qap) (by kernel_rfl) (by kernel_rfl : Tryz.prog.funcs[72]? = some Tryz.f72) (code := Tryz.f72.body.getD .skip) (by kernel_rfl) (by kernel_rfl) (by kernel_rfl) (A := QnZ) (I := Qlx) hcs ?_
 rintro ⟨a0, u⟩ y hy
 exact h a0 y hy
theorem QvV : ∀ x ∈ QdJ, Qg Tryz.prog x := (Qb Yc (Qb Qlw (Qb Qao Qi)))
theorem QxI : Qg Tryz.prog Qap := QxH QvV fun a0 y hy => by
 obtain ⟨hw, hs, rfl⟩ := Uc hy
 have hw2 : wfD I64 y.1 ∧ wfD Qa y.2.1 ∧ wfD (.list Qa) y.2.2.1 ∧ wfD (.list .str) y.2.2.2 := hw
 have hs2 : Ty.size I64 y.1 + (Ty.size Qa y.2.1 + (Ty.size (.list Qa) y.2.2.1 + (Ty.size (.list .str) y.2.2.2))) ≤ 1073741824 := hs
 refine ⟨0, ?_⟩
 rw [QtH]
 try (rw [QD hw2.2.1 (by omega)]; simp only [Option.bind_some])
 try (rw [QD hw2.2.2.1 (by omega)]; simp only [Option.bind_some])
 try (rw [QD hw2.2.2.2 (by omega)]; simp only [Option.bind_some])
 try rfl
noncomputable def XW : Ctr := ⟨36, [(.list Qm)], [(.list Qm)], fun x => toC (.list Qm) x.1⟩
def QdK : List (List Nat × Ann) := [([0, 3], [.keep 0 0, .keep 0 3, .keep 0 4, .rows 0 7 Qm])]
def Qb0 : List (List Nat × Nat) := []
noncomputable def Ut : List Ctr := [Qap]
noncomputable def Qly (n : Nat) (a0 : (List Qz)) : Option (List Qz) := run Tryz.prog QdK Qb0 (Qn Ut) Tryz.f36 (Tryz.f36.body.getD .skip) (Qp [(.list Qm)]) n (Qu [(.list Qm)] (a0, ()))
noncomputable abbrev UO (n : Nat) (x1 : (List Qz)) (x2 : Int) (x3 : (List Qz)) : Option (List Qz) := lam Tryz.prog QdK Qb0 (Qn Ut) Tryz.f36 (Tryz.f36.body.getD .skip) (Qp [(.list Qm)]) n [0, 3] [.d (.list Qm) x1, .msl 0 7, .d I64 x2, .d (.list Qm) x3]
theorem QrG (n : Nat) (a0 : (List Qz)) : Qly n a0 =
  bif decide ((a0.length : Int) = (a0.length : Int)) && decide ((0 : Int) ≤ (a0.length : Int)) && decide ((a0.length : Int) * 104 ≤ QI) && true then
   UO n a0 0 (List.replicate (Int.toNat (a0.length : Int)) (0, (0, 0, ([] : List Int), ([] : List Int)), [], []))
  else none := by kernel_rfl
theorem QkD (n : Nat) (x1 : (List Qz)) (x2 : Int) (x3 : (List Qz)) : UO (n + 1) x1 x2 x3 =
  bif decide (x2 < (x1.length : Int)) then
   bif inB x2 x1.length then
    Option.bind (toC Qm (rd x1 x2 (Ty.dflt Qm))) fun (y1 : Qz) =>
    bif inB x2 x3.length then
     bif inB x2 x3.length && true && true && true && true then
      UO n x1 (IntKind.wrap .i64 (x2 + 1)) (x3.set (Int.toNat x2) y1)
     else none
    else none
   else none
  else
   some x3 := by kernel_rfl
theorem QvW (hcs : ∀ x ∈ Ut, Qg Tryz.prog x) (h : ∀ (a0 : (List Qz)) y, toC (.list Qm) a0 = some y → ∃ n, Qly n a0 = some y) : Qg Tryz.prog XW := by
 refine Qh (c := XW) (by kernel_rfl) (by kernel_rfl : Tryz.prog.funcs[36]? = some Tryz.f36) (code := Tryz.f36.body.getD .skip) (by kernel_rfl) (by kernel_rfl) (by kernel_rfl) (A := QdK) (I := Qb0) hcs ?_
 rintro ⟨a0, u⟩ y hy
 exact h a0 y hy
theorem QtI : ∀ x ∈ Ut, Qg Tryz.prog x := (Qb QxI Qi)
theorem QiV : Qg Tryz.prog XW := QvW QtI fun a0 y hy => by
 obtain ⟨n, hn⟩ := Qva (t := Qm) (f := toC Qm) (fun x h h2 => QD h h2) (by_ := 104) (by omega) (fun n xs i out => QkD n xs i out) hy
 exact ⟨n, (QrG n a0).trans hn⟩
noncomputable def Qaq : Ctr := ⟨33, [Qf], [Qf], fun x => toC Qf x.1⟩
def Qn1 : List (List Nat × Ann) := []
def Qlz : List (List Nat × Nat) := []
noncomputable def QdL : List Ctr := [Jm, HZ, VW, XW]
noncomputable def Qn2 (n : Nat) (a0 : Qj) : Option Qj := run Tryz.prog Qn1 Qlz (Qn QdL) Tryz.f33 (Tryz.f33.body.getD .skip) (Qp [Qf]) n (Qu [Qf] (a0, ()))
theorem QtJ (n : Nat) (a0 : Qj) : Qn2 n a0 =
  Option.bind (toC Qa a0.1) fun (y1 : Qe) =>
  Option.bind (toC (.list Qa) a0.2.1) fun (y2 : (List Qe)) =>
  Option.bind (toC (.list .str) a0.2.2.1) fun (y3 : (List (List Int))) =>
  Option.bind (toC (.list Qm) a0.2.2.2) fun (y4 : (List Qz)) =>
  some (y1, y2, y3, y4) := by kernel_rfl
theorem QxJ (hcs : ∀ x ∈ QdL, Qg Tryz.prog x) (h : ∀ (a0 : Qj) y, toC Qf a0 = some y → ∃ n, Qn2 n a0 = some y) : Qg Tryz.prog Qaq := by
 refine Qh (c := Qaq) (by kernel_rfl) (by kernel_rfl : Tryz.prog.funcs[33]? = some Tryz.f33) (code := Tryz.f33.body.getD .skip) (by kernel_rfl) (by kernel_rfl) (by kernel_rfl) (A := Qn1) (I := Qlz) hcs ?_
 rintro ⟨a0, u⟩ y hy
 exact h a0 y hy
theorem QvX : ∀ x ∈ QdL, Qg Tryz.prog x := (Qb Yc (Qb Qlw (Qb Qao (Qb QiV Qi))))
theorem QxK : Qg Tryz.prog Qaq := QxJ QvX fun a0 y hy => by
 obtain ⟨hw, hs, rfl⟩ := Uc hy
 have hw2 : wfD Qa y.1 ∧ wfD (.list Qa) y.2.1 ∧ wfD (.list .str) y.2.2.1 ∧ wfD (.list Qm) y.2.2.2 := hw
 have hs2 : Ty.size Qa y.1 + (Ty.size (.list Qa) y.2.1 + (Ty.size (.list .str) y.2.2.1 + (Ty.size (.list Qm) y.2.2.2))) ≤ 1073741824 := hs
 refine ⟨0, ?_⟩
 rw [QtJ]
 try (rw [QD hw2.1 (by omega)]; simp only [Option.bind_some])
 try (rw [QD hw2.2.1 (by omega)]; simp only [Option.bind_some])
 try (rw [QD hw2.2.2.1 (by omega)]; simp only [Option.bind_some])
 try (rw [QD hw2.2.2.2 (by omega)]; simp only [Option.bind_some])
 try rfl
noncomputable def Wu : Ctr := ⟨9, [(.list Qf)], [(.list Qf)], fun x => toC (.list Qf) x.1⟩
def QdM : List (List Nat × Ann) := [([0, 3], [.keep 0 0, .keep 0 3, .keep 0 4, .rows 0 7 Qf])]
def Qb1 : List (List Nat × Nat) := []
noncomputable def Uu : List Ctr := [Qaq]
noncomputable def QlA (n : Nat) (a0 : (List Qj)) : Option (List Qj) := run Tryz.prog QdM Qb1 (Qn Uu) Tryz.f9 (Tryz.f9.body.getD .skip) (Qp [(.list Qf)]) n (Qu [(.list Qf)] (a0, ()))
noncomputable abbrev UP (n : Nat) (x1 : (List Qj)) (x2 : Int) (x3 : (List Qj)) : Option (List Qj) := lam Tryz.prog QdM Qb1 (Qn Uu) Tryz.f9 (Tryz.f9.body.getD .skip) (Qp [(.list Qf)]) n [0, 3] [.d (.list Qf) x1, .msl 0 7, .d I64 x2, .d (.list Qf) x3]
theorem QrH (n : Nat) (a0 : (List Qj)) : QlA n a0 =
  bif decide ((a0.length : Int) = (a0.length : Int)) && decide ((0 : Int) ≤ (a0.length : Int)) && decide ((a0.length : Int) * 120 ≤ QI) && true then
   UP n a0 0 (List.replicate (Int.toNat (a0.length : Int)) ((0, 0, ([] : List Int), ([] : List Int)), [], [], []))
  else none := by kernel_rfl
theorem QkE (n : Nat) (x1 : (List Qj)) (x2 : Int) (x3 : (List Qj)) : UP (n + 1) x1 x2 x3 =
  bif decide (x2 < (x1.length : Int)) then
   bif inB x2 x1.length then
    Option.bind (toC Qf (((rd x1 x2 (Ty.dflt Qf)).1), ((rd x1 x2 (Ty.dflt Qf)).2))) fun (y1 : Qj) =>
    bif inB x2 x3.length then
     bif inB x2 x3.length && true && true && true && true then
      UP n x1 (IntKind.wrap .i64 (x2 + 1)) (x3.set (Int.toNat x2) y1)
     else none
    else none
   else none
  else
   some x3 := by kernel_rfl
theorem QvY (hcs : ∀ x ∈ Uu, Qg Tryz.prog x) (h : ∀ (a0 : (List Qj)) y, toC (.list Qf) a0 = some y → ∃ n, QlA n a0 = some y) : Qg Tryz.prog Wu := by
 refine Qh (c := Wu) (by kernel_rfl) (by kernel_rfl : Tryz.prog.funcs[9]? = some Tryz.f9) (code := Tryz.f9.body.getD .skip) (by kernel_rfl) (by kernel_rfl) (by kernel_rfl) (A := QdM) (I := Qb1) hcs ?_
 rintro ⟨a0, u⟩ y hy
 exact h a0 y hy
theorem QtK : ∀ x ∈ Uu, Qg Tryz.prog x := (Qb QxK Qi)
theorem QvZ : Qg Tryz.prog Wu := QvY QtK fun a0 y hy => by
 obtain ⟨n, hn⟩ := Qva (t := Qf) (f := toC Qf) (fun x h h2 => QD h h2) (by_ := 120) (by omega) (fun n xs i out => QkE n xs i out) hy
 exact ⟨n, (QrH n a0).trans hn⟩
noncomputable def QdN : Ctr := HG 71 [(.list Qa)] [(.list Qa)] fun x => toC (.list Qa) x.1
def QdO : List (List Nat × Ann) := [([0, 3], [.keep 0 0, .drb 0 3 Qa, .keep 0 4])]
def Qb2 : List (List Nat × Nat) := [([1002], 0)]
noncomputable def Qb3 : List Ctr := [Jm]
noncomputable def QxL (n : Nat) (a0 : (List Qe)) : Option (List Qe) := Er Tryz.prog noG QdO Qb2 (Qn Qb3) Tryz.f71 (Tryz.f71.body.getD .skip) (Qbf Tryz.prog Tryz.f71 [(.list Qa)]) n (Qu [(.list Qa)] (a0, ()))
noncomputable abbrev G2 (n : Nat) (x1 : (List Qe)) (x2 : (List Qe)) (x3 : Int) : Option (List Qe) := Qhf Tryz.prog noG QdO Qb2 (Qn Qb3) Tryz.f71 (Tryz.f71.body.getD .skip) (Qbf Tryz.prog Tryz.f71 [(.list Qa)]) n [0, 3] [.d (.list Qa) x1, .d (.list Qa) x2, .d I64 x3]
theorem QrI (n : Nat) (a0 : (List Qe)) : QxL n a0 =
  bif decide ((a0.length : Int) = (a0.length : Int)) && decide ((0 : Int) ≤ (a0.length : Int)) && decide ((a0.length : Int) * 48 ≤ QI) && true && true && true then
   G2 n a0 (List.replicate (Int.toNat (a0.length : Int)) (0, 0, ([] : List Int), ([] : List Int))) 0
  else none := by kernel_rfl
theorem QkF (n : Nat) (x1 : (List Qe)) (x2 : (List Qe)) (x3 : Int) : G2 (n + 1) x1 x2 x3 =
  bif decide (x3 < (x1.length : Int)) then
   bif inB x3 x1.length then
    Option.bind (toC Qa (rd x1 x3 (Ty.dflt Qa))) fun (y1 : Qe) =>
    bif inB x3 x2.length then
     bif inB x3 x2.length && true && true && true && true && true && true then
      G2 n x1 (x2.set (Int.toNat x3) y1) (IntKind.wrap .i64 (x3 + 1))
     else none
    else none
   else none
  else
   some x2 := by kernel_rfl
theorem QtL : ∀ x ∈ Qb3, Qg Tryz.prog x := (Qb Yc Qi)
theorem QiW : Qg Tryz.prog QdN := by
 refine YM (by kernel_rfl) (by kernel_rfl : Tryz.prog.funcs[71]? = some Tryz.f71) (code := Tryz.f71.body.getD .skip) (by kernel_rfl) (by kernel_rfl) (A := QdO) (I := Qb2) QtL ?_
 rintro ⟨a0, u⟩ y hy
 obtain ⟨n, hn⟩ := Qve (t := Qa) (f := toC Qa) (fun x h h2 => QD h h2) (L := fun n xs i out => G2 n xs out i) (by_ := 48) (by omega) (fun n xs i out => QkF n xs out i) hy
 exact ⟨n, (QrI n a0).trans hn⟩
noncomputable def Hv : Ctr := HG 35 [(.list .str)] [(.list .str)] fun x => toC (.list .str) x.1
def Qar : List (List Nat × Ann) := [([0, 3], [.keep 0 0, .drb 0 3 .str, .keep 0 4])]
def W1 : List (List Nat × Nat) := [([1002], 0)]
noncomputable def W2 : List Ctr := []
noncomputable def QtM (n : Nat) (a0 : (List (List Int))) : Option (List (List Int)) := Er Tryz.prog noG Qar W1 (Qn W2) Tryz.f35 (Tryz.f35.body.getD .skip) (Qbf Tryz.prog Tryz.f35 [(.list .str)]) n (Qu [(.list .str)] (a0, ()))
noncomputable abbrev Gb (n : Nat) (x1 : (List (List Int))) (x2 : (List (List Int))) (x3 : Int) : Option (List (List Int)) := Qhf Tryz.prog noG Qar W1 (Qn W2) Tryz.f35 (Tryz.f35.body.getD .skip) (Qbf Tryz.prog Tryz.f35 [(.list .str)]) n [0, 3] [.d (.list .str) x1, .d (.list .str) x2, .d I64 x3]
theorem Qn3 (n : Nat) (a0 : (List (List Int))) : QtM n a0 =
  bif decide ((a0.length : Int) = (a0.length : Int)) && decide ((0 : Int) ≤ (a0.length : Int)) && decide ((a0.length : Int) * 16 ≤ QI) && true && true && true then
   Gb n a0 (List.replicate (Int.toNat (a0.length : Int)) ([] : List Int)) 0
  else none := by kernel_rfl
theorem Qhz (n : Nat) (x1 : (List (List Int))) (x2 : (List (List Int))) (x3 : Int) : Gb (n + 1) x1 x2 x3 =
  bif decide (x3 < (x1.length : Int)) then
   bif inB x3 x1.length then
    bif inB x3 x2.length then
     bif inB x3 x2.length && true && true && true && true && true && true then
      Gb n x1 (x2.set (Int.toNat x3) (rd x1 x3 (Ty.dflt .str))) (IntKind.wrap .i64 (x3 + 1))
     else none
    else none
   else none
  else
   some x2 := by kernel_rfl
theorem Qpu : ∀ x ∈ W2, Qg Tryz.prog x := Qi
theorem W3 : Qg Tryz.prog Hv := by
 refine YM (by kernel_rfl) (by kernel_rfl : Tryz.prog.funcs[35]? = some Tryz.f35) (code := Tryz.f35.body.getD .skip) (by kernel_rfl) (by kernel_rfl) (A := Qar) (I := W1) Qpu ?_
 rintro ⟨a0, u⟩ y hy
 obtain ⟨n, hn⟩ := Qve (t := .str) (f := fun x => some x) (fun x _ _ => rfl) (L := fun n xs i out => Gb n xs out i) (by_ := 16) (by omega) (fun n xs i out => Qhz n xs out i) hy
 exact ⟨n, (Qn3 n a0).trans hn⟩
noncomputable def QlB : Ctr := HG 72 [Qm] [Qm] fun x => toC Qm x.1
def QlC : List (List Nat × Ann) := []
def QiX : List (List Nat × Nat) := [([4002], 2000071), ([5002], 2000035)]
noncomputable def QiY : List Ctr := [Jm, QdN, Hv]
noncomputable def QlD (n : Nat) (a0 : Qz) : Option Qz := Er Tryz.prog noG QlC QiX (Qn QiY) Tryz.f72 (Tryz.f72.body.getD .skip) (Qbf Tryz.prog Tryz.f72 [Qm]) n (Qu [Qm] (a0, ()))
theorem QrJ (n : Nat) (a0 : Qz) : QlD n a0 =
  Option.bind (toC Qa a0.2.1) fun (y1 : Qe) =>
  Option.bind (toC (.list Qa) a0.2.2.1) fun (y2 : (List Qe)) =>
  Option.bind (toC (.list .str) a0.2.2.2) fun (y3 : (List (List Int))) =>
  some (a0.1, y1, y2, y3) := by kernel_rfl
theorem QtN : ∀ x ∈ QiY, Qg Tryz.prog x := (Qb Yc (Qb QiW (Qb W3 Qi)))
theorem Qv0 : Qg Tryz.prog QlB := by
 refine YM (by kernel_rfl) (by kernel_rfl : Tryz.prog.funcs[72]? = some Tryz.f72) (code := Tryz.f72.body.getD .skip) (by kernel_rfl) (by kernel_rfl) (A := QlC) (I := QiX) QtN ?_
 rintro ⟨a0, u⟩ y hy
 obtain ⟨hw, hs, rfl⟩ := Uc hy
 have hw2 : wfD I64 y.1 ∧ wfD Qa y.2.1 ∧ wfD (.list Qa) y.2.2.1 ∧ wfD (.list .str) y.2.2.2 := hw
 have hs2 : Ty.size I64 y.1 + (Ty.size Qa y.2.1 + (Ty.size (.list Qa) y.2.2.1 + (Ty.size (.list .str) y.2.2.2))) ≤ 1073741824 := hs
 refine ⟨0, ?_⟩
 show QlD 0 y = some y
 rw [QrJ]
 try (rw [QD hw2.2.1 (by omega)]; simp only [Option.bind_some])
 try (rw [QD hw2.2.2.1 (by omega)]; simp only [Option.bind_some])
 try (rw [QD hw2.2.2.2 (by omega)]; simp only [Option.bind_some])
 try rfl
noncomputable def Qb4 : Ctr := HG 36 [(.list Qm)] [(.list Qm)] fun x => toC (.list Qm) x.1
def Qb5 : List (List Nat × Ann) := [([0, 3], [.keep 0 0, .drb 0 3 Qm, .keep 0 4])]
def Qas : List (List Nat × Nat) := [([1002], 0), ([5006], 2000072)]
noncomputable def Qat : List Ctr := [QlB]
noncomputable def Qv1 (n : Nat) (a0 : (List Qz)) : Option (List Qz) := Er Tryz.prog noG Qb5 Qas (Qn Qat) Tryz.f36 (Tryz.f36.body.getD .skip) (Qbf Tryz.prog Tryz.f36 [(.list Qm)]) n (Qu [(.list Qm)] (a0, ()))
noncomputable abbrev GK (n : Nat) (x1 : (List Qz)) (x2 : (List Qz)) (x3 : Int) : Option (List Qz) := Qhf Tryz.prog noG Qb5 Qas (Qn Qat) Tryz.f36 (Tryz.f36.body.getD .skip) (Qbf Tryz.prog Tryz.f36 [(.list Qm)]) n [0, 3] [.d (.list Qm) x1, .d (.list Qm) x2, .d I64 x3]
theorem Qpv (n : Nat) (a0 : (List Qz)) : Qv1 n a0 =
  bif decide ((a0.length : Int) = (a0.length : Int)) && decide ((0 : Int) ≤ (a0.length : Int)) && decide ((a0.length : Int) * 104 ≤ QI) && true && true && true then
   GK n a0 (List.replicate (Int.toNat (a0.length : Int)) (0, (0, 0, ([] : List Int), ([] : List Int)), [], [])) 0
  else none := by kernel_rfl
theorem QiZ (n : Nat) (x1 : (List Qz)) (x2 : (List Qz)) (x3 : Int) : GK (n + 1) x1 x2 x3 =
  bif decide (x3 < (x1.length : Int)) then
   bif inB x3 x1.length then
    Option.bind (toC Qm (rd x1 x3 (Ty.dflt Qm))) fun (y1 : Qz) =>
    bif inB x3 x2.length then
     bif inB x3 x2.length && true && true && true && true && true && true then
      GK n x1 (x2.set (Int.toNat x3) y1) (IntKind.wrap .i64 (x3 + 1))
     else none
    else none
   else none
  else
   some x2 := by kernel_rfl
theorem QrK : ∀ x ∈ Qat, Qg Tryz.prog x := (Qb Qv0 Qi)
theorem QgX : Qg Tryz.prog Qb4 := by
 refine YM (by kernel_rfl) (by kernel_rfl : Tryz.prog.funcs[36]? = some Tryz.f36) (code := Tryz.f36.body.getD .skip) (by kernel_rfl) (by kernel_rfl) (A := Qb5) (I := Qas) QrK ?_
 rintro ⟨a0, u⟩ y hy
 obtain ⟨n, hn⟩ := Qve (t := Qm) (f := toC Qm) (fun x h h2 => QD h h2) (L := fun n xs i out => GK n xs out i) (by_ := 104) (by omega) (fun n xs i out => QiZ n xs out i) hy
 exact ⟨n, (Qpv n a0).trans hn⟩
noncomputable def QlE : Ctr := HG 33 [Qf] [Qf] fun x => toC Qf x.1
def QlF : List (List Nat × Ann) := []
def Qi0 : List (List Nat × Nat) := [([3002], 2000071), ([4002], 2000035), ([5002], 2000036)]
noncomputable def Qi1 : List Ctr := [Jm, QdN, Hv, Qb4]
noncomputable def QlG (n : Nat) (a0 : Qj) : Option Qj := Er Tryz.prog noG QlF Qi0 (Qn Qi1) Tryz.f33 (Tryz.f33.body.getD .skip) (Qbf Tryz.prog Tryz.f33 [Qf]) n (Qu [Qf] (a0, ()))
theorem QrL (n : Nat) (a0 : Qj) : QlG n a0 =
  Option.bind (toC Qa a0.1) fun (y1 : Qe) =>
  Option.bind (toC (.list Qa) a0.2.1) fun (y2 : (List Qe)) =>
  Option.bind (toC (.list .str) a0.2.2.1) fun (y3 : (List (List Int))) =>
  Option.bind (toC (.list Qm) a0.2.2.2) fun (y4 : (List Qz)) =>
  some (y1, y2, y3, y4) := by kernel_rfl
theorem QtO : ∀ x ∈ Qi1, Qg Tryz.prog x := (Qb Yc (Qb QiW (Qb W3 (Qb QgX Qi))))
theorem Qv2 : Qg Tryz.prog QlE := by
 refine YM (by kernel_rfl) (by kernel_rfl : Tryz.prog.funcs[33]? = some Tryz.f33) (code := Tryz.f33.body.getD .skip) (by kernel_rfl) (by kernel_rfl) (A := QlF) (I := Qi0) QtO ?_
 rintro ⟨a0, u⟩ y hy
 obtain ⟨hw, hs, rfl⟩ := Uc hy
 have hw2 : wfD Qa y.1 ∧ wfD (.list Qa) y.2.1 ∧ wfD (.list .str) y.2.2.1 ∧ wfD (.list Qm) y.2.2.2 := hw
 have hs2 : Ty.size Qa y.1 + (Ty.size (.list Qa) y.2.1 + (Ty.size (.list .str) y.2.2.1 + (Ty.size (.list Qm) y.2.2.2))) ≤ 1073741824 := hs
 refine ⟨0, ?_⟩
 show QlG 0 y = some y
 rw [QrL]
 try (rw [QD hw2.1 (by omega)]; simp only [Option.bind_some])
 try (rw [QD hw2.2.1 (by omega)]; simp only [Option.bind_some])
 try (rw [QD hw2.2.2.1 (by omega)]; simp only [Option.bind_some])
 try (rw [QD hw2.2.2.2 (by omega)]; simp only [Option.bind_some])
 try rfl
noncomputable def Qi2 : Ctr := HG 9 [(.list Qf)] [(.list Qf)] fun x => toC (.list Qf) x.1
def Qb6 : List (List Nat × Ann) := [([0, 3], [.keep 0 0, .drb 0 3 Qf, .keep 0 4])]
def Qau : List (List Nat × Nat) := [([1002], 0), ([5006], 2000033)]
noncomputable def Qav : List Ctr := [QlE]
noncomputable def Qv3 (n : Nat) (a0 : (List Qj)) : Option (List Qj) := Er Tryz.prog noG Qb6 Qau (Qn Qav) Tryz.f9 (Tryz.f9.body.getD .skip) (Qbf Tryz.prog Tryz.f9 [(.list Qf)]) n (Qu [(.list Qf)] (a0, ()))
noncomputable abbrev GL (n : Nat) (x1 : (List Qj)) (x2 : (List Qj)) (x3 : Int) : Option (List Qj) := Qhf Tryz.prog noG Qb6 Qau (Qn Qav) Tryz.f9 (Tryz.f9.body.getD .skip) (Qbf Tryz.prog Tryz.f9 [(.list Qf)]) n [0, 3] [.d (.list Qf) x1, .d (.list Qf) x2, .d I64 x3]
theorem Qpw (n : Nat) (a0 : (List Qj)) : Qv3 n a0 =
  bif decide ((a0.length : Int) = (a0.length : Int)) && decide ((0 : Int) ≤ (a0.length : Int)) && decide ((a0.length : Int) * 120 ≤ QI) && true && true && true then
   GL n a0 (List.replicate (Int.toNat (a0.length : Int)) ((0, 0, ([] : List Int), ([] : List Int)), [], [], [])) 0
  else none := by kernel_rfl
theorem Qi3 (n : Nat) (x1 : (List Qj)) (x2 : (List Qj)) (x3 : Int) : GL (n + 1) x1 x2 x3 =
  bif decide (x3 < (x1.length : Int)) then
   bif inB x3 x1.length then
    Option.bind (toC Qf (((rd x1 x3 (Ty.dflt Qf)).1), ((rd x1 x3 (Ty.dflt Qf)).2))) fun (y1 : Qj) =>
    bif inB x3 x2.length then
     bif inB x3 x2.length && true && true && true && true && true && true then
      GL n x1 (x2.set (Int.toNat x3) y1) (IntKind.wrap .i64 (x3 + 1))
     else none
    else none
   else none
  else
   some x2 := by kernel_rfl
theorem QrM : ∀ x ∈ Qav, Qg Tryz.prog x := (Qb Qv2 Qi)
theorem QtP : Qg Tryz.prog Qi2 := by
 refine YM (by kernel_rfl) (by kernel_rfl : Tryz.prog.funcs[9]? = some Tryz.f9) (code := Tryz.f9.body.getD .skip) (by kernel_rfl) (by kernel_rfl) (A := Qb6) (I := Qau) QrM ?_
 rintro ⟨a0, u⟩ y hy
 obtain ⟨n, hn⟩ := Qve (t := Qf) (f := toC Qf) (fun x h h2 => QD h h2) (L := fun n xs i out => GL n xs out i) (by_ := 120) (by omega) (fun n xs i out => Qi3 n xs out i) hy
 exact ⟨n, (Qpw n a0).trans hn⟩
noncomputable def QB2 : Ctr := QA7 94 [(.list Ql)] Ql fun x => YO x.1
def QtQ : List (List Nat × Ann) := []
def Qp4 : List (List Nat × Nat) := []
noncomputable def Qp5 : List Ctr := []
noncomputable def QtR (n : Nat) (a0 : (List Qo)) : Option (List Qo) := Er Tryz.prog noG QtQ Qp4 (Qn Qp5) Tryz.f94 (Tryz.f94.body.getD .skip) (QBn Tryz.prog Tryz.f94 Ql) n (Qu [(.list Ql)] (a0, ()))
theorem QxM (n : Nat) (a0 : (List Qo)) : QtR n a0 =
  bif decide (0 < a0.length) then
   bif decide (((([] : List Qo).length : Int) + (a0.length : Int)) * 80 ≤ QI) && decide ((([] : List Qo).length : Int) + (a0.length : Int) ≤ QI) then
    some (([] : List Qo) ++ a0)
   else none
  else
   QuJ
    (some ([]))
    (bif decide (((([] : List Qo).length : Int) + (a0.length : Int)) * 80 ≤ QI) && decide ((([] : List Qo).length : Int) + (a0.length : Int) ≤ QI) then
     some (([] : List Qo) ++ a0)
    else none) := by kernel_rfl
theorem QB3 (a0 : (List Qo)) {r : (List Qo)} (h : YO a0 = some r) : Ev (fun n => QtR n a0) r := by
 rw [YO] at h
 refine Ev.of_eq ?_ (fun n => QxM n a0)
 exact (Ev.ofBif h (fun h => (Ev.ofBif h (fun h => (Ev.ofSome h)) (fun h => (Ev.ofNone h)))) (fun h => (Ev.ofBoth h (fun h => (Ev.ofSome h)) (fun h => (Ev.ofBif h (fun h => (Ev.ofSome h)) (fun h => (Ev.ofNone h)))))))
theorem QzL : ∀ x ∈ Qp5, Qg Tryz.prog x := Qi
theorem QAE : Qg Tryz.prog (QB2) := by
 refine QDA (by kernel_rfl) (by kernel_rfl : Tryz.prog.funcs[94]? = some Tryz.f94) (code := Tryz.f94.body.getD .skip) (by kernel_rfl) (by kernel_rfl) (A := QtQ) (I := Qp4) (QzL) ?_
 rintro ⟨a0, u⟩ y hy
 exact (QB3 a0 hy).get
noncomputable def QtS : Ctr := HG 94 [(.list Ql)] [(.list Ql)] fun x => YO x.1
theorem QAF : Qg Tryz.prog (QtS) := QCB (by kernel_rfl) (by kernel_rfl) QAE
noncomputable def Qex : Ctr := HG 60 [Qc] [Qc] fun x => Zl x.1
def Qey : List (List Nat × Ann) := []
def Qc7 : List (List Nat × Nat) := [([1002], 2000094)]
noncomputable def Qc8 : List Ctr := [QtS]
noncomputable def Qez (n : Nat) (a0 : Qd) : Option Qd := Er Tryz.prog noG Qey Qc7 (Qn Qc8) Tryz.f60 (Tryz.f60.body.getD .skip) (Qbf Tryz.prog Tryz.f60 [Qc]) n (Qu [Qc] (a0, ()))
theorem QkG (n : Nat) (a0 : Qd) : Qez n a0 =
  Option.bind (YO a0.2.2.2.2.2) fun (y1 : (List Qo)) =>
  some (a0.1, a0.2.1, a0.2.2.1, a0.2.2.2.1, a0.2.2.2.2.1, y1) := by kernel_rfl
theorem Qpx (a0 : Qd) {r : Qd} (h : Zl a0 = some r) : Ev (fun n => Qez n a0) r := by
 rw [Zl] at h
 refine Ev.of_eq ?_ (fun n => QkG n a0)
 exact (Ev.ofBind h fun y1 h => (Ev.ofSome h))
theorem Qms : ∀ x ∈ Qc8, Qg Tryz.prog x := (Qb QAF Qi)
theorem Qn4 : Qg Tryz.prog (Qex) := by
 refine YM (by kernel_rfl) (by kernel_rfl : Tryz.prog.funcs[60]? = some Tryz.f60) (code := Tryz.f60.body.getD .skip) (by kernel_rfl) (by kernel_rfl) (A := Qey) (I := Qc7) (Qms) ?_
 rintro ⟨a0, u⟩ y hy
 exact (Qpx a0 hy).get
noncomputable def Qa8 (g0 : (List (List Int))) : Ctr := HG 21 [(.list Qf), Qr, (.list Qc)] [(.list Qc)] fun x => QV g0 x.1 x.2.1 x.2.2.1
def Hf : List (List Nat × Ann) := [([0, 5], [.keep 0 0, .keep 0 4, .drb 0 7 Qc, .keep 0 23, .keep 0 24, .keep 0 25, .boxd 0 4 Qr])]
def XL : List (List Nat × Nat) := [([8002], 2000060), ([8003], 0), ([8004], 0)]
noncomputable def XM (g0 : (List (List Int))) : List Ctr := [Ho, XG, (GJ g0), XK, Qex]
noncomputable def Qa9 (g0 : (List (List Int))) (n : Nat) (a0 : (List Qj)) (a1 : Qt) (a2 : (List Qd)) : Option (List Qd) := Er Tryz.prog (Ud [(0, Qq (.list .str) g0)]) Hf XL (Qn (XM g0)) Tryz.f21 (Tryz.f21.body.getD .skip) (Qbf Tryz.prog Tryz.f21 [(.list Qc)]) n (Qu [(.list Qf), Qr, (.list Qc)] (a0, a1, a2, ()))
noncomputable abbrev Z7 (g0 : (List (List Int))) (n : Nat) (x1 : (List Qj)) (x2 : (List Qd)) (x3 : (List Qd)) (x4 : Int) (x5 : Int) (x6 : Qt) : Option (List Qd) := Qhf Tryz.prog (Ud [(0, Qq (.list .str) g0)]) Hf XL (Qn (XM g0)) Tryz.f21 (Tryz.f21.body.getD .skip) (Qbf Tryz.prog Tryz.f21 [(.list Qc)]) n [0, 5] [.d (.list Qf) x1, .ptr 0 4 0, .d (.list Qc) x2, .d (.list Qc) x3, .d I64 x4, .d I64 x5, .agg (Qq Qr x6)]
theorem QhA (g0 : (List (List Int))) (n : Nat) (a0 : (List Qj)) (a1 : Qt) (a2 : (List Qd)) : Qa9 g0 n a0 a1 a2 =
  Option.bind (J1 a0) fun (y1 : Bool) =>
  bif !(y1) then
   some ([])
  else
   Option.bind (JF a1) fun (y2 : Bool) =>
   bif !(y2) then
    some ([])
   else
    Option.bind (Z4 g0 a2) fun (y3 : Bool) =>
    bif !(y3) then
     some ([])
    else
     Z7 g0 n a0 [] a2 (a2.length : Int) 0 a1 := by kernel_rfl
theorem XX (g0 : (List (List Int))) (n : Nat) (x1 : (List Qj)) (x2 : (List Qd)) (x3 : (List Qd)) (x4 : Int) (x5 : Int) (x6 : Qt) : Z7 g0 (n + 1) x1 x2 x3 x4 x5 x6 =
  bif decide (x5 < x4) then
   bif inB x5 x3.length then
    Option.bind (ZH x1 x6 (rd x3 x5 (Ty.dflt Qc))) fun (y4 : Bool) =>
    bif y4 then
     Option.bind (Zl (rd x3 x5 (Ty.dflt Qc))) fun (y5 : Qd) =>
     bif decide (((x2.length : Int) + (([y5] : List Qd).length : Int)) * 264 ≤ QI) && decide ((x2.length : Int) + (([y5] : List Qd).length : Int) ≤ QI) then
      Z7 g0 n x1 (x2 ++ ([y5] : List Qd)) x3 x4 (IntKind.wrap .i64 (x5 + 1)) x6
     else none
    else
     Z7 g0 n x1 x2 x3 x4 (IntKind.wrap .i64 (x5 + 1)) x6
   else none
  else
   some x2 := by kernel_rfl
theorem Qgu {g0 : (List (List Int))} {x1 : (List Qj)} {x3 : (List Qd)} {x6 : Qt} (hl : x3.length ≤ maxLen) : ∀ (rest : List Qd) (k : Nat) (x2 : (List Qd)) (r : (List Qd)), rest = x3.drop k → QC g0 x1 x6 rest x2 = some r → Ev (fun n => Z7 g0 n x1 x2 x3 (x3.length : Int) (k : Int) x6) r := by
 intro rest
 induction rest with
 | nil =>
  intro k x2 r hr h
  have hk := QO hr
  rw [QC] at h
  refine Ev.step ?_ (fun n => XX g0 n x1 x2 x3 (x3.length : Int) (k : Int) x6)
  rw [show decide ((k : Int) < (x3.length : Int)) = false from decide_eq_false (by omega)]
  exact Ev.neg rfl (Ev.ofSome h)
 | cons e rest ih =>
  intro k x2 r hr h
  obtain ⟨hk, hx, hr2⟩ := QE (d := (Ty.dflt Qc)) hr
  have hw := QA hl hk
  have ih2 : ∀ (z2 : (List Qd)) (r : (List Qd)), QC g0 x1 x6 rest z2 = some r → Ev (fun n => Z7 g0 n x1 z2 x3 (x3.length : Int) (IntKind.wrap .i64 ((k : Int) + 1)) x6) r := by
   intro z2 r h; rw [hw]; exact ih (k + 1) z2 r hr2 h
  rw [QC] at h
  refine Ev.step ?_ (fun n => XX g0 n x1 x2 x3 (x3.length : Int) (k : Int) x6)
  rw [show decide ((k : Int) < (x3.length : Int)) = true from decide_eq_true (by omega), QB hk, hx]
  exact Ev.pos rfl (Ev.pos rfl (Ev.ofBind h fun y4 h => (Ev.ofBif h (fun h => (Ev.ofBind h fun y5 h => (Ev.ofBif h (fun h => (ih2 _ _ h)) (fun h => (Ev.ofNone h))))) (fun h => (ih2 _ _ h)))))
theorem Qmt {g0 : (List (List Int))} (a0 : (List Qj)) (a1 : Qt) (a2 : (List Qd)) {r : (List Qd)} (h : QV g0 a0 a1 a2 = some r) : Ev (fun n => Qa9 g0 n a0 a1 a2) r := by
 rw [QV] at h
 refine Ev.of_eq ?_ (fun n => QhA g0 n a0 a1 a2)
 exact (Ev.ofBind h fun y1 h => (Ev.ofBif h (fun h => (Ev.ofSome h)) (fun h => (Ev.ofBind h fun y2 h => (Ev.ofBif h (fun h => (Ev.ofSome h)) (fun h => (Ev.ofBind h fun y3 h => (Ev.ofBif h (fun h => (Ev.ofSome h)) (fun h => (Ev.ofLen h fun hl h => Qgu hl _ (0 : Nat) _ _ rfl h))))))))))
theorem Qi4 (g0 : (List (List Int))) : ∀ x ∈ XM g0, CtrOkG Tryz.prog (Ud [(0, Qq (.list .str) g0)]) x := (Qb QfF.any (Qb Qep.any (Qb (Qa7 g0) (Qb Qeu.any (Qb Qn4.any Qi)))))
theorem QkH (g0 : (List (List Int))) : CtrOkG Tryz.prog (Ud [(0, Qq (.list .str) g0)]) (Qa8 g0) := by
 refine YM (by kernel_rfl) (by kernel_rfl : Tryz.prog.funcs[21]? = some Tryz.f21) (code := Tryz.f21.body.getD .skip) (by kernel_rfl) (by kernel_rfl) (A := Hf) (I := XL) (Qi4 g0) ?_
 rintro ⟨a0, a1, a2, u⟩ y hy
 exact (Qmt a0 a1 a2 hy).get
noncomputable def JW : Nat → Int → (List Int) → Option (List Int)
 | 0, _, _ => none
 | m + 1, x1, x2 =>
   bif decide ((0 : Int) < x1) then
    bif decide ((([IntKind.wrap .u8 (IntKind.wrap .i64 (48 + (Int.tmod x1 10)))] : List Int).length : Int) ≤ QI) then
     bif decide ((([IntKind.wrap .u8 (IntKind.wrap .i64 (48 + (Int.tmod x1 10)))] : List Int).length : Int) + (x2.length : Int) ≤ QI) then
      JW m (IntKind.wrap .i64 (Int.tdiv x1 10)) (([IntKind.wrap .u8 (IntKind.wrap .i64 (48 + (Int.tmod x1 10)))] : List Int) ++ x2)
     else none
    else none
   else
    bif decide ((([109] : List Int).length : Int) + (x2.length : Int) ≤ QI) then
     some (([109] : List Int) ++ x2)
    else none
noncomputable def XY (m : Nat) (a0 : Int) : Option (List Int) :=
 bif decide (a0 ≤ 0) then
  some ([109, 48] : List Int)
 else
  JW m a0 ([] : List Int)
noncomputable def Qx (a0 : Int) : Option (List Int) := QaY fun m => XY m a0
noncomputable def Wv : Ctr := ⟨49, [I64], [.str], fun x => Qx x.1⟩
def QdP : List (List Nat × Ann) := [([0, 4], [.keep 0 0, .keep 0 3])]
def Qb7 : List (List Nat × Nat) := []
noncomputable def Qb8 : List Ctr := []
noncomputable def QlH (n : Nat) (a0 : Int) : Option (List Int) := run Tryz.prog QdP Qb7 (Qn Qb8) Tryz.f49 (Tryz.f49.body.getD .skip) (Qp [.str]) n (Qu [I64] (a0, ()))
noncomputable abbrev G3 (n : Nat) (x1 : Int) (x2 : (List Int)) : Option (List Int) := lam Tryz.prog QdP Qb7 (Qn Qb8) Tryz.f49 (Tryz.f49.body.getD .skip) (Qp [.str]) n [0, 4] [.d I64 x1, .d .str x2]
theorem QrN (n : Nat) (a0 : Int) : QlH n a0 =
  bif decide (a0 ≤ 0) then
   some ([109, 48] : List Int)
  else
   G3 n a0 ([] : List Int) := by kernel_rfl
theorem QkI (n : Nat) (x1 : Int) (x2 : (List Int)) : G3 (n + 1) x1 x2 =
  bif decide ((0 : Int) < x1) then
   bif decide ((([IntKind.wrap .u8 (IntKind.wrap .i64 (48 + (Int.tmod x1 10)))] : List Int).length : Int) ≤ QI) then
    bif decide ((([IntKind.wrap .u8 (IntKind.wrap .i64 (48 + (Int.tmod x1 10)))] : List Int).length : Int) + (x2.length : Int) ≤ QI) then
     G3 n (IntKind.wrap .i64 (Int.tdiv x1 10)) (([IntKind.wrap .u8 (IntKind.wrap .i64 (48 + (Int.tmod x1 10)))] : List Int) ++ x2)
    else none
   else none
  else
   bif decide ((([109] : List Int).length : Int) + (x2.length : Int) ≤ QI) then
    some (([109] : List Int) ++ x2)
   else none := by kernel_rfl
theorem Qpy : ∀ (m : Nat) (x1 : Int) (x2 : (List Int)) (r : (List Int)), JW m x1 x2 = some r → Ev (fun n => G3 n x1 x2) r := by
 intro m
 induction m with
 | zero => intro x1 x2 r h; rw [JW] at h; exact Ev.ofNone h
 | succ m ih2 =>
  intro x1 x2 r h
  rw [JW] at h
  refine Ev.step ?_ (fun n => QkI n x1 x2)
  exact (Ev.ofBif h (fun h => (Ev.ofBif h (fun h => (Ev.ofBif h (fun h => (ih2 _ _ _ h)) (fun h => (Ev.ofNone h)))) (fun h => (Ev.ofNone h)))) (fun h => (Ev.ofBif h (fun h => (Ev.ofSome h)) (fun h => (Ev.ofNone h)))))
theorem QxN {m : Nat} (a0 : Int) {r : (List Int)} (h : XY m a0 = some r) : Ev (fun n => QlH n a0) r := by
 rw [XY] at h
 refine Ev.of_eq ?_ (fun n => QrN n a0)
 exact (Ev.ofBif h (fun h => (Ev.ofSome h)) (fun h => (Qpy _ _ _ _ h)))
theorem QtT : ∀ x ∈ Qb8, Qg Tryz.prog x := Qi
theorem Qb9 : Qg Tryz.prog (Wv) := by
 refine Qh (c := Wv) (by kernel_rfl) (by kernel_rfl : Tryz.prog.funcs[49]? = some Tryz.f49) (code := Tryz.f49.body.getD .skip) (by kernel_rfl) (by kernel_rfl) (by kernel_rfl) (A := QdP) (I := Qb7) (QtT) ?_
 rintro ⟨a0, u⟩ y hy
 exact let ⟨_, h⟩ := (Gj hy).get; (QxN a0 h).get
theorem QzM : ∀ (m n : Nat) (acc : List Int), n < m → acc.length + n ≤ 2000000000000 → JW m (n : Int) acc = some (109 :: (QCF m n ++ acc))
 | 0, n, acc, h, _ => by omega
 | m + 1, n, acc, h, hb => by
  rw [JW]
  by_cases h0 : n = 0
  ·subst h0
   rw [decide_eq_false (by omega)]
   simp only [cond_false]
   rw [decide_eq_true (by rw [Yv]; simp only [List.length_singleton]; omega)]
   simp [QCF]
  ·have e1 : Int.tmod (n : Int) 10 = ((n % 10 : Nat) : Int) := by rw [Int.tmod_eq_emod_of_nonneg (by omega)]; omega
   have e2 : Int.tdiv (n : Int) 10 = ((n / 10 : Nat) : Int) := by rw [Int.tdiv_eq_ediv_of_nonneg (by omega)]; omega
   have hd : n % 10 < 10 := Nat.mod_lt _ (by omega)
   rw [decide_eq_true (by omega), e1, e2, Qhk (x := 48 + ((n % 10 : Nat) : Int)) (by omega), Qhk (x := ((n / 10 : Nat) : Int)) (by omega), QyH (show inK .u8 (48 + ((n % 10 : Nat) : Int)) = true by rw [Y1, Qqy, Qqz]; omega)]
   simp only [cond_true, List.length_singleton]
   rw [decide_eq_true (by rw [Yv]; omega), decide_eq_true (by rw [Yv]; omega)]
   simp only [cond_true]
   rw [QzM m (n / 10) _ (by omega) (by simp; omega)]
   simp [QCF, h0]
theorem QBa : ∀ (m m' n : Nat), n < m → n < m' → QCF m n = QCF m' n
 | 0, _, _, h, _ => by omega
 | _, 0, _, _, h => by omega
 | m + 1, m' + 1, n, h, h' => by
  simp only [QCF]
  by_cases h0 : n = 0
  ·simp [h0]
  ·rw [if_neg h0, if_neg h0, QBa m m' (n / 10) (by omega) (by omega)]
theorem QzN (k : Int) (h0 : 0 ≤ k) (h1 : k ≤ Zh) : Qx k = some (Hi k) := by
 refine XP ⟨k.toNat + 1, fun m hm => ?_⟩
 show XY m k = some (Hi k)
 rw [XY]
 unfold Hi
 by_cases h : k ≤ 0
 ·rw [decide_eq_true h, if_pos h]; rfl
 ·rw [decide_eq_false h, if_neg h]
  simp only [cond_false]
  have := QzM m k.toNat [] (by omega) (by unfold Zh at h1; simp; omega)
  rw [Int.toNat_of_nonneg h0] at this
  rw [this, List.append_nil, QBa m (k.toNat + 1) k.toNat (by omega) (by omega)]
theorem Y0 : Qm0 Tryz.prog 49 := QGa (by kernel_rfl) Qb9 fun k h0 h1 => QzN k h0 h1
theorem QfW : QcN Tryz.prog 50 (.list Qa) := Qh8 (tl := 65) (by kernel_rfl : Tryz.prog.funcs[50]? = some Tryz.f50) (c := Tryz.f50.body.getD .skip) (by kernel_rfl) (by kernel_rfl) (gt := (some 49)) (hs := []) (QeY Y0) Qfd (by kernel_rfl)
theorem H1 : QcN Tryz.prog 51 (.list .str) := Qh8 (tl := 25) (by kernel_rfl : Tryz.prog.funcs[51]? = some Tryz.f51) (c := Tryz.f51.body.getD .skip) (by kernel_rfl) (by kernel_rfl) (gt := (some 49)) (hs := []) (QeY Y0) Qfd (by kernel_rfl)
theorem QeA : QcN Tryz.prog 52 (.list Qm) := Qh8 (tl := 37) (by kernel_rfl : Tryz.prog.funcs[52]? = some Tryz.f52) (c := Tryz.f52.body.getD .skip) (by kernel_rfl) (by kernel_rfl) (gt := (some 49)) (hs := [(50, (.list Qa)), (51, (.list .str))]) (QeY Y0) (Ei QfW (Ei H1 Qfd)) (by kernel_rfl)
theorem Qpz : QcN Tryz.prog 16 (.list Qf) := Qh8 (tl := 33) (by kernel_rfl : Tryz.prog.funcs[16]? = some Tryz.f16) (c := Tryz.f16.body.getD .skip) (by kernel_rfl) (by kernel_rfl) (gt := (some 49)) (hs := [(50, (.list Qa)), (51, (.list .str)), (52, (.list Qm))]) (QeY Y0) (Ei QfW (Ei H1 (Ei QeA Qfd))) (by kernel_rfl)
noncomputable def QfX : Ctr := QCC 16 (.list Qf) fun x => QcO (.list Qf) x.1 x.2.1
theorem QpA : Qg Tryz.prog QfX := QBU (by kernel_rfl) (by kernel_rfl) Qpz
noncomputable def Uv : Ctr := ⟨10, [Qr], [Qr], fun x => toC Qr x.1⟩
def Qi5 : List (List Nat × Ann) := []
def QgY : List (List Nat × Nat) := []
noncomputable def Qaw : List Ctr := [Jm, VW, XW]
noncomputable def Qi6 (n : Nat) (a0 : Qt) : Option Qt := run Tryz.prog Qi5 QgY (Qn Qaw) Tryz.f10 (Tryz.f10.body.getD .skip) (Qp [Qr]) n (Qu [Qr] (a0, ()))
theorem QpB (n : Nat) (a0 : Qt) : Qi6 n a0 =
  Option.bind (toC Qa a0.1) fun (y1 : Qe) =>
  Option.bind (toC Qa a0.2.1) fun (y2 : Qe) =>
  Option.bind (toC Qa a0.2.2.1) fun (y3 : Qe) =>
  Option.bind (toC (.list .str) a0.2.2.2.1) fun (y4 : (List (List Int))) =>
  Option.bind (toC (.list Qm) a0.2.2.2.2) fun (y5 : (List Qz)) =>
  some (y1, y2, y3, y4, y5) := by kernel_rfl
theorem QtU (hcs : ∀ x ∈ Qaw, Qg Tryz.prog x) (h : ∀ (a0 : Qt) y, toC Qr a0 = some y → ∃ n, Qi6 n a0 = some y) : Qg Tryz.prog Uv := by
 refine Qh (c := Uv) (by kernel_rfl) (by kernel_rfl : Tryz.prog.funcs[10]? = some Tryz.f10) (code := Tryz.f10.body.getD .skip) (by kernel_rfl) (by kernel_rfl) (by kernel_rfl) (A := Qi5) (I := QgY) hcs ?_
 rintro ⟨a0, u⟩ y hy
 exact h a0 y hy
theorem QrO : ∀ x ∈ Qaw, Qg Tryz.prog x := (Qb Yc (Qb Qao (Qb QiV Qi)))
theorem QtV : Qg Tryz.prog Uv := QtU QrO fun a0 y hy => by
 obtain ⟨hw, hs, rfl⟩ := Uc hy
 have hw2 : wfD Qa y.1 ∧ wfD Qa y.2.1 ∧ wfD Qa y.2.2.1 ∧ wfD (.list .str) y.2.2.2.1 ∧ wfD (.list Qm) y.2.2.2.2 := hw
 have hs2 : Ty.size Qa y.1 + (Ty.size Qa y.2.1 + (Ty.size Qa y.2.2.1 + (Ty.size (.list .str) y.2.2.2.1 + (Ty.size (.list Qm) y.2.2.2.2)))) ≤ 1073741824 := hs
 refine ⟨0, ?_⟩
 rw [QpB]
 try (rw [QD hw2.1 (by omega)]; simp only [Option.bind_some])
 try (rw [QD hw2.2.1 (by omega)]; simp only [Option.bind_some])
 try (rw [QD hw2.2.2.1 (by omega)]; simp only [Option.bind_some])
 try (rw [QD hw2.2.2.2.1 (by omega)]; simp only [Option.bind_some])
 try (rw [QD hw2.2.2.2.2 (by omega)]; simp only [Option.bind_some])
 try rfl
noncomputable def QgZ : Ctr := HG 10 [Qr] [Qr] fun x => toC Qr x.1
def Qg0 : List (List Nat × Ann) := []
def QfY : List (List Nat × Nat) := [([5002], 2000035), ([6002], 2000036)]
noncomputable def QfZ : List Ctr := [Jm, Hv, Qb4]
noncomputable def Qg1 (n : Nat) (a0 : Qt) : Option Qt := Er Tryz.prog noG Qg0 QfY (Qn QfZ) Tryz.f10 (Tryz.f10.body.getD .skip) (Qbf Tryz.prog Tryz.f10 [Qr]) n (Qu [Qr] (a0, ()))
theorem Qn5 (n : Nat) (a0 : Qt) : Qg1 n a0 =
  Option.bind (toC Qa a0.1) fun (y1 : Qe) =>
  Option.bind (toC Qa a0.2.1) fun (y2 : Qe) =>
  Option.bind (toC Qa a0.2.2.1) fun (y3 : Qe) =>
  Option.bind (toC (.list .str) a0.2.2.2.1) fun (y4 : (List (List Int))) =>
  Option.bind (toC (.list Qm) a0.2.2.2.2) fun (y5 : (List Qz)) =>
  some (y1, y2, y3, y4, y5) := by kernel_rfl
theorem QpC : ∀ x ∈ QfZ, Qg Tryz.prog x := (Qb Yc (Qb W3 (Qb QgX Qi)))
theorem QrP : Qg Tryz.prog QgZ := by
 refine YM (by kernel_rfl) (by kernel_rfl : Tryz.prog.funcs[10]? = some Tryz.f10) (code := Tryz.f10.body.getD .skip) (by kernel_rfl) (by kernel_rfl) (A := Qg0) (I := QfY) QpC ?_
 rintro ⟨a0, u⟩ y hy
 obtain ⟨hw, hs, rfl⟩ := Uc hy
 have hw2 : wfD Qa y.1 ∧ wfD Qa y.2.1 ∧ wfD Qa y.2.2.1 ∧ wfD (.list .str) y.2.2.2.1 ∧ wfD (.list Qm) y.2.2.2.2 := hw
 have hs2 : Ty.size Qa y.1 + (Ty.size Qa y.2.1 + (Ty.size Qa y.2.2.1 + (Ty.size (.list .str) y.2.2.2.1 + (Ty.size (.list Qm) y.2.2.2.2)))) ≤ 1073741824 := hs
 refine ⟨0, ?_⟩
 show Qg1 0 y = some y
 rw [Qn5]
 try (rw [QD hw2.1 (by omega)]; simp only [Option.bind_some])
 try (rw [QD hw2.2.1 (by omega)]; simp only [Option.bind_some])
 try (rw [QD hw2.2.2.1 (by omega)]; simp only [Option.bind_some])
 try (rw [QD hw2.2.2.2.1 (by omega)]; simp only [Option.bind_some])
 try (rw [QD hw2.2.2.2.2 (by omega)]; simp only [Option.bind_some])
 try rfl
theorem Qn6 : QcN Tryz.prog 17 Qr := QDJ (by kernel_rfl : Tryz.prog.funcs[17]? = some Tryz.f17) (c := Tryz.f17.body.getD .skip) (by kernel_rfl) (by kernel_rfl) (gt := none) (hs := [(51, (.list .str)), (52, (.list Qm))]) QEO (Ei H1 (Ei QeA Qfd)) (by kernel_rfl)
noncomputable def QeB : Ctr := QCC 17 Qr fun x => QcO Qr x.1 x.2.1
theorem Qn7 : Qg Tryz.prog QeB := QBU (by kernel_rfl) (by kernel_rfl) Qn6
noncomputable def U5 : Ctr := ⟨73, [Qs], [Qs], fun x => toC Qs x.1⟩
def Qp6 : List (List Nat × Ann) := []
def Qn8 : List (List Nat × Nat) := []
noncomputable def Qf0 : List Ctr := [Jm]
noncomputable def Qp7 (n : Nat) (a0 : ZE) : Option ZE := run Tryz.prog Qp6 Qn8 (Qn Qf0) Tryz.f73 (Tryz.f73.body.getD .skip) (Qp [Qs]) n (Qu [Qs] (a0, ()))
theorem Qv4 (n : Nat) (a0 : ZE) : Qp7 n a0 =
  Option.bind (toC Qa a0.2.1) fun (y1 : Qe) =>
  some (a0.1, y1, a0.2.2) := by kernel_rfl
theorem QzO (hcs : ∀ x ∈ Qf0, Qg Tryz.prog x) (h : ∀ (a0 : ZE) y, toC Qs a0 = some y → ∃ n, Qp7 n a0 = some y) : Qg Tryz.prog U5 := by
 refine Qh (c := U5) (by kernel_rfl) (by kernel_rfl : Tryz.prog.funcs[73]? = some Tryz.f73) (code := Tryz.f73.body.getD .skip) (by kernel_rfl) (by kernel_rfl) (by kernel_rfl) (A := Qp6) (I := Qn8) hcs ?_
 rintro ⟨a0, u⟩ y hy
 exact h a0 y hy
theorem QxO : ∀ x ∈ Qf0, Qg Tryz.prog x := (Qb Yc Qi)
theorem Qn9 : Qg Tryz.prog U5 := QzO QxO fun a0 y hy => by
 obtain ⟨hw, hs, rfl⟩ := Uc hy
 have hw2 : wfD I64 y.1 ∧ wfD Qa y.2.1 ∧ wfD .str y.2.2 := hw
 have hs2 : Ty.size I64 y.1 + (Ty.size Qa y.2.1 + (Ty.size .str y.2.2)) ≤ 1073741824 := hs
 refine ⟨0, ?_⟩
 rw [Qv4]
 try (rw [QD hw2.2.1 (by omega)]; simp only [Option.bind_some])
 try rfl
noncomputable def U6 : Ctr := ⟨102, [Ql], [Ql], fun x => toC Ql x.1⟩
def Qp8 : List (List Nat × Ann) := []
def Qoa : List (List Nat × Nat) := []
noncomputable def Qf1 : List Ctr := [Jm]
noncomputable def Qp9 (n : Nat) (a0 : Qo) : Option Qo := run Tryz.prog Qp8 Qoa (Qn Qf1) Tryz.f102 (Tryz.f102.body.getD .skip) (Qp [Ql]) n (Qu [Ql] (a0, ()))
theorem Qv5 (n : Nat) (a0 : Qo) : Qp9 n a0 =
  Option.bind (toC Qa a0.2.2.1) fun (y1 : Qe) =>
  some (a0.1, a0.2.1, y1, a0.2.2.2) := by kernel_rfl
theorem QzP (hcs : ∀ x ∈ Qf1, Qg Tryz.prog x) (h : ∀ (a0 : Qo) y, toC Ql a0 = some y → ∃ n, Qp9 n a0 = some y) : Qg Tryz.prog U6 := by
 refine Qh (c := U6) (by kernel_rfl) (by kernel_rfl : Tryz.prog.funcs[102]? = some Tryz.f102) (code := Tryz.f102.body.getD .skip) (by kernel_rfl) (by kernel_rfl) (by kernel_rfl) (A := Qp8) (I := Qoa) hcs ?_
 rintro ⟨a0, u⟩ y hy
 exact h a0 y hy
theorem QxP : ∀ x ∈ Qf1, Qg Tryz.prog x := (Qb Yc Qi)
theorem Qob : Qg Tryz.prog U6 := QzP QxP fun a0 y hy => by
 obtain ⟨hw, hs, rfl⟩ := Uc hy
 have hw2 : wfD I64 y.1 ∧ wfD .str y.2.1 ∧ wfD Qa y.2.2.1 ∧ wfD I64 y.2.2.2 := hw
 have hs2 : Ty.size I64 y.1 + (Ty.size .str y.2.1 + (Ty.size Qa y.2.2.1 + (Ty.size I64 y.2.2.2))) ≤ 1073741824 := hs
 refine ⟨0, ?_⟩
 rw [Qv5]
 try (rw [QD hw2.2.2.1 (by omega)]; simp only [Option.bind_some])
 try rfl
noncomputable def Qax : Ctr := ⟨74, [(.list Ql)], [(.list Ql)], fun x => toC (.list Ql) x.1⟩
def Qf2 : List (List Nat × Ann) := [([0, 3], [.keep 0 0, .keep 0 3, .keep 0 4, .rows 0 7 Ql])]
def QdQ : List (List Nat × Nat) := []
noncomputable def Ww : List Ctr := [U6]
noncomputable def Qoc (n : Nat) (a0 : (List Qo)) : Option (List Qo) := run Tryz.prog Qf2 QdQ (Qn Ww) Tryz.f74 (Tryz.f74.body.getD .skip) (Qp [(.list Ql)]) n (Qu [(.list Ql)] (a0, ()))
noncomputable abbrev W4 (n : Nat) (x1 : (List Qo)) (x2 : Int) (x3 : (List Qo)) : Option (List Qo) := lam Tryz.prog Qf2 QdQ (Qn Ww) Tryz.f74 (Tryz.f74.body.getD .skip) (Qp [(.list Ql)]) n [0, 3] [.d (.list Ql) x1, .msl 0 7, .d I64 x2, .d (.list Ql) x3]
theorem QtW (n : Nat) (a0 : (List Qo)) : Qoc n a0 =
  bif decide ((a0.length : Int) = (a0.length : Int)) && decide ((0 : Int) ≤ (a0.length : Int)) && decide ((a0.length : Int) * 80 ≤ QI) && true then
   W4 n a0 0 (List.replicate (Int.toNat (a0.length : Int)) (0, ([] : List Int), (0, 0, ([] : List Int), ([] : List Int)), 0))
  else none := by kernel_rfl
theorem Qmu (n : Nat) (x1 : (List Qo)) (x2 : Int) (x3 : (List Qo)) : W4 (n + 1) x1 x2 x3 =
  bif decide (x2 < (x1.length : Int)) then
   bif inB x2 x1.length then
    Option.bind (toC Ql (rd x1 x2 (Ty.dflt Ql))) fun (y1 : Qo) =>
    bif inB x2 x3.length then
     bif inB x2 x3.length && true && true && true && true then
      W4 n x1 (IntKind.wrap .i64 (x2 + 1)) (x3.set (Int.toNat x2) y1)
     else none
    else none
   else none
  else
   some x3 := by kernel_rfl
theorem QxQ (hcs : ∀ x ∈ Ww, Qg Tryz.prog x) (h : ∀ (a0 : (List Qo)) y, toC (.list Ql) a0 = some y → ∃ n, Qoc n a0 = some y) : Qg Tryz.prog Qax := by
 refine Qh (c := Qax) (by kernel_rfl) (by kernel_rfl : Tryz.prog.funcs[74]? = some Tryz.f74) (code := Tryz.f74.body.getD .skip) (by kernel_rfl) (by kernel_rfl) (by kernel_rfl) (A := Qf2) (I := QdQ) hcs ?_
 rintro ⟨a0, u⟩ y hy
 exact h a0 y hy
theorem Qv6 : ∀ x ∈ Ww, Qg Tryz.prog x := (Qb Qob Qi)
theorem QxR : Qg Tryz.prog Qax := QxQ Qv6 fun a0 y hy => by
 obtain ⟨n, hn⟩ := Qva (t := Ql) (f := toC Ql) (fun x h h2 => QD h h2) (by_ := 80) (by omega) (fun n xs i out => Qmu n xs i out) hy
 exact ⟨n, (QtW n a0).trans hn⟩
noncomputable def Wx : Ctr := ⟨37, [Qc], [Qc], fun x => toC Qc x.1⟩
def QlI : List (List Nat × Ann) := []
def Qi7 : List (List Nat × Nat) := []
noncomputable def Qca : List Ctr := [U5, Qax]
noncomputable def QlJ (n : Nat) (a0 : Qd) : Option Qd := run Tryz.prog QlI Qi7 (Qn Qca) Tryz.f37 (Tryz.f37.body.getD .skip) (Qp [Qc]) n (Qu [Qc] (a0, ()))
theorem QrQ (n : Nat) (a0 : Qd) : QlJ n a0 =
  Option.bind (toC Qs a0.2.2.1) fun (y1 : ZE) =>
  Option.bind (toC Qs a0.2.2.2.1) fun (y2 : ZE) =>
  Option.bind (toC Qs a0.2.2.2.2.1) fun (y3 : ZE) =>
  Option.bind (toC (.list Ql) a0.2.2.2.2.2) fun (y4 : (List Qo)) =>
  some (a0.1, a0.2.1, y1, y2, y3, y4) := by kernel_rfl
theorem Qv7 (hcs : ∀ x ∈ Qca, Qg Tryz.prog x) (h : ∀ (a0 : Qd) y, toC Qc a0 = some y → ∃ n, QlJ n a0 = some y) : Qg Tryz.prog Wx := by
 refine Qh (c := Wx) (by kernel_rfl) (by kernel_rfl : Tryz.prog.funcs[37]? = some Tryz.f37) (code := Tryz.f37.body.getD .skip) (by kernel_rfl) (by kernel_rfl) (by kernel_rfl) (A := QlI) (I := Qi7) hcs ?_
 rintro ⟨a0, u⟩ y hy
 exact h a0 y hy
theorem QtX : ∀ x ∈ Qca, Qg Tryz.prog x := (Qb Qn9 (Qb QxR Qi))
theorem Qv8 : Qg Tryz.prog Wx := Qv7 QtX fun a0 y hy => by
 obtain ⟨hw, hs, rfl⟩ := Uc hy
 have hw2 : wfD .str y.1 ∧ wfD .bool y.2.1 ∧ wfD Qs y.2.2.1 ∧ wfD Qs y.2.2.2.1 ∧ wfD Qs y.2.2.2.2.1 ∧ wfD (.list Ql) y.2.2.2.2.2 := hw
 have hs2 : Ty.size .str y.1 + (Ty.size .bool y.2.1 + (Ty.size Qs y.2.2.1 + (Ty.size Qs y.2.2.2.1 + (Ty.size Qs y.2.2.2.2.1 + (Ty.size (.list Ql) y.2.2.2.2.2))))) ≤ 1073741824 := hs
 refine ⟨0, ?_⟩
 rw [QrQ]
 try (rw [QD hw2.2.2.1 (by omega)]; simp only [Option.bind_some])
 try (rw [QD hw2.2.2.2.1 (by omega)]; simp only [Option.bind_some])
 try (rw [QD hw2.2.2.2.2.1 (by omega)]; simp only [Option.bind_some])
 try (rw [QD hw2.2.2.2.2.2 (by omega)]; simp only [Option.bind_some])
 try rfl
noncomputable def Uw : Ctr := ⟨11, [(.list Qc)], [(.list Qc)], fun x => toC (.list Qc) x.1⟩
def Qcb : List (List Nat × Ann) := [([0, 3], [.keep 0 0, .keep 0 3, .keep 0 4, .rows 0 7 Qc])]
def Qay : List (List Nat × Nat) := []
noncomputable def Hw : List Ctr := [Wx]
noncomputable def Qi8 (n : Nat) (a0 : (List Qd)) : Option (List Qd) := run Tryz.prog Qcb Qay (Qn Hw) Tryz.f11 (Tryz.f11.body.getD .skip) (Qp [(.list Qc)]) n (Qu [(.list Qc)] (a0, ()))
noncomputable abbrev H2 (n : Nat) (x1 : (List Qd)) (x2 : Int) (x3 : (List Qd)) : Option (List Qd) := lam Tryz.prog Qcb Qay (Qn Hw) Tryz.f11 (Tryz.f11.body.getD .skip) (Qp [(.list Qc)]) n [0, 3] [.d (.list Qc) x1, .msl 0 7, .d I64 x2, .d (.list Qc) x3]
theorem QpD (n : Nat) (a0 : (List Qd)) : Qi8 n a0 =
  bif decide ((a0.length : Int) = (a0.length : Int)) && decide ((0 : Int) ≤ (a0.length : Int)) && decide ((a0.length : Int) * 264 ≤ QI) && true then
   H2 n a0 0 (List.replicate (Int.toNat (a0.length : Int)) (([] : List Int), false, (0, (0, 0, ([] : List Int), ([] : List Int)), ([] : List Int)), (0, (0, 0, ([] : List Int), ([] : List Int)), ([] : List Int)), (0, (0, 0, ([] : List Int), ([] : List Int)), ([] : List Int)), []))
  else none := by kernel_rfl
theorem Qi9 (n : Nat) (x1 : (List Qd)) (x2 : Int) (x3 : (List Qd)) : H2 (n + 1) x1 x2 x3 =
  bif decide (x2 < (x1.length : Int)) then
   bif inB x2 x1.length then
    Option.bind (toC Qc (rd x1 x2 (Ty.dflt Qc))) fun (y1 : Qd) =>
    bif inB x2 x3.length then
     bif inB x2 x3.length && true && true && true && true then
      H2 n x1 (IntKind.wrap .i64 (x2 + 1)) (x3.set (Int.toNat x2) y1)
     else none
    else none
   else none
  else
   some x3 := by kernel_rfl
theorem QtY (hcs : ∀ x ∈ Hw, Qg Tryz.prog x) (h : ∀ (a0 : (List Qd)) y, toC (.list Qc) a0 = some y → ∃ n, Qi8 n a0 = some y) : Qg Tryz.prog Uw := by
 refine Qh (c := Uw) (by kernel_rfl) (by kernel_rfl : Tryz.prog.funcs[11]? = some Tryz.f11) (code := Tryz.f11.body.getD .skip) (by kernel_rfl) (by kernel_rfl) (by kernel_rfl) (A := Qcb) (I := Qay) hcs ?_
 rintro ⟨a0, u⟩ y hy
 exact h a0 y hy
theorem QrR : ∀ x ∈ Hw, Qg Tryz.prog x := (Qb Qv8 Qi)
theorem QtZ : Qg Tryz.prog Uw := QtY QrR fun a0 y hy => by
 obtain ⟨n, hn⟩ := Qva (t := Qc) (f := toC Qc) (fun x h h2 => QD h h2) (by_ := 264) (by omega) (fun n xs i out => Qi9 n xs i out) hy
 exact ⟨n, (QpD n a0).trans hn⟩
noncomputable def QlK : Ctr := HG 74 [(.list Ql)] [(.list Ql)] fun x => toC (.list Ql) x.1
def QdR : List (List Nat × Ann) := [([0, 3], [.keep 0 0, .drb 0 3 Ql, .keep 0 4])]
def Qcc : List (List Nat × Nat) := [([1002], 0)]
noncomputable def Qcd : List Ctr := [U6]
noncomputable def QxS (n : Nat) (a0 : (List Qo)) : Option (List Qo) := Er Tryz.prog noG QdR Qcc (Qn Qcd) Tryz.f74 (Tryz.f74.body.getD .skip) (Qbf Tryz.prog Tryz.f74 [(.list Ql)]) n (Qu [(.list Ql)] (a0, ()))
noncomputable abbrev G4 (n : Nat) (x1 : (List Qo)) (x2 : (List Qo)) (x3 : Int) : Option (List Qo) := Qhf Tryz.prog noG QdR Qcc (Qn Qcd) Tryz.f74 (Tryz.f74.body.getD .skip) (Qbf Tryz.prog Tryz.f74 [(.list Ql)]) n [0, 3] [.d (.list Ql) x1, .d (.list Ql) x2, .d I64 x3]
theorem QrS (n : Nat) (a0 : (List Qo)) : QxS n a0 =
  bif decide ((a0.length : Int) = (a0.length : Int)) && decide ((0 : Int) ≤ (a0.length : Int)) && decide ((a0.length : Int) * 80 ≤ QI) && true && true && true then
   G4 n a0 (List.replicate (Int.toNat (a0.length : Int)) (0, ([] : List Int), (0, 0, ([] : List Int), ([] : List Int)), 0)) 0
  else none := by kernel_rfl
theorem QkJ (n : Nat) (x1 : (List Qo)) (x2 : (List Qo)) (x3 : Int) : G4 (n + 1) x1 x2 x3 =
  bif decide (x3 < (x1.length : Int)) then
   bif inB x3 x1.length then
    Option.bind (toC Ql (rd x1 x3 (Ty.dflt Ql))) fun (y1 : Qo) =>
    bif inB x3 x2.length then
     bif inB x3 x2.length && true && true && true && true && true && true then
      G4 n x1 (x2.set (Int.toNat x3) y1) (IntKind.wrap .i64 (x3 + 1))
     else none
    else none
   else none
  else
   some x2 := by kernel_rfl
theorem Qt0 : ∀ x ∈ Qcd, Qg Tryz.prog x := (Qb Qob Qi)
theorem Qv9 : Qg Tryz.prog QlK := by
 refine YM (by kernel_rfl) (by kernel_rfl : Tryz.prog.funcs[74]? = some Tryz.f74) (code := Tryz.f74.body.getD .skip) (by kernel_rfl) (by kernel_rfl) (A := QdR) (I := Qcc) Qt0 ?_
 rintro ⟨a0, u⟩ y hy
 obtain ⟨n, hn⟩ := Qve (t := Ql) (f := toC Ql) (fun x h h2 => QD h h2) (L := fun n xs i out => G4 n xs out i) (by_ := 80) (by omega) (fun n xs i out => QkJ n xs out i) hy
 exact ⟨n, (QrS n a0).trans hn⟩
noncomputable def Qja : Ctr := HG 37 [Qc] [Qc] fun x => toC Qc x.1
def Qjb : List (List Nat × Ann) := []
def Qg2 : List (List Nat × Nat) := [([7002], 2000074)]
noncomputable def Qg3 : List Ctr := [U5, QlK]
noncomputable def Qjc (n : Nat) (a0 : Qd) : Option Qd := Er Tryz.prog noG Qjb Qg2 (Qn Qg3) Tryz.f37 (Tryz.f37.body.getD .skip) (Qbf Tryz.prog Tryz.f37 [Qc]) n (Qu [Qc] (a0, ()))
theorem QpE (n : Nat) (a0 : Qd) : Qjc n a0 =
  Option.bind (toC Qs a0.2.2.1) fun (y1 : ZE) =>
  Option.bind (toC Qs a0.2.2.2.1) fun (y2 : ZE) =>
  Option.bind (toC Qs a0.2.2.2.2.1) fun (y3 : ZE) =>
  Option.bind (toC (.list Ql) a0.2.2.2.2.2) fun (y4 : (List Qo)) =>
  some (a0.1, a0.2.1, y1, y2, y3, y4) := by kernel_rfl
theorem QrT : ∀ x ∈ Qg3, Qg Tryz.prog x := (Qb Qn9 (Qb Qv9 Qi))
theorem Qt1 : Qg Tryz.prog Qja := by
 refine YM (by kernel_rfl) (by kernel_rfl : Tryz.prog.funcs[37]? = some Tryz.f37) (code := Tryz.f37.body.getD .skip) (by kernel_rfl) (by kernel_rfl) (A := Qjb) (I := Qg2) QrT ?_
 rintro ⟨a0, u⟩ y hy
 obtain ⟨hw, hs, rfl⟩ := Uc hy
 have hw2 : wfD .str y.1 ∧ wfD .bool y.2.1 ∧ wfD Qs y.2.2.1 ∧ wfD Qs y.2.2.2.1 ∧ wfD Qs y.2.2.2.2.1 ∧ wfD (.list Ql) y.2.2.2.2.2 := hw
 have hs2 : Ty.size .str y.1 + (Ty.size .bool y.2.1 + (Ty.size Qs y.2.2.1 + (Ty.size Qs y.2.2.2.1 + (Ty.size Qs y.2.2.2.2.1 + (Ty.size (.list Ql) y.2.2.2.2.2))))) ≤ 1073741824 := hs
 refine ⟨0, ?_⟩
 show Qjc 0 y = some y
 rw [QpE]
 try (rw [QD hw2.2.2.1 (by omega)]; simp only [Option.bind_some])
 try (rw [QD hw2.2.2.2.1 (by omega)]; simp only [Option.bind_some])
 try (rw [QD hw2.2.2.2.2.1 (by omega)]; simp only [Option.bind_some])
 try (rw [QD hw2.2.2.2.2.2 (by omega)]; simp only [Option.bind_some])
 try rfl
noncomputable def Qg4 : Ctr := HG 11 [(.list Qc)] [(.list Qc)] fun x => toC (.list Qc) x.1
def Qaz : List (List Nat × Ann) := [([0, 3], [.keep 0 0, .drb 0 3 Qc, .keep 0 4])]
def W5 : List (List Nat × Nat) := [([1002], 0), ([5006], 2000037)]
noncomputable def W6 : List Ctr := [Qja]
noncomputable def Qt2 (n : Nat) (a0 : (List Qd)) : Option (List Qd) := Er Tryz.prog noG Qaz W5 (Qn W6) Tryz.f11 (Tryz.f11.body.getD .skip) (Qbf Tryz.prog Tryz.f11 [(.list Qc)]) n (Qu [(.list Qc)] (a0, ()))
noncomputable abbrev Gc (n : Nat) (x1 : (List Qd)) (x2 : (List Qd)) (x3 : Int) : Option (List Qd) := Qhf Tryz.prog noG Qaz W5 (Qn W6) Tryz.f11 (Tryz.f11.body.getD .skip) (Qbf Tryz.prog Tryz.f11 [(.list Qc)]) n [0, 3] [.d (.list Qc) x1, .d (.list Qc) x2, .d I64 x3]
theorem Qod (n : Nat) (a0 : (List Qd)) : Qt2 n a0 =
  bif decide ((a0.length : Int) = (a0.length : Int)) && decide ((0 : Int) ≤ (a0.length : Int)) && decide ((a0.length : Int) * 264 ≤ QI) && true && true && true then
   Gc n a0 (List.replicate (Int.toNat (a0.length : Int)) (([] : List Int), false, (0, (0, 0, ([] : List Int), ([] : List Int)), ([] : List Int)), (0, (0, 0, ([] : List Int), ([] : List Int)), ([] : List Int)), (0, (0, 0, ([] : List Int), ([] : List Int)), ([] : List Int)), [])) 0
  else none := by kernel_rfl
theorem QhB (n : Nat) (x1 : (List Qd)) (x2 : (List Qd)) (x3 : Int) : Gc (n + 1) x1 x2 x3 =
  bif decide (x3 < (x1.length : Int)) then
   bif inB x3 x1.length then
    Option.bind (toC Qc (rd x1 x3 (Ty.dflt Qc))) fun (y1 : Qd) =>
    bif inB x3 x2.length then
     bif inB x3 x2.length && true && true && true && true && true && true then
      Gc n x1 (x2.set (Int.toNat x3) y1) (IntKind.wrap .i64 (x3 + 1))
     else none
    else none
   else none
  else
   some x2 := by kernel_rfl
theorem QpF : ∀ x ∈ W6, Qg Tryz.prog x := (Qb Qt1 Qi)
theorem QrU : Qg Tryz.prog Qg4 := by
 refine YM (by kernel_rfl) (by kernel_rfl : Tryz.prog.funcs[11]? = some Tryz.f11) (code := Tryz.f11.body.getD .skip) (by kernel_rfl) (by kernel_rfl) (A := Qaz) (I := W5) QpF ?_
 rintro ⟨a0, u⟩ y hy
 obtain ⟨n, hn⟩ := Qve (t := Qc) (f := toC Qc) (fun x h h2 => QD h h2) (L := fun n xs i out => Gc n xs out i) (by_ := 264) (by omega) (fun n xs i out => QhB n xs out i) hy
 exact ⟨n, (Qod n a0).trans hn⟩
theorem QrV : QcN Tryz.prog 53 (.list Ql) := Qh8 (tl := 69) (by kernel_rfl : Tryz.prog.funcs[53]? = some Tryz.f53) (c := Tryz.f53.body.getD .skip) (by kernel_rfl) (by kernel_rfl) (gt := (some 49)) (hs := []) (QeY Y0) Qfd (by kernel_rfl)
theorem Qoe : QcN Tryz.prog 18 (.list Qc) := Qh8 (tl := 41) (by kernel_rfl : Tryz.prog.funcs[18]? = some Tryz.f18) (c := Tryz.f18.body.getD .skip) (by kernel_rfl) (by kernel_rfl) (gt := (some 49)) (hs := [(53, (.list Ql))]) (QeY Y0) (Ei QrV Qfd) (by kernel_rfl)
noncomputable def QeC : Ctr := QCC 18 (.list Qc) fun x => QcO (.list Qc) x.1 x.2.1
theorem Qof : Qg Tryz.prog QeC := QBU (by kernel_rfl) (by kernel_rfl) Qoe
noncomputable def Z5 : List Qo → Int → Option Int
 | [], x2 =>
   some x2
 | e :: rest, x2 =>
   bif !decide ((e).1 = x2) then
    some (-1)
   else
    Option.bind (Qx (IntKind.wrap .i64 (x2 + 1))) fun (y1 : (List Int)) =>
    bif !decide (((e).2).1 = y1) then
     some (-1)
    else
     bif !decide (((((e).2).2).1).1 = IntKind.wrap .i64 ((IntKind.wrap .i64 (x2 + 1)) + 1)) then
      some (-1)
     else
      bif !decide ((((((e).2).2).1).2).1 = IntKind.wrap .i64 ((IntKind.wrap .i64 ((IntKind.wrap .i64 (x2 + 1)) + 1)) + 1)) then
       some (-1)
      else
       Option.bind (Qx (IntKind.wrap .i64 ((IntKind.wrap .i64 ((IntKind.wrap .i64 ((IntKind.wrap .i64 (x2 + 1)) + 1)) + 1)) + 1))) fun (y2 : (List Int)) =>
       bif !decide (((((((e).2).2).1).2).2).1 = y2) then
        some (-1)
       else
        Option.bind (Qx (IntKind.wrap .i64 ((IntKind.wrap .i64 ((IntKind.wrap .i64 ((IntKind.wrap .i64 ((IntKind.wrap .i64 (x2 + 1)) + 1)) + 1)) + 1)) + 1))) fun (y3 : (List Int)) =>
        bif !decide (((((((e).2).2).1).2).2).2 = y3) then
         some (-1)
        else
         bif !decide ((((e).2).2).2 = IntKind.wrap .i64 ((IntKind.wrap .i64 ((IntKind.wrap .i64 ((IntKind.wrap .i64 ((IntKind.wrap .i64 ((IntKind.wrap .i64 (x2 + 1)) + 1)) + 1)) + 1)) + 1)) + 1)) then
          some (-1)
         else
          Z5 rest (IntKind.wrap .i64 ((IntKind.wrap .i64 ((IntKind.wrap .i64 ((IntKind.wrap .i64 ((IntKind.wrap .i64 ((IntKind.wrap .i64 ((IntKind.wrap .i64 (x2 + 1)) + 1)) + 1)) + 1)) + 1)) + 1)) + 1))
noncomputable def Yu (a0 : (List Qo)) (a1 : Int) : Option Int :=
 Jg a0 (Z5 a0 a1)
noncomputable def Qce : Ctr := ⟨61, [(.list Ql), I64], [I64], fun x => Yu x.1 x.2.1⟩
def Qcf : List (List Nat × Ann) := [([0, 2], [.keep 0 0, .keep 0 1, .keep 0 5])]
def QaA : List (List Nat × Nat) := []
noncomputable def QaB : List Ctr := [Wv]
noncomputable def Qjd (n : Nat) (a0 : (List Qo)) (a1 : Int) : Option Int := run Tryz.prog Qcf QaA (Qn QaB) Tryz.f61 (Tryz.f61.body.getD .skip) (Qp [I64]) n (Qu [(.list Ql), I64] (a0, a1, ()))
noncomputable abbrev Vl (n : Nat) (x1 : (List Qo)) (x2 : Int) (x3 : Int) : Option Int := lam Tryz.prog Qcf QaA (Qn QaB) Tryz.f61 (Tryz.f61.body.getD .skip) (Qp [I64]) n [0, 2] [.d (.list Ql) x1, .d I64 x2, .d I64 x3]
theorem QpG (n : Nat) (a0 : (List Qo)) (a1 : Int) : Qjd n a0 a1 =
  Vl n a0 a1 0 := by kernel_rfl
theorem Ep (n : Nat) (x1 : (List Qo)) (x2 : Int) (x3 : Int) : Vl (n + 1) x1 x2 x3 =
  bif decide (x3 < (x1.length : Int)) then
   bif inB x3 x1.length then
    bif !decide ((rd x1 x3 (Ty.dflt Ql)).1 = x2) then
     some (-1)
    else
     bif inB x3 x1.length then
      Option.bind (Qx (IntKind.wrap .i64 (x2 + 1))) fun (y1 : (List Int)) =>
      bif !decide (((rd x1 x3 (Ty.dflt Ql)).2).1 = y1) then
       some (-1)
      else
       bif inB x3 x1.length then
        bif !decide (((((rd x1 x3 (Ty.dflt Ql)).2).2).1).1 = IntKind.wrap .i64 ((IntKind.wrap .i64 (x2 + 1)) + 1)) then
         some (-1)
        else
         bif inB x3 x1.length then
          bif !decide ((((((rd x1 x3 (Ty.dflt Ql)).2).2).1).2).1 = IntKind.wrap .i64 ((IntKind.wrap .i64 ((IntKind.wrap .i64 (x2 + 1)) + 1)) + 1)) then
           some (-1)
          else
           bif inB x3 x1.length then
            Option.bind (Qx (IntKind.wrap .i64 ((IntKind.wrap .i64 ((IntKind.wrap .i64 ((IntKind.wrap .i64 (x2 + 1)) + 1)) + 1)) + 1))) fun (y2 : (List Int)) =>
            bif !decide (((((((rd x1 x3 (Ty.dflt Ql)).2).2).1).2).2).1 = y2) then
             some (-1)
            else
             bif inB x3 x1.length then
              Option.bind (Qx (IntKind.wrap .i64 ((IntKind.wrap .i64 ((IntKind.wrap .i64 ((IntKind.wrap .i64 ((IntKind.wrap .i64 (x2 + 1)) + 1)) + 1)) + 1)) + 1))) fun (y3 : (List Int)) =>
              bif !decide (((((((rd x1 x3 (Ty.dflt Ql)).2).2).1).2).2).2 = y3) then
               some (-1)
              else
               bif inB x3 x1.length then
                bif !decide ((((rd x1 x3 (Ty.dflt Ql)).2).2).2 = IntKind.wrap .i64 ((IntKind.wrap .i64 ((IntKind.wrap .i64 ((IntKind.wrap .i64 ((IntKind.wrap .i64 ((IntKind.wrap .i64 (x2 + 1)) + 1)) + 1)) + 1)) + 1)) + 1)) then
                 some (-1)
                else
                 Vl n x1 (IntKind.wrap .i64 ((IntKind.wrap .i64 ((IntKind.wrap .i64 ((IntKind.wrap .i64 ((IntKind.wrap .i64 ((IntKind.wrap .i64 ((IntKind.wrap .i64 (x2 + 1)) + 1)) + 1)) + 1)) + 1)) + 1)) + 1)) (IntKind.wrap .i64 (x3 + 1))
               else none
             else none
           else none
         else none
       else none
     else none
   else none
  else
   some x2 := by kernel_rfl
theorem Qog {x1 : (List Qo)} (hl : x1.length ≤ maxLen) : ∀ (rest : List Qo) (k : Nat) (x2 : Int) (r : Int), rest = x1.drop k → Z5 rest x2 = some r → Ev (fun n => Vl n x1 x2 (k : Int)) r := by
 intro rest
 induction rest with
 | nil =>
  intro k x2 r hr h
  have hk := QO hr
  rw [Z5] at h
  refine Ev.step ?_ (fun n => Ep n x1 x2 (k : Int))
  rw [show decide ((k : Int) < (x1.length : Int)) = false from decide_eq_false (by omega)]
  exact Ev.neg rfl (Ev.ofSome h)
 | cons e rest ih =>
  intro k x2 r hr h
  obtain ⟨hk, hx, hr2⟩ := QE (d := (Ty.dflt Ql)) hr
  have hw := QA hl hk
  have ih2 : ∀ (z2 : Int) (r : Int), Z5 rest z2 = some r → Ev (fun n => Vl n x1 z2 (IntKind.wrap .i64 ((k : Int) + 1))) r := by
   intro z2 r h; rw [hw]; exact ih (k + 1) z2 r hr2 h
  rw [Z5] at h
  refine Ev.step ?_ (fun n => Ep n x1 x2 (k : Int))
  rw [show decide ((k : Int) < (x1.length : Int)) = true from decide_eq_true (by omega), QB hk, hx]
  exact Ev.pos rfl (Ev.pos rfl (Ev.ofBif h (fun h => (Ev.ofSome h)) (fun h => (Ev.pos rfl (Ev.ofBind h fun y1 h => (Ev.ofBif h (fun h => (Ev.ofSome h)) (fun h => (Ev.pos rfl (Ev.ofBif h (fun h => (Ev.ofSome h)) (fun h => (Ev.pos rfl (Ev.ofBif h (fun h => (Ev.ofSome h)) (fun h => (Ev.pos rfl (Ev.ofBind h fun y2 h => (Ev.ofBif h (fun h => (Ev.ofSome h)) (fun h => (Ev.pos rfl (Ev.ofBind h fun y3 h => (Ev.ofBif h (fun h => (Ev.ofSome h)) (fun h => (Ev.pos rfl (Ev.ofBif h (fun h => (Ev.ofSome h)) (fun h => (ih2 _ _ h)))))))))))))))))))))))))
theorem Qwa (a0 : (List Qo)) (a1 : Int) {r : Int} (h : Yu a0 a1 = some r) : Ev (fun n => Qjd n a0 a1) r := by
 rw [Yu] at h
 refine Ev.of_eq ?_ (fun n => QpG n a0 a1)
 exact (Ev.ofLen h fun hl h => Qog hl _ (0 : Nat) _ _ rfl h)
theorem QrW : ∀ x ∈ QaB, Qg Tryz.prog x := (Qb Qb9 Qi)
theorem Qt3 : Qg Tryz.prog (Qce) := by
 refine Qh (c := Qce) (by kernel_rfl) (by kernel_rfl : Tryz.prog.funcs[61]? = some Tryz.f61) (code := Tryz.f61.body.getD .skip) (by kernel_rfl) (by kernel_rfl) (by kernel_rfl) (A := Qcf) (I := QaA) (QrW) ?_
 rintro ⟨a0, a1, u⟩ y hy
 exact (Qwa a0 a1 hy).get
noncomputable def ZD : List Qd → Int → Option Int
 | [], x2 =>
   some x2
 | e :: rest, x2 =>
   Option.bind (Qx x2) fun (y1 : (List Int)) =>
   bif !decide ((e).1 = y1) then
    some (-1)
   else
    bif (((e).2).1) != (decide (Int.tmod (IntKind.wrap .i64 (x2 + 1)) 3 = 0)) then
     some (-1)
    else
     bif !decide (((((e).2).2).1).1 = IntKind.wrap .i64 ((IntKind.wrap .i64 (x2 + 1)) + 1)) then
      some (-1)
     else
      bif !decide (((((((e).2).2).1).2).1).1 = IntKind.wrap .i64 ((IntKind.wrap .i64 ((IntKind.wrap .i64 (x2 + 1)) + 1)) + 1)) then
       some (-1)
      else
       bif !decide ((((((((e).2).2).1).2).1).2).1 = IntKind.wrap .i64 ((IntKind.wrap .i64 ((IntKind.wrap .i64 ((IntKind.wrap .i64 (x2 + 1)) + 1)) + 1)) + 1)) then
        some (-1)
       else
        Option.bind (Qx (IntKind.wrap .i64 ((IntKind.wrap .i64 ((IntKind.wrap .i64 ((IntKind.wrap .i64 ((IntKind.wrap .i64 (x2 + 1)) + 1)) + 1)) + 1)) + 1))) fun (y2 : (List Int)) =>
        bif !decide (((((((((e).2).2).1).2).1).2).2).1 = y2) then
         some (-1)
        else
         Option.bind (Qx (IntKind.wrap .i64 ((IntKind.wrap .i64 ((IntKind.wrap .i64 ((IntKind.wrap .i64 ((IntKind.wrap .i64 ((IntKind.wrap .i64 (x2 + 1)) + 1)) + 1)) + 1)) + 1)) + 1))) fun (y3 : (List Int)) =>
         bif !decide (((((((((e).2).2).1).2).1).2).2).2 = y3) then
          some (-1)
         else
          Option.bind (Qx (IntKind.wrap .i64 ((IntKind.wrap .i64 ((IntKind.wrap .i64 ((IntKind.wrap .i64 ((IntKind.wrap .i64 ((IntKind.wrap .i64 ((IntKind.wrap .i64 (x2 + 1)) + 1)) + 1)) + 1)) + 1)) + 1)) + 1))) fun (y4 : (List Int)) =>
          bif !decide ((((((e).2).2).1).2).2 = y4) then
           some (-1)
          else
           bif !decide ((((((e).2).2).2).1).1 = IntKind.wrap .i64 ((IntKind.wrap .i64 ((IntKind.wrap .i64 ((IntKind.wrap .i64 ((IntKind.wrap .i64 ((IntKind.wrap .i64 ((IntKind.wrap .i64 ((IntKind.wrap .i64 (x2 + 1)) + 1)) + 1)) + 1)) + 1)) + 1)) + 1)) + 1)) then
            some (-1)
           else
            bif !decide ((((((((e).2).2).2).1).2).1).1 = IntKind.wrap .i64 ((IntKind.wrap .i64 ((IntKind.wrap .i64 ((IntKind.wrap .i64 ((IntKind.wrap .i64 ((IntKind.wrap .i64 ((IntKind.wrap .i64 ((IntKind.wrap .i64 ((IntKind.wrap .i64 (x2 + 1)) + 1)) + 1)) + 1)) + 1)) + 1)) + 1)) + 1)) + 1)) then
             some (-1)
            else
             bif !decide (((((((((e).2).2).2).1).2).1).2).1 = IntKind.wrap .i64 ((IntKind.wrap .i64 ((IntKind.wrap .i64 ((IntKind.wrap .i64 ((IntKind.wrap .i64 ((IntKind.wrap .i64 ((IntKind.wrap .i64 ((IntKind.wrap .i64 ((IntKind.wrap .i64 ((IntKind.wrap .i64 (x2 + 1)) + 1)) + 1)) + 1)) + 1)) + 1)) + 1)) + 1)) + 1)) + 1)) then
              some (-1)
             else
              Option.bind (Qx (IntKind.wrap .i64 ((IntKind.wrap .i64 ((IntKind.wrap .i64 ((IntKind.wrap .i64 ((IntKind.wrap .i64 ((IntKind.wrap .i64 ((IntKind.wrap .i64 ((IntKind.wrap .i64 ((IntKind.wrap .i64 ((IntKind.wrap .i64 ((IntKind.wrap .i64 (x2 + 1)) + 1)) + 1)) + 1)) + 1)) + 1)) + 1)) + 1)) + 1)) + 1)) + 1))) fun (y5 : (List Int)) =>
              bif !decide ((((((((((e).2).2).2).1).2).1).2).2).1 = y5) then
               some (-1)
              else
               Option.bind (Qx (IntKind.wrap .i64 ((IntKind.wrap .i64 ((IntKind.wrap .i64 ((IntKind.wrap .i64 ((IntKind.wrap .i64 ((IntKind.wrap .i64 ((IntKind.wrap .i64 ((IntKind.wrap .i64 ((IntKind.wrap .i64 ((IntKind.wrap .i64 ((IntKind.wrap .i64 ((IntKind.wrap .i64 (x2 + 1)) + 1)) + 1)) + 1)) + 1)) + 1)) + 1)) + 1)) + 1)) + 1)) + 1)) + 1))) fun (y6 : (List Int)) =>
               bif !decide ((((((((((e).2).2).2).1).2).1).2).2).2 = y6) then
                some (-1)
               else
                Option.bind (Qx (IntKind.wrap .i64 ((IntKind.wrap .i64 ((IntKind.wrap .i64 ((IntKind.wrap .i64 ((IntKind.wrap .i64 ((IntKind.wrap .i64 ((IntKind.wrap .i64 ((IntKind.wrap .i64 ((IntKind.wrap .i64 ((IntKind.wrap .i64 ((IntKind.wrap .i64 ((IntKind.wrap .i64 ((IntKind.wrap .i64 (x2 + 1)) + 1)) + 1)) + 1)) + 1)) + 1)) + 1)) + 1)) + 1)) + 1)) + 1)) + 1)) + 1))) fun (y7 : (List Int)) =>
                bif !decide (((((((e).2).2).2).1).2).2 = y7) then
                 some (-1)
                else
                 bif !decide (((((((e).2).2).2).2).1).1 = IntKind.wrap .i64 ((IntKind.wrap .i64 ((IntKind.wrap .i64 ((IntKind.wrap .i64 ((IntKind.wrap .i64 ((IntKind.wrap .i64 ((IntKind.wrap .i64 ((IntKind.wrap .i64 ((IntKind.wrap .i64 ((IntKind.wrap .i64 ((IntKind.wrap .i64 ((IntKind.wrap .i64 ((IntKind.wrap .i64 ((IntKind.wrap .i64 (x2 + 1)) + 1)) + 1)) + 1)) + 1)) + 1)) + 1)) + 1)) + 1)) + 1)) + 1)) + 1)) + 1)) + 1)) then
                  some (-1)
                 else
                  bif !decide (((((((((e).2).2).2).2).1).2).1).1 = IntKind.wrap .i64 ((IntKind.wrap .i64 ((IntKind.wrap .i64 ((IntKind.wrap .i64 ((IntKind.wrap .i64 ((IntKind.wrap .i64 ((IntKind.wrap .i64 ((IntKind.wrap .i64 ((IntKind.wrap .i64 ((IntKind.wrap .i64 ((IntKind.wrap .i64 ((IntKind.wrap .i64 ((IntKind.wrap .i64 ((IntKind.wrap .i64 ((IntKind.wrap .i64 (x2 + 1)) + 1)) + 1)) + 1)) + 1)) + 1)) + 1)) + 1)) + 1)) + 1)) + 1)) + 1)) + 1)) + 1)) + 1)) then
                   some (-1)
                  else
                   bif !decide ((((((((((e).2).2).2).2).1).2).1).2).1 = IntKind.wrap .i64 ((IntKind.wrap .i64 ((IntKind.wrap .i64 ((IntKind.wrap .i64 ((IntKind.wrap .i64 ((IntKind.wrap .i64 ((IntKind.wrap .i64 ((IntKind.wrap .i64 ((IntKind.wrap .i64 ((IntKind.wrap .i64 ((IntKind.wrap .i64 ((IntKind.wrap .i64 ((IntKind.wrap .i64 ((IntKind.wrap .i64 ((IntKind.wrap .i64 ((IntKind.wrap .i64 (x2 + 1)) + 1)) + 1)) + 1)) + 1)) + 1)) + 1)) + 1)) + 1)) + 1)) + 1)) + 1)) + 1)) + 1)) + 1)) + 1)) then
                    some (-1)
                   else
                    Option.bind (Qx (IntKind.wrap .i64 ((IntKind.wrap .i64 ((IntKind.wrap .i64 ((IntKind.wrap .i64 ((IntKind.wrap .i64 ((IntKind.wrap .i64 ((IntKind.wrap .i64 ((IntKind.wrap .i64 ((IntKind.wrap .i64 ((IntKind.wrap .i64 ((IntKind.wrap .i64 ((IntKind.wrap .i64 ((IntKind.wrap .i64 ((IntKind.wrap .i64 ((IntKind.wrap .i64 ((IntKind.wrap .i64 ((IntKind.wrap .i64 (x2 + 1)) + 1)) + 1)) + 1)) + 1)) + 1)) + 1)) + 1)) + 1)) + 1)) + 1)) + 1)) + 1)) + 1)) + 1)) + 1)) + 1))) fun (y8 : (List Int)) =>
                    bif !decide (((((((((((e).2).2).2).2).1).2).1).2).2).1 = y8) then
                     some (-1)
                    else
                     Option.bind (Qx (IntKind.wrap .i64 ((IntKind.wrap .i64 ((IntKind.wrap .i64 ((IntKind.wrap .i64 ((IntKind.wrap .i64 ((IntKind.wrap .i64 ((IntKind.wrap .i64 ((IntKind.wrap .i64 ((IntKind.wrap .i64 ((IntKind.wrap .i64 ((IntKind.wrap .i64 ((IntKind.wrap .i64 ((IntKind.wrap .i64 ((IntKind.wrap .i64 ((IntKind.wrap .i64 ((IntKind.wrap .i64 ((IntKind.wrap .i64 ((IntKind.wrap .i64 (x2 + 1)) + 1)) + 1)) + 1)) + 1)) + 1)) + 1)) + 1)) + 1)) + 1)) + 1)) + 1)) + 1)) + 1)) + 1)) + 1)) + 1)) + 1))) fun (y9 : (List Int)) =>
                     bif !decide (((((((((((e).2).2).2).2).1).2).1).2).2).2 = y9) then
                      some (-1)
                     else
                      Option.bind (Qx (IntKind.wrap .i64 ((IntKind.wrap .i64 ((IntKind.wrap .i64 ((IntKind.wrap .i64 ((IntKind.wrap .i64 ((IntKind.wrap .i64 ((IntKind.wrap .i64 ((IntKind.wrap .i64 ((IntKind.wrap .i64 ((IntKind.wrap .i64 ((IntKind.wrap .i64 ((IntKind.wrap .i64 ((IntKind.wrap .i64 ((IntKind.wrap .i64 ((IntKind.wrap .i64 ((IntKind.wrap .i64 ((IntKind.wrap .i64 ((IntKind.wrap .i64 ((IntKind.wrap .i64 (x2 + 1)) + 1)) + 1)) + 1)) + 1)) + 1)) + 1)) + 1)) + 1)) + 1)) + 1)) + 1)) + 1)) + 1)) + 1)) + 1)) + 1)) + 1)) + 1))) fun (y10 : (List Int)) =>
                      bif !decide ((((((((e).2).2).2).2).1).2).2 = y10) then
                       some (-1)
                      else
                       Option.bind (Yu ((((((e).2).2).2).2).2) (IntKind.wrap .i64 ((IntKind.wrap .i64 ((IntKind.wrap .i64 ((IntKind.wrap .i64 ((IntKind.wrap .i64 ((IntKind.wrap .i64 ((IntKind.wrap .i64 ((IntKind.wrap .i64 ((IntKind.wrap .i64 ((IntKind.wrap .i64 ((IntKind.wrap .i64 ((IntKind.wrap .i64 ((IntKind.wrap .i64 ((IntKind.wrap .i64 ((IntKind.wrap .i64 ((IntKind.wrap .i64 ((IntKind.wrap .i64 ((IntKind.wrap .i64 ((IntKind.wrap .i64 ((IntKind.wrap .i64 (x2 + 1)) + 1)) + 1)) + 1)) + 1)) + 1)) + 1)) + 1)) + 1)) + 1)) + 1)) + 1)) + 1)) + 1)) + 1)) + 1)) + 1)) + 1)) + 1)) + 1))) fun (y11 : Int) =>
                       bif decide (y11 < 0) then
                        some (-1)
                       else
                        ZD rest y11
noncomputable def Je (a0 : (List Qd)) (a1 : Int) : Option Int :=
 Jg a0 (ZD a0 a1)
noncomputable def W7 : Ctr := ⟨22, [(.list Qc), I64], [I64], fun x => Je x.1 x.2.1⟩
def W8 : List (List Nat × Ann) := [([0, 2], [.keep 0 0, .keep 0 1, .keep 0 5])]
def UQ : List (List Nat × Nat) := []
noncomputable def UR : List Ctr := [Wv, Qce]
noncomputable def Qf3 (n : Nat) (a0 : (List Qd)) (a1 : Int) : Option Int := run Tryz.prog W8 UQ (Qn UR) Tryz.f22 (Tryz.f22.body.getD .skip) (Qp [I64]) n (Qu [(.list Qc), I64] (a0, a1, ()))
noncomputable abbrev YH (n : Nat) (x1 : (List Qd)) (x2 : Int) (x3 : Int) : Option Int := lam Tryz.prog W8 UQ (Qn UR) Tryz.f22 (Tryz.f22.body.getD .skip) (Qp [I64]) n [0, 2] [.d (.list Qc) x1, .d I64 x2, .d I64 x3]
theorem Qmv (n : Nat) (a0 : (List Qd)) (a1 : Int) : Qf3 n a0 a1 =
  YH n a0 a1 0 := by kernel_rfl
theorem UG (n : Nat) (x1 : (List Qd)) (x2 : Int) (x3 : Int) : YH (n + 1) x1 x2 x3 =
  bif decide (x3 < (x1.length : Int)) then
   bif inB x3 x1.length then
    Option.bind (Qx x2) fun (y1 : (List Int)) =>
    bif !decide ((rd x1 x3 (Ty.dflt Qc)).1 = y1) then
     some (-1)
    else
     bif inB x3 x1.length then
      bif (((rd x1 x3 (Ty.dflt Qc)).2).1) != (decide (Int.tmod (IntKind.wrap .i64 (x2 + 1)) 3 = 0)) then
       some (-1)
      else
       bif inB x3 x1.length then
        bif !decide (((((rd x1 x3 (Ty.dflt Qc)).2).2).1).1 = IntKind.wrap .i64 ((IntKind.wrap .i64 (x2 + 1)) + 1)) then
         some (-1)
        else
         bif inB x3 x1.length then
          bif !decide (((((((rd x1 x3 (Ty.dflt Qc)).2).2).1).2).1).1 = IntKind.wrap .i64 ((IntKind.wrap .i64 ((IntKind.wrap .i64 (x2 + 1)) + 1)) + 1)) then
           some (-1)
          else
           bif inB x3 x1.length then
            bif !decide ((((((((rd x1 x3 (Ty.dflt Qc)).2).2).1).2).1).2).1 = IntKind.wrap .i64 ((IntKind.wrap .i64 ((IntKind.wrap .i64 ((IntKind.wrap .i64 (x2 + 1)) + 1)) + 1)) + 1)) then
             some (-1)
            else
             bif inB x3 x1.length then
              Option.bind (Qx (IntKind.wrap .i64 ((IntKind.wrap .i64 ((IntKind.wrap .i64 ((IntKind.wrap .i64 ((IntKind.wrap .i64 (x2 + 1)) + 1)) + 1)) + 1)) + 1))) fun (y2 : (List Int)) =>
              bif !decide (((((((((rd x1 x3 (Ty.dflt Qc)).2).2).1).2).1).2).2).1 = y2) then
               some (-1)
              else
               bif inB x3 x1.length then
                Option.bind (Qx (IntKind.wrap .i64 ((IntKind.wrap .i64 ((IntKind.wrap .i64 ((IntKind.wrap .i64 ((IntKind.wrap .i64 ((IntKind.wrap .i64 (x2 + 1)) + 1)) + 1)) + 1)) + 1)) + 1))) fun (y3 : (List Int)) =>
                bif !decide (((((((((rd x1 x3 (Ty.dflt Qc)).2).2).1).2).1).2).2).2 = y3) then
                 some (-1)
                else
                 bif inB x3 x1.length then
                  Option.bind (Qx (IntKind.wrap .i64 ((IntKind.wrap .i64 ((IntKind.wrap .i64 ((IntKind.wrap .i64 ((IntKind.wrap .i64 ((IntKind.wrap .i64 ((IntKind.wrap .i64 (x2 + 1)) + 1)) + 1)) + 1)) + 1)) + 1)) + 1))) fun (y4 : (List Int)) =>
                  bif !decide ((((((rd x1 x3 (Ty.dflt Qc)).2).2).1).2).2 = y4) then
                   some (-1)
                  else
                   bif inB x3 x1.length then
                    bif !decide ((((((rd x1 x3 (Ty.dflt Qc)).2).2).2).1).1 = IntKind.wrap .i64 ((IntKind.wrap .i64 ((IntKind.wrap .i64 ((IntKind.wrap .i64 ((IntKind.wrap .i64 ((IntKind.wrap .i64 ((IntKind.wrap .i64 ((IntKind.wrap .i64 (x2 + 1)) + 1)) + 1)) + 1)) + 1)) + 1)) + 1)) + 1)) then
                     some (-1)
                    else
                     bif inB x3 x1.length then
                      bif !decide ((((((((rd x1 x3 (Ty.dflt Qc)).2).2).2).1).2).1).1 = IntKind.wrap .i64 ((IntKind.wrap .i64 ((IntKind.wrap .i64 ((IntKind.wrap .i64 ((IntKind.wrap .i64 ((IntKind.wrap .i64 ((IntKind.wrap .i64 ((IntKind.wrap .i64 ((IntKind.wrap .i64 (x2 + 1)) + 1)) + 1)) + 1)) + 1)) + 1)) + 1)) + 1)) + 1)) then
                       some (-1)
                      else
                       bif inB x3 x1.length then
                        bif !decide (((((((((rd x1 x3 (Ty.dflt Qc)).2).2).2).1).2).1).2).1 = IntKind.wrap .i64 ((IntKind.wrap .i64 ((IntKind.wrap .i64 ((IntKind.wrap .i64 ((IntKind.wrap .i64 ((IntKind.wrap .i64 ((IntKind.wrap .i64 ((IntKind.wrap .i64 ((IntKind.wrap .i64 ((IntKind.wrap .i64 (x2 + 1)) + 1)) + 1)) + 1)) + 1)) + 1)) + 1)) + 1)) + 1)) + 1)) then
                         some (-1)
                        else
                         bif inB x3 x1.length then
                          Option.bind (Qx (IntKind.wrap .i64 ((IntKind.wrap .i64 ((IntKind.wrap .i64 ((IntKind.wrap .i64 ((IntKind.wrap .i64 ((IntKind.wrap .i64 ((IntKind.wrap .i64 ((IntKind.wrap .i64 ((IntKind.wrap .i64 ((IntKind.wrap .i64 ((IntKind.wrap .i64 (x2 + 1)) + 1)) + 1)) + 1)) + 1)) + 1)) + 1)) + 1)) + 1)) + 1)) + 1))) fun (y5 : (List Int)) =>
                          bif !decide ((((((((((rd x1 x3 (Ty.dflt Qc)).2).2).2).1).2).1).2).2).1 = y5) then
                           some (-1)
                          else
                           bif inB x3 x1.length then
                            Option.bind (Qx (IntKind.wrap .i64 ((IntKind.wrap .i64 ((IntKind.wrap .i64 ((IntKind.wrap .i64 ((IntKind.wrap .i64 ((IntKind.wrap .i64 ((IntKind.wrap .i64 ((IntKind.wrap .i64 ((IntKind.wrap .i64 ((IntKind.wrap .i64 ((IntKind.wrap .i64 ((IntKind.wrap .i64 (x2 + 1)) + 1)) + 1)) + 1)) + 1)) + 1)) + 1)) + 1)) + 1)) + 1)) + 1)) + 1))) fun (y6 : (List Int)) =>
                            bif !decide ((((((((((rd x1 x3 (Ty.dflt Qc)).2).2).2).1).2).1).2).2).2 = y6) then
                             some (-1)
                            else
                             bif inB x3 x1.length then
                              Option.bind (Qx (IntKind.wrap .i64 ((IntKind.wrap .i64 ((IntKind.wrap .i64 ((IntKind.wrap .i64 ((IntKind.wrap .i64 ((IntKind.wrap .i64 ((IntKind.wrap .i64 ((IntKind.wrap .i64 ((IntKind.wrap .i64 ((IntKind.wrap .i64 ((IntKind.wrap .i64 ((IntKind.wrap .i64 ((IntKind.wrap .i64 (x2 + 1)) + 1)) + 1)) + 1)) + 1)) + 1)) + 1)) + 1)) + 1)) + 1)) + 1)) + 1)) + 1))) fun (y7 : (List Int)) =>
                              bif !decide (((((((rd x1 x3 (Ty.dflt Qc)).2).2).2).1).2).2 = y7) then
                               some (-1)
                              else
                               bif inB x3 x1.length then
                                bif !decide (((((((rd x1 x3 (Ty.dflt Qc)).2).2).2).2).1).1 = IntKind.wrap .i64 ((IntKind.wrap .i64 ((IntKind.wrap .i64 ((IntKind.wrap .i64 ((IntKind.wrap .i64 ((IntKind.wrap .i64 ((IntKind.wrap .i64 ((IntKind.wrap .i64 ((IntKind.wrap .i64 ((IntKind.wrap .i64 ((IntKind.wrap .i64 ((IntKind.wrap .i64 ((IntKind.wrap .i64 ((IntKind.wrap .i64 (x2 + 1)) + 1)) + 1)) + 1)) + 1)) + 1)) + 1)) + 1)) + 1)) + 1)) + 1)) + 1)) + 1)) + 1)) then
                                 some (-1)
                                else
                                 bif inB x3 x1.length then
                                  bif !decide (((((((((rd x1 x3 (Ty.dflt Qc)).2).2).2).2).1).2).1).1 = IntKind.wrap .i64 ((IntKind.wrap .i64 ((IntKind.wrap .i64 ((IntKind.wrap .i64 ((IntKind.wrap .i64 ((IntKind.wrap .i64 ((IntKind.wrap .i64 ((IntKind.wrap .i64 ((IntKind.wrap .i64 ((IntKind.wrap .i64 ((IntKind.wrap .i64 ((IntKind.wrap .i64 ((IntKind.wrap .i64 ((IntKind.wrap .i64 ((IntKind.wrap .i64 (x2 + 1)) + 1)) + 1)) + 1)) + 1)) + 1)) + 1)) + 1)) + 1)) + 1)) + 1)) + 1)) + 1)) + 1)) + 1)) then
                                   some (-1)
                                  else
                                   bif inB x3 x1.length then
                                    bif !decide ((((((((((rd x1 x3 (Ty.dflt Qc)).2).2).2).2).1).2).1).2).1 = IntKind.wrap .i64 ((IntKind.wrap .i64 ((IntKind.wrap .i64 ((IntKind.wrap .i64 ((IntKind.wrap .i64 ((IntKind.wrap .i64 ((IntKind.wrap .i64 ((IntKind.wrap .i64 ((IntKind.wrap .i64 ((IntKind.wrap .i64 ((IntKind.wrap .i64 ((IntKind.wrap .i64 ((IntKind.wrap .i64 ((IntKind.wrap .i64 ((IntKind.wrap .i64 ((IntKind.wrap .i64 (x2 + 1)) + 1)) + 1)) + 1)) + 1)) + 1)) + 1)) + 1)) + 1)) + 1)) + 1)) + 1)) + 1)) + 1)) + 1)) + 1)) then
                                     some (-1)
                                    else
                                     bif inB x3 x1.length then
                                      Option.bind (Qx (IntKind.wrap .i64 ((IntKind.wrap .i64 ((IntKind.wrap .i64 ((IntKind.wrap .i64 ((IntKind.wrap .i64 ((IntKind.wrap .i64 ((IntKind.wrap .i64 ((IntKind.wrap .i64 ((IntKind.wrap .i64 ((IntKind.wrap .i64 ((IntKind.wrap .i64 ((IntKind.wrap .i64 ((IntKind.wrap .i64 ((IntKind.wrap .i64 ((IntKind.wrap .i64 ((IntKind.wrap .i64 ((IntKind.wrap .i64 (x2 + 1)) + 1)) + 1)) + 1)) + 1)) + 1)) + 1)) + 1)) + 1)) + 1)) + 1)) + 1)) + 1)) + 1)) + 1)) + 1)) + 1))) fun (y8 : (List Int)) =>
                                      bif !decide (((((((((((rd x1 x3 (Ty.dflt Qc)).2).2).2).2).1).2).1).2).2).1 = y8) then
                                       some (-1)
                                      else
                                       bif inB x3 x1.length then
                                        Option.bind (Qx (IntKind.wrap .i64 ((IntKind.wrap .i64 ((IntKind.wrap .i64 ((IntKind.wrap .i64 ((IntKind.wrap .i64 ((IntKind.wrap .i64 ((IntKind.wrap .i64 ((IntKind.wrap .i64 ((IntKind.wrap .i64 ((IntKind.wrap .i64 ((IntKind.wrap .i64 ((IntKind.wrap .i64 ((IntKind.wrap .i64 ((IntKind.wrap .i64 ((IntKind.wrap .i64 ((IntKind.wrap .i64 ((IntKind.wrap .i64 ((IntKind.wrap .i64 (x2 + 1)) + 1)) + 1)) + 1)) + 1)) + 1)) + 1)) + 1)) + 1)) + 1)) + 1)) + 1)) + 1)) + 1)) + 1)) + 1)) + 1)) + 1))) fun (y9 : (List Int)) =>
                                        bif !decide (((((((((((rd x1 x3 (Ty.dflt Qc)).2).2).2).2).1).2).1).2).2).2 = y9) then
                                         some (-1)
                                        else
                                         bif inB x3 x1.length then
                                          Option.bind (Qx (IntKind.wrap .i64 ((IntKind.wrap .i64 ((IntKind.wrap .i64 ((IntKind.wrap .i64 ((IntKind.wrap .i64 ((IntKind.wrap .i64 ((IntKind.wrap .i64 ((IntKind.wrap .i64 ((IntKind.wrap .i64 ((IntKind.wrap .i64 ((IntKind.wrap .i64 ((IntKind.wrap .i64 ((IntKind.wrap .i64 ((IntKind.wrap .i64 ((IntKind.wrap .i64 ((IntKind.wrap .i64 ((IntKind.wrap .i64 ((IntKind.wrap .i64 ((IntKind.wrap .i64 (x2 + 1)) + 1)) + 1)) + 1)) + 1)) + 1)) + 1)) + 1)) + 1)) + 1)) + 1)) + 1)) + 1)) + 1)) + 1)) + 1)) + 1)) + 1)) + 1))) fun (y10 : (List Int)) =>
                                          bif !decide ((((((((rd x1 x3 (Ty.dflt Qc)).2).2).2).2).1).2).2 = y10) then
                                           some (-1)
                                          else
                                           bif inB x3 x1.length then
                                            Option.bind (Yu ((((((rd x1 x3 (Ty.dflt Qc)).2).2).2).2).2) (IntKind.wrap .i64 ((IntKind.wrap .i64 ((IntKind.wrap .i64 ((IntKind.wrap .i64 ((IntKind.wrap .i64 ((IntKind.wrap .i64 ((IntKind.wrap .i64 ((IntKind.wrap .i64 ((IntKind.wrap .i64 ((IntKind.wrap .i64 ((IntKind.wrap .i64 ((IntKind.wrap .i64 ((IntKind.wrap .i64 ((IntKind.wrap .i64 ((IntKind.wrap .i64 ((IntKind.wrap .i64 ((IntKind.wrap .i64 ((IntKind.wrap .i64 ((IntKind.wrap .i64 ((IntKind.wrap .i64 (x2 + 1)) + 1)) + 1)) + 1)) + 1)) + 1)) + 1)) + 1)) + 1)) + 1)) + 1)) + 1)) + 1)) + 1)) + 1)) + 1)) + 1)) + 1)) + 1)) + 1))) fun (y11 : Int) =>
                                            bif decide (y11 < 0) then
                                             some (-1)
                                            else
                                             YH n x1 y11 (IntKind.wrap .i64 (x3 + 1))
                                           else none
                                         else none
                                       else none
                                     else none
                                   else none
                                 else none
                               else none
                             else none
                           else none
                         else none
                       else none
                     else none
                   else none
                 else none
               else none
             else none
           else none
         else none
       else none
     else none
   else none
  else
   some x2 := by kernel_rfl
theorem QkK {x1 : (List Qd)} (hl : x1.length ≤ maxLen) : ∀ (rest : List Qd) (k : Nat) (x2 : Int) (r : Int), rest = x1.drop k → ZD rest x2 = some r → Ev (fun n => YH n x1 x2 (k : Int)) r := by
 intro rest
 induction rest with
 | nil =>
  intro k x2 r hr h
  have hk := QO hr
  rw [ZD] at h
  refine Ev.step ?_ (fun n => UG n x1 x2 (k : Int))
  rw [show decide ((k : Int) < (x1.length : Int)) = false from decide_eq_false (by omega)]
  exact Ev.neg rfl (Ev.ofSome h)
 | cons e rest ih =>
  intro k x2 r hr h
  obtain ⟨hk, hx, hr2⟩ := QE (d := (Ty.dflt Qc)) hr
  have hw := QA hl hk
  have ih2 : ∀ (z2 : Int) (r : Int), ZD rest z2 = some r → Ev (fun n => YH n x1 z2 (IntKind.wrap .i64 ((k : Int) + 1))) r := by
   intro z2 r h; rw [hw]; exact ih (k + 1) z2 r hr2 h
  rw [ZD] at h
  refine Ev.step ?_ (fun n => UG n x1 x2 (k : Int))
  rw [show decide ((k : Int) < (x1.length : Int)) = true from decide_eq_true (by omega), QB hk, hx]
  exact Ev.pos rfl (Ev.pos rfl (Ev.ofBind h fun y1 h => (Ev.ofBif h (fun h => (Ev.ofSome h)) (fun h => (Ev.pos rfl (Ev.ofBif h (fun h => (Ev.ofSome h)) (fun h => (Ev.pos rfl (Ev.ofBif h (fun h => (Ev.ofSome h)) (fun h => (Ev.pos rfl (Ev.ofBif h (fun h => (Ev.ofSome h)) (fun h => (Ev.pos rfl (Ev.ofBif h (fun h => (Ev.ofSome h)) (fun h => (Ev.pos rfl (Ev.ofBind h fun y2 h => (Ev.ofBif h (fun h => (Ev.ofSome h)) (fun h => (Ev.pos rfl (Ev.ofBind h fun y3 h => (Ev.ofBif h (fun h => (Ev.ofSome h)) (fun h => (Ev.pos rfl (Ev.ofBind h fun y4 h => (Ev.ofBif h (fun h => (Ev.ofSome h)) (fun h => (Ev.pos rfl (Ev.ofBif h (fun h => (Ev.ofSome h)) (fun h => (Ev.pos rfl (Ev.ofBif h (fun h => (Ev.ofSome h)) (fun h => (Ev.pos rfl (Ev.ofBif h (fun h => (Ev.ofSome h)) (fun h => (Ev.pos rfl (Ev.ofBind h fun y5 h => (Ev.ofBif h (fun h => (Ev.ofSome h)) (fun h => (Ev.pos rfl (Ev.ofBind h fun y6 h => (Ev.ofBif h (fun h => (Ev.ofSome h)) (fun h => (Ev.pos rfl (Ev.ofBind h fun y7 h => (Ev.ofBif h (fun h => (Ev.ofSome h)) (fun h => (Ev.pos rfl (Ev.ofBif h (fun h => (Ev.ofSome h)) (fun h => (Ev.pos rfl (Ev.ofBif h (fun h => (Ev.ofSome h)) (fun h => (Ev.pos rfl (Ev.ofBif h (fun h => (Ev.ofSome h)) (fun h => (Ev.pos rfl (Ev.ofBind h fun y8 h => (Ev.ofBif h (fun h => (Ev.ofSome h)) (fun h => (Ev.pos rfl (Ev.ofBind h fun y9 h => (Ev.ofBif h (fun h => (Ev.ofSome h)) (fun h => (Ev.pos rfl (Ev.ofBind h fun y10 h => (Ev.ofBif h (fun h => (Ev.ofSome h)) (fun h => (Ev.pos rfl (Ev.ofBind h fun y11 h => (Ev.ofBif h (fun h => (Ev.ofSome h)) (fun h => (ih2 _ _ h)))))))))))))))))))))))))))))))))))))))))))))))))))))))))))))))))))))))))))
theorem QrX (a0 : (List Qd)) (a1 : Int) {r : Int} (h : Je a0 a1 = some r) : Ev (fun n => Qf3 n a0 a1) r := by
 rw [Je] at h
 refine Ev.of_eq ?_ (fun n => Qmv n a0 a1)
 exact (Ev.ofLen h fun hl h => QkK hl _ (0 : Nat) _ _ rfl h)
theorem Qoh : ∀ x ∈ UR, Qg Tryz.prog x := (Qb Qb9 (Qb Qt3 Qi))
theorem QpH : Qg Tryz.prog (W7) := by
 refine Qh (c := W7) (by kernel_rfl) (by kernel_rfl : Tryz.prog.funcs[22]? = some Tryz.f22) (code := Tryz.f22.body.getD .skip) (by kernel_rfl) (by kernel_rfl) (by kernel_rfl) (A := W8) (I := UQ) (Qoh) ?_
 rintro ⟨a0, a1, u⟩ y hy
 exact (QrX a0 a1 hy).get
noncomputable def Y7 : Ctr := ⟨24, [Qa, I64], [I64], fun x => szC Qa x.1 x.2.1⟩
def Qqa : List (List Nat × Ann) := []
def Qoi : List (List Nat × Nat) := []
noncomputable def Qf4 : List Ctr := []
noncomputable def Qqb (n : Nat) (a0 : Qe) (a1 : Int) : Option Int := run Tryz.prog Qqa Qoi (Qn Qf4) Tryz.f24 (Tryz.f24.body.getD .skip) (Qp [I64]) n (Qu [Qa, I64] (a0, a1, ()))
theorem Qwb (n : Nat) (a0 : Qe) (a1 : Int) : Qqb n a0 a1 =
  bif decide (IntKind.wrap .i64 (a1 - (a0.2.2.1.length : Int)) < 0) then
   some (-1)
  else
   bif decide (IntKind.wrap .i64 ((IntKind.wrap .i64 (a1 - (a0.2.2.1.length : Int))) - (a0.2.2.2.length : Int)) < 0) then
    some (-1)
   else
    some (IntKind.wrap .i64 ((IntKind.wrap .i64 (a1 - (a0.2.2.1.length : Int))) - (a0.2.2.2.length : Int))) := by kernel_rfl
theorem QzQ (hcs : ∀ x ∈ Qf4, Qg Tryz.prog x) (h : ∀ (a0 : Qe) (a1 : Int) y, szC Qa a0 a1 = some y → ∃ n, Qqb n a0 a1 = some y) : Qg Tryz.prog Y7 := by
 refine Qh (c := Y7) (by kernel_rfl) (by kernel_rfl : Tryz.prog.funcs[24]? = some Tryz.f24) (code := Tryz.f24.body.getD .skip) (by kernel_rfl) (by kernel_rfl) (by kernel_rfl) (A := Qqa) (I := Qoi) hcs ?_
 rintro ⟨a0, a1, u⟩ y hy
 exact h a0 a1 y hy
theorem QxT : ∀ x ∈ Qf4, Qg Tryz.prog x := Qi
theorem Xl : Qg Tryz.prog Y7 := QzQ QxT fun a0 a1 y hy => by
 obtain ⟨hw, h0, h1, rfl⟩ := QeM hy
 have hw2 : wfD I64 a0.1 ∧ wfD I64 a0.2.1 ∧ wfD .str a0.2.2.1 ∧ wfD .str a0.2.2.2 := hw
 have hsz : Ty.size Qa a0 = Ty.size I64 a0.1 + (Ty.size I64 a0.2.1 + (Ty.size .str a0.2.2.1 + (Ty.size .str a0.2.2.2))) := rfl
 have z0 : Ty.size I64 a0.1 = 0 := rfl
 have z1 : Ty.size I64 a0.2.1 = 0 := rfl
 have z2 : Ty.size .str a0.2.2.1 = a0.2.2.1.length := rfl
 have z3 : Ty.size .str a0.2.2.2 = a0.2.2.2.length := rfl
 refine ⟨0, ?_⟩
 rw [Qwb, hsz]
 have hn2 : a0.2.2.1.length ≤ maxLen := by have := (hw2.2.2.1).1; unfold maxLen; omega
 rw [Qbm (left := a1) (n := a0.2.2.1.length) (by omega) (by omega) hn2]
 rcases Int.lt_or_le (a1) (a0.2.2.1.length : Int) with h | h
 ·rw [decide_eq_true (show (a1 - (a0.2.2.1.length : Int)) < 0 by omega)]; simp only [cond_true]; unfold Qw; rw [if_neg (by omega)]
 rw [decide_eq_false (show ¬ (a1 - (a0.2.2.1.length : Int)) < 0 by omega)]; simp only [cond_false]
 have h_2 := h; clear h
 have hn3 : a0.2.2.2.length ≤ maxLen := by have := (hw2.2.2.2).1; unfold maxLen; omega
 rw [Qbm (left := (a1 - (a0.2.2.1.length : Int))) (n := a0.2.2.2.length) (by omega) (by omega) hn3]
 rcases Int.lt_or_le ((a1 - (a0.2.2.1.length : Int))) (a0.2.2.2.length : Int) with h | h
 ·rw [decide_eq_true (show ((a1 - (a0.2.2.1.length : Int)) - (a0.2.2.2.length : Int)) < 0 by omega)]; simp only [cond_true]; unfold Qw; rw [if_neg (by omega)]
 rw [decide_eq_false (show ¬ ((a1 - (a0.2.2.1.length : Int)) - (a0.2.2.2.length : Int)) < 0 by omega)]; simp only [cond_false]
 have h_3 := h; clear h
 unfold Qw; rw [if_pos (by omega)]; congr 1 <;> omega
noncomputable def H3 : Ctr := ⟨62, [(.list Qa), I64], [I64], fun x => szC (.list Qa) x.1 x.2.1⟩
def Qf5 : List (List Nat × Ann) := [([0, 5], [.keep 0 0, .keep 0 1, .keep 0 5])]
def QdS : List (List Nat × Nat) := []
noncomputable def Wy : List Ctr := [Y7]
noncomputable def Qoj (n : Nat) (a0 : (List Qe)) (a1 : Int) : Option Int := run Tryz.prog Qf5 QdS (Qn Wy) Tryz.f62 (Tryz.f62.body.getD .skip) (Qp [I64]) n (Qu [(.list Qa), I64] (a0, a1, ()))
noncomputable abbrev W9 (n : Nat) (x1 : (List Qe)) (x2 : Int) (x3 : Int) : Option Int := lam Tryz.prog Qf5 QdS (Qn Wy) Tryz.f62 (Tryz.f62.body.getD .skip) (Qp [I64]) n [0, 5] [.d (.list Qa) x1, .d I64 x2, .d I64 x3]
theorem Qt4 (n : Nat) (a0 : (List Qe)) (a1 : Int) : Qoj n a0 a1 =
  bif decide (IntKind.wrap .i64 (a1 - (a0.length : Int)) < 0) then
   some (-1)
  else
   W9 n a0 (IntKind.wrap .i64 (a1 - (a0.length : Int))) 0 := by kernel_rfl
theorem Qmw (n : Nat) (x1 : (List Qe)) (x2 : Int) (x3 : Int) : W9 (n + 1) x1 x2 x3 =
  bif decide (x3 < (x1.length : Int)) then
   bif inB x3 x1.length then
    Option.bind (szC Qa (rd x1 x3 (Ty.dflt Qa)) x2) fun (y1 : Int) =>
    bif decide (y1 < 0) then
     some (-1)
    else
     W9 n x1 y1 (IntKind.wrap .i64 (x3 + 1))
   else none
  else
   some x2 := by kernel_rfl
theorem QxU (hcs : ∀ x ∈ Wy, Qg Tryz.prog x) (h : ∀ (a0 : (List Qe)) (a1 : Int) y, szC (.list Qa) a0 a1 = some y → ∃ n, Qoj n a0 a1 = some y) : Qg Tryz.prog H3 := by
 refine Qh (c := H3) (by kernel_rfl) (by kernel_rfl : Tryz.prog.funcs[62]? = some Tryz.f62) (code := Tryz.f62.body.getD .skip) (by kernel_rfl) (by kernel_rfl) (by kernel_rfl) (A := Qf5) (I := QdS) hcs ?_
 rintro ⟨a0, a1, u⟩ y hy
 exact h a0 a1 y hy
theorem Qwc : ∀ x ∈ Wy, Qg Tryz.prog x := (Qb Xl Qi)
theorem QlL : Qg Tryz.prog H3 := QxU Qwc fun a0 a1 y hy => by
 obtain ⟨n, hn⟩ := QmY (fun n xs s i => Qmw n xs s i) hy
 exact ⟨n, (Qt4 n a0 a1).trans hn⟩
noncomputable def VX : Ctr := ⟨25, [(.list .str), I64], [I64], fun x => szC (.list .str) x.1 x.2.1⟩
def Qcg : List (List Nat × Ann) := [([0, 5], [.keep 0 0, .keep 0 1, .keep 0 5])]
def QaC : List (List Nat × Nat) := []
noncomputable def Hx : List Ctr := []
noncomputable def Qje (n : Nat) (a0 : (List (List Int))) (a1 : Int) : Option Int := run Tryz.prog Qcg QaC (Qn Hx) Tryz.f25 (Tryz.f25.body.getD .skip) (Qp [I64]) n (Qu [(.list .str), I64] (a0, a1, ()))
noncomputable abbrev H4 (n : Nat) (x1 : (List (List Int))) (x2 : Int) (x3 : Int) : Option Int := lam Tryz.prog Qcg QaC (Qn Hx) Tryz.f25 (Tryz.f25.body.getD .skip) (Qp [I64]) n [0, 5] [.d (.list .str) x1, .d I64 x2, .d I64 x3]
theorem QpI (n : Nat) (a0 : (List (List Int))) (a1 : Int) : Qje n a0 a1 =
  bif decide (IntKind.wrap .i64 (a1 - (a0.length : Int)) < 0) then
   some (-1)
  else
   H4 n a0 (IntKind.wrap .i64 (a1 - (a0.length : Int))) 0 := by kernel_rfl
theorem Qjf (n : Nat) (x1 : (List (List Int))) (x2 : Int) (x3 : Int) : H4 (n + 1) x1 x2 x3 =
  bif decide (x3 < (x1.length : Int)) then
   bif inB x3 x1.length then
    bif decide (IntKind.wrap .i64 (x2 - ((rd x1 x3 (Ty.dflt .str)).length : Int)) < 0) then
     some (-1)
    else
     H4 n x1 (IntKind.wrap .i64 (x2 - ((rd x1 x3 (Ty.dflt .str)).length : Int))) (IntKind.wrap .i64 (x3 + 1))
   else none
  else
   some x2 := by kernel_rfl
theorem Qt5 (hcs : ∀ x ∈ Hx, Qg Tryz.prog x) (h : ∀ (a0 : (List (List Int))) (a1 : Int) y, szC (.list .str) a0 a1 = some y → ∃ n, Qje n a0 a1 = some y) : Qg Tryz.prog VX := by
 refine Qh (c := VX) (by kernel_rfl) (by kernel_rfl : Tryz.prog.funcs[25]? = some Tryz.f25) (code := Tryz.f25.body.getD .skip) (by kernel_rfl) (by kernel_rfl) (by kernel_rfl) (A := Qcg) (I := QaC) hcs ?_
 rintro ⟨a0, a1, u⟩ y hy
 exact h a0 a1 y hy
theorem QrY : ∀ x ∈ Hx, Qg Tryz.prog x := Qi
theorem QaD : Qg Tryz.prog VX := Qt5 QrY fun a0 a1 y hy => by
 obtain ⟨n, hn⟩ := QF6 (fun n xs s i => Qjf n xs s i) hy
 exact ⟨n, (QpI n a0 a1).trans hn⟩
noncomputable def QaE : Ctr := ⟨63, [Qm, I64], [I64], fun x => szC Qm x.1 x.2.1⟩
def Qok : List (List Nat × Ann) := []
def QlM : List (List Nat × Nat) := []
noncomputable def QdT : List Ctr := [Y7, H3, VX]
noncomputable def Qol (n : Nat) (a0 : Qz) (a1 : Int) : Option Int := run Tryz.prog Qok QlM (Qn QdT) Tryz.f63 (Tryz.f63.body.getD .skip) (Qp [I64]) n (Qu [Qm, I64] (a0, a1, ()))
theorem Qt6 (n : Nat) (a0 : Qz) (a1 : Int) : Qol n a0 a1 =
  Option.bind (szC Qa a0.2.1 a1) fun (y1 : Int) =>
  bif decide (y1 < 0) then
   some (-1)
  else
   Option.bind (szC (.list Qa) a0.2.2.1 y1) fun (y2 : Int) =>
   bif decide (y2 < 0) then
    some (-1)
   else
    Option.bind (szC (.list .str) a0.2.2.2 y2) fun (y3 : Int) =>
    bif decide (y3 < 0) then
     some (-1)
    else
     some y3 := by kernel_rfl
theorem QxV (hcs : ∀ x ∈ QdT, Qg Tryz.prog x) (h : ∀ (a0 : Qz) (a1 : Int) y, szC Qm a0 a1 = some y → ∃ n, Qol n a0 a1 = some y) : Qg Tryz.prog QaE := by
 refine Qh (c := QaE) (by kernel_rfl) (by kernel_rfl : Tryz.prog.funcs[63]? = some Tryz.f63) (code := Tryz.f63.body.getD .skip) (by kernel_rfl) (by kernel_rfl) (by kernel_rfl) (A := Qok) (I := QlM) hcs ?_
 rintro ⟨a0, a1, u⟩ y hy
 exact h a0 a1 y hy
theorem Qwd : ∀ x ∈ QdT, Qg Tryz.prog x := (Qb Xl (Qb QlL (Qb QaD Qi)))
theorem QxW : Qg Tryz.prog QaE := QxV Qwd fun a0 a1 y hy => by
 obtain ⟨hw, h0, h1, rfl⟩ := QeM hy
 have hw2 : wfD I64 a0.1 ∧ wfD Qa a0.2.1 ∧ wfD (.list Qa) a0.2.2.1 ∧ wfD (.list .str) a0.2.2.2 := hw
 have hsz : Ty.size Qm a0 = Ty.size I64 a0.1 + (Ty.size Qa a0.2.1 + (Ty.size (.list Qa) a0.2.2.1 + (Ty.size (.list .str) a0.2.2.2))) := rfl
 have z0 : Ty.size I64 a0.1 = 0 := rfl
 refine ⟨0, ?_⟩
 rw [Qt6, hsz]
 rw [JQ hw2.2.1 (show 0 ≤ a1 by omega) (by omega)]
 simp only [Option.bind_some]
 rcases Int.lt_or_le (a1) ((Ty.size Qa a0.2.1 : Nat) : Int) with h | h
 ·rw [show Qw (a1) (Ty.size Qa a0.2.1) = -1 by unfold Qw; rw [if_neg (by omega)]]; rw [decide_eq_true (show (-1 : Int) < 0 by omega)]; simp only [cond_true]; unfold Qw; rw [if_neg (by omega)]
 rw [show Qw (a1) (Ty.size Qa a0.2.1) = (a1 - ((Ty.size Qa a0.2.1 : Nat) : Int)) by unfold Qw; rw [if_pos h]]; rw [decide_eq_false (show ¬ (a1 - ((Ty.size Qa a0.2.1 : Nat) : Int)) < 0 by omega)]; simp only [cond_false]
 have h_1 := h; clear h
 rw [JQ hw2.2.2.1 (show 0 ≤ (a1 - ((Ty.size Qa a0.2.1 : Nat) : Int)) by omega) (by omega)]
 simp only [Option.bind_some]
 rcases Int.lt_or_le ((a1 - ((Ty.size Qa a0.2.1 : Nat) : Int))) ((Ty.size (.list Qa) a0.2.2.1 : Nat) : Int) with h | h
 ·rw [show Qw ((a1 - ((Ty.size Qa a0.2.1 : Nat) : Int))) (Ty.size (.list Qa) a0.2.2.1) = -1 by unfold Qw; rw [if_neg (by omega)]]; rw [decide_eq_true (show (-1 : Int) < 0 by omega)]; simp only [cond_true]; unfold Qw; rw [if_neg (by omega)]
 rw [show Qw ((a1 - ((Ty.size Qa a0.2.1 : Nat) : Int))) (Ty.size (.list Qa) a0.2.2.1) = ((a1 - ((Ty.size Qa a0.2.1 : Nat) : Int)) - ((Ty.size (.list Qa) a0.2.2.1 : Nat) : Int)) by unfold Qw; rw [if_pos h]]; rw [decide_eq_false (show ¬ ((a1 - ((Ty.size Qa a0.2.1 : Nat) : Int)) - ((Ty.size (.list Qa) a0.2.2.1 : Nat) : Int)) < 0 by omega)]; simp only [cond_false]
 have h_2 := h; clear h
 rw [JQ hw2.2.2.2 (show 0 ≤ ((a1 - ((Ty.size Qa a0.2.1 : Nat) : Int)) - ((Ty.size (.list Qa) a0.2.2.1 : Nat) : Int)) by omega) (by omega)]
 simp only [Option.bind_some]
 rcases Int.lt_or_le (((a1 - ((Ty.size Qa a0.2.1 : Nat) : Int)) - ((Ty.size (.list Qa) a0.2.2.1 : Nat) : Int))) ((Ty.size (.list .str) a0.2.2.2 : Nat) : Int) with h | h
 ·rw [show Qw (((a1 - ((Ty.size Qa a0.2.1 : Nat) : Int)) - ((Ty.size (.list Qa) a0.2.2.1 : Nat) : Int))) (Ty.size (.list .str) a0.2.2.2) = -1 by unfold Qw; rw [if_neg (by omega)]]; rw [decide_eq_true (show (-1 : Int) < 0 by omega)]; simp only [cond_true]; unfold Qw; rw [if_neg (by omega)]
 rw [show Qw (((a1 - ((Ty.size Qa a0.2.1 : Nat) : Int)) - ((Ty.size (.list Qa) a0.2.2.1 : Nat) : Int))) (Ty.size (.list .str) a0.2.2.2) = (((a1 - ((Ty.size Qa a0.2.1 : Nat) : Int)) - ((Ty.size (.list Qa) a0.2.2.1 : Nat) : Int)) - ((Ty.size (.list .str) a0.2.2.2 : Nat) : Int)) by unfold Qw; rw [if_pos h]]; rw [decide_eq_false (show ¬ (((a1 - ((Ty.size Qa a0.2.1 : Nat) : Int)) - ((Ty.size (.list Qa) a0.2.2.1 : Nat) : Int)) - ((Ty.size (.list .str) a0.2.2.2 : Nat) : Int)) < 0 by omega)]; simp only [cond_false]
 have h_3 := h; clear h
 unfold Qw; rw [if_pos (by omega)]; congr 1 <;> omega
noncomputable def XZ : Ctr := ⟨26, [(.list Qm), I64], [I64], fun x => szC (.list Qm) x.1 x.2.1⟩
def QdU : List (List Nat × Ann) := [([0, 5], [.keep 0 0, .keep 0 1, .keep 0 5])]
def Qch : List (List Nat × Nat) := []
noncomputable def Ux : List Ctr := [QaE]
noncomputable def QlN (n : Nat) (a0 : (List Qz)) (a1 : Int) : Option Int := run Tryz.prog QdU Qch (Qn Ux) Tryz.f26 (Tryz.f26.body.getD .skip) (Qp [I64]) n (Qu [(.list Qm), I64] (a0, a1, ()))
noncomputable abbrev US (n : Nat) (x1 : (List Qz)) (x2 : Int) (x3 : Int) : Option Int := lam Tryz.prog QdU Qch (Qn Ux) Tryz.f26 (Tryz.f26.body.getD .skip) (Qp [I64]) n [0, 5] [.d (.list Qm) x1, .d I64 x2, .d I64 x3]
theorem QrZ (n : Nat) (a0 : (List Qz)) (a1 : Int) : QlN n a0 a1 =
  bif decide (IntKind.wrap .i64 (a1 - (a0.length : Int)) < 0) then
   some (-1)
  else
   US n a0 (IntKind.wrap .i64 (a1 - (a0.length : Int))) 0 := by kernel_rfl
theorem QkL (n : Nat) (x1 : (List Qz)) (x2 : Int) (x3 : Int) : US (n + 1) x1 x2 x3 =
  bif decide (x3 < (x1.length : Int)) then
   bif inB x3 x1.length then
    Option.bind (szC Qm (rd x1 x3 (Ty.dflt Qm)) x2) fun (y1 : Int) =>
    bif decide (y1 < 0) then
     some (-1)
    else
     US n x1 y1 (IntKind.wrap .i64 (x3 + 1))
   else none
  else
   some x2 := by kernel_rfl
theorem Qwe (hcs : ∀ x ∈ Ux, Qg Tryz.prog x) (h : ∀ (a0 : (List Qz)) (a1 : Int) y, szC (.list Qm) a0 a1 = some y → ∃ n, QlN n a0 a1 = some y) : Qg Tryz.prog XZ := by
 refine Qh (c := XZ) (by kernel_rfl) (by kernel_rfl : Tryz.prog.funcs[26]? = some Tryz.f26) (code := Tryz.f26.body.getD .skip) (by kernel_rfl) (by kernel_rfl) (by kernel_rfl) (A := QdU) (I := Qch) hcs ?_
 rintro ⟨a0, a1, u⟩ y hy
 exact h a0 a1 y hy
theorem Qt7 : ∀ x ∈ Ux, Qg Tryz.prog x := (Qb QxW Qi)
theorem Qjg : Qg Tryz.prog XZ := Qwe Qt7 fun a0 a1 y hy => by
 obtain ⟨n, hn⟩ := QmY (fun n xs s i => QkL n xs s i) hy
 exact ⟨n, (QrZ n a0 a1).trans hn⟩
noncomputable def QaF : Ctr := ⟨23, [Qf, I64], [I64], fun x => szC Qf x.1 x.2.1⟩
def Qom : List (List Nat × Ann) := []
def QlO : List (List Nat × Nat) := []
noncomputable def QdV : List Ctr := [Y7, H3, VX, XZ]
noncomputable def Qon (n : Nat) (a0 : Qj) (a1 : Int) : Option Int := run Tryz.prog Qom QlO (Qn QdV) Tryz.f23 (Tryz.f23.body.getD .skip) (Qp [I64]) n (Qu [Qf, I64] (a0, a1, ()))
theorem Qt8 (n : Nat) (a0 : Qj) (a1 : Int) : Qon n a0 a1 =
  Option.bind (szC Qa a0.1 a1) fun (y1 : Int) =>
  bif decide (y1 < 0) then
   some (-1)
  else
   Option.bind (szC (.list Qa) a0.2.1 y1) fun (y2 : Int) =>
   bif decide (y2 < 0) then
    some (-1)
   else
    Option.bind (szC (.list .str) a0.2.2.1 y2) fun (y3 : Int) =>
    bif decide (y3 < 0) then
     some (-1)
    else
     Option.bind (szC (.list Qm) a0.2.2.2 y3) fun (y4 : Int) =>
     bif decide (y4 < 0) then
      some (-1)
     else
      some y4 := by kernel_rfl
theorem QxX (hcs : ∀ x ∈ QdV, Qg Tryz.prog x) (h : ∀ (a0 : Qj) (a1 : Int) y, szC Qf a0 a1 = some y → ∃ n, Qon n a0 a1 = some y) : Qg Tryz.prog QaF := by
 refine Qh (c := QaF) (by kernel_rfl) (by kernel_rfl : Tryz.prog.funcs[23]? = some Tryz.f23) (code := Tryz.f23.body.getD .skip) (by kernel_rfl) (by kernel_rfl) (by kernel_rfl) (A := Qom) (I := QlO) hcs ?_
 rintro ⟨a0, a1, u⟩ y hy
 exact h a0 a1 y hy
theorem Qwf : ∀ x ∈ QdV, Qg Tryz.prog x := (Qb Xl (Qb QlL (Qb QaD (Qb Qjg Qi))))
theorem QxY : Qg Tryz.prog QaF := QxX Qwf fun a0 a1 y hy => by
 obtain ⟨hw, h0, h1, rfl⟩ := QeM hy
 have hw2 : wfD Qa a0.1 ∧ wfD (.list Qa) a0.2.1 ∧ wfD (.list .str) a0.2.2.1 ∧ wfD (.list Qm) a0.2.2.2 := hw
 have hsz : Ty.size Qf a0 = Ty.size Qa a0.1 + (Ty.size (.list Qa) a0.2.1 + (Ty.size (.list .str) a0.2.2.1 + (Ty.size (.list Qm) a0.2.2.2))) := rfl
 refine ⟨0, ?_⟩
 rw [Qt8, hsz]
 rw [JQ hw2.1 (show 0 ≤ a1 by omega) (by omega)]
 simp only [Option.bind_some]
 rcases Int.lt_or_le (a1) ((Ty.size Qa a0.1 : Nat) : Int) with h | h
 ·rw [show Qw (a1) (Ty.size Qa a0.1) = -1 by unfold Qw; rw [if_neg (by omega)]]; rw [decide_eq_true (show (-1 : Int) < 0 by omega)]; simp only [cond_true]; unfold Qw; rw [if_neg (by omega)]
 rw [show Qw (a1) (Ty.size Qa a0.1) = (a1 - ((Ty.size Qa a0.1 : Nat) : Int)) by unfold Qw; rw [if_pos h]]; rw [decide_eq_false (show ¬ (a1 - ((Ty.size Qa a0.1 : Nat) : Int)) < 0 by omega)]; simp only [cond_false]
 have h_0 := h; clear h
 rw [JQ hw2.2.1 (show 0 ≤ (a1 - ((Ty.size Qa a0.1 : Nat) : Int)) by omega) (by omega)]
 simp only [Option.bind_some]
 rcases Int.lt_or_le ((a1 - ((Ty.size Qa a0.1 : Nat) : Int))) ((Ty.size (.list Qa) a0.2.1 : Nat) : Int) with h | h
 ·rw [show Qw ((a1 - ((Ty.size Qa a0.1 : Nat) : Int))) (Ty.size (.list Qa) a0.2.1) = -1 by unfold Qw; rw [if_neg (by omega)]]; rw [decide_eq_true (show (-1 : Int) < 0 by omega)]; simp only [cond_true]; unfold Qw; rw [if_neg (by omega)]
 rw [show Qw ((a1 - ((Ty.size Qa a0.1 : Nat) : Int))) (Ty.size (.list Qa) a0.2.1) = ((a1 - ((Ty.size Qa a0.1 : Nat) : Int)) - ((Ty.size (.list Qa) a0.2.1 : Nat) : Int)) by unfold Qw; rw [if_pos h]]; rw [decide_eq_false (show ¬ ((a1 - ((Ty.size Qa a0.1 : Nat) : Int)) - ((Ty.size (.list Qa) a0.2.1 : Nat) : Int)) < 0 by omega)]; simp only [cond_false]
 have h_1 := h; clear h
 rw [JQ hw2.2.2.1 (show 0 ≤ ((a1 - ((Ty.size Qa a0.1 : Nat) : Int)) - ((Ty.size (.list Qa) a0.2.1 : Nat) : Int)) by omega) (by omega)]
 simp only [Option.bind_some]
 rcases Int.lt_or_le (((a1 - ((Ty.size Qa a0.1 : Nat) : Int)) - ((Ty.size (.list Qa) a0.2.1 : Nat) : Int))) ((Ty.size (.list .str) a0.2.2.1 : Nat) : Int) with h | h
 ·rw [show Qw (((a1 - ((Ty.size Qa a0.1 : Nat) : Int)) - ((Ty.size (.list Qa) a0.2.1 : Nat) : Int))) (Ty.size (.list .str) a0.2.2.1) = -1 by unfold Qw; rw [if_neg (by omega)]]; rw [decide_eq_true (show (-1 : Int) < 0 by omega)]; simp only [cond_true]; unfold Qw; rw [if_neg (by omega)]
 rw [show Qw (((a1 - ((Ty.size Qa a0.1 : Nat) : Int)) - ((Ty.size (.list Qa) a0.2.1 : Nat) : Int))) (Ty.size (.list .str) a0.2.2.1) = (((a1 - ((Ty.size Qa a0.1 : Nat) : Int)) - ((Ty.size (.list Qa) a0.2.1 : Nat) : Int)) - ((Ty.size (.list .str) a0.2.2.1 : Nat) : Int)) by unfold Qw; rw [if_pos h]]; rw [decide_eq_false (show ¬ (((a1 - ((Ty.size Qa a0.1 : Nat) : Int)) - ((Ty.size (.list Qa) a0.2.1 : Nat) : Int)) - ((Ty.size (.list .str) a0.2.2.1 : Nat) : Int)) < 0 by omega)]; simp only [cond_false]
 have h_2 := h; clear h
 rw [JQ hw2.2.2.2 (show 0 ≤ (((a1 - ((Ty.size Qa a0.1 : Nat) : Int)) - ((Ty.size (.list Qa) a0.2.1 : Nat) : Int)) - ((Ty.size (.list .str) a0.2.2.1 : Nat) : Int)) by omega) (by omega)]
 simp only [Option.bind_some]
 rcases Int.lt_or_le ((((a1 - ((Ty.size Qa a0.1 : Nat) : Int)) - ((Ty.size (.list Qa) a0.2.1 : Nat) : Int)) - ((Ty.size (.list .str) a0.2.2.1 : Nat) : Int))) ((Ty.size (.list Qm) a0.2.2.2 : Nat) : Int) with h | h
 ·rw [show Qw ((((a1 - ((Ty.size Qa a0.1 : Nat) : Int)) - ((Ty.size (.list Qa) a0.2.1 : Nat) : Int)) - ((Ty.size (.list .str) a0.2.2.1 : Nat) : Int))) (Ty.size (.list Qm) a0.2.2.2) = -1 by unfold Qw; rw [if_neg (by omega)]]; rw [decide_eq_true (show (-1 : Int) < 0 by omega)]; simp only [cond_true]; unfold Qw; rw [if_neg (by omega)]
 rw [show Qw ((((a1 - ((Ty.size Qa a0.1 : Nat) : Int)) - ((Ty.size (.list Qa) a0.2.1 : Nat) : Int)) - ((Ty.size (.list .str) a0.2.2.1 : Nat) : Int))) (Ty.size (.list Qm) a0.2.2.2) = ((((a1 - ((Ty.size Qa a0.1 : Nat) : Int)) - ((Ty.size (.list Qa) a0.2.1 : Nat) : Int)) - ((Ty.size (.list .str) a0.2.2.1 : Nat) : Int)) - ((Ty.size (.list Qm) a0.2.2.2 : Nat) : Int)) by unfold Qw; rw [if_pos h]]; rw [decide_eq_false (show ¬ ((((a1 - ((Ty.size Qa a0.1 : Nat) : Int)) - ((Ty.size (.list Qa) a0.2.1 : Nat) : Int)) - ((Ty.size (.list .str) a0.2.2.1 : Nat) : Int)) - ((Ty.size (.list Qm) a0.2.2.2 : Nat) : Int)) < 0 by omega)]; simp only [cond_false]
 have h_3 := h; clear h
 unfold Qw; rw [if_pos (by omega)]; congr 1 <;> omega
noncomputable def Wz : Ctr := ⟨5, [(.list Qf), I64], [I64], fun x => szC (.list Qf) x.1 x.2.1⟩
def QdW : List (List Nat × Ann) := [([0, 5], [.keep 0 0, .keep 0 1, .keep 0 5])]
def Qci : List (List Nat × Nat) := []
noncomputable def Uy : List Ctr := [QaF]
noncomputable def QlP (n : Nat) (a0 : (List Qj)) (a1 : Int) : Option Int := run Tryz.prog QdW Qci (Qn Uy) Tryz.f5 (Tryz.f5.body.getD .skip) (Qp [I64]) n (Qu [(.list Qf), I64] (a0, a1, ()))
noncomputable abbrev UT (n : Nat) (x1 : (List Qj)) (x2 : Int) (x3 : Int) : Option Int := lam Tryz.prog QdW Qci (Qn Uy) Tryz.f5 (Tryz.f5.body.getD .skip) (Qp [I64]) n [0, 5] [.d (.list Qf) x1, .d I64 x2, .d I64 x3]
theorem Qr0 (n : Nat) (a0 : (List Qj)) (a1 : Int) : QlP n a0 a1 =
  bif decide (IntKind.wrap .i64 (a1 - (a0.length : Int)) < 0) then
   some (-1)
  else
   UT n a0 (IntKind.wrap .i64 (a1 - (a0.length : Int))) 0 := by kernel_rfl
theorem QkM (n : Nat) (x1 : (List Qj)) (x2 : Int) (x3 : Int) : UT (n + 1) x1 x2 x3 =
  bif decide (x3 < (x1.length : Int)) then
   bif inB x3 x1.length then
    Option.bind (szC Qf (((rd x1 x3 (Ty.dflt Qf)).1), ((rd x1 x3 (Ty.dflt Qf)).2)) x2) fun (y1 : Int) =>
    bif decide (y1 < 0) then
     some (-1)
    else
     UT n x1 y1 (IntKind.wrap .i64 (x3 + 1))
   else none
  else
   some x2 := by kernel_rfl
theorem Qwg (hcs : ∀ x ∈ Uy, Qg Tryz.prog x) (h : ∀ (a0 : (List Qj)) (a1 : Int) y, szC (.list Qf) a0 a1 = some y → ∃ n, QlP n a0 a1 = some y) : Qg Tryz.prog Wz := by
 refine Qh (c := Wz) (by kernel_rfl) (by kernel_rfl : Tryz.prog.funcs[5]? = some Tryz.f5) (code := Tryz.f5.body.getD .skip) (by kernel_rfl) (by kernel_rfl) (by kernel_rfl) (A := QdW) (I := Qci) hcs ?_
 rintro ⟨a0, a1, u⟩ y hy
 exact h a0 a1 y hy
theorem Qt9 : ∀ x ∈ Uy, Qg Tryz.prog x := (Qb QxY Qi)
theorem Qwh : Qg Tryz.prog Wz := Qwg Qt9 fun a0 a1 y hy => by
 obtain ⟨n, hn⟩ := QmY (fun n xs s i => QkM n xs s i) hy
 exact ⟨n, (Qr0 n a0 a1).trans hn⟩
end Go.Ab
