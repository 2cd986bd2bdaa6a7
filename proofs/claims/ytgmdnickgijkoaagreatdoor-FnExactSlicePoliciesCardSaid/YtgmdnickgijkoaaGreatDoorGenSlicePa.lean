import Derived.Test.YtgmdnickgijkoaaGreatDoorAb31
import Derived.Test.YtgmdnickgijkoaaGreatDoorProg
import Derived.KernelRfl
namespace Go.Ab
open Go.Proofs
set_option maxRecDepth 20000
abbrev I64 : Ty := .int .i64
abbrev U8 : Ty := .int .u8
abbrev Qa : Ty := (.pair I64 (.pair I64 (.pair .str .str)))
abbrev Qe : Type := (Int × (Int × ((List Int) × (List Int))))
abbrev Qm : Ty := (.pair I64 (.pair Qa (.pair (.list Qa) (.list .str))))
abbrev Qz : Type := (Int × (Qe × ((List Qe) × (List (List Int)))))
abbrev Qf : Ty := (.pair Qa (.pair (.list Qa) (.pair (.list .str) (.list Qm))))
abbrev Qj : Type := (Qe × ((List Qe) × ((List (List Int)) × (List Qz))))
abbrev Qr : Ty := (.pair Qa (.pair Qa (.pair Qa (.pair (.list .str) (.list Qm)))))
abbrev Qt : Type := (Qe × (Qe × (Qe × ((List (List Int)) × (List Qz)))))
abbrev Qs : Ty := (.pair I64 (.pair Qa .str))
abbrev ZE : Type := (Int × (Qe × (List Int)))
abbrev Ql : Ty := (.pair I64 (.pair .str (.pair Qa I64)))
abbrev Qo : Type := (Int × ((List Int) × (Qe × Int)))
abbrev Qc : Ty := (.pair .str (.pair .bool (.pair Qs (.pair Qs (.pair Qs (.list Ql))))))
abbrev Qd : Type := ((List Int) × (Bool × (ZE × (ZE × (ZE × (List Qo))))))
abbrev YA : Ty := (.tree Ql)
abbrev Qv : Type := (Tree Qo)
noncomputable def ZZ : List Int → Option Bool
 | [] =>
   some true
 | e :: rest =>
   bif decide (e < 32) then
    some false
   else
    bif decide ((126 : Int) < e) then
     some false
    else
     ZZ rest
noncomputable def ZQ (a0 : (List Int)) : Option Bool :=
 Jg a0 (ZZ a0)
noncomputable def Ue : Ctr := ⟨144, [.str], [.bool], fun x => ZQ x.1⟩
def Qbs : List (List Nat × Ann) := [([0, 2], [.keep 0 0, .keep 0 3])]
def EI : List (List Nat × Nat) := []
noncomputable def EJ : List Ctr := []
noncomputable def Qib (n : Nat) (a0 : (List Int)) : Option Bool := run Tryz.prog Qbs EI (Qn EJ) Tryz.f144 (Tryz.f144.body.getD .skip) (Qp [.bool]) n (Qu [.str] (a0, ()))
noncomputable abbrev Vd (n : Nat) (x1 : (List Int)) (x2 : Int) : Option Bool := lam Tryz.prog Qbs EI (Qn EJ) Tryz.f144 (Tryz.f144.body.getD .skip) (Qp [.bool]) n [0, 2] [.d .str x1, .d I64 x2]
theorem QoT (n : Nat) (a0 : (List Int)) : Qib n a0 =
  Vd n a0 0 := by kernel_rfl
theorem Ej (n : Nat) (x1 : (List Int)) (x2 : Int) : Vd (n + 1) x1 x2 =
  bif decide (x2 < (x1.length : Int)) then
   bif inB x2 x1.length then
    bif decide (rd x1 x2 0 < 32) then
     some false
    else
     bif inB x2 x1.length then
      bif decide ((126 : Int) < rd x1 x2 0) then
       some false
      else
       Vd n x1 (IntKind.wrap .i64 (x2 + 1))
     else none
   else none
  else
   some true := by kernel_rfl
theorem Qm3 {x1 : (List Int)} (hl : x1.length ≤ maxLen) : ∀ (rest : List Int) (k : Nat) (r : Bool), rest = x1.drop k → ZZ rest = some r → Ev (fun n => Vd n x1 (k : Int)) r := by
 intro rest
 induction rest with
 | nil =>
  intro k r hr h
  have hk := QO hr
  rw [ZZ] at h
  refine Ev.step ?_ (fun n => Ej n x1 (k : Int))
  rw [show decide ((k : Int) < (x1.length : Int)) = false from decide_eq_false (by omega)]
  exact Ev.neg rfl (Ev.ofSome h)
 | cons e rest ih =>
  intro k r hr h
  obtain ⟨hk, hx, hr2⟩ := QE (d := 0) hr
  have hw := QA hl hk
  have ih2 : ∀ (r : Bool), ZZ rest = some r → Ev (fun n => Vd n x1 (IntKind.wrap .i64 ((k : Int) + 1))) r := by
   intro r h; rw [hw]; exact ih (k + 1) r hr2 h
  rw [ZZ] at h
  refine Ev.step ?_ (fun n => Ej n x1 (k : Int))
  rw [show decide ((k : Int) < (x1.length : Int)) = true from decide_eq_true (by omega), QB hk, hx]
  exact Ev.pos rfl (Ev.pos rfl (Ev.ofBif h (fun h => (Ev.ofSome h)) (fun h => (Ev.pos rfl (Ev.ofBif h (fun h => (Ev.ofSome h)) (fun h => (ih2  _ h)))))))
theorem Qvf (a0 : (List Int)) {r : Bool} (h : ZQ a0 = some r) : Ev (fun n => Qib n a0) r := by
 rw [ZQ] at h
 refine Ev.of_eq ?_ (fun n => QoT n a0)
 exact (Ev.ofLen h fun hl h => Qm3 hl _ (0 : Nat) _ rfl h)
theorem QqR : ∀ x ∈ EJ, Qg Tryz.prog x := Qi
theorem QgC : Qg Tryz.prog (Ue) := by
 refine Qh (c := Ue) (by kernel_rfl) (by kernel_rfl : Tryz.prog.funcs[144]? = some Tryz.f144) (code := Tryz.f144.body.getD .skip) (by kernel_rfl) (by kernel_rfl) (by kernel_rfl) (A := Qbs) (I := EI) (QqR) ?_
 rintro ⟨a0, u⟩ y hy
 exact (Qvf a0 hy).get
noncomputable def Ya (a0 : Int) : Bool :=
 bif decide ((48 : Int) ≤ a0) then
  decide (a0 ≤ 57)
 else
  false
noncomputable def EK : Ctr := ⟨147, [U8], [.bool], fun x => some (Ya x.1)⟩
def Qm4 : List (List Nat × Ann) := []
def QkR : List (List Nat × Nat) := []
noncomputable def QkS : List Ctr := []
noncomputable def Qm5 (n : Nat) (a0 : Int) : Option Bool := run Tryz.prog Qm4 QkR (Qn QkS) Tryz.f147 (Tryz.f147.body.getD .skip) (Qp [.bool]) n (Qu [U8] (a0, ()))
theorem QsO (n : Nat) (a0 : Int) : Qm5 n a0 =
  bif decide ((48 : Int) ≤ a0) then
   some (decide (a0 ≤ 57))
  else
   some false := by kernel_rfl
theorem Qzu (n : Nat) (a0 : Int) : Qm5 n a0 = some (Ya a0) := (QsO n a0).trans (ZI rfl rfl)
theorem Qvg : ∀ x ∈ QkS, Qg Tryz.prog x := Qi
theorem QkT : Qg Tryz.prog (EK) := by
 refine Qh (c := EK) (by kernel_rfl) (by kernel_rfl : Tryz.prog.funcs[147]? = some Tryz.f147) (code := Tryz.f147.body.getD .skip) (by kernel_rfl) (by kernel_rfl) (by kernel_rfl) (A := Qm4) (I := QkR) (Qvg) ?_
 rintro ⟨a0, u⟩ y hy
 exact ⟨0, (Qzu 0 a0).trans hy⟩
noncomputable def YN (a0 : Int) : Bool :=
 bif decide ((97 : Int) ≤ a0) then
  bif decide (a0 ≤ 122) then
   true
  else
   bif decide ((65 : Int) ≤ a0) then
    decide (a0 ≤ 90)
   else
    false
 else
  bif decide ((65 : Int) ≤ a0) then
   decide (a0 ≤ 90)
  else
   false
noncomputable def Wj : Ctr := ⟨148, [U8], [.bool], fun x => some (YN x.1)⟩
def QkU : List (List Nat × Ann) := []
def Qic : List (List Nat × Nat) := []
noncomputable def Qid : List Ctr := []
noncomputable def QkV (n : Nat) (a0 : Int) : Option Bool := run Tryz.prog QkU Qic (Qn Qid) Tryz.f148 (Tryz.f148.body.getD .skip) (Qp [.bool]) n (Qu [U8] (a0, ()))
theorem QqS (n : Nat) (a0 : Int) : QkV n a0 =
  bif decide ((97 : Int) ≤ a0) then
   bif decide (a0 ≤ 122) then
    some true
   else
    bif decide ((65 : Int) ≤ a0) then
     some (decide (a0 ≤ 90))
    else
     some false
  else
   bif decide ((65 : Int) ≤ a0) then
    some (decide (a0 ≤ 90))
   else
    some false := by kernel_rfl
theorem Qw4 (n : Nat) (a0 : Int) : QkV n a0 = some (YN a0) := (QqS n a0).trans (ZI (ZI rfl (ZI rfl rfl)) (ZI rfl rfl))
theorem QsP : ∀ x ∈ Qid, Qg Tryz.prog x := Qi
theorem Qie : Qg Tryz.prog (Wj) := by
 refine Qh (c := Wj) (by kernel_rfl) (by kernel_rfl : Tryz.prog.funcs[148]? = some Tryz.f148) (code := Tryz.f148.body.getD .skip) (by kernel_rfl) (by kernel_rfl) (by kernel_rfl) (A := QkU) (I := Qic) (QsP) ?_
 rintro ⟨a0, u⟩ y hy
 exact ⟨0, (Qw4 0 a0).trans hy⟩
noncomputable def Zs : List Int → Option Bool
 | [] =>
   some true
 | e :: rest =>
   bif !(YN (e)) then
    bif !(Ya (e)) then
     bif !decide (e = 95) then
      some false
     else
      Zs rest
    else
     Zs rest
   else
    Zs rest
noncomputable def Q9 (a0 : (List Int)) : Option Bool :=
 bif decide ((a0.length : Int) < 1) then
  some false
 else
  bif decide ((30 : Int) < (a0.length : Int)) then
   some false
  else
   bif inB 0 a0.length then
    bif Ya (rd a0 0 0) then
     some false
    else
     Jg a0 (Zs a0)
   else none
noncomputable def Vr : Ctr := ⟨123, [.str], [.bool], fun x => Q9 x.1⟩
def Qdd : List (List Nat × Ann) := [([0, 4], [.keep 0 0, .keep 0 3])]
def Qbt : List (List Nat × Nat) := []
noncomputable def Qbu : List Ctr := [EK, Wj]
noncomputable def QkW (n : Nat) (a0 : (List Int)) : Option Bool := run Tryz.prog Qdd Qbt (Qn Qbu) Tryz.f123 (Tryz.f123.body.getD .skip) (Qp [.bool]) n (Qu [.str] (a0, ()))
noncomputable abbrev JS (n : Nat) (x1 : (List Int)) (x2 : Int) : Option Bool := lam Tryz.prog Qdd Qbt (Qn Qbu) Tryz.f123 (Tryz.f123.body.getD .skip) (Qp [.bool]) n [0, 4] [.d .str x1, .d I64 x2]
theorem QqT (n : Nat) (a0 : (List Int)) : QkW n a0 =
  bif decide ((a0.length : Int) < 1) then
   some false
  else
   bif decide ((30 : Int) < (a0.length : Int)) then
    some false
   else
    bif inB 0 a0.length then
     bif Ya (rd a0 0 0) then
      some false
     else
      JS n a0 0
    else none := by kernel_rfl
theorem EL (n : Nat) (x1 : (List Int)) (x2 : Int) : JS (n + 1) x1 x2 =
  bif decide (x2 < (x1.length : Int)) then
   bif inB x2 x1.length then
    bif !(YN (rd x1 x2 0)) then
     bif inB x2 x1.length then
      bif !(Ya (rd x1 x2 0)) then
       bif inB x2 x1.length then
        bif !decide (rd x1 x2 0 = 95) then
         some false
        else
         JS n x1 (IntKind.wrap .i64 (x2 + 1))
       else none
      else
       JS n x1 (IntKind.wrap .i64 (x2 + 1))
     else none
    else
     JS n x1 (IntKind.wrap .i64 (x2 + 1))
   else none
  else
   some true := by kernel_rfl
theorem QoU {x1 : (List Int)} (hl : x1.length ≤ maxLen) : ∀ (rest : List Int) (k : Nat) (r : Bool), rest = x1.drop k → Zs rest = some r → Ev (fun n => JS n x1 (k : Int)) r := by
 intro rest
 induction rest with
 | nil =>
  intro k r hr h
  have hk := QO hr
  rw [Zs] at h
  refine Ev.step ?_ (fun n => EL n x1 (k : Int))
  rw [show decide ((k : Int) < (x1.length : Int)) = false from decide_eq_false (by omega)]
  exact Ev.neg rfl (Ev.ofSome h)
 | cons e rest ih =>
  intro k r hr h
  obtain ⟨hk, hx, hr2⟩ := QE (d := 0) hr
  have hw := QA hl hk
  have ih2 : ∀ (r : Bool), Zs rest = some r → Ev (fun n => JS n x1 (IntKind.wrap .i64 ((k : Int) + 1))) r := by
   intro r h; rw [hw]; exact ih (k + 1) r hr2 h
  rw [Zs] at h
  refine Ev.step ?_ (fun n => EL n x1 (k : Int))
  rw [show decide ((k : Int) < (x1.length : Int)) = true from decide_eq_true (by omega), QB hk, hx]
  exact Ev.pos rfl (Ev.pos rfl (Ev.ofBif h (fun h => (Ev.pos rfl (Ev.ofBif h (fun h => (Ev.pos rfl (Ev.ofBif h (fun h => (Ev.ofSome h)) (fun h => (ih2  _ h))))) (fun h => (ih2  _ h))))) (fun h => (ih2  _ h))))
theorem Qw5 (a0 : (List Int)) {r : Bool} (h : Q9 a0 = some r) : Ev (fun n => QkW n a0) r := by
 rw [Q9] at h
 refine Ev.of_eq ?_ (fun n => QqT n a0)
 exact (Ev.ofBif h (fun h => (Ev.ofSome h)) (fun h => (Ev.ofBif h (fun h => (Ev.ofSome h)) (fun h => (Ev.ofBif h (fun h => (Ev.ofBif h (fun h => (Ev.ofSome h)) (fun h => (Ev.ofLen h fun hl h => QoU hl _ (0 : Nat) _ rfl h)))) (fun h => (Ev.ofNone h)))))))
theorem QsQ : ∀ x ∈ Qbu, Qg Tryz.prog x := (Qb QkT (Qb Qie Qi))
theorem G9 : Qg Tryz.prog (Vr) := by
 refine Qh (c := Vr) (by kernel_rfl) (by kernel_rfl : Tryz.prog.funcs[123]? = some Tryz.f123) (code := Tryz.f123.body.getD .skip) (by kernel_rfl) (by kernel_rfl) (by kernel_rfl) (A := Qdd) (I := Qbt) (QsQ) ?_
 rintro ⟨a0, u⟩ y hy
 exact (Qw5 a0 hy).get
noncomputable def YB (x1 : Int) : Nat → Int → Int → Option Int
 | 0, _, _ => none
 | m + 1, x2, x3 =>
   bif decide (x3 < x1) then
    YB x1 m (IntKind.wrap .i64 (x2 * 2)) (IntKind.wrap .i64 (x3 + 1))
   else
    some x2
noncomputable def Qhl (m : Nat) (a0 : Int) : Option Int :=
 YB a0 m 1 0
noncomputable def GN (a0 : Int) : Option Int := QaY fun m => Qhl m a0
noncomputable def Qcx : Ctr := ⟨145, [I64], [I64], fun x => GN x.1⟩
def Qhm : List (List Nat × Ann) := [([0, 3], [.keep 0 0, .keep 0 3, .keep 0 4])]
def Qff : List (List Nat × Nat) := []
noncomputable def Qfg : List Ctr := []
noncomputable def QpU (n : Nat) (a0 : Int) : Option Int := run Tryz.prog Qhm Qff (Qn Qfg) Tryz.f145 (Tryz.f145.body.getD .skip) (Qp [I64]) n (Qu [I64] (a0, ()))
noncomputable abbrev Hk (n : Nat) (x1 : Int) (x2 : Int) (x3 : Int) : Option Int := lam Tryz.prog Qhm Qff (Qn Qfg) Tryz.f145 (Tryz.f145.body.getD .skip) (Qp [I64]) n [0, 3] [.d I64 x1, .d I64 x2, .d I64 x3]
theorem Qvh (n : Nat) (a0 : Int) : QpU n a0 =
  Hk n a0 1 0 := by kernel_rfl
theorem Qm6 (n : Nat) (x1 : Int) (x2 : Int) (x3 : Int) : Hk (n + 1) x1 x2 x3 =
  bif decide (x3 < x1) then
   Hk n x1 (IntKind.wrap .i64 (x2 * 2)) (IntKind.wrap .i64 (x3 + 1))
  else
   some x2 := by kernel_rfl
theorem QsR {x1 : Int} : ∀ (m : Nat) (x2 : Int) (x3 : Int) (r : Int), YB x1 m x2 x3 = some r → Ev (fun n => Hk n x1 x2 x3) r := by
 intro m
 induction m with
 | zero => intro x2 x3 r h; rw [YB] at h; exact Ev.ofNone h
 | succ m ih2 =>
  intro x2 x3 r h
  rw [YB] at h
  refine Ev.step ?_ (fun n => Qm6 n x1 x2 x3)
  exact (Ev.ofBif h (fun h => (ih2 _ _ _ h)) (fun h => (Ev.ofSome h)))
theorem QAv {m : Nat} (a0 : Int) {r : Int} (h : Qhl m a0 = some r) : Ev (fun n => QpU n a0) r := by
 rw [Qhl] at h
 refine Ev.of_eq ?_ (fun n => Qvh n a0)
 exact (QsR _ _ _ _ h)
theorem Qw6 : ∀ x ∈ Qfg, Qg Tryz.prog x := Qi
theorem Qm7 : Qg Tryz.prog (Qcx) := by
 refine Qh (c := Qcx) (by kernel_rfl) (by kernel_rfl : Tryz.prog.funcs[145]? = some Tryz.f145) (code := Tryz.f145.body.getD .skip) (by kernel_rfl) (by kernel_rfl) (by kernel_rfl) (A := Qhm) (I := Qff) (Qw6) ?_
 rintro ⟨a0, u⟩ y hy
 exact let ⟨_, h⟩ := (Gj hy).get; (QAv a0 h).get
noncomputable def V3 (a0 : Qe) : Option (Int × Int) :=
 Option.bind (GN (IntKind.wrap .i64 (32 - (Int.tmod a0.2.1 64)))) fun (y1 : Int) =>
 some (IntKind.wrap .i64 (Int.tdiv a0.2.1 64), y1)
noncomputable def Qfh : Ctr := ⟨146, [Qa], [I64, I64], fun x => V3 x.1⟩
def Qm8 : List (List Nat × Ann) := []
def QkX : List (List Nat × Nat) := []
noncomputable def QkY : List Ctr := [Qcx]
noncomputable def Qm9 (n : Nat) (a0 : Qe) : Option (Int × Int) := run Tryz.prog Qm8 QkX (Qn QkY) Tryz.f146 (Tryz.f146.body.getD .skip) (Qp [I64, I64]) n (Qu [Qa] (a0, ()))
theorem QsS (n : Nat) (a0 : Qe) : Qm9 n a0 =
  Option.bind (GN (IntKind.wrap .i64 (32 - (Int.tmod a0.2.1 64)))) fun (y1 : Int) =>
  some (IntKind.wrap .i64 (Int.tdiv a0.2.1 64), y1) := by kernel_rfl
theorem Qzv (a0 : Qe) {r : (Int × Int)} (h : V3 a0 = some r) : Ev (fun n => Qm9 n a0) r := by
 rw [V3] at h
 refine Ev.of_eq ?_ (fun n => QsS n a0)
 exact (Ev.ofBind h fun y1 h => (Ev.ofSome h))
theorem Qvi : ∀ x ∈ QkY, Qg Tryz.prog x := (Qb Qm7 Qi)
theorem Qw7 : Qg Tryz.prog (Qfh) := by
 refine Qh (c := Qfh) (by kernel_rfl) (by kernel_rfl : Tryz.prog.funcs[146]? = some Tryz.f146) (code := Tryz.f146.body.getD .skip) (by kernel_rfl) (by kernel_rfl) (by kernel_rfl) (A := Qm8) (I := QkX) (Qvi) ?_
 rintro ⟨a0, u⟩ y hy
 exact (Qzv a0 hy).get
noncomputable def VC (x1 : Int) (x2 : Bool) (x3 : Qe) : Option Bool :=
 bif x2 then
  some true
 else
  bif decide (x1 = 3) then
   bif decide (x3.2.1 = 0) then
    bif decide ((x3.2.2.1.length : Int) ≤ 200) then
     Option.bind (ZQ x3.2.2.1) fun (y1 : Bool) =>
     some y1
    else
     some false
   else
    some false
  else
   bif decide (x1 = 4) then
    bif decide (x3.2.1 = 0) then
     Option.bind (Q9 x3.2.2.2) fun (y2 : Bool) =>
     bif y2 then
      bif decide ((1 : Int) ≤ (x3.2.2.1.length : Int)) then
       bif decide ((x3.2.2.1.length : Int) ≤ 200) then
        Option.bind (ZQ x3.2.2.1) fun (y3 : Bool) =>
        some y3
       else
        some false
      else
       some false
     else
      some false
    else
     some false
   else
    bif decide (x1 = 6) then
     bif decide (x3.2.1 < 0) then
      some false
     else
      Option.bind (GN 32) fun (y4 : Int) =>
      bif decide (IntKind.wrap .i64 (y4 - 1) < IntKind.wrap .i64 (Int.tdiv x3.2.1 64)) then
       some false
      else
       bif decide ((32 : Int) < Int.tmod x3.2.1 64) then
        some false
       else
        Option.bind (V3 x3) fun (y5 : (Int × Int)) =>
        bif decide (y5.2 = 0) then none else
        some (decide (Int.tmod y5.1 y5.2 = 0))
    else
     bif decide (x1 = 7) then
      bif decide (((-100000000000) : Int) ≤ x3.2.1) then
       some (decide (x3.2.1 ≤ 100000000000))
      else
       some false
     else
      some false
noncomputable def ZL (x1 : Qe) : Option Bool :=
 bif decide (x1.1 = 1) then
  bif decide (x1.2.1 = 0) then
   some true
  else
   some (decide (x1.2.1 = 1))
 else
  bif decide (x1.1 = 2) then
   VC x1.1 (decide (x1.1 = 2)) x1
  else
   VC x1.1 (decide (x1.1 = 5)) x1
noncomputable def Za (a0 : Qe) : Option Bool :=
 bif !decide (a0.1 = 3) then
  bif !decide (a0.1 = 4) then
   bif !decide (a0.2.2.1 = ([] : List Int)) then
    some false
   else
    bif !decide (a0.1 = 4) then
     bif !decide (a0.2.2.2 = ([] : List Int)) then
      some false
     else
      ZL a0
    else
     ZL a0
  else
   bif !decide (a0.1 = 4) then
    bif !decide (a0.2.2.2 = ([] : List Int)) then
     some false
    else
     ZL a0
   else
    ZL a0
 else
  bif !decide (a0.1 = 4) then
   bif !decide (a0.2.2.2 = ([] : List Int)) then
    some false
   else
    ZL a0
  else
   ZL a0
noncomputable def Gk : Ctr := ⟨122, [Qa], [.bool], fun x => Za x.1⟩
def Wk : List (List Nat × Ann) := [([1, 3], [.keep 0 1, .boxd 0 1 Qa]), ([1, 8], [.keep 0 1, .keep 0 29, .keep 0 40, .boxd 0 1 Qa])]
def Uf : List (List Nat × Nat) := []
noncomputable def Ug : List Ctr := [Ue, Vr, Qcx, Qfh]
noncomputable def QkZ (n : Nat) (a0 : Qe) : Option Bool := run Tryz.prog Wk Uf (Qn Ug) Tryz.f122 (Tryz.f122.body.getD .skip) (Qp [.bool]) n (Qu [Qa] (a0, ()))
noncomputable abbrev Jo (n : Nat) (x1 : Qe) : Option Bool := lam Tryz.prog Wk Uf (Qn Ug) Tryz.f122 (Tryz.f122.body.getD .skip) (Qp [.bool]) n [1, 3] [.ptr 0 1 0, .agg (Qq Qa x1)]
noncomputable abbrev GU (n : Nat) (x1 : Int) (x2 : Bool) (x3 : Qe) : Option Bool := lam Tryz.prog Wk Uf (Qn Ug) Tryz.f122 (Tryz.f122.body.getD .skip) (Qp [.bool]) n [1, 8] [.ptr 0 1 0, .d I64 x1, .d .bool x2, .agg (Qq Qa x3)]
theorem QqU (n : Nat) (a0 : Qe) : QkZ n a0 =
  bif !decide (a0.1 = 3) then
   bif !decide (a0.1 = 4) then
    bif !decide (a0.2.2.1 = ([] : List Int)) then
     some false
    else
     bif !decide (a0.1 = 4) then
      bif !decide (a0.2.2.2 = ([] : List Int)) then
       some false
      else
       Jo n a0
     else
      Jo n a0
   else
    bif !decide (a0.1 = 4) then
     bif !decide (a0.2.2.2 = ([] : List Int)) then
      some false
     else
      Jo n a0
    else
     Jo n a0
  else
   bif !decide (a0.1 = 4) then
    bif !decide (a0.2.2.2 = ([] : List Int)) then
     some false
    else
     Jo n a0
   else
    Jo n a0 := by kernel_rfl
theorem Qkb (n : Nat) (x1 : Qe) : Jo (n + 1) x1 =
  bif decide (x1.1 = 1) then
   bif decide (x1.2.1 = 0) then
    some true
   else
    some (decide (x1.2.1 = 1))
  else
   bif decide (x1.1 = 2) then
    GU n x1.1 (decide (x1.1 = 2)) x1
   else
    GU n x1.1 (decide (x1.1 = 5)) x1 := by kernel_rfl
theorem Qkc (n : Nat) (x1 : Int) (x2 : Bool) (x3 : Qe) : GU (n + 1) x1 x2 x3 =
  bif x2 then
   some true
  else
   bif decide (x1 = 3) then
    bif decide (x3.2.1 = 0) then
     bif decide ((x3.2.2.1.length : Int) ≤ 200) then
      Option.bind (ZQ x3.2.2.1) fun (y1 : Bool) =>
      some y1
     else
      some false
    else
     some false
   else
    bif decide (x1 = 4) then
     bif decide (x3.2.1 = 0) then
      Option.bind (Q9 x3.2.2.2) fun (y2 : Bool) =>
      bif y2 then
       bif decide ((1 : Int) ≤ (x3.2.2.1.length : Int)) then
        bif decide ((x3.2.2.1.length : Int) ≤ 200) then
         Option.bind (ZQ x3.2.2.1) fun (y3 : Bool) =>
         some y3
        else
         some false
       else
        some false
      else
       some false
     else
      some false
    else
     bif decide (x1 = 6) then
      bif decide (x3.2.1 < 0) then
       some false
      else
       Option.bind (GN 32) fun (y4 : Int) =>
       bif decide (IntKind.wrap .i64 (y4 - 1) < IntKind.wrap .i64 (Int.tdiv x3.2.1 64)) then
        some false
       else
        bif decide ((32 : Int) < Int.tmod x3.2.1 64) then
         some false
        else
         Option.bind (V3 x3) fun (y5 : (Int × Int)) =>
         bif decide (y5.2 = 0) then none else
         some (decide (Int.tmod y5.1 y5.2 = 0))
     else
      bif decide (x1 = 7) then
       bif decide (((-100000000000) : Int) ≤ x3.2.1) then
        some (decide (x3.2.1 ≤ 100000000000))
       else
        some false
      else
       some false := by kernel_rfl
theorem Qd9 {x1 : Int} {x2 : Bool} {x3 : Qe} {r : Bool} (h : VC x1 x2 x3 = some r) : Ev (fun n => GU n x1 x2 x3) r := by
 rw [VC] at h
 refine Ev.step ?_ (fun n => Qkc n x1 x2 x3)
 exact (Ev.ofBif h (fun h => (Ev.ofSome h)) (fun h => (Ev.ofBif h (fun h => (Ev.ofBif h (fun h => (Ev.ofBif h (fun h => (Ev.ofBind h fun y1 h => (Ev.ofSome h))) (fun h => (Ev.ofSome h)))) (fun h => (Ev.ofSome h)))) (fun h => (Ev.ofBif h (fun h => (Ev.ofBif h (fun h => (Ev.ofBind h fun y2 h => (Ev.ofBif h (fun h => (Ev.ofBif h (fun h => (Ev.ofBif h (fun h => (Ev.ofBind h fun y3 h => (Ev.ofSome h))) (fun h => (Ev.ofSome h)))) (fun h => (Ev.ofSome h)))) (fun h => (Ev.ofSome h))))) (fun h => (Ev.ofSome h)))) (fun h => (Ev.ofBif h (fun h => (Ev.ofBif h (fun h => (Ev.ofSome h)) (fun h => (Ev.ofBind h fun y4 h => (Ev.ofBif h (fun h => (Ev.ofSome h)) (fun h => (Ev.ofBif h (fun h => (Ev.ofSome h)) (fun h => (Ev.ofBind h fun y5 h => (Ev.ofBif h (fun h => (Ev.ofNone h)) (fun h => (Ev.ofSome h)))))))))))) (fun h => (Ev.ofBif h (fun h => (Ev.ofBif h (fun h => (Ev.ofSome h)) (fun h => (Ev.ofSome h)))) (fun h => (Ev.ofSome h)))))))))))
theorem YJ {x1 : Qe} {r : Bool} (h : ZL x1 = some r) : Ev (fun n => Jo n x1) r := by
 rw [ZL] at h
 refine Ev.step ?_ (fun n => Qkb n x1)
 exact (Ev.ofBif h (fun h => (Ev.ofBif h (fun h => (Ev.ofSome h)) (fun h => (Ev.ofSome h)))) (fun h => (Ev.ofBif h (fun h => (Qd9 h)) (fun h => (Qd9 h)))))
theorem Qw8 (a0 : Qe) {r : Bool} (h : Za a0 = some r) : Ev (fun n => QkZ n a0) r := by
 rw [Za] at h
 refine Ev.of_eq ?_ (fun n => QqU n a0)
 exact (Ev.ofBif h (fun h => (Ev.ofBif h (fun h => (Ev.ofBif h (fun h => (Ev.ofSome h)) (fun h => (Ev.ofBif h (fun h => (Ev.ofBif h (fun h => (Ev.ofSome h)) (fun h => (YJ h)))) (fun h => (YJ h)))))) (fun h => (Ev.ofBif h (fun h => (Ev.ofBif h (fun h => (Ev.ofSome h)) (fun h => (YJ h)))) (fun h => (YJ h)))))) (fun h => (Ev.ofBif h (fun h => (Ev.ofBif h (fun h => (Ev.ofSome h)) (fun h => (YJ h)))) (fun h => (YJ h)))))
theorem QsT : ∀ x ∈ Ug, Qg Tryz.prog x := (Qb QgC (Qb G9 (Qb Qm7 (Qb Qw7 Qi))))
theorem Uh : Qg Tryz.prog (Gk) := by
 refine Qh (c := Gk) (by kernel_rfl) (by kernel_rfl : Tryz.prog.funcs[122]? = some Tryz.f122) (code := Tryz.f122.body.getD .skip) (by kernel_rfl) (by kernel_rfl) (by kernel_rfl) (A := Wk) (I := Uf) (QsT) ?_
 rintro ⟨a0, u⟩ y hy
 exact (Qw8 a0 hy).get
noncomputable def ZF (a0 : Qe) : Option Bool :=
 bif decide (a0.1 = 4) then
  Option.bind (Za a0) fun (y1 : Bool) =>
  some y1
 else
  some false
noncomputable def Qcy : Ctr := ⟨96, [Qa], [.bool], fun x => ZF x.1⟩
def QpV : List (List Nat × Ann) := []
def Qna : List (List Nat × Nat) := []
noncomputable def Qnb : List Ctr := [Gk]
noncomputable def QpW (n : Nat) (a0 : Qe) : Option Bool := run Tryz.prog QpV Qna (Qn Qnb) Tryz.f96 (Tryz.f96.body.getD .skip) (Qp [.bool]) n (Qu [Qa] (a0, ()))
theorem Qvj (n : Nat) (a0 : Qe) : QpW n a0 =
  bif decide (a0.1 = 4) then
   Option.bind (Za a0) fun (y1 : Bool) =>
   some y1
  else
   some false := by kernel_rfl
theorem QAw (a0 : Qe) {r : Bool} (h : ZF a0 = some r) : Ev (fun n => QpW n a0) r := by
 rw [ZF] at h
 refine Ev.of_eq ?_ (fun n => Qvj n a0)
 exact (Ev.ofBif h (fun h => (Ev.ofBind h fun y1 h => (Ev.ofSome h))) (fun h => (Ev.ofSome h)))
theorem Qw9 : ∀ x ∈ Qnb, Qg Tryz.prog x := (Qb Uh Qi)
theorem Qnc : Qg Tryz.prog (Qcy) := by
 refine Qh (c := Qcy) (by kernel_rfl) (by kernel_rfl : Tryz.prog.funcs[96]? = some Tryz.f96) (code := Tryz.f96.body.getD .skip) (by kernel_rfl) (by kernel_rfl) (by kernel_rfl) (A := QpV) (I := Qna) (Qw9) ?_
 rintro ⟨a0, u⟩ y hy
 exact (QAw a0 hy).get
noncomputable def QS (a0 : Int) (a1 : Int) : Int :=
 bif decide (a0 < a1) then
  (-1)
 else
  bif decide (a1 < a0) then
   1
  else
   0
noncomputable def Wl : Ctr := ⟨100, [I64, I64], [I64], fun x => some (QS x.1 x.2.1)⟩
def Qk0 : List (List Nat × Ann) := []
def Qif : List (List Nat × Nat) := []
noncomputable def Qig : List Ctr := []
noncomputable def Qk1 (n : Nat) (a0 : Int) (a1 : Int) : Option Int := run Tryz.prog Qk0 Qif (Qn Qig) Tryz.f100 (Tryz.f100.body.getD .skip) (Qp [I64]) n (Qu [I64, I64] (a0, a1, ()))
theorem QqV (n : Nat) (a0 : Int) (a1 : Int) : Qk1 n a0 a1 =
  bif decide (a0 < a1) then
   some (-1)
  else
   bif decide (a1 < a0) then
    some 1
   else
    some 0 := by kernel_rfl
theorem Qxa (n : Nat) (a0 : Int) (a1 : Int) : Qk1 n a0 a1 = some (QS a0 a1) := (QqV n a0 a1).trans (ZI rfl (ZI rfl rfl))
theorem QsU : ∀ x ∈ Qig, Qg Tryz.prog x := Qi
theorem Qih : Qg Tryz.prog (Wl) := by
 refine Qh (c := Wl) (by kernel_rfl) (by kernel_rfl : Tryz.prog.funcs[100]? = some Tryz.f100) (code := Tryz.f100.body.getD .skip) (by kernel_rfl) (by kernel_rfl) (by kernel_rfl) (A := Qk0) (I := Qif) (QsU) ?_
 rintro ⟨a0, a1, u⟩ y hy
 exact ⟨0, (Qxa 0 a0 a1).trans hy⟩
noncomputable def Zx (x1 : (List Int)) (x2 : (List Int)) : List Int → Nat → Option Int
 | [], k =>
   some (QS (x1.length : Int) (x2.length : Int))
 | e :: rest, k =>
   bif decide ((k : Int) < (x2.length : Int)) then
    bif inB (k : Int) x2.length then
     bif !decide (e = rd x2 (k : Int) 0) then
      bif inB (k : Int) x2.length then
       some (QS (IntKind.wrap .i64 (e)) (IntKind.wrap .i64 (rd x2 (k : Int) 0)))
      else none
     else
      Zx x1 x2 rest (k + 1)
    else none
   else
    some (QS (x1.length : Int) (x2.length : Int))
noncomputable def QX (a0 : (List Int)) (a1 : (List Int)) : Option Int :=
 Jg a0 (Zx a0 a1 a0 0)
noncomputable def VR : Ctr := ⟨101, [.str, .str], [I64], fun x => QX x.1 x.2.1⟩
def Qbv : List (List Nat × Ann) := [([0, 2], [.keep 0 0, .keep 0 1, .keep 0 5])]
def EM : List (List Nat × Nat) := []
noncomputable def EN : List Ctr := [Wl]
noncomputable def Qii (n : Nat) (a0 : (List Int)) (a1 : (List Int)) : Option Int := run Tryz.prog Qbv EM (Qn EN) Tryz.f101 (Tryz.f101.body.getD .skip) (Qp [I64]) n (Qu [.str, .str] (a0, a1, ()))
noncomputable abbrev Ve (n : Nat) (x1 : (List Int)) (x2 : (List Int)) (x3 : Int) : Option Int := lam Tryz.prog Qbv EM (Qn EN) Tryz.f101 (Tryz.f101.body.getD .skip) (Qp [I64]) n [0, 2] [.d .str x1, .d .str x2, .d I64 x3]
theorem QoV (n : Nat) (a0 : (List Int)) (a1 : (List Int)) : Qii n a0 a1 =
  Ve n a0 a1 0 := by kernel_rfl
theorem Ek (n : Nat) (x1 : (List Int)) (x2 : (List Int)) (x3 : Int) : Ve (n + 1) x1 x2 x3 =
  bif decide (x3 < (x1.length : Int)) then
   bif decide (x3 < (x2.length : Int)) then
    bif inB x3 x1.length then
     bif inB x3 x2.length then
      bif !decide (rd x1 x3 0 = rd x2 x3 0) then
       bif inB x3 x1.length then
        bif inB x3 x2.length then
         some (QS (IntKind.wrap .i64 (rd x1 x3 0)) (IntKind.wrap .i64 (rd x2 x3 0)))
        else none
       else none
      else
       Ve n x1 x2 (IntKind.wrap .i64 (x3 + 1))
     else none
    else none
   else
    some (QS (x1.length : Int) (x2.length : Int))
  else
   some (QS (x1.length : Int) (x2.length : Int)) := by kernel_rfl
theorem Qnd {x1 : (List Int)} {x2 : (List Int)} (hl : x1.length ≤ maxLen) : ∀ (rest : List Int) (k : Nat) (r : Int), rest = x1.drop k → Zx x1 x2 rest k = some r → Ev (fun n => Ve n x1 x2 (k : Int)) r := by
 intro rest
 induction rest with
 | nil =>
  intro k r hr h
  have hk := QO hr
  rw [Zx] at h
  refine Ev.step ?_ (fun n => Ek n x1 x2 (k : Int))
  rw [show decide ((k : Int) < (x1.length : Int)) = false from decide_eq_false (by omega)]
  exact Ev.neg rfl (Ev.ofSome h)
 | cons e rest ih =>
  intro k r hr h
  obtain ⟨hk, hx, hr2⟩ := QE (d := 0) hr
  have hw := QA hl hk
  have ih2 : ∀ (r : Int), Zx x1 x2 rest (k + 1) = some r → Ev (fun n => Ve n x1 x2 (IntKind.wrap .i64 ((k : Int) + 1))) r := by
   intro r h; rw [hw]; exact ih (k + 1) r hr2 h
  rw [Zx] at h
  refine Ev.step ?_ (fun n => Ek n x1 x2 (k : Int))
  rw [show decide ((k : Int) < (x1.length : Int)) = true from decide_eq_true (by omega), QB hk, hx]
  exact Ev.pos rfl (Ev.ofBif h (fun h => (Ev.pos rfl (Ev.ofBif h (fun h => (Ev.ofBif h (fun h => (Ev.pos rfl (Ev.ofBif h (fun h => (Ev.ofSome h)) (fun h => (Ev.ofNone h))))) (fun h => (ih2  _ h)))) (fun h => (Ev.ofNone h))))) (fun h => (Ev.ofSome h)))
theorem Qvk (a0 : (List Int)) (a1 : (List Int)) {r : Int} (h : QX a0 a1 = some r) : Ev (fun n => Qii n a0 a1) r := by
 rw [QX] at h
 refine Ev.of_eq ?_ (fun n => QoV n a0 a1)
 exact (Ev.ofLen h fun hl h => Qnd hl _ (0 : Nat) _ rfl h)
theorem QqW : ∀ x ∈ EN, Qg Tryz.prog x := (Qb Qih Qi)
theorem Hl : Qg Tryz.prog (VR) := by
 refine Qh (c := VR) (by kernel_rfl) (by kernel_rfl : Tryz.prog.funcs[101]? = some Tryz.f101) (code := Tryz.f101.body.getD .skip) (by kernel_rfl) (by kernel_rfl) (by kernel_rfl) (A := Qbv) (I := EM) (QqW) ?_
 rintro ⟨a0, a1, u⟩ y hy
 exact (Qvk a0 a1 hy).get
noncomputable def Ja (a0 : Qe) (a1 : Qe) : Option Int :=
 bif !decide (QS a0.1 a1.1 = 0) then
  some (QS a0.1 a1.1)
 else
  bif !decide (QS a0.2.1 a1.2.1 = 0) then
   some (QS a0.2.1 a1.2.1)
  else
   Option.bind (QX a0.2.2.2 a1.2.2.2) fun (y1 : Int) =>
   bif !decide (y1 = 0) then
    some y1
   else
    Option.bind (QX a0.2.2.1 a1.2.2.1) fun (y2 : Int) =>
    some y2
noncomputable def EO : Ctr := ⟨69, [Qa, Qa], [I64], fun x => Ja x.1 x.2.1⟩
def QsV : List (List Nat × Ann) := []
def QpX : List (List Nat × Nat) := []
noncomputable def QpY : List Ctr := [Wl, VR]
noncomputable def QsW (n : Nat) (a0 : Qe) (a1 : Qe) : Option Int := run Tryz.prog QsV QpX (Qn QpY) Tryz.f69 (Tryz.f69.body.getD .skip) (Qp [I64]) n (Qu [Qa, Qa] (a0, a1, ()))
theorem Qxb (n : Nat) (a0 : Qe) (a1 : Qe) : QsW n a0 a1 =
  bif !decide (QS a0.1 a1.1 = 0) then
   some (QS a0.1 a1.1)
  else
   bif !decide (QS a0.2.1 a1.2.1 = 0) then
    some (QS a0.2.1 a1.2.1)
   else
    Option.bind (QX a0.2.2.2 a1.2.2.2) fun (y1 : Int) =>
    bif !decide (y1 = 0) then
     some y1
    else
     Option.bind (QX a0.2.2.1 a1.2.2.1) fun (y2 : Int) =>
     some y2 := by kernel_rfl
theorem QBW (a0 : Qe) (a1 : Qe) {r : Int} (h : Ja a0 a1 = some r) : Ev (fun n => QsW n a0 a1) r := by
 rw [Ja] at h
 refine Ev.of_eq ?_ (fun n => Qxb n a0 a1)
 exact (Ev.ofBif h (fun h => (Ev.ofSome h)) (fun h => (Ev.ofBif h (fun h => (Ev.ofSome h)) (fun h => (Ev.ofBind h fun y1 h => (Ev.ofBif h (fun h => (Ev.ofSome h)) (fun h => (Ev.ofBind h fun y2 h => (Ev.ofSome h)))))))))
theorem Qzw : ∀ x ∈ QpY, Qg Tryz.prog x := (Qb Qih (Qb Hl Qi))
theorem Qhn : Qg Tryz.prog (EO) := by
 refine Qh (c := EO) (by kernel_rfl) (by kernel_rfl : Tryz.prog.funcs[69]? = some Tryz.f69) (code := Tryz.f69.body.getD .skip) (by kernel_rfl) (by kernel_rfl) (by kernel_rfl) (A := QsV) (I := QpX) (Qzw) ?_
 rintro ⟨a0, a1, u⟩ y hy
 exact (QBW a0 a1 hy).get
noncomputable def Zn (x4 : Qz) : List (List Int) → Nat → Option Bool
 | [], k =>
   some true
 | e :: rest, k =>
   Option.bind (Q9 (e)) fun (y4 : Bool) =>
   bif !(y4) then
    some false
   else
    bif decide ((0 : Int) < (k : Int)) then
     bif inB (IntKind.wrap .i64 ((k : Int) - 1)) x4.2.2.2.length then
      Option.bind (QX (rd x4.2.2.2 (IntKind.wrap .i64 ((k : Int) - 1)) (Ty.dflt .str)) (e)) fun (y5 : Int) =>
      bif decide ((0 : Int) ≤ y5) then
       some false
      else
       Zn x4 rest (k + 1)
     else none
    else
     Zn x4 rest (k + 1)
noncomputable def Q2 (x4 : Qz) : List Qe → Nat → Option Bool
 | [], k =>
   bif decide (x4.1 = 2) then
    some (decide ((x4.2.2.2.length : Int) = 0))
   else
    bif !decide ((x4.2.2.2.length : Int) = (x4.2.2.1.length : Int)) then
     some false
    else
     Jg x4.2.2.2 (Zn x4 x4.2.2.2 0)
 | e :: rest, k =>
   Option.bind (Za (e)) fun (y2 : Bool) =>
   bif !(y2) then
    some false
   else
    bif decide (x4.1 = 2) then
     bif decide ((0 : Int) < (k : Int)) then
      bif inB (IntKind.wrap .i64 ((k : Int) - 1)) x4.2.2.1.length then
       Option.bind (Ja (rd x4.2.2.1 (IntKind.wrap .i64 ((k : Int) - 1)) (Ty.dflt Qa)) (e)) fun (y3 : Int) =>
       bif decide ((0 : Int) ≤ y3) then
        some false
       else
        Q2 x4 rest (k + 1)
      else none
     else
      Q2 x4 rest (k + 1)
    else
     Q2 x4 rest (k + 1)
noncomputable def Vf (x1 : Bool) (x2 : Qz) : Option Bool :=
 bif x1 then
  bif !@decide (x2.2.1 = (0, 0, ([] : List Int), ([] : List Int))) (Ty.decEq Qa x2.2.1 (0, 0, ([] : List Int), ([] : List Int))) then
   some false
  else
   bif decide ((50 : Int) < (x2.2.2.1.length : Int)) then
    some false
   else
    Jg x2.2.2.1 (Q2 x2 x2.2.2.1 0)
 else
  some false
noncomputable def JK (a0 : Qz) : Option Bool :=
 bif decide (a0.1 = 1) then
  Option.bind (Za a0.2.1) fun (y1 : Bool) =>
  bif y1 then
   bif decide ((a0.2.2.1.length : Int) = 0) then
    some (decide ((a0.2.2.2.length : Int) = 0))
   else
    some false
  else
   some false
 else
  bif decide (a0.1 = 2) then
   Vf (decide (a0.1 = 2)) a0
  else
   Vf (decide (a0.1 = 3)) a0
noncomputable def Qbw : Ctr := ⟨124, [Qm], [.bool], fun x => JK x.1⟩
def Xa : List (List Nat × Ann) := [([1, 6], [.keep 0 1, .keep 0 26, .boxd 0 1 Qm]), ([0, 9], [.keep 0 1, .keep 0 40, .keep 0 41, .keep 0 42, .boxd 0 1 Qm]), ([0, 19], [.keep 0 1, .keep 0 86, .keep 0 87, .keep 0 88, .boxd 0 1 Qm])]
def GA : List (List Nat × Nat) := []
noncomputable def GB : List Ctr := [Gk, EO, Vr, VR]
noncomputable def Qij (n : Nat) (a0 : Qz) : Option Bool := run Tryz.prog Xa GA (Qn GB) Tryz.f124 (Tryz.f124.body.getD .skip) (Qp [.bool]) n (Qu [Qm] (a0, ()))
noncomputable abbrev GC (n : Nat) (x1 : Bool) (x2 : Qz) : Option Bool := lam Tryz.prog Xa GA (Qn GB) Tryz.f124 (Tryz.f124.body.getD .skip) (Qp [.bool]) n [1, 6] [.ptr 0 1 0, .d .bool x1, .agg (Qq Qm x2)]
noncomputable abbrev JA (n : Nat) (x1 : (List Qe)) (x2 : Int) (x3 : Int) (x4 : Qz) : Option Bool := lam Tryz.prog Xa GA (Qn GB) Tryz.f124 (Tryz.f124.body.getD .skip) (Qp [.bool]) n [0, 9] [.ptr 0 1 0, .d (.list Qa) x1, .d I64 x2, .d I64 x3, .agg (Qq Qm x4)]
noncomputable abbrev J2 (n : Nat) (x1 : (List (List Int))) (x2 : Int) (x3 : Int) (x4 : Qz) : Option Bool := lam Tryz.prog Xa GA (Qn GB) Tryz.f124 (Tryz.f124.body.getD .skip) (Qp [.bool]) n [0, 19] [.ptr 0 1 0, .d (.list .str) x1, .d I64 x2, .d I64 x3, .agg (Qq Qm x4)]
theorem QoW (n : Nat) (a0 : Qz) : Qij n a0 =
  bif decide (a0.1 = 1) then
   Option.bind (Za a0.2.1) fun (y1 : Bool) =>
   bif y1 then
    bif decide ((a0.2.2.1.length : Int) = 0) then
     some (decide ((a0.2.2.2.length : Int) = 0))
    else
     some false
   else
    some false
  else
   bif decide (a0.1 = 2) then
    GC n (decide (a0.1 = 2)) a0
   else
    GC n (decide (a0.1 = 3)) a0 := by kernel_rfl
theorem Qik (n : Nat) (x1 : Bool) (x2 : Qz) : GC (n + 1) x1 x2 =
  bif x1 then
   bif !@decide (x2.2.1 = (0, 0, ([] : List Int), ([] : List Int))) (Ty.decEq Qa x2.2.1 (0, 0, ([] : List Int), ([] : List Int))) then
    some false
   else
    bif decide ((50 : Int) < (x2.2.2.1.length : Int)) then
     some false
    else
     JA n x2.2.2.1 (x2.2.2.1.length : Int) 0 x2
  else
   some false := by kernel_rfl
theorem El (n : Nat) (x1 : (List Qe)) (x2 : Int) (x3 : Int) (x4 : Qz) : JA (n + 1) x1 x2 x3 x4 =
  bif decide (x3 < x2) then
   bif inB x3 x1.length then
    Option.bind (Za (rd x1 x3 (Ty.dflt Qa))) fun (y2 : Bool) =>
    bif !(y2) then
     some false
    else
     bif decide (x4.1 = 2) then
      bif decide ((0 : Int) < x3) then
       bif inB (IntKind.wrap .i64 (x3 - 1)) x4.2.2.1.length then
        Option.bind (Ja (rd x4.2.2.1 (IntKind.wrap .i64 (x3 - 1)) (Ty.dflt Qa)) (rd x1 x3 (Ty.dflt Qa))) fun (y3 : Int) =>
        bif decide ((0 : Int) ≤ y3) then
         some false
        else
         JA n x1 x2 (IntKind.wrap .i64 (x3 + 1)) x4
       else none
      else
       JA n x1 x2 (IntKind.wrap .i64 (x3 + 1)) x4
     else
      JA n x1 x2 (IntKind.wrap .i64 (x3 + 1)) x4
   else none
  else
   bif decide (x4.1 = 2) then
    some (decide ((x4.2.2.2.length : Int) = 0))
   else
    bif !decide ((x4.2.2.2.length : Int) = (x4.2.2.1.length : Int)) then
     some false
    else
     J2 n x4.2.2.2 (x4.2.2.2.length : Int) 0 x4 := by kernel_rfl
theorem UY (n : Nat) (x1 : (List (List Int))) (x2 : Int) (x3 : Int) (x4 : Qz) : J2 (n + 1) x1 x2 x3 x4 =
  bif decide (x3 < x2) then
   bif inB x3 x1.length then
    Option.bind (Q9 (rd x1 x3 (Ty.dflt .str))) fun (y4 : Bool) =>
    bif !(y4) then
     some false
    else
     bif decide ((0 : Int) < x3) then
      bif inB (IntKind.wrap .i64 (x3 - 1)) x4.2.2.2.length then
       Option.bind (QX (rd x4.2.2.2 (IntKind.wrap .i64 (x3 - 1)) (Ty.dflt .str)) (rd x1 x3 (Ty.dflt .str))) fun (y5 : Int) =>
       bif decide ((0 : Int) ≤ y5) then
        some false
       else
        J2 n x1 x2 (IntKind.wrap .i64 (x3 + 1)) x4
      else none
     else
      J2 n x1 x2 (IntKind.wrap .i64 (x3 + 1)) x4
   else none
  else
   some true := by kernel_rfl
theorem Ql4 {x1 : (List (List Int))} {x4 : Qz} (hl : x1.length ≤ maxLen) : ∀ (rest : List (List Int)) (k : Nat) (r : Bool), rest = x1.drop k → Zn x4 rest k = some r → Ev (fun n => J2 n x1 (x1.length : Int) (k : Int) x4) r := by
 intro rest
 induction rest with
 | nil =>
  intro k r hr h
  have hk := QO hr
  rw [Zn] at h
  refine Ev.step ?_ (fun n => UY n x1 (x1.length : Int) (k : Int) x4)
  rw [show decide ((k : Int) < (x1.length : Int)) = false from decide_eq_false (by omega)]
  exact Ev.neg rfl (Ev.ofSome h)
 | cons e rest ih =>
  intro k r hr h
  obtain ⟨hk, hx, hr2⟩ := QE (d := (Ty.dflt .str)) hr
  have hw := QA hl hk
  have ih2 : ∀ (r : Bool), Zn x4 rest (k + 1) = some r → Ev (fun n => J2 n x1 (x1.length : Int) (IntKind.wrap .i64 ((k : Int) + 1)) x4) r := by
   intro r h; rw [hw]; exact ih (k + 1) r hr2 h
  rw [Zn] at h
  refine Ev.step ?_ (fun n => UY n x1 (x1.length : Int) (k : Int) x4)
  rw [show decide ((k : Int) < (x1.length : Int)) = true from decide_eq_true (by omega), QB hk, hx]
  exact Ev.pos rfl (Ev.pos rfl (Ev.ofBind h fun y4 h => (Ev.ofBif h (fun h => (Ev.ofSome h)) (fun h => (Ev.ofBif h (fun h => (Ev.ofBif h (fun h => (Ev.ofBind h fun y5 h => (Ev.ofBif h (fun h => (Ev.ofSome h)) (fun h => (ih2  _ h))))) (fun h => (Ev.ofNone h)))) (fun h => (ih2  _ h)))))))
theorem Qne {x1 : (List Qe)} {x4 : Qz} (hl : x1.length ≤ maxLen) : ∀ (rest : List Qe) (k : Nat) (r : Bool), rest = x1.drop k → Q2 x4 rest k = some r → Ev (fun n => JA n x1 (x1.length : Int) (k : Int) x4) r := by
 intro rest
 induction rest with
 | nil =>
  intro k r hr h
  have hk := QO hr
  rw [Q2] at h
  refine Ev.step ?_ (fun n => El n x1 (x1.length : Int) (k : Int) x4)
  rw [show decide ((k : Int) < (x1.length : Int)) = false from decide_eq_false (by omega)]
  exact Ev.neg rfl (Ev.ofBif h (fun h => (Ev.ofSome h)) (fun h => (Ev.ofBif h (fun h => (Ev.ofSome h)) (fun h => (Ev.ofLen h fun hl h => Ql4 hl _ (0 : Nat) _ rfl h)))))
 | cons e rest ih =>
  intro k r hr h
  obtain ⟨hk, hx, hr2⟩ := QE (d := (Ty.dflt Qa)) hr
  have hw := QA hl hk
  have ih2 : ∀ (r : Bool), Q2 x4 rest (k + 1) = some r → Ev (fun n => JA n x1 (x1.length : Int) (IntKind.wrap .i64 ((k : Int) + 1)) x4) r := by
   intro r h; rw [hw]; exact ih (k + 1) r hr2 h
  rw [Q2] at h
  refine Ev.step ?_ (fun n => El n x1 (x1.length : Int) (k : Int) x4)
  rw [show decide ((k : Int) < (x1.length : Int)) = true from decide_eq_true (by omega), QB hk, hx]
  exact Ev.pos rfl (Ev.pos rfl (Ev.ofBind h fun y2 h => (Ev.ofBif h (fun h => (Ev.ofSome h)) (fun h => (Ev.ofBif h (fun h => (Ev.ofBif h (fun h => (Ev.ofBif h (fun h => (Ev.ofBind h fun y3 h => (Ev.ofBif h (fun h => (Ev.ofSome h)) (fun h => (ih2  _ h))))) (fun h => (Ev.ofNone h)))) (fun h => (ih2  _ h)))) (fun h => (ih2  _ h)))))))
theorem QcQ {x1 : Bool} {x2 : Qz} {r : Bool} (h : Vf x1 x2 = some r) : Ev (fun n => GC n x1 x2) r := by
 rw [Vf] at h
 refine Ev.step ?_ (fun n => Qik n x1 x2)
 exact (Ev.ofBif h (fun h => (Ev.ofBif h (fun h => (Ev.ofSome h)) (fun h => (Ev.ofBif h (fun h => (Ev.ofSome h)) (fun h => (Ev.ofLen h fun hl h => Qne hl _ (0 : Nat) _ rfl h)))))) (fun h => (Ev.ofSome h)))
theorem Qvl (a0 : Qz) {r : Bool} (h : JK a0 = some r) : Ev (fun n => Qij n a0) r := by
 rw [JK] at h
 refine Ev.of_eq ?_ (fun n => QoW n a0)
 exact (Ev.ofBif h (fun h => (Ev.ofBind h fun y1 h => (Ev.ofBif h (fun h => (Ev.ofBif h (fun h => (Ev.ofSome h)) (fun h => (Ev.ofSome h)))) (fun h => (Ev.ofSome h))))) (fun h => (Ev.ofBif h (fun h => (QcQ h)) (fun h => (QcQ h)))))
theorem QqX : ∀ x ∈ GB, Qg Tryz.prog x := (Qb Uh (Qb Qhn (Qb G9 (Qb Hl Qi))))
theorem QsX : Qg Tryz.prog (Qbw) := by
 refine Qh (c := Qbw) (by kernel_rfl) (by kernel_rfl : Tryz.prog.funcs[124]? = some Tryz.f124) (code := Tryz.f124.body.getD .skip) (by kernel_rfl) (by kernel_rfl) (by kernel_rfl) (A := Xa) (I := GA) (QqX) ?_
 rintro ⟨a0, u⟩ y hy
 exact (Qvl a0 hy).get
noncomputable def Zy (x1 : (List (List Int))) (x2 : (List Qz)) : List (List Int) → Nat → Option Bool
 | [], k =>
   some true
 | e :: rest, k =>
   Option.bind (Q9 (e)) fun (y1 : Bool) =>
   bif !(y1) then
    some false
   else
    bif decide ((0 : Int) < (k : Int)) then
     bif inB (IntKind.wrap .i64 ((k : Int) - 1)) x1.length then
      Option.bind (QX (rd x1 (IntKind.wrap .i64 ((k : Int) - 1)) (Ty.dflt .str)) (e)) fun (y2 : Int) =>
      bif decide ((0 : Int) ≤ y2) then
       some false
      else
       bif inB (k : Int) x2.length then
        Option.bind (JK (rd x2 (k : Int) (Ty.dflt Qm))) fun (y3 : Bool) =>
        bif !(y3) then
         some false
        else
         bif inB (k : Int) x2.length then
          bif decide ((rd x2 (k : Int) (Ty.dflt Qm)).1 = 3) then
           some false
          else
           Zy x1 x2 rest (k + 1)
         else none
       else none
     else none
    else
     bif inB (k : Int) x2.length then
      Option.bind (JK (rd x2 (k : Int) (Ty.dflt Qm))) fun (y4 : Bool) =>
      bif !(y4) then
       some false
      else
       bif inB (k : Int) x2.length then
        bif decide ((rd x2 (k : Int) (Ty.dflt Qm)).1 = 3) then
         some false
        else
         Zy x1 x2 rest (k + 1)
       else none
     else none
noncomputable def ZR (a0 : (List (List Int))) (a1 : (List Qz)) : Option Bool :=
 bif decide ((20 : Int) < (a0.length : Int)) then
  some false
 else
  bif !decide ((a1.length : Int) = (a0.length : Int)) then
   some false
  else
   Jg a0 (Zy a0 a1 a0 0)
noncomputable def Ui : Ctr := ⟨97, [(.list .str), (.list Qm)], [.bool], fun x => ZR x.1 x.2.1⟩
def Qbx : List (List Nat × Ann) := [([0, 4], [.keep 0 0, .keep 0 1, .keep 0 17, .keep 0 18, .keep 0 19])]
def EP : List (List Nat × Nat) := []
noncomputable def EQ : List Ctr := [Vr, VR, Qbw]
noncomputable def Qil (n : Nat) (a0 : (List (List Int))) (a1 : (List Qz)) : Option Bool := run Tryz.prog Qbx EP (Qn EQ) Tryz.f97 (Tryz.f97.body.getD .skip) (Qp [.bool]) n (Qu [(.list .str), (.list Qm)] (a0, a1, ()))
noncomputable abbrev Yo (n : Nat) (x1 : (List (List Int))) (x2 : (List Qz)) (x3 : (List (List Int))) (x4 : Int) (x5 : Int) : Option Bool := lam Tryz.prog Qbx EP (Qn EQ) Tryz.f97 (Tryz.f97.body.getD .skip) (Qp [.bool]) n [0, 4] [.d (.list .str) x1, .d (.list Qm) x2, .d (.list .str) x3, .d I64 x4, .d I64 x5]
theorem QoX (n : Nat) (a0 : (List (List Int))) (a1 : (List Qz)) : Qil n a0 a1 =
  bif decide ((20 : Int) < (a0.length : Int)) then
   some false
  else
   bif !decide ((a1.length : Int) = (a0.length : Int)) then
    some false
   else
    Yo n a0 a1 a0 (a0.length : Int) 0 := by kernel_rfl
theorem Em (n : Nat) (x1 : (List (List Int))) (x2 : (List Qz)) (x3 : (List (List Int))) (x4 : Int) (x5 : Int) : Yo (n + 1) x1 x2 x3 x4 x5 =
  bif decide (x5 < x4) then
   bif inB x5 x3.length then
    Option.bind (Q9 (rd x3 x5 (Ty.dflt .str))) fun (y1 : Bool) =>
    bif !(y1) then
     some false
    else
     bif decide ((0 : Int) < x5) then
      bif inB (IntKind.wrap .i64 (x5 - 1)) x1.length then
       Option.bind (QX (rd x1 (IntKind.wrap .i64 (x5 - 1)) (Ty.dflt .str)) (rd x3 x5 (Ty.dflt .str))) fun (y2 : Int) =>
       bif decide ((0 : Int) ≤ y2) then
        some false
       else
        bif inB x5 x2.length then
         Option.bind (JK (rd x2 x5 (Ty.dflt Qm))) fun (y3 : Bool) =>
         bif !(y3) then
          some false
         else
          bif inB x5 x2.length then
           bif decide ((rd x2 x5 (Ty.dflt Qm)).1 = 3) then
            some false
           else
            Yo n x1 x2 x3 x4 (IntKind.wrap .i64 (x5 + 1))
          else none
        else none
      else none
     else
      bif inB x5 x2.length then
       Option.bind (JK (rd x2 x5 (Ty.dflt Qm))) fun (y4 : Bool) =>
       bif !(y4) then
        some false
       else
        bif inB x5 x2.length then
         bif decide ((rd x2 x5 (Ty.dflt Qm)).1 = 3) then
          some false
         else
          Yo n x1 x2 x3 x4 (IntKind.wrap .i64 (x5 + 1))
        else none
      else none
   else none
  else
   some true := by kernel_rfl
theorem Qnf {x1 : (List (List Int))} {x2 : (List Qz)} (hl : x1.length ≤ maxLen) : ∀ (rest : List (List Int)) (k : Nat) (r : Bool), rest = x1.drop k → Zy x1 x2 rest k = some r → Ev (fun n => Yo n x1 x2 x1 (x1.length : Int) (k : Int)) r := by
 intro rest
 induction rest with
 | nil =>
  intro k r hr h
  have hk := QO hr
  rw [Zy] at h
  refine Ev.step ?_ (fun n => Em n x1 x2 x1 (x1.length : Int) (k : Int))
  rw [show decide ((k : Int) < (x1.length : Int)) = false from decide_eq_false (by omega)]
  exact Ev.neg rfl (Ev.ofSome h)
 | cons e rest ih =>
  intro k r hr h
  obtain ⟨hk, hx, hr2⟩ := QE (d := (Ty.dflt .str)) hr
  have hw := QA hl hk
  have ih2 : ∀ (r : Bool), Zy x1 x2 rest (k + 1) = some r → Ev (fun n => Yo n x1 x2 x1 (x1.length : Int) (IntKind.wrap .i64 ((k : Int) + 1))) r := by
   intro r h; rw [hw]; exact ih (k + 1) r hr2 h
  rw [Zy] at h
  refine Ev.step ?_ (fun n => Em n x1 x2 x1 (x1.length : Int) (k : Int))
  rw [show decide ((k : Int) < (x1.length : Int)) = true from decide_eq_true (by omega), QB hk, hx]
  exact Ev.pos rfl (Ev.pos rfl (Ev.ofBind h fun y1 h => (Ev.ofBif h (fun h => (Ev.ofSome h)) (fun h => (Ev.ofBif h (fun h => (Ev.ofBif h (fun h => (Ev.ofBind h fun y2 h => (Ev.ofBif h (fun h => (Ev.ofSome h)) (fun h => (Ev.ofBif h (fun h => (Ev.ofBind h fun y3 h => (Ev.ofBif h (fun h => (Ev.ofSome h)) (fun h => (Ev.ofBif h (fun h => (Ev.ofBif h (fun h => (Ev.ofSome h)) (fun h => (ih2  _ h)))) (fun h => (Ev.ofNone h))))))) (fun h => (Ev.ofNone h))))))) (fun h => (Ev.ofNone h)))) (fun h => (Ev.ofBif h (fun h => (Ev.ofBind h fun y4 h => (Ev.ofBif h (fun h => (Ev.ofSome h)) (fun h => (Ev.ofBif h (fun h => (Ev.ofBif h (fun h => (Ev.ofSome h)) (fun h => (ih2  _ h)))) (fun h => (Ev.ofNone h))))))) (fun h => (Ev.ofNone h)))))))))
theorem Qvm (a0 : (List (List Int))) (a1 : (List Qz)) {r : Bool} (h : ZR a0 a1 = some r) : Ev (fun n => Qil n a0 a1) r := by
 rw [ZR] at h
 refine Ev.of_eq ?_ (fun n => QoX n a0 a1)
 exact (Ev.ofBif h (fun h => (Ev.ofSome h)) (fun h => (Ev.ofBif h (fun h => (Ev.ofSome h)) (fun h => (Ev.ofLen h fun hl h => Qnf hl _ (0 : Nat) _ rfl h)))))
theorem QqY : ∀ x ∈ EQ, Qg Tryz.prog x := (Qb G9 (Qb Hl (Qb QsX Qi)))
theorem QgD : Qg Tryz.prog (Ui) := by
 refine Qh (c := Ui) (by kernel_rfl) (by kernel_rfl : Tryz.prog.funcs[97]? = some Tryz.f97) (code := Tryz.f97.body.getD .skip) (by kernel_rfl) (by kernel_rfl) (by kernel_rfl) (A := Qbx) (I := EP) (QqY) ?_
 rintro ⟨a0, a1, u⟩ y hy
 exact (Qvm a0 a1 hy).get
noncomputable def Q6 (K0 : Option Bool) (x8 : Qj) : List Qe → Nat → Option Bool
 | [], k =>
   K0
 | e :: rest, k =>
   Option.bind (ZF (e)) fun (y4 : Bool) =>
   bif !(y4) then
    some false
   else
    bif decide ((0 : Int) < (k : Int)) then
     bif inB (IntKind.wrap .i64 ((k : Int) - 1)) x8.2.1.length then
      Option.bind (Ja (rd x8.2.1 (IntKind.wrap .i64 ((k : Int) - 1)) (Ty.dflt Qa)) (e)) fun (y5 : Int) =>
      bif decide ((0 : Int) ≤ y5) then
       some false
      else
       Q6 K0 x8 rest (k + 1)
     else none
    else
     Q6 K0 x8 rest (k + 1)
noncomputable def Zo (x1 : (List Qj)) : List Qj → Nat → Option Bool
 | [], k =>
   some true
 | e :: rest, k =>
   Option.bind (ZF ((e).1)) fun (y1 : Bool) =>
   bif !(y1) then
    some false
   else
    bif decide ((0 : Int) < (k : Int)) then
     bif inB (IntKind.wrap .i64 ((k : Int) - 1)) x1.length then
      Option.bind (Ja ((rd x1 (IntKind.wrap .i64 ((k : Int) - 1)) (Ty.dflt Qf)).1) ((e).1)) fun (y2 : Int) =>
      bif decide ((0 : Int) ≤ y2) then
       some false
      else
       bif decide ((50 : Int) < ((((e).2).1).length : Int)) then
        some false
       else
        Option.bind (ZR ((((e).2).2).1) ((((e).2).2).2)) fun (y3 : Bool) =>
        bif !(y3) then
         some false
        else
         Jg (((e).2).1) (Q6 (Zo x1 rest (k + 1)) (((e).1), ((e).2)) (((e).2).1) 0)
     else none
    else
     bif decide ((50 : Int) < ((((e).2).1).length : Int)) then
      some false
     else
      Option.bind (ZR ((((e).2).2).1) ((((e).2).2).2)) fun (y6 : Bool) =>
      bif !(y6) then
       some false
      else
       Jg (((e).2).1) (Q6 (Zo x1 rest (k + 1)) (((e).1), ((e).2)) (((e).2).1) 0)
noncomputable def YC (a0 : (List Qj)) : Option Bool :=
 bif decide ((100 : Int) < (a0.length : Int)) then
  some false
 else
  Jg a0 (Zo a0 a0 0)
noncomputable def ER : Ctr := ⟨66, [(.list Qf)], [.bool], fun x => YC x.1⟩
def Hm : List (List Nat × Ann) := [([0, 4], [.keep 0 0, .keep 0 10, .keep 0 11, .keep 0 12]), ([0, 9], [.keep 0 0, .keep 0 4, .keep 0 10, .keep 0 11, .keep 0 12, .keep 0 52, .keep 0 53, .keep 0 54, .boxd 0 4 Qf])]
def Xz : List (List Nat × Nat) := []
noncomputable def XA : List Ctr := [Qcy, EO, Ui]
noncomputable def QgE (n : Nat) (a0 : (List Qj)) : Option Bool := run Tryz.prog Hm Xz (Qn XA) Tryz.f66 (Tryz.f66.body.getD .skip) (Qp [.bool]) n (Qu [(.list Qf)] (a0, ()))
noncomputable abbrev J3 (n : Nat) (x1 : (List Qj)) (x2 : (List Qj)) (x3 : Int) (x4 : Int) : Option Bool := lam Tryz.prog Hm Xz (Qn XA) Tryz.f66 (Tryz.f66.body.getD .skip) (Qp [.bool]) n [0, 4] [.d (.list Qf) x1, .d (.list Qf) x2, .d I64 x3, .d I64 x4]
noncomputable abbrev Jv (n : Nat) (x1 : (List Qj)) (x2 : (List Qj)) (x3 : Int) (x4 : Int) (x5 : (List Qe)) (x6 : Int) (x7 : Int) (x8 : Qj) : Option Bool := lam Tryz.prog Hm Xz (Qn XA) Tryz.f66 (Tryz.f66.body.getD .skip) (Qp [.bool]) n [0, 9] [.d (.list Qf) x1, .ptr 0 4 0, .d (.list Qf) x2, .d I64 x3, .d I64 x4, .d (.list Qa) x5, .d I64 x6, .d I64 x7, .agg (Qq Qf x8)]
theorem Qng (n : Nat) (a0 : (List Qj)) : QgE n a0 =
  bif decide ((100 : Int) < (a0.length : Int)) then
   some false
  else
   J3 n a0 a0 (a0.length : Int) 0 := by kernel_rfl
theorem UZ (n : Nat) (x1 : (List Qj)) (x2 : (List Qj)) (x3 : Int) (x4 : Int) : J3 (n + 1) x1 x2 x3 x4 =
  bif decide (x4 < x3) then
   bif inB x4 x2.length then
    Option.bind (ZF ((rd x2 x4 (Ty.dflt Qf)).1)) fun (y1 : Bool) =>
    bif !(y1) then
     some false
    else
     bif decide ((0 : Int) < x4) then
      bif inB (IntKind.wrap .i64 (x4 - 1)) x1.length then
       Option.bind (Ja ((rd x1 (IntKind.wrap .i64 (x4 - 1)) (Ty.dflt Qf)).1) ((rd x2 x4 (Ty.dflt Qf)).1)) fun (y2 : Int) =>
       bif decide ((0 : Int) ≤ y2) then
        some false
       else
        bif decide ((50 : Int) < ((((rd x2 x4 (Ty.dflt Qf)).2).1).length : Int)) then
         some false
        else
         Option.bind (ZR ((((rd x2 x4 (Ty.dflt Qf)).2).2).1) ((((rd x2 x4 (Ty.dflt Qf)).2).2).2)) fun (y3 : Bool) =>
         bif !(y3) then
          some false
         else
          Jv n x1 x2 x3 x4 (((rd x2 x4 (Ty.dflt Qf)).2).1) ((((rd x2 x4 (Ty.dflt Qf)).2).1).length : Int) 0 (((rd x2 x4 (Ty.dflt Qf)).1), ((rd x2 x4 (Ty.dflt Qf)).2))
      else none
     else
      bif decide ((50 : Int) < ((((rd x2 x4 (Ty.dflt Qf)).2).1).length : Int)) then
       some false
      else
       Option.bind (ZR ((((rd x2 x4 (Ty.dflt Qf)).2).2).1) ((((rd x2 x4 (Ty.dflt Qf)).2).2).2)) fun (y6 : Bool) =>
       bif !(y6) then
        some false
       else
        Jv n x1 x2 x3 x4 (((rd x2 x4 (Ty.dflt Qf)).2).1) ((((rd x2 x4 (Ty.dflt Qf)).2).1).length : Int) 0 (((rd x2 x4 (Ty.dflt Qf)).1), ((rd x2 x4 (Ty.dflt Qf)).2))
   else none
  else
   some true := by kernel_rfl
theorem U0 (n : Nat) (x1 : (List Qj)) (x2 : (List Qj)) (x3 : Int) (x4 : Int) (x5 : (List Qe)) (x6 : Int) (x7 : Int) (x8 : Qj) : Jv (n + 1) x1 x2 x3 x4 x5 x6 x7 x8 =
  bif decide (x7 < x6) then
   bif inB x7 x5.length then
    Option.bind (ZF (rd x5 x7 (Ty.dflt Qa))) fun (y4 : Bool) =>
    bif !(y4) then
     some false
    else
     bif decide ((0 : Int) < x7) then
      bif inB (IntKind.wrap .i64 (x7 - 1)) x8.2.1.length then
       Option.bind (Ja (rd x8.2.1 (IntKind.wrap .i64 (x7 - 1)) (Ty.dflt Qa)) (rd x5 x7 (Ty.dflt Qa))) fun (y5 : Int) =>
       bif decide ((0 : Int) ≤ y5) then
        some false
       else
        Jv n x1 x2 x3 x4 x5 x6 (IntKind.wrap .i64 (x7 + 1)) x8
      else none
     else
      Jv n x1 x2 x3 x4 x5 x6 (IntKind.wrap .i64 (x7 + 1)) x8
   else none
  else
   J3 n x1 x2 x3 (IntKind.wrap .i64 (x4 + 1)) := by kernel_rfl
theorem QaZ {K0 : Option Bool} {x1 : (List Qj)} {x3 : Int} {x4 : Int} {x5 : (List Qe)} {x8 : Qj} (hl : x5.length ≤ maxLen) (hK0 : ∀  (r : Bool), K0 = some r → Ev (fun n => J3 n x1 x1 x3 (IntKind.wrap .i64 (x4 + 1))) r) : ∀ (rest : List Qe) (k : Nat) (r : Bool), rest = x5.drop k → Q6 K0 x8 rest k = some r → Ev (fun n => Jv n x1 x1 x3 x4 x5 (x5.length : Int) (k : Int) x8) r := by
 intro rest
 induction rest with
 | nil =>
  intro k r hr h
  have hk := QO hr
  rw [Q6] at h
  refine Ev.step ?_ (fun n => U0 n x1 x1 x3 x4 x5 (x5.length : Int) (k : Int) x8)
  rw [show decide ((k : Int) < (x5.length : Int)) = false from decide_eq_false (by omega)]
  exact Ev.neg rfl (hK0  _ h)
 | cons e rest ih =>
  intro k r hr h
  obtain ⟨hk, hx, hr2⟩ := QE (d := (Ty.dflt Qa)) hr
  have hw := QA hl hk
  have ih2 : ∀ (r : Bool), Q6 K0 x8 rest (k + 1) = some r → Ev (fun n => Jv n x1 x1 x3 x4 x5 (x5.length : Int) (IntKind.wrap .i64 ((k : Int) + 1)) x8) r := by
   intro r h; rw [hw]; exact ih (k + 1) r hr2 h
  rw [Q6] at h
  refine Ev.step ?_ (fun n => U0 n x1 x1 x3 x4 x5 (x5.length : Int) (k : Int) x8)
  rw [show decide ((k : Int) < (x5.length : Int)) = true from decide_eq_true (by omega), QB hk, hx]
  exact Ev.pos rfl (Ev.pos rfl (Ev.ofBind h fun y4 h => (Ev.ofBif h (fun h => (Ev.ofSome h)) (fun h => (Ev.ofBif h (fun h => (Ev.ofBif h (fun h => (Ev.ofBind h fun y5 h => (Ev.ofBif h (fun h => (Ev.ofSome h)) (fun h => (ih2  _ h))))) (fun h => (Ev.ofNone h)))) (fun h => (ih2  _ h)))))))
theorem Ql5 {x1 : (List Qj)} (hl : x1.length ≤ maxLen) : ∀ (rest : List Qj) (k : Nat) (r : Bool), rest = x1.drop k → Zo x1 rest k = some r → Ev (fun n => J3 n x1 x1 (x1.length : Int) (k : Int)) r := by
 intro rest
 induction rest with
 | nil =>
  intro k r hr h
  have hk := QO hr
  rw [Zo] at h
  refine Ev.step ?_ (fun n => UZ n x1 x1 (x1.length : Int) (k : Int))
  rw [show decide ((k : Int) < (x1.length : Int)) = false from decide_eq_false (by omega)]
  exact Ev.neg rfl (Ev.ofSome h)
 | cons e rest ih =>
  intro k r hr h
  obtain ⟨hk, hx, hr2⟩ := QE (d := (Ty.dflt Qf)) hr
  have hw := QA hl hk
  have ih2 : ∀ (r : Bool), Zo x1 rest (k + 1) = some r → Ev (fun n => J3 n x1 x1 (x1.length : Int) (IntKind.wrap .i64 ((k : Int) + 1))) r := by
   intro r h; rw [hw]; exact ih (k + 1) r hr2 h
  rw [Zo] at h
  refine Ev.step ?_ (fun n => UZ n x1 x1 (x1.length : Int) (k : Int))
  rw [show decide ((k : Int) < (x1.length : Int)) = true from decide_eq_true (by omega), QB hk, hx]
  exact Ev.pos rfl (Ev.pos rfl (Ev.ofBind h fun y1 h => (Ev.ofBif h (fun h => (Ev.ofSome h)) (fun h => (Ev.ofBif h (fun h => (Ev.ofBif h (fun h => (Ev.ofBind h fun y2 h => (Ev.ofBif h (fun h => (Ev.ofSome h)) (fun h => (Ev.ofBif h (fun h => (Ev.ofSome h)) (fun h => (Ev.ofBind h fun y3 h => (Ev.ofBif h (fun h => (Ev.ofSome h)) (fun h => (Ev.ofLen h fun hl h => QaZ hl ih2 _ (0 : Nat) _ rfl h)))))))))) (fun h => (Ev.ofNone h)))) (fun h => (Ev.ofBif h (fun h => (Ev.ofSome h)) (fun h => (Ev.ofBind h fun y6 h => (Ev.ofBif h (fun h => (Ev.ofSome h)) (fun h => (Ev.ofLen h fun hl h => QaZ hl ih2 _ (0 : Nat) _ rfl h))))))))))))
theorem QsY (a0 : (List Qj)) {r : Bool} (h : YC a0 = some r) : Ev (fun n => QgE n a0) r := by
 rw [YC] at h
 refine Ev.of_eq ?_ (fun n => Qng n a0)
 exact (Ev.ofBif h (fun h => (Ev.ofSome h)) (fun h => (Ev.ofLen h fun hl h => Ql5 hl _ (0 : Nat) _ rfl h)))
theorem QoY : ∀ x ∈ XA, Qg Tryz.prog x := (Qb Qnc (Qb Qhn (Qb QgD Qi)))
theorem QqZ : Qg Tryz.prog (ER) := by
 refine Qh (c := ER) (by kernel_rfl) (by kernel_rfl : Tryz.prog.funcs[66]? = some Tryz.f66) (code := Tryz.f66.body.getD .skip) (by kernel_rfl) (by kernel_rfl) (by kernel_rfl) (A := Hm) (I := Xz) (QoY) ?_
 rintro ⟨a0, u⟩ y hy
 exact (QsY a0 hy).get
noncomputable def Yl (a0 : Qt) : Option Bool :=
 Option.bind (ZF a0.1) fun (y1 : Bool) =>
 bif y1 then
  Option.bind (ZF a0.2.1) fun (y2 : Bool) =>
  bif y2 then
   Option.bind (ZF a0.2.2.1) fun (y3 : Bool) =>
   bif y3 then
    Option.bind (ZR a0.2.2.2.1 a0.2.2.2.2) fun (y4 : Bool) =>
    some y4
   else
    some false
  else
   some false
 else
  some false
noncomputable def WL : Ctr := ⟨67, [Qr], [.bool], fun x => Yl x.1⟩
def Qfi : List (List Nat × Ann) := []
def Qea : List (List Nat × Nat) := []
noncomputable def Qeb : List Ctr := [Qcy, Ui]
noncomputable def Qfj (n : Nat) (a0 : Qt) : Option Bool := run Tryz.prog Qfi Qea (Qn Qeb) Tryz.f67 (Tryz.f67.body.getD .skip) (Qp [.bool]) n (Qu [Qr] (a0, ()))
theorem Ql6 (n : Nat) (a0 : Qt) : Qfj n a0 =
  Option.bind (ZF a0.1) fun (y1 : Bool) =>
  bif y1 then
   Option.bind (ZF a0.2.1) fun (y2 : Bool) =>
   bif y2 then
    Option.bind (ZF a0.2.2.1) fun (y3 : Bool) =>
    bif y3 then
     Option.bind (ZR a0.2.2.2.1 a0.2.2.2.2) fun (y4 : Bool) =>
     some y4
    else
     some false
   else
    some false
  else
   some false := by kernel_rfl
theorem Qq0 (a0 : Qt) {r : Bool} (h : Yl a0 = some r) : Ev (fun n => Qfj n a0) r := by
 rw [Yl] at h
 refine Ev.of_eq ?_ (fun n => Ql6 n a0)
 exact (Ev.ofBind h fun y1 h => (Ev.ofBif h (fun h => (Ev.ofBind h fun y2 h => (Ev.ofBif h (fun h => (Ev.ofBind h fun y3 h => (Ev.ofBif h (fun h => (Ev.ofBind h fun y4 h => (Ev.ofSome h))) (fun h => (Ev.ofSome h))))) (fun h => (Ev.ofSome h))))) (fun h => (Ev.ofSome h))))
theorem Qnh : ∀ x ∈ Qeb, Qg Tryz.prog x := (Qb Qnc (Qb QgD Qi))
theorem QoZ : Qg Tryz.prog (WL) := by
 refine Qh (c := WL) (by kernel_rfl) (by kernel_rfl : Tryz.prog.funcs[67]? = some Tryz.f67) (code := Tryz.f67.body.getD .skip) (by kernel_rfl) (by kernel_rfl) (by kernel_rfl) (A := Qfi) (I := Qea) (Qnh) ?_
 rintro ⟨a0, u⟩ y hy
 exact (Qq0 a0 hy).get
noncomputable def Zu (x1 : (List Int)) : List Int → Option Bool
 | [] =>
   bif decide ((1 : Int) ≤ (x1.length : Int)) then
    some (decide ((x1.length : Int) ≤ 40))
   else
    some false
 | e :: rest =>
   bif !(YN (e)) then
    bif !(Ya (e)) then
     bif !decide (e = 95) then
      bif !decide (e = 45) then
       bif !decide (e = 46) then
        some false
       else
        Zu x1 rest
      else
       Zu x1 rest
     else
      Zu x1 rest
    else
     Zu x1 rest
   else
    Zu x1 rest
noncomputable def HK (a0 : (List Int)) : Option Bool :=
 Jg a0 (Zu a0 a0)
noncomputable def Qni : Ctr := ⟨125, [.str], [.bool], fun x => HK x.1⟩
def Qnj : List (List Nat × Ann) := [([0, 2], [.keep 0 0, .keep 0 3])]
def Qkd : List (List Nat × Nat) := []
noncomputable def Qke : List Ctr := [Wj, EK]
noncomputable def QwW (n : Nat) (a0 : (List Int)) : Option Bool := run Tryz.prog Qnj Qkd (Qn Qke) Tryz.f125 (Tryz.f125.body.getD .skip) (Qp [.bool]) n (Qu [.str] (a0, ()))
noncomputable abbrev Yd (n : Nat) (x1 : (List Int)) (x2 : Int) : Option Bool := lam Tryz.prog Qnj Qkd (Qn Qke) Tryz.f125 (Tryz.f125.body.getD .skip) (Qp [.bool]) n [0, 2] [.d .str x1, .d I64 x2]
theorem Qzx (n : Nat) (a0 : (List Int)) : QwW n a0 =
  Yd n a0 0 := by kernel_rfl
theorem Qfk (n : Nat) (x1 : (List Int)) (x2 : Int) : Yd (n + 1) x1 x2 =
  bif decide (x2 < (x1.length : Int)) then
   bif inB x2 x1.length then
    bif !(YN (rd x1 x2 0)) then
     bif inB x2 x1.length then
      bif !(Ya (rd x1 x2 0)) then
       bif inB x2 x1.length then
        bif !decide (rd x1 x2 0 = 95) then
         bif inB x2 x1.length then
          bif !decide (rd x1 x2 0 = 45) then
           bif inB x2 x1.length then
            bif !decide (rd x1 x2 0 = 46) then
             some false
            else
             Yd n x1 (IntKind.wrap .i64 (x2 + 1))
           else none
          else
           Yd n x1 (IntKind.wrap .i64 (x2 + 1))
         else none
        else
         Yd n x1 (IntKind.wrap .i64 (x2 + 1))
       else none
      else
       Yd n x1 (IntKind.wrap .i64 (x2 + 1))
     else none
    else
     Yd n x1 (IntKind.wrap .i64 (x2 + 1))
   else none
  else
   bif decide ((1 : Int) ≤ (x1.length : Int)) then
    some (decide ((x1.length : Int) ≤ 40))
   else
    some false := by kernel_rfl
theorem Qxc {x1 : (List Int)} (hl : x1.length ≤ maxLen) : ∀ (rest : List Int) (k : Nat) (r : Bool), rest = x1.drop k → Zu x1 rest = some r → Ev (fun n => Yd n x1 (k : Int)) r := by
 intro rest
 induction rest with
 | nil =>
  intro k r hr h
  have hk := QO hr
  rw [Zu] at h
  refine Ev.step ?_ (fun n => Qfk n x1 (k : Int))
  rw [show decide ((k : Int) < (x1.length : Int)) = false from decide_eq_false (by omega)]
  exact Ev.neg rfl (Ev.ofBif h (fun h => (Ev.ofSome h)) (fun h => (Ev.ofSome h)))
 | cons e rest ih =>
  intro k r hr h
  obtain ⟨hk, hx, hr2⟩ := QE (d := 0) hr
  have hw := QA hl hk
  have ih2 : ∀ (r : Bool), Zu x1 rest = some r → Ev (fun n => Yd n x1 (IntKind.wrap .i64 ((k : Int) + 1))) r := by
   intro r h; rw [hw]; exact ih (k + 1) r hr2 h
  rw [Zu] at h
  refine Ev.step ?_ (fun n => Qfk n x1 (k : Int))
  rw [show decide ((k : Int) < (x1.length : Int)) = true from decide_eq_true (by omega), QB hk, hx]
  exact Ev.pos rfl (Ev.pos rfl (Ev.ofBif h (fun h => (Ev.pos rfl (Ev.ofBif h (fun h => (Ev.pos rfl (Ev.ofBif h (fun h => (Ev.pos rfl (Ev.ofBif h (fun h => (Ev.pos rfl (Ev.ofBif h (fun h => (Ev.ofSome h)) (fun h => (ih2  _ h))))) (fun h => (ih2  _ h))))) (fun h => (ih2  _ h))))) (fun h => (ih2  _ h))))) (fun h => (ih2  _ h))))
theorem QCN (a0 : (List Int)) {r : Bool} (h : HK a0 = some r) : Ev (fun n => QwW n a0) r := by
 rw [HK] at h
 refine Ev.of_eq ?_ (fun n => Qzx n a0)
 exact (Ev.ofLen h fun hl h => Qxc hl _ (0 : Nat) _ rfl h)
theorem QAx : ∀ x ∈ Qke, Qg Tryz.prog x := (Qb Qie (Qb QkT Qi))
theorem QBX : Qg Tryz.prog (Qni) := by
 refine Qh (c := Qni) (by kernel_rfl) (by kernel_rfl : Tryz.prog.funcs[125]? = some Tryz.f125) (code := Tryz.f125.body.getD .skip) (by kernel_rfl) (by kernel_rfl) (by kernel_rfl) (A := Qnj) (I := Qkd) (QAx) ?_
 rintro ⟨a0, u⟩ y hy
 exact (QCN a0 hy).get
noncomputable def JL (x1 : Bool) (x2 : Int) (x3 : Bool) (x4 : ZE) : Option Bool :=
 bif x3 then
  bif decide (x4.2.1.1 = 4) then
   Option.bind (Za x4.2.1) fun (y1 : Bool) =>
   bif y1 then
    some (decide (x4.2.2 = ([] : List Int)))
   else
    some false
  else
   some false
 else
  bif decide (x2 = 4) then
   bif @decide (x4.2.1 = (0, 0, ([] : List Int), ([] : List Int))) (Ty.decEq Qa x4.2.1 (0, 0, ([] : List Int), ([] : List Int))) then
    Option.bind (Q9 x4.2.2) fun (y2 : Bool) =>
    some y2
   else
    some false
  else
   bif decide (x2 = 5) then
    bif decide (x2 = 5) then
     bif x1 then
      bif @decide (x4.2.1 = (0, 0, ([] : List Int), ([] : List Int))) (Ty.decEq Qa x4.2.1 (0, 0, ([] : List Int), ([] : List Int))) then
       some (decide (x4.2.2 = ([] : List Int)))
      else
       some false
     else
      some false
    else
     some false
   else
    bif decide (x2 = 6) then
     bif x1 then
      bif @decide (x4.2.1 = (0, 0, ([] : List Int), ([] : List Int))) (Ty.decEq Qa x4.2.1 (0, 0, ([] : List Int), ([] : List Int))) then
       some (decide (x4.2.2 = ([] : List Int)))
      else
       some false
     else
      some false
    else
     some false
noncomputable def QY (a0 : ZE) (a1 : Bool) : Option Bool :=
 bif decide (a0.1 = 1) then
  bif @decide (a0.2.1 = (0, 0, ([] : List Int), ([] : List Int))) (Ty.decEq Qa a0.2.1 (0, 0, ([] : List Int), ([] : List Int))) then
   some (decide (a0.2.2 = ([] : List Int)))
  else
   some false
 else
  bif decide (a0.1 = 2) then
   JL a1 a0.1 (decide (a0.1 = 2)) a0
  else
   JL a1 a0.1 (decide (a0.1 = 3)) a0
noncomputable def WM : Ctr := ⟨126, [Qs, .bool], [.bool], fun x => QY x.1 x.2.1⟩
def WN : List (List Nat × Ann) := [([1, 6], [.keep 0 1, .keep 0 2, .keep 0 6, .keep 0 18, .boxd 0 2 Qs])]
def UI : List (List Nat × Nat) := []
noncomputable def UJ : List Ctr := [Gk, Vr]
noncomputable def Qfl (n : Nat) (a0 : ZE) (a1 : Bool) : Option Bool := run Tryz.prog WN UI (Qn UJ) Tryz.f126 (Tryz.f126.body.getD .skip) (Qp [.bool]) n (Qu [Qs, .bool] (a0, a1, ()))
noncomputable abbrev VL (n : Nat) (x1 : Bool) (x2 : Int) (x3 : Bool) (x4 : ZE) : Option Bool := lam Tryz.prog WN UI (Qn UJ) Tryz.f126 (Tryz.f126.body.getD .skip) (Qp [.bool]) n [1, 6] [.d .bool x1, .ptr 0 2 0, .d I64 x2, .d .bool x3, .agg (Qq Qs x4)]
theorem Ql7 (n : Nat) (a0 : ZE) (a1 : Bool) : Qfl n a0 a1 =
  bif decide (a0.1 = 1) then
   bif @decide (a0.2.1 = (0, 0, ([] : List Int), ([] : List Int))) (Ty.decEq Qa a0.2.1 (0, 0, ([] : List Int), ([] : List Int))) then
    some (decide (a0.2.2 = ([] : List Int)))
   else
    some false
  else
   bif decide (a0.1 = 2) then
    VL n a1 a0.1 (decide (a0.1 = 2)) a0
   else
    VL n a1 a0.1 (decide (a0.1 = 3)) a0 := by kernel_rfl
theorem Qgs (n : Nat) (x1 : Bool) (x2 : Int) (x3 : Bool) (x4 : ZE) : VL (n + 1) x1 x2 x3 x4 =
  bif x3 then
   bif decide (x4.2.1.1 = 4) then
    Option.bind (Za x4.2.1) fun (y1 : Bool) =>
    bif y1 then
     some (decide (x4.2.2 = ([] : List Int)))
    else
     some false
   else
    some false
  else
   bif decide (x2 = 4) then
    bif @decide (x4.2.1 = (0, 0, ([] : List Int), ([] : List Int))) (Ty.decEq Qa x4.2.1 (0, 0, ([] : List Int), ([] : List Int))) then
     Option.bind (Q9 x4.2.2) fun (y2 : Bool) =>
     some y2
    else
     some false
   else
    bif decide (x2 = 5) then
     bif decide (x2 = 5) then
      bif x1 then
       bif @decide (x4.2.1 = (0, 0, ([] : List Int), ([] : List Int))) (Ty.decEq Qa x4.2.1 (0, 0, ([] : List Int), ([] : List Int))) then
        some (decide (x4.2.2 = ([] : List Int)))
       else
        some false
      else
       some false
     else
      some false
    else
     bif decide (x2 = 6) then
      bif x1 then
       bif @decide (x4.2.1 = (0, 0, ([] : List Int), ([] : List Int))) (Ty.decEq Qa x4.2.1 (0, 0, ([] : List Int), ([] : List Int))) then
        some (decide (x4.2.2 = ([] : List Int)))
       else
        some false
      else
       some false
     else
      some false := by kernel_rfl
theorem ES {x1 : Bool} {x2 : Int} {x3 : Bool} {x4 : ZE} {r : Bool} (h : JL x1 x2 x3 x4 = some r) : Ev (fun n => VL n x1 x2 x3 x4) r := by
 rw [JL] at h
 refine Ev.step ?_ (fun n => Qgs n x1 x2 x3 x4)
 exact (Ev.ofBif h (fun h => (Ev.ofBif h (fun h => (Ev.ofBind h fun y1 h => (Ev.ofBif h (fun h => (Ev.ofSome h)) (fun h => (Ev.ofSome h))))) (fun h => (Ev.ofSome h)))) (fun h => (Ev.ofBif h (fun h => (Ev.ofBif h (fun h => (Ev.ofBind h fun y2 h => (Ev.ofSome h))) (fun h => (Ev.ofSome h)))) (fun h => (Ev.ofBif h (fun h => (Ev.ofBif h (fun h => (Ev.ofBif h (fun h => (Ev.ofBif h (fun h => (Ev.ofSome h)) (fun h => (Ev.ofSome h)))) (fun h => (Ev.ofSome h)))) (fun h => (Ev.ofSome h)))) (fun h => (Ev.ofBif h (fun h => (Ev.ofBif h (fun h => (Ev.ofBif h (fun h => (Ev.ofSome h)) (fun h => (Ev.ofSome h)))) (fun h => (Ev.ofSome h)))) (fun h => (Ev.ofSome h)))))))))
theorem Qq1 (a0 : ZE) (a1 : Bool) {r : Bool} (h : QY a0 a1 = some r) : Ev (fun n => Qfl n a0 a1) r := by
 rw [QY] at h
 refine Ev.of_eq ?_ (fun n => Ql7 n a0 a1)
 exact (Ev.ofBif h (fun h => (Ev.ofBif h (fun h => (Ev.ofSome h)) (fun h => (Ev.ofSome h)))) (fun h => (Ev.ofBif h (fun h => (ES h)) (fun h => (ES h)))))
theorem Qnk : ∀ x ∈ UJ, Qg Tryz.prog x := (Qb Uh (Qb G9 Qi))
theorem Qo0 : Qg Tryz.prog (WM) := by
 refine Qh (c := WM) (by kernel_rfl) (by kernel_rfl : Tryz.prog.funcs[126]? = some Tryz.f126) (code := Tryz.f126.body.getD .skip) (by kernel_rfl) (by kernel_rfl) (by kernel_rfl) (A := WN) (I := UI) (Qnk) ?_
 rintro ⟨a0, a1, u⟩ y hy
 exact (Qq1 a0 a1 hy).get
noncomputable def JB (Rc : (List Qo) → Int → Int → Option (Qv × Int)) (x1 : (List Qo)) (x3 : Int) : Nat → Int → Int → (List Qv) → Qv → Option (Qv × Int)
 | 0, _, _, _, _ => none
 | m + 1, x2, x4, x6, x7 =>
   bif decide (x4 < x7.val.2.2.2) then
    Option.bind (Rc x1 x2 (IntKind.wrap .i64 (x3 + 1))) fun (y1 : (Qv × Int)) =>
    bif decide (y1.2 < 0) then
     some ((Tree.node (0, ([] : List Int), (0, 0, ([] : List Int), ([] : List Int)), 0) ([])), (-1))
    else
     bif decide (((x6.length : Int) + (([(Tree.node y1.1.val y1.1.kids)] : List Qv).length : Int)) * 104 ≤ QI) && decide ((x6.length : Int) + (([(Tree.node y1.1.val y1.1.kids)] : List Qv).length : Int) ≤ QI) then
      JB Rc x1 x3 m y1.2 (IntKind.wrap .i64 (x4 + 1)) (x6 ++ ([(Tree.node y1.1.val y1.1.kids)] : List Qv)) (Tree.node x7.val (x6 ++ ([(Tree.node y1.1.val y1.1.kids)] : List Qv)))
     else none
   else
    some ((Tree.node x7.val x6), x2)
noncomputable def HL (Rc : (List Qo) → Int → Int → Option (Qv × Int)) (m : Nat) (a0 : (List Qo)) (a1 : Int) (a2 : Int) : Option (Qv × Int) :=
 bif decide ((a0.length : Int) ≤ a1) then
  some ((Tree.node (0, ([] : List Int), (0, 0, ([] : List Int), ([] : List Int)), 0) ([])), (-1))
 else
  bif decide ((12 : Int) < a2) then
   some ((Tree.node (0, ([] : List Int), (0, 0, ([] : List Int), ([] : List Int)), 0) ([])), (-1))
  else
   bif inB a1 a0.length then
    bif decide ((((rd a0 a1 (Ty.dflt Ql)).2).2).2 < 0) then
     some ((Tree.node (0, ([] : List Int), (0, 0, ([] : List Int), ([] : List Int)), 0) ([])), (-1))
    else
     bif inB a1 a0.length then
      bif decide ((10 : Int) < (((rd a0 a1 (Ty.dflt Ql)).2).2).2) then
       some ((Tree.node (0, ([] : List Int), (0, 0, ([] : List Int), ([] : List Int)), 0) ([])), (-1))
      else
       bif inB a1 a0.length then
        JB Rc a0 a2 m (IntKind.wrap .i64 (a1 + 1)) 0 [] (Tree.node (rd a0 a1 (Ty.dflt Ql)) ([]))
       else none
     else none
   else none
noncomputable def V4 : Nat → (List Qo) → Int → Int → Option (Qv × Int)
 | 0 => fun _ _ _ => none
 | d + 1 => fun a0 a1 a2 => QaY fun m => HL (V4 d) m a0 a1 a2
noncomputable def ET (a0 : (List Qo)) (a1 : Int) (a2 : Int) : Option (Qv × Int) := QaY fun d => V4 d a0 a1 a2
noncomputable def Qnl : Ctr := ⟨157, [(.list Ql), I64, I64], [YA, I64], fun x => ET x.1 x.2.1 x.2.2.1⟩
def Qfm : List (List Nat × Ann) := [([0, 6], [.keep 0 0, .keep 0 1, .keep 0 2, .keep 0 6, .keep 0 8, .keep 0 9, .boxd 0 6 YA, .ownb 0 8 7 YA, .boxd 0 8 YA])]
def Qde : List (List Nat × Nat) := []
noncomputable def Qdf (Rc : (List Qo) → Int → Int → Option (Qv × Int)) : List Ctr := [⟨157, [(.list Ql), I64, I64], [YA, I64], fun x => Rc x.1 x.2.1 x.2.2.1⟩]
noncomputable def Qnm (Rc : (List Qo) → Int → Int → Option (Qv × Int)) (n : Nat) (a0 : (List Qo)) (a1 : Int) (a2 : Int) : Option (Qv × Int) := run Tryz.prog Qfm Qde (Qn (Qdf Rc)) Tryz.f157 (Tryz.f157.body.getD .skip) (Qp [YA, I64]) n (Qu [(.list Ql), I64, I64] (a0, a1, a2, ()))
noncomputable abbrev XB (Rc : (List Qo) → Int → Int → Option (Qv × Int)) (n : Nat) (x1 : (List Qo)) (x2 : Int) (x3 : Int) (x4 : Int) (x5 : Qv) (x6 : (List Qv)) (x7 : Qv) : Option (Qv × Int) := lam Tryz.prog Qfm Qde (Qn (Qdf Rc)) Tryz.f157 (Tryz.f157.body.getD .skip) (Qp [YA, I64]) n [0, 6] [.d (.list Ql) x1, .d I64 x2, .d I64 x3, .ptr 0 6 0, .ptr 0 8 0, .d I64 x4, .agg (Qq YA x5), .own 0 YA x6, .agg (Qq YA x7)]
theorem QsZ (Rc : (List Qo) → Int → Int → Option (Qv × Int)) (n : Nat) (a0 : (List Qo)) (a1 : Int) (a2 : Int) : Qnm Rc n a0 a1 a2 =
  bif decide ((a0.length : Int) ≤ a1) then
   some ((Tree.node (0, ([] : List Int), (0, 0, ([] : List Int), ([] : List Int)), 0) ([])), (-1))
  else
   bif decide ((12 : Int) < a2) then
    some ((Tree.node (0, ([] : List Int), (0, 0, ([] : List Int), ([] : List Int)), 0) ([])), (-1))
   else
    bif inB a1 a0.length then
     bif decide ((((rd a0 a1 (Ty.dflt Ql)).2).2).2 < 0) then
      some ((Tree.node (0, ([] : List Int), (0, 0, ([] : List Int), ([] : List Int)), 0) ([])), (-1))
     else
      bif inB a1 a0.length then
       bif decide ((10 : Int) < (((rd a0 a1 (Ty.dflt Ql)).2).2).2) then
        some ((Tree.node (0, ([] : List Int), (0, 0, ([] : List Int), ([] : List Int)), 0) ([])), (-1))
       else
        bif inB a1 a0.length then
         XB Rc n a0 (IntKind.wrap .i64 (a1 + 1)) a2 0 (Tree.node (0, ([] : List Int), (0, 0, ([] : List Int), ([] : List Int)), 0) ([])) [] (Tree.node (rd a0 a1 (Ty.dflt Ql)) ([]))
        else none
      else none
    else none := by kernel_rfl
theorem Ql8 (Rc : (List Qo) → Int → Int → Option (Qv × Int)) (n : Nat) (x1 : (List Qo)) (x2 : Int) (x3 : Int) (x4 : Int) (x5 : Qv) (x6 : (List Qv)) (x7 : Qv) : XB Rc (n + 1) x1 x2 x3 x4 x5 x6 x7 =
  bif decide (x4 < x7.val.2.2.2) then
   Option.bind (Rc x1 x2 (IntKind.wrap .i64 (x3 + 1))) fun (y1 : (Qv × Int)) =>
   bif decide (y1.2 < 0) then
    some ((Tree.node (0, ([] : List Int), (0, 0, ([] : List Int), ([] : List Int)), 0) ([])), (-1))
   else
    bif decide (((x6.length : Int) + (([(Tree.node y1.1.val y1.1.kids)] : List Qv).length : Int)) * 104 ≤ QI) && decide ((x6.length : Int) + (([(Tree.node y1.1.val y1.1.kids)] : List Qv).length : Int) ≤ QI) then
     XB Rc n x1 y1.2 x3 (IntKind.wrap .i64 (x4 + 1)) (Tree.node x5.val x5.kids) (x6 ++ ([(Tree.node y1.1.val y1.1.kids)] : List Qv)) (Tree.node x7.val (x6 ++ ([(Tree.node y1.1.val y1.1.kids)] : List Qv)))
    else none
  else
   some ((Tree.node x7.val x6), x2) := by kernel_rfl
theorem Qq2 {Rc : (List Qo) → Int → Int → Option (Qv × Int)} {x1 : (List Qo)} {x3 : Int} : ∀ (m : Nat) (x2 : Int) (x4 : Int) (x5 : Qv) (x6 : (List Qv)) (x7 : Qv) (r : (Qv × Int)), JB Rc x1 x3 m x2 x4 x6 x7 = some r → Ev (fun n => XB Rc n x1 x2 x3 x4 x5 x6 x7) r := by
 intro m
 induction m with
 | zero => intro x2 x4 x5 x6 x7 r h; rw [JB] at h; exact Ev.ofNone h
 | succ m ih2 =>
  intro x2 x4 x5 x6 x7 r h
  rw [JB] at h
  refine Ev.step ?_ (fun n => Ql8 Rc n x1 x2 x3 x4 x5 x6 x7)
  exact (Ev.ofBif h (fun h => (Ev.ofBind h fun y1 h => (Ev.ofBif h (fun h => (Ev.ofSome h)) (fun h => (Ev.ofBif h (fun h => (ih2 _ _ _ _ _ _ h)) (fun h => (Ev.ofNone h))))))) (fun h => (Ev.ofSome h)))
theorem Qzy {Rc : (List Qo) → Int → Int → Option (Qv × Int)} {m : Nat} (a0 : (List Qo)) (a1 : Int) (a2 : Int) {r : (Qv × Int)} (h : HL Rc m a0 a1 a2 = some r) : Ev (fun n => Qnm Rc n a0 a1 a2) r := by
 rw [HL] at h
 refine Ev.of_eq ?_ (fun n => QsZ Rc n a0 a1 a2)
 exact (Ev.ofBif h (fun h => (Ev.ofSome h)) (fun h => (Ev.ofBif h (fun h => (Ev.ofSome h)) (fun h => (Ev.ofBif h (fun h => (Ev.ofBif h (fun h => (Ev.ofSome h)) (fun h => (Ev.ofBif h (fun h => (Ev.ofBif h (fun h => (Ev.ofSome h)) (fun h => (Ev.ofBif h (fun h => (Qq2 _ _ _ _ _ _ _ h)) (fun h => (Ev.ofNone h)))))) (fun h => (Ev.ofNone h)))))) (fun h => (Ev.ofNone h)))))))
theorem Qvn : ∀ d, Qg Tryz.prog (⟨157, [(.list Ql), I64, I64], [YA, I64], fun x => V4 d x.1 x.2.1 x.2.2.1⟩ : Ctr) := by
 intro d
 induction d with
 | zero => intro xs y hy; exact (nomatch (show (none : Option (Qv × Int)) = some y from hy))
 | succ d ih =>
  refine Qh (by kernel_rfl) (by kernel_rfl : Tryz.prog.funcs[157]? = some Tryz.f157) (code := Tryz.f157.body.getD .skip) (by kernel_rfl) (by kernel_rfl) (by kernel_rfl) (A := Qfm) (I := Qde) (cs := Qdf (V4 d)) (Qb ih Qi) ?_
  rintro ⟨a0, a1, a2, u⟩ y hy
  exact let ⟨_, h⟩ := (Gj hy).get; (Qzy a0 a1 a2 h).get
theorem Qxd : Qg Tryz.prog (Qnl) := by
 rintro ⟨a0, a1, a2, u⟩ y hy
 obtain ⟨d, hd⟩ := (Gj hy).get
 exact Qvn d (a0, a1, a2, u) y hd
noncomputable def Zz (x1 : Int) (x3 : Bool) : Option Int :=
 bif x3 then
  some 1
 else
  bif decide (x1 = 10) then
   some 3
  else
   bif decide ((8 : Int) ≤ x1) then
    bif decide (x1 ≤ 19) then
     some 2
    else
     some (-1)
   else
    some (-1)
noncomputable def VD (x1 : Int) (x3 : Bool) : Option Int :=
 bif x3 then
  some 0
 else
  bif decide (x1 = 2) then
   some (-2)
  else
   bif decide (x1 = 4) then
    Zz x1 (decide (x1 = 4))
   else
    bif decide (x1 = 5) then
     Zz x1 (decide (x1 = 5))
    else
     bif decide (x1 = 6) then
      Zz x1 (decide (x1 = 6))
     else
      bif decide (x1 = 7) then
       Zz x1 (decide (x1 = 7))
      else
       bif decide (x1 = 20) then
        Zz x1 (decide (x1 = 20))
       else
        Zz x1 (decide (x1 = 21))
noncomputable def Vs (a0 : Int) : Option Int :=
 bif decide (a0 = 1) then
  VD a0 (decide (a0 = 1))
 else
  VD a0 (decide (a0 = 3))
noncomputable def Qdg : Ctr := ⟨160, [I64], [I64], fun x => Vs x.1⟩
def Wm : List (List Nat × Ann) := [([1, 4], [.keep 0 0, .keep 0 3, .keep 0 4]), ([1, 13], [.keep 0 0, .keep 0 3, .keep 0 9])]
def Uj : List (List Nat × Nat) := []
noncomputable def Uk : List Ctr := []
noncomputable def Qk2 (n : Nat) (a0 : Int) : Option Int := run Tryz.prog Wm Uj (Qn Uk) Tryz.f160 (Tryz.f160.body.getD .skip) (Qp [I64]) n (Qu [I64] (a0, ()))
noncomputable abbrev GV (n : Nat) (x1 : Int) (x2 : Int) (x3 : Bool) : Option Int := lam Tryz.prog Wm Uj (Qn Uk) Tryz.f160 (Tryz.f160.body.getD .skip) (Qp [I64]) n [1, 4] [.d I64 x1, .d I64 x2, .d .bool x3]
noncomputable abbrev Z0 (n : Nat) (x1 : Int) (x2 : Int) (x3 : Bool) : Option Int := lam Tryz.prog Wm Uj (Qn Uk) Tryz.f160 (Tryz.f160.body.getD .skip) (Qp [I64]) n [1, 13] [.d I64 x1, .d I64 x2, .d .bool x3]
theorem Qq3 (n : Nat) (a0 : Int) : Qk2 n a0 =
  bif decide (a0 = 1) then
   GV n a0 a0 (decide (a0 = 1))
  else
   GV n a0 a0 (decide (a0 = 3)) := by kernel_rfl
theorem Qkf (n : Nat) (x1 : Int) (x2 : Int) (x3 : Bool) : GV (n + 1) x1 x2 x3 =
  bif x3 then
   some 0
  else
   bif decide (x2 = 2) then
    some (-2)
   else
    bif decide (x2 = 4) then
     Z0 n x1 x2 (decide (x2 = 4))
    else
     bif decide (x2 = 5) then
      Z0 n x1 x2 (decide (x2 = 5))
     else
      bif decide (x2 = 6) then
       Z0 n x1 x2 (decide (x2 = 6))
      else
       bif decide (x2 = 7) then
        Z0 n x1 x2 (decide (x2 = 7))
       else
        bif decide (x2 = 20) then
         Z0 n x1 x2 (decide (x2 = 20))
        else
         Z0 n x1 x2 (decide (x2 = 21)) := by kernel_rfl
theorem Qim (n : Nat) (x1 : Int) (x2 : Int) (x3 : Bool) : Z0 (n + 1) x1 x2 x3 =
  bif x3 then
   some 1
  else
   bif decide (x2 = 10) then
    some 3
   else
    bif decide ((8 : Int) ≤ x1) then
     bif decide (x1 ≤ 19) then
      some 2
     else
      some (-1)
    else
     some (-1) := by kernel_rfl
theorem Yp {x1 : Int} {x3 : Bool} {r : Int} (h : Zz x1 x3 = some r) : Ev (fun n => Z0 n x1 x1 x3) r := by
 rw [Zz] at h
 refine Ev.step ?_ (fun n => Qim n x1 x1 x3)
 exact (Ev.ofBif h (fun h => (Ev.ofSome h)) (fun h => (Ev.ofBif h (fun h => (Ev.ofSome h)) (fun h => (Ev.ofBif h (fun h => (Ev.ofBif h (fun h => (Ev.ofSome h)) (fun h => (Ev.ofSome h)))) (fun h => (Ev.ofSome h)))))))
theorem Qec {x1 : Int} {x3 : Bool} {r : Int} (h : VD x1 x3 = some r) : Ev (fun n => GV n x1 x1 x3) r := by
 rw [VD] at h
 refine Ev.step ?_ (fun n => Qkf n x1 x1 x3)
 exact (Ev.ofBif h (fun h => (Ev.ofSome h)) (fun h => (Ev.ofBif h (fun h => (Ev.ofSome h)) (fun h => (Ev.ofBif h (fun h => (Yp h)) (fun h => (Ev.ofBif h (fun h => (Yp h)) (fun h => (Ev.ofBif h (fun h => (Yp h)) (fun h => (Ev.ofBif h (fun h => (Yp h)) (fun h => (Ev.ofBif h (fun h => (Yp h)) (fun h => (Yp h)))))))))))))))
theorem Qxe (a0 : Int) {r : Int} (h : Vs a0 = some r) : Ev (fun n => Qk2 n a0) r := by
 rw [Vs] at h
 refine Ev.of_eq ?_ (fun n => Qq3 n a0)
 exact (Ev.ofBif h (fun h => (Qec h)) (fun h => (Qec h)))
theorem Qs0 : ∀ x ∈ Uk, Qg Tryz.prog x := Qi
theorem Qvo : Qg Tryz.prog (Qdg) := by
 refine Qh (c := Qdg) (by kernel_rfl) (by kernel_rfl : Tryz.prog.funcs[160]? = some Tryz.f160) (code := Tryz.f160.body.getD .skip) (by kernel_rfl) (by kernel_rfl) (by kernel_rfl) (A := Wm) (I := Uj) (Qs0) ?_
 rintro ⟨a0, u⟩ y hy
 exact (Qxe a0 hy).get
noncomputable def HM  : (List (List Int)) :=
 ([([112, 114, 105, 110, 99, 105, 112, 97, 108] : List Int), ([97, 99, 116, 105, 111, 110] : List Int), ([114, 101, 115, 111, 117, 114, 99, 101] : List Int), ([99, 111, 110, 116, 101, 120, 116] : List Int)] : List (List Int))
noncomputable def Qfn : Ctr := ⟨162, [], [(.list .str)], fun x => some (HM)⟩
def Qnn : List (List Nat × Ann) := []
def Qk3 : List (List Nat × Nat) := []
noncomputable def Qk4 : List Ctr := []
noncomputable def Qno (n : Nat)  : Option (List (List Int)) := run Tryz.prog Qnn Qk3 (Qn Qk4) Tryz.f162 (Tryz.f162.body.getD .skip) (Qp [(.list .str)]) n (Qu [] (()))
theorem Qs1 (n : Nat)  : Qno n  =
  some ([([112, 114, 105, 110, 99, 105, 112, 97, 108] : List Int), ([97, 99, 116, 105, 111, 110] : List Int), ([114, 101, 115, 111, 117, 114, 99, 101] : List Int), ([99, 111, 110, 116, 101, 120, 116] : List Int)] : List (List Int)) := by kernel_rfl
theorem Qzz (n : Nat)  : Qno n  = some (HM ) := (Qs1 n ).trans rfl
theorem Qvp : ∀ x ∈ Qk4, Qg Tryz.prog x := Qi
theorem Qxf : Qg Tryz.prog (Qfn) := by
 refine Qh (c := Qfn) (by kernel_rfl) (by kernel_rfl : Tryz.prog.funcs[162]? = some Tryz.f162) (code := Tryz.f162.body.getD .skip) (by kernel_rfl) (by kernel_rfl) (by kernel_rfl) (A := Qnn) (I := Qk3) (Qvp) ?_
 rintro ⟨u⟩ y hy
 exact ⟨0, (Qzz 0 ).trans hy⟩
noncomputable def JM (x1 : (List Int)) : List (List Int) → Option Bool
 | [] =>
   some false
 | e :: rest =>
   bif decide (e = x1) then
    some true
   else
    JM x1 rest
noncomputable def GD (a0 : (List (List Int))) (a1 : (List Int)) : Option Bool :=
 Jg a0 (JM a1 a0)
noncomputable def Qkg : Ctr := ⟨161, [(.list .str), .str], [.bool], fun x => GD x.1 x.2.1⟩
def Qkh : List (List Nat × Ann) := [([0, 2], [.keep 0 1, .keep 0 7, .keep 0 8, .keep 0 9])]
def Qho : List (List Nat × Nat) := []
noncomputable def Qhp : List Ctr := []
noncomputable def Qs2 (n : Nat) (a0 : (List (List Int))) (a1 : (List Int)) : Option Bool := run Tryz.prog Qkh Qho (Qn Qhp) Tryz.f161 (Tryz.f161.body.getD .skip) (Qp [.bool]) n (Qu [(.list .str), .str] (a0, a1, ()))
noncomputable abbrev Xb (n : Nat) (x1 : (List Int)) (x2 : (List (List Int))) (x3 : Int) (x4 : Int) : Option Bool := lam Tryz.prog Qkh Qho (Qn Qhp) Tryz.f161 (Tryz.f161.body.getD .skip) (Qp [.bool]) n [0, 2] [.d .str x1, .d (.list .str) x2, .d I64 x3, .d I64 x4]
theorem Qxg (n : Nat) (a0 : (List (List Int))) (a1 : (List Int)) : Qs2 n a0 a1 =
  Xb n a1 a0 (a0.length : Int) 0 := by kernel_rfl
theorem Qed (n : Nat) (x1 : (List Int)) (x2 : (List (List Int))) (x3 : Int) (x4 : Int) : Xb (n + 1) x1 x2 x3 x4 =
  bif decide (x4 < x3) then
   bif inB x4 x2.length then
    bif decide (rd x2 x4 (Ty.dflt .str) = x1) then
     some true
    else
     Xb n x1 x2 x3 (IntKind.wrap .i64 (x4 + 1))
   else none
  else
   some false := by kernel_rfl
theorem Qvq {x1 : (List Int)} {x2 : (List (List Int))} (hl : x2.length ≤ maxLen) : ∀ (rest : List (List Int)) (k : Nat) (r : Bool), rest = x2.drop k → JM x1 rest = some r → Ev (fun n => Xb n x1 x2 (x2.length : Int) (k : Int)) r := by
 intro rest
 induction rest with
 | nil =>
  intro k r hr h
  have hk := QO hr
  rw [JM] at h
  refine Ev.step ?_ (fun n => Qed n x1 x2 (x2.length : Int) (k : Int))
  rw [show decide ((k : Int) < (x2.length : Int)) = false from decide_eq_false (by omega)]
  exact Ev.neg rfl (Ev.ofSome h)
 | cons e rest ih =>
  intro k r hr h
  obtain ⟨hk, hx, hr2⟩ := QE (d := (Ty.dflt .str)) hr
  have hw := QA hl hk
  have ih2 : ∀ (r : Bool), JM x1 rest = some r → Ev (fun n => Xb n x1 x2 (x2.length : Int) (IntKind.wrap .i64 ((k : Int) + 1))) r := by
   intro r h; rw [hw]; exact ih (k + 1) r hr2 h
  rw [JM] at h
  refine Ev.step ?_ (fun n => Qed n x1 x2 (x2.length : Int) (k : Int))
  rw [show decide ((k : Int) < (x2.length : Int)) = true from decide_eq_true (by omega), QB hk, hx]
  exact Ev.pos rfl (Ev.pos rfl (Ev.ofBif h (fun h => (Ev.ofSome h)) (fun h => (ih2  _ h))))
theorem QBY (a0 : (List (List Int))) (a1 : (List Int)) {r : Bool} (h : GD a0 a1 = some r) : Ev (fun n => Qs2 n a0 a1) r := by
 rw [GD] at h
 refine Ev.of_eq ?_ (fun n => Qxg n a0 a1)
 exact (Ev.ofLen h fun hl h => Qvq hl _ (0 : Nat) _ rfl h)
theorem QzA : ∀ x ∈ Qhp, Qg Tryz.prog x := Qi
theorem QAy : Qg Tryz.prog (Qkg) := by
 refine Qh (c := Qkg) (by kernel_rfl) (by kernel_rfl : Tryz.prog.funcs[161]? = some Tryz.f161) (code := Tryz.f161.body.getD .skip) (by kernel_rfl) (by kernel_rfl) (by kernel_rfl) (A := Qkh) (I := Qho) (QzA) ?_
 rintro ⟨a0, a1, u⟩ y hy
 exact (QBY a0 a1 hy).get
noncomputable def QZ (x1 : (List Int)) : Nat → (List Int) → Int → Option ((List Int) × Bool)
 | 0, _, _ => none
 | m + 1, x2, x3 =>
   bif decide (x3 < (x1.length : Int)) then
    bif inB x3 x1.length then
     bif decide (rd x1 x3 0 = 42) then
      bif decide (((x2.length : Int) + (([256] : List Int).length : Int)) * 8 ≤ QI) && decide ((x2.length : Int) + (([256] : List Int).length : Int) ≤ QI) then
       QZ x1 m (x2 ++ ([256] : List Int)) (IntKind.wrap .i64 (x3 + 1))
      else none
     else
      bif decide (rd x1 x3 0 = 92) then
       bif decide (IntKind.wrap .i64 (x3 + 1) = (x1.length : Int)) then
        some ([], false)
       else
        bif inB (IntKind.wrap .i64 (x3 + 1)) x1.length then
         bif !decide (rd x1 (IntKind.wrap .i64 (x3 + 1)) 0 = 42) then
          bif inB (IntKind.wrap .i64 (x3 + 1)) x1.length then
           bif !decide (rd x1 (IntKind.wrap .i64 (x3 + 1)) 0 = 92) then
            some ([], false)
           else
            bif inB (IntKind.wrap .i64 (x3 + 1)) x1.length then
             bif decide (((x2.length : Int) + (([IntKind.wrap .i64 (rd x1 (IntKind.wrap .i64 (x3 + 1)) 0)] : List Int).length : Int)) * 8 ≤ QI) && decide ((x2.length : Int) + (([IntKind.wrap .i64 (rd x1 (IntKind.wrap .i64 (x3 + 1)) 0)] : List Int).length : Int) ≤ QI) then
              QZ x1 m (x2 ++ ([IntKind.wrap .i64 (rd x1 (IntKind.wrap .i64 (x3 + 1)) 0)] : List Int)) (IntKind.wrap .i64 ((IntKind.wrap .i64 (x3 + 1)) + 1))
             else none
            else none
          else none
         else
          bif inB (IntKind.wrap .i64 (x3 + 1)) x1.length then
           bif decide (((x2.length : Int) + (([IntKind.wrap .i64 (rd x1 (IntKind.wrap .i64 (x3 + 1)) 0)] : List Int).length : Int)) * 8 ≤ QI) && decide ((x2.length : Int) + (([IntKind.wrap .i64 (rd x1 (IntKind.wrap .i64 (x3 + 1)) 0)] : List Int).length : Int) ≤ QI) then
            QZ x1 m (x2 ++ ([IntKind.wrap .i64 (rd x1 (IntKind.wrap .i64 (x3 + 1)) 0)] : List Int)) (IntKind.wrap .i64 ((IntKind.wrap .i64 (x3 + 1)) + 1))
           else none
          else none
        else none
      else
       bif inB x3 x1.length then
        bif decide (((x2.length : Int) + (([IntKind.wrap .i64 (rd x1 x3 0)] : List Int).length : Int)) * 8 ≤ QI) && decide ((x2.length : Int) + (([IntKind.wrap .i64 (rd x1 x3 0)] : List Int).length : Int) ≤ QI) then
         QZ x1 m (x2 ++ ([IntKind.wrap .i64 (rd x1 x3 0)] : List Int)) (IntKind.wrap .i64 (x3 + 1))
        else none
       else none
    else none
   else
    some (x2, true)
noncomputable def Qdh (m : Nat) (a0 : (List Int)) : Option ((List Int) × Bool) :=
 QZ a0 m [] 0
noncomputable def Wn (a0 : (List Int)) : Option ((List Int) × Bool) := QaY fun m => Qdh m a0
noncomputable def Qdi : Ctr := ⟨163, [.str], [(.list I64), .bool], fun x => Wn x.1⟩
def Qdj : List (List Nat × Ann) := [([0, 3], [.keep 0 0, .own 0 4 I64, .keep 0 5])]
def Qby : List (List Nat × Nat) := []
noncomputable def Qbz : List Ctr := []
noncomputable def Qk5 (n : Nat) (a0 : (List Int)) : Option ((List Int) × Bool) := run Tryz.prog Qdj Qby (Qn Qbz) Tryz.f163 (Tryz.f163.body.getD .skip) (Qp [(.list I64), .bool]) n (Qu [.str] (a0, ()))
noncomputable abbrev JT (n : Nat) (x1 : (List Int)) (x2 : (List Int)) (x3 : Int) : Option ((List Int) × Bool) := lam Tryz.prog Qdj Qby (Qn Qbz) Tryz.f163 (Tryz.f163.body.getD .skip) (Qp [(.list I64), .bool]) n [0, 3] [.d .str x1, .own 0 I64 x2, .d I64 x3]
theorem Qq4 (n : Nat) (a0 : (List Int)) : Qk5 n a0 =
  JT n a0 [] 0 := by kernel_rfl
theorem Qki (n : Nat) (x1 : (List Int)) (x2 : (List Int)) (x3 : Int) : JT (n + 1) x1 x2 x3 =
  bif decide (x3 < (x1.length : Int)) then
   bif inB x3 x1.length then
    bif decide (rd x1 x3 0 = 42) then
     bif decide (((x2.length : Int) + (([256] : List Int).length : Int)) * 8 ≤ QI) && decide ((x2.length : Int) + (([256] : List Int).length : Int) ≤ QI) then
      JT n x1 (x2 ++ ([256] : List Int)) (IntKind.wrap .i64 (x3 + 1))
     else none
    else
     bif decide (rd x1 x3 0 = 92) then
      bif decide (IntKind.wrap .i64 (x3 + 1) = (x1.length : Int)) then
       some ([], false)
      else
       bif inB (IntKind.wrap .i64 (x3 + 1)) x1.length then
        bif !decide (rd x1 (IntKind.wrap .i64 (x3 + 1)) 0 = 42) then
         bif inB (IntKind.wrap .i64 (x3 + 1)) x1.length then
          bif !decide (rd x1 (IntKind.wrap .i64 (x3 + 1)) 0 = 92) then
           some ([], false)
          else
           bif inB (IntKind.wrap .i64 (x3 + 1)) x1.length then
            bif decide (((x2.length : Int) + (([IntKind.wrap .i64 (rd x1 (IntKind.wrap .i64 (x3 + 1)) 0)] : List Int).length : Int)) * 8 ≤ QI) && decide ((x2.length : Int) + (([IntKind.wrap .i64 (rd x1 (IntKind.wrap .i64 (x3 + 1)) 0)] : List Int).length : Int) ≤ QI) then
             JT n x1 (x2 ++ ([IntKind.wrap .i64 (rd x1 (IntKind.wrap .i64 (x3 + 1)) 0)] : List Int)) (IntKind.wrap .i64 ((IntKind.wrap .i64 (x3 + 1)) + 1))
            else none
           else none
         else none
        else
         bif inB (IntKind.wrap .i64 (x3 + 1)) x1.length then
          bif decide (((x2.length : Int) + (([IntKind.wrap .i64 (rd x1 (IntKind.wrap .i64 (x3 + 1)) 0)] : List Int).length : Int)) * 8 ≤ QI) && decide ((x2.length : Int) + (([IntKind.wrap .i64 (rd x1 (IntKind.wrap .i64 (x3 + 1)) 0)] : List Int).length : Int) ≤ QI) then
           JT n x1 (x2 ++ ([IntKind.wrap .i64 (rd x1 (IntKind.wrap .i64 (x3 + 1)) 0)] : List Int)) (IntKind.wrap .i64 ((IntKind.wrap .i64 (x3 + 1)) + 1))
          else none
         else none
       else none
     else
      bif inB x3 x1.length then
       bif decide (((x2.length : Int) + (([IntKind.wrap .i64 (rd x1 x3 0)] : List Int).length : Int)) * 8 ≤ QI) && decide ((x2.length : Int) + (([IntKind.wrap .i64 (rd x1 x3 0)] : List Int).length : Int) ≤ QI) then
        JT n x1 (x2 ++ ([IntKind.wrap .i64 (rd x1 x3 0)] : List Int)) (IntKind.wrap .i64 (x3 + 1))
       else none
      else none
   else none
  else
   some (x2, true) := by kernel_rfl
theorem Qo1 {x1 : (List Int)} : ∀ (m : Nat) (x2 : (List Int)) (x3 : Int) (r : ((List Int) × Bool)), QZ x1 m x2 x3 = some r → Ev (fun n => JT n x1 x2 x3) r := by
 intro m
 induction m with
 | zero => intro x2 x3 r h; rw [QZ] at h; exact Ev.ofNone h
 | succ m ih2 =>
  intro x2 x3 r h
  rw [QZ] at h
  refine Ev.step ?_ (fun n => Qki n x1 x2 x3)
  exact (Ev.ofBif h (fun h => (Ev.ofBif h (fun h => (Ev.ofBif h (fun h => (Ev.ofBif h (fun h => (ih2 _ _ _ h)) (fun h => (Ev.ofNone h)))) (fun h => (Ev.ofBif h (fun h => (Ev.ofBif h (fun h => (Ev.ofSome h)) (fun h => (Ev.ofBif h (fun h => (Ev.ofBif h (fun h => (Ev.ofBif h (fun h => (Ev.ofBif h (fun h => (Ev.ofSome h)) (fun h => (Ev.ofBif h (fun h => (Ev.ofBif h (fun h => (ih2 _ _ _ h)) (fun h => (Ev.ofNone h)))) (fun h => (Ev.ofNone h)))))) (fun h => (Ev.ofNone h)))) (fun h => (Ev.ofBif h (fun h => (Ev.ofBif h (fun h => (ih2 _ _ _ h)) (fun h => (Ev.ofNone h)))) (fun h => (Ev.ofNone h)))))) (fun h => (Ev.ofNone h)))))) (fun h => (Ev.ofBif h (fun h => (Ev.ofBif h (fun h => (ih2 _ _ _ h)) (fun h => (Ev.ofNone h)))) (fun h => (Ev.ofNone h)))))))) (fun h => (Ev.ofNone h)))) (fun h => (Ev.ofSome h)))
theorem Qxh {m : Nat} (a0 : (List Int)) {r : ((List Int) × Bool)} (h : Qdh m a0 = some r) : Ev (fun n => Qk5 n a0) r := by
 rw [Qdh] at h
 refine Ev.of_eq ?_ (fun n => Qq4 n a0)
 exact (Qo1 _ _ _ _ h)
theorem Qs3 : ∀ x ∈ Qbz, Qg Tryz.prog x := Qi
theorem Qvr : Qg Tryz.prog (Qdi) := by
 refine Qh (c := Qdi) (by kernel_rfl) (by kernel_rfl : Tryz.prog.funcs[163]? = some Tryz.f163) (code := Tryz.f163.body.getD .skip) (by kernel_rfl) (by kernel_rfl) (by kernel_rfl) (A := Qdj) (I := Qby) (Qs3) ?_
 rintro ⟨a0, u⟩ y hy
 exact let ⟨_, h⟩ := (Gj hy).get; (Qxh a0 h).get
noncomputable def Qy (Rc : Qv → Option Bool) (x5 : Qo) : List Qv → Bool → Option Bool
 | [], x1 =>
   some x1
 | e :: rest, x1 =>
   bif x1 then
    Option.bind (Rc (Tree.node ((e).val) ((e).kids))) fun (y3 : Bool) =>
    bif y3 then
     bif !decide (x5.1 = 2) then
      Qy Rc x5 rest true
     else
      Qy Rc x5 rest (decide (((e).val).1 = 1))
    else
     Qy Rc x5 rest false
   else
    Qy Rc x5 rest false
noncomputable def Yq (Rc : Qv → Option Bool) (x1 : Bool) (x2 : Int) (x3 : Bool) (x4 : Qv) (x5 : Qo) : Option Bool :=
 bif x3 then
  Option.bind (Q9 x5.2.1) fun (y5 : Bool) =>
  Jg x4.kids (Qy Rc x5 x4.kids y5)
 else
  bif decide (x2 = 20) then
   Option.bind (Wn x5.2.1) fun (y6 : ((List Int) × Bool)) =>
   bif y6.2 then
    bif decide ((x5.2.1.length : Int) ≤ 200) then
     Option.bind (ZQ x5.2.1) fun (y7 : Bool) =>
     Jg x4.kids (Qy Rc x5 x4.kids y7)
    else
     Jg x4.kids (Qy Rc x5 x4.kids false)
   else
    Jg x4.kids (Qy Rc x5 x4.kids false)
  else
   Jg x4.kids (Qy Rc x5 x4.kids x1)
noncomputable def JU (Rc : Qv → Option Bool) (x1 : Qv) (x2 : Qo) : Option Bool :=
 bif decide (x2.1 = 1) then
  bif decide (x2.2.1 = ([] : List Int)) then
   Option.bind (Za x2.2.2.1) fun (y2 : Bool) =>
   Jg x1.kids (Qy Rc x2 x1.kids y2)
  else
   Jg x1.kids (Qy Rc x2 x1.kids false)
 else
  bif decide (x2.1 = 3) then
   Option.bind (GD HM x2.2.1) fun (y4 : Bool) =>
   Jg x1.kids (Qy Rc x2 x1.kids y4)
  else
   bif decide (x2.1 = 4) then
    Yq Rc (decide (x2.2.1 = ([] : List Int))) x2.1 (decide (x2.1 = 4)) (Tree.node x1.val x1.kids) x2
   else
    bif decide (x2.1 = 5) then
     Yq Rc (decide (x2.2.1 = ([] : List Int))) x2.1 (decide (x2.1 = 5)) (Tree.node x1.val x1.kids) x2
    else
     Yq Rc (decide (x2.2.1 = ([] : List Int))) x2.1 (decide (x2.1 = 21)) (Tree.node x1.val x1.kids) x2
noncomputable def Gl (Rc : Qv → Option Bool) (a0 : Qv) : Option Bool :=
 Option.bind (Vs a0.val.1) fun (y1 : Int) =>
 bif decide (y1 = (-1)) then
  some false
 else
  bif decide ((0 : Int) ≤ y1) then
   bif !decide ((a0.kids.length : Int) = y1) then
    some false
   else
    bif !decide (a0.val.1 = 1) then
     bif !@decide (a0.val.2.2.1 = (0, 0, ([] : List Int), ([] : List Int))) (Ty.decEq Qa a0.val.2.2.1 (0, 0, ([] : List Int), ([] : List Int))) then
      some false
     else
      JU Rc (Tree.node a0.val a0.kids) a0.val
    else
     JU Rc (Tree.node a0.val a0.kids) a0.val
  else
   bif !decide (a0.val.1 = 1) then
    bif !@decide (a0.val.2.2.1 = (0, 0, ([] : List Int), ([] : List Int))) (Ty.decEq Qa a0.val.2.2.1 (0, 0, ([] : List Int), ([] : List Int))) then
     some false
    else
     JU Rc (Tree.node a0.val a0.kids) a0.val
   else
    JU Rc (Tree.node a0.val a0.kids) a0.val
noncomputable def Gm : Nat → Qv → Option Bool
 | 0 => fun _ => none
 | d + 1 => fun a0 => Gl (Gm d) a0
noncomputable def Wo (a0 : Qv) : Option Bool := QaY fun d => Gm d a0
noncomputable def Qk6 : Ctr := ⟨158, [YA], [.bool], fun x => Wo x.1⟩
def XQ : List (List Nat × Ann) := [([1, 5], [.keep 0 1, .keep 0 3, .boxd 0 1 YA, .boxd 0 3 Ql]), ([0, 19], [.keep 0 3, .keep 0 5, .keep 0 86, .keep 0 87, .keep 0 88, .boxd 0 3 Ql]), ([1, 14], [.keep 0 1, .keep 0 3, .keep 0 5, .keep 0 43, .keep 0 58, .boxd 0 1 YA, .boxd 0 3 Ql])]
def Xc : List (List Nat × Nat) := []
noncomputable def Xd (Rc : Qv → Option Bool) : List Ctr := [Qdg, Gk, ⟨158, [YA], [.bool], fun x => Rc x.1⟩, Qfn, Qkg, Vr, Qdi, Ue]
noncomputable def Qk7 (Rc : Qv → Option Bool) (n : Nat) (a0 : Qv) : Option Bool := run Tryz.prog XQ Xc (Qn (Xd Rc)) Tryz.f158 (Tryz.f158.body.getD .skip) (Qp [.bool]) n (Qu [YA] (a0, ()))
noncomputable abbrev YK (Rc : Qv → Option Bool) (n : Nat) (x1 : Qv) (x2 : Qo) : Option Bool := lam Tryz.prog XQ Xc (Qn (Xd Rc)) Tryz.f158 (Tryz.f158.body.getD .skip) (Qp [.bool]) n [1, 5] [.ptr 0 1 0, .ptr 0 3 0, .agg (Qq YA x1), .agg (Qq Ql x2)]
noncomputable abbrev QF (Rc : Qv → Option Bool) (n : Nat) (x1 : Bool) (x2 : (List Qv)) (x3 : Int) (x4 : Int) (x5 : Qo) : Option Bool := lam Tryz.prog XQ Xc (Qn (Xd Rc)) Tryz.f158 (Tryz.f158.body.getD .skip) (Qp [.bool]) n [0, 19] [.ptr 0 3 0, .d .bool x1, .d (.list YA) x2, .d I64 x3, .d I64 x4, .agg (Qq Ql x5)]
noncomputable abbrev Vg (Rc : Qv → Option Bool) (n : Nat) (x1 : Bool) (x2 : Int) (x3 : Bool) (x4 : Qv) (x5 : Qo) : Option Bool := lam Tryz.prog XQ Xc (Qn (Xd Rc)) Tryz.f158 (Tryz.f158.body.getD .skip) (Qp [.bool]) n [1, 14] [.ptr 0 1 0, .ptr 0 3 0, .d .bool x1, .d I64 x2, .d .bool x3, .agg (Qq YA x4), .agg (Qq Ql x5)]
theorem Qq5 (Rc : Qv → Option Bool) (n : Nat) (a0 : Qv) : Qk7 Rc n a0 =
  Option.bind (Vs a0.val.1) fun (y1 : Int) =>
  bif decide (y1 = (-1)) then
   some false
  else
   bif decide ((0 : Int) ≤ y1) then
    bif !decide ((a0.kids.length : Int) = y1) then
     some false
    else
     bif !decide (a0.val.1 = 1) then
      bif !@decide (a0.val.2.2.1 = (0, 0, ([] : List Int), ([] : List Int))) (Ty.decEq Qa a0.val.2.2.1 (0, 0, ([] : List Int), ([] : List Int))) then
       some false
      else
       YK Rc n (Tree.node a0.val a0.kids) a0.val
     else
      YK Rc n (Tree.node a0.val a0.kids) a0.val
   else
    bif !decide (a0.val.1 = 1) then
     bif !@decide (a0.val.2.2.1 = (0, 0, ([] : List Int), ([] : List Int))) (Ty.decEq Qa a0.val.2.2.1 (0, 0, ([] : List Int), ([] : List Int))) then
      some false
     else
      YK Rc n (Tree.node a0.val a0.kids) a0.val
    else
     YK Rc n (Tree.node a0.val a0.kids) a0.val := by kernel_rfl
theorem Qkj (Rc : Qv → Option Bool) (n : Nat) (x1 : Qv) (x2 : Qo) : YK Rc (n + 1) x1 x2 =
  bif decide (x2.1 = 1) then
   bif decide (x2.2.1 = ([] : List Int)) then
    Option.bind (Za x2.2.2.1) fun (y2 : Bool) =>
    QF Rc n y2 x1.kids (x1.kids.length : Int) 0 x2
   else
    QF Rc n false x1.kids (x1.kids.length : Int) 0 x2
  else
   bif decide (x2.1 = 3) then
    Option.bind (GD HM x2.2.1) fun (y4 : Bool) =>
    QF Rc n y4 x1.kids (x1.kids.length : Int) 0 x2
   else
    bif decide (x2.1 = 4) then
     Vg Rc n (decide (x2.2.1 = ([] : List Int))) x2.1 (decide (x2.1 = 4)) (Tree.node x1.val x1.kids) x2
    else
     bif decide (x2.1 = 5) then
      Vg Rc n (decide (x2.2.1 = ([] : List Int))) x2.1 (decide (x2.1 = 5)) (Tree.node x1.val x1.kids) x2
     else
      Vg Rc n (decide (x2.2.1 = ([] : List Int))) x2.1 (decide (x2.1 = 21)) (Tree.node x1.val x1.kids) x2 := by kernel_rfl
theorem En (Rc : Qv → Option Bool) (n : Nat) (x1 : Bool) (x2 : (List Qv)) (x3 : Int) (x4 : Int) (x5 : Qo) : QF Rc (n + 1) x1 x2 x3 x4 x5 =
  bif decide (x4 < x3) then
   bif inB x4 x2.length then
    bif x1 then
     Option.bind (Rc (Tree.node ((rd x2 x4 (Ty.dflt YA)).val) ((rd x2 x4 (Ty.dflt YA)).kids))) fun (y3 : Bool) =>
     bif y3 then
      bif !decide (x5.1 = 2) then
       QF Rc n true x2 x3 (IntKind.wrap .i64 (x4 + 1)) x5
      else
       QF Rc n (decide (((rd x2 x4 (Ty.dflt YA)).val).1 = 1)) x2 x3 (IntKind.wrap .i64 (x4 + 1)) x5
     else
      QF Rc n false x2 x3 (IntKind.wrap .i64 (x4 + 1)) x5
    else
     QF Rc n false x2 x3 (IntKind.wrap .i64 (x4 + 1)) x5
   else none
  else
   some x1 := by kernel_rfl
theorem Qin (Rc : Qv → Option Bool) (n : Nat) (x1 : Bool) (x2 : Int) (x3 : Bool) (x4 : Qv) (x5 : Qo) : Vg Rc (n + 1) x1 x2 x3 x4 x5 =
  bif x3 then
   Option.bind (Q9 x5.2.1) fun (y5 : Bool) =>
   QF Rc n y5 x4.kids (x4.kids.length : Int) 0 x5
  else
   bif decide (x2 = 20) then
    Option.bind (Wn x5.2.1) fun (y6 : ((List Int) × Bool)) =>
    bif y6.2 then
     bif decide ((x5.2.1.length : Int) ≤ 200) then
      Option.bind (ZQ x5.2.1) fun (y7 : Bool) =>
      QF Rc n y7 x4.kids (x4.kids.length : Int) 0 x5
     else
      QF Rc n false x4.kids (x4.kids.length : Int) 0 x5
    else
     QF Rc n false x4.kids (x4.kids.length : Int) 0 x5
   else
    QF Rc n x1 x4.kids (x4.kids.length : Int) 0 x5 := by kernel_rfl
theorem Z1 {Rc : Qv → Option Bool} {x2 : (List Qv)} {x5 : Qo} (hl : x2.length ≤ maxLen) : ∀ (rest : List Qv) (k : Nat) (x1 : Bool) (r : Bool), rest = x2.drop k → Qy Rc x5 rest x1 = some r → Ev (fun n => QF Rc n x1 x2 (x2.length : Int) (k : Int) x5) r := by
 intro rest
 induction rest with
 | nil =>
  intro k x1 r hr h
  have hk := QO hr
  rw [Qy] at h
  refine Ev.step ?_ (fun n => En Rc n x1 x2 (x2.length : Int) (k : Int) x5)
  rw [show decide ((k : Int) < (x2.length : Int)) = false from decide_eq_false (by omega)]
  exact Ev.neg rfl (Ev.ofSome h)
 | cons e rest ih =>
  intro k x1 r hr h
  obtain ⟨hk, hx, hr2⟩ := QE (d := (Ty.dflt YA)) hr
  have hw := QA hl hk
  have ih2 : ∀ (z1 : Bool) (r : Bool), Qy Rc x5 rest z1 = some r → Ev (fun n => QF Rc n z1 x2 (x2.length : Int) (IntKind.wrap .i64 ((k : Int) + 1)) x5) r := by
   intro z1 r h; rw [hw]; exact ih (k + 1) z1 r hr2 h
  rw [Qy] at h
  refine Ev.step ?_ (fun n => En Rc n x1 x2 (x2.length : Int) (k : Int) x5)
  rw [show decide ((k : Int) < (x2.length : Int)) = true from decide_eq_true (by omega), QB hk, hx]
  exact Ev.pos rfl (Ev.pos rfl (Ev.ofBif h (fun h => (Ev.ofBind h fun y3 h => (Ev.ofBif h (fun h => (Ev.ofBif h (fun h => (ih2 _ _ h)) (fun h => (ih2 _ _ h)))) (fun h => (ih2 _ _ h))))) (fun h => (ih2 _ _ h))))
theorem HN {Rc : Qv → Option Bool} {x1 : Bool} {x2 : Int} {x3 : Bool} {x4 : Qv} {x5 : Qo} {r : Bool} (h : Yq Rc x1 x2 x3 x4 x5 = some r) : Ev (fun n => Vg Rc n x1 x2 x3 x4 x5) r := by
 rw [Yq] at h
 refine Ev.step ?_ (fun n => Qin Rc n x1 x2 x3 x4 x5)
 exact (Ev.ofBif h (fun h => (Ev.ofBind h fun y5 h => (Ev.ofLen h fun hl h => Z1 hl _ (0 : Nat) _ _ rfl h))) (fun h => (Ev.ofBif h (fun h => (Ev.ofBind h fun y6 h => (Ev.ofBif h (fun h => (Ev.ofBif h (fun h => (Ev.ofBind h fun y7 h => (Ev.ofLen h fun hl h => Z1 hl _ (0 : Nat) _ _ rfl h))) (fun h => (Ev.ofLen h fun hl h => Z1 hl _ (0 : Nat) _ _ rfl h)))) (fun h => (Ev.ofLen h fun hl h => Z1 hl _ (0 : Nat) _ _ rfl h))))) (fun h => (Ev.ofLen h fun hl h => Z1 hl _ (0 : Nat) _ _ rfl h)))))
theorem GW {Rc : Qv → Option Bool} {x1 : Qv} {x2 : Qo} {r : Bool} (h : JU Rc x1 x2 = some r) : Ev (fun n => YK Rc n x1 x2) r := by
 rw [JU] at h
 refine Ev.step ?_ (fun n => Qkj Rc n x1 x2)
 exact (Ev.ofBif h (fun h => (Ev.ofBif h (fun h => (Ev.ofBind h fun y2 h => (Ev.ofLen h fun hl h => Z1 hl _ (0 : Nat) _ _ rfl h))) (fun h => (Ev.ofLen h fun hl h => Z1 hl _ (0 : Nat) _ _ rfl h)))) (fun h => (Ev.ofBif h (fun h => (Ev.ofBind h fun y4 h => (Ev.ofLen h fun hl h => Z1 hl _ (0 : Nat) _ _ rfl h))) (fun h => (Ev.ofBif h (fun h => (HN h)) (fun h => (Ev.ofBif h (fun h => (HN h)) (fun h => (HN h)))))))))
theorem Qxi {Rc : Qv → Option Bool} (a0 : Qv) {r : Bool} (h : Gl Rc a0 = some r) : Ev (fun n => Qk7 Rc n a0) r := by
 rw [Gl] at h
 refine Ev.of_eq ?_ (fun n => Qq5 Rc n a0)
 exact (Ev.ofBind h fun y1 h => (Ev.ofBif h (fun h => (Ev.ofSome h)) (fun h => (Ev.ofBif h (fun h => (Ev.ofBif h (fun h => (Ev.ofSome h)) (fun h => (Ev.ofBif h (fun h => (Ev.ofBif h (fun h => (Ev.ofSome h)) (fun h => (GW h)))) (fun h => (GW h)))))) (fun h => (Ev.ofBif h (fun h => (Ev.ofBif h (fun h => (Ev.ofSome h)) (fun h => (GW h)))) (fun h => (GW h))))))))
theorem Qs4 : ∀ d, Qg Tryz.prog (⟨158, [YA], [.bool], fun x => Gm d x.1⟩ : Ctr) := by
 intro d
 induction d with
 | zero => intro xs y hy; exact (nomatch (show (none : Option Bool) = some y from hy))
 | succ d ih =>
  refine Qh (by kernel_rfl) (by kernel_rfl : Tryz.prog.funcs[158]? = some Tryz.f158) (code := Tryz.f158.body.getD .skip) (by kernel_rfl) (by kernel_rfl) (by kernel_rfl) (A := XQ) (I := Xc) (cs := Xd (Gm d)) (Qb Qvo (Qb Uh (Qb ih (Qb Qxf (Qb QAy (Qb G9 (Qb Qvr (Qb QgC Qi)))))))) ?_
  rintro ⟨a0, u⟩ y hy
  exact (Qxi a0 hy).get
theorem Qvs : Qg Tryz.prog (Qk6) := by
 rintro ⟨a0, u⟩ y hy
 obtain ⟨d, hd⟩ := (Gj hy).get
 exact Qs4 d (a0, u) y hd
noncomputable def XC (x1 : (List Qo)) : Option (Qv × Bool) :=
 Option.bind (ET x1 0 1) fun (y1 : (Qv × Int)) =>
 bif decide (y1.2 = (x1.length : Int)) then
  Option.bind (Wo (Tree.node y1.1.val y1.1.kids)) fun (y2 : Bool) =>
  some ((Tree.node y1.1.val y1.1.kids), y2)
 else
  some ((Tree.node y1.1.val y1.1.kids), false)
noncomputable def V5 (a0 : (List Qo)) : Option (Qv × Bool) :=
 bif decide ((a0.length : Int) < 1) then
  some ((Tree.node (0, ([] : List Int), (0, 0, ([] : List Int), ([] : List Int)), 0) ([])), false)
 else
  bif decide ((60 : Int) < (a0.length : Int)) then
   some ((Tree.node (0, ([] : List Int), (0, 0, ([] : List Int), ([] : List Int)), 0) ([])), false)
  else
   XC a0
noncomputable def Qfo : Ctr := ⟨149, [(.list Ql)], [YA, .bool], fun x => V5 x.1⟩
def Qfp : List (List Nat × Ann) := [([1, 3], [.keep 0 0, .keep 0 2, .boxd 0 2 YA])]
def Qdk : List (List Nat × Nat) := []
noncomputable def Qdl : List Ctr := [Qnl, Qk6]
noncomputable def Qnp (n : Nat) (a0 : (List Qo)) : Option (Qv × Bool) := run Tryz.prog Qfp Qdk (Qn Qdl) Tryz.f149 (Tryz.f149.body.getD .skip) (Qp [YA, .bool]) n (Qu [(.list Ql)] (a0, ()))
noncomputable abbrev WO (n : Nat) (x1 : (List Qo)) (x2 : Qv) : Option (Qv × Bool) := lam Tryz.prog Qfp Qdk (Qn Qdl) Tryz.f149 (Tryz.f149.body.getD .skip) (Qp [YA, .bool]) n [1, 3] [.d (.list Ql) x1, .ptr 0 2 0, .agg (Qq YA x2)]
theorem Qs5 (n : Nat) (a0 : (List Qo)) : Qnp n a0 =
  bif decide ((a0.length : Int) < 1) then
   some ((Tree.node (0, ([] : List Int), (0, 0, ([] : List Int), ([] : List Int)), 0) ([])), false)
  else
   bif decide ((60 : Int) < (a0.length : Int)) then
    some ((Tree.node (0, ([] : List Int), (0, 0, ([] : List Int), ([] : List Int)), 0) ([])), false)
   else
    WO n a0 (Tree.node (0, ([] : List Int), (0, 0, ([] : List Int), ([] : List Int)), 0) ([])) := by kernel_rfl
theorem Ql9 (n : Nat) (x1 : (List Qo)) (x2 : Qv) : WO (n + 1) x1 x2 =
  Option.bind (ET x1 0 1) fun (y1 : (Qv × Int)) =>
  bif decide (y1.2 = (x1.length : Int)) then
   Option.bind (Wo (Tree.node y1.1.val y1.1.kids)) fun (y2 : Bool) =>
   some ((Tree.node y1.1.val y1.1.kids), y2)
  else
   some ((Tree.node y1.1.val y1.1.kids), false) := by kernel_rfl
theorem Qq6 {x1 : (List Qo)} {x2 : Qv} {r : (Qv × Bool)} (h : XC x1 = some r) : Ev (fun n => WO n x1 x2) r := by
 rw [XC] at h
 refine Ev.step ?_ (fun n => Ql9 n x1 x2)
 exact (Ev.ofBind h fun y1 h => (Ev.ofBif h (fun h => (Ev.ofBind h fun y2 h => (Ev.ofSome h))) (fun h => (Ev.ofSome h))))
theorem QzB (a0 : (List Qo)) {r : (Qv × Bool)} (h : V5 a0 = some r) : Ev (fun n => Qnp n a0) r := by
 rw [V5] at h
 refine Ev.of_eq ?_ (fun n => Qs5 n a0)
 exact (Ev.ofBif h (fun h => (Ev.ofSome h)) (fun h => (Ev.ofBif h (fun h => (Ev.ofSome h)) (fun h => (Qq6 h)))))
theorem Qvt : ∀ x ∈ Qdl, Qg Tryz.prog x := (Qb Qxd (Qb Qvs Qi))
theorem Qxj : Qg Tryz.prog (Qfo) := by
 refine Qh (c := Qfo) (by kernel_rfl) (by kernel_rfl : Tryz.prog.funcs[149]? = some Tryz.f149) (code := Tryz.f149.body.getD .skip) (by kernel_rfl) (by kernel_rfl) (by kernel_rfl) (A := Qfp) (I := Qdk) (Qvt) ?_
 rintro ⟨a0, u⟩ y hy
 exact (QzB a0 hy).get
noncomputable def Vt (a0 : (List Qo)) : Option Bool :=
 Option.bind (V5 a0) fun (y1 : (Qv × Bool)) =>
 some y1.2
noncomputable def Qdm : Ctr := ⟨127, [(.list Ql)], [.bool], fun x => Vt x.1⟩
def Qk8 : List (List Nat × Ann) := []
def Qio : List (List Nat × Nat) := []
noncomputable def Qip : List Ctr := [Qfo]
noncomputable def Qk9 (n : Nat) (a0 : (List Qo)) : Option Bool := run Tryz.prog Qk8 Qio (Qn Qip) Tryz.f127 (Tryz.f127.body.getD .skip) (Qp [.bool]) n (Qu [(.list Ql)] (a0, ()))
theorem Qq7 (n : Nat) (a0 : (List Qo)) : Qk9 n a0 =
  Option.bind (V5 a0) fun (y1 : (Qv × Bool)) =>
  some y1.2 := by kernel_rfl
theorem Qxk (a0 : (List Qo)) {r : Bool} (h : Vt a0 = some r) : Ev (fun n => Qk9 n a0) r := by
 rw [Vt] at h
 refine Ev.of_eq ?_ (fun n => Qq7 n a0)
 exact (Ev.ofBind h fun y1 h => (Ev.ofSome h))
theorem Qs6 : ∀ x ∈ Qip, Qg Tryz.prog x := (Qb Qxj Qi)
theorem Qvu : Qg Tryz.prog (Qdm) := by
 refine Qh (c := Qdm) (by kernel_rfl) (by kernel_rfl : Tryz.prog.funcs[127]? = some Tryz.f127) (code := Tryz.f127.body.getD .skip) (by kernel_rfl) (by kernel_rfl) (by kernel_rfl) (A := Qk8) (I := Qio) (Qs6) ?_
 rintro ⟨a0, u⟩ y hy
 exact (Qxk a0 hy).get
noncomputable def YD (a0 : Qd) : Option Bool :=
 Option.bind (HK a0.1) fun (y1 : Bool) =>
 bif y1 then
  Option.bind (QY a0.2.2.1 true) fun (y2 : Bool) =>
  bif y2 then
   Option.bind (QY a0.2.2.2.1 false) fun (y3 : Bool) =>
   bif y3 then
    Option.bind (QY a0.2.2.2.2.1 true) fun (y4 : Bool) =>
    bif y4 then
     bif decide ((a0.2.2.2.2.2.length : Int) = 0) then
      some true
     else
      Option.bind (Vt a0.2.2.2.2.2) fun (y5 : Bool) =>
      some y5
    else
     some false
   else
    some false
  else
   some false
 else
  some false
noncomputable def EU : Ctr := ⟨98, [Qc], [.bool], fun x => YD x.1⟩
def QgF : List (List Nat × Ann) := []
def Qfq : List (List Nat × Nat) := []
noncomputable def Qfr : List Ctr := [Qni, WM, Qdm]
noncomputable def QgG (n : Nat) (a0 : Qd) : Option Bool := run Tryz.prog QgF Qfq (Qn Qfr) Tryz.f98 (Tryz.f98.body.getD .skip) (Qp [.bool]) n (Qu [Qc] (a0, ()))
theorem Qnq (n : Nat) (a0 : Qd) : QgG n a0 =
  Option.bind (HK a0.1) fun (y1 : Bool) =>
  bif y1 then
   Option.bind (QY a0.2.2.1 true) fun (y2 : Bool) =>
   bif y2 then
    Option.bind (QY a0.2.2.2.1 false) fun (y3 : Bool) =>
    bif y3 then
     Option.bind (QY a0.2.2.2.2.1 true) fun (y4 : Bool) =>
     bif y4 then
      bif decide ((a0.2.2.2.2.2.length : Int) = 0) then
       some true
      else
       Option.bind (Vt a0.2.2.2.2.2) fun (y5 : Bool) =>
       some y5
     else
      some false
    else
     some false
   else
    some false
  else
   some false := by kernel_rfl
theorem Qs7 (a0 : Qd) {r : Bool} (h : YD a0 = some r) : Ev (fun n => QgG n a0) r := by
 rw [YD] at h
 refine Ev.of_eq ?_ (fun n => Qnq n a0)
 exact (Ev.ofBind h fun y1 h => (Ev.ofBif h (fun h => (Ev.ofBind h fun y2 h => (Ev.ofBif h (fun h => (Ev.ofBind h fun y3 h => (Ev.ofBif h (fun h => (Ev.ofBind h fun y4 h => (Ev.ofBif h (fun h => (Ev.ofBif h (fun h => (Ev.ofSome h)) (fun h => (Ev.ofBind h fun y5 h => (Ev.ofSome h))))) (fun h => (Ev.ofSome h))))) (fun h => (Ev.ofSome h))))) (fun h => (Ev.ofSome h))))) (fun h => (Ev.ofSome h))))
theorem Qo2 : ∀ x ∈ Qfr, Qg Tryz.prog x := (Qb QBX (Qb Qo0 (Qb Qvu Qi)))
theorem Qq8 : Qg Tryz.prog (EU) := by
 refine Qh (c := EU) (by kernel_rfl) (by kernel_rfl : Tryz.prog.funcs[98]? = some Tryz.f98) (code := Tryz.f98.body.getD .skip) (by kernel_rfl) (by kernel_rfl) (by kernel_rfl) (A := QgF) (I := Qfq) (Qo2) ?_
 rintro ⟨a0, u⟩ y hy
 exact (Qs7 a0 hy).get
noncomputable def Zd (x1 : (List Qd)) : List Qd → Nat → Option Bool
 | [], k =>
   some (decide ((x1.length : Int) ≤ 40))
 | e :: rest, k =>
   bif decide ((0 : Int) < (k : Int)) then
    bif inB (IntKind.wrap .i64 ((k : Int) - 1)) x1.length then
     Option.bind (QX ((rd x1 (IntKind.wrap .i64 ((k : Int) - 1)) (Ty.dflt Qc)).1) ((e).1)) fun (y1 : Int) =>
     bif decide ((0 : Int) ≤ y1) then
      some false
     else
      Zd x1 rest (k + 1)
    else none
   else
    Zd x1 rest (k + 1)
noncomputable def VS (a0 : (List Qd)) : Option Bool :=
 Jg a0 (Zd a0 a0 0)
noncomputable def QbA : Ctr := ⟨99, [(.list Qc)], [.bool], fun x => VS x.1⟩
def QbB : List (List Nat × Ann) := [([0, 2], [.keep 0 0, .keep 0 5, .keep 0 6])]
def EV : List (List Nat × Nat) := []
noncomputable def EW : List Ctr := [VR]
noncomputable def Qiq (n : Nat) (a0 : (List Qd)) : Option Bool := run Tryz.prog QbB EV (Qn EW) Tryz.f99 (Tryz.f99.body.getD .skip) (Qp [.bool]) n (Qu [(.list Qc)] (a0, ()))
noncomputable abbrev Yr (n : Nat) (x1 : (List Qd)) (x2 : Int) (x3 : Int) : Option Bool := lam Tryz.prog QbB EV (Qn EW) Tryz.f99 (Tryz.f99.body.getD .skip) (Qp [.bool]) n [0, 2] [.d (.list Qc) x1, .d I64 x2, .d I64 x3]
theorem Qo3 (n : Nat) (a0 : (List Qd)) : Qiq n a0 =
  Yr n a0 (a0.length : Int) 0 := by kernel_rfl
theorem Eo (n : Nat) (x1 : (List Qd)) (x2 : Int) (x3 : Int) : Yr (n + 1) x1 x2 x3 =
  bif decide (x3 < x2) then
   bif decide ((0 : Int) < x3) then
    bif inB (IntKind.wrap .i64 (x3 - 1)) x1.length then
     bif inB x3 x1.length then
      Option.bind (QX ((rd x1 (IntKind.wrap .i64 (x3 - 1)) (Ty.dflt Qc)).1) ((rd x1 x3 (Ty.dflt Qc)).1)) fun (y1 : Int) =>
      bif decide ((0 : Int) ≤ y1) then
       some false
      else
       Yr n x1 x2 (IntKind.wrap .i64 (x3 + 1))
     else none
    else none
   else
    Yr n x1 x2 (IntKind.wrap .i64 (x3 + 1))
  else
   some (decide ((x1.length : Int) ≤ 40)) := by kernel_rfl
theorem Qnr {x1 : (List Qd)} (hl : x1.length ≤ maxLen) : ∀ (rest : List Qd) (k : Nat) (r : Bool), rest = x1.drop k → Zd x1 rest k = some r → Ev (fun n => Yr n x1 (x1.length : Int) (k : Int)) r := by
 intro rest
 induction rest with
 | nil =>
  intro k r hr h
  have hk := QO hr
  rw [Zd] at h
  refine Ev.step ?_ (fun n => Eo n x1 (x1.length : Int) (k : Int))
  rw [show decide ((k : Int) < (x1.length : Int)) = false from decide_eq_false (by omega)]
  exact Ev.neg rfl (Ev.ofSome h)
 | cons e rest ih =>
  intro k r hr h
  obtain ⟨hk, hx, hr2⟩ := QE (d := (Ty.dflt Qc)) hr
  have hw := QA hl hk
  have ih2 : ∀ (r : Bool), Zd x1 rest (k + 1) = some r → Ev (fun n => Yr n x1 (x1.length : Int) (IntKind.wrap .i64 ((k : Int) + 1))) r := by
   intro r h; rw [hw]; exact ih (k + 1) r hr2 h
  rw [Zd] at h
  refine Ev.step ?_ (fun n => Eo n x1 (x1.length : Int) (k : Int))
  rw [show decide ((k : Int) < (x1.length : Int)) = true from decide_eq_true (by omega), QB hk, hx]
  exact Ev.pos rfl (Ev.ofBif h (fun h => (Ev.ofBif h (fun h => (Ev.pos rfl (Ev.ofBind h fun y1 h => (Ev.ofBif h (fun h => (Ev.ofSome h)) (fun h => (ih2  _ h)))))) (fun h => (Ev.ofNone h)))) (fun h => (ih2  _ h)))
theorem Qvv (a0 : (List Qd)) {r : Bool} (h : VS a0 = some r) : Ev (fun n => Qiq n a0) r := by
 rw [VS] at h
 refine Ev.of_eq ?_ (fun n => Qo3 n a0)
 exact (Ev.ofLen h fun hl h => Qnr hl _ (0 : Nat) _ rfl h)
theorem Qq9 : ∀ x ∈ EW, Qg Tryz.prog x := (Qb Hl Qi)
theorem Qs8 : Qg Tryz.prog (QbA) := by
 refine Qh (c := QbA) (by kernel_rfl) (by kernel_rfl : Tryz.prog.funcs[99]? = some Tryz.f99) (code := Tryz.f99.body.getD .skip) (by kernel_rfl) (by kernel_rfl) (by kernel_rfl) (A := QbB) (I := EV) (Qq9) ?_
 rintro ⟨a0, u⟩ y hy
 exact (Qvv a0 hy).get
noncomputable def QU (x1 : (List Qd)) : List Qd → Option Bool
 | [] =>
   Option.bind (VS x1) fun (y2 : Bool) =>
   some y2
 | e :: rest =>
   Option.bind (YD (e)) fun (y1 : Bool) =>
   bif !(y1) then
    some false
   else
    QU x1 rest
noncomputable def Jb (a0 : (List Qd)) : Option Bool :=
 Jg a0 (QU a0 a0)
noncomputable def XD : Ctr := ⟨68, [(.list Qc)], [.bool], fun x => Jb x.1⟩
def XE : List (List Nat × Ann) := [([0, 2], [.keep 0 0, .keep 0 5, .keep 0 6, .keep 0 7])]
def Xe : List (List Nat × Nat) := []
noncomputable def Xf : List Ctr := [EU, QbA]
noncomputable def EX (n : Nat) (a0 : (List Qd)) : Option Bool := run Tryz.prog XE Xe (Qn Xf) Tryz.f68 (Tryz.f68.body.getD .skip) (Qp [.bool]) n (Qu [(.list Qc)] (a0, ()))
noncomputable abbrev JC (n : Nat) (x1 : (List Qd)) (x2 : (List Qd)) (x3 : Int) (x4 : Int) : Option Bool := lam Tryz.prog XE Xe (Qn Xf) Tryz.f68 (Tryz.f68.body.getD .skip) (Qp [.bool]) n [0, 2] [.d (.list Qc) x1, .d (.list Qc) x2, .d I64 x3, .d I64 x4]
theorem Qgt (n : Nat) (a0 : (List Qd)) : EX n a0 =
  JC n a0 a0 (a0.length : Int) 0 := by kernel_rfl
theorem Xq (n : Nat) (x1 : (List Qd)) (x2 : (List Qd)) (x3 : Int) (x4 : Int) : JC (n + 1) x1 x2 x3 x4 =
  bif decide (x4 < x3) then
   bif inB x4 x2.length then
    Option.bind (YD (rd x2 x4 (Ty.dflt Qc))) fun (y1 : Bool) =>
    bif !(y1) then
     some false
    else
     JC n x1 x2 x3 (IntKind.wrap .i64 (x4 + 1))
   else none
  else
   Option.bind (VS x1) fun (y2 : Bool) =>
   some y2 := by kernel_rfl
theorem Qfs {x1 : (List Qd)} (hl : x1.length ≤ maxLen) : ∀ (rest : List Qd) (k : Nat) (r : Bool), rest = x1.drop k → QU x1 rest = some r → Ev (fun n => JC n x1 x1 (x1.length : Int) (k : Int)) r := by
 intro rest
 induction rest with
 | nil =>
  intro k r hr h
  have hk := QO hr
  rw [QU] at h
  refine Ev.step ?_ (fun n => Xq n x1 x1 (x1.length : Int) (k : Int))
  rw [show decide ((k : Int) < (x1.length : Int)) = false from decide_eq_false (by omega)]
  exact Ev.neg rfl (Ev.ofBind h fun y2 h => (Ev.ofSome h))
 | cons e rest ih =>
  intro k r hr h
  obtain ⟨hk, hx, hr2⟩ := QE (d := (Ty.dflt Qc)) hr
  have hw := QA hl hk
  have ih2 : ∀ (r : Bool), QU x1 rest = some r → Ev (fun n => JC n x1 x1 (x1.length : Int) (IntKind.wrap .i64 ((k : Int) + 1))) r := by
   intro r h; rw [hw]; exact ih (k + 1) r hr2 h
  rw [QU] at h
  refine Ev.step ?_ (fun n => Xq n x1 x1 (x1.length : Int) (k : Int))
  rw [show decide ((k : Int) < (x1.length : Int)) = true from decide_eq_true (by omega), QB hk, hx]
  exact Ev.pos rfl (Ev.pos rfl (Ev.ofBind h fun y1 h => (Ev.ofBif h (fun h => (Ev.ofSome h)) (fun h => (ih2  _ h)))))
theorem Qkk (a0 : (List Qd)) {r : Bool} (h : Jb a0 = some r) : Ev (fun n => EX n a0) r := by
 rw [Jb] at h
 refine Ev.of_eq ?_ (fun n => Qgt n a0)
 exact (Ev.ofLen h fun hl h => Qfs hl _ (0 : Nat) _ rfl h)
theorem Qhq : ∀ x ∈ Xf, Qg Tryz.prog x := (Qb Qq8 (Qb Qs8 Qi))
theorem Qir : Qg Tryz.prog (XD) := by
 refine Qh (c := XD) (by kernel_rfl) (by kernel_rfl : Tryz.prog.funcs[68]? = some Tryz.f68) (code := Tryz.f68.body.getD .skip) (by kernel_rfl) (by kernel_rfl) (by kernel_rfl) (A := XE) (I := Xe) (Qhq) ?_
 rintro ⟨a0, u⟩ y hy
 exact (Qkk a0 hy).get
noncomputable def Xg (a0 : (List Qj)) (a1 : Qt) (a2 : (List Qd)) : Option Bool :=
 Option.bind (YC a0) fun (y1 : Bool) =>
 bif y1 then
  Option.bind (Yl a1) fun (y2 : Bool) =>
  bif y2 then
   Option.bind (Jb a2) fun (y3 : Bool) =>
   some y3
  else
   some false
 else
  some false
noncomputable def Qft : Ctr := ⟨28, [(.list Qf), Qr, (.list Qc)], [.bool], fun x => Xg x.1 x.2.1 x.2.2.1⟩
def Qns : List (List Nat × Ann) := []
def Qla : List (List Nat × Nat) := []
noncomputable def Qlb : List Ctr := [ER, WL, XD]
noncomputable def Qnt (n : Nat) (a0 : (List Qj)) (a1 : Qt) (a2 : (List Qd)) : Option Bool := run Tryz.prog Qns Qla (Qn Qlb) Tryz.f28 (Tryz.f28.body.getD .skip) (Qp [.bool]) n (Qu [(.list Qf), Qr, (.list Qc)] (a0, a1, a2, ()))
theorem Qs9 (n : Nat) (a0 : (List Qj)) (a1 : Qt) (a2 : (List Qd)) : Qnt n a0 a1 a2 =
  Option.bind (YC a0) fun (y1 : Bool) =>
  bif y1 then
   Option.bind (Yl a1) fun (y2 : Bool) =>
   bif y2 then
    Option.bind (Jb a2) fun (y3 : Bool) =>
    some y3
   else
    some false
  else
   some false := by kernel_rfl
theorem QzC (a0 : (List Qj)) (a1 : Qt) (a2 : (List Qd)) {r : Bool} (h : Xg a0 a1 a2 = some r) : Ev (fun n => Qnt n a0 a1 a2) r := by
 rw [Xg] at h
 refine Ev.of_eq ?_ (fun n => Qs9 n a0 a1 a2)
 exact (Ev.ofBind h fun y1 h => (Ev.ofBif h (fun h => (Ev.ofBind h fun y2 h => (Ev.ofBif h (fun h => (Ev.ofBind h fun y3 h => (Ev.ofSome h))) (fun h => (Ev.ofSome h))))) (fun h => (Ev.ofSome h))))
theorem Qvw : ∀ x ∈ Qlb, Qg Tryz.prog x := (Qb QqZ (Qb QoZ (Qb Qir Qi)))
theorem Qxl : Qg Tryz.prog (Qft) := by
 refine Qh (c := Qft) (by kernel_rfl) (by kernel_rfl : Tryz.prog.funcs[28]? = some Tryz.f28) (code := Tryz.f28.body.getD .skip) (by kernel_rfl) (by kernel_rfl) (by kernel_rfl) (A := Qns) (I := Qla) (Qvw) ?_
 rintro ⟨a0, a1, a2, u⟩ y hy
 exact (QzC a0 a1 a2 hy).get
noncomputable def Zt (x4 : Qe) : List Qj → Option (Qj × Bool)
 | [] =>
   some (((0, 0, ([] : List Int), ([] : List Int)), [], [], []), false)
 | e :: rest =>
   bif @decide (((e).1) = x4) (Ty.decEq Qa ((e).1) x4) then
    some ((((e).1), ((e).2)), true)
   else
    Zt x4 rest
noncomputable def Ye (a0 : (List Qj)) (a1 : Qe) : Option (Qj × Bool) :=
 Jg a0 (Zt a1 a0)
noncomputable def Qdn : Ctr := ⟨143, [(.list Qf), Qa], [Qf, .bool], fun x => Ye x.1 x.2.1⟩
def Qdo : List (List Nat × Ann) := [([0, 2], [.keep 0 3, .keep 0 4, .keep 0 8, .keep 0 9, .keep 0 10, .boxd 0 3 Qa, .boxd 0 4 Qf])]
def QbC : List (List Nat × Nat) := []
noncomputable def QbD : List Ctr := []
noncomputable def Qlc (n : Nat) (a0 : (List Qj)) (a1 : Qe) : Option (Qj × Bool) := run Tryz.prog Qdo QbC (Qn QbD) Tryz.f143 (Tryz.f143.body.getD .skip) (Qp [Qf, .bool]) n (Qu [(.list Qf), Qa] (a0, a1, ()))
noncomputable abbrev VE (n : Nat) (x1 : (List Qj)) (x2 : Int) (x3 : Int) (x4 : Qe) (x5 : Qj) : Option (Qj × Bool) := lam Tryz.prog Qdo QbC (Qn QbD) Tryz.f143 (Tryz.f143.body.getD .skip) (Qp [Qf, .bool]) n [0, 2] [.ptr 0 3 0, .ptr 0 4 0, .d (.list Qf) x1, .d I64 x2, .d I64 x3, .agg (Qq Qa x4), .agg (Qq Qf x5)]
theorem Qra (n : Nat) (a0 : (List Qj)) (a1 : Qe) : Qlc n a0 a1 =
  VE n a0 (a0.length : Int) 0 a1 ((0, 0, ([] : List Int), ([] : List Int)), [], [], []) := by kernel_rfl
theorem EY (n : Nat) (x1 : (List Qj)) (x2 : Int) (x3 : Int) (x4 : Qe) (x5 : Qj) : VE (n + 1) x1 x2 x3 x4 x5 =
  bif decide (x3 < x2) then
   bif inB x3 x1.length then
    bif @decide (((rd x1 x3 (Ty.dflt Qf)).1) = x4) (Ty.decEq Qa ((rd x1 x3 (Ty.dflt Qf)).1) x4) then
     some ((((rd x1 x3 (Ty.dflt Qf)).1), ((rd x1 x3 (Ty.dflt Qf)).2)), true)
    else
     VE n x1 x2 (IntKind.wrap .i64 (x3 + 1)) x4 x5
   else none
  else
   some (((0, 0, ([] : List Int), ([] : List Int)), [], [], []), false) := by kernel_rfl
theorem Qo4 {x1 : (List Qj)} {x4 : Qe} {x5 : Qj} (hl : x1.length ≤ maxLen) : ∀ (rest : List Qj) (k : Nat) (r : (Qj × Bool)), rest = x1.drop k → Zt x4 rest = some r → Ev (fun n => VE n x1 (x1.length : Int) (k : Int) x4 x5) r := by
 intro rest
 induction rest with
 | nil =>
  intro k r hr h
  have hk := QO hr
  rw [Zt] at h
  refine Ev.step ?_ (fun n => EY n x1 (x1.length : Int) (k : Int) x4 x5)
  rw [show decide ((k : Int) < (x1.length : Int)) = false from decide_eq_false (by omega)]
  exact Ev.neg rfl (Ev.ofSome h)
 | cons e rest ih =>
  intro k r hr h
  obtain ⟨hk, hx, hr2⟩ := QE (d := (Ty.dflt Qf)) hr
  have hw := QA hl hk
  have ih2 : ∀ (r : (Qj × Bool)), Zt x4 rest = some r → Ev (fun n => VE n x1 (x1.length : Int) (IntKind.wrap .i64 ((k : Int) + 1)) x4 x5) r := by
   intro r h; rw [hw]; exact ih (k + 1) r hr2 h
  rw [Zt] at h
  refine Ev.step ?_ (fun n => EY n x1 (x1.length : Int) (k : Int) x4 x5)
  rw [show decide ((k : Int) < (x1.length : Int)) = true from decide_eq_true (by omega), QB hk, hx]
  exact Ev.pos rfl (Ev.pos rfl (Ev.ofBif h (fun h => (Ev.ofSome h)) (fun h => (ih2  _ h))))
theorem Qxm (a0 : (List Qj)) (a1 : Qe) {r : (Qj × Bool)} (h : Ye a0 a1 = some r) : Ev (fun n => Qlc n a0 a1) r := by
 rw [Ye] at h
 refine Ev.of_eq ?_ (fun n => Qra n a0 a1)
 exact (Ev.ofLen h fun hl h => Qo4 hl _ (0 : Nat) _ rfl h)
theorem Qta : ∀ x ∈ QbD, Qg Tryz.prog x := Qi
theorem Qvx : Qg Tryz.prog (Qdn) := by
 refine Qh (c := Qdn) (by kernel_rfl) (by kernel_rfl : Tryz.prog.funcs[143]? = some Tryz.f143) (code := Tryz.f143.body.getD .skip) (by kernel_rfl) (by kernel_rfl) (by kernel_rfl) (A := Qdo) (I := QbC) (Qta) ?_
 rintro ⟨a0, a1, u⟩ y hy
 exact (Qxm a0 a1 hy).get
noncomputable def Jw (x4 : Qe) : List Qe → Option Bool
 | [] =>
   some false
 | e :: rest =>
   bif @decide ((e) = x4) (Ty.decEq Qa (e) x4) then
    some true
   else
    Jw x4 rest
noncomputable def Y4 (a0 : (List Qe)) (a1 : Qe) : Option Bool :=
 Jg a0 (Jw a1 a0)
noncomputable def Qcz : Ctr := ⟨31, [(.list Qa), Qa], [.bool], fun x => Y4 x.1 x.2.1⟩
def Qhr : List (List Nat × Ann) := [([0, 2], [.keep 0 3, .keep 0 7, .keep 0 8, .keep 0 9, .boxd 0 3 Qa])]
def Qfu : List (List Nat × Nat) := []
noncomputable def Qfv : List Ctr := []
noncomputable def QpZ (n : Nat) (a0 : (List Qe)) (a1 : Qe) : Option Bool := run Tryz.prog Qhr Qfu (Qn Qfv) Tryz.f31 (Tryz.f31.body.getD .skip) (Qp [.bool]) n (Qu [(.list Qa), Qa] (a0, a1, ()))
noncomputable abbrev GE (n : Nat) (x1 : (List Qe)) (x2 : Int) (x3 : Int) (x4 : Qe) : Option Bool := lam Tryz.prog Qhr Qfu (Qn Qfv) Tryz.f31 (Tryz.f31.body.getD .skip) (Qp [.bool]) n [0, 2] [.ptr 0 3 0, .d (.list Qa) x1, .d I64 x2, .d I64 x3, .agg (Qq Qa x4)]
theorem Qvy (n : Nat) (a0 : (List Qe)) (a1 : Qe) : QpZ n a0 a1 =
  GE n a0 (a0.length : Int) 0 a1 := by kernel_rfl
theorem QcR (n : Nat) (x1 : (List Qe)) (x2 : Int) (x3 : Int) (x4 : Qe) : GE (n + 1) x1 x2 x3 x4 =
  bif decide (x3 < x2) then
   bif inB x3 x1.length then
    bif @decide ((rd x1 x3 (Ty.dflt Qa)) = x4) (Ty.decEq Qa (rd x1 x3 (Ty.dflt Qa)) x4) then
     some true
    else
     GE n x1 x2 (IntKind.wrap .i64 (x3 + 1)) x4
   else none
  else
   some false := by kernel_rfl
theorem Qtb {x1 : (List Qe)} {x4 : Qe} (hl : x1.length ≤ maxLen) : ∀ (rest : List Qe) (k : Nat) (r : Bool), rest = x1.drop k → Jw x4 rest = some r → Ev (fun n => GE n x1 (x1.length : Int) (k : Int) x4) r := by
 intro rest
 induction rest with
 | nil =>
  intro k r hr h
  have hk := QO hr
  rw [Jw] at h
  refine Ev.step ?_ (fun n => QcR n x1 (x1.length : Int) (k : Int) x4)
  rw [show decide ((k : Int) < (x1.length : Int)) = false from decide_eq_false (by omega)]
  exact Ev.neg rfl (Ev.ofSome h)
 | cons e rest ih =>
  intro k r hr h
  obtain ⟨hk, hx, hr2⟩ := QE (d := (Ty.dflt Qa)) hr
  have hw := QA hl hk
  have ih2 : ∀ (r : Bool), Jw x4 rest = some r → Ev (fun n => GE n x1 (x1.length : Int) (IntKind.wrap .i64 ((k : Int) + 1)) x4) r := by
   intro r h; rw [hw]; exact ih (k + 1) r hr2 h
  rw [Jw] at h
  refine Ev.step ?_ (fun n => QcR n x1 (x1.length : Int) (k : Int) x4)
  rw [show decide ((k : Int) < (x1.length : Int)) = true from decide_eq_true (by omega), QB hk, hx]
  exact Ev.pos rfl (Ev.pos rfl (Ev.ofBif h (fun h => (Ev.ofSome h)) (fun h => (ih2  _ h))))
theorem QAz (a0 : (List Qe)) (a1 : Qe) {r : Bool} (h : Y4 a0 a1 = some r) : Ev (fun n => QpZ n a0 a1) r := by
 rw [Y4] at h
 refine Ev.of_eq ?_ (fun n => Qvy n a0 a1)
 exact (Ev.ofLen h fun hl h => Qtb hl _ (0 : Nat) _ rfl h)
theorem Qxn : ∀ x ∈ Qfv, Qg Tryz.prog x := Qi
theorem Qnu : Qg Tryz.prog (Qcz) := by
 refine Qh (c := Qcz) (by kernel_rfl) (by kernel_rfl : Tryz.prog.funcs[31]? = some Tryz.f31) (code := Tryz.f31.body.getD .skip) (by kernel_rfl) (by kernel_rfl) (by kernel_rfl) (A := Qhr) (I := Qfu) (Qxn) ?_
 rintro ⟨a0, a1, u⟩ y hy
 exact (QAz a0 a1 hy).get
noncomputable def ZA (K0 : (List Qe) → Option (List Qe)) (x2 : Int) (x7 : Qe) : Nat → (List Qe) → Int → Option (List Qe)
 | 0, _, _ => none
 | m + 1, x1, x3 =>
   bif decide (x2 < x3) then
    bif inB (IntKind.wrap .i64 (x3 - 1)) x1.length then
     bif inB (IntKind.wrap .i64 (x3 - 1)) x1.length then
      bif inB x3 x1.length then
       bif inB x3 x1.length && true && true && true && true then
        ZA K0 x2 x7 m (x1.set (Int.toNat x3) (rd x1 (IntKind.wrap .i64 (x3 - 1)) (Ty.dflt Qa))) (IntKind.wrap .i64 (x3 - 1))
       else none
      else none
     else none
    else none
   else
    bif inB x2 x1.length then
     bif inB x2 x1.length && true && true && true && true then
      K0 (x1.set (Int.toNat x2) x7)
     else none
    else none
noncomputable def Jp (K0 : (List Qe) → Option (List Qe)) (m : Nat) (x1 : (List Qe)) (x2 : Int) (x6 : Qe) : Option (List Qe) :=
 bif decide ((0 : Int) < x2) then
  bif inB (IntKind.wrap .i64 (x2 - 1)) x1.length then
   bif inB (IntKind.wrap .i64 (x2 - 1)) x1.length then
    Option.bind (Ja (rd x1 (IntKind.wrap .i64 (x2 - 1)) (Ty.dflt Qa)) x6) fun (y2 : Int) =>
    bif decide (y2 = 0) then
     K0 x1
    else
     bif decide (((x1.length : Int) + (([x6] : List Qe).length : Int)) * 48 ≤ QI) && decide ((x1.length : Int) + (([x6] : List Qe).length : Int) ≤ QI) then
      ZA K0 x2 x6 m (x1 ++ ([x6] : List Qe)) (IntKind.wrap .i64 (((x1 ++ ([x6] : List Qe)).length : Int) - 1))
     else none
   else none
  else none
 else
  bif decide (((x1.length : Int) + (([x6] : List Qe).length : Int)) * 48 ≤ QI) && decide ((x1.length : Int) + (([x6] : List Qe).length : Int) ≤ QI) then
   ZA K0 x2 x6 m (x1 ++ ([x6] : List Qe)) (IntKind.wrap .i64 (((x1 ++ ([x6] : List Qe)).length : Int) - 1))
  else none
noncomputable def ZM (K0 : (List Qe) → Option (List Qe)) (x1 : (List Qe)) (x6 : Qe) : Nat → Int → Option (List Qe)
 | 0, _ => none
 | m + 1, x2 =>
   bif decide ((0 : Int) < x2) then
    bif inB (IntKind.wrap .i64 (x2 - 1)) x1.length then
     bif inB (IntKind.wrap .i64 (x2 - 1)) x1.length then
      Option.bind (Ja (rd x1 (IntKind.wrap .i64 (x2 - 1)) (Ty.dflt Qa)) x6) fun (y1 : Int) =>
      bif decide ((0 : Int) < y1) then
       ZM K0 x1 x6 m (IntKind.wrap .i64 (x2 - 1))
      else
       Jp K0 m x1 x2 x6
     else none
    else none
   else
    Jp K0 m x1 x2 x6
noncomputable def Jq (m : Nat) : List Qe → (List Qe) → Option (List Qe)
 | [], x1 =>
   some x1
 | e :: rest, x1 =>
   ZM (fun s0 => Jq m rest s0) x1 (e) m (x1.length : Int)
noncomputable def XR (m : Nat) (a0 : (List Qe)) : Option (List Qe) :=
 Jg a0 (Jq m a0 [])
noncomputable def XS (a0 : (List Qe)) : Option (List Qe) := QaY fun m => XR m a0
noncomputable def Qdp : Ctr := ⟨30, [(.list Qa)], [(.list Qa)], fun x => XS x.1⟩
def Gn : List (List Nat × Ann) := [([0, 3], [.raw 0 3 Qa, .keep 0 8, .keep 0 9, .keep 0 10]), ([0, 6], [.raw 0 3 Qa, .keep 0 5, .keep 0 6, .keep 0 8, .keep 0 9, .keep 0 10, .boxd 0 5 Qa]), ([1, 8], [.raw 0 3 Qa, .keep 0 5, .keep 0 6, .keep 0 8, .keep 0 9, .keep 0 10, .boxd 0 5 Qa]), ([0, 11], [.raw 0 3 Qa, .keep 0 5, .keep 0 6, .keep 0 7, .keep 0 8, .keep 0 9, .keep 0 10, .boxd 0 5 Qa])]
def VT : List (List Nat × Nat) := []
noncomputable def VU : List Ctr := [EO]
noncomputable def Qld (n : Nat) (a0 : (List Qe)) : Option (List Qe) := run Tryz.prog Gn VT (Qn VU) Tryz.f30 (Tryz.f30.body.getD .skip) (Qp [(.list Qa)]) n (Qu [(.list Qa)] (a0, ()))
noncomputable abbrev ZN (n : Nat) (x1 : (List Qe)) (x2 : (List Qe)) (x3 : Int) (x4 : Int) : Option (List Qe) := lam Tryz.prog Gn VT (Qn VU) Tryz.f30 (Tryz.f30.body.getD .skip) (Qp [(.list Qa)]) n [0, 3] [.own 0 Qa x1, .d (.list Qa) x2, .d I64 x3, .d I64 x4]
noncomputable abbrev GX (n : Nat) (x1 : (List Qe)) (x2 : Int) (x3 : (List Qe)) (x4 : Int) (x5 : Int) (x6 : Qe) : Option (List Qe) := lam Tryz.prog Gn VT (Qn VU) Tryz.f30 (Tryz.f30.body.getD .skip) (Qp [(.list Qa)]) n [0, 6] [.own 0 Qa x1, .ptr 0 5 0, .d I64 x2, .d (.list Qa) x3, .d I64 x4, .d I64 x5, .agg (Qq Qa x6)]
noncomputable abbrev GY (n : Nat) (x1 : (List Qe)) (x2 : Int) (x3 : (List Qe)) (x4 : Int) (x5 : Int) (x6 : Qe) : Option (List Qe) := lam Tryz.prog Gn VT (Qn VU) Tryz.f30 (Tryz.f30.body.getD .skip) (Qp [(.list Qa)]) n [1, 8] [.own 0 Qa x1, .ptr 0 5 0, .d I64 x2, .d (.list Qa) x3, .d I64 x4, .d I64 x5, .agg (Qq Qa x6)]
noncomputable abbrev Vh (n : Nat) (x1 : (List Qe)) (x2 : Int) (x3 : Int) (x4 : (List Qe)) (x5 : Int) (x6 : Int) (x7 : Qe) : Option (List Qe) := lam Tryz.prog Gn VT (Qn VU) Tryz.f30 (Tryz.f30.body.getD .skip) (Qp [(.list Qa)]) n [0, 11] [.own 0 Qa x1, .ptr 0 5 0, .d I64 x2, .d I64 x3, .d (.list Qa) x4, .d I64 x5, .d I64 x6, .agg (Qq Qa x7)]
theorem Qrb (n : Nat) (a0 : (List Qe)) : Qld n a0 =
  ZN n [] a0 (a0.length : Int) 0 := by kernel_rfl
theorem EZ (n : Nat) (x1 : (List Qe)) (x2 : (List Qe)) (x3 : Int) (x4 : Int) : ZN (n + 1) x1 x2 x3 x4 =
  bif decide (x4 < x3) then
   bif inB x4 x2.length then
    GX n x1 (x1.length : Int) x2 x3 x4 (rd x2 x4 (Ty.dflt Qa))
   else none
  else
   some x1 := by kernel_rfl
theorem Qkl (n : Nat) (x1 : (List Qe)) (x2 : Int) (x3 : (List Qe)) (x4 : Int) (x5 : Int) (x6 : Qe) : GX (n + 1) x1 x2 x3 x4 x5 x6 =
  bif decide ((0 : Int) < x2) then
   bif inB (IntKind.wrap .i64 (x2 - 1)) x1.length then
    bif inB (IntKind.wrap .i64 (x2 - 1)) x1.length then
     Option.bind (Ja (rd x1 (IntKind.wrap .i64 (x2 - 1)) (Ty.dflt Qa)) x6) fun (y1 : Int) =>
     bif decide ((0 : Int) < y1) then
      GX n x1 (IntKind.wrap .i64 (x2 - 1)) x3 x4 x5 x6
     else
      GY n x1 x2 x3 x4 x5 x6
    else none
   else none
  else
   GY n x1 x2 x3 x4 x5 x6 := by kernel_rfl
theorem Qkm (n : Nat) (x1 : (List Qe)) (x2 : Int) (x3 : (List Qe)) (x4 : Int) (x5 : Int) (x6 : Qe) : GY (n + 1) x1 x2 x3 x4 x5 x6 =
  bif decide ((0 : Int) < x2) then
   bif inB (IntKind.wrap .i64 (x2 - 1)) x1.length then
    bif inB (IntKind.wrap .i64 (x2 - 1)) x1.length then
     Option.bind (Ja (rd x1 (IntKind.wrap .i64 (x2 - 1)) (Ty.dflt Qa)) x6) fun (y2 : Int) =>
     bif decide (y2 = 0) then
      ZN n x1 x3 x4 (IntKind.wrap .i64 (x5 + 1))
     else
      bif decide (((x1.length : Int) + (([x6] : List Qe).length : Int)) * 48 ≤ QI) && decide ((x1.length : Int) + (([x6] : List Qe).length : Int) ≤ QI) then
       Vh n (x1 ++ ([x6] : List Qe)) x2 (IntKind.wrap .i64 (((x1 ++ ([x6] : List Qe)).length : Int) - 1)) x3 x4 x5 x6
      else none
    else none
   else none
  else
   bif decide (((x1.length : Int) + (([x6] : List Qe).length : Int)) * 48 ≤ QI) && decide ((x1.length : Int) + (([x6] : List Qe).length : Int) ≤ QI) then
    Vh n (x1 ++ ([x6] : List Qe)) x2 (IntKind.wrap .i64 (((x1 ++ ([x6] : List Qe)).length : Int) - 1)) x3 x4 x5 x6
   else none := by kernel_rfl
theorem Qis (n : Nat) (x1 : (List Qe)) (x2 : Int) (x3 : Int) (x4 : (List Qe)) (x5 : Int) (x6 : Int) (x7 : Qe) : Vh (n + 1) x1 x2 x3 x4 x5 x6 x7 =
  bif decide (x2 < x3) then
   bif inB (IntKind.wrap .i64 (x3 - 1)) x1.length then
    bif inB (IntKind.wrap .i64 (x3 - 1)) x1.length then
     bif inB x3 x1.length then
      bif inB x3 x1.length && true && true && true && true then
       Vh n (x1.set (Int.toNat x3) (rd x1 (IntKind.wrap .i64 (x3 - 1)) (Ty.dflt Qa))) x2 (IntKind.wrap .i64 (x3 - 1)) x4 x5 x6 x7
      else none
     else none
    else none
   else none
  else
   bif inB x2 x1.length then
    bif inB x2 x1.length && true && true && true && true then
     ZN n (x1.set (Int.toNat x2) x7) x4 x5 (IntKind.wrap .i64 (x6 + 1))
    else none
   else none := by kernel_rfl
theorem QcS {K0 : (List Qe) → Option (List Qe)} {x2 : Int} {x4 : (List Qe)} {x5 : Int} {x6 : Int} {x7 : Qe} (hK0 : ∀ (z1 : (List Qe)) (r : (List Qe)), K0 z1 = some r → Ev (fun n => ZN n z1 x4 x5 (IntKind.wrap .i64 (x6 + 1))) r) : ∀ (m : Nat) (x1 : (List Qe)) (x3 : Int) (r : (List Qe)), ZA K0 x2 x7 m x1 x3 = some r → Ev (fun n => Vh n x1 x2 x3 x4 x5 x6 x7) r := by
 intro m
 induction m with
 | zero => intro x1 x3 r h; rw [ZA] at h; exact Ev.ofNone h
 | succ m ih2 =>
  intro x1 x3 r h
  rw [ZA] at h
  refine Ev.step ?_ (fun n => Qis n x1 x2 x3 x4 x5 x6 x7)
  exact (Ev.ofBif h (fun h => (Ev.ofBif h (fun h => (Ev.ofBif h (fun h => (Ev.ofBif h (fun h => (Ev.ofBif h (fun h => (ih2 _ _ _ h)) (fun h => (Ev.ofNone h)))) (fun h => (Ev.ofNone h)))) (fun h => (Ev.ofNone h)))) (fun h => (Ev.ofNone h)))) (fun h => (Ev.ofBif h (fun h => (Ev.ofBif h (fun h => (hK0 _ _ h)) (fun h => (Ev.ofNone h)))) (fun h => (Ev.ofNone h)))))
theorem Qee {K0 : (List Qe) → Option (List Qe)} {m : Nat} {x1 : (List Qe)} {x2 : Int} {x3 : (List Qe)} {x4 : Int} {x5 : Int} {x6 : Qe} (hK0 : ∀ (z1 : (List Qe)) (r : (List Qe)), K0 z1 = some r → Ev (fun n => ZN n z1 x3 x4 (IntKind.wrap .i64 (x5 + 1))) r) {r : (List Qe)} (h : Jp K0 m x1 x2 x6 = some r) : Ev (fun n => GY n x1 x2 x3 x4 x5 x6) r := by
 rw [Jp] at h
 refine Ev.step ?_ (fun n => Qkm n x1 x2 x3 x4 x5 x6)
 exact (Ev.ofBif h (fun h => (Ev.ofBif h (fun h => (Ev.ofBif h (fun h => (Ev.ofBind h fun y2 h => (Ev.ofBif h (fun h => (hK0 _ _ h)) (fun h => (Ev.ofBif h (fun h => (QcS hK0 _ _ _ _ h)) (fun h => (Ev.ofNone h))))))) (fun h => (Ev.ofNone h)))) (fun h => (Ev.ofNone h)))) (fun h => (Ev.ofBif h (fun h => (QcS hK0 _ _ _ _ h)) (fun h => (Ev.ofNone h)))))
theorem Qo5 {K0 : (List Qe) → Option (List Qe)} {x1 : (List Qe)} {x3 : (List Qe)} {x4 : Int} {x5 : Int} {x6 : Qe} (hK0 : ∀ (z1 : (List Qe)) (r : (List Qe)), K0 z1 = some r → Ev (fun n => ZN n z1 x3 x4 (IntKind.wrap .i64 (x5 + 1))) r) : ∀ (m : Nat) (x2 : Int) (r : (List Qe)), ZM K0 x1 x6 m x2 = some r → Ev (fun n => GX n x1 x2 x3 x4 x5 x6) r := by
 intro m
 induction m with
 | zero => intro x2 r h; rw [ZM] at h; exact Ev.ofNone h
 | succ m ih2 =>
  intro x2 r h
  rw [ZM] at h
  refine Ev.step ?_ (fun n => Qkl n x1 x2 x3 x4 x5 x6)
  exact (Ev.ofBif h (fun h => (Ev.ofBif h (fun h => (Ev.ofBif h (fun h => (Ev.ofBind h fun y1 h => (Ev.ofBif h (fun h => (ih2 _ _ h)) (fun h => (Qee hK0 h))))) (fun h => (Ev.ofNone h)))) (fun h => (Ev.ofNone h)))) (fun h => (Qee hK0 h)))
theorem Qo6 {m : Nat} {x2 : (List Qe)} (hl : x2.length ≤ maxLen) : ∀ (rest : List Qe) (k : Nat) (x1 : (List Qe)) (r : (List Qe)), rest = x2.drop k → Jq m rest x1 = some r → Ev (fun n => ZN n x1 x2 (x2.length : Int) (k : Int)) r := by
 intro rest
 induction rest with
 | nil =>
  intro k x1 r hr h
  have hk := QO hr
  rw [Jq] at h
  refine Ev.step ?_ (fun n => EZ n x1 x2 (x2.length : Int) (k : Int))
  rw [show decide ((k : Int) < (x2.length : Int)) = false from decide_eq_false (by omega)]
  exact Ev.neg rfl (Ev.ofSome h)
 | cons e rest ih =>
  intro k x1 r hr h
  obtain ⟨hk, hx, hr2⟩ := QE (d := (Ty.dflt Qa)) hr
  have hw := QA hl hk
  have ih2 : ∀ (z1 : (List Qe)) (r : (List Qe)), Jq m rest z1 = some r → Ev (fun n => ZN n z1 x2 (x2.length : Int) (IntKind.wrap .i64 ((k : Int) + 1))) r := by
   intro z1 r h; rw [hw]; exact ih (k + 1) z1 r hr2 h
  rw [Jq] at h
  refine Ev.step ?_ (fun n => EZ n x1 x2 (x2.length : Int) (k : Int))
  rw [show decide ((k : Int) < (x2.length : Int)) = true from decide_eq_true (by omega), QB hk, hx]
  exact Ev.pos rfl (Ev.pos rfl (Qo5 ih2 _ _ _ h))
theorem Qxo {m : Nat} (a0 : (List Qe)) {r : (List Qe)} (h : XR m a0 = some r) : Ev (fun n => Qld n a0) r := by
 rw [XR] at h
 refine Ev.of_eq ?_ (fun n => Qrb n a0)
 exact (Ev.ofLen h fun hl h => Qo6 hl _ (0 : Nat) _ _ rfl h)
theorem Qtc : ∀ x ∈ VU, Qg Tryz.prog x := (Qb Qhn Qi)
theorem Qvz : Qg Tryz.prog (Qdp) := by
 refine Qh (c := Qdp) (by kernel_rfl) (by kernel_rfl : Tryz.prog.funcs[30]? = some Tryz.f30) (code := Tryz.f30.body.getD .skip) (by kernel_rfl) (by kernel_rfl) (by kernel_rfl) (A := Gn) (I := VT) (Qtc) ?_
 rintro ⟨a0, u⟩ y hy
 exact let ⟨_, h⟩ := (Gj hy).get; (Qxo a0 h).get
noncomputable def JN (K0 : (List Qe) → Int → Option (List Qe)) (x3 : Int) : List Qe → (List Qe) → Option (List Qe)
 | [], x2 =>
   K0 x2 (IntKind.wrap .i64 (x3 + 1))
 | e :: rest, x2 =>
   Option.bind (Y4 x2 (e)) fun (y2 : Bool) =>
   bif !(y2) then
    bif decide (((x2.length : Int) + (([(e)] : List Qe).length : Int)) * 48 ≤ QI) && decide ((x2.length : Int) + (([(e)] : List Qe).length : Int) ≤ QI) then
     JN K0 x3 rest (x2 ++ ([(e)] : List Qe))
    else none
   else
    JN K0 x3 rest x2
noncomputable def Jj (x1 : (List Qj)) : Nat → (List Qe) → Int → Option (List Qe)
 | 0, _, _ => none
 | m + 1, x2, x3 =>
   bif decide (x3 < (x2.length : Int)) then
    bif inB x3 x2.length then
     Option.bind (Ye x1 (rd x2 x3 (Ty.dflt Qa))) fun (y1 : (Qj × Bool)) =>
     Jg y1.1.2.1 (JN (fun s0 s1 => Jj x1 m s0 s1) x3 y1.1.2.1 x2)
    else none
   else
    Option.bind (XS x2) fun (y3 : (List Qe)) =>
    some y3
noncomputable def Qkn (m : Nat) (a0 : (List Qj)) (a1 : Qe) : Option (List Qe) :=
 Jj a0 m ([a1] : List Qe) 0
noncomputable def QeQ (a0 : (List Qj)) (a1 : Qe) : Option (List Qe) := QaY fun m => Qkn m a0 a1
noncomputable def Qko : Ctr := ⟨120, [(.list Qf), Qa], [(.list Qa)], fun x => QeQ x.1 x.2.1⟩
def QeR : List (List Nat × Ann) := [([0, 3], [.keep 0 0, .own 0 5 Qa, .keep 0 6]), ([0, 7], [.keep 0 0, .own 0 5 Qa, .keep 0 6, .keep 0 29, .keep 0 30, .keep 0 31])]
def QcA : List (List Nat × Nat) := []
noncomputable def QcB : List Ctr := [Qdn, Qcz, Qdp]
noncomputable def Qtd (n : Nat) (a0 : (List Qj)) (a1 : Qe) : Option (List Qe) := run Tryz.prog QeR QcA (Qn QcB) Tryz.f120 (Tryz.f120.body.getD .skip) (Qp [(.list Qa)]) n (Qu [(.list Qf), Qa] (a0, a1, ()))
noncomputable abbrev Xh (n : Nat) (x1 : (List Qj)) (x2 : (List Qe)) (x3 : Int) : Option (List Qe) := lam Tryz.prog QeR QcA (Qn QcB) Tryz.f120 (Tryz.f120.body.getD .skip) (Qp [(.list Qa)]) n [0, 3] [.d (.list Qf) x1, .own 0 Qa x2, .d I64 x3]
noncomputable abbrev VV (n : Nat) (x1 : (List Qj)) (x2 : (List Qe)) (x3 : Int) (x4 : (List Qe)) (x5 : Int) (x6 : Int) : Option (List Qe) := lam Tryz.prog QeR QcA (Qn QcB) Tryz.f120 (Tryz.f120.body.getD .skip) (Qp [(.list Qa)]) n [0, 7] [.d (.list Qf) x1, .own 0 Qa x2, .d I64 x3, .d (.list Qa) x4, .d I64 x5, .d I64 x6]
theorem Qxp (n : Nat) (a0 : (List Qj)) (a1 : Qe) : Qtd n a0 a1 =
  Xh n a0 ([a1] : List Qe) 0 := by kernel_rfl
theorem Qo7 (n : Nat) (x1 : (List Qj)) (x2 : (List Qe)) (x3 : Int) : Xh (n + 1) x1 x2 x3 =
  bif decide (x3 < (x2.length : Int)) then
   bif inB x3 x2.length then
    Option.bind (Ye x1 (rd x2 x3 (Ty.dflt Qa))) fun (y1 : (Qj × Bool)) =>
    VV n x1 x2 x3 y1.1.2.1 (y1.1.2.1.length : Int) 0
   else none
  else
   Option.bind (XS x2) fun (y3 : (List Qe)) =>
   some y3 := by kernel_rfl
theorem Qef (n : Nat) (x1 : (List Qj)) (x2 : (List Qe)) (x3 : Int) (x4 : (List Qe)) (x5 : Int) (x6 : Int) : VV (n + 1) x1 x2 x3 x4 x5 x6 =
  bif decide (x6 < x5) then
   bif inB x6 x4.length then
    Option.bind (Y4 x2 (rd x4 x6 (Ty.dflt Qa))) fun (y2 : Bool) =>
    bif !(y2) then
     bif decide (((x2.length : Int) + (([(rd x4 x6 (Ty.dflt Qa))] : List Qe).length : Int)) * 48 ≤ QI) && decide ((x2.length : Int) + (([(rd x4 x6 (Ty.dflt Qa))] : List Qe).length : Int) ≤ QI) then
      VV n x1 (x2 ++ ([(rd x4 x6 (Ty.dflt Qa))] : List Qe)) x3 x4 x5 (IntKind.wrap .i64 (x6 + 1))
     else none
    else
     VV n x1 x2 x3 x4 x5 (IntKind.wrap .i64 (x6 + 1))
   else none
  else
   Xh n x1 x2 (IntKind.wrap .i64 (x3 + 1)) := by kernel_rfl
theorem QvA {K0 : (List Qe) → Int → Option (List Qe)} {x1 : (List Qj)} {x3 : Int} {x4 : (List Qe)} (hl : x4.length ≤ maxLen) (hK0 : ∀ (z2 : (List Qe)) (z3 : Int) (r : (List Qe)), K0 z2 z3 = some r → Ev (fun n => Xh n x1 z2 z3) r) : ∀ (rest : List Qe) (k : Nat) (x2 : (List Qe)) (r : (List Qe)), rest = x4.drop k → JN K0 x3 rest x2 = some r → Ev (fun n => VV n x1 x2 x3 x4 (x4.length : Int) (k : Int)) r := by
 intro rest
 induction rest with
 | nil =>
  intro k x2 r hr h
  have hk := QO hr
  rw [JN] at h
  refine Ev.step ?_ (fun n => Qef n x1 x2 x3 x4 (x4.length : Int) (k : Int))
  rw [show decide ((k : Int) < (x4.length : Int)) = false from decide_eq_false (by omega)]
  exact Ev.neg rfl (hK0 _ _ _ h)
 | cons e rest ih =>
  intro k x2 r hr h
  obtain ⟨hk, hx, hr2⟩ := QE (d := (Ty.dflt Qa)) hr
  have hw := QA hl hk
  have ih2 : ∀ (z2 : (List Qe)) (r : (List Qe)), JN K0 x3 rest z2 = some r → Ev (fun n => VV n x1 z2 x3 x4 (x4.length : Int) (IntKind.wrap .i64 ((k : Int) + 1))) r := by
   intro z2 r h; rw [hw]; exact ih (k + 1) z2 r hr2 h
  rw [JN] at h
  refine Ev.step ?_ (fun n => Qef n x1 x2 x3 x4 (x4.length : Int) (k : Int))
  rw [show decide ((k : Int) < (x4.length : Int)) = true from decide_eq_true (by omega), QB hk, hx]
  exact Ev.pos rfl (Ev.pos rfl (Ev.ofBind h fun y2 h => (Ev.ofBif h (fun h => (Ev.ofBif h (fun h => (ih2 _ _ h)) (fun h => (Ev.ofNone h)))) (fun h => (ih2 _ _ h)))))
theorem QvB {x1 : (List Qj)} : ∀ (m : Nat) (x2 : (List Qe)) (x3 : Int) (r : (List Qe)), Jj x1 m x2 x3 = some r → Ev (fun n => Xh n x1 x2 x3) r := by
 intro m
 induction m with
 | zero => intro x2 x3 r h; rw [Jj] at h; exact Ev.ofNone h
 | succ m ih2 =>
  intro x2 x3 r h
  rw [Jj] at h
  refine Ev.step ?_ (fun n => Qo7 n x1 x2 x3)
  exact (Ev.ofBif h (fun h => (Ev.ofBif h (fun h => (Ev.ofBind h fun y1 h => (Ev.ofLen h fun hl h => QvA hl ih2 _ (0 : Nat) _ _ rfl h))) (fun h => (Ev.ofNone h)))) (fun h => (Ev.ofBind h fun y3 h => (Ev.ofSome h))))
theorem QBZ {m : Nat} (a0 : (List Qj)) (a1 : Qe) {r : (List Qe)} (h : Qkn m a0 a1 = some r) : Ev (fun n => Qtd n a0 a1) r := by
 rw [Qkn] at h
 refine Ev.of_eq ?_ (fun n => Qxp n a0 a1)
 exact (QvB _ _ _ _ h)
theorem QzD : ∀ x ∈ QcB, Qg Tryz.prog x := (Qb Qvx (Qb Qnu (Qb Qvz Qi)))
theorem QAA : Qg Tryz.prog (Qko) := by
 refine Qh (c := Qko) (by kernel_rfl) (by kernel_rfl : Tryz.prog.funcs[120]? = some Tryz.f120) (code := Tryz.f120.body.getD .skip) (by kernel_rfl) (by kernel_rfl) (by kernel_rfl) (A := QeR) (I := QcA) (QzD) ?_
 rintro ⟨a0, a1, u⟩ y hy
 exact let ⟨_, h⟩ := (Gj hy).get; (QBZ a0 a1 h).get
noncomputable def Zi (a0 : (List Qj)) (a1 : ZE) (a2 : Qe) : Option Bool :=
 bif decide (a1.1 = 1) then
  some true
 else
  bif decide (a1.1 = 2) then
   some (@decide (a1.2.1 = a2) (Ty.decEq Qa a1.2.1 a2))
  else
   bif decide (a1.1 = 3) then
    Option.bind (QeQ a0 a2) fun (y1 : (List Qe)) =>
    Option.bind (Y4 y1 a1.2.1) fun (y2 : Bool) =>
    some y2
   else
    bif decide (a1.1 = 4) then
     some (decide (a1.2.2 = a2.2.2.2))
    else
     some false
noncomputable def E0 : Ctr := ⟨92, [(.list Qf), Qs, Qa], [.bool], fun x => Zi x.1 x.2.1 x.2.2.1⟩
def QgH : List (List Nat × Ann) := []
def Qfw : List (List Nat × Nat) := []
noncomputable def Qfx : List Ctr := [Qko, Qcz]
noncomputable def QgI (n : Nat) (a0 : (List Qj)) (a1 : ZE) (a2 : Qe) : Option Bool := run Tryz.prog QgH Qfw (Qn Qfx) Tryz.f92 (Tryz.f92.body.getD .skip) (Qp [.bool]) n (Qu [(.list Qf), Qs, Qa] (a0, a1, a2, ()))
theorem Qnv (n : Nat) (a0 : (List Qj)) (a1 : ZE) (a2 : Qe) : QgI n a0 a1 a2 =
  bif decide (a1.1 = 1) then
   some true
  else
   bif decide (a1.1 = 2) then
    some (@decide (a1.2.1 = a2) (Ty.decEq Qa a1.2.1 a2))
   else
    bif decide (a1.1 = 3) then
     Option.bind (QeQ a0 a2) fun (y1 : (List Qe)) =>
     Option.bind (Y4 y1 a1.2.1) fun (y2 : Bool) =>
     some y2
    else
     bif decide (a1.1 = 4) then
      some (decide (a1.2.2 = a2.2.2.2))
     else
      some false := by kernel_rfl
theorem Qte (a0 : (List Qj)) (a1 : ZE) (a2 : Qe) {r : Bool} (h : Zi a0 a1 a2 = some r) : Ev (fun n => QgI n a0 a1 a2) r := by
 rw [Zi] at h
 refine Ev.of_eq ?_ (fun n => Qnv n a0 a1 a2)
 exact (Ev.ofBif h (fun h => (Ev.ofSome h)) (fun h => (Ev.ofBif h (fun h => (Ev.ofSome h)) (fun h => (Ev.ofBif h (fun h => (Ev.ofBind h fun y1 h => (Ev.ofBind h fun y2 h => (Ev.ofSome h)))) (fun h => (Ev.ofBif h (fun h => (Ev.ofSome h)) (fun h => (Ev.ofSome h)))))))))
theorem Qo8 : ∀ x ∈ Qfx, Qg Tryz.prog x := (Qb QAA (Qb Qnu Qi))
theorem Qrc : Qg Tryz.prog (E0) := by
 refine Qh (c := E0) (by kernel_rfl) (by kernel_rfl : Tryz.prog.funcs[92]? = some Tryz.f92) (code := Tryz.f92.body.getD .skip) (by kernel_rfl) (by kernel_rfl) (by kernel_rfl) (A := QgH) (I := Qfw) (Qo8) ?_
 rintro ⟨a0, a1, a2, u⟩ y hy
 exact (Qte a0 a1 a2 hy).get
noncomputable def Yf (a0 : (List Qj)) (a1 : Qt) (a2 : Qd) : Option Bool :=
 Option.bind (Zi a0 a2.2.2.1 a1.1) fun (y1 : Bool) =>
 bif y1 then
  Option.bind (Zi a0 a2.2.2.2.1 a1.2.1) fun (y2 : Bool) =>
  bif y2 then
   Option.bind (Zi a0 a2.2.2.2.2.1 a1.2.2.1) fun (y3 : Bool) =>
   some y3
  else
   some false
 else
  some false
noncomputable def Qdq : Ctr := ⟨57, [(.list Qf), Qr, Qc], [.bool], fun x => Yf x.1 x.2.1 x.2.2.1⟩
def Qle : List (List Nat × Ann) := []
def Qit : List (List Nat × Nat) := []
noncomputable def Qiu : List Ctr := [E0]
noncomputable def Qlf (n : Nat) (a0 : (List Qj)) (a1 : Qt) (a2 : Qd) : Option Bool := run Tryz.prog Qle Qit (Qn Qiu) Tryz.f57 (Tryz.f57.body.getD .skip) (Qp [.bool]) n (Qu [(.list Qf), Qr, Qc] (a0, a1, a2, ()))
theorem Qrd (n : Nat) (a0 : (List Qj)) (a1 : Qt) (a2 : Qd) : Qlf n a0 a1 a2 =
  Option.bind (Zi a0 a2.2.2.1 a1.1) fun (y1 : Bool) =>
  bif y1 then
   Option.bind (Zi a0 a2.2.2.2.1 a1.2.1) fun (y2 : Bool) =>
   bif y2 then
    Option.bind (Zi a0 a2.2.2.2.2.1 a1.2.2.1) fun (y3 : Bool) =>
    some y3
   else
    some false
  else
   some false := by kernel_rfl
theorem Qxq (a0 : (List Qj)) (a1 : Qt) (a2 : Qd) {r : Bool} (h : Yf a0 a1 a2 = some r) : Ev (fun n => Qlf n a0 a1 a2) r := by
 rw [Yf] at h
 refine Ev.of_eq ?_ (fun n => Qrd n a0 a1 a2)
 exact (Ev.ofBind h fun y1 h => (Ev.ofBif h (fun h => (Ev.ofBind h fun y2 h => (Ev.ofBif h (fun h => (Ev.ofBind h fun y3 h => (Ev.ofSome h))) (fun h => (Ev.ofSome h))))) (fun h => (Ev.ofSome h))))
theorem Qtf : ∀ x ∈ Qiu, Qg Tryz.prog x := (Qb Qrc Qi)
theorem QvC : Qg Tryz.prog (Qdq) := by
 refine Qh (c := Qdq) (by kernel_rfl) (by kernel_rfl : Tryz.prog.funcs[57]? = some Tryz.f57) (code := Tryz.f57.body.getD .skip) (by kernel_rfl) (by kernel_rfl) (by kernel_rfl) (A := Qle) (I := Qit) (Qtf) ?_
 rintro ⟨a0, a1, a2, u⟩ y hy
 exact (Qxq a0 a1 a2 hy).get
noncomputable def JD (a0 : Qd) : Option Qd :=
 bif decide ((a0.2.2.2.2.2.length : Int) * 80 ≤ QI) && decide ((a0.2.2.2.2.2.length : Int) ≤ QI) then
  some (a0.1, a0.2.1, a0.2.2.1, a0.2.2.2.1, a0.2.2.2.2.1, a0.2.2.2.2.2)
 else none
noncomputable def HO : Ctr := ⟨58, [Qc], [Qc], fun x => JD x.1⟩
def QcT : List (List Nat × Ann) := []
def Qa0 : List (List Nat × Nat) := []
noncomputable def Qa1 : List Ctr := []
noncomputable def QcU (n : Nat) (a0 : Qd) : Option Qd := run Tryz.prog QcT Qa0 (Qn Qa1) Tryz.f58 (Tryz.f58.body.getD .skip) (Qp [Qc]) n (Qu [Qc] (a0, ()))
theorem Qiv (n : Nat) (a0 : Qd) : QcU n a0 =
  bif decide ((a0.2.2.2.2.2.length : Int) * 80 ≤ QI) && decide ((a0.2.2.2.2.2.length : Int) ≤ QI) then
   some (a0.1, a0.2.1, a0.2.2.1, a0.2.2.2.1, a0.2.2.2.2.1, a0.2.2.2.2.2)
  else none := by kernel_rfl
theorem Qnw (a0 : Qd) {r : Qd} (h : JD a0 = some r) : Ev (fun n => QcU n a0) r := by
 rw [JD] at h
 refine Ev.of_eq ?_ (fun n => Qiv n a0)
 exact (Ev.ofBif h (fun h => (Ev.ofSome h)) (fun h => (Ev.ofNone h)))
theorem Qkp : ∀ x ∈ Qa1, Qg Tryz.prog x := Qi
theorem Qma : Qg Tryz.prog (HO) := by
 refine Qh (c := HO) (by kernel_rfl) (by kernel_rfl : Tryz.prog.funcs[58]? = some Tryz.f58) (code := Tryz.f58.body.getD .skip) (by kernel_rfl) (by kernel_rfl) (by kernel_rfl) (A := QcT) (I := Qa0) (Qkp) ?_
 rintro ⟨a0, u⟩ y hy
 exact (Qnw a0 hy).get
noncomputable def QT (x1 : (List Qj)) (x6 : Qt) : List Qd → (List Qd) → Option (List Qd)
 | [], x2 =>
   some x2
 | e :: rest, x2 =>
   Option.bind (Yf x1 x6 (e)) fun (y2 : Bool) =>
   bif y2 then
    Option.bind (JD (e)) fun (y3 : Qd) =>
    bif decide (((x2.length : Int) + (([y3] : List Qd).length : Int)) * 264 ≤ QI) && decide ((x2.length : Int) + (([y3] : List Qd).length : Int) ≤ QI) then
     QT x1 x6 rest (x2 ++ ([y3] : List Qd))
    else none
   else
    QT x1 x6 rest x2
noncomputable def JE (a0 : (List Qj)) (a1 : Qt) (a2 : (List Qd)) : Option (List Qd) :=
 Option.bind (Xg a0 a1 a2) fun (y1 : Bool) =>
 bif !(y1) then
  some ([])
 else
  Jg a2 (QT a0 a1 a2 [])
noncomputable def HP : Ctr := ⟨20, [(.list Qf), Qr, (.list Qc)], [(.list Qc)], fun x => JE x.1 x.2.1 x.2.2.1⟩
def HQ : List (List Nat × Ann) := [([0, 5], [.keep 0 0, .keep 0 4, .own 0 7 Qc, .keep 0 15, .keep 0 16, .keep 0 17, .boxd 0 4 Qr])]
def X9 : List (List Nat × Nat) := []
noncomputable def Ha : List Ctr := [Qft, Qdq, HO]
noncomputable def QcV (n : Nat) (a0 : (List Qj)) (a1 : Qt) (a2 : (List Qd)) : Option (List Qd) := run Tryz.prog HQ X9 (Qn Ha) Tryz.f20 (Tryz.f20.body.getD .skip) (Qp [(.list Qc)]) n (Qu [(.list Qf), Qr, (.list Qc)] (a0, a1, a2, ()))
noncomputable abbrev Jk (n : Nat) (x1 : (List Qj)) (x2 : (List Qd)) (x3 : (List Qd)) (x4 : Int) (x5 : Int) (x6 : Qt) : Option (List Qd) := lam Tryz.prog HQ X9 (Qn Ha) Tryz.f20 (Tryz.f20.body.getD .skip) (Qp [(.list Qc)]) n [0, 5] [.d (.list Qf) x1, .ptr 0 4 0, .own 0 Qc x2, .d (.list Qc) x3, .d I64 x4, .d I64 x5, .agg (Qq Qr x6)]
theorem Qiw (n : Nat) (a0 : (List Qj)) (a1 : Qt) (a2 : (List Qd)) : QcV n a0 a1 a2 =
  Option.bind (Xg a0 a1 a2) fun (y1 : Bool) =>
  bif !(y1) then
   some ([])
  else
   Jk n a0 [] a2 (a2.length : Int) 0 a1 := by kernel_rfl
theorem Hn (n : Nat) (x1 : (List Qj)) (x2 : (List Qd)) (x3 : (List Qd)) (x4 : Int) (x5 : Int) (x6 : Qt) : Jk (n + 1) x1 x2 x3 x4 x5 x6 =
  bif decide (x5 < x4) then
   bif inB x5 x3.length then
    Option.bind (Yf x1 x6 (rd x3 x5 (Ty.dflt Qc))) fun (y2 : Bool) =>
    bif y2 then
     Option.bind (JD (rd x3 x5 (Ty.dflt Qc))) fun (y3 : Qd) =>
     bif decide (((x2.length : Int) + (([y3] : List Qd).length : Int)) * 264 ≤ QI) && decide ((x2.length : Int) + (([y3] : List Qd).length : Int) ≤ QI) then
      Jk n x1 (x2 ++ ([y3] : List Qd)) x3 x4 (IntKind.wrap .i64 (x5 + 1)) x6
     else none
    else
     Jk n x1 x2 x3 x4 (IntKind.wrap .i64 (x5 + 1)) x6
   else none
  else
   some x2 := by kernel_rfl
theorem Qhs {x1 : (List Qj)} {x3 : (List Qd)} {x6 : Qt} (hl : x3.length ≤ maxLen) : ∀ (rest : List Qd) (k : Nat) (x2 : (List Qd)) (r : (List Qd)), rest = x3.drop k → QT x1 x6 rest x2 = some r → Ev (fun n => Jk n x1 x2 x3 (x3.length : Int) (k : Int) x6) r := by
 intro rest
 induction rest with
 | nil =>
  intro k x2 r hr h
  have hk := QO hr
  rw [QT] at h
  refine Ev.step ?_ (fun n => Hn n x1 x2 x3 (x3.length : Int) (k : Int) x6)
  rw [show decide ((k : Int) < (x3.length : Int)) = false from decide_eq_false (by omega)]
  exact Ev.neg rfl (Ev.ofSome h)
 | cons e rest ih =>
  intro k x2 r hr h
  obtain ⟨hk, hx, hr2⟩ := QE (d := (Ty.dflt Qc)) hr
  have hw := QA hl hk
  have ih2 : ∀ (z2 : (List Qd)) (r : (List Qd)), QT x1 x6 rest z2 = some r → Ev (fun n => Jk n x1 z2 x3 (x3.length : Int) (IntKind.wrap .i64 ((k : Int) + 1)) x6) r := by
   intro z2 r h; rw [hw]; exact ih (k + 1) z2 r hr2 h
  rw [QT] at h
  refine Ev.step ?_ (fun n => Hn n x1 x2 x3 (x3.length : Int) (k : Int) x6)
  rw [show decide ((k : Int) < (x3.length : Int)) = true from decide_eq_true (by omega), QB hk, hx]
  exact Ev.pos rfl (Ev.pos rfl (Ev.ofBind h fun y2 h => (Ev.ofBif h (fun h => (Ev.ofBind h fun y3 h => (Ev.ofBif h (fun h => (ih2 _ _ h)) (fun h => (Ev.ofNone h))))) (fun h => (ih2 _ _ h)))))
theorem Qnx (a0 : (List Qj)) (a1 : Qt) (a2 : (List Qd)) {r : (List Qd)} (h : JE a0 a1 a2 = some r) : Ev (fun n => QcV n a0 a1 a2) r := by
 rw [JE] at h
 refine Ev.of_eq ?_ (fun n => Qiw n a0 a1 a2)
 exact (Ev.ofBind h fun y1 h => (Ev.ofBif h (fun h => (Ev.ofSome h)) (fun h => (Ev.ofLen h fun hl h => Qhs hl _ (0 : Nat) _ _ rfl h))))
theorem Qkq : ∀ x ∈ Ha, Qg Tryz.prog x := (Qb Qxl (Qb QvC (Qb Qma Qi)))
theorem Qmb : Qg Tryz.prog (HP) := by
 refine Qh (c := HP) (by kernel_rfl) (by kernel_rfl : Tryz.prog.funcs[20]? = some Tryz.f20) (code := Tryz.f20.body.getD .skip) (by kernel_rfl) (by kernel_rfl) (by kernel_rfl) (A := HQ) (I := X9) (Qkq) ?_
 rintro ⟨a0, a1, a2, u⟩ y hy
 exact (Qnx a0 a1 a2 hy).get
noncomputable def Jr : List Int → Option Bool
 | [] =>
   some true
 | e :: rest =>
   bif decide (e < 32) then
    some false
   else
    bif decide ((126 : Int) < e) then
     some false
    else
     Jr rest
noncomputable def Ji (a0 : (List Int)) (a1 : Int) (a2 : Int) : Option Bool :=
 bif decide ((a0.length : Int) < a1) then
  some false
 else
  bif decide (a2 < (a0.length : Int)) then
   some false
  else
   Jg a0 (Jr a0)
noncomputable def Wp : Ctr := ⟨128, [.str, I64, I64], [.bool], fun x => Ji x.1 x.2.1 x.2.2.1⟩
def Qdr : List (List Nat × Ann) := [([0, 4], [.keep 0 0, .keep 0 19, .keep 0 20])]
def QbE : List (List Nat × Nat) := []
noncomputable def QbF : List Ctr := []
noncomputable def Qlg (n : Nat) (a0 : (List Int)) (a1 : Int) (a2 : Int) : Option Bool := run Tryz.prog Qdr QbE (Qn QbF) Tryz.f128 (Tryz.f128.body.getD .skip) (Qp [.bool]) n (Qu [.str, I64, I64] (a0, a1, a2, ()))
noncomputable abbrev VF (n : Nat) (x1 : (List Int)) (x2 : Int) (x3 : Int) : Option Bool := lam Tryz.prog Qdr QbE (Qn QbF) Tryz.f128 (Tryz.f128.body.getD .skip) (Qp [.bool]) n [0, 4] [.d .str x1, .d I64 x2, .d I64 x3]
theorem Qre (n : Nat) (a0 : (List Int)) (a1 : Int) (a2 : Int) : Qlg n a0 a1 a2 =
  bif decide ((a0.length : Int) < a1) then
   some false
  else
   bif decide (a2 < (a0.length : Int)) then
    some false
   else
    VF n a0 (a0.length : Int) 0 := by kernel_rfl
theorem E1 (n : Nat) (x1 : (List Int)) (x2 : Int) (x3 : Int) : VF (n + 1) x1 x2 x3 =
  bif decide (x3 < x2) then
   bif inB x3 x1.length then
    bif decide (rd x1 x3 0 < 32) then
     some false
    else
     bif inB x3 x1.length then
      bif decide ((126 : Int) < rd x1 x3 0) then
       some false
      else
       VF n x1 x2 (IntKind.wrap .i64 (x3 + 1))
     else none
   else none
  else
   some true := by kernel_rfl
theorem Qo9 {x1 : (List Int)} (hl : x1.length ≤ maxLen) : ∀ (rest : List Int) (k : Nat) (r : Bool), rest = x1.drop k → Jr rest = some r → Ev (fun n => VF n x1 (x1.length : Int) (k : Int)) r := by
 intro rest
 induction rest with
 | nil =>
  intro k r hr h
  have hk := QO hr
  rw [Jr] at h
  refine Ev.step ?_ (fun n => E1 n x1 (x1.length : Int) (k : Int))
  rw [show decide ((k : Int) < (x1.length : Int)) = false from decide_eq_false (by omega)]
  exact Ev.neg rfl (Ev.ofSome h)
 | cons e rest ih =>
  intro k r hr h
  obtain ⟨hk, hx, hr2⟩ := QE (d := 0) hr
  have hw := QA hl hk
  have ih2 : ∀ (r : Bool), Jr rest = some r → Ev (fun n => VF n x1 (x1.length : Int) (IntKind.wrap .i64 ((k : Int) + 1))) r := by
   intro r h; rw [hw]; exact ih (k + 1) r hr2 h
  rw [Jr] at h
  refine Ev.step ?_ (fun n => E1 n x1 (x1.length : Int) (k : Int))
  rw [show decide ((k : Int) < (x1.length : Int)) = true from decide_eq_true (by omega), QB hk, hx]
  exact Ev.pos rfl (Ev.pos rfl (Ev.ofBif h (fun h => (Ev.ofSome h)) (fun h => (Ev.pos rfl (Ev.ofBif h (fun h => (Ev.ofSome h)) (fun h => (ih2  _ h)))))))
theorem Qxr (a0 : (List Int)) (a1 : Int) (a2 : Int) {r : Bool} (h : Ji a0 a1 a2 = some r) : Ev (fun n => Qlg n a0 a1 a2) r := by
 rw [Ji] at h
 refine Ev.of_eq ?_ (fun n => Qre n a0 a1 a2)
 exact (Ev.ofBif h (fun h => (Ev.ofSome h)) (fun h => (Ev.ofBif h (fun h => (Ev.ofSome h)) (fun h => (Ev.ofLen h fun hl h => Qo9 hl _ (0 : Nat) _ rfl h)))))
theorem Qtg : ∀ x ∈ QbF, Qg Tryz.prog x := Qi
theorem Qix : Qg Tryz.prog (Wp) := by
 refine Qh (c := Wp) (by kernel_rfl) (by kernel_rfl : Tryz.prog.funcs[128]? = some Tryz.f128) (code := Tryz.f128.body.getD .skip) (by kernel_rfl) (by kernel_rfl) (by kernel_rfl) (A := Qdr) (I := QbE) (Qtg) ?_
 rintro ⟨a0, a1, a2, u⟩ y hy
 exact (Qxr a0 a1 a2 hy).get
noncomputable def VN (a0 : Int) : Bool :=
 bif decide ((48 : Int) ≤ a0) then
  decide (a0 ≤ 57)
 else
  false
noncomputable def QcC : Ctr := ⟨150, [U8], [.bool], fun x => some (VN x.1)⟩
def Qp0 : List (List Nat × Ann) := []
def Qny : List (List Nat × Nat) := []
noncomputable def Qnz : List Ctr := []
noncomputable def Qp1 (n : Nat) (a0 : Int) : Option Bool := run Tryz.prog Qp0 Qny (Qn Qnz) Tryz.f150 (Tryz.f150.body.getD .skip) (Qp [.bool]) n (Qu [U8] (a0, ()))
theorem QvD (n : Nat) (a0 : Int) : Qp1 n a0 =
  bif decide ((48 : Int) ≤ a0) then
   some (decide (a0 ≤ 57))
  else
   some false := by kernel_rfl
theorem QAB (n : Nat) (a0 : Int) : Qp1 n a0 = some (VN a0) := (QvD n a0).trans (ZI rfl rfl)
theorem Qxs : ∀ x ∈ Qnz, Qg Tryz.prog x := Qi
theorem QnA : Qg Tryz.prog (QcC) := by
 refine Qh (c := QcC) (by kernel_rfl) (by kernel_rfl : Tryz.prog.funcs[150]? = some Tryz.f150) (code := Tryz.f150.body.getD .skip) (by kernel_rfl) (by kernel_rfl) (by kernel_rfl) (A := Qp0) (I := Qny) (Qxs) ?_
 rintro ⟨a0, u⟩ y hy
 exact ⟨0, (QAB 0 a0).trans hy⟩
noncomputable def Xi (a0 : Int) : Bool :=
 bif decide ((97 : Int) ≤ a0) then
  bif decide (a0 ≤ 122) then
   true
  else
   bif decide ((65 : Int) ≤ a0) then
    decide (a0 ≤ 90)
   else
    false
 else
  bif decide ((65 : Int) ≤ a0) then
   decide (a0 ≤ 90)
  else
   false
noncomputable def Qfy : Ctr := ⟨152, [U8], [.bool], fun x => some (Xi x.1)⟩
def QnB : List (List Nat × Ann) := []
def Qlh : List (List Nat × Nat) := []
noncomputable def Qli : List Ctr := []
noncomputable def QnC (n : Nat) (a0 : Int) : Option Bool := run Tryz.prog QnB Qlh (Qn Qli) Tryz.f152 (Tryz.f152.body.getD .skip) (Qp [.bool]) n (Qu [U8] (a0, ()))
theorem Qth (n : Nat) (a0 : Int) : QnC n a0 =
  bif decide ((97 : Int) ≤ a0) then
   bif decide (a0 ≤ 122) then
    some true
   else
    bif decide ((65 : Int) ≤ a0) then
     some (decide (a0 ≤ 90))
    else
     some false
  else
   bif decide ((65 : Int) ≤ a0) then
    some (decide (a0 ≤ 90))
   else
    some false := by kernel_rfl
theorem QzE (n : Nat) (a0 : Int) : QnC n a0 = some (Xi a0) := (Qth n a0).trans (ZI (ZI rfl (ZI rfl rfl)) (ZI rfl rfl))
theorem QvE : ∀ x ∈ Qli, Qg Tryz.prog x := Qi
theorem Qxt : Qg Tryz.prog (Qfy) := by
 refine Qh (c := Qfy) (by kernel_rfl) (by kernel_rfl : Tryz.prog.funcs[152]? = some Tryz.f152) (code := Tryz.f152.body.getD .skip) (by kernel_rfl) (by kernel_rfl) (by kernel_rfl) (A := QnB) (I := Qlh) (QvE) ?_
 rintro ⟨a0, u⟩ y hy
 exact ⟨0, (QzE 0 a0).trans hy⟩
noncomputable def Ys (a0 : Int) : Bool :=
 bif Xi a0 then
  true
 else
  bif VN a0 then
   true
  else
   decide (a0 = 95)
noncomputable def Ul : Ctr := ⟨138, [U8], [.bool], fun x => some (Ys x.1)⟩
def Qiy : List (List Nat × Ann) := []
def QgJ : List (List Nat × Nat) := []
noncomputable def QgK : List Ctr := [Qfy, QcC]
noncomputable def Qiz (n : Nat) (a0 : Int) : Option Bool := run Tryz.prog Qiy QgJ (Qn QgK) Tryz.f138 (Tryz.f138.body.getD .skip) (Qp [.bool]) n (Qu [U8] (a0, ()))
theorem Qpa (n : Nat) (a0 : Int) : Qiz n a0 =
  bif Xi a0 then
   some true
  else
   bif VN a0 then
    some true
   else
    some (decide (a0 = 95)) := by kernel_rfl
theorem QvF (n : Nat) (a0 : Int) : Qiz n a0 = some (Ys a0) := (Qpa n a0).trans (ZI rfl (ZI rfl rfl))
theorem Qrf : ∀ x ∈ QgK, Qg Tryz.prog x := (Qb Qxt (Qb QnA Qi))
theorem QgL : Qg Tryz.prog (Ul) := by
 refine Qh (c := Ul) (by kernel_rfl) (by kernel_rfl : Tryz.prog.funcs[138]? = some Tryz.f138) (code := Tryz.f138.body.getD .skip) (by kernel_rfl) (by kernel_rfl) (by kernel_rfl) (A := Qiy) (I := QgJ) (Qrf) ?_
 rintro ⟨a0, u⟩ y hy
 exact ⟨0, (QvF 0 a0).trans hy⟩
noncomputable def Js : List Int → Option Bool
 | [] =>
   some true
 | e :: rest =>
   bif !(Ys (e)) then
    some false
   else
    Js rest
noncomputable def Zv (a0 : (List Int)) : Option Bool :=
 bif decide (a0 = ([] : List Int)) then
  some false
 else
  bif decide ((30 : Int) < (a0.length : Int)) then
   some false
  else
   bif inB 0 a0.length then
    bif VN (rd a0 0 0) then
     some false
    else
     Jg a0 (Js a0)
   else none
noncomputable def Gp : Ctr := ⟨129, [.str], [.bool], fun x => Zv x.1⟩
def Qds : List (List Nat × Ann) := [([0, 4], [.keep 0 0, .keep 0 17, .keep 0 18])]
def QbG : List (List Nat × Nat) := []
noncomputable def QbH : List Ctr := [QcC, Ul]
noncomputable def Qlj (n : Nat) (a0 : (List Int)) : Option Bool := run Tryz.prog Qds QbG (Qn QbH) Tryz.f129 (Tryz.f129.body.getD .skip) (Qp [.bool]) n (Qu [.str] (a0, ()))
noncomputable abbrev VG (n : Nat) (x1 : (List Int)) (x2 : Int) (x3 : Int) : Option Bool := lam Tryz.prog Qds QbG (Qn QbH) Tryz.f129 (Tryz.f129.body.getD .skip) (Qp [.bool]) n [0, 4] [.d .str x1, .d I64 x2, .d I64 x3]
theorem Qrg (n : Nat) (a0 : (List Int)) : Qlj n a0 =
  bif decide (a0 = ([] : List Int)) then
   some false
  else
   bif decide ((30 : Int) < (a0.length : Int)) then
    some false
   else
    bif inB 0 a0.length then
     bif VN (rd a0 0 0) then
      some false
     else
      VG n a0 (a0.length : Int) 0
    else none := by kernel_rfl
theorem E2 (n : Nat) (x1 : (List Int)) (x2 : Int) (x3 : Int) : VG (n + 1) x1 x2 x3 =
  bif decide (x3 < x2) then
   bif inB x3 x1.length then
    bif !(Ys (rd x1 x3 0)) then
     some false
    else
     VG n x1 x2 (IntKind.wrap .i64 (x3 + 1))
   else none
  else
   some true := by kernel_rfl
theorem Qpb {x1 : (List Int)} (hl : x1.length ≤ maxLen) : ∀ (rest : List Int) (k : Nat) (r : Bool), rest = x1.drop k → Js rest = some r → Ev (fun n => VG n x1 (x1.length : Int) (k : Int)) r := by
 intro rest
 induction rest with
 | nil =>
  intro k r hr h
  have hk := QO hr
  rw [Js] at h
  refine Ev.step ?_ (fun n => E2 n x1 (x1.length : Int) (k : Int))
  rw [show decide ((k : Int) < (x1.length : Int)) = false from decide_eq_false (by omega)]
  exact Ev.neg rfl (Ev.ofSome h)
 | cons e rest ih =>
  intro k r hr h
  obtain ⟨hk, hx, hr2⟩ := QE (d := 0) hr
  have hw := QA hl hk
  have ih2 : ∀ (r : Bool), Js rest = some r → Ev (fun n => VG n x1 (x1.length : Int) (IntKind.wrap .i64 ((k : Int) + 1))) r := by
   intro r h; rw [hw]; exact ih (k + 1) r hr2 h
  rw [Js] at h
  refine Ev.step ?_ (fun n => E2 n x1 (x1.length : Int) (k : Int))
  rw [show decide ((k : Int) < (x1.length : Int)) = true from decide_eq_true (by omega), QB hk, hx]
  exact Ev.pos rfl (Ev.pos rfl (Ev.ofBif h (fun h => (Ev.ofSome h)) (fun h => (ih2  _ h))))
theorem Qxu (a0 : (List Int)) {r : Bool} (h : Zv a0 = some r) : Ev (fun n => Qlj n a0) r := by
 rw [Zv] at h
 refine Ev.of_eq ?_ (fun n => Qrg n a0)
 exact (Ev.ofBif h (fun h => (Ev.ofSome h)) (fun h => (Ev.ofBif h (fun h => (Ev.ofSome h)) (fun h => (Ev.ofBif h (fun h => (Ev.ofBif h (fun h => (Ev.ofSome h)) (fun h => (Ev.ofLen h fun hl h => Qpb hl _ (0 : Nat) _ rfl h)))) (fun h => (Ev.ofNone h)))))))
theorem Qti : ∀ x ∈ QbH, Qg Tryz.prog x := (Qb QnA (Qb QgL Qi))
theorem Um : Qg Tryz.prog (Gp) := by
 refine Qh (c := Gp) (by kernel_rfl) (by kernel_rfl : Tryz.prog.funcs[129]? = some Tryz.f129) (code := Tryz.f129.body.getD .skip) (by kernel_rfl) (by kernel_rfl) (by kernel_rfl) (A := Qds) (I := QbG) (Qti) ?_
 rintro ⟨a0, u⟩ y hy
 exact (Qxu a0 hy).get
noncomputable def VH (x1 : Bool) (x2 : Int) (x3 : Bool) (x4 : Qe) : Option Bool :=
 bif x3 then
  some x1
 else
  bif decide (x2 = 3) then
   bif decide (x4.2.1 = 0) then
    bif decide (x4.2.2.2 = ([] : List Int)) then
     Option.bind (Ji x4.2.2.1 0 200) fun (y1 : Bool) =>
     some y1
    else
     some false
   else
    some false
  else
   bif decide (x2 = 4) then
    bif decide (x4.2.1 = 0) then
     Option.bind (Zv x4.2.2.2) fun (y2 : Bool) =>
     bif y2 then
      Option.bind (Ji x4.2.2.1 1 200) fun (y3 : Bool) =>
      some y3
     else
      some false
    else
     some false
   else
    bif decide (x2 = 6) then
     bif !(x1) then
      some false
     else
      bif decide (x4.2.1 < 0) then
       some false
      else
       bif decide (Int.tmod x4.2.1 64 ≤ 32) then
        bif decide (IntKind.wrap .i64 (Int.tdiv x4.2.1 64) < 4294967296) then
         bif decide ((0 : Int) ≤ IntKind.wrap .i64 (32 - (Int.tmod x4.2.1 64))) then
          bif decide (IntKind.wrap .i64 (1 * 2 ^ (min (Int.toNat (IntKind.wrap .i64 (32 - (Int.tmod x4.2.1 64)))) 64)) = 0) then none else
          some (decide (Int.tmod (IntKind.wrap .i64 (Int.tdiv x4.2.1 64)) (IntKind.wrap .i64 (1 * 2 ^ (min (Int.toNat (IntKind.wrap .i64 (32 - (Int.tmod x4.2.1 64)))) 64))) = 0))
         else none
        else
         some false
       else
        some false
    else
     bif decide (x2 = 7) then
      bif x1 then
       bif decide (((-100000000000) : Int) ≤ x4.2.1) then
        some (decide (x4.2.1 ≤ 100000000000))
       else
        some false
      else
       some false
     else
      some false
noncomputable def VI (x1 : Bool) (x2 : Qe) : Option Bool :=
 bif decide (x2.1 = 1) then
  bif x1 then
   bif decide (x2.2.1 = 0) then
    some true
   else
    some (decide (x2.2.1 = 1))
  else
   some false
 else
  bif decide (x2.1 = 2) then
   VH x1 x2.1 (decide (x2.1 = 2)) x2
  else
   VH x1 x2.1 (decide (x2.1 = 5)) x2
noncomputable def Zb (a0 : Qe) : Option Bool :=
 bif decide (a0.2.2.1 = ([] : List Int)) then
  VI (decide (a0.2.2.2 = ([] : List Int))) a0
 else
  VI false a0
noncomputable def Gq : Ctr := ⟨103, [Qa], [.bool], fun x => Zb x.1⟩
def Wq : List (List Nat × Ann) := [([1, 2], [.keep 0 1, .keep 0 3, .boxd 0 1 Qa]), ([1, 7], [.keep 0 1, .keep 0 3, .keep 0 15, .keep 0 29, .boxd 0 1 Qa])]
def Un : List (List Nat × Nat) := []
noncomputable def Uo : List Ctr := [Wp, Gp]
noncomputable def Qlk (n : Nat) (a0 : Qe) : Option Bool := run Tryz.prog Wq Un (Qn Uo) Tryz.f103 (Tryz.f103.body.getD .skip) (Qp [.bool]) n (Qu [Qa] (a0, ()))
noncomputable abbrev GZ (n : Nat) (x1 : Bool) (x2 : Qe) : Option Bool := lam Tryz.prog Wq Un (Qn Uo) Tryz.f103 (Tryz.f103.body.getD .skip) (Qp [.bool]) n [1, 2] [.ptr 0 1 0, .d .bool x1, .agg (Qq Qa x2)]
noncomputable abbrev G0 (n : Nat) (x1 : Bool) (x2 : Int) (x3 : Bool) (x4 : Qe) : Option Bool := lam Tryz.prog Wq Un (Qn Uo) Tryz.f103 (Tryz.f103.body.getD .skip) (Qp [.bool]) n [1, 7] [.ptr 0 1 0, .d .bool x1, .d I64 x2, .d .bool x3, .agg (Qq Qa x4)]
theorem Qrh (n : Nat) (a0 : Qe) : Qlk n a0 =
  bif decide (a0.2.2.1 = ([] : List Int)) then
   GZ n (decide (a0.2.2.2 = ([] : List Int))) a0
  else
   GZ n false a0 := by kernel_rfl
theorem Qkr (n : Nat) (x1 : Bool) (x2 : Qe) : GZ (n + 1) x1 x2 =
  bif decide (x2.1 = 1) then
   bif x1 then
    bif decide (x2.2.1 = 0) then
     some true
    else
     some (decide (x2.2.1 = 1))
   else
    some false
  else
   bif decide (x2.1 = 2) then
    G0 n x1 x2.1 (decide (x2.1 = 2)) x2
   else
    G0 n x1 x2.1 (decide (x2.1 = 5)) x2 := by kernel_rfl
theorem Qks (n : Nat) (x1 : Bool) (x2 : Int) (x3 : Bool) (x4 : Qe) : G0 (n + 1) x1 x2 x3 x4 =
  bif x3 then
   some x1
  else
   bif decide (x2 = 3) then
    bif decide (x4.2.1 = 0) then
     bif decide (x4.2.2.2 = ([] : List Int)) then
      Option.bind (Ji x4.2.2.1 0 200) fun (y1 : Bool) =>
      some y1
     else
      some false
    else
     some false
   else
    bif decide (x2 = 4) then
     bif decide (x4.2.1 = 0) then
      Option.bind (Zv x4.2.2.2) fun (y2 : Bool) =>
      bif y2 then
       Option.bind (Ji x4.2.2.1 1 200) fun (y3 : Bool) =>
       some y3
      else
       some false
     else
      some false
    else
     bif decide (x2 = 6) then
      bif !(x1) then
       some false
      else
       bif decide (x4.2.1 < 0) then
        some false
       else
        bif decide (Int.tmod x4.2.1 64 ≤ 32) then
         bif decide (IntKind.wrap .i64 (Int.tdiv x4.2.1 64) < 4294967296) then
          bif decide ((0 : Int) ≤ IntKind.wrap .i64 (32 - (Int.tmod x4.2.1 64))) then
           bif decide (IntKind.wrap .i64 (1 * 2 ^ (min (Int.toNat (IntKind.wrap .i64 (32 - (Int.tmod x4.2.1 64)))) 64)) = 0) then none else
           some (decide (Int.tmod (IntKind.wrap .i64 (Int.tdiv x4.2.1 64)) (IntKind.wrap .i64 (1 * 2 ^ (min (Int.toNat (IntKind.wrap .i64 (32 - (Int.tmod x4.2.1 64)))) 64))) = 0))
          else none
         else
          some false
        else
         some false
     else
      bif decide (x2 = 7) then
       bif x1 then
        bif decide (((-100000000000) : Int) ≤ x4.2.1) then
         some (decide (x4.2.1 ≤ 100000000000))
        else
         some false
       else
        some false
      else
       some false := by kernel_rfl
theorem Qeg {x1 : Bool} {x2 : Int} {x3 : Bool} {x4 : Qe} {r : Bool} (h : VH x1 x2 x3 x4 = some r) : Ev (fun n => G0 n x1 x2 x3 x4) r := by
 rw [VH] at h
 refine Ev.step ?_ (fun n => Qks n x1 x2 x3 x4)
 exact (Ev.ofBif h (fun h => (Ev.ofSome h)) (fun h => (Ev.ofBif h (fun h => (Ev.ofBif h (fun h => (Ev.ofBif h (fun h => (Ev.ofBind h fun y1 h => (Ev.ofSome h))) (fun h => (Ev.ofSome h)))) (fun h => (Ev.ofSome h)))) (fun h => (Ev.ofBif h (fun h => (Ev.ofBif h (fun h => (Ev.ofBind h fun y2 h => (Ev.ofBif h (fun h => (Ev.ofBind h fun y3 h => (Ev.ofSome h))) (fun h => (Ev.ofSome h))))) (fun h => (Ev.ofSome h)))) (fun h => (Ev.ofBif h (fun h => (Ev.ofBif h (fun h => (Ev.ofSome h)) (fun h => (Ev.ofBif h (fun h => (Ev.ofSome h)) (fun h => (Ev.ofBif h (fun h => (Ev.ofBif h (fun h => (Ev.ofBif h (fun h => (Ev.ofBif h (fun h => (Ev.ofNone h)) (fun h => (Ev.ofSome h)))) (fun h => (Ev.ofNone h)))) (fun h => (Ev.ofSome h)))) (fun h => (Ev.ofSome h)))))))) (fun h => (Ev.ofBif h (fun h => (Ev.ofBif h (fun h => (Ev.ofBif h (fun h => (Ev.ofSome h)) (fun h => (Ev.ofSome h)))) (fun h => (Ev.ofSome h)))) (fun h => (Ev.ofSome h)))))))))))
theorem Qeh {x1 : Bool} {x2 : Qe} {r : Bool} (h : VI x1 x2 = some r) : Ev (fun n => GZ n x1 x2) r := by
 rw [VI] at h
 refine Ev.step ?_ (fun n => Qkr n x1 x2)
 exact (Ev.ofBif h (fun h => (Ev.ofBif h (fun h => (Ev.ofBif h (fun h => (Ev.ofSome h)) (fun h => (Ev.ofSome h)))) (fun h => (Ev.ofSome h)))) (fun h => (Ev.ofBif h (fun h => (Qeg h)) (fun h => (Qeg h)))))
theorem Qxv (a0 : Qe) {r : Bool} (h : Zb a0 = some r) : Ev (fun n => Qlk n a0) r := by
 rw [Zb] at h
 refine Ev.of_eq ?_ (fun n => Qrh n a0)
 exact (Ev.ofBif h (fun h => (Qeh h)) (fun h => (Qeh h)))
theorem Qtj : ∀ x ∈ Uo, Qg Tryz.prog x := (Qb Qix (Qb Um Qi))
theorem Up : Qg Tryz.prog (Gq) := by
 refine Qh (c := Gq) (by kernel_rfl) (by kernel_rfl : Tryz.prog.funcs[103]? = some Tryz.f103) (code := Tryz.f103.body.getD .skip) (by kernel_rfl) (by kernel_rfl) (by kernel_rfl) (A := Wq) (I := Un) (Qtj) ?_
 rintro ⟨a0, u⟩ y hy
 exact (Qxv a0 hy).get
noncomputable def Zc (a0 : Qe) : Option Bool :=
 bif decide (a0.1 = 4) then
  Option.bind (Zb a0) fun (y1 : Bool) =>
  some y1
 else
  some false
noncomputable def XT : Ctr := ⟨75, [Qa], [.bool], fun x => Zc x.1⟩
def Qll : List (List Nat × Ann) := []
def QiA : List (List Nat × Nat) := []
noncomputable def QiB : List Ctr := [Gq]
noncomputable def Qlm (n : Nat) (a0 : Qe) : Option Bool := run Tryz.prog Qll QiA (Qn QiB) Tryz.f75 (Tryz.f75.body.getD .skip) (Qp [.bool]) n (Qu [Qa] (a0, ()))
theorem Qri (n : Nat) (a0 : Qe) : Qlm n a0 =
  bif decide (a0.1 = 4) then
   Option.bind (Zb a0) fun (y1 : Bool) =>
   some y1
  else
   some false := by kernel_rfl
theorem Qxw (a0 : Qe) {r : Bool} (h : Zc a0 = some r) : Ev (fun n => Qlm n a0) r := by
 rw [Zc] at h
 refine Ev.of_eq ?_ (fun n => Qri n a0)
 exact (Ev.ofBif h (fun h => (Ev.ofBind h fun y1 h => (Ev.ofSome h))) (fun h => (Ev.ofSome h)))
theorem Qtk : ∀ x ∈ QiB, Qg Tryz.prog x := (Qb Up Qi)
theorem QbI : Qg Tryz.prog (XT) := by
 refine Qh (c := XT) (by kernel_rfl) (by kernel_rfl : Tryz.prog.funcs[75]? = some Tryz.f75) (code := Tryz.f75.body.getD .skip) (by kernel_rfl) (by kernel_rfl) (by kernel_rfl) (A := Qll) (I := QiA) (Qtk) ?_
 rintro ⟨a0, u⟩ y hy
 exact (Qxw a0 hy).get
noncomputable def Yg (a0 : Int) : Bool :=
 !decide (a0 = a0)
noncomputable def Qdt : Ctr := ⟨130, [I64], [.bool], fun x => some (Yg x.1)⟩
def Qln : List (List Nat × Ann) := []
def QiC : List (List Nat × Nat) := []
noncomputable def QiD : List Ctr := []
noncomputable def Qlo (n : Nat) (a0 : Int) : Option Bool := run Tryz.prog Qln QiC (Qn QiD) Tryz.f130 (Tryz.f130.body.getD .skip) (Qp [.bool]) n (Qu [I64] (a0, ()))
theorem Qrj (n : Nat) (a0 : Int) : Qlo n a0 =
  some (!decide (a0 = a0)) := by kernel_rfl
theorem Qxx (n : Nat) (a0 : Int) : Qlo n a0 = some (Yg a0) := (Qrj n a0).trans rfl
theorem Qtl : ∀ x ∈ QiD, Qg Tryz.prog x := Qi
theorem QvG : Qg Tryz.prog (Qdt) := by
 refine Qh (c := Qdt) (by kernel_rfl) (by kernel_rfl : Tryz.prog.funcs[130]? = some Tryz.f130) (code := Tryz.f130.body.getD .skip) (by kernel_rfl) (by kernel_rfl) (by kernel_rfl) (A := Qln) (I := QiC) (Qtl) ?_
 rintro ⟨a0, u⟩ y hy
 exact ⟨0, (Qxx 0 a0).trans hy⟩
noncomputable def J0 (a0 : Int) (a1 : Int) : Int :=
 bif Yg a0 then
  bif Yg a1 then
   0
  else
   (-1)
 else
  bif Yg a1 then
   1
  else
   bif decide (a0 < a1) then
    (-1)
   else
    bif decide (a1 < a0) then
     1
    else
     0
noncomputable def E3 : Ctr := ⟨105, [I64, I64], [I64], fun x => some (J0 x.1 x.2.1)⟩
def QgM : List (List Nat × Ann) := []
def Qfz : List (List Nat × Nat) := []
noncomputable def QfA : List Ctr := [Qdt]
noncomputable def QgN (n : Nat) (a0 : Int) (a1 : Int) : Option Int := run Tryz.prog QgM Qfz (Qn QfA) Tryz.f105 (Tryz.f105.body.getD .skip) (Qp [I64]) n (Qu [I64, I64] (a0, a1, ()))
theorem QnD (n : Nat) (a0 : Int) (a1 : Int) : QgN n a0 a1 =
  bif Yg a0 then
   bif Yg a1 then
    some 0
   else
    some (-1)
  else
   bif Yg a1 then
    some 1
   else
    bif decide (a0 < a1) then
     some (-1)
    else
     bif decide (a1 < a0) then
      some 1
     else
      some 0 := by kernel_rfl
theorem Qtm (n : Nat) (a0 : Int) (a1 : Int) : QgN n a0 a1 = some (J0 a0 a1) := (QnD n a0 a1).trans (ZI (ZI rfl rfl) (ZI rfl (ZI rfl (ZI rfl rfl))))
theorem Qpc : ∀ x ∈ QfA, Qg Tryz.prog x := (Qb QvG Qi)
theorem Qrk : Qg Tryz.prog (E3) := by
 refine Qh (c := E3) (by kernel_rfl) (by kernel_rfl : Tryz.prog.funcs[105]? = some Tryz.f105) (code := Tryz.f105.body.getD .skip) (by kernel_rfl) (by kernel_rfl) (by kernel_rfl) (A := QgM) (I := Qfz) (Qpc) ?_
 rintro ⟨a0, a1, u⟩ y hy
 exact ⟨0, (Qtm 0 a0 a1).trans hy⟩
noncomputable def Jc (a0 : (List Int)) : Bool :=
 !decide (a0 = a0)
noncomputable def WP : Ctr := ⟨131, [.str], [.bool], fun x => some (Jc x.1)⟩
def QfB : List (List Nat × Ann) := []
def Qei : List (List Nat × Nat) := []
noncomputable def Qej : List Ctr := []
noncomputable def QfC (n : Nat) (a0 : (List Int)) : Option Bool := run Tryz.prog QfB Qei (Qn Qej) Tryz.f131 (Tryz.f131.body.getD .skip) (Qp [.bool]) n (Qu [.str] (a0, ()))
theorem Qmc (n : Nat) (a0 : (List Int)) : QfC n a0 =
  some (!decide (a0 = a0)) := by kernel_rfl
theorem Qrl (n : Nat) (a0 : (List Int)) : QfC n a0 = some (Jc a0) := (Qmc n a0).trans rfl
theorem QnE : ∀ x ∈ Qej, Qg Tryz.prog x := Qi
theorem Qpd : Qg Tryz.prog (WP) := by
 refine Qh (c := WP) (by kernel_rfl) (by kernel_rfl : Tryz.prog.funcs[131]? = some Tryz.f131) (code := Tryz.f131.body.getD .skip) (by kernel_rfl) (by kernel_rfl) (by kernel_rfl) (A := QfB) (I := Qei) (QnE) ?_
 rintro ⟨a0, u⟩ y hy
 exact ⟨0, (Qrl 0 a0).trans hy⟩
noncomputable def Z2 (a0 : (List Int)) (a1 : (List Int)) : Int :=
 bif Jc a0 then
  bif Jc a1 then
   0
  else
   (-1)
 else
  bif Jc a1 then
   1
  else
   bif Jn a0 a1 then
    (-1)
   else
    bif Jn a1 a0 then
     1
    else
     0
noncomputable def HR : Ctr := ⟨106, [.str, .str], [I64], fun x => some (Z2 x.1 x.2.1)⟩
def QcW : List (List Nat × Ann) := []
def Qa2 : List (List Nat × Nat) := []
noncomputable def Qa3 : List Ctr := [WP]
noncomputable def QcX (n : Nat) (a0 : (List Int)) (a1 : (List Int)) : Option Int := run Tryz.prog QcW Qa2 (Qn Qa3) Tryz.f106 (Tryz.f106.body.getD .skip) (Qp [I64]) n (Qu [.str, .str] (a0, a1, ()))
theorem QiE (n : Nat) (a0 : (List Int)) (a1 : (List Int)) : QcX n a0 a1 =
  bif Jc a0 then
   bif Jc a1 then
    some 0
   else
    some (-1)
  else
   bif Jc a1 then
    some 1
   else
    bif Jn a0 a1 then
     some (-1)
    else
     bif Jn a1 a0 then
      some 1
     else
      some 0 := by kernel_rfl
theorem QnF (n : Nat) (a0 : (List Int)) (a1 : (List Int)) : QcX n a0 a1 = some (Z2 a0 a1) := (QiE n a0 a1).trans (ZI (ZI rfl rfl) (ZI rfl (ZI rfl (ZI rfl rfl))))
theorem Qkt : ∀ x ∈ Qa3, Qg Tryz.prog x := (Qb Qpd Qi)
theorem Qmd : Qg Tryz.prog (HR) := by
 refine Qh (c := HR) (by kernel_rfl) (by kernel_rfl : Tryz.prog.funcs[106]? = some Tryz.f106) (code := Tryz.f106.body.getD .skip) (by kernel_rfl) (by kernel_rfl) (by kernel_rfl) (A := QcW) (I := Qa2) (Qkt) ?_
 rintro ⟨a0, a1, u⟩ y hy
 exact ⟨0, (QnF 0 a0 a1).trans hy⟩
noncomputable def YX : List Int → Option Int
 | [] =>
   some (0 : Int)
 | e :: rest =>
   bif !decide (e = (0 : Int)) then
    some e
   else
    YX rest
noncomputable def Uq (a0 : (List Int)) : Option Int :=
 Jg a0 (YX a0)
noncomputable def Qku : Ctr := ⟨104, [(.list I64)], [I64], fun x => Uq x.1⟩
def Qkv : List (List Nat × Ann) := [([0, 3], [.keep 0 3, .keep 0 6, .keep 0 7, .keep 0 8])]
def Qht : List (List Nat × Nat) := []
noncomputable def Qhu : List Ctr := []
noncomputable def Qtn (n : Nat) (a0 : (List Int)) : Option Int := run Tryz.prog Qkv Qht (Qn Qhu) Tryz.f104 (Tryz.f104.body.getD .skip) (Qp [I64]) n (Qu [(.list I64)] (a0, ()))
noncomputable abbrev Xj (n : Nat) (x1 : Int) (x2 : (List Int)) (x3 : Int) (x4 : Int) : Option Int := lam Tryz.prog Qkv Qht (Qn Qhu) Tryz.f104 (Tryz.f104.body.getD .skip) (Qp [I64]) n [0, 3] [.d I64 x1, .d (.list I64) x2, .d I64 x3, .d I64 x4]
theorem Qxy (n : Nat) (a0 : (List Int)) : Qtn n a0 =
  Xj n 0 a0 (a0.length : Int) 0 := by kernel_rfl
theorem Qek (n : Nat) (x1 : Int) (x2 : (List Int)) (x3 : Int) (x4 : Int) : Xj (n + 1) x1 x2 x3 x4 =
  bif decide (x4 < x3) then
   bif inB x4 x2.length then
    bif !decide (rd x2 x4 (Ty.dflt I64) = x1) then
     some (rd x2 x4 (Ty.dflt I64))
    else
     Xj n x1 x2 x3 (IntKind.wrap .i64 (x4 + 1))
   else none
  else
   some x1 := by kernel_rfl
theorem QvH {x2 : (List Int)} (hl : x2.length ≤ maxLen) : ∀ (rest : List Int) (k : Nat) (r : Int), rest = x2.drop k → YX rest = some r → Ev (fun n => Xj n (0 : Int) x2 (x2.length : Int) (k : Int)) r := by
 intro rest
 induction rest with
 | nil =>
  intro k r hr h
  have hk := QO hr
  rw [YX] at h
  refine Ev.step ?_ (fun n => Qek n (0 : Int) x2 (x2.length : Int) (k : Int))
  rw [show decide ((k : Int) < (x2.length : Int)) = false from decide_eq_false (by omega)]
  exact Ev.neg rfl (Ev.ofSome h)
 | cons e rest ih =>
  intro k r hr h
  obtain ⟨hk, hx, hr2⟩ := QE (d := (Ty.dflt I64)) hr
  have hw := QA hl hk
  have ih2 : ∀ (r : Int), YX rest = some r → Ev (fun n => Xj n (0 : Int) x2 (x2.length : Int) (IntKind.wrap .i64 ((k : Int) + 1))) r := by
   intro r h; rw [hw]; exact ih (k + 1) r hr2 h
  rw [YX] at h
  refine Ev.step ?_ (fun n => Qek n (0 : Int) x2 (x2.length : Int) (k : Int))
  rw [show decide ((k : Int) < (x2.length : Int)) = true from decide_eq_true (by omega), QB hk, hx]
  exact Ev.pos rfl (Ev.pos rfl (Ev.ofBif h (fun h => (Ev.ofSome h)) (fun h => (ih2  _ h))))
theorem QB0 (a0 : (List Int)) {r : Int} (h : Uq a0 = some r) : Ev (fun n => Qtn n a0) r := by
 rw [Uq] at h
 refine Ev.of_eq ?_ (fun n => Qxy n a0)
 exact (Ev.ofLen h fun hl h => QvH hl _ (0 : Nat) _ rfl h)
theorem QzF : ∀ x ∈ Qhu, Qg Tryz.prog x := Qi
theorem QAC : Qg Tryz.prog (Qku) := by
 refine Qh (c := Qku) (by kernel_rfl) (by kernel_rfl : Tryz.prog.funcs[104]? = some Tryz.f104) (code := Tryz.f104.body.getD .skip) (by kernel_rfl) (by kernel_rfl) (by kernel_rfl) (A := Qkv) (I := Qht) (QzF) ?_
 rintro ⟨a0, u⟩ y hy
 exact (QB0 a0 hy).get
noncomputable def Yh (a0 : Qe) (a1 : Qe) : Option Int :=
 Option.bind (Uq ([J0 a0.1 a1.1, J0 a0.2.1 a1.2.1, Z2 a0.2.2.2 a1.2.2.2, Z2 a0.2.2.1 a1.2.2.1] : List Int)) fun (y1 : Int) =>
 some y1
noncomputable def Wr : Ctr := ⟨76, [Qa, Qa], [I64], fun x => Yh x.1 x.2.1⟩
def Qlp : List (List Nat × Ann) := []
def QiF : List (List Nat × Nat) := []
noncomputable def QiG : List Ctr := [E3, HR, Qku]
noncomputable def Qlq (n : Nat) (a0 : Qe) (a1 : Qe) : Option Int := run Tryz.prog Qlp QiF (Qn QiG) Tryz.f76 (Tryz.f76.body.getD .skip) (Qp [I64]) n (Qu [Qa, Qa] (a0, a1, ()))
theorem Qrm (n : Nat) (a0 : Qe) (a1 : Qe) : Qlq n a0 a1 =
  Option.bind (Uq ([J0 a0.1 a1.1, J0 a0.2.1 a1.2.1, Z2 a0.2.2.2 a1.2.2.2, Z2 a0.2.2.1 a1.2.2.1] : List Int)) fun (y1 : Int) =>
  some y1 := by kernel_rfl
theorem Qxz (a0 : Qe) (a1 : Qe) {r : Int} (h : Yh a0 a1 = some r) : Ev (fun n => Qlq n a0 a1) r := by
 rw [Yh] at h
 refine Ev.of_eq ?_ (fun n => Qrm n a0 a1)
 exact (Ev.ofBind h fun y1 h => (Ev.ofSome h))
theorem Qto : ∀ x ∈ QiG, Qg Tryz.prog x := (Qb Qrk (Qb Qmd (Qb QAC Qi)))
theorem QiH : Qg Tryz.prog (Wr) := by
 refine Qh (c := Wr) (by kernel_rfl) (by kernel_rfl : Tryz.prog.funcs[76]? = some Tryz.f76) (code := Tryz.f76.body.getD .skip) (by kernel_rfl) (by kernel_rfl) (by kernel_rfl) (A := Qlp) (I := QiF) (Qto) ?_
 rintro ⟨a0, a1, u⟩ y hy
 exact (Qxz a0 a1 hy).get
noncomputable def Q5 (x1 : (List Qe)) : List Qe → Nat → Option Bool
 | [], k =>
   some true
 | e :: rest, k =>
   Option.bind (Zb (e)) fun (y1 : Bool) =>
   bif !(y1) then
    some false
   else
    bif decide ((0 : Int) < (k : Int)) then
     bif inB (IntKind.wrap .i64 ((k : Int) - 1)) x1.length then
      Option.bind (Yh (rd x1 (IntKind.wrap .i64 ((k : Int) - 1)) (Ty.dflt Qa)) (e)) fun (y2 : Int) =>
      bif decide ((0 : Int) ≤ y2) then
       some false
      else
       Q5 x1 rest (k + 1)
     else none
    else
     Q5 x1 rest (k + 1)
noncomputable def ZO (a0 : (List Qe)) : Option Bool :=
 Jg a0 (Q5 a0 a0 0)
noncomputable def G1 : Ctr := ⟨107, [(.list Qa)], [.bool], fun x => ZO x.1⟩
def UK : List (List Nat × Ann) := [([0, 2], [.keep 0 0, .keep 0 5, .keep 0 6, .keep 0 7])]
def HS : List (List Nat × Nat) := []
noncomputable def HT : List Ctr := [Gq, Wr]
noncomputable def Qel (n : Nat) (a0 : (List Qe)) : Option Bool := run Tryz.prog UK HS (Qn HT) Tryz.f107 (Tryz.f107.body.getD .skip) (Qp [.bool]) n (Qu [(.list Qa)] (a0, ()))
noncomputable abbrev Jy (n : Nat) (x1 : (List Qe)) (x2 : (List Qe)) (x3 : Int) (x4 : Int) : Option Bool := lam Tryz.prog UK HS (Qn HT) Tryz.f107 (Tryz.f107.body.getD .skip) (Qp [.bool]) n [0, 2] [.d (.list Qa) x1, .d (.list Qa) x2, .d I64 x3, .d I64 x4]
theorem Qkw (n : Nat) (a0 : (List Qe)) : Qel n a0 =
  Jy n a0 a0 (a0.length : Int) 0 := by kernel_rfl
theorem HU (n : Nat) (x1 : (List Qe)) (x2 : (List Qe)) (x3 : Int) (x4 : Int) : Jy (n + 1) x1 x2 x3 x4 =
  bif decide (x4 < x3) then
   bif inB x4 x2.length then
    Option.bind (Zb (rd x2 x4 (Ty.dflt Qa))) fun (y1 : Bool) =>
    bif !(y1) then
     some false
    else
     bif decide ((0 : Int) < x4) then
      bif inB (IntKind.wrap .i64 (x4 - 1)) x1.length then
       Option.bind (Yh (rd x1 (IntKind.wrap .i64 (x4 - 1)) (Ty.dflt Qa)) (rd x2 x4 (Ty.dflt Qa))) fun (y2 : Int) =>
       bif decide ((0 : Int) ≤ y2) then
        some false
       else
        Jy n x1 x2 x3 (IntKind.wrap .i64 (x4 + 1))
      else none
     else
      Jy n x1 x2 x3 (IntKind.wrap .i64 (x4 + 1))
   else none
  else
   some true := by kernel_rfl
theorem QiI {x1 : (List Qe)} (hl : x1.length ≤ maxLen) : ∀ (rest : List Qe) (k : Nat) (r : Bool), rest = x1.drop k → Q5 x1 rest k = some r → Ev (fun n => Jy n x1 x1 (x1.length : Int) (k : Int)) r := by
 intro rest
 induction rest with
 | nil =>
  intro k r hr h
  have hk := QO hr
  rw [Q5] at h
  refine Ev.step ?_ (fun n => HU n x1 x1 (x1.length : Int) (k : Int))
  rw [show decide ((k : Int) < (x1.length : Int)) = false from decide_eq_false (by omega)]
  exact Ev.neg rfl (Ev.ofSome h)
 | cons e rest ih =>
  intro k r hr h
  obtain ⟨hk, hx, hr2⟩ := QE (d := (Ty.dflt Qa)) hr
  have hw := QA hl hk
  have ih2 : ∀ (r : Bool), Q5 x1 rest (k + 1) = some r → Ev (fun n => Jy n x1 x1 (x1.length : Int) (IntKind.wrap .i64 ((k : Int) + 1))) r := by
   intro r h; rw [hw]; exact ih (k + 1) r hr2 h
  rw [Q5] at h
  refine Ev.step ?_ (fun n => HU n x1 x1 (x1.length : Int) (k : Int))
  rw [show decide ((k : Int) < (x1.length : Int)) = true from decide_eq_true (by omega), QB hk, hx]
  exact Ev.pos rfl (Ev.pos rfl (Ev.ofBind h fun y1 h => (Ev.ofBif h (fun h => (Ev.ofSome h)) (fun h => (Ev.ofBif h (fun h => (Ev.ofBif h (fun h => (Ev.ofBind h fun y2 h => (Ev.ofBif h (fun h => (Ev.ofSome h)) (fun h => (ih2  _ h))))) (fun h => (Ev.ofNone h)))) (fun h => (ih2  _ h)))))))
theorem Qpe (a0 : (List Qe)) {r : Bool} (h : ZO a0 = some r) : Ev (fun n => Qel n a0) r := by
 rw [ZO] at h
 refine Ev.of_eq ?_ (fun n => Qkw n a0)
 exact (Ev.ofLen h fun hl h => QiI hl _ (0 : Nat) _ rfl h)
theorem Qme : ∀ x ∈ HT, Qg Tryz.prog x := (Qb Up (Qb QiH Qi))
theorem QcY : Qg Tryz.prog (G1) := by
 refine Qh (c := G1) (by kernel_rfl) (by kernel_rfl : Tryz.prog.funcs[107]? = some Tryz.f107) (code := Tryz.f107.body.getD .skip) (by kernel_rfl) (by kernel_rfl) (by kernel_rfl) (A := UK) (I := HS) (Qme) ?_
 rintro ⟨a0, u⟩ y hy
 exact (Qpe a0 hy).get
noncomputable def QP : List Qe → Nat → Option Bool
 | [], k =>
   some true
 | e :: rest, k =>
   bif !decide ((e).1 = 4) then
    some (!decide ((0 : Int) ≤ (k : Int)))
   else
    QP rest (k + 1)
noncomputable def JO (a0 : (List Qe)) (a1 : Int) : Option Bool :=
 bif decide ((a0.length : Int) ≤ a1) then
  Option.bind (ZO a0) fun (y1 : Bool) =>
  bif y1 then
   Jg a0 (QP a0 0)
  else
   some false
 else
  some false
noncomputable def QbJ : Ctr := ⟨77, [(.list Qa), I64], [.bool], fun x => JO x.1 x.2.1⟩
def QbK : List (List Nat × Ann) := [([0, 2, 1002, 1010], [.keep 0 13, .keep 2 0, .keep 2 1, .keep 2 7, .keep 2 8])]
def E4 : List (List Nat × Nat) := [([1010], 108), ([1002, 1010], 132), ([4005, 1002, 1010], 109)]
noncomputable def E5 : List Ctr := [G1]
noncomputable def QiJ (n : Nat) (a0 : (List Qe)) (a1 : Int) : Option Bool := run Tryz.prog QbK E4 (Qn E5) Tryz.f77 (Tryz.f77.body.getD .skip) (Qp [.bool]) n (Qu [(.list Qa), I64] (a0, a1, ()))
noncomputable abbrev ZS (n : Nat) (x1 : Bool) (x2 : (List Qe)) (x3 : Int) (x4 : Int) : Option Bool := lam Tryz.prog QbK E4 (Qn E5) Tryz.f77 (Tryz.f77.body.getD .skip) (Qp [.bool]) n [0, 2, 1002, 1010] [.d .bool x1, .d (.list Qa) x2, .fn 109 [], .d I64 x3, .d I64 x4]
theorem Qpf (n : Nat) (a0 : (List Qe)) (a1 : Int) : QiJ n a0 a1 =
  bif decide ((a0.length : Int) ≤ a1) then
   Option.bind (ZO a0) fun (y1 : Bool) =>
   bif y1 then
    ZS n true a0 (a0.length : Int) 0
   else
    some false
  else
   some false := by kernel_rfl
theorem Ge (n : Nat) (x1 : Bool) (x2 : (List Qe)) (x3 : Int) (x4 : Int) : ZS (n + 1) x1 x2 x3 x4 =
  bif decide (x4 < x3) then
   bif inB x4 x2.length then
    bif !decide ((rd x2 x4 (Ty.dflt Qa)).1 = 4) then
     bif x1 then
      some (!decide ((0 : Int) ≤ x4))
     else
      some false
    else
     ZS n x1 x2 x3 (IntKind.wrap .i64 (x4 + 1))
   else none
  else
   bif x1 then
    some true
   else
    some false := by kernel_rfl
theorem QbL {x2 : (List Qe)} (hl : x2.length ≤ maxLen) : ∀ (rest : List Qe) (k : Nat) (r : Bool), rest = x2.drop k → QP rest k = some r → Ev (fun n => ZS n true x2 (x2.length : Int) (k : Int)) r := by
 intro rest
 induction rest with
 | nil =>
  intro k r hr h
  have hk := QO hr
  rw [QP] at h
  refine Ev.step ?_ (fun n => Ge n true x2 (x2.length : Int) (k : Int))
  rw [show decide ((k : Int) < (x2.length : Int)) = false from decide_eq_false (by omega)]
  exact Ev.neg rfl (Ev.pos rfl (Ev.ofSome h))
 | cons e rest ih =>
  intro k r hr h
  obtain ⟨hk, hx, hr2⟩ := QE (d := (Ty.dflt Qa)) hr
  have hw := QA hl hk
  have ih2 : ∀ (r : Bool), QP rest (k + 1) = some r → Ev (fun n => ZS n true x2 (x2.length : Int) (IntKind.wrap .i64 ((k : Int) + 1))) r := by
   intro r h; rw [hw]; exact ih (k + 1) r hr2 h
  rw [QP] at h
  refine Ev.step ?_ (fun n => Ge n true x2 (x2.length : Int) (k : Int))
  rw [show decide ((k : Int) < (x2.length : Int)) = true from decide_eq_true (by omega), QB hk, hx]
  exact Ev.pos rfl (Ev.pos rfl (Ev.ofBif h (fun h => (Ev.pos rfl (Ev.ofSome h))) (fun h => (ih2  _ h))))
theorem QvI (a0 : (List Qe)) (a1 : Int) {r : Bool} (h : JO a0 a1 = some r) : Ev (fun n => QiJ n a0 a1) r := by
 rw [JO] at h
 refine Ev.of_eq ?_ (fun n => Qpf n a0 a1)
 exact (Ev.ofBif h (fun h => (Ev.ofBind h fun y1 h => (Ev.ofBif h (fun h => (Ev.ofLen h fun hl h => QbL hl _ (0 : Nat) _ rfl h)) (fun h => (Ev.ofSome h))))) (fun h => (Ev.ofSome h)))
theorem Qrn : ∀ x ∈ E5, Qg Tryz.prog x := (Qb QcY Qi)
theorem Qtp : Qg Tryz.prog (QbJ) := by
 refine Qh (c := QbJ) (by kernel_rfl) (by kernel_rfl : Tryz.prog.funcs[77]? = some Tryz.f77) (code := Tryz.f77.body.getD .skip) (by kernel_rfl) (by kernel_rfl) (by kernel_rfl) (A := QbK) (I := E4) (Qrn) ?_
 rintro ⟨a0, a1, u⟩ y hy
 exact (QvI a0 a1 hy).get
noncomputable def QQ : List (List Int) → Nat → Option Bool
 | [], k =>
   some true
 | e :: rest, k =>
   Option.bind (Zv (e)) fun (y1 : Bool) =>
   bif !(y1) then
    some (!decide ((0 : Int) ≤ (k : Int)))
   else
    QQ rest (k + 1)
noncomputable def JP (a0 : (List (List Int))) : Option Bool :=
 Jg a0 (QQ a0 0)
noncomputable def Ur : Ctr := ⟨110, [(.list .str)], [.bool], fun x => JP x.1⟩
def QbM : List (List Nat × Ann) := [([0, 2, 1002, 1001], [.keep 2 0, .keep 2 1, .keep 2 7, .keep 2 8])]
def E6 : List (List Nat × Nat) := [([1001], 133), ([1002, 1001], 151), ([4005, 1002, 1001], 134)]
noncomputable def E7 : List Ctr := [Gp]
noncomputable def QiK (n : Nat) (a0 : (List (List Int))) : Option Bool := run Tryz.prog QbM E6 (Qn E7) Tryz.f110 (Tryz.f110.body.getD .skip) (Qp [.bool]) n (Qu [(.list .str)] (a0, ()))
noncomputable abbrev ZT (n : Nat) (x1 : (List (List Int))) (x2 : Int) (x3 : Int) : Option Bool := lam Tryz.prog QbM E6 (Qn E7) Tryz.f110 (Tryz.f110.body.getD .skip) (Qp [.bool]) n [0, 2, 1002, 1001] [.d (.list .str) x1, .fn 134 [], .d I64 x2, .d I64 x3]
theorem Qpg (n : Nat) (a0 : (List (List Int))) : QiK n a0 =
  ZT n a0 (a0.length : Int) 0 := by kernel_rfl
theorem Gf (n : Nat) (x1 : (List (List Int))) (x2 : Int) (x3 : Int) : ZT (n + 1) x1 x2 x3 =
  bif decide (x3 < x2) then
   bif inB x3 x1.length then
    Option.bind (Zv (rd x1 x3 (Ty.dflt .str))) fun (y1 : Bool) =>
    bif !(y1) then
     some (!decide ((0 : Int) ≤ x3))
    else
     ZT n x1 x2 (IntKind.wrap .i64 (x3 + 1))
   else none
  else
   some true := by kernel_rfl
theorem QbN {x1 : (List (List Int))} (hl : x1.length ≤ maxLen) : ∀ (rest : List (List Int)) (k : Nat) (r : Bool), rest = x1.drop k → QQ rest k = some r → Ev (fun n => ZT n x1 (x1.length : Int) (k : Int)) r := by
 intro rest
 induction rest with
 | nil =>
  intro k r hr h
  have hk := QO hr
  rw [QQ] at h
  refine Ev.step ?_ (fun n => Gf n x1 (x1.length : Int) (k : Int))
  rw [show decide ((k : Int) < (x1.length : Int)) = false from decide_eq_false (by omega)]
  exact Ev.neg rfl (Ev.ofSome h)
 | cons e rest ih =>
  intro k r hr h
  obtain ⟨hk, hx, hr2⟩ := QE (d := (Ty.dflt .str)) hr
  have hw := QA hl hk
  have ih2 : ∀ (r : Bool), QQ rest (k + 1) = some r → Ev (fun n => ZT n x1 (x1.length : Int) (IntKind.wrap .i64 ((k : Int) + 1))) r := by
   intro r h; rw [hw]; exact ih (k + 1) r hr2 h
  rw [QQ] at h
  refine Ev.step ?_ (fun n => Gf n x1 (x1.length : Int) (k : Int))
  rw [show decide ((k : Int) < (x1.length : Int)) = true from decide_eq_true (by omega), QB hk, hx]
  exact Ev.pos rfl (Ev.pos rfl (Ev.ofBind h fun y1 h => (Ev.ofBif h (fun h => (Ev.ofSome h)) (fun h => (ih2  _ h)))))
theorem QvJ (a0 : (List (List Int))) {r : Bool} (h : JP a0 = some r) : Ev (fun n => QiK n a0) r := by
 rw [JP] at h
 refine Ev.of_eq ?_ (fun n => Qpg n a0)
 exact (Ev.ofLen h fun hl h => QbN hl _ (0 : Nat) _ rfl h)
theorem Qro : ∀ x ∈ E7, Qg Tryz.prog x := (Qb Um Qi)
theorem QgO : Qg Tryz.prog (Ur) := by
 refine Qh (c := Ur) (by kernel_rfl) (by kernel_rfl : Tryz.prog.funcs[110]? = some Tryz.f110) (code := Tryz.f110.body.getD .skip) (by kernel_rfl) (by kernel_rfl) (by kernel_rfl) (A := QbM) (I := E6) (Qro) ?_
 rintro ⟨a0, u⟩ y hy
 exact (QvJ a0 hy).get
noncomputable def Jd (x1 : (List (List Int))) : List (List Int) → Nat → Option Bool
 | [], k =>
   some true
 | e :: rest, k =>
   bif decide ((0 : Int) < (k : Int)) then
    bif inB (IntKind.wrap .i64 ((k : Int) - 1)) x1.length then
     bif !Jn (rd x1 (IntKind.wrap .i64 ((k : Int) - 1)) (Ty.dflt .str)) (e) then
      some false
     else
      Jd x1 rest (k + 1)
    else none
   else
    Jd x1 rest (k + 1)
noncomputable def YE (a0 : (List (List Int))) : Option Bool :=
 Jg a0 (Jd a0 a0 0)
noncomputable def E8 : Ctr := ⟨111, [(.list .str)], [.bool], fun x => YE x.1⟩
def QfD : List (List Nat × Ann) := [([0, 2], [.keep 0 0, .keep 0 5, .keep 0 6, .keep 0 7])]
def Qdu : List (List Nat × Nat) := []
noncomputable def Qdv : List Ctr := []
noncomputable def QnG (n : Nat) (a0 : (List (List Int))) : Option Bool := run Tryz.prog QfD Qdu (Qn Qdv) Tryz.f111 (Tryz.f111.body.getD .skip) (Qp [.bool]) n (Qu [(.list .str)] (a0, ()))
noncomputable abbrev YY (n : Nat) (x1 : (List (List Int))) (x2 : (List (List Int))) (x3 : Int) (x4 : Int) : Option Bool := lam Tryz.prog QfD Qdu (Qn Qdv) Tryz.f111 (Tryz.f111.body.getD .skip) (Qp [.bool]) n [0, 2] [.d (.list .str) x1, .d (.list .str) x2, .d I64 x3, .d I64 x4]
theorem Qtq (n : Nat) (a0 : (List (List Int))) : QnG n a0 =
  YY n a0 a0 (a0.length : Int) 0 := by kernel_rfl
theorem Qa4 (n : Nat) (x1 : (List (List Int))) (x2 : (List (List Int))) (x3 : Int) (x4 : Int) : YY (n + 1) x1 x2 x3 x4 =
  bif decide (x4 < x3) then
   bif inB x4 x2.length then
    bif decide ((0 : Int) < x4) then
     bif inB (IntKind.wrap .i64 (x4 - 1)) x1.length then
      bif !Jn (rd x1 (IntKind.wrap .i64 (x4 - 1)) (Ty.dflt .str)) (rd x2 x4 (Ty.dflt .str)) then
       some false
      else
       YY n x1 x2 x3 (IntKind.wrap .i64 (x4 + 1))
     else none
    else
     YY n x1 x2 x3 (IntKind.wrap .i64 (x4 + 1))
   else none
  else
   some true := by kernel_rfl
theorem Qrp {x1 : (List (List Int))} (hl : x1.length ≤ maxLen) : ∀ (rest : List (List Int)) (k : Nat) (r : Bool), rest = x1.drop k → Jd x1 rest k = some r → Ev (fun n => YY n x1 x1 (x1.length : Int) (k : Int)) r := by
 intro rest
 induction rest with
 | nil =>
  intro k r hr h
  have hk := QO hr
  rw [Jd] at h
  refine Ev.step ?_ (fun n => Qa4 n x1 x1 (x1.length : Int) (k : Int))
  rw [show decide ((k : Int) < (x1.length : Int)) = false from decide_eq_false (by omega)]
  exact Ev.neg rfl (Ev.ofSome h)
 | cons e rest ih =>
  intro k r hr h
  obtain ⟨hk, hx, hr2⟩ := QE (d := (Ty.dflt .str)) hr
  have hw := QA hl hk
  have ih2 : ∀ (r : Bool), Jd x1 rest (k + 1) = some r → Ev (fun n => YY n x1 x1 (x1.length : Int) (IntKind.wrap .i64 ((k : Int) + 1))) r := by
   intro r h; rw [hw]; exact ih (k + 1) r hr2 h
  rw [Jd] at h
  refine Ev.step ?_ (fun n => Qa4 n x1 x1 (x1.length : Int) (k : Int))
  rw [show decide ((k : Int) < (x1.length : Int)) = true from decide_eq_true (by omega), QB hk, hx]
  exact Ev.pos rfl (Ev.pos rfl (Ev.ofBif h (fun h => (Ev.ofBif h (fun h => (Ev.ofBif h (fun h => (Ev.ofSome h)) (fun h => (ih2  _ h)))) (fun h => (Ev.ofNone h)))) (fun h => (ih2  _ h))))
theorem QzG (a0 : (List (List Int))) {r : Bool} (h : YE a0 = some r) : Ev (fun n => QnG n a0) r := by
 rw [YE] at h
 refine Ev.of_eq ?_ (fun n => Qtq n a0)
 exact (Ev.ofLen h fun hl h => Qrp hl _ (0 : Nat) _ rfl h)
theorem QvK : ∀ x ∈ Qdv, Qg Tryz.prog x := Qi
theorem Qlr : Qg Tryz.prog (E8) := by
 refine Qh (c := E8) (by kernel_rfl) (by kernel_rfl : Tryz.prog.funcs[111]? = some Tryz.f111) (code := Tryz.f111.body.getD .skip) (by kernel_rfl) (by kernel_rfl) (by kernel_rfl) (A := QfD) (I := Qdu) (QvK) ?_
 rintro ⟨a0, u⟩ y hy
 exact (QzG a0 hy).get
noncomputable def QH (a0 : Qe) : Bool :=
 @decide (a0 = (0, 0, ([] : List Int), ([] : List Int))) (Ty.decEq Qa a0 (0, 0, ([] : List Int), ([] : List Int)))
noncomputable def Xk : Ctr := ⟨136, [Qa], [.bool], fun x => some (QH x.1)⟩
def QiL : List (List Nat × Ann) := []
def QgP : List (List Nat × Nat) := []
noncomputable def QgQ : List Ctr := []
noncomputable def QiM (n : Nat) (a0 : Qe) : Option Bool := run Tryz.prog QiL QgP (Qn QgQ) Tryz.f136 (Tryz.f136.body.getD .skip) (Qp [.bool]) n (Qu [Qa] (a0, ()))
theorem Qph (n : Nat) (a0 : Qe) : QiM n a0 =
  some (@decide (a0 = (0, 0, ([] : List Int), ([] : List Int))) (Ty.decEq Qa a0 (0, 0, ([] : List Int), ([] : List Int)))) := by kernel_rfl
theorem QvL (n : Nat) (a0 : Qe) : QiM n a0 = some (QH a0) := (Qph n a0).trans rfl
theorem Qrq : ∀ x ∈ QgQ, Qg Tryz.prog x := Qi
theorem E9 : Qg Tryz.prog (Xk) := by
 refine Qh (c := Xk) (by kernel_rfl) (by kernel_rfl : Tryz.prog.funcs[136]? = some Tryz.f136) (code := Tryz.f136.body.getD .skip) (by kernel_rfl) (by kernel_rfl) (by kernel_rfl) (A := QiL) (I := QgP) (Qrq) ?_
 rintro ⟨a0, u⟩ y hy
 exact ⟨0, (QvL 0 a0).trans hy⟩
noncomputable def QR : List Qe → Nat → Option Bool
 | [], k =>
   some true
 | e :: rest, k =>
   Option.bind (Zb (e)) fun (y5 : Bool) =>
   bif !(y5) then
    some (!decide ((0 : Int) ≤ (k : Int)))
   else
    QR rest (k + 1)
noncomputable def YZ (a0 : Qz) : Option Bool :=
 bif decide (a0.1 = 1) then
  Option.bind (Zb a0.2.1) fun (y1 : Bool) =>
  bif y1 then
   bif decide ((a0.2.2.1.length : Int) = 0) then
    some (decide ((a0.2.2.2.length : Int) = 0))
   else
    some false
  else
   some false
 else
  bif decide (a0.1 = 2) then
   bif QH a0.2.1 then
    bif decide ((a0.2.2.1.length : Int) ≤ 50) then
     bif decide ((a0.2.2.2.length : Int) = 0) then
      Option.bind (ZO a0.2.2.1) fun (y2 : Bool) =>
      some y2
     else
      some false
    else
     some false
   else
    some false
  else
   bif decide (a0.1 = 3) then
    bif QH a0.2.1 then
     bif decide ((a0.2.2.2.length : Int) ≤ 50) then
      bif decide ((a0.2.2.1.length : Int) = (a0.2.2.2.length : Int)) then
       Option.bind (JP a0.2.2.2) fun (y3 : Bool) =>
       bif y3 then
        Option.bind (YE a0.2.2.2) fun (y4 : Bool) =>
        bif y4 then
         Jg a0.2.2.1 (QR a0.2.2.1 0)
        else
         some false
       else
        some false
      else
       some false
     else
      some false
    else
     some false
   else
    some false
noncomputable def QbO : Ctr := ⟨114, [Qm], [.bool], fun x => YZ x.1⟩
def QbP : List (List Nat × Ann) := [([0, 2, 1002, 7031], [.keep 0 74, .keep 2 0, .keep 2 1, .keep 2 7, .keep 2 8])]
def Qaa : List (List Nat × Nat) := [([7031], 108), ([1002, 7031], 132), ([4005, 1002, 7031], 137)]
noncomputable def Qab : List Ctr := [Gq, Xk, G1, Ur, E8]
noncomputable def QiN (n : Nat) (a0 : Qz) : Option Bool := run Tryz.prog QbP Qaa (Qn Qab) Tryz.f114 (Tryz.f114.body.getD .skip) (Qp [.bool]) n (Qu [Qm] (a0, ()))
noncomputable abbrev ZU (n : Nat) (x1 : Bool) (x2 : (List Qe)) (x3 : Int) (x4 : Int) : Option Bool := lam Tryz.prog QbP Qaa (Qn Qab) Tryz.f114 (Tryz.f114.body.getD .skip) (Qp [.bool]) n [0, 2, 1002, 7031] [.d .bool x1, .d (.list Qa) x2, .fn 137 [], .d I64 x3, .d I64 x4]
theorem Qpi (n : Nat) (a0 : Qz) : QiN n a0 =
  bif decide (a0.1 = 1) then
   Option.bind (Zb a0.2.1) fun (y1 : Bool) =>
   bif y1 then
    bif decide ((a0.2.2.1.length : Int) = 0) then
     some (decide ((a0.2.2.2.length : Int) = 0))
    else
     some false
   else
    some false
  else
   bif decide (a0.1 = 2) then
    bif QH a0.2.1 then
     bif decide ((a0.2.2.1.length : Int) ≤ 50) then
      bif decide ((a0.2.2.2.length : Int) = 0) then
       Option.bind (ZO a0.2.2.1) fun (y2 : Bool) =>
       some y2
      else
       some false
     else
      some false
    else
     some false
   else
    bif decide (a0.1 = 3) then
     bif QH a0.2.1 then
      bif decide ((a0.2.2.2.length : Int) ≤ 50) then
       bif decide ((a0.2.2.1.length : Int) = (a0.2.2.2.length : Int)) then
        Option.bind (JP a0.2.2.2) fun (y3 : Bool) =>
        bif y3 then
         Option.bind (YE a0.2.2.2) fun (y4 : Bool) =>
         bif y4 then
          ZU n true a0.2.2.1 (a0.2.2.1.length : Int) 0
         else
          some false
        else
         some false
       else
        some false
      else
       some false
     else
      some false
    else
     some false := by kernel_rfl
theorem Gg (n : Nat) (x1 : Bool) (x2 : (List Qe)) (x3 : Int) (x4 : Int) : ZU (n + 1) x1 x2 x3 x4 =
  bif decide (x4 < x3) then
   bif inB x4 x2.length then
    Option.bind (Zb (rd x2 x4 (Ty.dflt Qa))) fun (y5 : Bool) =>
    bif !(y5) then
     bif x1 then
      some (!decide ((0 : Int) ≤ x4))
     else
      some false
    else
     ZU n x1 x2 x3 (IntKind.wrap .i64 (x4 + 1))
   else none
  else
   bif x1 then
    some true
   else
    some false := by kernel_rfl
theorem QbQ {x2 : (List Qe)} (hl : x2.length ≤ maxLen) : ∀ (rest : List Qe) (k : Nat) (r : Bool), rest = x2.drop k → QR rest k = some r → Ev (fun n => ZU n true x2 (x2.length : Int) (k : Int)) r := by
 intro rest
 induction rest with
 | nil =>
  intro k r hr h
  have hk := QO hr
  rw [QR] at h
  refine Ev.step ?_ (fun n => Gg n true x2 (x2.length : Int) (k : Int))
  rw [show decide ((k : Int) < (x2.length : Int)) = false from decide_eq_false (by omega)]
  exact Ev.neg rfl (Ev.pos rfl (Ev.ofSome h))
 | cons e rest ih =>
  intro k r hr h
  obtain ⟨hk, hx, hr2⟩ := QE (d := (Ty.dflt Qa)) hr
  have hw := QA hl hk
  have ih2 : ∀ (r : Bool), QR rest (k + 1) = some r → Ev (fun n => ZU n true x2 (x2.length : Int) (IntKind.wrap .i64 ((k : Int) + 1))) r := by
   intro r h; rw [hw]; exact ih (k + 1) r hr2 h
  rw [QR] at h
  refine Ev.step ?_ (fun n => Gg n true x2 (x2.length : Int) (k : Int))
  rw [show decide ((k : Int) < (x2.length : Int)) = true from decide_eq_true (by omega), QB hk, hx]
  exact Ev.pos rfl (Ev.pos rfl (Ev.ofBind h fun y5 h => (Ev.ofBif h (fun h => (Ev.pos rfl (Ev.ofSome h))) (fun h => (ih2  _ h)))))
theorem QvM (a0 : Qz) {r : Bool} (h : YZ a0 = some r) : Ev (fun n => QiN n a0) r := by
 rw [YZ] at h
 refine Ev.of_eq ?_ (fun n => Qpi n a0)
 exact (Ev.ofBif h (fun h => (Ev.ofBind h fun y1 h => (Ev.ofBif h (fun h => (Ev.ofBif h (fun h => (Ev.ofSome h)) (fun h => (Ev.ofSome h)))) (fun h => (Ev.ofSome h))))) (fun h => (Ev.ofBif h (fun h => (Ev.ofBif h (fun h => (Ev.ofBif h (fun h => (Ev.ofBif h (fun h => (Ev.ofBind h fun y2 h => (Ev.ofSome h))) (fun h => (Ev.ofSome h)))) (fun h => (Ev.ofSome h)))) (fun h => (Ev.ofSome h)))) (fun h => (Ev.ofBif h (fun h => (Ev.ofBif h (fun h => (Ev.ofBif h (fun h => (Ev.ofBif h (fun h => (Ev.ofBind h fun y3 h => (Ev.ofBif h (fun h => (Ev.ofBind h fun y4 h => (Ev.ofBif h (fun h => (Ev.ofLen h fun hl h => QbQ hl _ (0 : Nat) _ rfl h)) (fun h => (Ev.ofSome h))))) (fun h => (Ev.ofSome h))))) (fun h => (Ev.ofSome h)))) (fun h => (Ev.ofSome h)))) (fun h => (Ev.ofSome h)))) (fun h => (Ev.ofSome h)))))))
theorem Qrr : ∀ x ∈ Qab, Qg Tryz.prog x := (Qb Up (Qb E9 (Qb QcY (Qb QgO (Qb Qlr Qi)))))
theorem Qtr : Qg Tryz.prog (QbO) := by
 refine Qh (c := QbO) (by kernel_rfl) (by kernel_rfl : Tryz.prog.funcs[114]? = some Tryz.f114) (code := Tryz.f114.body.getD .skip) (by kernel_rfl) (by kernel_rfl) (by kernel_rfl) (A := QbP) (I := Qaa) (Qrr) ?_
 rintro ⟨a0, u⟩ y hy
 exact (QvM a0 hy).get
end Go.Ab
