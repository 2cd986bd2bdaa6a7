/- generated -/
import Derived.Test.YtgmdnickgijkoaaDoorAb31
import Derived.Test.YtgmdnickgijkoaaDoorProg
import Derived.KernelRfl
namespace Go.Ab
open Go.Proofs
set_option maxRecDepth 20000
abbrev I64 : Ty := .int .i64
abbrev U8 : Ty := .int .u8
abbrev TyboundsError : Ty := (.pair I64 (.pair I64 (.pair .bool U8)))
abbrev DboundsError : Type := (Int × (Int × (Bool × Int)))
abbrev TyerrorAddressString : Ty := (.pair .str (.int .u64))
abbrev DerrorAddressString : Type := ((List Int) × Int)
abbrev TyAtom : Ty := (.pair I64 (.pair I64 (.pair .str .str)))
abbrev DAtom : Type := (Int × (Int × ((List Int) × (List Int))))
abbrev TyHead : Ty := (.pair I64 (.pair TyAtom .str))
abbrev DHead : Type := (Int × (DAtom × (List Int)))
abbrev TyExpr : Ty := (.pair I64 (.pair .str (.pair TyAtom I64)))
abbrev DExpr : Type := (Int × ((List Int) × (DAtom × Int)))
abbrev TyPolicy : Ty := (.pair .str (.pair .bool (.pair TyHead (.pair TyHead (.pair TyHead (.list TyExpr))))))
abbrev DPolicy : Type := ((List Int) × (Bool × (DHead × (DHead × (DHead × (List DExpr))))))
abbrev TyHad : Ty := (.pair .str (.list .str))
abbrev DHad : Type := ((List Int) × (List (List Int)))
abbrev TyRole : Ty := (.pair .str (.pair (.list .str) (.list .str)))
abbrev DRole : Type := ((List Int) × ((List (List Int)) × (List (List Int))))
abbrev Tyl10E : Ty := (.tree TyExpr)
abbrev Dl10E : Type := (Tree DExpr)
/-! ## spec.l1Letter (72) -/
noncomputable def T_spec_l1Letter (a0 : Int) : Bool :=
  bif decide ((97 : Int) ≤ a0) then
    bif decide (a0 ≤ 122) then
      true
    else
      bif decide ((65 : Int) ≤ a0) then
        decide (a0 ≤ 90)
      else
        false
  else
    bif decide ((65 : Int) ≤ a0) then
      decide (a0 ≤ 90)
    else
      false
noncomputable def c_spec_l1Letter : Ctr := ⟨72, [U8], [.bool], fun x => some (T_spec_l1Letter x.1)⟩
def A_spec_l1Letter : List (List Nat × Ann) := []
def In_spec_l1Letter : List (List Nat × Nat) := []
noncomputable def cs_spec_l1Letter : List Ctr := []
noncomputable def F_spec_l1Letter (n : Nat) (a0 : Int) : Option Bool := run Tryd.prog A_spec_l1Letter In_spec_l1Letter (conOf cs_spec_l1Letter) Tryd.f72 (Tryd.f72.body.getD .skip) (packT [.bool]) n (argsV [U8] (a0, ()))
theorem F_spec_l1Letter_eq (n : Nat) (a0 : Int) : F_spec_l1Letter n a0 =
    bif decide ((97 : Int) ≤ a0) then
      bif decide (a0 ≤ 122) then
        some true
      else
        bif decide ((65 : Int) ≤ a0) then
          some (decide (a0 ≤ 90))
        else
          some false
    else
      bif decide ((65 : Int) ≤ a0) then
        some (decide (a0 ≤ 90))
      else
        some false := by kernel_rfl
theorem S_spec_l1Letter (n : Nat) (a0 : Int) : F_spec_l1Letter n a0 = some (T_spec_l1Letter a0) := (F_spec_l1Letter_eq n a0).trans (cond_some (cond_some rfl (cond_some rfl rfl)) (cond_some rfl rfl))
theorem hcs_spec_l1Letter : ∀ x ∈ cs_spec_l1Letter, CtrOk Tryd.prog x := conOf_nil
theorem ok_spec_l1Letter : CtrOk Tryd.prog (c_spec_l1Letter) := by
  refine ctr_of_run (c := c_spec_l1Letter) (by kernel_rfl) (by kernel_rfl : Tryd.prog.funcs[72]? = some Tryd.f72) (code := Tryd.f72.body.getD .skip) (by kernel_rfl) (by kernel_rfl) (by kernel_rfl) (A := A_spec_l1Letter) (I := In_spec_l1Letter) (hcs_spec_l1Letter) ?_
  rintro ⟨a0, u⟩ y hy
  exact ⟨0, (S_spec_l1Letter 0 a0).trans hy⟩

/-! ## spec.l1Digit (73) -/
noncomputable def T_spec_l1Digit (a0 : Int) : Bool :=
  bif decide ((48 : Int) ≤ a0) then
    decide (a0 ≤ 57)
  else
    false
noncomputable def c_spec_l1Digit : Ctr := ⟨73, [U8], [.bool], fun x => some (T_spec_l1Digit x.1)⟩
def A_spec_l1Digit : List (List Nat × Ann) := []
def In_spec_l1Digit : List (List Nat × Nat) := []
noncomputable def cs_spec_l1Digit : List Ctr := []
noncomputable def F_spec_l1Digit (n : Nat) (a0 : Int) : Option Bool := run Tryd.prog A_spec_l1Digit In_spec_l1Digit (conOf cs_spec_l1Digit) Tryd.f73 (Tryd.f73.body.getD .skip) (packT [.bool]) n (argsV [U8] (a0, ()))
theorem F_spec_l1Digit_eq (n : Nat) (a0 : Int) : F_spec_l1Digit n a0 =
    bif decide ((48 : Int) ≤ a0) then
      some (decide (a0 ≤ 57))
    else
      some false := by kernel_rfl
theorem S_spec_l1Digit (n : Nat) (a0 : Int) : F_spec_l1Digit n a0 = some (T_spec_l1Digit a0) := (F_spec_l1Digit_eq n a0).trans (cond_some rfl rfl)
theorem hcs_spec_l1Digit : ∀ x ∈ cs_spec_l1Digit, CtrOk Tryd.prog x := conOf_nil
theorem ok_spec_l1Digit : CtrOk Tryd.prog (c_spec_l1Digit) := by
  refine ctr_of_run (c := c_spec_l1Digit) (by kernel_rfl) (by kernel_rfl : Tryd.prog.funcs[73]? = some Tryd.f73) (code := Tryd.f73.body.getD .skip) (by kernel_rfl) (by kernel_rfl) (by kernel_rfl) (A := A_spec_l1Digit) (I := In_spec_l1Digit) (hcs_spec_l1Digit) ?_
  rintro ⟨a0, u⟩ y hy
  exact ⟨0, (S_spec_l1Digit 0 a0).trans hy⟩

/-! ## spec.l7Id (26) -/
noncomputable def P_spec_l7Id_0_2 (x1 : (List Int)) : List Int → Option Bool
  | [] =>
      bif decide ((1 : Int) ≤ (x1.length : Int)) then
        some (decide ((x1.length : Int) ≤ 40))
      else
        some false
  | e :: rest =>
      bif !(T_spec_l1Letter (e)) then
        bif !(T_spec_l1Digit (e)) then
          bif !decide (e = 95) then
            bif !decide (e = 45) then
              bif !decide (e = 46) then
                some false
              else
                P_spec_l7Id_0_2 x1 rest
            else
              P_spec_l7Id_0_2 x1 rest
          else
            P_spec_l7Id_0_2 x1 rest
        else
          P_spec_l7Id_0_2 x1 rest
      else
        P_spec_l7Id_0_2 x1 rest
noncomputable def P_spec_l7Id (a0 : (List Int)) : Option Bool :=
  lenOk a0 (P_spec_l7Id_0_2 a0 a0)
noncomputable def c_spec_l7Id : Ctr := ⟨26, [.str], [.bool], fun x => P_spec_l7Id x.1⟩
def A_spec_l7Id : List (List Nat × Ann) := [([0, 2], [.keep 0 0, .keep 0 3])]
def In_spec_l7Id : List (List Nat × Nat) := []
noncomputable def cs_spec_l7Id : List Ctr := [c_spec_l1Letter, c_spec_l1Digit]
noncomputable def F_spec_l7Id (n : Nat) (a0 : (List Int)) : Option Bool := run Tryd.prog A_spec_l7Id In_spec_l7Id (conOf cs_spec_l7Id) Tryd.f26 (Tryd.f26.body.getD .skip) (packT [.bool]) n (argsV [.str] (a0, ()))
noncomputable abbrev L_spec_l7Id_0_2 (n : Nat) (x1 : (List Int)) (x2 : Int) : Option Bool := lam Tryd.prog A_spec_l7Id In_spec_l7Id (conOf cs_spec_l7Id) Tryd.f26 (Tryd.f26.body.getD .skip) (packT [.bool]) n [0, 2] [.d .str x1, .d I64 x2]
theorem F_spec_l7Id_eq (n : Nat) (a0 : (List Int)) : F_spec_l7Id n a0 =
    L_spec_l7Id_0_2 n a0 0 := by kernel_rfl
theorem L_spec_l7Id_0_2_eq (n : Nat) (x1 : (List Int)) (x2 : Int) : L_spec_l7Id_0_2 (n + 1) x1 x2 =
    bif decide (x2 < (x1.length : Int)) then
      bif inB x2 x1.length then
        bif !(T_spec_l1Letter (rd x1 x2 0)) then
          bif inB x2 x1.length then
            bif !(T_spec_l1Digit (rd x1 x2 0)) then
              bif inB x2 x1.length then
                bif !decide (rd x1 x2 0 = 95) then
                  bif inB x2 x1.length then
                    bif !decide (rd x1 x2 0 = 45) then
                      bif inB x2 x1.length then
                        bif !decide (rd x1 x2 0 = 46) then
                          some false
                        else
                          L_spec_l7Id_0_2 n x1 (IntKind.wrap .i64 (x2 + 1))
                      else none
                    else
                      L_spec_l7Id_0_2 n x1 (IntKind.wrap .i64 (x2 + 1))
                  else none
                else
                  L_spec_l7Id_0_2 n x1 (IntKind.wrap .i64 (x2 + 1))
              else none
            else
              L_spec_l7Id_0_2 n x1 (IntKind.wrap .i64 (x2 + 1))
          else none
        else
          L_spec_l7Id_0_2 n x1 (IntKind.wrap .i64 (x2 + 1))
      else none
    else
      bif decide ((1 : Int) ≤ (x1.length : Int)) then
        some (decide ((x1.length : Int) ≤ 40))
      else
        some false := by kernel_rfl
theorem S_spec_l7Id_0_2 {x1 : (List Int)} (hl : x1.length ≤ maxLen) : ∀ (rest : List Int) (k : Nat) (r : Bool), rest = x1.drop k → P_spec_l7Id_0_2 x1 rest = some r → Ev (fun n => L_spec_l7Id_0_2 n x1 (k : Int)) r := by
  intro rest
  induction rest with
  | nil =>
    intro k r hr h
    have hk := drop_nil hr
    rw [P_spec_l7Id_0_2] at h
    refine Ev.step ?_ (fun n => L_spec_l7Id_0_2_eq n x1 (k : Int))
    rw [show decide ((k : Int) < (x1.length : Int)) = false from decide_eq_false (by omega)]
    exact Ev.neg rfl (Ev.ofBif h (fun h => (Ev.ofSome h)) (fun h => (Ev.ofSome h)))
  | cons e rest ih =>
    intro k r hr h
    obtain ⟨hk, hx, hr2⟩ := drop_cons (d := 0) hr
    have hw := wrap_succ hl hk
    have ih2 : ∀ (r : Bool), P_spec_l7Id_0_2 x1 rest = some r → Ev (fun n => L_spec_l7Id_0_2 n x1 (IntKind.wrap .i64 ((k : Int) + 1))) r := by
      intro r h; rw [hw]; exact ih (k + 1) r hr2 h
    rw [P_spec_l7Id_0_2] at h
    refine Ev.step ?_ (fun n => L_spec_l7Id_0_2_eq n x1 (k : Int))
    rw [show decide ((k : Int) < (x1.length : Int)) = true from decide_eq_true (by omega), inB_nat2 hk, hx]
    exact Ev.pos rfl (Ev.pos rfl (Ev.ofBif h (fun h => (Ev.pos rfl (Ev.ofBif h (fun h => (Ev.pos rfl (Ev.ofBif h (fun h => (Ev.pos rfl (Ev.ofBif h (fun h => (Ev.pos rfl (Ev.ofBif h (fun h => (Ev.ofSome h)) (fun h => (ih2  _ h))))) (fun h => (ih2  _ h))))) (fun h => (ih2  _ h))))) (fun h => (ih2  _ h))))) (fun h => (ih2  _ h))))
theorem S_spec_l7Id (a0 : (List Int)) {r : Bool} (h : P_spec_l7Id a0 = some r) : Ev (fun n => F_spec_l7Id n a0) r := by
  rw [P_spec_l7Id] at h
  refine Ev.of_eq ?_ (fun n => F_spec_l7Id_eq n a0)
  exact (Ev.ofLen h fun hl h => S_spec_l7Id_0_2 hl _ (0 : Nat) _ rfl h)
theorem hcs_spec_l7Id : ∀ x ∈ cs_spec_l7Id, CtrOk Tryd.prog x := (conOf_cons ok_spec_l1Letter (conOf_cons ok_spec_l1Digit conOf_nil))
theorem ok_spec_l7Id : CtrOk Tryd.prog (c_spec_l7Id) := by
  refine ctr_of_run (c := c_spec_l7Id) (by kernel_rfl) (by kernel_rfl : Tryd.prog.funcs[26]? = some Tryd.f26) (code := Tryd.f26.body.getD .skip) (by kernel_rfl) (by kernel_rfl) (by kernel_rfl) (A := A_spec_l7Id) (I := In_spec_l7Id) (hcs_spec_l7Id) ?_
  rintro ⟨a0, u⟩ y hy
  exact (S_spec_l7Id a0 hy).get

/-! ## spec.l1Printed (74) -/
noncomputable def P_spec_l1Printed_0_2 : List Int → Option Bool
  | [] =>
      some true
  | e :: rest =>
      bif decide (e < 32) then
        some false
      else
        bif decide ((126 : Int) < e) then
          some false
        else
          P_spec_l1Printed_0_2 rest
noncomputable def P_spec_l1Printed (a0 : (List Int)) : Option Bool :=
  lenOk a0 (P_spec_l1Printed_0_2 a0)
noncomputable def c_spec_l1Printed : Ctr := ⟨74, [.str], [.bool], fun x => P_spec_l1Printed x.1⟩
def A_spec_l1Printed : List (List Nat × Ann) := [([0, 2], [.keep 0 0, .keep 0 3])]
def In_spec_l1Printed : List (List Nat × Nat) := []
noncomputable def cs_spec_l1Printed : List Ctr := []
noncomputable def F_spec_l1Printed (n : Nat) (a0 : (List Int)) : Option Bool := run Tryd.prog A_spec_l1Printed In_spec_l1Printed (conOf cs_spec_l1Printed) Tryd.f74 (Tryd.f74.body.getD .skip) (packT [.bool]) n (argsV [.str] (a0, ()))
noncomputable abbrev L_spec_l1Printed_0_2 (n : Nat) (x1 : (List Int)) (x2 : Int) : Option Bool := lam Tryd.prog A_spec_l1Printed In_spec_l1Printed (conOf cs_spec_l1Printed) Tryd.f74 (Tryd.f74.body.getD .skip) (packT [.bool]) n [0, 2] [.d .str x1, .d I64 x2]
theorem F_spec_l1Printed_eq (n : Nat) (a0 : (List Int)) : F_spec_l1Printed n a0 =
    L_spec_l1Printed_0_2 n a0 0 := by kernel_rfl
theorem L_spec_l1Printed_0_2_eq (n : Nat) (x1 : (List Int)) (x2 : Int) : L_spec_l1Printed_0_2 (n + 1) x1 x2 =
    bif decide (x2 < (x1.length : Int)) then
      bif inB x2 x1.length then
        bif decide (rd x1 x2 0 < 32) then
          some false
        else
          bif inB x2 x1.length then
            bif decide ((126 : Int) < rd x1 x2 0) then
              some false
            else
              L_spec_l1Printed_0_2 n x1 (IntKind.wrap .i64 (x2 + 1))
          else none
      else none
    else
      some true := by kernel_rfl
theorem S_spec_l1Printed_0_2 {x1 : (List Int)} (hl : x1.length ≤ maxLen) : ∀ (rest : List Int) (k : Nat) (r : Bool), rest = x1.drop k → P_spec_l1Printed_0_2 rest = some r → Ev (fun n => L_spec_l1Printed_0_2 n x1 (k : Int)) r := by
  intro rest
  induction rest with
  | nil =>
    intro k r hr h
    have hk := drop_nil hr
    rw [P_spec_l1Printed_0_2] at h
    refine Ev.step ?_ (fun n => L_spec_l1Printed_0_2_eq n x1 (k : Int))
    rw [show decide ((k : Int) < (x1.length : Int)) = false from decide_eq_false (by omega)]
    exact Ev.neg rfl (Ev.ofSome h)
  | cons e rest ih =>
    intro k r hr h
    obtain ⟨hk, hx, hr2⟩ := drop_cons (d := 0) hr
    have hw := wrap_succ hl hk
    have ih2 : ∀ (r : Bool), P_spec_l1Printed_0_2 rest = some r → Ev (fun n => L_spec_l1Printed_0_2 n x1 (IntKind.wrap .i64 ((k : Int) + 1))) r := by
      intro r h; rw [hw]; exact ih (k + 1) r hr2 h
    rw [P_spec_l1Printed_0_2] at h
    refine Ev.step ?_ (fun n => L_spec_l1Printed_0_2_eq n x1 (k : Int))
    rw [show decide ((k : Int) < (x1.length : Int)) = true from decide_eq_true (by omega), inB_nat2 hk, hx]
    exact Ev.pos rfl (Ev.pos rfl (Ev.ofBif h (fun h => (Ev.ofSome h)) (fun h => (Ev.pos rfl (Ev.ofBif h (fun h => (Ev.ofSome h)) (fun h => (ih2  _ h)))))))
theorem S_spec_l1Printed (a0 : (List Int)) {r : Bool} (h : P_spec_l1Printed a0 = some r) : Ev (fun n => F_spec_l1Printed n a0) r := by
  rw [P_spec_l1Printed] at h
  refine Ev.of_eq ?_ (fun n => F_spec_l1Printed_eq n a0)
  exact (Ev.ofLen h fun hl h => S_spec_l1Printed_0_2 hl _ (0 : Nat) _ rfl h)
theorem hcs_spec_l1Printed : ∀ x ∈ cs_spec_l1Printed, CtrOk Tryd.prog x := conOf_nil
theorem ok_spec_l1Printed : CtrOk Tryd.prog (c_spec_l1Printed) := by
  refine ctr_of_run (c := c_spec_l1Printed) (by kernel_rfl) (by kernel_rfl : Tryd.prog.funcs[74]? = some Tryd.f74) (code := Tryd.f74.body.getD .skip) (by kernel_rfl) (by kernel_rfl) (by kernel_rfl) (A := A_spec_l1Printed) (I := In_spec_l1Printed) (hcs_spec_l1Printed) ?_
  rintro ⟨a0, u⟩ y hy
  exact (S_spec_l1Printed a0 hy).get

/-! ## spec.GoodName (43) -/
noncomputable def P_spec_GoodName_0_4 : List Int → Option Bool
  | [] =>
      some true
  | e :: rest =>
      bif !(T_spec_l1Letter (e)) then
        bif !(T_spec_l1Digit (e)) then
          bif !decide (e = 95) then
            some false
          else
            P_spec_GoodName_0_4 rest
        else
          P_spec_GoodName_0_4 rest
      else
        P_spec_GoodName_0_4 rest
noncomputable def P_spec_GoodName (a0 : (List Int)) : Option Bool :=
  bif decide ((a0.length : Int) < 1) then
    some false
  else
    bif decide ((30 : Int) < (a0.length : Int)) then
      some false
    else
      bif inB 0 a0.length then
        bif T_spec_l1Digit (rd a0 0 0) then
          some false
        else
          lenOk a0 (P_spec_GoodName_0_4 a0)
      else none
noncomputable def c_spec_GoodName : Ctr := ⟨43, [.str], [.bool], fun x => P_spec_GoodName x.1⟩
def A_spec_GoodName : List (List Nat × Ann) := [([0, 4], [.keep 0 0, .keep 0 3])]
def In_spec_GoodName : List (List Nat × Nat) := []
noncomputable def cs_spec_GoodName : List Ctr := [c_spec_l1Digit, c_spec_l1Letter]
noncomputable def F_spec_GoodName (n : Nat) (a0 : (List Int)) : Option Bool := run Tryd.prog A_spec_GoodName In_spec_GoodName (conOf cs_spec_GoodName) Tryd.f43 (Tryd.f43.body.getD .skip) (packT [.bool]) n (argsV [.str] (a0, ()))
noncomputable abbrev L_spec_GoodName_0_4 (n : Nat) (x1 : (List Int)) (x2 : Int) : Option Bool := lam Tryd.prog A_spec_GoodName In_spec_GoodName (conOf cs_spec_GoodName) Tryd.f43 (Tryd.f43.body.getD .skip) (packT [.bool]) n [0, 4] [.d .str x1, .d I64 x2]
theorem F_spec_GoodName_eq (n : Nat) (a0 : (List Int)) : F_spec_GoodName n a0 =
    bif decide ((a0.length : Int) < 1) then
      some false
    else
      bif decide ((30 : Int) < (a0.length : Int)) then
        some false
      else
        bif inB 0 a0.length then
          bif T_spec_l1Digit (rd a0 0 0) then
            some false
          else
            L_spec_GoodName_0_4 n a0 0
        else none := by kernel_rfl
theorem L_spec_GoodName_0_4_eq (n : Nat) (x1 : (List Int)) (x2 : Int) : L_spec_GoodName_0_4 (n + 1) x1 x2 =
    bif decide (x2 < (x1.length : Int)) then
      bif inB x2 x1.length then
        bif !(T_spec_l1Letter (rd x1 x2 0)) then
          bif inB x2 x1.length then
            bif !(T_spec_l1Digit (rd x1 x2 0)) then
              bif inB x2 x1.length then
                bif !decide (rd x1 x2 0 = 95) then
                  some false
                else
                  L_spec_GoodName_0_4 n x1 (IntKind.wrap .i64 (x2 + 1))
              else none
            else
              L_spec_GoodName_0_4 n x1 (IntKind.wrap .i64 (x2 + 1))
          else none
        else
          L_spec_GoodName_0_4 n x1 (IntKind.wrap .i64 (x2 + 1))
      else none
    else
      some true := by kernel_rfl
theorem S_spec_GoodName_0_4 {x1 : (List Int)} (hl : x1.length ≤ maxLen) : ∀ (rest : List Int) (k : Nat) (r : Bool), rest = x1.drop k → P_spec_GoodName_0_4 rest = some r → Ev (fun n => L_spec_GoodName_0_4 n x1 (k : Int)) r := by
  intro rest
  induction rest with
  | nil =>
    intro k r hr h
    have hk := drop_nil hr
    rw [P_spec_GoodName_0_4] at h
    refine Ev.step ?_ (fun n => L_spec_GoodName_0_4_eq n x1 (k : Int))
    rw [show decide ((k : Int) < (x1.length : Int)) = false from decide_eq_false (by omega)]
    exact Ev.neg rfl (Ev.ofSome h)
  | cons e rest ih =>
    intro k r hr h
    obtain ⟨hk, hx, hr2⟩ := drop_cons (d := 0) hr
    have hw := wrap_succ hl hk
    have ih2 : ∀ (r : Bool), P_spec_GoodName_0_4 rest = some r → Ev (fun n => L_spec_GoodName_0_4 n x1 (IntKind.wrap .i64 ((k : Int) + 1))) r := by
      intro r h; rw [hw]; exact ih (k + 1) r hr2 h
    rw [P_spec_GoodName_0_4] at h
    refine Ev.step ?_ (fun n => L_spec_GoodName_0_4_eq n x1 (k : Int))
    rw [show decide ((k : Int) < (x1.length : Int)) = true from decide_eq_true (by omega), inB_nat2 hk, hx]
    exact Ev.pos rfl (Ev.pos rfl (Ev.ofBif h (fun h => (Ev.pos rfl (Ev.ofBif h (fun h => (Ev.pos rfl (Ev.ofBif h (fun h => (Ev.ofSome h)) (fun h => (ih2  _ h))))) (fun h => (ih2  _ h))))) (fun h => (ih2  _ h))))
theorem S_spec_GoodName (a0 : (List Int)) {r : Bool} (h : P_spec_GoodName a0 = some r) : Ev (fun n => F_spec_GoodName n a0) r := by
  rw [P_spec_GoodName] at h
  refine Ev.of_eq ?_ (fun n => F_spec_GoodName_eq n a0)
  exact (Ev.ofBif h (fun h => (Ev.ofSome h)) (fun h => (Ev.ofBif h (fun h => (Ev.ofSome h)) (fun h => (Ev.ofBif h (fun h => (Ev.ofBif h (fun h => (Ev.ofSome h)) (fun h => (Ev.ofLen h fun hl h => S_spec_GoodName_0_4 hl _ (0 : Nat) _ rfl h)))) (fun h => (Ev.ofNone h)))))))
theorem hcs_spec_GoodName : ∀ x ∈ cs_spec_GoodName, CtrOk Tryd.prog x := (conOf_cons ok_spec_l1Digit (conOf_cons ok_spec_l1Letter conOf_nil))
theorem ok_spec_GoodName : CtrOk Tryd.prog (c_spec_GoodName) := by
  refine ctr_of_run (c := c_spec_GoodName) (by kernel_rfl) (by kernel_rfl : Tryd.prog.funcs[43]? = some Tryd.f43) (code := Tryd.f43.body.getD .skip) (by kernel_rfl) (by kernel_rfl) (by kernel_rfl) (A := A_spec_GoodName) (I := In_spec_GoodName) (hcs_spec_GoodName) ?_
  rintro ⟨a0, u⟩ y hy
  exact (S_spec_GoodName a0 hy).get

/-! ## spec.l1Pow2 (75) -/
noncomputable def P_spec_l1Pow2_0_3 (x1 : Int) : Nat → Int → Int → Option Int
  | 0, _, _ => none
  | m + 1, x2, x3 =>
      bif decide (x3 < x1) then
        P_spec_l1Pow2_0_3 x1 m (IntKind.wrap .i64 (x2 * 2)) (IntKind.wrap .i64 (x3 + 1))
      else
        some x2
noncomputable def P_spec_l1Pow2 (m : Nat) (a0 : Int) : Option Int :=
  P_spec_l1Pow2_0_3 a0 m 1 0
noncomputable def E_spec_l1Pow2 (a0 : Int) : Option Int := evOpt fun m => P_spec_l1Pow2 m a0
noncomputable def c_spec_l1Pow2 : Ctr := ⟨75, [I64], [I64], fun x => E_spec_l1Pow2 x.1⟩
def A_spec_l1Pow2 : List (List Nat × Ann) := [([0, 3], [.keep 0 0, .keep 0 3, .keep 0 4])]
def In_spec_l1Pow2 : List (List Nat × Nat) := []
noncomputable def cs_spec_l1Pow2 : List Ctr := []
noncomputable def F_spec_l1Pow2 (n : Nat) (a0 : Int) : Option Int := run Tryd.prog A_spec_l1Pow2 In_spec_l1Pow2 (conOf cs_spec_l1Pow2) Tryd.f75 (Tryd.f75.body.getD .skip) (packT [I64]) n (argsV [I64] (a0, ()))
noncomputable abbrev L_spec_l1Pow2_0_3 (n : Nat) (x1 : Int) (x2 : Int) (x3 : Int) : Option Int := lam Tryd.prog A_spec_l1Pow2 In_spec_l1Pow2 (conOf cs_spec_l1Pow2) Tryd.f75 (Tryd.f75.body.getD .skip) (packT [I64]) n [0, 3] [.d I64 x1, .d I64 x2, .d I64 x3]
theorem F_spec_l1Pow2_eq (n : Nat) (a0 : Int) : F_spec_l1Pow2 n a0 =
    L_spec_l1Pow2_0_3 n a0 1 0 := by kernel_rfl
theorem L_spec_l1Pow2_0_3_eq (n : Nat) (x1 : Int) (x2 : Int) (x3 : Int) : L_spec_l1Pow2_0_3 (n + 1) x1 x2 x3 =
    bif decide (x3 < x1) then
      L_spec_l1Pow2_0_3 n x1 (IntKind.wrap .i64 (x2 * 2)) (IntKind.wrap .i64 (x3 + 1))
    else
      some x2 := by kernel_rfl
theorem S_spec_l1Pow2_0_3 {x1 : Int} : ∀ (m : Nat) (x2 : Int) (x3 : Int) (r : Int), P_spec_l1Pow2_0_3 x1 m x2 x3 = some r → Ev (fun n => L_spec_l1Pow2_0_3 n x1 x2 x3) r := by
  intro m
  induction m with
  | zero => intro x2 x3 r h; rw [P_spec_l1Pow2_0_3] at h; exact Ev.ofNone h
  | succ m ih2 =>
    intro x2 x3 r h
    rw [P_spec_l1Pow2_0_3] at h
    refine Ev.step ?_ (fun n => L_spec_l1Pow2_0_3_eq n x1 x2 x3)
    exact (Ev.ofBif h (fun h => (ih2 _ _ _ h)) (fun h => (Ev.ofSome h)))
theorem S_spec_l1Pow2 {m : Nat} (a0 : Int) {r : Int} (h : P_spec_l1Pow2 m a0 = some r) : Ev (fun n => F_spec_l1Pow2 n a0) r := by
  rw [P_spec_l1Pow2] at h
  refine Ev.of_eq ?_ (fun n => F_spec_l1Pow2_eq n a0)
  exact (S_spec_l1Pow2_0_3 _ _ _ _ h)
theorem hcs_spec_l1Pow2 : ∀ x ∈ cs_spec_l1Pow2, CtrOk Tryd.prog x := conOf_nil
theorem ok_spec_l1Pow2 : CtrOk Tryd.prog (c_spec_l1Pow2) := by
  refine ctr_of_run (c := c_spec_l1Pow2) (by kernel_rfl) (by kernel_rfl : Tryd.prog.funcs[75]? = some Tryd.f75) (code := Tryd.f75.body.getD .skip) (by kernel_rfl) (by kernel_rfl) (by kernel_rfl) (A := A_spec_l1Pow2) (I := In_spec_l1Pow2) (hcs_spec_l1Pow2) ?_
  rintro ⟨a0, u⟩ y hy
  exact let ⟨_, h⟩ := (evOpt_get hy).get; (S_spec_l1Pow2 a0 h).get

/-! ## spec.l1Block (76) -/
noncomputable def P_spec_l1Block (a0 : DAtom) : Option (Int × Int) :=
  Option.bind (E_spec_l1Pow2 (IntKind.wrap .i64 (32 - (Int.tmod a0.2.1 64)))) fun (y1 : Int) =>
  some (IntKind.wrap .i64 (Int.tdiv a0.2.1 64), y1)
noncomputable def c_spec_l1Block : Ctr := ⟨76, [TyAtom], [I64, I64], fun x => P_spec_l1Block x.1⟩
def A_spec_l1Block : List (List Nat × Ann) := []
def In_spec_l1Block : List (List Nat × Nat) := []
noncomputable def cs_spec_l1Block : List Ctr := [c_spec_l1Pow2]
noncomputable def F_spec_l1Block (n : Nat) (a0 : DAtom) : Option (Int × Int) := run Tryd.prog A_spec_l1Block In_spec_l1Block (conOf cs_spec_l1Block) Tryd.f76 (Tryd.f76.body.getD .skip) (packT [I64, I64]) n (argsV [TyAtom] (a0, ()))
theorem F_spec_l1Block_eq (n : Nat) (a0 : DAtom) : F_spec_l1Block n a0 =
    Option.bind (E_spec_l1Pow2 (IntKind.wrap .i64 (32 - (Int.tmod a0.2.1 64)))) fun (y1 : Int) =>
    some (IntKind.wrap .i64 (Int.tdiv a0.2.1 64), y1) := by kernel_rfl
theorem S_spec_l1Block (a0 : DAtom) {r : (Int × Int)} (h : P_spec_l1Block a0 = some r) : Ev (fun n => F_spec_l1Block n a0) r := by
  rw [P_spec_l1Block] at h
  refine Ev.of_eq ?_ (fun n => F_spec_l1Block_eq n a0)
  exact (Ev.ofBind h fun y1 h => (Ev.ofSome h))
theorem hcs_spec_l1Block : ∀ x ∈ cs_spec_l1Block, CtrOk Tryd.prog x := (conOf_cons ok_spec_l1Pow2 conOf_nil)
theorem ok_spec_l1Block : CtrOk Tryd.prog (c_spec_l1Block) := by
  refine ctr_of_run (c := c_spec_l1Block) (by kernel_rfl) (by kernel_rfl : Tryd.prog.funcs[76]? = some Tryd.f76) (code := Tryd.f76.body.getD .skip) (by kernel_rfl) (by kernel_rfl) (by kernel_rfl) (A := A_spec_l1Block) (I := In_spec_l1Block) (hcs_spec_l1Block) ?_
  rintro ⟨a0, u⟩ y hy
  exact (S_spec_l1Block a0 hy).get

/-! ## spec.GoodAtom (27) -/
noncomputable def P_spec_GoodAtom_1_8 (x1 : Int) (x2 : Bool) (x3 : DAtom) : Option Bool :=
  bif x2 then
    some true
  else
    bif decide (x1 = 3) then
      bif decide (x3.2.1 = 0) then
        bif decide ((x3.2.2.1.length : Int) ≤ 200) then
          Option.bind (P_spec_l1Printed x3.2.2.1) fun (y1 : Bool) =>
          some y1
        else
          some false
      else
        some false
    else
      bif decide (x1 = 4) then
        bif decide (x3.2.1 = 0) then
          Option.bind (P_spec_GoodName x3.2.2.2) fun (y2 : Bool) =>
          bif y2 then
            bif decide ((1 : Int) ≤ (x3.2.2.1.length : Int)) then
              bif decide ((x3.2.2.1.length : Int) ≤ 200) then
                Option.bind (P_spec_l1Printed x3.2.2.1) fun (y3 : Bool) =>
                some y3
              else
                some false
            else
              some false
          else
            some false
        else
          some false
      else
        bif decide (x1 = 6) then
          bif decide (x3.2.1 < 0) then
            some false
          else
            Option.bind (E_spec_l1Pow2 32) fun (y4 : Int) =>
            bif decide (IntKind.wrap .i64 (y4 - 1) < IntKind.wrap .i64 (Int.tdiv x3.2.1 64)) then
              some false
            else
              bif decide ((32 : Int) < Int.tmod x3.2.1 64) then
                some false
              else
                Option.bind (P_spec_l1Block x3) fun (y5 : (Int × Int)) =>
                bif decide (y5.2 = 0) then none else
                some (decide (Int.tmod y5.1 y5.2 = 0))
        else
          bif decide (x1 = 7) then
            bif decide (((-100000000000) : Int) ≤ x3.2.1) then
              some (decide (x3.2.1 ≤ 100000000000))
            else
              some false
          else
            some false
noncomputable def P_spec_GoodAtom_1_3 (x1 : DAtom) : Option Bool :=
  bif decide (x1.1 = 1) then
    bif decide (x1.2.1 = 0) then
      some true
    else
      some (decide (x1.2.1 = 1))
  else
    bif decide (x1.1 = 2) then
      P_spec_GoodAtom_1_8 x1.1 (decide (x1.1 = 2)) x1
    else
      P_spec_GoodAtom_1_8 x1.1 (decide (x1.1 = 5)) x1
noncomputable def P_spec_GoodAtom (a0 : DAtom) : Option Bool :=
  bif !decide (a0.1 = 3) then
    bif !decide (a0.1 = 4) then
      bif !decide (a0.2.2.1 = ([] : List Int)) then
        some false
      else
        bif !decide (a0.1 = 4) then
          bif !decide (a0.2.2.2 = ([] : List Int)) then
            some false
          else
            P_spec_GoodAtom_1_3 a0
        else
          P_spec_GoodAtom_1_3 a0
    else
      bif !decide (a0.1 = 4) then
        bif !decide (a0.2.2.2 = ([] : List Int)) then
          some false
        else
          P_spec_GoodAtom_1_3 a0
      else
        P_spec_GoodAtom_1_3 a0
  else
    bif !decide (a0.1 = 4) then
      bif !decide (a0.2.2.2 = ([] : List Int)) then
        some false
      else
        P_spec_GoodAtom_1_3 a0
    else
      P_spec_GoodAtom_1_3 a0
noncomputable def c_spec_GoodAtom : Ctr := ⟨27, [TyAtom], [.bool], fun x => P_spec_GoodAtom x.1⟩
def A_spec_GoodAtom : List (List Nat × Ann) := [([1, 3], [.keep 0 1, .boxd 0 1 TyAtom]), ([1, 8], [.keep 0 1, .keep 0 29, .keep 0 40, .boxd 0 1 TyAtom])]
def In_spec_GoodAtom : List (List Nat × Nat) := []
noncomputable def cs_spec_GoodAtom : List Ctr := [c_spec_l1Printed, c_spec_GoodName, c_spec_l1Pow2, c_spec_l1Block]
noncomputable def F_spec_GoodAtom (n : Nat) (a0 : DAtom) : Option Bool := run Tryd.prog A_spec_GoodAtom In_spec_GoodAtom (conOf cs_spec_GoodAtom) Tryd.f27 (Tryd.f27.body.getD .skip) (packT [.bool]) n (argsV [TyAtom] (a0, ()))
noncomputable abbrev L_spec_GoodAtom_1_3 (n : Nat) (x1 : DAtom) : Option Bool := lam Tryd.prog A_spec_GoodAtom In_spec_GoodAtom (conOf cs_spec_GoodAtom) Tryd.f27 (Tryd.f27.body.getD .skip) (packT [.bool]) n [1, 3] [.ptr 0 1 0, .agg (explode TyAtom x1)]
noncomputable abbrev L_spec_GoodAtom_1_8 (n : Nat) (x1 : Int) (x2 : Bool) (x3 : DAtom) : Option Bool := lam Tryd.prog A_spec_GoodAtom In_spec_GoodAtom (conOf cs_spec_GoodAtom) Tryd.f27 (Tryd.f27.body.getD .skip) (packT [.bool]) n [1, 8] [.ptr 0 1 0, .d I64 x1, .d .bool x2, .agg (explode TyAtom x3)]
theorem F_spec_GoodAtom_eq (n : Nat) (a0 : DAtom) : F_spec_GoodAtom n a0 =
    bif !decide (a0.1 = 3) then
      bif !decide (a0.1 = 4) then
        bif !decide (a0.2.2.1 = ([] : List Int)) then
          some false
        else
          bif !decide (a0.1 = 4) then
            bif !decide (a0.2.2.2 = ([] : List Int)) then
              some false
            else
              L_spec_GoodAtom_1_3 n a0
          else
            L_spec_GoodAtom_1_3 n a0
      else
        bif !decide (a0.1 = 4) then
          bif !decide (a0.2.2.2 = ([] : List Int)) then
            some false
          else
            L_spec_GoodAtom_1_3 n a0
        else
          L_spec_GoodAtom_1_3 n a0
    else
      bif !decide (a0.1 = 4) then
        bif !decide (a0.2.2.2 = ([] : List Int)) then
          some false
        else
          L_spec_GoodAtom_1_3 n a0
      else
        L_spec_GoodAtom_1_3 n a0 := by kernel_rfl
theorem L_spec_GoodAtom_1_3_eq (n : Nat) (x1 : DAtom) : L_spec_GoodAtom_1_3 (n + 1) x1 =
    bif decide (x1.1 = 1) then
      bif decide (x1.2.1 = 0) then
        some true
      else
        some (decide (x1.2.1 = 1))
    else
      bif decide (x1.1 = 2) then
        L_spec_GoodAtom_1_8 n x1.1 (decide (x1.1 = 2)) x1
      else
        L_spec_GoodAtom_1_8 n x1.1 (decide (x1.1 = 5)) x1 := by kernel_rfl
theorem L_spec_GoodAtom_1_8_eq (n : Nat) (x1 : Int) (x2 : Bool) (x3 : DAtom) : L_spec_GoodAtom_1_8 (n + 1) x1 x2 x3 =
    bif x2 then
      some true
    else
      bif decide (x1 = 3) then
        bif decide (x3.2.1 = 0) then
          bif decide ((x3.2.2.1.length : Int) ≤ 200) then
            Option.bind (P_spec_l1Printed x3.2.2.1) fun (y1 : Bool) =>
            some y1
          else
            some false
        else
          some false
      else
        bif decide (x1 = 4) then
          bif decide (x3.2.1 = 0) then
            Option.bind (P_spec_GoodName x3.2.2.2) fun (y2 : Bool) =>
            bif y2 then
              bif decide ((1 : Int) ≤ (x3.2.2.1.length : Int)) then
                bif decide ((x3.2.2.1.length : Int) ≤ 200) then
                  Option.bind (P_spec_l1Printed x3.2.2.1) fun (y3 : Bool) =>
                  some y3
                else
                  some false
              else
                some false
            else
              some false
          else
            some false
        else
          bif decide (x1 = 6) then
            bif decide (x3.2.1 < 0) then
              some false
            else
              Option.bind (E_spec_l1Pow2 32) fun (y4 : Int) =>
              bif decide (IntKind.wrap .i64 (y4 - 1) < IntKind.wrap .i64 (Int.tdiv x3.2.1 64)) then
                some false
              else
                bif decide ((32 : Int) < Int.tmod x3.2.1 64) then
                  some false
                else
                  Option.bind (P_spec_l1Block x3) fun (y5 : (Int × Int)) =>
                  bif decide (y5.2 = 0) then none else
                  some (decide (Int.tmod y5.1 y5.2 = 0))
          else
            bif decide (x1 = 7) then
              bif decide (((-100000000000) : Int) ≤ x3.2.1) then
                some (decide (x3.2.1 ≤ 100000000000))
              else
                some false
            else
              some false := by kernel_rfl
theorem S_spec_GoodAtom_1_8 {x1 : Int} {x2 : Bool} {x3 : DAtom} {r : Bool} (h : P_spec_GoodAtom_1_8 x1 x2 x3 = some r) : Ev (fun n => L_spec_GoodAtom_1_8 n x1 x2 x3) r := by
  rw [P_spec_GoodAtom_1_8] at h
  refine Ev.step ?_ (fun n => L_spec_GoodAtom_1_8_eq n x1 x2 x3)
  exact (Ev.ofBif h (fun h => (Ev.ofSome h)) (fun h => (Ev.ofBif h (fun h => (Ev.ofBif h (fun h => (Ev.ofBif h (fun h => (Ev.ofBind h fun y1 h => (Ev.ofSome h))) (fun h => (Ev.ofSome h)))) (fun h => (Ev.ofSome h)))) (fun h => (Ev.ofBif h (fun h => (Ev.ofBif h (fun h => (Ev.ofBind h fun y2 h => (Ev.ofBif h (fun h => (Ev.ofBif h (fun h => (Ev.ofBif h (fun h => (Ev.ofBind h fun y3 h => (Ev.ofSome h))) (fun h => (Ev.ofSome h)))) (fun h => (Ev.ofSome h)))) (fun h => (Ev.ofSome h))))) (fun h => (Ev.ofSome h)))) (fun h => (Ev.ofBif h (fun h => (Ev.ofBif h (fun h => (Ev.ofSome h)) (fun h => (Ev.ofBind h fun y4 h => (Ev.ofBif h (fun h => (Ev.ofSome h)) (fun h => (Ev.ofBif h (fun h => (Ev.ofSome h)) (fun h => (Ev.ofBind h fun y5 h => (Ev.ofBif h (fun h => (Ev.ofNone h)) (fun h => (Ev.ofSome h)))))))))))) (fun h => (Ev.ofBif h (fun h => (Ev.ofBif h (fun h => (Ev.ofSome h)) (fun h => (Ev.ofSome h)))) (fun h => (Ev.ofSome h)))))))))))
theorem S_spec_GoodAtom_1_3 {x1 : DAtom} {r : Bool} (h : P_spec_GoodAtom_1_3 x1 = some r) : Ev (fun n => L_spec_GoodAtom_1_3 n x1) r := by
  rw [P_spec_GoodAtom_1_3] at h
  refine Ev.step ?_ (fun n => L_spec_GoodAtom_1_3_eq n x1)
  exact (Ev.ofBif h (fun h => (Ev.ofBif h (fun h => (Ev.ofSome h)) (fun h => (Ev.ofSome h)))) (fun h => (Ev.ofBif h (fun h => (S_spec_GoodAtom_1_8 h)) (fun h => (S_spec_GoodAtom_1_8 h)))))
theorem S_spec_GoodAtom (a0 : DAtom) {r : Bool} (h : P_spec_GoodAtom a0 = some r) : Ev (fun n => F_spec_GoodAtom n a0) r := by
  rw [P_spec_GoodAtom] at h
  refine Ev.of_eq ?_ (fun n => F_spec_GoodAtom_eq n a0)
  exact (Ev.ofBif h (fun h => (Ev.ofBif h (fun h => (Ev.ofBif h (fun h => (Ev.ofSome h)) (fun h => (Ev.ofBif h (fun h => (Ev.ofBif h (fun h => (Ev.ofSome h)) (fun h => (S_spec_GoodAtom_1_3 h)))) (fun h => (S_spec_GoodAtom_1_3 h)))))) (fun h => (Ev.ofBif h (fun h => (Ev.ofBif h (fun h => (Ev.ofSome h)) (fun h => (S_spec_GoodAtom_1_3 h)))) (fun h => (S_spec_GoodAtom_1_3 h)))))) (fun h => (Ev.ofBif h (fun h => (Ev.ofBif h (fun h => (Ev.ofSome h)) (fun h => (S_spec_GoodAtom_1_3 h)))) (fun h => (S_spec_GoodAtom_1_3 h)))))
theorem hcs_spec_GoodAtom : ∀ x ∈ cs_spec_GoodAtom, CtrOk Tryd.prog x := (conOf_cons ok_spec_l1Printed (conOf_cons ok_spec_GoodName (conOf_cons ok_spec_l1Pow2 (conOf_cons ok_spec_l1Block conOf_nil))))
theorem ok_spec_GoodAtom : CtrOk Tryd.prog (c_spec_GoodAtom) := by
  refine ctr_of_run (c := c_spec_GoodAtom) (by kernel_rfl) (by kernel_rfl : Tryd.prog.funcs[27]? = some Tryd.f27) (code := Tryd.f27.body.getD .skip) (by kernel_rfl) (by kernel_rfl) (by kernel_rfl) (A := A_spec_GoodAtom) (I := In_spec_GoodAtom) (hcs_spec_GoodAtom) ?_
  rintro ⟨a0, u⟩ y hy
  exact (S_spec_GoodAtom a0 hy).get

/-! ## spec.l10GoodHead (70) -/
noncomputable def P_spec_l10GoodHead_1_6 (x1 : Bool) (x2 : Int) (x3 : Bool) (x4 : DHead) : Option Bool :=
  bif x3 then
    bif decide (x4.2.1.1 = 4) then
      Option.bind (P_spec_GoodAtom x4.2.1) fun (y1 : Bool) =>
      bif y1 then
        some (decide (x4.2.2 = ([] : List Int)))
      else
        some false
    else
      some false
  else
    bif decide (x2 = 4) then
      bif @decide (x4.2.1 = (0, 0, ([] : List Int), ([] : List Int))) (Ty.decEq TyAtom x4.2.1 (0, 0, ([] : List Int), ([] : List Int))) then
        Option.bind (P_spec_GoodName x4.2.2) fun (y2 : Bool) =>
        some y2
      else
        some false
    else
      bif decide (x2 = 5) then
        bif decide (x2 = 5) then
          bif x1 then
            bif @decide (x4.2.1 = (0, 0, ([] : List Int), ([] : List Int))) (Ty.decEq TyAtom x4.2.1 (0, 0, ([] : List Int), ([] : List Int))) then
              some (decide (x4.2.2 = ([] : List Int)))
            else
              some false
          else
            some false
        else
          some false
      else
        bif decide (x2 = 6) then
          bif x1 then
            bif @decide (x4.2.1 = (0, 0, ([] : List Int), ([] : List Int))) (Ty.decEq TyAtom x4.2.1 (0, 0, ([] : List Int), ([] : List Int))) then
              some (decide (x4.2.2 = ([] : List Int)))
            else
              some false
          else
            some false
        else
          some false
noncomputable def P_spec_l10GoodHead (a0 : DHead) (a1 : Bool) : Option Bool :=
  bif decide (a0.1 = 1) then
    bif @decide (a0.2.1 = (0, 0, ([] : List Int), ([] : List Int))) (Ty.decEq TyAtom a0.2.1 (0, 0, ([] : List Int), ([] : List Int))) then
      some (decide (a0.2.2 = ([] : List Int)))
    else
      some false
  else
    bif decide (a0.1 = 2) then
      P_spec_l10GoodHead_1_6 a1 a0.1 (decide (a0.1 = 2)) a0
    else
      P_spec_l10GoodHead_1_6 a1 a0.1 (decide (a0.1 = 3)) a0
noncomputable def c_spec_l10GoodHead : Ctr := ⟨70, [TyHead, .bool], [.bool], fun x => P_spec_l10GoodHead x.1 x.2.1⟩
def A_spec_l10GoodHead : List (List Nat × Ann) := [([1, 6], [.keep 0 1, .keep 0 2, .keep 0 6, .keep 0 18, .boxd 0 2 TyHead])]
def In_spec_l10GoodHead : List (List Nat × Nat) := []
noncomputable def cs_spec_l10GoodHead : List Ctr := [c_spec_GoodAtom, c_spec_GoodName]
noncomputable def F_spec_l10GoodHead (n : Nat) (a0 : DHead) (a1 : Bool) : Option Bool := run Tryd.prog A_spec_l10GoodHead In_spec_l10GoodHead (conOf cs_spec_l10GoodHead) Tryd.f70 (Tryd.f70.body.getD .skip) (packT [.bool]) n (argsV [TyHead, .bool] (a0, a1, ()))
noncomputable abbrev L_spec_l10GoodHead_1_6 (n : Nat) (x1 : Bool) (x2 : Int) (x3 : Bool) (x4 : DHead) : Option Bool := lam Tryd.prog A_spec_l10GoodHead In_spec_l10GoodHead (conOf cs_spec_l10GoodHead) Tryd.f70 (Tryd.f70.body.getD .skip) (packT [.bool]) n [1, 6] [.d .bool x1, .ptr 0 2 0, .d I64 x2, .d .bool x3, .agg (explode TyHead x4)]
theorem F_spec_l10GoodHead_eq (n : Nat) (a0 : DHead) (a1 : Bool) : F_spec_l10GoodHead n a0 a1 =
    bif decide (a0.1 = 1) then
      bif @decide (a0.2.1 = (0, 0, ([] : List Int), ([] : List Int))) (Ty.decEq TyAtom a0.2.1 (0, 0, ([] : List Int), ([] : List Int))) then
        some (decide (a0.2.2 = ([] : List Int)))
      else
        some false
    else
      bif decide (a0.1 = 2) then
        L_spec_l10GoodHead_1_6 n a1 a0.1 (decide (a0.1 = 2)) a0
      else
        L_spec_l10GoodHead_1_6 n a1 a0.1 (decide (a0.1 = 3)) a0 := by kernel_rfl
theorem L_spec_l10GoodHead_1_6_eq (n : Nat) (x1 : Bool) (x2 : Int) (x3 : Bool) (x4 : DHead) : L_spec_l10GoodHead_1_6 (n + 1) x1 x2 x3 x4 =
    bif x3 then
      bif decide (x4.2.1.1 = 4) then
        Option.bind (P_spec_GoodAtom x4.2.1) fun (y1 : Bool) =>
        bif y1 then
          some (decide (x4.2.2 = ([] : List Int)))
        else
          some false
      else
        some false
    else
      bif decide (x2 = 4) then
        bif @decide (x4.2.1 = (0, 0, ([] : List Int), ([] : List Int))) (Ty.decEq TyAtom x4.2.1 (0, 0, ([] : List Int), ([] : List Int))) then
          Option.bind (P_spec_GoodName x4.2.2) fun (y2 : Bool) =>
          some y2
        else
          some false
      else
        bif decide (x2 = 5) then
          bif decide (x2 = 5) then
            bif x1 then
              bif @decide (x4.2.1 = (0, 0, ([] : List Int), ([] : List Int))) (Ty.decEq TyAtom x4.2.1 (0, 0, ([] : List Int), ([] : List Int))) then
                some (decide (x4.2.2 = ([] : List Int)))
              else
                some false
            else
              some false
          else
            some false
        else
          bif decide (x2 = 6) then
            bif x1 then
              bif @decide (x4.2.1 = (0, 0, ([] : List Int), ([] : List Int))) (Ty.decEq TyAtom x4.2.1 (0, 0, ([] : List Int), ([] : List Int))) then
                some (decide (x4.2.2 = ([] : List Int)))
              else
                some false
            else
              some false
          else
            some false := by kernel_rfl
theorem S_spec_l10GoodHead_1_6 {x1 : Bool} {x2 : Int} {x3 : Bool} {x4 : DHead} {r : Bool} (h : P_spec_l10GoodHead_1_6 x1 x2 x3 x4 = some r) : Ev (fun n => L_spec_l10GoodHead_1_6 n x1 x2 x3 x4) r := by
  rw [P_spec_l10GoodHead_1_6] at h
  refine Ev.step ?_ (fun n => L_spec_l10GoodHead_1_6_eq n x1 x2 x3 x4)
  exact (Ev.ofBif h (fun h => (Ev.ofBif h (fun h => (Ev.ofBind h fun y1 h => (Ev.ofBif h (fun h => (Ev.ofSome h)) (fun h => (Ev.ofSome h))))) (fun h => (Ev.ofSome h)))) (fun h => (Ev.ofBif h (fun h => (Ev.ofBif h (fun h => (Ev.ofBind h fun y2 h => (Ev.ofSome h))) (fun h => (Ev.ofSome h)))) (fun h => (Ev.ofBif h (fun h => (Ev.ofBif h (fun h => (Ev.ofBif h (fun h => (Ev.ofBif h (fun h => (Ev.ofSome h)) (fun h => (Ev.ofSome h)))) (fun h => (Ev.ofSome h)))) (fun h => (Ev.ofSome h)))) (fun h => (Ev.ofBif h (fun h => (Ev.ofBif h (fun h => (Ev.ofBif h (fun h => (Ev.ofSome h)) (fun h => (Ev.ofSome h)))) (fun h => (Ev.ofSome h)))) (fun h => (Ev.ofSome h)))))))))
theorem S_spec_l10GoodHead (a0 : DHead) (a1 : Bool) {r : Bool} (h : P_spec_l10GoodHead a0 a1 = some r) : Ev (fun n => F_spec_l10GoodHead n a0 a1) r := by
  rw [P_spec_l10GoodHead] at h
  refine Ev.of_eq ?_ (fun n => F_spec_l10GoodHead_eq n a0 a1)
  exact (Ev.ofBif h (fun h => (Ev.ofBif h (fun h => (Ev.ofSome h)) (fun h => (Ev.ofSome h)))) (fun h => (Ev.ofBif h (fun h => (S_spec_l10GoodHead_1_6 h)) (fun h => (S_spec_l10GoodHead_1_6 h)))))
theorem hcs_spec_l10GoodHead : ∀ x ∈ cs_spec_l10GoodHead, CtrOk Tryd.prog x := (conOf_cons ok_spec_GoodAtom (conOf_cons ok_spec_GoodName conOf_nil))
theorem ok_spec_l10GoodHead : CtrOk Tryd.prog (c_spec_l10GoodHead) := by
  refine ctr_of_run (c := c_spec_l10GoodHead) (by kernel_rfl) (by kernel_rfl : Tryd.prog.funcs[70]? = some Tryd.f70) (code := Tryd.f70.body.getD .skip) (by kernel_rfl) (by kernel_rfl) (by kernel_rfl) (A := A_spec_l10GoodHead) (I := In_spec_l10GoodHead) (hcs_spec_l10GoodHead) ?_
  rintro ⟨a0, a1, u⟩ y hy
  exact (S_spec_l10GoodHead a0 a1 hy).get

/-! ## spec.l10Take (107) -/
noncomputable def P_spec_l10Take_0_6 (Rc : (List DExpr) → Int → Int → Option (Dl10E × Int)) (x1 : (List DExpr)) (x3 : Int) : Nat → Int → Int → (List Dl10E) → Dl10E → Option (Dl10E × Int)
  | 0, _, _, _, _ => none
  | m + 1, x2, x4, x6, x7 =>
      bif decide (x4 < x7.val.2.2.2) then
        Option.bind (Rc x1 x2 (IntKind.wrap .i64 (x3 + 1))) fun (y1 : (Dl10E × Int)) =>
        bif decide (y1.2 < 0) then
          some ((Tree.node (0, ([] : List Int), (0, 0, ([] : List Int), ([] : List Int)), 0) ([])), (-1))
        else
          bif decide (((x6.length : Int) + (([(Tree.node y1.1.val y1.1.kids)] : List Dl10E).length : Int)) * 104 ≤ room) && decide ((x6.length : Int) + (([(Tree.node y1.1.val y1.1.kids)] : List Dl10E).length : Int) ≤ room) then
            P_spec_l10Take_0_6 Rc x1 x3 m y1.2 (IntKind.wrap .i64 (x4 + 1)) (x6 ++ ([(Tree.node y1.1.val y1.1.kids)] : List Dl10E)) (Tree.node x7.val (x6 ++ ([(Tree.node y1.1.val y1.1.kids)] : List Dl10E)))
          else none
      else
        some ((Tree.node x7.val x6), x2)
noncomputable def P_spec_l10Take (Rc : (List DExpr) → Int → Int → Option (Dl10E × Int)) (m : Nat) (a0 : (List DExpr)) (a1 : Int) (a2 : Int) : Option (Dl10E × Int) :=
  bif decide ((a0.length : Int) ≤ a1) then
    some ((Tree.node (0, ([] : List Int), (0, 0, ([] : List Int), ([] : List Int)), 0) ([])), (-1))
  else
    bif decide ((12 : Int) < a2) then
      some ((Tree.node (0, ([] : List Int), (0, 0, ([] : List Int), ([] : List Int)), 0) ([])), (-1))
    else
      bif inB a1 a0.length then
        bif decide ((((rd a0 a1 (Ty.dflt TyExpr)).2).2).2 < 0) then
          some ((Tree.node (0, ([] : List Int), (0, 0, ([] : List Int), ([] : List Int)), 0) ([])), (-1))
        else
          bif inB a1 a0.length then
            bif decide ((10 : Int) < (((rd a0 a1 (Ty.dflt TyExpr)).2).2).2) then
              some ((Tree.node (0, ([] : List Int), (0, 0, ([] : List Int), ([] : List Int)), 0) ([])), (-1))
            else
              bif inB a1 a0.length then
                P_spec_l10Take_0_6 Rc a0 a2 m (IntKind.wrap .i64 (a1 + 1)) 0 [] (Tree.node (rd a0 a1 (Ty.dflt TyExpr)) ([]))
              else none
          else none
      else none
noncomputable def R_spec_l10Take : Nat → (List DExpr) → Int → Int → Option (Dl10E × Int)
  | 0 => fun _ _ _ => none
  | d + 1 => fun a0 a1 a2 => evOpt fun m => P_spec_l10Take (R_spec_l10Take d) m a0 a1 a2
noncomputable def E_spec_l10Take (a0 : (List DExpr)) (a1 : Int) (a2 : Int) : Option (Dl10E × Int) := evOpt fun d => R_spec_l10Take d a0 a1 a2
noncomputable def c_spec_l10Take : Ctr := ⟨107, [(.list TyExpr), I64, I64], [Tyl10E, I64], fun x => E_spec_l10Take x.1 x.2.1 x.2.2.1⟩
def A_spec_l10Take : List (List Nat × Ann) := [([0, 6], [.keep 0 0, .keep 0 1, .keep 0 2, .keep 0 6, .keep 0 8, .keep 0 9, .boxd 0 6 Tyl10E, .ownb 0 8 7 Tyl10E, .boxd 0 8 Tyl10E])]
def In_spec_l10Take : List (List Nat × Nat) := []
noncomputable def cs_spec_l10Take (Rc : (List DExpr) → Int → Int → Option (Dl10E × Int)) : List Ctr := [⟨107, [(.list TyExpr), I64, I64], [Tyl10E, I64], fun x => Rc x.1 x.2.1 x.2.2.1⟩]
noncomputable def F_spec_l10Take (Rc : (List DExpr) → Int → Int → Option (Dl10E × Int)) (n : Nat) (a0 : (List DExpr)) (a1 : Int) (a2 : Int) : Option (Dl10E × Int) := run Tryd.prog A_spec_l10Take In_spec_l10Take (conOf (cs_spec_l10Take Rc)) Tryd.f107 (Tryd.f107.body.getD .skip) (packT [Tyl10E, I64]) n (argsV [(.list TyExpr), I64, I64] (a0, a1, a2, ()))
noncomputable abbrev L_spec_l10Take_0_6 (Rc : (List DExpr) → Int → Int → Option (Dl10E × Int)) (n : Nat) (x1 : (List DExpr)) (x2 : Int) (x3 : Int) (x4 : Int) (x5 : Dl10E) (x6 : (List Dl10E)) (x7 : Dl10E) : Option (Dl10E × Int) := lam Tryd.prog A_spec_l10Take In_spec_l10Take (conOf (cs_spec_l10Take Rc)) Tryd.f107 (Tryd.f107.body.getD .skip) (packT [Tyl10E, I64]) n [0, 6] [.d (.list TyExpr) x1, .d I64 x2, .d I64 x3, .ptr 0 6 0, .ptr 0 8 0, .d I64 x4, .agg (explode Tyl10E x5), .own 0 Tyl10E x6, .agg (explode Tyl10E x7)]
theorem F_spec_l10Take_eq (Rc : (List DExpr) → Int → Int → Option (Dl10E × Int)) (n : Nat) (a0 : (List DExpr)) (a1 : Int) (a2 : Int) : F_spec_l10Take Rc n a0 a1 a2 =
    bif decide ((a0.length : Int) ≤ a1) then
      some ((Tree.node (0, ([] : List Int), (0, 0, ([] : List Int), ([] : List Int)), 0) ([])), (-1))
    else
      bif decide ((12 : Int) < a2) then
        some ((Tree.node (0, ([] : List Int), (0, 0, ([] : List Int), ([] : List Int)), 0) ([])), (-1))
      else
        bif inB a1 a0.length then
          bif decide ((((rd a0 a1 (Ty.dflt TyExpr)).2).2).2 < 0) then
            some ((Tree.node (0, ([] : List Int), (0, 0, ([] : List Int), ([] : List Int)), 0) ([])), (-1))
          else
            bif inB a1 a0.length then
              bif decide ((10 : Int) < (((rd a0 a1 (Ty.dflt TyExpr)).2).2).2) then
                some ((Tree.node (0, ([] : List Int), (0, 0, ([] : List Int), ([] : List Int)), 0) ([])), (-1))
              else
                bif inB a1 a0.length then
                  L_spec_l10Take_0_6 Rc n a0 (IntKind.wrap .i64 (a1 + 1)) a2 0 (Tree.node (0, ([] : List Int), (0, 0, ([] : List Int), ([] : List Int)), 0) ([])) [] (Tree.node (rd a0 a1 (Ty.dflt TyExpr)) ([]))
                else none
            else none
        else none := by kernel_rfl
theorem L_spec_l10Take_0_6_eq (Rc : (List DExpr) → Int → Int → Option (Dl10E × Int)) (n : Nat) (x1 : (List DExpr)) (x2 : Int) (x3 : Int) (x4 : Int) (x5 : Dl10E) (x6 : (List Dl10E)) (x7 : Dl10E) : L_spec_l10Take_0_6 Rc (n + 1) x1 x2 x3 x4 x5 x6 x7 =
    bif decide (x4 < x7.val.2.2.2) then
      Option.bind (Rc x1 x2 (IntKind.wrap .i64 (x3 + 1))) fun (y1 : (Dl10E × Int)) =>
      bif decide (y1.2 < 0) then
        some ((Tree.node (0, ([] : List Int), (0, 0, ([] : List Int), ([] : List Int)), 0) ([])), (-1))
      else
        bif decide (((x6.length : Int) + (([(Tree.node y1.1.val y1.1.kids)] : List Dl10E).length : Int)) * 104 ≤ room) && decide ((x6.length : Int) + (([(Tree.node y1.1.val y1.1.kids)] : List Dl10E).length : Int) ≤ room) then
          L_spec_l10Take_0_6 Rc n x1 y1.2 x3 (IntKind.wrap .i64 (x4 + 1)) (Tree.node x5.val x5.kids) (x6 ++ ([(Tree.node y1.1.val y1.1.kids)] : List Dl10E)) (Tree.node x7.val (x6 ++ ([(Tree.node y1.1.val y1.1.kids)] : List Dl10E)))
        else none
    else
      some ((Tree.node x7.val x6), x2) := by kernel_rfl
theorem S_spec_l10Take_0_6 {Rc : (List DExpr) → Int → Int → Option (Dl10E × Int)} {x1 : (List DExpr)} {x3 : Int} : ∀ (m : Nat) (x2 : Int) (x4 : Int) (x5 : Dl10E) (x6 : (List Dl10E)) (x7 : Dl10E) (r : (Dl10E × Int)), P_spec_l10Take_0_6 Rc x1 x3 m x2 x4 x6 x7 = some r → Ev (fun n => L_spec_l10Take_0_6 Rc n x1 x2 x3 x4 x5 x6 x7) r := by
  intro m
  induction m with
  | zero => intro x2 x4 x5 x6 x7 r h; rw [P_spec_l10Take_0_6] at h; exact Ev.ofNone h
  | succ m ih2 =>
    intro x2 x4 x5 x6 x7 r h
    rw [P_spec_l10Take_0_6] at h
    refine Ev.step ?_ (fun n => L_spec_l10Take_0_6_eq Rc n x1 x2 x3 x4 x5 x6 x7)
    exact (Ev.ofBif h (fun h => (Ev.ofBind h fun y1 h => (Ev.ofBif h (fun h => (Ev.ofSome h)) (fun h => (Ev.ofBif h (fun h => (ih2 _ _ _ _ _ _ h)) (fun h => (Ev.ofNone h))))))) (fun h => (Ev.ofSome h)))
theorem S_spec_l10Take {Rc : (List DExpr) → Int → Int → Option (Dl10E × Int)} {m : Nat} (a0 : (List DExpr)) (a1 : Int) (a2 : Int) {r : (Dl10E × Int)} (h : P_spec_l10Take Rc m a0 a1 a2 = some r) : Ev (fun n => F_spec_l10Take Rc n a0 a1 a2) r := by
  rw [P_spec_l10Take] at h
  refine Ev.of_eq ?_ (fun n => F_spec_l10Take_eq Rc n a0 a1 a2)
  exact (Ev.ofBif h (fun h => (Ev.ofSome h)) (fun h => (Ev.ofBif h (fun h => (Ev.ofSome h)) (fun h => (Ev.ofBif h (fun h => (Ev.ofBif h (fun h => (Ev.ofSome h)) (fun h => (Ev.ofBif h (fun h => (Ev.ofBif h (fun h => (Ev.ofSome h)) (fun h => (Ev.ofBif h (fun h => (S_spec_l10Take_0_6 _ _ _ _ _ _ _ h)) (fun h => (Ev.ofNone h)))))) (fun h => (Ev.ofNone h)))))) (fun h => (Ev.ofNone h)))))))
theorem okR_spec_l10Take : ∀ d, CtrOk Tryd.prog (⟨107, [(.list TyExpr), I64, I64], [Tyl10E, I64], fun x => R_spec_l10Take d x.1 x.2.1 x.2.2.1⟩ : Ctr) := by
  intro d
  induction d with
  | zero => intro xs y hy; exact (nomatch (show (none : Option (Dl10E × Int)) = some y from hy))
  | succ d ih =>
    refine ctr_of_run (by kernel_rfl) (by kernel_rfl : Tryd.prog.funcs[107]? = some Tryd.f107) (code := Tryd.f107.body.getD .skip) (by kernel_rfl) (by kernel_rfl) (by kernel_rfl) (A := A_spec_l10Take) (I := In_spec_l10Take) (cs := cs_spec_l10Take (R_spec_l10Take d)) (conOf_cons ih conOf_nil) ?_
    rintro ⟨a0, a1, a2, u⟩ y hy
    exact let ⟨_, h⟩ := (evOpt_get hy).get; (S_spec_l10Take a0 a1 a2 h).get
theorem ok_spec_l10Take : CtrOk Tryd.prog (c_spec_l10Take) := by
  rintro ⟨a0, a1, a2, u⟩ y hy
  obtain ⟨d, hd⟩ := (evOpt_get hy).get
  exact okR_spec_l10Take d (a0, a1, a2, u) y hd

/-! ## spec.l10Arity (116) -/
noncomputable def P_spec_l10Arity_1_13 (x1 : Int) (x3 : Bool) : Option Int :=
  bif x3 then
    some 1
  else
    bif decide (x1 = 10) then
      some 3
    else
      bif decide ((8 : Int) ≤ x1) then
        bif decide (x1 ≤ 19) then
          some 2
        else
          some (-1)
      else
        some (-1)
noncomputable def P_spec_l10Arity_1_4 (x1 : Int) (x3 : Bool) : Option Int :=
  bif x3 then
    some 0
  else
    bif decide (x1 = 2) then
      some (-2)
    else
      bif decide (x1 = 4) then
        P_spec_l10Arity_1_13 x1 (decide (x1 = 4))
      else
        bif decide (x1 = 5) then
          P_spec_l10Arity_1_13 x1 (decide (x1 = 5))
        else
          bif decide (x1 = 6) then
            P_spec_l10Arity_1_13 x1 (decide (x1 = 6))
          else
            bif decide (x1 = 7) then
              P_spec_l10Arity_1_13 x1 (decide (x1 = 7))
            else
              bif decide (x1 = 20) then
                P_spec_l10Arity_1_13 x1 (decide (x1 = 20))
              else
                P_spec_l10Arity_1_13 x1 (decide (x1 = 21))
noncomputable def P_spec_l10Arity (a0 : Int) : Option Int :=
  bif decide (a0 = 1) then
    P_spec_l10Arity_1_4 a0 (decide (a0 = 1))
  else
    P_spec_l10Arity_1_4 a0 (decide (a0 = 3))
noncomputable def c_spec_l10Arity : Ctr := ⟨116, [I64], [I64], fun x => P_spec_l10Arity x.1⟩
def A_spec_l10Arity : List (List Nat × Ann) := [([1, 4], [.keep 0 0, .keep 0 3, .keep 0 4]), ([1, 13], [.keep 0 0, .keep 0 3, .keep 0 9])]
def In_spec_l10Arity : List (List Nat × Nat) := []
noncomputable def cs_spec_l10Arity : List Ctr := []
noncomputable def F_spec_l10Arity (n : Nat) (a0 : Int) : Option Int := run Tryd.prog A_spec_l10Arity In_spec_l10Arity (conOf cs_spec_l10Arity) Tryd.f116 (Tryd.f116.body.getD .skip) (packT [I64]) n (argsV [I64] (a0, ()))
noncomputable abbrev L_spec_l10Arity_1_4 (n : Nat) (x1 : Int) (x2 : Int) (x3 : Bool) : Option Int := lam Tryd.prog A_spec_l10Arity In_spec_l10Arity (conOf cs_spec_l10Arity) Tryd.f116 (Tryd.f116.body.getD .skip) (packT [I64]) n [1, 4] [.d I64 x1, .d I64 x2, .d .bool x3]
noncomputable abbrev L_spec_l10Arity_1_13 (n : Nat) (x1 : Int) (x2 : Int) (x3 : Bool) : Option Int := lam Tryd.prog A_spec_l10Arity In_spec_l10Arity (conOf cs_spec_l10Arity) Tryd.f116 (Tryd.f116.body.getD .skip) (packT [I64]) n [1, 13] [.d I64 x1, .d I64 x2, .d .bool x3]
theorem F_spec_l10Arity_eq (n : Nat) (a0 : Int) : F_spec_l10Arity n a0 =
    bif decide (a0 = 1) then
      L_spec_l10Arity_1_4 n a0 a0 (decide (a0 = 1))
    else
      L_spec_l10Arity_1_4 n a0 a0 (decide (a0 = 3)) := by kernel_rfl
theorem L_spec_l10Arity_1_4_eq (n : Nat) (x1 : Int) (x2 : Int) (x3 : Bool) : L_spec_l10Arity_1_4 (n + 1) x1 x2 x3 =
    bif x3 then
      some 0
    else
      bif decide (x2 = 2) then
        some (-2)
      else
        bif decide (x2 = 4) then
          L_spec_l10Arity_1_13 n x1 x2 (decide (x2 = 4))
        else
          bif decide (x2 = 5) then
            L_spec_l10Arity_1_13 n x1 x2 (decide (x2 = 5))
          else
            bif decide (x2 = 6) then
              L_spec_l10Arity_1_13 n x1 x2 (decide (x2 = 6))
            else
              bif decide (x2 = 7) then
                L_spec_l10Arity_1_13 n x1 x2 (decide (x2 = 7))
              else
                bif decide (x2 = 20) then
                  L_spec_l10Arity_1_13 n x1 x2 (decide (x2 = 20))
                else
                  L_spec_l10Arity_1_13 n x1 x2 (decide (x2 = 21)) := by kernel_rfl
theorem L_spec_l10Arity_1_13_eq (n : Nat) (x1 : Int) (x2 : Int) (x3 : Bool) : L_spec_l10Arity_1_13 (n + 1) x1 x2 x3 =
    bif x3 then
      some 1
    else
      bif decide (x2 = 10) then
        some 3
      else
        bif decide ((8 : Int) ≤ x1) then
          bif decide (x1 ≤ 19) then
            some 2
          else
            some (-1)
        else
          some (-1) := by kernel_rfl
theorem S_spec_l10Arity_1_13 {x1 : Int} {x3 : Bool} {r : Int} (h : P_spec_l10Arity_1_13 x1 x3 = some r) : Ev (fun n => L_spec_l10Arity_1_13 n x1 x1 x3) r := by
  rw [P_spec_l10Arity_1_13] at h
  refine Ev.step ?_ (fun n => L_spec_l10Arity_1_13_eq n x1 x1 x3)
  exact (Ev.ofBif h (fun h => (Ev.ofSome h)) (fun h => (Ev.ofBif h (fun h => (Ev.ofSome h)) (fun h => (Ev.ofBif h (fun h => (Ev.ofBif h (fun h => (Ev.ofSome h)) (fun h => (Ev.ofSome h)))) (fun h => (Ev.ofSome h)))))))
theorem S_spec_l10Arity_1_4 {x1 : Int} {x3 : Bool} {r : Int} (h : P_spec_l10Arity_1_4 x1 x3 = some r) : Ev (fun n => L_spec_l10Arity_1_4 n x1 x1 x3) r := by
  rw [P_spec_l10Arity_1_4] at h
  refine Ev.step ?_ (fun n => L_spec_l10Arity_1_4_eq n x1 x1 x3)
  exact (Ev.ofBif h (fun h => (Ev.ofSome h)) (fun h => (Ev.ofBif h (fun h => (Ev.ofSome h)) (fun h => (Ev.ofBif h (fun h => (S_spec_l10Arity_1_13 h)) (fun h => (Ev.ofBif h (fun h => (S_spec_l10Arity_1_13 h)) (fun h => (Ev.ofBif h (fun h => (S_spec_l10Arity_1_13 h)) (fun h => (Ev.ofBif h (fun h => (S_spec_l10Arity_1_13 h)) (fun h => (Ev.ofBif h (fun h => (S_spec_l10Arity_1_13 h)) (fun h => (S_spec_l10Arity_1_13 h)))))))))))))))
theorem S_spec_l10Arity (a0 : Int) {r : Int} (h : P_spec_l10Arity a0 = some r) : Ev (fun n => F_spec_l10Arity n a0) r := by
  rw [P_spec_l10Arity] at h
  refine Ev.of_eq ?_ (fun n => F_spec_l10Arity_eq n a0)
  exact (Ev.ofBif h (fun h => (S_spec_l10Arity_1_4 h)) (fun h => (S_spec_l10Arity_1_4 h)))
theorem hcs_spec_l10Arity : ∀ x ∈ cs_spec_l10Arity, CtrOk Tryd.prog x := conOf_nil
theorem ok_spec_l10Arity : CtrOk Tryd.prog (c_spec_l10Arity) := by
  refine ctr_of_run (c := c_spec_l10Arity) (by kernel_rfl) (by kernel_rfl : Tryd.prog.funcs[116]? = some Tryd.f116) (code := Tryd.f116.body.getD .skip) (by kernel_rfl) (by kernel_rfl) (by kernel_rfl) (A := A_spec_l10Arity) (I := In_spec_l10Arity) (hcs_spec_l10Arity) ?_
  rintro ⟨a0, u⟩ y hy
  exact (S_spec_l10Arity a0 hy).get

/-! ## spec.l10Vars (117) -/
noncomputable def T_spec_l10Vars  : (List (List Int)) :=
  ([([112, 114, 105, 110, 99, 105, 112, 97, 108] : List Int), ([97, 99, 116, 105, 111, 110] : List Int), ([114, 101, 115, 111, 117, 114, 99, 101] : List Int), ([99, 111, 110, 116, 101, 120, 116] : List Int)] : List (List Int))
noncomputable def c_spec_l10Vars : Ctr := ⟨117, [], [(.list .str)], fun x => some (T_spec_l10Vars)⟩
def A_spec_l10Vars : List (List Nat × Ann) := []
def In_spec_l10Vars : List (List Nat × Nat) := []
noncomputable def cs_spec_l10Vars : List Ctr := []
noncomputable def F_spec_l10Vars (n : Nat)  : Option (List (List Int)) := run Tryd.prog A_spec_l10Vars In_spec_l10Vars (conOf cs_spec_l10Vars) Tryd.f117 (Tryd.f117.body.getD .skip) (packT [(.list .str)]) n (argsV [] (()))
theorem F_spec_l10Vars_eq (n : Nat)  : F_spec_l10Vars n  =
    some ([([112, 114, 105, 110, 99, 105, 112, 97, 108] : List Int), ([97, 99, 116, 105, 111, 110] : List Int), ([114, 101, 115, 111, 117, 114, 99, 101] : List Int), ([99, 111, 110, 116, 101, 120, 116] : List Int)] : List (List Int)) := by kernel_rfl
theorem S_spec_l10Vars (n : Nat)  : F_spec_l10Vars n  = some (T_spec_l10Vars ) := (F_spec_l10Vars_eq n ).trans rfl
theorem hcs_spec_l10Vars : ∀ x ∈ cs_spec_l10Vars, CtrOk Tryd.prog x := conOf_nil
theorem ok_spec_l10Vars : CtrOk Tryd.prog (c_spec_l10Vars) := by
  refine ctr_of_run (c := c_spec_l10Vars) (by kernel_rfl) (by kernel_rfl : Tryd.prog.funcs[117]? = some Tryd.f117) (code := Tryd.f117.body.getD .skip) (by kernel_rfl) (by kernel_rfl) (by kernel_rfl) (A := A_spec_l10Vars) (I := In_spec_l10Vars) (hcs_spec_l10Vars) ?_
  rintro ⟨u⟩ y hy
  exact ⟨0, (S_spec_l10Vars 0 ).trans hy⟩

/-! ## spec.l3Has (48) -/
noncomputable def P_spec_l3Has_0_2 (x1 : (List Int)) : List (List Int) → Option Bool
  | [] =>
      some false
  | e :: rest =>
      bif decide (e = x1) then
        some true
      else
        P_spec_l3Has_0_2 x1 rest
noncomputable def P_spec_l3Has (a0 : (List (List Int))) (a1 : (List Int)) : Option Bool :=
  lenOk a0 (P_spec_l3Has_0_2 a1 a0)
noncomputable def c_spec_l3Has : Ctr := ⟨48, [(.list .str), .str], [.bool], fun x => P_spec_l3Has x.1 x.2.1⟩
def A_spec_l3Has : List (List Nat × Ann) := [([0, 2], [.keep 0 1, .keep 0 7, .keep 0 8, .keep 0 9])]
def In_spec_l3Has : List (List Nat × Nat) := []
noncomputable def cs_spec_l3Has : List Ctr := []
noncomputable def F_spec_l3Has (n : Nat) (a0 : (List (List Int))) (a1 : (List Int)) : Option Bool := run Tryd.prog A_spec_l3Has In_spec_l3Has (conOf cs_spec_l3Has) Tryd.f48 (Tryd.f48.body.getD .skip) (packT [.bool]) n (argsV [(.list .str), .str] (a0, a1, ()))
noncomputable abbrev L_spec_l3Has_0_2 (n : Nat) (x1 : (List Int)) (x2 : (List (List Int))) (x3 : Int) (x4 : Int) : Option Bool := lam Tryd.prog A_spec_l3Has In_spec_l3Has (conOf cs_spec_l3Has) Tryd.f48 (Tryd.f48.body.getD .skip) (packT [.bool]) n [0, 2] [.d .str x1, .d (.list .str) x2, .d I64 x3, .d I64 x4]
theorem F_spec_l3Has_eq (n : Nat) (a0 : (List (List Int))) (a1 : (List Int)) : F_spec_l3Has n a0 a1 =
    L_spec_l3Has_0_2 n a1 a0 (a0.length : Int) 0 := by kernel_rfl
theorem L_spec_l3Has_0_2_eq (n : Nat) (x1 : (List Int)) (x2 : (List (List Int))) (x3 : Int) (x4 : Int) : L_spec_l3Has_0_2 (n + 1) x1 x2 x3 x4 =
    bif decide (x4 < x3) then
      bif inB x4 x2.length then
        bif decide (rd x2 x4 (Ty.dflt .str) = x1) then
          some true
        else
          L_spec_l3Has_0_2 n x1 x2 x3 (IntKind.wrap .i64 (x4 + 1))
      else none
    else
      some false := by kernel_rfl
theorem S_spec_l3Has_0_2 {x1 : (List Int)} {x2 : (List (List Int))} (hl : x2.length ≤ maxLen) : ∀ (rest : List (List Int)) (k : Nat) (r : Bool), rest = x2.drop k → P_spec_l3Has_0_2 x1 rest = some r → Ev (fun n => L_spec_l3Has_0_2 n x1 x2 (x2.length : Int) (k : Int)) r := by
  intro rest
  induction rest with
  | nil =>
    intro k r hr h
    have hk := drop_nil hr
    rw [P_spec_l3Has_0_2] at h
    refine Ev.step ?_ (fun n => L_spec_l3Has_0_2_eq n x1 x2 (x2.length : Int) (k : Int))
    rw [show decide ((k : Int) < (x2.length : Int)) = false from decide_eq_false (by omega)]
    exact Ev.neg rfl (Ev.ofSome h)
  | cons e rest ih =>
    intro k r hr h
    obtain ⟨hk, hx, hr2⟩ := drop_cons (d := (Ty.dflt .str)) hr
    have hw := wrap_succ hl hk
    have ih2 : ∀ (r : Bool), P_spec_l3Has_0_2 x1 rest = some r → Ev (fun n => L_spec_l3Has_0_2 n x1 x2 (x2.length : Int) (IntKind.wrap .i64 ((k : Int) + 1))) r := by
      intro r h; rw [hw]; exact ih (k + 1) r hr2 h
    rw [P_spec_l3Has_0_2] at h
    refine Ev.step ?_ (fun n => L_spec_l3Has_0_2_eq n x1 x2 (x2.length : Int) (k : Int))
    rw [show decide ((k : Int) < (x2.length : Int)) = true from decide_eq_true (by omega), inB_nat2 hk, hx]
    exact Ev.pos rfl (Ev.pos rfl (Ev.ofBif h (fun h => (Ev.ofSome h)) (fun h => (ih2  _ h))))
theorem S_spec_l3Has (a0 : (List (List Int))) (a1 : (List Int)) {r : Bool} (h : P_spec_l3Has a0 a1 = some r) : Ev (fun n => F_spec_l3Has n a0 a1) r := by
  rw [P_spec_l3Has] at h
  refine Ev.of_eq ?_ (fun n => F_spec_l3Has_eq n a0 a1)
  exact (Ev.ofLen h fun hl h => S_spec_l3Has_0_2 hl _ (0 : Nat) _ rfl h)
theorem hcs_spec_l3Has : ∀ x ∈ cs_spec_l3Has, CtrOk Tryd.prog x := conOf_nil
theorem ok_spec_l3Has : CtrOk Tryd.prog (c_spec_l3Has) := by
  refine ctr_of_run (c := c_spec_l3Has) (by kernel_rfl) (by kernel_rfl : Tryd.prog.funcs[48]? = some Tryd.f48) (code := Tryd.f48.body.getD .skip) (by kernel_rfl) (by kernel_rfl) (by kernel_rfl) (A := A_spec_l3Has) (I := In_spec_l3Has) (hcs_spec_l3Has) ?_
  rintro ⟨a0, a1, u⟩ y hy
  exact (S_spec_l3Has a0 a1 hy).get

/-! ## spec.l1Tokens (118) -/
noncomputable def P_spec_l1Tokens_0_3 (x1 : (List Int)) : Nat → (List Int) → Int → Option ((List Int) × Bool)
  | 0, _, _ => none
  | m + 1, x2, x3 =>
      bif decide (x3 < (x1.length : Int)) then
        bif inB x3 x1.length then
          bif decide (rd x1 x3 0 = 42) then
            bif decide (((x2.length : Int) + (([256] : List Int).length : Int)) * 8 ≤ room) && decide ((x2.length : Int) + (([256] : List Int).length : Int) ≤ room) then
              P_spec_l1Tokens_0_3 x1 m (x2 ++ ([256] : List Int)) (IntKind.wrap .i64 (x3 + 1))
            else none
          else
            bif decide (rd x1 x3 0 = 92) then
              bif decide (IntKind.wrap .i64 (x3 + 1) = (x1.length : Int)) then
                some ([], false)
              else
                bif inB (IntKind.wrap .i64 (x3 + 1)) x1.length then
                  bif !decide (rd x1 (IntKind.wrap .i64 (x3 + 1)) 0 = 42) then
                    bif inB (IntKind.wrap .i64 (x3 + 1)) x1.length then
                      bif !decide (rd x1 (IntKind.wrap .i64 (x3 + 1)) 0 = 92) then
                        some ([], false)
                      else
                        bif inB (IntKind.wrap .i64 (x3 + 1)) x1.length then
                          bif decide (((x2.length : Int) + (([IntKind.wrap .i64 (rd x1 (IntKind.wrap .i64 (x3 + 1)) 0)] : List Int).length : Int)) * 8 ≤ room) && decide ((x2.length : Int) + (([IntKind.wrap .i64 (rd x1 (IntKind.wrap .i64 (x3 + 1)) 0)] : List Int).length : Int) ≤ room) then
                            P_spec_l1Tokens_0_3 x1 m (x2 ++ ([IntKind.wrap .i64 (rd x1 (IntKind.wrap .i64 (x3 + 1)) 0)] : List Int)) (IntKind.wrap .i64 ((IntKind.wrap .i64 (x3 + 1)) + 1))
                          else none
                        else none
                    else none
                  else
                    bif inB (IntKind.wrap .i64 (x3 + 1)) x1.length then
                      bif decide (((x2.length : Int) + (([IntKind.wrap .i64 (rd x1 (IntKind.wrap .i64 (x3 + 1)) 0)] : List Int).length : Int)) * 8 ≤ room) && decide ((x2.length : Int) + (([IntKind.wrap .i64 (rd x1 (IntKind.wrap .i64 (x3 + 1)) 0)] : List Int).length : Int) ≤ room) then
                        P_spec_l1Tokens_0_3 x1 m (x2 ++ ([IntKind.wrap .i64 (rd x1 (IntKind.wrap .i64 (x3 + 1)) 0)] : List Int)) (IntKind.wrap .i64 ((IntKind.wrap .i64 (x3 + 1)) + 1))
                      else none
                    else none
                else none
            else
              bif inB x3 x1.length then
                bif decide (((x2.length : Int) + (([IntKind.wrap .i64 (rd x1 x3 0)] : List Int).length : Int)) * 8 ≤ room) && decide ((x2.length : Int) + (([IntKind.wrap .i64 (rd x1 x3 0)] : List Int).length : Int) ≤ room) then
                  P_spec_l1Tokens_0_3 x1 m (x2 ++ ([IntKind.wrap .i64 (rd x1 x3 0)] : List Int)) (IntKind.wrap .i64 (x3 + 1))
                else none
              else none
        else none
      else
        some (x2, true)
noncomputable def P_spec_l1Tokens (m : Nat) (a0 : (List Int)) : Option ((List Int) × Bool) :=
  P_spec_l1Tokens_0_3 a0 m [] 0
noncomputable def E_spec_l1Tokens (a0 : (List Int)) : Option ((List Int) × Bool) := evOpt fun m => P_spec_l1Tokens m a0
noncomputable def c_spec_l1Tokens : Ctr := ⟨118, [.str], [(.list I64), .bool], fun x => E_spec_l1Tokens x.1⟩
def A_spec_l1Tokens : List (List Nat × Ann) := [([0, 3], [.keep 0 0, .own 0 4 I64, .keep 0 5])]
def In_spec_l1Tokens : List (List Nat × Nat) := []
noncomputable def cs_spec_l1Tokens : List Ctr := []
noncomputable def F_spec_l1Tokens (n : Nat) (a0 : (List Int)) : Option ((List Int) × Bool) := run Tryd.prog A_spec_l1Tokens In_spec_l1Tokens (conOf cs_spec_l1Tokens) Tryd.f118 (Tryd.f118.body.getD .skip) (packT [(.list I64), .bool]) n (argsV [.str] (a0, ()))
noncomputable abbrev L_spec_l1Tokens_0_3 (n : Nat) (x1 : (List Int)) (x2 : (List Int)) (x3 : Int) : Option ((List Int) × Bool) := lam Tryd.prog A_spec_l1Tokens In_spec_l1Tokens (conOf cs_spec_l1Tokens) Tryd.f118 (Tryd.f118.body.getD .skip) (packT [(.list I64), .bool]) n [0, 3] [.d .str x1, .own 0 I64 x2, .d I64 x3]
theorem F_spec_l1Tokens_eq (n : Nat) (a0 : (List Int)) : F_spec_l1Tokens n a0 =
    L_spec_l1Tokens_0_3 n a0 [] 0 := by kernel_rfl
theorem L_spec_l1Tokens_0_3_eq (n : Nat) (x1 : (List Int)) (x2 : (List Int)) (x3 : Int) : L_spec_l1Tokens_0_3 (n + 1) x1 x2 x3 =
    bif decide (x3 < (x1.length : Int)) then
      bif inB x3 x1.length then
        bif decide (rd x1 x3 0 = 42) then
          bif decide (((x2.length : Int) + (([256] : List Int).length : Int)) * 8 ≤ room) && decide ((x2.length : Int) + (([256] : List Int).length : Int) ≤ room) then
            L_spec_l1Tokens_0_3 n x1 (x2 ++ ([256] : List Int)) (IntKind.wrap .i64 (x3 + 1))
          else none
        else
          bif decide (rd x1 x3 0 = 92) then
            bif decide (IntKind.wrap .i64 (x3 + 1) = (x1.length : Int)) then
              some ([], false)
            else
              bif inB (IntKind.wrap .i64 (x3 + 1)) x1.length then
                bif !decide (rd x1 (IntKind.wrap .i64 (x3 + 1)) 0 = 42) then
                  bif inB (IntKind.wrap .i64 (x3 + 1)) x1.length then
                    bif !decide (rd x1 (IntKind.wrap .i64 (x3 + 1)) 0 = 92) then
                      some ([], false)
                    else
                      bif inB (IntKind.wrap .i64 (x3 + 1)) x1.length then
                        bif decide (((x2.length : Int) + (([IntKind.wrap .i64 (rd x1 (IntKind.wrap .i64 (x3 + 1)) 0)] : List Int).length : Int)) * 8 ≤ room) && decide ((x2.length : Int) + (([IntKind.wrap .i64 (rd x1 (IntKind.wrap .i64 (x3 + 1)) 0)] : List Int).length : Int) ≤ room) then
                          L_spec_l1Tokens_0_3 n x1 (x2 ++ ([IntKind.wrap .i64 (rd x1 (IntKind.wrap .i64 (x3 + 1)) 0)] : List Int)) (IntKind.wrap .i64 ((IntKind.wrap .i64 (x3 + 1)) + 1))
                        else none
                      else none
                  else none
                else
                  bif inB (IntKind.wrap .i64 (x3 + 1)) x1.length then
                    bif decide (((x2.length : Int) + (([IntKind.wrap .i64 (rd x1 (IntKind.wrap .i64 (x3 + 1)) 0)] : List Int).length : Int)) * 8 ≤ room) && decide ((x2.length : Int) + (([IntKind.wrap .i64 (rd x1 (IntKind.wrap .i64 (x3 + 1)) 0)] : List Int).length : Int) ≤ room) then
                      L_spec_l1Tokens_0_3 n x1 (x2 ++ ([IntKind.wrap .i64 (rd x1 (IntKind.wrap .i64 (x3 + 1)) 0)] : List Int)) (IntKind.wrap .i64 ((IntKind.wrap .i64 (x3 + 1)) + 1))
                    else none
                  else none
              else none
          else
            bif inB x3 x1.length then
              bif decide (((x2.length : Int) + (([IntKind.wrap .i64 (rd x1 x3 0)] : List Int).length : Int)) * 8 ≤ room) && decide ((x2.length : Int) + (([IntKind.wrap .i64 (rd x1 x3 0)] : List Int).length : Int) ≤ room) then
                L_spec_l1Tokens_0_3 n x1 (x2 ++ ([IntKind.wrap .i64 (rd x1 x3 0)] : List Int)) (IntKind.wrap .i64 (x3 + 1))
              else none
            else none
      else none
    else
      some (x2, true) := by kernel_rfl
theorem S_spec_l1Tokens_0_3 {x1 : (List Int)} : ∀ (m : Nat) (x2 : (List Int)) (x3 : Int) (r : ((List Int) × Bool)), P_spec_l1Tokens_0_3 x1 m x2 x3 = some r → Ev (fun n => L_spec_l1Tokens_0_3 n x1 x2 x3) r := by
  intro m
  induction m with
  | zero => intro x2 x3 r h; rw [P_spec_l1Tokens_0_3] at h; exact Ev.ofNone h
  | succ m ih2 =>
    intro x2 x3 r h
    rw [P_spec_l1Tokens_0_3] at h
    refine Ev.step ?_ (fun n => L_spec_l1Tokens_0_3_eq n x1 x2 x3)
    exact (Ev.ofBif h (fun h => (Ev.ofBif h (fun h => (Ev.ofBif h (fun h => (Ev.ofBif h (fun h => (ih2 _ _ _ h)) (fun h => (Ev.ofNone h)))) (fun h => (Ev.ofBif h (fun h => (Ev.ofBif h (fun h => (Ev.ofSome h)) (fun h => (Ev.ofBif h (fun h => (Ev.ofBif h (fun h => (Ev.ofBif h (fun h => (Ev.ofBif h (fun h => (Ev.ofSome h)) (fun h => (Ev.ofBif h (fun h => (Ev.ofBif h (fun h => (ih2 _ _ _ h)) (fun h => (Ev.ofNone h)))) (fun h => (Ev.ofNone h)))))) (fun h => (Ev.ofNone h)))) (fun h => (Ev.ofBif h (fun h => (Ev.ofBif h (fun h => (ih2 _ _ _ h)) (fun h => (Ev.ofNone h)))) (fun h => (Ev.ofNone h)))))) (fun h => (Ev.ofNone h)))))) (fun h => (Ev.ofBif h (fun h => (Ev.ofBif h (fun h => (ih2 _ _ _ h)) (fun h => (Ev.ofNone h)))) (fun h => (Ev.ofNone h)))))))) (fun h => (Ev.ofNone h)))) (fun h => (Ev.ofSome h)))
theorem S_spec_l1Tokens {m : Nat} (a0 : (List Int)) {r : ((List Int) × Bool)} (h : P_spec_l1Tokens m a0 = some r) : Ev (fun n => F_spec_l1Tokens n a0) r := by
  rw [P_spec_l1Tokens] at h
  refine Ev.of_eq ?_ (fun n => F_spec_l1Tokens_eq n a0)
  exact (S_spec_l1Tokens_0_3 _ _ _ _ h)
theorem hcs_spec_l1Tokens : ∀ x ∈ cs_spec_l1Tokens, CtrOk Tryd.prog x := conOf_nil
theorem ok_spec_l1Tokens : CtrOk Tryd.prog (c_spec_l1Tokens) := by
  refine ctr_of_run (c := c_spec_l1Tokens) (by kernel_rfl) (by kernel_rfl : Tryd.prog.funcs[118]? = some Tryd.f118) (code := Tryd.f118.body.getD .skip) (by kernel_rfl) (by kernel_rfl) (by kernel_rfl) (A := A_spec_l1Tokens) (I := In_spec_l1Tokens) (hcs_spec_l1Tokens) ?_
  rintro ⟨a0, u⟩ y hy
  exact let ⟨_, h⟩ := (evOpt_get hy).get; (S_spec_l1Tokens a0 h).get

/-! ## spec.l10Right (108) -/
noncomputable def P_spec_l10Right_0_19 (Rc : Dl10E → Option Bool) (x5 : DExpr) : List Dl10E → Bool → Option Bool
  | [], x1 =>
      some x1
  | e :: rest, x1 =>
      bif x1 then
        Option.bind (Rc (Tree.node ((e).val) ((e).kids))) fun (y3 : Bool) =>
        bif y3 then
          bif !decide (x5.1 = 2) then
            P_spec_l10Right_0_19 Rc x5 rest true
          else
            P_spec_l10Right_0_19 Rc x5 rest (decide (((e).val).1 = 1))
        else
          P_spec_l10Right_0_19 Rc x5 rest false
      else
        P_spec_l10Right_0_19 Rc x5 rest false
noncomputable def P_spec_l10Right_1_14 (Rc : Dl10E → Option Bool) (x1 : Bool) (x2 : Int) (x3 : Bool) (x4 : Dl10E) (x5 : DExpr) : Option Bool :=
  bif x3 then
    Option.bind (P_spec_GoodName x5.2.1) fun (y5 : Bool) =>
    lenOk x4.kids (P_spec_l10Right_0_19 Rc x5 x4.kids y5)
  else
    bif decide (x2 = 20) then
      Option.bind (E_spec_l1Tokens x5.2.1) fun (y6 : ((List Int) × Bool)) =>
      bif y6.2 then
        bif decide ((x5.2.1.length : Int) ≤ 200) then
          Option.bind (P_spec_l1Printed x5.2.1) fun (y7 : Bool) =>
          lenOk x4.kids (P_spec_l10Right_0_19 Rc x5 x4.kids y7)
        else
          lenOk x4.kids (P_spec_l10Right_0_19 Rc x5 x4.kids false)
      else
        lenOk x4.kids (P_spec_l10Right_0_19 Rc x5 x4.kids false)
    else
      lenOk x4.kids (P_spec_l10Right_0_19 Rc x5 x4.kids x1)
noncomputable def P_spec_l10Right_1_5 (Rc : Dl10E → Option Bool) (x1 : Dl10E) (x2 : DExpr) : Option Bool :=
  bif decide (x2.1 = 1) then
    bif decide (x2.2.1 = ([] : List Int)) then
      Option.bind (P_spec_GoodAtom x2.2.2.1) fun (y2 : Bool) =>
      lenOk x1.kids (P_spec_l10Right_0_19 Rc x2 x1.kids y2)
    else
      lenOk x1.kids (P_spec_l10Right_0_19 Rc x2 x1.kids false)
  else
    bif decide (x2.1 = 3) then
      Option.bind (P_spec_l3Has T_spec_l10Vars x2.2.1) fun (y4 : Bool) =>
      lenOk x1.kids (P_spec_l10Right_0_19 Rc x2 x1.kids y4)
    else
      bif decide (x2.1 = 4) then
        P_spec_l10Right_1_14 Rc (decide (x2.2.1 = ([] : List Int))) x2.1 (decide (x2.1 = 4)) (Tree.node x1.val x1.kids) x2
      else
        bif decide (x2.1 = 5) then
          P_spec_l10Right_1_14 Rc (decide (x2.2.1 = ([] : List Int))) x2.1 (decide (x2.1 = 5)) (Tree.node x1.val x1.kids) x2
        else
          P_spec_l10Right_1_14 Rc (decide (x2.2.1 = ([] : List Int))) x2.1 (decide (x2.1 = 21)) (Tree.node x1.val x1.kids) x2
noncomputable def P_spec_l10Right (Rc : Dl10E → Option Bool) (a0 : Dl10E) : Option Bool :=
  Option.bind (P_spec_l10Arity a0.val.1) fun (y1 : Int) =>
  bif decide (y1 = (-1)) then
    some false
  else
    bif decide ((0 : Int) ≤ y1) then
      bif !decide ((a0.kids.length : Int) = y1) then
        some false
      else
        bif !decide (a0.val.1 = 1) then
          bif !@decide (a0.val.2.2.1 = (0, 0, ([] : List Int), ([] : List Int))) (Ty.decEq TyAtom a0.val.2.2.1 (0, 0, ([] : List Int), ([] : List Int))) then
            some false
          else
            P_spec_l10Right_1_5 Rc (Tree.node a0.val a0.kids) a0.val
        else
          P_spec_l10Right_1_5 Rc (Tree.node a0.val a0.kids) a0.val
    else
      bif !decide (a0.val.1 = 1) then
        bif !@decide (a0.val.2.2.1 = (0, 0, ([] : List Int), ([] : List Int))) (Ty.decEq TyAtom a0.val.2.2.1 (0, 0, ([] : List Int), ([] : List Int))) then
          some false
        else
          P_spec_l10Right_1_5 Rc (Tree.node a0.val a0.kids) a0.val
      else
        P_spec_l10Right_1_5 Rc (Tree.node a0.val a0.kids) a0.val
noncomputable def R_spec_l10Right : Nat → Dl10E → Option Bool
  | 0 => fun _ => none
  | d + 1 => fun a0 => P_spec_l10Right (R_spec_l10Right d) a0
noncomputable def E_spec_l10Right (a0 : Dl10E) : Option Bool := evOpt fun d => R_spec_l10Right d a0
noncomputable def c_spec_l10Right : Ctr := ⟨108, [Tyl10E], [.bool], fun x => E_spec_l10Right x.1⟩
def A_spec_l10Right : List (List Nat × Ann) := [([1, 5], [.keep 0 1, .keep 0 3, .boxd 0 1 Tyl10E, .boxd 0 3 TyExpr]), ([0, 19], [.keep 0 3, .keep 0 5, .keep 0 86, .keep 0 87, .keep 0 88, .boxd 0 3 TyExpr]), ([1, 14], [.keep 0 1, .keep 0 3, .keep 0 5, .keep 0 43, .keep 0 58, .boxd 0 1 Tyl10E, .boxd 0 3 TyExpr])]
def In_spec_l10Right : List (List Nat × Nat) := []
noncomputable def cs_spec_l10Right (Rc : Dl10E → Option Bool) : List Ctr := [c_spec_l10Arity, c_spec_GoodAtom, ⟨108, [Tyl10E], [.bool], fun x => Rc x.1⟩, c_spec_l10Vars, c_spec_l3Has, c_spec_GoodName, c_spec_l1Tokens, c_spec_l1Printed]
noncomputable def F_spec_l10Right (Rc : Dl10E → Option Bool) (n : Nat) (a0 : Dl10E) : Option Bool := run Tryd.prog A_spec_l10Right In_spec_l10Right (conOf (cs_spec_l10Right Rc)) Tryd.f108 (Tryd.f108.body.getD .skip) (packT [.bool]) n (argsV [Tyl10E] (a0, ()))
noncomputable abbrev L_spec_l10Right_1_5 (Rc : Dl10E → Option Bool) (n : Nat) (x1 : Dl10E) (x2 : DExpr) : Option Bool := lam Tryd.prog A_spec_l10Right In_spec_l10Right (conOf (cs_spec_l10Right Rc)) Tryd.f108 (Tryd.f108.body.getD .skip) (packT [.bool]) n [1, 5] [.ptr 0 1 0, .ptr 0 3 0, .agg (explode Tyl10E x1), .agg (explode TyExpr x2)]
noncomputable abbrev L_spec_l10Right_0_19 (Rc : Dl10E → Option Bool) (n : Nat) (x1 : Bool) (x2 : (List Dl10E)) (x3 : Int) (x4 : Int) (x5 : DExpr) : Option Bool := lam Tryd.prog A_spec_l10Right In_spec_l10Right (conOf (cs_spec_l10Right Rc)) Tryd.f108 (Tryd.f108.body.getD .skip) (packT [.bool]) n [0, 19] [.ptr 0 3 0, .d .bool x1, .d (.list Tyl10E) x2, .d I64 x3, .d I64 x4, .agg (explode TyExpr x5)]
noncomputable abbrev L_spec_l10Right_1_14 (Rc : Dl10E → Option Bool) (n : Nat) (x1 : Bool) (x2 : Int) (x3 : Bool) (x4 : Dl10E) (x5 : DExpr) : Option Bool := lam Tryd.prog A_spec_l10Right In_spec_l10Right (conOf (cs_spec_l10Right Rc)) Tryd.f108 (Tryd.f108.body.getD .skip) (packT [.bool]) n [1, 14] [.ptr 0 1 0, .ptr 0 3 0, .d .bool x1, .d I64 x2, .d .bool x3, .agg (explode Tyl10E x4), .agg (explode TyExpr x5)]
theorem F_spec_l10Right_eq (Rc : Dl10E → Option Bool) (n : Nat) (a0 : Dl10E) : F_spec_l10Right Rc n a0 =
    Option.bind (P_spec_l10Arity a0.val.1) fun (y1 : Int) =>
    bif decide (y1 = (-1)) then
      some false
    else
      bif decide ((0 : Int) ≤ y1) then
        bif !decide ((a0.kids.length : Int) = y1) then
          some false
        else
          bif !decide (a0.val.1 = 1) then
            bif !@decide (a0.val.2.2.1 = (0, 0, ([] : List Int), ([] : List Int))) (Ty.decEq TyAtom a0.val.2.2.1 (0, 0, ([] : List Int), ([] : List Int))) then
              some false
            else
              L_spec_l10Right_1_5 Rc n (Tree.node a0.val a0.kids) a0.val
          else
            L_spec_l10Right_1_5 Rc n (Tree.node a0.val a0.kids) a0.val
      else
        bif !decide (a0.val.1 = 1) then
          bif !@decide (a0.val.2.2.1 = (0, 0, ([] : List Int), ([] : List Int))) (Ty.decEq TyAtom a0.val.2.2.1 (0, 0, ([] : List Int), ([] : List Int))) then
            some false
          else
            L_spec_l10Right_1_5 Rc n (Tree.node a0.val a0.kids) a0.val
        else
          L_spec_l10Right_1_5 Rc n (Tree.node a0.val a0.kids) a0.val := by kernel_rfl
theorem L_spec_l10Right_1_5_eq (Rc : Dl10E → Option Bool) (n : Nat) (x1 : Dl10E) (x2 : DExpr) : L_spec_l10Right_1_5 Rc (n + 1) x1 x2 =
    bif decide (x2.1 = 1) then
      bif decide (x2.2.1 = ([] : List Int)) then
        Option.bind (P_spec_GoodAtom x2.2.2.1) fun (y2 : Bool) =>
        L_spec_l10Right_0_19 Rc n y2 x1.kids (x1.kids.length : Int) 0 x2
      else
        L_spec_l10Right_0_19 Rc n false x1.kids (x1.kids.length : Int) 0 x2
    else
      bif decide (x2.1 = 3) then
        Option.bind (P_spec_l3Has T_spec_l10Vars x2.2.1) fun (y4 : Bool) =>
        L_spec_l10Right_0_19 Rc n y4 x1.kids (x1.kids.length : Int) 0 x2
      else
        bif decide (x2.1 = 4) then
          L_spec_l10Right_1_14 Rc n (decide (x2.2.1 = ([] : List Int))) x2.1 (decide (x2.1 = 4)) (Tree.node x1.val x1.kids) x2
        else
          bif decide (x2.1 = 5) then
            L_spec_l10Right_1_14 Rc n (decide (x2.2.1 = ([] : List Int))) x2.1 (decide (x2.1 = 5)) (Tree.node x1.val x1.kids) x2
          else
            L_spec_l10Right_1_14 Rc n (decide (x2.2.1 = ([] : List Int))) x2.1 (decide (x2.1 = 21)) (Tree.node x1.val x1.kids) x2 := by kernel_rfl
theorem L_spec_l10Right_0_19_eq (Rc : Dl10E → Option Bool) (n : Nat) (x1 : Bool) (x2 : (List Dl10E)) (x3 : Int) (x4 : Int) (x5 : DExpr) : L_spec_l10Right_0_19 Rc (n + 1) x1 x2 x3 x4 x5 =
    bif decide (x4 < x3) then
      bif inB x4 x2.length then
        bif x1 then
          Option.bind (Rc (Tree.node ((rd x2 x4 (Ty.dflt Tyl10E)).val) ((rd x2 x4 (Ty.dflt Tyl10E)).kids))) fun (y3 : Bool) =>
          bif y3 then
            bif !decide (x5.1 = 2) then
              L_spec_l10Right_0_19 Rc n true x2 x3 (IntKind.wrap .i64 (x4 + 1)) x5
            else
              L_spec_l10Right_0_19 Rc n (decide (((rd x2 x4 (Ty.dflt Tyl10E)).val).1 = 1)) x2 x3 (IntKind.wrap .i64 (x4 + 1)) x5
          else
            L_spec_l10Right_0_19 Rc n false x2 x3 (IntKind.wrap .i64 (x4 + 1)) x5
        else
          L_spec_l10Right_0_19 Rc n false x2 x3 (IntKind.wrap .i64 (x4 + 1)) x5
      else none
    else
      some x1 := by kernel_rfl
theorem L_spec_l10Right_1_14_eq (Rc : Dl10E → Option Bool) (n : Nat) (x1 : Bool) (x2 : Int) (x3 : Bool) (x4 : Dl10E) (x5 : DExpr) : L_spec_l10Right_1_14 Rc (n + 1) x1 x2 x3 x4 x5 =
    bif x3 then
      Option.bind (P_spec_GoodName x5.2.1) fun (y5 : Bool) =>
      L_spec_l10Right_0_19 Rc n y5 x4.kids (x4.kids.length : Int) 0 x5
    else
      bif decide (x2 = 20) then
        Option.bind (E_spec_l1Tokens x5.2.1) fun (y6 : ((List Int) × Bool)) =>
        bif y6.2 then
          bif decide ((x5.2.1.length : Int) ≤ 200) then
            Option.bind (P_spec_l1Printed x5.2.1) fun (y7 : Bool) =>
            L_spec_l10Right_0_19 Rc n y7 x4.kids (x4.kids.length : Int) 0 x5
          else
            L_spec_l10Right_0_19 Rc n false x4.kids (x4.kids.length : Int) 0 x5
        else
          L_spec_l10Right_0_19 Rc n false x4.kids (x4.kids.length : Int) 0 x5
      else
        L_spec_l10Right_0_19 Rc n x1 x4.kids (x4.kids.length : Int) 0 x5 := by kernel_rfl
theorem S_spec_l10Right_0_19 {Rc : Dl10E → Option Bool} {x2 : (List Dl10E)} {x5 : DExpr} (hl : x2.length ≤ maxLen) : ∀ (rest : List Dl10E) (k : Nat) (x1 : Bool) (r : Bool), rest = x2.drop k → P_spec_l10Right_0_19 Rc x5 rest x1 = some r → Ev (fun n => L_spec_l10Right_0_19 Rc n x1 x2 (x2.length : Int) (k : Int) x5) r := by
  intro rest
  induction rest with
  | nil =>
    intro k x1 r hr h
    have hk := drop_nil hr
    rw [P_spec_l10Right_0_19] at h
    refine Ev.step ?_ (fun n => L_spec_l10Right_0_19_eq Rc n x1 x2 (x2.length : Int) (k : Int) x5)
    rw [show decide ((k : Int) < (x2.length : Int)) = false from decide_eq_false (by omega)]
    exact Ev.neg rfl (Ev.ofSome h)
  | cons e rest ih =>
    intro k x1 r hr h
    obtain ⟨hk, hx, hr2⟩ := drop_cons (d := (Ty.dflt Tyl10E)) hr
    have hw := wrap_succ hl hk
    have ih2 : ∀ (z1 : Bool) (r : Bool), P_spec_l10Right_0_19 Rc x5 rest z1 = some r → Ev (fun n => L_spec_l10Right_0_19 Rc n z1 x2 (x2.length : Int) (IntKind.wrap .i64 ((k : Int) + 1)) x5) r := by
      intro z1 r h; rw [hw]; exact ih (k + 1) z1 r hr2 h
    rw [P_spec_l10Right_0_19] at h
    refine Ev.step ?_ (fun n => L_spec_l10Right_0_19_eq Rc n x1 x2 (x2.length : Int) (k : Int) x5)
    rw [show decide ((k : Int) < (x2.length : Int)) = true from decide_eq_true (by omega), inB_nat2 hk, hx]
    exact Ev.pos rfl (Ev.pos rfl (Ev.ofBif h (fun h => (Ev.ofBind h fun y3 h => (Ev.ofBif h (fun h => (Ev.ofBif h (fun h => (ih2 _ _ h)) (fun h => (ih2 _ _ h)))) (fun h => (ih2 _ _ h))))) (fun h => (ih2 _ _ h))))
theorem S_spec_l10Right_1_14 {Rc : Dl10E → Option Bool} {x1 : Bool} {x2 : Int} {x3 : Bool} {x4 : Dl10E} {x5 : DExpr} {r : Bool} (h : P_spec_l10Right_1_14 Rc x1 x2 x3 x4 x5 = some r) : Ev (fun n => L_spec_l10Right_1_14 Rc n x1 x2 x3 x4 x5) r := by
  rw [P_spec_l10Right_1_14] at h
  refine Ev.step ?_ (fun n => L_spec_l10Right_1_14_eq Rc n x1 x2 x3 x4 x5)
  exact (Ev.ofBif h (fun h => (Ev.ofBind h fun y5 h => (Ev.ofLen h fun hl h => S_spec_l10Right_0_19 hl _ (0 : Nat) _ _ rfl h))) (fun h => (Ev.ofBif h (fun h => (Ev.ofBind h fun y6 h => (Ev.ofBif h (fun h => (Ev.ofBif h (fun h => (Ev.ofBind h fun y7 h => (Ev.ofLen h fun hl h => S_spec_l10Right_0_19 hl _ (0 : Nat) _ _ rfl h))) (fun h => (Ev.ofLen h fun hl h => S_spec_l10Right_0_19 hl _ (0 : Nat) _ _ rfl h)))) (fun h => (Ev.ofLen h fun hl h => S_spec_l10Right_0_19 hl _ (0 : Nat) _ _ rfl h))))) (fun h => (Ev.ofLen h fun hl h => S_spec_l10Right_0_19 hl _ (0 : Nat) _ _ rfl h)))))
theorem S_spec_l10Right_1_5 {Rc : Dl10E → Option Bool} {x1 : Dl10E} {x2 : DExpr} {r : Bool} (h : P_spec_l10Right_1_5 Rc x1 x2 = some r) : Ev (fun n => L_spec_l10Right_1_5 Rc n x1 x2) r := by
  rw [P_spec_l10Right_1_5] at h
  refine Ev.step ?_ (fun n => L_spec_l10Right_1_5_eq Rc n x1 x2)
  exact (Ev.ofBif h (fun h => (Ev.ofBif h (fun h => (Ev.ofBind h fun y2 h => (Ev.ofLen h fun hl h => S_spec_l10Right_0_19 hl _ (0 : Nat) _ _ rfl h))) (fun h => (Ev.ofLen h fun hl h => S_spec_l10Right_0_19 hl _ (0 : Nat) _ _ rfl h)))) (fun h => (Ev.ofBif h (fun h => (Ev.ofBind h fun y4 h => (Ev.ofLen h fun hl h => S_spec_l10Right_0_19 hl _ (0 : Nat) _ _ rfl h))) (fun h => (Ev.ofBif h (fun h => (S_spec_l10Right_1_14 h)) (fun h => (Ev.ofBif h (fun h => (S_spec_l10Right_1_14 h)) (fun h => (S_spec_l10Right_1_14 h)))))))))
theorem S_spec_l10Right {Rc : Dl10E → Option Bool} (a0 : Dl10E) {r : Bool} (h : P_spec_l10Right Rc a0 = some r) : Ev (fun n => F_spec_l10Right Rc n a0) r := by
  rw [P_spec_l10Right] at h
  refine Ev.of_eq ?_ (fun n => F_spec_l10Right_eq Rc n a0)
  exact (Ev.ofBind h fun y1 h => (Ev.ofBif h (fun h => (Ev.ofSome h)) (fun h => (Ev.ofBif h (fun h => (Ev.ofBif h (fun h => (Ev.ofSome h)) (fun h => (Ev.ofBif h (fun h => (Ev.ofBif h (fun h => (Ev.ofSome h)) (fun h => (S_spec_l10Right_1_5 h)))) (fun h => (S_spec_l10Right_1_5 h)))))) (fun h => (Ev.ofBif h (fun h => (Ev.ofBif h (fun h => (Ev.ofSome h)) (fun h => (S_spec_l10Right_1_5 h)))) (fun h => (S_spec_l10Right_1_5 h))))))))
theorem okR_spec_l10Right : ∀ d, CtrOk Tryd.prog (⟨108, [Tyl10E], [.bool], fun x => R_spec_l10Right d x.1⟩ : Ctr) := by
  intro d
  induction d with
  | zero => intro xs y hy; exact (nomatch (show (none : Option Bool) = some y from hy))
  | succ d ih =>
    refine ctr_of_run (by kernel_rfl) (by kernel_rfl : Tryd.prog.funcs[108]? = some Tryd.f108) (code := Tryd.f108.body.getD .skip) (by kernel_rfl) (by kernel_rfl) (by kernel_rfl) (A := A_spec_l10Right) (I := In_spec_l10Right) (cs := cs_spec_l10Right (R_spec_l10Right d)) (conOf_cons ok_spec_l10Arity (conOf_cons ok_spec_GoodAtom (conOf_cons ih (conOf_cons ok_spec_l10Vars (conOf_cons ok_spec_l3Has (conOf_cons ok_spec_GoodName (conOf_cons ok_spec_l1Tokens (conOf_cons ok_spec_l1Printed conOf_nil)))))))) ?_
    rintro ⟨a0, u⟩ y hy
    exact (S_spec_l10Right a0 hy).get
theorem ok_spec_l10Right : CtrOk Tryd.prog (c_spec_l10Right) := by
  rintro ⟨a0, u⟩ y hy
  obtain ⟨d, hd⟩ := (evOpt_get hy).get
  exact okR_spec_l10Right d (a0, u) y hd

/-! ## spec.l10Tree (96) -/
noncomputable def P_spec_l10Tree_1_3 (x1 : (List DExpr)) : Option (Dl10E × Bool) :=
  Option.bind (E_spec_l10Take x1 0 1) fun (y1 : (Dl10E × Int)) =>
  bif decide (y1.2 = (x1.length : Int)) then
    Option.bind (E_spec_l10Right (Tree.node y1.1.val y1.1.kids)) fun (y2 : Bool) =>
    some ((Tree.node y1.1.val y1.1.kids), y2)
  else
    some ((Tree.node y1.1.val y1.1.kids), false)
noncomputable def P_spec_l10Tree (a0 : (List DExpr)) : Option (Dl10E × Bool) :=
  bif decide ((a0.length : Int) < 1) then
    some ((Tree.node (0, ([] : List Int), (0, 0, ([] : List Int), ([] : List Int)), 0) ([])), false)
  else
    bif decide ((60 : Int) < (a0.length : Int)) then
      some ((Tree.node (0, ([] : List Int), (0, 0, ([] : List Int), ([] : List Int)), 0) ([])), false)
    else
      P_spec_l10Tree_1_3 a0
noncomputable def c_spec_l10Tree : Ctr := ⟨96, [(.list TyExpr)], [Tyl10E, .bool], fun x => P_spec_l10Tree x.1⟩
def A_spec_l10Tree : List (List Nat × Ann) := [([1, 3], [.keep 0 0, .keep 0 2, .boxd 0 2 Tyl10E])]
def In_spec_l10Tree : List (List Nat × Nat) := []
noncomputable def cs_spec_l10Tree : List Ctr := [c_spec_l10Take, c_spec_l10Right]
noncomputable def F_spec_l10Tree (n : Nat) (a0 : (List DExpr)) : Option (Dl10E × Bool) := run Tryd.prog A_spec_l10Tree In_spec_l10Tree (conOf cs_spec_l10Tree) Tryd.f96 (Tryd.f96.body.getD .skip) (packT [Tyl10E, .bool]) n (argsV [(.list TyExpr)] (a0, ()))
noncomputable abbrev L_spec_l10Tree_1_3 (n : Nat) (x1 : (List DExpr)) (x2 : Dl10E) : Option (Dl10E × Bool) := lam Tryd.prog A_spec_l10Tree In_spec_l10Tree (conOf cs_spec_l10Tree) Tryd.f96 (Tryd.f96.body.getD .skip) (packT [Tyl10E, .bool]) n [1, 3] [.d (.list TyExpr) x1, .ptr 0 2 0, .agg (explode Tyl10E x2)]
theorem F_spec_l10Tree_eq (n : Nat) (a0 : (List DExpr)) : F_spec_l10Tree n a0 =
    bif decide ((a0.length : Int) < 1) then
      some ((Tree.node (0, ([] : List Int), (0, 0, ([] : List Int), ([] : List Int)), 0) ([])), false)
    else
      bif decide ((60 : Int) < (a0.length : Int)) then
        some ((Tree.node (0, ([] : List Int), (0, 0, ([] : List Int), ([] : List Int)), 0) ([])), false)
      else
        L_spec_l10Tree_1_3 n a0 (Tree.node (0, ([] : List Int), (0, 0, ([] : List Int), ([] : List Int)), 0) ([])) := by kernel_rfl
theorem L_spec_l10Tree_1_3_eq (n : Nat) (x1 : (List DExpr)) (x2 : Dl10E) : L_spec_l10Tree_1_3 (n + 1) x1 x2 =
    Option.bind (E_spec_l10Take x1 0 1) fun (y1 : (Dl10E × Int)) =>
    bif decide (y1.2 = (x1.length : Int)) then
      Option.bind (E_spec_l10Right (Tree.node y1.1.val y1.1.kids)) fun (y2 : Bool) =>
      some ((Tree.node y1.1.val y1.1.kids), y2)
    else
      some ((Tree.node y1.1.val y1.1.kids), false) := by kernel_rfl
theorem S_spec_l10Tree_1_3 {x1 : (List DExpr)} {x2 : Dl10E} {r : (Dl10E × Bool)} (h : P_spec_l10Tree_1_3 x1 = some r) : Ev (fun n => L_spec_l10Tree_1_3 n x1 x2) r := by
  rw [P_spec_l10Tree_1_3] at h
  refine Ev.step ?_ (fun n => L_spec_l10Tree_1_3_eq n x1 x2)
  exact (Ev.ofBind h fun y1 h => (Ev.ofBif h (fun h => (Ev.ofBind h fun y2 h => (Ev.ofSome h))) (fun h => (Ev.ofSome h))))
theorem S_spec_l10Tree (a0 : (List DExpr)) {r : (Dl10E × Bool)} (h : P_spec_l10Tree a0 = some r) : Ev (fun n => F_spec_l10Tree n a0) r := by
  rw [P_spec_l10Tree] at h
  refine Ev.of_eq ?_ (fun n => F_spec_l10Tree_eq n a0)
  exact (Ev.ofBif h (fun h => (Ev.ofSome h)) (fun h => (Ev.ofBif h (fun h => (Ev.ofSome h)) (fun h => (S_spec_l10Tree_1_3 h)))))
theorem hcs_spec_l10Tree : ∀ x ∈ cs_spec_l10Tree, CtrOk Tryd.prog x := (conOf_cons ok_spec_l10Take (conOf_cons ok_spec_l10Right conOf_nil))
theorem ok_spec_l10Tree : CtrOk Tryd.prog (c_spec_l10Tree) := by
  refine ctr_of_run (c := c_spec_l10Tree) (by kernel_rfl) (by kernel_rfl : Tryd.prog.funcs[96]? = some Tryd.f96) (code := Tryd.f96.body.getD .skip) (by kernel_rfl) (by kernel_rfl) (by kernel_rfl) (A := A_spec_l10Tree) (I := In_spec_l10Tree) (hcs_spec_l10Tree) ?_
  rintro ⟨a0, u⟩ y hy
  exact (S_spec_l10Tree a0 hy).get

/-! ## spec.GoodExpr (71) -/
noncomputable def P_spec_GoodExpr (a0 : (List DExpr)) : Option Bool :=
  Option.bind (P_spec_l10Tree a0) fun (y1 : (Dl10E × Bool)) =>
  some y1.2
noncomputable def c_spec_GoodExpr : Ctr := ⟨71, [(.list TyExpr)], [.bool], fun x => P_spec_GoodExpr x.1⟩
def A_spec_GoodExpr : List (List Nat × Ann) := []
def In_spec_GoodExpr : List (List Nat × Nat) := []
noncomputable def cs_spec_GoodExpr : List Ctr := [c_spec_l10Tree]
noncomputable def F_spec_GoodExpr (n : Nat) (a0 : (List DExpr)) : Option Bool := run Tryd.prog A_spec_GoodExpr In_spec_GoodExpr (conOf cs_spec_GoodExpr) Tryd.f71 (Tryd.f71.body.getD .skip) (packT [.bool]) n (argsV [(.list TyExpr)] (a0, ()))
theorem F_spec_GoodExpr_eq (n : Nat) (a0 : (List DExpr)) : F_spec_GoodExpr n a0 =
    Option.bind (P_spec_l10Tree a0) fun (y1 : (Dl10E × Bool)) =>
    some y1.2 := by kernel_rfl
theorem S_spec_GoodExpr (a0 : (List DExpr)) {r : Bool} (h : P_spec_GoodExpr a0 = some r) : Ev (fun n => F_spec_GoodExpr n a0) r := by
  rw [P_spec_GoodExpr] at h
  refine Ev.of_eq ?_ (fun n => F_spec_GoodExpr_eq n a0)
  exact (Ev.ofBind h fun y1 h => (Ev.ofSome h))
theorem hcs_spec_GoodExpr : ∀ x ∈ cs_spec_GoodExpr, CtrOk Tryd.prog x := (conOf_cons ok_spec_l10Tree conOf_nil)
theorem ok_spec_GoodExpr : CtrOk Tryd.prog (c_spec_GoodExpr) := by
  refine ctr_of_run (c := c_spec_GoodExpr) (by kernel_rfl) (by kernel_rfl : Tryd.prog.funcs[71]? = some Tryd.f71) (code := Tryd.f71.body.getD .skip) (by kernel_rfl) (by kernel_rfl) (by kernel_rfl) (A := A_spec_GoodExpr) (I := In_spec_GoodExpr) (hcs_spec_GoodExpr) ?_
  rintro ⟨a0, u⟩ y hy
  exact (S_spec_GoodExpr a0 hy).get

/-! ## spec.GoodPolicy (25) -/
noncomputable def P_spec_GoodPolicy (a0 : DPolicy) : Option Bool :=
  Option.bind (P_spec_l7Id a0.1) fun (y1 : Bool) =>
  bif y1 then
    Option.bind (P_spec_l10GoodHead a0.2.2.1 true) fun (y2 : Bool) =>
    bif y2 then
      Option.bind (P_spec_l10GoodHead a0.2.2.2.1 false) fun (y3 : Bool) =>
      bif y3 then
        Option.bind (P_spec_l10GoodHead a0.2.2.2.2.1 true) fun (y4 : Bool) =>
        bif y4 then
          bif decide ((a0.2.2.2.2.2.length : Int) = 0) then
            some true
          else
            Option.bind (P_spec_GoodExpr a0.2.2.2.2.2) fun (y5 : Bool) =>
            some y5
        else
          some false
      else
        some false
    else
      some false
  else
    some false
noncomputable def c_spec_GoodPolicy : Ctr := ⟨25, [TyPolicy], [.bool], fun x => P_spec_GoodPolicy x.1⟩
def A_spec_GoodPolicy : List (List Nat × Ann) := []
def In_spec_GoodPolicy : List (List Nat × Nat) := []
noncomputable def cs_spec_GoodPolicy : List Ctr := [c_spec_l7Id, c_spec_l10GoodHead, c_spec_GoodExpr]
noncomputable def F_spec_GoodPolicy (n : Nat) (a0 : DPolicy) : Option Bool := run Tryd.prog A_spec_GoodPolicy In_spec_GoodPolicy (conOf cs_spec_GoodPolicy) Tryd.f25 (Tryd.f25.body.getD .skip) (packT [.bool]) n (argsV [TyPolicy] (a0, ()))
theorem F_spec_GoodPolicy_eq (n : Nat) (a0 : DPolicy) : F_spec_GoodPolicy n a0 =
    Option.bind (P_spec_l7Id a0.1) fun (y1 : Bool) =>
    bif y1 then
      Option.bind (P_spec_l10GoodHead a0.2.2.1 true) fun (y2 : Bool) =>
      bif y2 then
        Option.bind (P_spec_l10GoodHead a0.2.2.2.1 false) fun (y3 : Bool) =>
        bif y3 then
          Option.bind (P_spec_l10GoodHead a0.2.2.2.2.1 true) fun (y4 : Bool) =>
          bif y4 then
            bif decide ((a0.2.2.2.2.2.length : Int) = 0) then
              some true
            else
              Option.bind (P_spec_GoodExpr a0.2.2.2.2.2) fun (y5 : Bool) =>
              some y5
          else
            some false
        else
          some false
      else
        some false
    else
      some false := by kernel_rfl
theorem S_spec_GoodPolicy (a0 : DPolicy) {r : Bool} (h : P_spec_GoodPolicy a0 = some r) : Ev (fun n => F_spec_GoodPolicy n a0) r := by
  rw [P_spec_GoodPolicy] at h
  refine Ev.of_eq ?_ (fun n => F_spec_GoodPolicy_eq n a0)
  exact (Ev.ofBind h fun y1 h => (Ev.ofBif h (fun h => (Ev.ofBind h fun y2 h => (Ev.ofBif h (fun h => (Ev.ofBind h fun y3 h => (Ev.ofBif h (fun h => (Ev.ofBind h fun y4 h => (Ev.ofBif h (fun h => (Ev.ofBif h (fun h => (Ev.ofSome h)) (fun h => (Ev.ofBind h fun y5 h => (Ev.ofSome h))))) (fun h => (Ev.ofSome h))))) (fun h => (Ev.ofSome h))))) (fun h => (Ev.ofSome h))))) (fun h => (Ev.ofSome h))))
theorem hcs_spec_GoodPolicy : ∀ x ∈ cs_spec_GoodPolicy, CtrOk Tryd.prog x := (conOf_cons ok_spec_l7Id (conOf_cons ok_spec_l10GoodHead (conOf_cons ok_spec_GoodExpr conOf_nil)))
theorem ok_spec_GoodPolicy : CtrOk Tryd.prog (c_spec_GoodPolicy) := by
  refine ctr_of_run (c := c_spec_GoodPolicy) (by kernel_rfl) (by kernel_rfl : Tryd.prog.funcs[25]? = some Tryd.f25) (code := Tryd.f25.body.getD .skip) (by kernel_rfl) (by kernel_rfl) (by kernel_rfl) (A := A_spec_GoodPolicy) (I := In_spec_GoodPolicy) (hcs_spec_GoodPolicy) ?_
  rintro ⟨a0, u⟩ y hy
  exact (S_spec_GoodPolicy a0 hy).get

/-! ## spec.l10Slot (28) -/
noncomputable def T_spec_l10Slot (a0 : DHead) : Bool :=
  bif decide (a0.1 = 5) then
    true
  else
    decide (a0.1 = 6)
noncomputable def c_spec_l10Slot : Ctr := ⟨28, [TyHead], [.bool], fun x => some (T_spec_l10Slot x.1)⟩
def A_spec_l10Slot : List (List Nat × Ann) := []
def In_spec_l10Slot : List (List Nat × Nat) := []
noncomputable def cs_spec_l10Slot : List Ctr := []
noncomputable def F_spec_l10Slot (n : Nat) (a0 : DHead) : Option Bool := run Tryd.prog A_spec_l10Slot In_spec_l10Slot (conOf cs_spec_l10Slot) Tryd.f28 (Tryd.f28.body.getD .skip) (packT [.bool]) n (argsV [TyHead] (a0, ()))
theorem F_spec_l10Slot_eq (n : Nat) (a0 : DHead) : F_spec_l10Slot n a0 =
    bif decide (a0.1 = 5) then
      some true
    else
      some (decide (a0.1 = 6)) := by kernel_rfl
theorem S_spec_l10Slot (n : Nat) (a0 : DHead) : F_spec_l10Slot n a0 = some (T_spec_l10Slot a0) := (F_spec_l10Slot_eq n a0).trans (cond_some rfl rfl)
theorem hcs_spec_l10Slot : ∀ x ∈ cs_spec_l10Slot, CtrOk Tryd.prog x := conOf_nil
theorem ok_spec_l10Slot : CtrOk Tryd.prog (c_spec_l10Slot) := by
  refine ctr_of_run (c := c_spec_l10Slot) (by kernel_rfl) (by kernel_rfl : Tryd.prog.funcs[28]? = some Tryd.f28) (code := Tryd.f28.body.getD .skip) (by kernel_rfl) (by kernel_rfl) (by kernel_rfl) (A := A_spec_l10Slot) (I := In_spec_l10Slot) (hcs_spec_l10Slot) ?_
  rintro ⟨a0, u⟩ y hy
  exact ⟨0, (S_spec_l10Slot 0 a0).trans hy⟩

/-! ## spec.l10Link (29) -/
noncomputable def T_spec_l10Link (a0 : DHead) (a1 : DAtom) : DHead :=
  bif decide (a0.1 = 5) then
    (2, a1, ([] : List Int))
  else
    bif decide (a0.1 = 6) then
      (3, a1, ([] : List Int))
    else
      a0
noncomputable def c_spec_l10Link : Ctr := ⟨29, [TyHead, TyAtom], [TyHead], fun x => some (T_spec_l10Link x.1 x.2.1)⟩
def A_spec_l10Link : List (List Nat × Ann) := []
def In_spec_l10Link : List (List Nat × Nat) := []
noncomputable def cs_spec_l10Link : List Ctr := []
noncomputable def F_spec_l10Link (n : Nat) (a0 : DHead) (a1 : DAtom) : Option DHead := run Tryd.prog A_spec_l10Link In_spec_l10Link (conOf cs_spec_l10Link) Tryd.f29 (Tryd.f29.body.getD .skip) (packT [TyHead]) n (argsV [TyHead, TyAtom] (a0, a1, ()))
theorem F_spec_l10Link_eq (n : Nat) (a0 : DHead) (a1 : DAtom) : F_spec_l10Link n a0 a1 =
    bif decide (a0.1 = 5) then
      some (2, a1, ([] : List Int))
    else
      bif decide (a0.1 = 6) then
        some (3, a1, ([] : List Int))
      else
        some a0 := by kernel_rfl
theorem S_spec_l10Link (n : Nat) (a0 : DHead) (a1 : DAtom) : F_spec_l10Link n a0 a1 = some (T_spec_l10Link a0 a1) := (F_spec_l10Link_eq n a0 a1).trans (cond_some rfl (cond_some rfl rfl))
theorem hcs_spec_l10Link : ∀ x ∈ cs_spec_l10Link, CtrOk Tryd.prog x := conOf_nil
theorem ok_spec_l10Link : CtrOk Tryd.prog (c_spec_l10Link) := by
  refine ctr_of_run (c := c_spec_l10Link) (by kernel_rfl) (by kernel_rfl : Tryd.prog.funcs[29]? = some Tryd.f29) (code := Tryd.f29.body.getD .skip) (by kernel_rfl) (by kernel_rfl) (by kernel_rfl) (A := A_spec_l10Link) (I := In_spec_l10Link) (hcs_spec_l10Link) ?_
  rintro ⟨a0, a1, u⟩ y hy
  exact ⟨0, (S_spec_l10Link 0 a0 a1).trans hy⟩

/-! ## spec.LinkPolicy (7) -/
noncomputable def P_spec_LinkPolicy_1_3 (x1 : (List Int)) (x2 : DPolicy) (x3 : DAtom) (x4 : DAtom) : Option (DPolicy × Bool) :=
  bif decide ((x2.2.2.2.2.2.length : Int) * 80 ≤ room) && decide ((x2.2.2.2.2.2.length : Int) ≤ room) then
    some ((x1, x2.2.1, (T_spec_l10Link x2.2.2.1 x3), x2.2.2.2.1, (T_spec_l10Link x2.2.2.2.2.1 x4), x2.2.2.2.2.2), true)
  else none
noncomputable def P_spec_LinkPolicy (a0 : DPolicy) (a1 : (List Int)) (a2 : DAtom) (a3 : DAtom) : Option (DPolicy × Bool) :=
  Option.bind (P_spec_GoodPolicy a0) fun (y1 : Bool) =>
  bif !(y1) then
    some ((([] : List Int), false, (0, (0, 0, ([] : List Int), ([] : List Int)), ([] : List Int)), (0, (0, 0, ([] : List Int), ([] : List Int)), ([] : List Int)), (0, (0, 0, ([] : List Int), ([] : List Int)), ([] : List Int)), []), false)
  else
    Option.bind (P_spec_l7Id a1) fun (y2 : Bool) =>
    bif !(y2) then
      some ((([] : List Int), false, (0, (0, 0, ([] : List Int), ([] : List Int)), ([] : List Int)), (0, (0, 0, ([] : List Int), ([] : List Int)), ([] : List Int)), (0, (0, 0, ([] : List Int), ([] : List Int)), ([] : List Int)), []), false)
    else
      bif !decide (a2.1 = 4) then
        some ((([] : List Int), false, (0, (0, 0, ([] : List Int), ([] : List Int)), ([] : List Int)), (0, (0, 0, ([] : List Int), ([] : List Int)), ([] : List Int)), (0, (0, 0, ([] : List Int), ([] : List Int)), ([] : List Int)), []), false)
      else
        bif !decide (a3.1 = 4) then
          some ((([] : List Int), false, (0, (0, 0, ([] : List Int), ([] : List Int)), ([] : List Int)), (0, (0, 0, ([] : List Int), ([] : List Int)), ([] : List Int)), (0, (0, 0, ([] : List Int), ([] : List Int)), ([] : List Int)), []), false)
        else
          Option.bind (P_spec_GoodAtom a2) fun (y3 : Bool) =>
          bif !(y3) then
            some ((([] : List Int), false, (0, (0, 0, ([] : List Int), ([] : List Int)), ([] : List Int)), (0, (0, 0, ([] : List Int), ([] : List Int)), ([] : List Int)), (0, (0, 0, ([] : List Int), ([] : List Int)), ([] : List Int)), []), false)
          else
            Option.bind (P_spec_GoodAtom a3) fun (y4 : Bool) =>
            bif !(y4) then
              some ((([] : List Int), false, (0, (0, 0, ([] : List Int), ([] : List Int)), ([] : List Int)), (0, (0, 0, ([] : List Int), ([] : List Int)), ([] : List Int)), (0, (0, 0, ([] : List Int), ([] : List Int)), ([] : List Int)), []), false)
            else
              bif !(T_spec_l10Slot a0.2.2.1) then
                bif !(T_spec_l10Slot a0.2.2.2.2.1) then
                  some ((([] : List Int), false, (0, (0, 0, ([] : List Int), ([] : List Int)), ([] : List Int)), (0, (0, 0, ([] : List Int), ([] : List Int)), ([] : List Int)), (0, (0, 0, ([] : List Int), ([] : List Int)), ([] : List Int)), []), false)
                else
                  P_spec_LinkPolicy_1_3 a1 a0 a2 a3
              else
                P_spec_LinkPolicy_1_3 a1 a0 a2 a3
noncomputable def c_spec_LinkPolicy : Ctr := ⟨7, [TyPolicy, .str, TyAtom, TyAtom], [TyPolicy, .bool], fun x => P_spec_LinkPolicy x.1 x.2.1 x.2.2.1 x.2.2.2.1⟩
def A_spec_LinkPolicy : List (List Nat × Ann) := [([1, 3], [.keep 0 1, .keep 0 4, .keep 0 6, .keep 0 7, .keep 0 8, .boxd 0 4 TyPolicy, .boxd 0 6 TyAtom, .boxd 0 7 TyAtom, .boxd 0 8 TyPolicy])]
def In_spec_LinkPolicy : List (List Nat × Nat) := []
noncomputable def cs_spec_LinkPolicy : List Ctr := [c_spec_GoodPolicy, c_spec_l7Id, c_spec_GoodAtom, c_spec_l10Slot, c_spec_l10Link]
noncomputable def F_spec_LinkPolicy (n : Nat) (a0 : DPolicy) (a1 : (List Int)) (a2 : DAtom) (a3 : DAtom) : Option (DPolicy × Bool) := run Tryd.prog A_spec_LinkPolicy In_spec_LinkPolicy (conOf cs_spec_LinkPolicy) Tryd.f7 (Tryd.f7.body.getD .skip) (packT [TyPolicy, .bool]) n (argsV [TyPolicy, .str, TyAtom, TyAtom] (a0, a1, a2, a3, ()))
noncomputable abbrev L_spec_LinkPolicy_1_3 (n : Nat) (x1 : (List Int)) (x2 : DPolicy) (x3 : DAtom) (x4 : DAtom) (x5 : DPolicy) : Option (DPolicy × Bool) := lam Tryd.prog A_spec_LinkPolicy In_spec_LinkPolicy (conOf cs_spec_LinkPolicy) Tryd.f7 (Tryd.f7.body.getD .skip) (packT [TyPolicy, .bool]) n [1, 3] [.d .str x1, .ptr 0 4 0, .ptr 0 6 0, .ptr 0 7 0, .ptr 0 8 0, .agg (explode TyPolicy x2), .agg (explode TyAtom x3), .agg (explode TyAtom x4), .agg (explode TyPolicy x5)]
theorem F_spec_LinkPolicy_eq (n : Nat) (a0 : DPolicy) (a1 : (List Int)) (a2 : DAtom) (a3 : DAtom) : F_spec_LinkPolicy n a0 a1 a2 a3 =
    Option.bind (P_spec_GoodPolicy a0) fun (y1 : Bool) =>
    bif !(y1) then
      some ((([] : List Int), false, (0, (0, 0, ([] : List Int), ([] : List Int)), ([] : List Int)), (0, (0, 0, ([] : List Int), ([] : List Int)), ([] : List Int)), (0, (0, 0, ([] : List Int), ([] : List Int)), ([] : List Int)), []), false)
    else
      Option.bind (P_spec_l7Id a1) fun (y2 : Bool) =>
      bif !(y2) then
        some ((([] : List Int), false, (0, (0, 0, ([] : List Int), ([] : List Int)), ([] : List Int)), (0, (0, 0, ([] : List Int), ([] : List Int)), ([] : List Int)), (0, (0, 0, ([] : List Int), ([] : List Int)), ([] : List Int)), []), false)
      else
        bif !decide (a2.1 = 4) then
          some ((([] : List Int), false, (0, (0, 0, ([] : List Int), ([] : List Int)), ([] : List Int)), (0, (0, 0, ([] : List Int), ([] : List Int)), ([] : List Int)), (0, (0, 0, ([] : List Int), ([] : List Int)), ([] : List Int)), []), false)
        else
          bif !decide (a3.1 = 4) then
            some ((([] : List Int), false, (0, (0, 0, ([] : List Int), ([] : List Int)), ([] : List Int)), (0, (0, 0, ([] : List Int), ([] : List Int)), ([] : List Int)), (0, (0, 0, ([] : List Int), ([] : List Int)), ([] : List Int)), []), false)
          else
            Option.bind (P_spec_GoodAtom a2) fun (y3 : Bool) =>
            bif !(y3) then
              some ((([] : List Int), false, (0, (0, 0, ([] : List Int), ([] : List Int)), ([] : List Int)), (0, (0, 0, ([] : List Int), ([] : List Int)), ([] : List Int)), (0, (0, 0, ([] : List Int), ([] : List Int)), ([] : List Int)), []), false)
            else
              Option.bind (P_spec_GoodAtom a3) fun (y4 : Bool) =>
              bif !(y4) then
                some ((([] : List Int), false, (0, (0, 0, ([] : List Int), ([] : List Int)), ([] : List Int)), (0, (0, 0, ([] : List Int), ([] : List Int)), ([] : List Int)), (0, (0, 0, ([] : List Int), ([] : List Int)), ([] : List Int)), []), false)
              else
                bif !(T_spec_l10Slot a0.2.2.1) then
                  bif !(T_spec_l10Slot a0.2.2.2.2.1) then
                    some ((([] : List Int), false, (0, (0, 0, ([] : List Int), ([] : List Int)), ([] : List Int)), (0, (0, 0, ([] : List Int), ([] : List Int)), ([] : List Int)), (0, (0, 0, ([] : List Int), ([] : List Int)), ([] : List Int)), []), false)
                  else
                    L_spec_LinkPolicy_1_3 n a1 a0 a2 a3 (([] : List Int), false, (0, (0, 0, ([] : List Int), ([] : List Int)), ([] : List Int)), (0, (0, 0, ([] : List Int), ([] : List Int)), ([] : List Int)), (0, (0, 0, ([] : List Int), ([] : List Int)), ([] : List Int)), [])
                else
                  L_spec_LinkPolicy_1_3 n a1 a0 a2 a3 (([] : List Int), false, (0, (0, 0, ([] : List Int), ([] : List Int)), ([] : List Int)), (0, (0, 0, ([] : List Int), ([] : List Int)), ([] : List Int)), (0, (0, 0, ([] : List Int), ([] : List Int)), ([] : List Int)), []) := by kernel_rfl
theorem L_spec_LinkPolicy_1_3_eq (n : Nat) (x1 : (List Int)) (x2 : DPolicy) (x3 : DAtom) (x4 : DAtom) (x5 : DPolicy) : L_spec_LinkPolicy_1_3 (n + 1) x1 x2 x3 x4 x5 =
    bif decide ((x2.2.2.2.2.2.length : Int) * 80 ≤ room) && decide ((x2.2.2.2.2.2.length : Int) ≤ room) then
      some ((x1, x2.2.1, (T_spec_l10Link x2.2.2.1 x3), x2.2.2.2.1, (T_spec_l10Link x2.2.2.2.2.1 x4), x2.2.2.2.2.2), true)
    else none := by kernel_rfl
theorem S_spec_LinkPolicy_1_3 {x1 : (List Int)} {x2 : DPolicy} {x3 : DAtom} {x4 : DAtom} {x5 : DPolicy} {r : (DPolicy × Bool)} (h : P_spec_LinkPolicy_1_3 x1 x2 x3 x4 = some r) : Ev (fun n => L_spec_LinkPolicy_1_3 n x1 x2 x3 x4 x5) r := by
  rw [P_spec_LinkPolicy_1_3] at h
  refine Ev.step ?_ (fun n => L_spec_LinkPolicy_1_3_eq n x1 x2 x3 x4 x5)
  exact (Ev.ofBif h (fun h => (Ev.ofSome h)) (fun h => (Ev.ofNone h)))
theorem S_spec_LinkPolicy (a0 : DPolicy) (a1 : (List Int)) (a2 : DAtom) (a3 : DAtom) {r : (DPolicy × Bool)} (h : P_spec_LinkPolicy a0 a1 a2 a3 = some r) : Ev (fun n => F_spec_LinkPolicy n a0 a1 a2 a3) r := by
  rw [P_spec_LinkPolicy] at h
  refine Ev.of_eq ?_ (fun n => F_spec_LinkPolicy_eq n a0 a1 a2 a3)
  exact (Ev.ofBind h fun y1 h => (Ev.ofBif h (fun h => (Ev.ofSome h)) (fun h => (Ev.ofBind h fun y2 h => (Ev.ofBif h (fun h => (Ev.ofSome h)) (fun h => (Ev.ofBif h (fun h => (Ev.ofSome h)) (fun h => (Ev.ofBif h (fun h => (Ev.ofSome h)) (fun h => (Ev.ofBind h fun y3 h => (Ev.ofBif h (fun h => (Ev.ofSome h)) (fun h => (Ev.ofBind h fun y4 h => (Ev.ofBif h (fun h => (Ev.ofSome h)) (fun h => (Ev.ofBif h (fun h => (Ev.ofBif h (fun h => (Ev.ofSome h)) (fun h => (S_spec_LinkPolicy_1_3 h)))) (fun h => (S_spec_LinkPolicy_1_3 h)))))))))))))))))))
theorem hcs_spec_LinkPolicy : ∀ x ∈ cs_spec_LinkPolicy, CtrOk Tryd.prog x := (conOf_cons ok_spec_GoodPolicy (conOf_cons ok_spec_l7Id (conOf_cons ok_spec_GoodAtom (conOf_cons ok_spec_l10Slot (conOf_cons ok_spec_l10Link conOf_nil)))))
theorem ok_spec_LinkPolicy : CtrOk Tryd.prog (c_spec_LinkPolicy) := by
  refine ctr_of_run (c := c_spec_LinkPolicy) (by kernel_rfl) (by kernel_rfl : Tryd.prog.funcs[7]? = some Tryd.f7) (code := Tryd.f7.body.getD .skip) (by kernel_rfl) (by kernel_rfl) (by kernel_rfl) (A := A_spec_LinkPolicy) (I := In_spec_LinkPolicy) (hcs_spec_LinkPolicy) ?_
  rintro ⟨a0, a1, a2, a3, u⟩ y hy
  exact (S_spec_LinkPolicy a0 a1 a2 a3 hy).get

/-! ## impl.yletter (102) -/
noncomputable def T_impl_yletter (a0 : Int) : Bool :=
  bif decide ((97 : Int) ≤ a0) then
    bif decide (a0 ≤ 122) then
      true
    else
      bif decide ((65 : Int) ≤ a0) then
        decide (a0 ≤ 90)
      else
        false
  else
    bif decide ((65 : Int) ≤ a0) then
      decide (a0 ≤ 90)
    else
      false
noncomputable def c_impl_yletter : Ctr := ⟨102, [U8], [.bool], fun x => some (T_impl_yletter x.1)⟩
def A_impl_yletter : List (List Nat × Ann) := []
def In_impl_yletter : List (List Nat × Nat) := []
noncomputable def cs_impl_yletter : List Ctr := []
noncomputable def F_impl_yletter (n : Nat) (a0 : Int) : Option Bool := run Tryd.prog A_impl_yletter In_impl_yletter (conOf cs_impl_yletter) Tryd.f102 (Tryd.f102.body.getD .skip) (packT [.bool]) n (argsV [U8] (a0, ()))
theorem F_impl_yletter_eq (n : Nat) (a0 : Int) : F_impl_yletter n a0 =
    bif decide ((97 : Int) ≤ a0) then
      bif decide (a0 ≤ 122) then
        some true
      else
        bif decide ((65 : Int) ≤ a0) then
          some (decide (a0 ≤ 90))
        else
          some false
    else
      bif decide ((65 : Int) ≤ a0) then
        some (decide (a0 ≤ 90))
      else
        some false := by kernel_rfl
theorem S_impl_yletter (n : Nat) (a0 : Int) : F_impl_yletter n a0 = some (T_impl_yletter a0) := (F_impl_yletter_eq n a0).trans (cond_some (cond_some rfl (cond_some rfl rfl)) (cond_some rfl rfl))
theorem hcs_impl_yletter : ∀ x ∈ cs_impl_yletter, CtrOk Tryd.prog x := conOf_nil
theorem ok_impl_yletter : CtrOk Tryd.prog (c_impl_yletter) := by
  refine ctr_of_run (c := c_impl_yletter) (by kernel_rfl) (by kernel_rfl : Tryd.prog.funcs[102]? = some Tryd.f102) (code := Tryd.f102.body.getD .skip) (by kernel_rfl) (by kernel_rfl) (by kernel_rfl) (A := A_impl_yletter) (I := In_impl_yletter) (hcs_impl_yletter) ?_
  rintro ⟨a0, u⟩ y hy
  exact ⟨0, (S_impl_yletter 0 a0).trans hy⟩

/-! ## impl.ydigit (88) -/
noncomputable def T_impl_ydigit (a0 : Int) : Bool :=
  bif decide ((48 : Int) ≤ a0) then
    decide (a0 ≤ 57)
  else
    false
noncomputable def c_impl_ydigit : Ctr := ⟨88, [U8], [.bool], fun x => some (T_impl_ydigit x.1)⟩
def A_impl_ydigit : List (List Nat × Ann) := []
def In_impl_ydigit : List (List Nat × Nat) := []
noncomputable def cs_impl_ydigit : List Ctr := []
noncomputable def F_impl_ydigit (n : Nat) (a0 : Int) : Option Bool := run Tryd.prog A_impl_ydigit In_impl_ydigit (conOf cs_impl_ydigit) Tryd.f88 (Tryd.f88.body.getD .skip) (packT [.bool]) n (argsV [U8] (a0, ()))
theorem F_impl_ydigit_eq (n : Nat) (a0 : Int) : F_impl_ydigit n a0 =
    bif decide ((48 : Int) ≤ a0) then
      some (decide (a0 ≤ 57))
    else
      some false := by kernel_rfl
theorem S_impl_ydigit (n : Nat) (a0 : Int) : F_impl_ydigit n a0 = some (T_impl_ydigit a0) := (F_impl_ydigit_eq n a0).trans (cond_some rfl rfl)
theorem hcs_impl_ydigit : ∀ x ∈ cs_impl_ydigit, CtrOk Tryd.prog x := conOf_nil
theorem ok_impl_ydigit : CtrOk Tryd.prog (c_impl_ydigit) := by
  refine ctr_of_run (c := c_impl_ydigit) (by kernel_rfl) (by kernel_rfl : Tryd.prog.funcs[88]? = some Tryd.f88) (code := Tryd.f88.body.getD .skip) (by kernel_rfl) (by kernel_rfl) (by kernel_rfl) (A := A_impl_ydigit) (I := In_impl_ydigit) (hcs_impl_ydigit) ?_
  rintro ⟨a0, u⟩ y hy
  exact ⟨0, (S_impl_ydigit 0 a0).trans hy⟩

/-! ## impl.ywordByte (80) -/
noncomputable def T_impl_ywordByte (a0 : Int) : Bool :=
  bif T_impl_yletter a0 then
    true
  else
    bif T_impl_ydigit a0 then
      true
    else
      decide (a0 = 95)
noncomputable def c_impl_ywordByte : Ctr := ⟨80, [U8], [.bool], fun x => some (T_impl_ywordByte x.1)⟩
def A_impl_ywordByte : List (List Nat × Ann) := []
def In_impl_ywordByte : List (List Nat × Nat) := []
noncomputable def cs_impl_ywordByte : List Ctr := [c_impl_yletter, c_impl_ydigit]
noncomputable def F_impl_ywordByte (n : Nat) (a0 : Int) : Option Bool := run Tryd.prog A_impl_ywordByte In_impl_ywordByte (conOf cs_impl_ywordByte) Tryd.f80 (Tryd.f80.body.getD .skip) (packT [.bool]) n (argsV [U8] (a0, ()))
theorem F_impl_ywordByte_eq (n : Nat) (a0 : Int) : F_impl_ywordByte n a0 =
    bif T_impl_yletter a0 then
      some true
    else
      bif T_impl_ydigit a0 then
        some true
      else
        some (decide (a0 = 95)) := by kernel_rfl
theorem S_impl_ywordByte (n : Nat) (a0 : Int) : F_impl_ywordByte n a0 = some (T_impl_ywordByte a0) := (F_impl_ywordByte_eq n a0).trans (cond_some rfl (cond_some rfl rfl))
theorem hcs_impl_ywordByte : ∀ x ∈ cs_impl_ywordByte, CtrOk Tryd.prog x := (conOf_cons ok_impl_yletter (conOf_cons ok_impl_ydigit conOf_nil))
theorem ok_impl_ywordByte : CtrOk Tryd.prog (c_impl_ywordByte) := by
  refine ctr_of_run (c := c_impl_ywordByte) (by kernel_rfl) (by kernel_rfl : Tryd.prog.funcs[80]? = some Tryd.f80) (code := Tryd.f80.body.getD .skip) (by kernel_rfl) (by kernel_rfl) (by kernel_rfl) (A := A_impl_ywordByte) (I := In_impl_ywordByte) (hcs_impl_ywordByte) ?_
  rintro ⟨a0, u⟩ y hy
  exact ⟨0, (S_impl_ywordByte 0 a0).trans hy⟩

/-! ## impl.ygoodId (34) -/
noncomputable def P_impl_ygoodId_0_4 : List Int → Option Bool
  | [] =>
      some true
  | e :: rest =>
      bif !(T_impl_ywordByte (e)) then
        bif !decide (e = 45) then
          bif !decide (e = 46) then
            some false
          else
            P_impl_ygoodId_0_4 rest
        else
          P_impl_ygoodId_0_4 rest
      else
        P_impl_ygoodId_0_4 rest
noncomputable def P_impl_ygoodId (a0 : (List Int)) : Option Bool :=
  bif decide ((a0.length : Int) < 1) then
    some false
  else
    bif decide ((40 : Int) < (a0.length : Int)) then
      some false
    else
      lenOk a0 (P_impl_ygoodId_0_4 a0)
noncomputable def c_impl_ygoodId : Ctr := ⟨34, [.str], [.bool], fun x => P_impl_ygoodId x.1⟩
def A_impl_ygoodId : List (List Nat × Ann) := [([0, 4], [.keep 0 0, .keep 0 13, .keep 0 14])]
def In_impl_ygoodId : List (List Nat × Nat) := []
noncomputable def cs_impl_ygoodId : List Ctr := [c_impl_ywordByte]
noncomputable def F_impl_ygoodId (n : Nat) (a0 : (List Int)) : Option Bool := run Tryd.prog A_impl_ygoodId In_impl_ygoodId (conOf cs_impl_ygoodId) Tryd.f34 (Tryd.f34.body.getD .skip) (packT [.bool]) n (argsV [.str] (a0, ()))
noncomputable abbrev L_impl_ygoodId_0_4 (n : Nat) (x1 : (List Int)) (x2 : Int) (x3 : Int) : Option Bool := lam Tryd.prog A_impl_ygoodId In_impl_ygoodId (conOf cs_impl_ygoodId) Tryd.f34 (Tryd.f34.body.getD .skip) (packT [.bool]) n [0, 4] [.d .str x1, .d I64 x2, .d I64 x3]
theorem F_impl_ygoodId_eq (n : Nat) (a0 : (List Int)) : F_impl_ygoodId n a0 =
    bif decide ((a0.length : Int) < 1) then
      some false
    else
      bif decide ((40 : Int) < (a0.length : Int)) then
        some false
      else
        L_impl_ygoodId_0_4 n a0 (a0.length : Int) 0 := by kernel_rfl
theorem L_impl_ygoodId_0_4_eq (n : Nat) (x1 : (List Int)) (x2 : Int) (x3 : Int) : L_impl_ygoodId_0_4 (n + 1) x1 x2 x3 =
    bif decide (x3 < x2) then
      bif inB x3 x1.length then
        bif !(T_impl_ywordByte (rd x1 x3 0)) then
          bif inB x3 x1.length then
            bif !decide (rd x1 x3 0 = 45) then
              bif inB x3 x1.length then
                bif !decide (rd x1 x3 0 = 46) then
                  some false
                else
                  L_impl_ygoodId_0_4 n x1 x2 (IntKind.wrap .i64 (x3 + 1))
              else none
            else
              L_impl_ygoodId_0_4 n x1 x2 (IntKind.wrap .i64 (x3 + 1))
          else none
        else
          L_impl_ygoodId_0_4 n x1 x2 (IntKind.wrap .i64 (x3 + 1))
      else none
    else
      some true := by kernel_rfl
theorem S_impl_ygoodId_0_4 {x1 : (List Int)} (hl : x1.length ≤ maxLen) : ∀ (rest : List Int) (k : Nat) (r : Bool), rest = x1.drop k → P_impl_ygoodId_0_4 rest = some r → Ev (fun n => L_impl_ygoodId_0_4 n x1 (x1.length : Int) (k : Int)) r := by
  intro rest
  induction rest with
  | nil =>
    intro k r hr h
    have hk := drop_nil hr
    rw [P_impl_ygoodId_0_4] at h
    refine Ev.step ?_ (fun n => L_impl_ygoodId_0_4_eq n x1 (x1.length : Int) (k : Int))
    rw [show decide ((k : Int) < (x1.length : Int)) = false from decide_eq_false (by omega)]
    exact Ev.neg rfl (Ev.ofSome h)
  | cons e rest ih =>
    intro k r hr h
    obtain ⟨hk, hx, hr2⟩ := drop_cons (d := 0) hr
    have hw := wrap_succ hl hk
    have ih2 : ∀ (r : Bool), P_impl_ygoodId_0_4 rest = some r → Ev (fun n => L_impl_ygoodId_0_4 n x1 (x1.length : Int) (IntKind.wrap .i64 ((k : Int) + 1))) r := by
      intro r h; rw [hw]; exact ih (k + 1) r hr2 h
    rw [P_impl_ygoodId_0_4] at h
    refine Ev.step ?_ (fun n => L_impl_ygoodId_0_4_eq n x1 (x1.length : Int) (k : Int))
    rw [show decide ((k : Int) < (x1.length : Int)) = true from decide_eq_true (by omega), inB_nat2 hk, hx]
    exact Ev.pos rfl (Ev.pos rfl (Ev.ofBif h (fun h => (Ev.pos rfl (Ev.ofBif h (fun h => (Ev.pos rfl (Ev.ofBif h (fun h => (Ev.ofSome h)) (fun h => (ih2  _ h))))) (fun h => (ih2  _ h))))) (fun h => (ih2  _ h))))
theorem S_impl_ygoodId (a0 : (List Int)) {r : Bool} (h : P_impl_ygoodId a0 = some r) : Ev (fun n => F_impl_ygoodId n a0) r := by
  rw [P_impl_ygoodId] at h
  refine Ev.of_eq ?_ (fun n => F_impl_ygoodId_eq n a0)
  exact (Ev.ofBif h (fun h => (Ev.ofSome h)) (fun h => (Ev.ofBif h (fun h => (Ev.ofSome h)) (fun h => (Ev.ofLen h fun hl h => S_impl_ygoodId_0_4 hl _ (0 : Nat) _ rfl h)))))
theorem hcs_impl_ygoodId : ∀ x ∈ cs_impl_ygoodId, CtrOk Tryd.prog x := (conOf_cons ok_impl_ywordByte conOf_nil)
theorem ok_impl_ygoodId : CtrOk Tryd.prog (c_impl_ygoodId) := by
  refine ctr_of_run (c := c_impl_ygoodId) (by kernel_rfl) (by kernel_rfl : Tryd.prog.funcs[34]? = some Tryd.f34) (code := Tryd.f34.body.getD .skip) (by kernel_rfl) (by kernel_rfl) (by kernel_rfl) (A := A_impl_ygoodId) (I := In_impl_ygoodId) (hcs_impl_ygoodId) ?_
  rintro ⟨a0, u⟩ y hy
  exact (S_impl_ygoodId a0 hy).get

/-! ## impl.yzeroAtom (97) -/
noncomputable def T_impl_yzeroAtom (a0 : DAtom) : Bool :=
  @decide (a0 = (0, 0, ([] : List Int), ([] : List Int))) (Ty.decEq TyAtom a0 (0, 0, ([] : List Int), ([] : List Int)))
noncomputable def c_impl_yzeroAtom : Ctr := ⟨97, [TyAtom], [.bool], fun x => some (T_impl_yzeroAtom x.1)⟩
def A_impl_yzeroAtom : List (List Nat × Ann) := []
def In_impl_yzeroAtom : List (List Nat × Nat) := []
noncomputable def cs_impl_yzeroAtom : List Ctr := []
noncomputable def F_impl_yzeroAtom (n : Nat) (a0 : DAtom) : Option Bool := run Tryd.prog A_impl_yzeroAtom In_impl_yzeroAtom (conOf cs_impl_yzeroAtom) Tryd.f97 (Tryd.f97.body.getD .skip) (packT [.bool]) n (argsV [TyAtom] (a0, ()))
theorem F_impl_yzeroAtom_eq (n : Nat) (a0 : DAtom) : F_impl_yzeroAtom n a0 =
    some (@decide (a0 = (0, 0, ([] : List Int), ([] : List Int))) (Ty.decEq TyAtom a0 (0, 0, ([] : List Int), ([] : List Int)))) := by kernel_rfl
theorem S_impl_yzeroAtom (n : Nat) (a0 : DAtom) : F_impl_yzeroAtom n a0 = some (T_impl_yzeroAtom a0) := (F_impl_yzeroAtom_eq n a0).trans rfl
theorem hcs_impl_yzeroAtom : ∀ x ∈ cs_impl_yzeroAtom, CtrOk Tryd.prog x := conOf_nil
theorem ok_impl_yzeroAtom : CtrOk Tryd.prog (c_impl_yzeroAtom) := by
  refine ctr_of_run (c := c_impl_yzeroAtom) (by kernel_rfl) (by kernel_rfl : Tryd.prog.funcs[97]? = some Tryd.f97) (code := Tryd.f97.body.getD .skip) (by kernel_rfl) (by kernel_rfl) (by kernel_rfl) (A := A_impl_yzeroAtom) (I := In_impl_yzeroAtom) (hcs_impl_yzeroAtom) ?_
  rintro ⟨a0, u⟩ y hy
  exact ⟨0, (S_impl_yzeroAtom 0 a0).trans hy⟩

/-! ## impl.yprinted (103) -/
noncomputable def P_impl_yprinted_0_4 : List Int → Option Bool
  | [] =>
      some true
  | e :: rest =>
      bif decide (e < 32) then
        some false
      else
        bif decide ((126 : Int) < e) then
          some false
        else
          P_impl_yprinted_0_4 rest
noncomputable def P_impl_yprinted (a0 : (List Int)) (a1 : Int) (a2 : Int) : Option Bool :=
  bif decide ((a0.length : Int) < a1) then
    some false
  else
    bif decide (a2 < (a0.length : Int)) then
      some false
    else
      lenOk a0 (P_impl_yprinted_0_4 a0)
noncomputable def c_impl_yprinted : Ctr := ⟨103, [.str, I64, I64], [.bool], fun x => P_impl_yprinted x.1 x.2.1 x.2.2.1⟩
def A_impl_yprinted : List (List Nat × Ann) := [([0, 4], [.keep 0 0, .keep 0 19, .keep 0 20])]
def In_impl_yprinted : List (List Nat × Nat) := []
noncomputable def cs_impl_yprinted : List Ctr := []
noncomputable def F_impl_yprinted (n : Nat) (a0 : (List Int)) (a1 : Int) (a2 : Int) : Option Bool := run Tryd.prog A_impl_yprinted In_impl_yprinted (conOf cs_impl_yprinted) Tryd.f103 (Tryd.f103.body.getD .skip) (packT [.bool]) n (argsV [.str, I64, I64] (a0, a1, a2, ()))
noncomputable abbrev L_impl_yprinted_0_4 (n : Nat) (x1 : (List Int)) (x2 : Int) (x3 : Int) : Option Bool := lam Tryd.prog A_impl_yprinted In_impl_yprinted (conOf cs_impl_yprinted) Tryd.f103 (Tryd.f103.body.getD .skip) (packT [.bool]) n [0, 4] [.d .str x1, .d I64 x2, .d I64 x3]
theorem F_impl_yprinted_eq (n : Nat) (a0 : (List Int)) (a1 : Int) (a2 : Int) : F_impl_yprinted n a0 a1 a2 =
    bif decide ((a0.length : Int) < a1) then
      some false
    else
      bif decide (a2 < (a0.length : Int)) then
        some false
      else
        L_impl_yprinted_0_4 n a0 (a0.length : Int) 0 := by kernel_rfl
theorem L_impl_yprinted_0_4_eq (n : Nat) (x1 : (List Int)) (x2 : Int) (x3 : Int) : L_impl_yprinted_0_4 (n + 1) x1 x2 x3 =
    bif decide (x3 < x2) then
      bif inB x3 x1.length then
        bif decide (rd x1 x3 0 < 32) then
          some false
        else
          bif inB x3 x1.length then
            bif decide ((126 : Int) < rd x1 x3 0) then
              some false
            else
              L_impl_yprinted_0_4 n x1 x2 (IntKind.wrap .i64 (x3 + 1))
          else none
      else none
    else
      some true := by kernel_rfl
theorem S_impl_yprinted_0_4 {x1 : (List Int)} (hl : x1.length ≤ maxLen) : ∀ (rest : List Int) (k : Nat) (r : Bool), rest = x1.drop k → P_impl_yprinted_0_4 rest = some r → Ev (fun n => L_impl_yprinted_0_4 n x1 (x1.length : Int) (k : Int)) r := by
  intro rest
  induction rest with
  | nil =>
    intro k r hr h
    have hk := drop_nil hr
    rw [P_impl_yprinted_0_4] at h
    refine Ev.step ?_ (fun n => L_impl_yprinted_0_4_eq n x1 (x1.length : Int) (k : Int))
    rw [show decide ((k : Int) < (x1.length : Int)) = false from decide_eq_false (by omega)]
    exact Ev.neg rfl (Ev.ofSome h)
  | cons e rest ih =>
    intro k r hr h
    obtain ⟨hk, hx, hr2⟩ := drop_cons (d := 0) hr
    have hw := wrap_succ hl hk
    have ih2 : ∀ (r : Bool), P_impl_yprinted_0_4 rest = some r → Ev (fun n => L_impl_yprinted_0_4 n x1 (x1.length : Int) (IntKind.wrap .i64 ((k : Int) + 1))) r := by
      intro r h; rw [hw]; exact ih (k + 1) r hr2 h
    rw [P_impl_yprinted_0_4] at h
    refine Ev.step ?_ (fun n => L_impl_yprinted_0_4_eq n x1 (x1.length : Int) (k : Int))
    rw [show decide ((k : Int) < (x1.length : Int)) = true from decide_eq_true (by omega), inB_nat2 hk, hx]
    exact Ev.pos rfl (Ev.pos rfl (Ev.ofBif h (fun h => (Ev.ofSome h)) (fun h => (Ev.pos rfl (Ev.ofBif h (fun h => (Ev.ofSome h)) (fun h => (ih2  _ h)))))))
theorem S_impl_yprinted (a0 : (List Int)) (a1 : Int) (a2 : Int) {r : Bool} (h : P_impl_yprinted a0 a1 a2 = some r) : Ev (fun n => F_impl_yprinted n a0 a1 a2) r := by
  rw [P_impl_yprinted] at h
  refine Ev.of_eq ?_ (fun n => F_impl_yprinted_eq n a0 a1 a2)
  exact (Ev.ofBif h (fun h => (Ev.ofSome h)) (fun h => (Ev.ofBif h (fun h => (Ev.ofSome h)) (fun h => (Ev.ofLen h fun hl h => S_impl_yprinted_0_4 hl _ (0 : Nat) _ rfl h)))))
theorem hcs_impl_yprinted : ∀ x ∈ cs_impl_yprinted, CtrOk Tryd.prog x := conOf_nil
theorem ok_impl_yprinted : CtrOk Tryd.prog (c_impl_yprinted) := by
  refine ctr_of_run (c := c_impl_yprinted) (by kernel_rfl) (by kernel_rfl : Tryd.prog.funcs[103]? = some Tryd.f103) (code := Tryd.f103.body.getD .skip) (by kernel_rfl) (by kernel_rfl) (by kernel_rfl) (A := A_impl_yprinted) (I := In_impl_yprinted) (hcs_impl_yprinted) ?_
  rintro ⟨a0, a1, a2, u⟩ y hy
  exact (S_impl_yprinted a0 a1 a2 hy).get

/-! ## impl.GoodName (52) -/
noncomputable def P_impl_GoodName_0_4 : List Int → Option Bool
  | [] =>
      some true
  | e :: rest =>
      bif !(T_impl_ywordByte (e)) then
        some false
      else
        P_impl_GoodName_0_4 rest
noncomputable def P_impl_GoodName (a0 : (List Int)) : Option Bool :=
  bif decide (a0 = ([] : List Int)) then
    some false
  else
    bif decide ((30 : Int) < (a0.length : Int)) then
      some false
    else
      bif inB 0 a0.length then
        bif T_impl_ydigit (rd a0 0 0) then
          some false
        else
          lenOk a0 (P_impl_GoodName_0_4 a0)
      else none
noncomputable def c_impl_GoodName : Ctr := ⟨52, [.str], [.bool], fun x => P_impl_GoodName x.1⟩
def A_impl_GoodName : List (List Nat × Ann) := [([0, 4], [.keep 0 0, .keep 0 17, .keep 0 18])]
def In_impl_GoodName : List (List Nat × Nat) := []
noncomputable def cs_impl_GoodName : List Ctr := [c_impl_ydigit, c_impl_ywordByte]
noncomputable def F_impl_GoodName (n : Nat) (a0 : (List Int)) : Option Bool := run Tryd.prog A_impl_GoodName In_impl_GoodName (conOf cs_impl_GoodName) Tryd.f52 (Tryd.f52.body.getD .skip) (packT [.bool]) n (argsV [.str] (a0, ()))
noncomputable abbrev L_impl_GoodName_0_4 (n : Nat) (x1 : (List Int)) (x2 : Int) (x3 : Int) : Option Bool := lam Tryd.prog A_impl_GoodName In_impl_GoodName (conOf cs_impl_GoodName) Tryd.f52 (Tryd.f52.body.getD .skip) (packT [.bool]) n [0, 4] [.d .str x1, .d I64 x2, .d I64 x3]
theorem F_impl_GoodName_eq (n : Nat) (a0 : (List Int)) : F_impl_GoodName n a0 =
    bif decide (a0 = ([] : List Int)) then
      some false
    else
      bif decide ((30 : Int) < (a0.length : Int)) then
        some false
      else
        bif inB 0 a0.length then
          bif T_impl_ydigit (rd a0 0 0) then
            some false
          else
            L_impl_GoodName_0_4 n a0 (a0.length : Int) 0
        else none := by kernel_rfl
theorem L_impl_GoodName_0_4_eq (n : Nat) (x1 : (List Int)) (x2 : Int) (x3 : Int) : L_impl_GoodName_0_4 (n + 1) x1 x2 x3 =
    bif decide (x3 < x2) then
      bif inB x3 x1.length then
        bif !(T_impl_ywordByte (rd x1 x3 0)) then
          some false
        else
          L_impl_GoodName_0_4 n x1 x2 (IntKind.wrap .i64 (x3 + 1))
      else none
    else
      some true := by kernel_rfl
theorem S_impl_GoodName_0_4 {x1 : (List Int)} (hl : x1.length ≤ maxLen) : ∀ (rest : List Int) (k : Nat) (r : Bool), rest = x1.drop k → P_impl_GoodName_0_4 rest = some r → Ev (fun n => L_impl_GoodName_0_4 n x1 (x1.length : Int) (k : Int)) r := by
  intro rest
  induction rest with
  | nil =>
    intro k r hr h
    have hk := drop_nil hr
    rw [P_impl_GoodName_0_4] at h
    refine Ev.step ?_ (fun n => L_impl_GoodName_0_4_eq n x1 (x1.length : Int) (k : Int))
    rw [show decide ((k : Int) < (x1.length : Int)) = false from decide_eq_false (by omega)]
    exact Ev.neg rfl (Ev.ofSome h)
  | cons e rest ih =>
    intro k r hr h
    obtain ⟨hk, hx, hr2⟩ := drop_cons (d := 0) hr
    have hw := wrap_succ hl hk
    have ih2 : ∀ (r : Bool), P_impl_GoodName_0_4 rest = some r → Ev (fun n => L_impl_GoodName_0_4 n x1 (x1.length : Int) (IntKind.wrap .i64 ((k : Int) + 1))) r := by
      intro r h; rw [hw]; exact ih (k + 1) r hr2 h
    rw [P_impl_GoodName_0_4] at h
    refine Ev.step ?_ (fun n => L_impl_GoodName_0_4_eq n x1 (x1.length : Int) (k : Int))
    rw [show decide ((k : Int) < (x1.length : Int)) = true from decide_eq_true (by omega), inB_nat2 hk, hx]
    exact Ev.pos rfl (Ev.pos rfl (Ev.ofBif h (fun h => (Ev.ofSome h)) (fun h => (ih2  _ h))))
theorem S_impl_GoodName (a0 : (List Int)) {r : Bool} (h : P_impl_GoodName a0 = some r) : Ev (fun n => F_impl_GoodName n a0) r := by
  rw [P_impl_GoodName] at h
  refine Ev.of_eq ?_ (fun n => F_impl_GoodName_eq n a0)
  exact (Ev.ofBif h (fun h => (Ev.ofSome h)) (fun h => (Ev.ofBif h (fun h => (Ev.ofSome h)) (fun h => (Ev.ofBif h (fun h => (Ev.ofBif h (fun h => (Ev.ofSome h)) (fun h => (Ev.ofLen h fun hl h => S_impl_GoodName_0_4 hl _ (0 : Nat) _ rfl h)))) (fun h => (Ev.ofNone h)))))))
theorem hcs_impl_GoodName : ∀ x ∈ cs_impl_GoodName, CtrOk Tryd.prog x := (conOf_cons ok_impl_ydigit (conOf_cons ok_impl_ywordByte conOf_nil))
theorem ok_impl_GoodName : CtrOk Tryd.prog (c_impl_GoodName) := by
  refine ctr_of_run (c := c_impl_GoodName) (by kernel_rfl) (by kernel_rfl : Tryd.prog.funcs[52]? = some Tryd.f52) (code := Tryd.f52.body.getD .skip) (by kernel_rfl) (by kernel_rfl) (by kernel_rfl) (A := A_impl_GoodName) (I := In_impl_GoodName) (hcs_impl_GoodName) ?_
  rintro ⟨a0, u⟩ y hy
  exact (S_impl_GoodName a0 hy).get

/-! ## impl.GoodAtom (81) -/
noncomputable def P_impl_GoodAtom_1_7 (x1 : Bool) (x2 : Int) (x3 : Bool) (x4 : DAtom) : Option Bool :=
  bif x3 then
    some x1
  else
    bif decide (x2 = 3) then
      bif decide (x4.2.1 = 0) then
        bif decide (x4.2.2.2 = ([] : List Int)) then
          Option.bind (P_impl_yprinted x4.2.2.1 0 200) fun (y1 : Bool) =>
          some y1
        else
          some false
      else
        some false
    else
      bif decide (x2 = 4) then
        bif decide (x4.2.1 = 0) then
          Option.bind (P_impl_GoodName x4.2.2.2) fun (y2 : Bool) =>
          bif y2 then
            Option.bind (P_impl_yprinted x4.2.2.1 1 200) fun (y3 : Bool) =>
            some y3
          else
            some false
        else
          some false
      else
        bif decide (x2 = 6) then
          bif !(x1) then
            some false
          else
            bif decide (x4.2.1 < 0) then
              some false
            else
              bif decide (Int.tmod x4.2.1 64 ≤ 32) then
                bif decide (IntKind.wrap .i64 (Int.tdiv x4.2.1 64) < 4294967296) then
                  bif decide ((0 : Int) ≤ IntKind.wrap .i64 (32 - (Int.tmod x4.2.1 64))) then
                    bif decide (IntKind.wrap .i64 (1 * 2 ^ (min (Int.toNat (IntKind.wrap .i64 (32 - (Int.tmod x4.2.1 64)))) 64)) = 0) then none else
                    some (decide (Int.tmod (IntKind.wrap .i64 (Int.tdiv x4.2.1 64)) (IntKind.wrap .i64 (1 * 2 ^ (min (Int.toNat (IntKind.wrap .i64 (32 - (Int.tmod x4.2.1 64)))) 64))) = 0))
                  else none
                else
                  some false
              else
                some false
        else
          bif decide (x2 = 7) then
            bif x1 then
              bif decide (((-100000000000) : Int) ≤ x4.2.1) then
                some (decide (x4.2.1 ≤ 100000000000))
              else
                some false
            else
              some false
          else
            some false
noncomputable def P_impl_GoodAtom_1_2 (x1 : Bool) (x2 : DAtom) : Option Bool :=
  bif decide (x2.1 = 1) then
    bif x1 then
      bif decide (x2.2.1 = 0) then
        some true
      else
        some (decide (x2.2.1 = 1))
    else
      some false
  else
    bif decide (x2.1 = 2) then
      P_impl_GoodAtom_1_7 x1 x2.1 (decide (x2.1 = 2)) x2
    else
      P_impl_GoodAtom_1_7 x1 x2.1 (decide (x2.1 = 5)) x2
noncomputable def P_impl_GoodAtom (a0 : DAtom) : Option Bool :=
  bif decide (a0.2.2.1 = ([] : List Int)) then
    P_impl_GoodAtom_1_2 (decide (a0.2.2.2 = ([] : List Int))) a0
  else
    P_impl_GoodAtom_1_2 false a0
noncomputable def c_impl_GoodAtom : Ctr := ⟨81, [TyAtom], [.bool], fun x => P_impl_GoodAtom x.1⟩
def A_impl_GoodAtom : List (List Nat × Ann) := [([1, 2], [.keep 0 1, .keep 0 3, .boxd 0 1 TyAtom]), ([1, 7], [.keep 0 1, .keep 0 3, .keep 0 15, .keep 0 29, .boxd 0 1 TyAtom])]
def In_impl_GoodAtom : List (List Nat × Nat) := []
noncomputable def cs_impl_GoodAtom : List Ctr := [c_impl_yprinted, c_impl_GoodName]
noncomputable def F_impl_GoodAtom (n : Nat) (a0 : DAtom) : Option Bool := run Tryd.prog A_impl_GoodAtom In_impl_GoodAtom (conOf cs_impl_GoodAtom) Tryd.f81 (Tryd.f81.body.getD .skip) (packT [.bool]) n (argsV [TyAtom] (a0, ()))
noncomputable abbrev L_impl_GoodAtom_1_2 (n : Nat) (x1 : Bool) (x2 : DAtom) : Option Bool := lam Tryd.prog A_impl_GoodAtom In_impl_GoodAtom (conOf cs_impl_GoodAtom) Tryd.f81 (Tryd.f81.body.getD .skip) (packT [.bool]) n [1, 2] [.ptr 0 1 0, .d .bool x1, .agg (explode TyAtom x2)]
noncomputable abbrev L_impl_GoodAtom_1_7 (n : Nat) (x1 : Bool) (x2 : Int) (x3 : Bool) (x4 : DAtom) : Option Bool := lam Tryd.prog A_impl_GoodAtom In_impl_GoodAtom (conOf cs_impl_GoodAtom) Tryd.f81 (Tryd.f81.body.getD .skip) (packT [.bool]) n [1, 7] [.ptr 0 1 0, .d .bool x1, .d I64 x2, .d .bool x3, .agg (explode TyAtom x4)]
theorem F_impl_GoodAtom_eq (n : Nat) (a0 : DAtom) : F_impl_GoodAtom n a0 =
    bif decide (a0.2.2.1 = ([] : List Int)) then
      L_impl_GoodAtom_1_2 n (decide (a0.2.2.2 = ([] : List Int))) a0
    else
      L_impl_GoodAtom_1_2 n false a0 := by kernel_rfl
theorem L_impl_GoodAtom_1_2_eq (n : Nat) (x1 : Bool) (x2 : DAtom) : L_impl_GoodAtom_1_2 (n + 1) x1 x2 =
    bif decide (x2.1 = 1) then
      bif x1 then
        bif decide (x2.2.1 = 0) then
          some true
        else
          some (decide (x2.2.1 = 1))
      else
        some false
    else
      bif decide (x2.1 = 2) then
        L_impl_GoodAtom_1_7 n x1 x2.1 (decide (x2.1 = 2)) x2
      else
        L_impl_GoodAtom_1_7 n x1 x2.1 (decide (x2.1 = 5)) x2 := by kernel_rfl
theorem L_impl_GoodAtom_1_7_eq (n : Nat) (x1 : Bool) (x2 : Int) (x3 : Bool) (x4 : DAtom) : L_impl_GoodAtom_1_7 (n + 1) x1 x2 x3 x4 =
    bif x3 then
      some x1
    else
      bif decide (x2 = 3) then
        bif decide (x4.2.1 = 0) then
          bif decide (x4.2.2.2 = ([] : List Int)) then
            Option.bind (P_impl_yprinted x4.2.2.1 0 200) fun (y1 : Bool) =>
            some y1
          else
            some false
        else
          some false
      else
        bif decide (x2 = 4) then
          bif decide (x4.2.1 = 0) then
            Option.bind (P_impl_GoodName x4.2.2.2) fun (y2 : Bool) =>
            bif y2 then
              Option.bind (P_impl_yprinted x4.2.2.1 1 200) fun (y3 : Bool) =>
              some y3
            else
              some false
          else
            some false
        else
          bif decide (x2 = 6) then
            bif !(x1) then
              some false
            else
              bif decide (x4.2.1 < 0) then
                some false
              else
                bif decide (Int.tmod x4.2.1 64 ≤ 32) then
                  bif decide (IntKind.wrap .i64 (Int.tdiv x4.2.1 64) < 4294967296) then
                    bif decide ((0 : Int) ≤ IntKind.wrap .i64 (32 - (Int.tmod x4.2.1 64))) then
                      bif decide (IntKind.wrap .i64 (1 * 2 ^ (min (Int.toNat (IntKind.wrap .i64 (32 - (Int.tmod x4.2.1 64)))) 64)) = 0) then none else
                      some (decide (Int.tmod (IntKind.wrap .i64 (Int.tdiv x4.2.1 64)) (IntKind.wrap .i64 (1 * 2 ^ (min (Int.toNat (IntKind.wrap .i64 (32 - (Int.tmod x4.2.1 64)))) 64))) = 0))
                    else none
                  else
                    some false
                else
                  some false
          else
            bif decide (x2 = 7) then
              bif x1 then
                bif decide (((-100000000000) : Int) ≤ x4.2.1) then
                  some (decide (x4.2.1 ≤ 100000000000))
                else
                  some false
              else
                some false
            else
              some false := by kernel_rfl
theorem S_impl_GoodAtom_1_7 {x1 : Bool} {x2 : Int} {x3 : Bool} {x4 : DAtom} {r : Bool} (h : P_impl_GoodAtom_1_7 x1 x2 x3 x4 = some r) : Ev (fun n => L_impl_GoodAtom_1_7 n x1 x2 x3 x4) r := by
  rw [P_impl_GoodAtom_1_7] at h
  refine Ev.step ?_ (fun n => L_impl_GoodAtom_1_7_eq n x1 x2 x3 x4)
  exact (Ev.ofBif h (fun h => (Ev.ofSome h)) (fun h => (Ev.ofBif h (fun h => (Ev.ofBif h (fun h => (Ev.ofBif h (fun h => (Ev.ofBind h fun y1 h => (Ev.ofSome h))) (fun h => (Ev.ofSome h)))) (fun h => (Ev.ofSome h)))) (fun h => (Ev.ofBif h (fun h => (Ev.ofBif h (fun h => (Ev.ofBind h fun y2 h => (Ev.ofBif h (fun h => (Ev.ofBind h fun y3 h => (Ev.ofSome h))) (fun h => (Ev.ofSome h))))) (fun h => (Ev.ofSome h)))) (fun h => (Ev.ofBif h (fun h => (Ev.ofBif h (fun h => (Ev.ofSome h)) (fun h => (Ev.ofBif h (fun h => (Ev.ofSome h)) (fun h => (Ev.ofBif h (fun h => (Ev.ofBif h (fun h => (Ev.ofBif h (fun h => (Ev.ofBif h (fun h => (Ev.ofNone h)) (fun h => (Ev.ofSome h)))) (fun h => (Ev.ofNone h)))) (fun h => (Ev.ofSome h)))) (fun h => (Ev.ofSome h)))))))) (fun h => (Ev.ofBif h (fun h => (Ev.ofBif h (fun h => (Ev.ofBif h (fun h => (Ev.ofSome h)) (fun h => (Ev.ofSome h)))) (fun h => (Ev.ofSome h)))) (fun h => (Ev.ofSome h)))))))))))
theorem S_impl_GoodAtom_1_2 {x1 : Bool} {x2 : DAtom} {r : Bool} (h : P_impl_GoodAtom_1_2 x1 x2 = some r) : Ev (fun n => L_impl_GoodAtom_1_2 n x1 x2) r := by
  rw [P_impl_GoodAtom_1_2] at h
  refine Ev.step ?_ (fun n => L_impl_GoodAtom_1_2_eq n x1 x2)
  exact (Ev.ofBif h (fun h => (Ev.ofBif h (fun h => (Ev.ofBif h (fun h => (Ev.ofSome h)) (fun h => (Ev.ofSome h)))) (fun h => (Ev.ofSome h)))) (fun h => (Ev.ofBif h (fun h => (S_impl_GoodAtom_1_7 h)) (fun h => (S_impl_GoodAtom_1_7 h)))))
theorem S_impl_GoodAtom (a0 : DAtom) {r : Bool} (h : P_impl_GoodAtom a0 = some r) : Ev (fun n => F_impl_GoodAtom n a0) r := by
  rw [P_impl_GoodAtom] at h
  refine Ev.of_eq ?_ (fun n => F_impl_GoodAtom_eq n a0)
  exact (Ev.ofBif h (fun h => (S_impl_GoodAtom_1_2 h)) (fun h => (S_impl_GoodAtom_1_2 h)))
theorem hcs_impl_GoodAtom : ∀ x ∈ cs_impl_GoodAtom, CtrOk Tryd.prog x := (conOf_cons ok_impl_yprinted (conOf_cons ok_impl_GoodName conOf_nil))
theorem ok_impl_GoodAtom : CtrOk Tryd.prog (c_impl_GoodAtom) := by
  refine ctr_of_run (c := c_impl_GoodAtom) (by kernel_rfl) (by kernel_rfl : Tryd.prog.funcs[81]? = some Tryd.f81) (code := Tryd.f81.body.getD .skip) (by kernel_rfl) (by kernel_rfl) (by kernel_rfl) (A := A_impl_GoodAtom) (I := In_impl_GoodAtom) (hcs_impl_GoodAtom) ?_
  rintro ⟨a0, u⟩ y hy
  exact (S_impl_GoodAtom a0 hy).get

/-! ## impl.ygoodRef (35) -/
noncomputable def P_impl_ygoodRef (a0 : DAtom) : Option Bool :=
  bif decide (a0.1 = 4) then
    Option.bind (P_impl_GoodAtom a0) fun (y1 : Bool) =>
    some y1
  else
    some false
noncomputable def c_impl_ygoodRef : Ctr := ⟨35, [TyAtom], [.bool], fun x => P_impl_ygoodRef x.1⟩
def A_impl_ygoodRef : List (List Nat × Ann) := []
def In_impl_ygoodRef : List (List Nat × Nat) := []
noncomputable def cs_impl_ygoodRef : List Ctr := [c_impl_GoodAtom]
noncomputable def F_impl_ygoodRef (n : Nat) (a0 : DAtom) : Option Bool := run Tryd.prog A_impl_ygoodRef In_impl_ygoodRef (conOf cs_impl_ygoodRef) Tryd.f35 (Tryd.f35.body.getD .skip) (packT [.bool]) n (argsV [TyAtom] (a0, ()))
theorem F_impl_ygoodRef_eq (n : Nat) (a0 : DAtom) : F_impl_ygoodRef n a0 =
    bif decide (a0.1 = 4) then
      Option.bind (P_impl_GoodAtom a0) fun (y1 : Bool) =>
      some y1
    else
      some false := by kernel_rfl
theorem S_impl_ygoodRef (a0 : DAtom) {r : Bool} (h : P_impl_ygoodRef a0 = some r) : Ev (fun n => F_impl_ygoodRef n a0) r := by
  rw [P_impl_ygoodRef] at h
  refine Ev.of_eq ?_ (fun n => F_impl_ygoodRef_eq n a0)
  exact (Ev.ofBif h (fun h => (Ev.ofBind h fun y1 h => (Ev.ofSome h))) (fun h => (Ev.ofSome h)))
theorem hcs_impl_ygoodRef : ∀ x ∈ cs_impl_ygoodRef, CtrOk Tryd.prog x := (conOf_cons ok_impl_GoodAtom conOf_nil)
theorem ok_impl_ygoodRef : CtrOk Tryd.prog (c_impl_ygoodRef) := by
  refine ctr_of_run (c := c_impl_ygoodRef) (by kernel_rfl) (by kernel_rfl : Tryd.prog.funcs[35]? = some Tryd.f35) (code := Tryd.f35.body.getD .skip) (by kernel_rfl) (by kernel_rfl) (by kernel_rfl) (A := A_impl_ygoodRef) (I := In_impl_ygoodRef) (hcs_impl_ygoodRef) ?_
  rintro ⟨a0, u⟩ y hy
  exact (S_impl_ygoodRef a0 hy).get

/-! ## impl.ygoodHead (78) -/
noncomputable def P_impl_ygoodHead_1_11 (x1 : Bool) (x2 : Bool) (x3 : DHead) : Option Bool :=
  bif x2 then
    bif T_impl_yzeroAtom x3.2.1 then
      bif decide (x3.2.2 = ([] : List Int)) then
        some (!(x1))
      else
        some false
    else
      some false
  else
    some false
noncomputable def P_impl_ygoodHead_1_6 (x1 : Bool) (x2 : Int) (x3 : Bool) (x4 : DHead) : Option Bool :=
  bif x3 then
    Option.bind (P_impl_ygoodRef x4.2.1) fun (y1 : Bool) =>
    bif y1 then
      some (decide (x4.2.2 = ([] : List Int)))
    else
      some false
  else
    bif decide (x2 = 4) then
      bif T_impl_yzeroAtom x4.2.1 then
        Option.bind (P_impl_GoodName x4.2.2) fun (y2 : Bool) =>
        some y2
      else
        some false
    else
      bif decide (x2 = 5) then
        P_impl_ygoodHead_1_11 x1 (decide (x2 = 5)) x4
      else
        P_impl_ygoodHead_1_11 x1 (decide (x2 = 6)) x4
noncomputable def P_impl_ygoodHead (a0 : DHead) (a1 : Bool) : Option Bool :=
  bif decide (a0.1 = 1) then
    bif T_impl_yzeroAtom a0.2.1 then
      some (decide (a0.2.2 = ([] : List Int)))
    else
      some false
  else
    bif decide (a0.1 = 2) then
      P_impl_ygoodHead_1_6 a1 a0.1 (decide (a0.1 = 2)) a0
    else
      P_impl_ygoodHead_1_6 a1 a0.1 (decide (a0.1 = 3)) a0
noncomputable def c_impl_ygoodHead : Ctr := ⟨78, [TyHead, .bool], [.bool], fun x => P_impl_ygoodHead x.1 x.2.1⟩
def A_impl_ygoodHead : List (List Nat × Ann) := [([1, 6], [.keep 0 1, .keep 0 2, .keep 0 6, .keep 0 17, .boxd 0 2 TyHead]), ([1, 11], [.keep 0 1, .keep 0 2, .keep 0 38, .boxd 0 2 TyHead])]
def In_impl_ygoodHead : List (List Nat × Nat) := []
noncomputable def cs_impl_ygoodHead : List Ctr := [c_impl_yzeroAtom, c_impl_ygoodRef, c_impl_GoodName]
noncomputable def F_impl_ygoodHead (n : Nat) (a0 : DHead) (a1 : Bool) : Option Bool := run Tryd.prog A_impl_ygoodHead In_impl_ygoodHead (conOf cs_impl_ygoodHead) Tryd.f78 (Tryd.f78.body.getD .skip) (packT [.bool]) n (argsV [TyHead, .bool] (a0, a1, ()))
noncomputable abbrev L_impl_ygoodHead_1_6 (n : Nat) (x1 : Bool) (x2 : Int) (x3 : Bool) (x4 : DHead) : Option Bool := lam Tryd.prog A_impl_ygoodHead In_impl_ygoodHead (conOf cs_impl_ygoodHead) Tryd.f78 (Tryd.f78.body.getD .skip) (packT [.bool]) n [1, 6] [.d .bool x1, .ptr 0 2 0, .d I64 x2, .d .bool x3, .agg (explode TyHead x4)]
noncomputable abbrev L_impl_ygoodHead_1_11 (n : Nat) (x1 : Bool) (x2 : Bool) (x3 : DHead) : Option Bool := lam Tryd.prog A_impl_ygoodHead In_impl_ygoodHead (conOf cs_impl_ygoodHead) Tryd.f78 (Tryd.f78.body.getD .skip) (packT [.bool]) n [1, 11] [.d .bool x1, .ptr 0 2 0, .d .bool x2, .agg (explode TyHead x3)]
theorem F_impl_ygoodHead_eq (n : Nat) (a0 : DHead) (a1 : Bool) : F_impl_ygoodHead n a0 a1 =
    bif decide (a0.1 = 1) then
      bif T_impl_yzeroAtom a0.2.1 then
        some (decide (a0.2.2 = ([] : List Int)))
      else
        some false
    else
      bif decide (a0.1 = 2) then
        L_impl_ygoodHead_1_6 n a1 a0.1 (decide (a0.1 = 2)) a0
      else
        L_impl_ygoodHead_1_6 n a1 a0.1 (decide (a0.1 = 3)) a0 := by kernel_rfl
theorem L_impl_ygoodHead_1_6_eq (n : Nat) (x1 : Bool) (x2 : Int) (x3 : Bool) (x4 : DHead) : L_impl_ygoodHead_1_6 (n + 1) x1 x2 x3 x4 =
    bif x3 then
      Option.bind (P_impl_ygoodRef x4.2.1) fun (y1 : Bool) =>
      bif y1 then
        some (decide (x4.2.2 = ([] : List Int)))
      else
        some false
    else
      bif decide (x2 = 4) then
        bif T_impl_yzeroAtom x4.2.1 then
          Option.bind (P_impl_GoodName x4.2.2) fun (y2 : Bool) =>
          some y2
        else
          some false
      else
        bif decide (x2 = 5) then
          L_impl_ygoodHead_1_11 n x1 (decide (x2 = 5)) x4
        else
          L_impl_ygoodHead_1_11 n x1 (decide (x2 = 6)) x4 := by kernel_rfl
theorem L_impl_ygoodHead_1_11_eq (n : Nat) (x1 : Bool) (x2 : Bool) (x3 : DHead) : L_impl_ygoodHead_1_11 (n + 1) x1 x2 x3 =
    bif x2 then
      bif T_impl_yzeroAtom x3.2.1 then
        bif decide (x3.2.2 = ([] : List Int)) then
          some (!(x1))
        else
          some false
      else
        some false
    else
      some false := by kernel_rfl
theorem S_impl_ygoodHead_1_11 {x1 : Bool} {x2 : Bool} {x3 : DHead} {r : Bool} (h : P_impl_ygoodHead_1_11 x1 x2 x3 = some r) : Ev (fun n => L_impl_ygoodHead_1_11 n x1 x2 x3) r := by
  rw [P_impl_ygoodHead_1_11] at h
  refine Ev.step ?_ (fun n => L_impl_ygoodHead_1_11_eq n x1 x2 x3)
  exact (Ev.ofBif h (fun h => (Ev.ofBif h (fun h => (Ev.ofBif h (fun h => (Ev.ofSome h)) (fun h => (Ev.ofSome h)))) (fun h => (Ev.ofSome h)))) (fun h => (Ev.ofSome h)))
theorem S_impl_ygoodHead_1_6 {x1 : Bool} {x2 : Int} {x3 : Bool} {x4 : DHead} {r : Bool} (h : P_impl_ygoodHead_1_6 x1 x2 x3 x4 = some r) : Ev (fun n => L_impl_ygoodHead_1_6 n x1 x2 x3 x4) r := by
  rw [P_impl_ygoodHead_1_6] at h
  refine Ev.step ?_ (fun n => L_impl_ygoodHead_1_6_eq n x1 x2 x3 x4)
  exact (Ev.ofBif h (fun h => (Ev.ofBind h fun y1 h => (Ev.ofBif h (fun h => (Ev.ofSome h)) (fun h => (Ev.ofSome h))))) (fun h => (Ev.ofBif h (fun h => (Ev.ofBif h (fun h => (Ev.ofBind h fun y2 h => (Ev.ofSome h))) (fun h => (Ev.ofSome h)))) (fun h => (Ev.ofBif h (fun h => (S_impl_ygoodHead_1_11 h)) (fun h => (S_impl_ygoodHead_1_11 h)))))))
theorem S_impl_ygoodHead (a0 : DHead) (a1 : Bool) {r : Bool} (h : P_impl_ygoodHead a0 a1 = some r) : Ev (fun n => F_impl_ygoodHead n a0 a1) r := by
  rw [P_impl_ygoodHead] at h
  refine Ev.of_eq ?_ (fun n => F_impl_ygoodHead_eq n a0 a1)
  exact (Ev.ofBif h (fun h => (Ev.ofBif h (fun h => (Ev.ofSome h)) (fun h => (Ev.ofSome h)))) (fun h => (Ev.ofBif h (fun h => (S_impl_ygoodHead_1_6 h)) (fun h => (S_impl_ygoodHead_1_6 h)))))
theorem hcs_impl_ygoodHead : ∀ x ∈ cs_impl_ygoodHead, CtrOk Tryd.prog x := (conOf_cons ok_impl_yzeroAtom (conOf_cons ok_impl_ygoodRef (conOf_cons ok_impl_GoodName conOf_nil)))
theorem ok_impl_ygoodHead : CtrOk Tryd.prog (c_impl_ygoodHead) := by
  refine ctr_of_run (c := c_impl_ygoodHead) (by kernel_rfl) (by kernel_rfl : Tryd.prog.funcs[78]? = some Tryd.f78) (code := Tryd.f78.body.getD .skip) (by kernel_rfl) (by kernel_rfl) (by kernel_rfl) (A := A_impl_ygoodHead) (I := In_impl_ygoodHead) (hcs_impl_ygoodHead) ?_
  rintro ⟨a0, a1, u⟩ y hy
  exact (S_impl_ygoodHead a0 a1 hy).get

/-! ## impl.ykidsOf (110) -/
noncomputable def P_impl_ykidsOf_1_4 (x1 : Int) (x2 : Bool) : Option (Int × Int) :=
  bif x2 then
    some (0, 0)
  else
    bif decide (x1 = 2) then
      some (0, 10)
    else
      bif decide (x1 = 4) then
        bif decide (x1 = 4) then
          some (1, 1)
        else
          bif decide (x1 = 10) then
            some (3, 3)
          else
            some (2, 2)
      else
        bif decide (x1 = 5) then
          bif decide (x1 = 5) then
            some (1, 1)
          else
            bif decide (x1 = 10) then
              some (3, 3)
            else
              some (2, 2)
        else
          bif decide (x1 = 6) then
            bif decide (x1 = 6) then
              some (1, 1)
            else
              bif decide (x1 = 10) then
                some (3, 3)
              else
                some (2, 2)
          else
            bif decide (x1 = 7) then
              bif decide (x1 = 7) then
                some (1, 1)
              else
                bif decide (x1 = 10) then
                  some (3, 3)
                else
                  some (2, 2)
            else
              bif decide (x1 = 20) then
                bif decide (x1 = 20) then
                  some (1, 1)
                else
                  bif decide (x1 = 10) then
                    some (3, 3)
                  else
                    some (2, 2)
              else
                bif decide (x1 = 21) then
                  some (1, 1)
                else
                  bif decide (x1 = 10) then
                    some (3, 3)
                  else
                    some (2, 2)
noncomputable def P_impl_ykidsOf (a0 : Int) : Option (Int × Int) :=
  bif decide (a0 = 1) then
    P_impl_ykidsOf_1_4 a0 (decide (a0 = 1))
  else
    P_impl_ykidsOf_1_4 a0 (decide (a0 = 3))
noncomputable def c_impl_ykidsOf : Ctr := ⟨110, [I64], [I64, I64], fun x => P_impl_ykidsOf x.1⟩
def A_impl_ykidsOf : List (List Nat × Ann) := [([1, 4], [.keep 0 4, .keep 0 5])]
def In_impl_ykidsOf : List (List Nat × Nat) := []
noncomputable def cs_impl_ykidsOf : List Ctr := []
noncomputable def F_impl_ykidsOf (n : Nat) (a0 : Int) : Option (Int × Int) := run Tryd.prog A_impl_ykidsOf In_impl_ykidsOf (conOf cs_impl_ykidsOf) Tryd.f110 (Tryd.f110.body.getD .skip) (packT [I64, I64]) n (argsV [I64] (a0, ()))
noncomputable abbrev L_impl_ykidsOf_1_4 (n : Nat) (x1 : Int) (x2 : Bool) : Option (Int × Int) := lam Tryd.prog A_impl_ykidsOf In_impl_ykidsOf (conOf cs_impl_ykidsOf) Tryd.f110 (Tryd.f110.body.getD .skip) (packT [I64, I64]) n [1, 4] [.d I64 x1, .d .bool x2]
theorem F_impl_ykidsOf_eq (n : Nat) (a0 : Int) : F_impl_ykidsOf n a0 =
    bif decide (a0 = 1) then
      L_impl_ykidsOf_1_4 n a0 (decide (a0 = 1))
    else
      L_impl_ykidsOf_1_4 n a0 (decide (a0 = 3)) := by kernel_rfl
theorem L_impl_ykidsOf_1_4_eq (n : Nat) (x1 : Int) (x2 : Bool) : L_impl_ykidsOf_1_4 (n + 1) x1 x2 =
    bif x2 then
      some (0, 0)
    else
      bif decide (x1 = 2) then
        some (0, 10)
      else
        bif decide (x1 = 4) then
          bif decide (x1 = 4) then
            some (1, 1)
          else
            bif decide (x1 = 10) then
              some (3, 3)
            else
              some (2, 2)
        else
          bif decide (x1 = 5) then
            bif decide (x1 = 5) then
              some (1, 1)
            else
              bif decide (x1 = 10) then
                some (3, 3)
              else
                some (2, 2)
          else
            bif decide (x1 = 6) then
              bif decide (x1 = 6) then
                some (1, 1)
              else
                bif decide (x1 = 10) then
                  some (3, 3)
                else
                  some (2, 2)
            else
              bif decide (x1 = 7) then
                bif decide (x1 = 7) then
                  some (1, 1)
                else
                  bif decide (x1 = 10) then
                    some (3, 3)
                  else
                    some (2, 2)
              else
                bif decide (x1 = 20) then
                  bif decide (x1 = 20) then
                    some (1, 1)
                  else
                    bif decide (x1 = 10) then
                      some (3, 3)
                    else
                      some (2, 2)
                else
                  bif decide (x1 = 21) then
                    some (1, 1)
                  else
                    bif decide (x1 = 10) then
                      some (3, 3)
                    else
                      some (2, 2) := by kernel_rfl
theorem S_impl_ykidsOf_1_4 {x1 : Int} {x2 : Bool} {r : (Int × Int)} (h : P_impl_ykidsOf_1_4 x1 x2 = some r) : Ev (fun n => L_impl_ykidsOf_1_4 n x1 x2) r := by
  rw [P_impl_ykidsOf_1_4] at h
  refine Ev.step ?_ (fun n => L_impl_ykidsOf_1_4_eq n x1 x2)
  exact (Ev.ofBif h (fun h => (Ev.ofSome h)) (fun h => (Ev.ofBif h (fun h => (Ev.ofSome h)) (fun h => (Ev.ofBif h (fun h => (Ev.ofBif h (fun h => (Ev.ofSome h)) (fun h => (Ev.ofBif h (fun h => (Ev.ofSome h)) (fun h => (Ev.ofSome h)))))) (fun h => (Ev.ofBif h (fun h => (Ev.ofBif h (fun h => (Ev.ofSome h)) (fun h => (Ev.ofBif h (fun h => (Ev.ofSome h)) (fun h => (Ev.ofSome h)))))) (fun h => (Ev.ofBif h (fun h => (Ev.ofBif h (fun h => (Ev.ofSome h)) (fun h => (Ev.ofBif h (fun h => (Ev.ofSome h)) (fun h => (Ev.ofSome h)))))) (fun h => (Ev.ofBif h (fun h => (Ev.ofBif h (fun h => (Ev.ofSome h)) (fun h => (Ev.ofBif h (fun h => (Ev.ofSome h)) (fun h => (Ev.ofSome h)))))) (fun h => (Ev.ofBif h (fun h => (Ev.ofBif h (fun h => (Ev.ofSome h)) (fun h => (Ev.ofBif h (fun h => (Ev.ofSome h)) (fun h => (Ev.ofSome h)))))) (fun h => (Ev.ofBif h (fun h => (Ev.ofSome h)) (fun h => (Ev.ofBif h (fun h => (Ev.ofSome h)) (fun h => (Ev.ofSome h)))))))))))))))))))
theorem S_impl_ykidsOf (a0 : Int) {r : (Int × Int)} (h : P_impl_ykidsOf a0 = some r) : Ev (fun n => F_impl_ykidsOf n a0) r := by
  rw [P_impl_ykidsOf] at h
  refine Ev.of_eq ?_ (fun n => F_impl_ykidsOf_eq n a0)
  exact (Ev.ofBif h (fun h => (S_impl_ykidsOf_1_4 h)) (fun h => (S_impl_ykidsOf_1_4 h)))
theorem hcs_impl_ykidsOf : ∀ x ∈ cs_impl_ykidsOf, CtrOk Tryd.prog x := conOf_nil
theorem ok_impl_ykidsOf : CtrOk Tryd.prog (c_impl_ykidsOf) := by
  refine ctr_of_run (c := c_impl_ykidsOf) (by kernel_rfl) (by kernel_rfl : Tryd.prog.funcs[110]? = some Tryd.f110) (code := Tryd.f110.body.getD .skip) (by kernel_rfl) (by kernel_rfl) (by kernel_rfl) (A := A_impl_ykidsOf) (I := In_impl_ykidsOf) (hcs_impl_ykidsOf) ?_
  rintro ⟨a0, u⟩ y hy
  exact (S_impl_ykidsOf a0 hy).get

/-! ## slices.Index[[]string,string] (105) -/
noncomputable def P_slices_Index_string_string_0_2 (x2 : (List Int)) : List (List Int) → Nat → Option Int
  | [], k =>
      some (-1)
  | e :: rest, k =>
      bif decide (x2 = e) then
        some (k : Int)
      else
        P_slices_Index_string_string_0_2 x2 rest (k + 1)
noncomputable def P_slices_Index_string_string (a0 : (List (List Int))) (a1 : (List Int)) : Option Int :=
  lenOk a0 (P_slices_Index_string_string_0_2 a1 a0 0)
noncomputable def c_slices_Index_string_string : Ctr := ⟨105, [(.list .str), .str], [I64], fun x => P_slices_Index_string_string x.1 x.2.1⟩
def A_slices_Index_string_string : List (List Nat × Ann) := [([0, 2], [.keep 0 0, .keep 0 1, .keep 0 7, .keep 0 8])]
def In_slices_Index_string_string : List (List Nat × Nat) := []
noncomputable def cs_slices_Index_string_string : List Ctr := []
noncomputable def F_slices_Index_string_string (n : Nat) (a0 : (List (List Int))) (a1 : (List Int)) : Option Int := run Tryd.prog A_slices_Index_string_string In_slices_Index_string_string (conOf cs_slices_Index_string_string) Tryd.f105 (Tryd.f105.body.getD .skip) (packT [I64]) n (argsV [(.list .str), .str] (a0, a1, ()))
noncomputable abbrev L_slices_Index_string_string_0_2 (n : Nat) (x1 : (List (List Int))) (x2 : (List Int)) (x3 : Int) (x4 : Int) : Option Int := lam Tryd.prog A_slices_Index_string_string In_slices_Index_string_string (conOf cs_slices_Index_string_string) Tryd.f105 (Tryd.f105.body.getD .skip) (packT [I64]) n [0, 2] [.d (.list .str) x1, .d .str x2, .d I64 x3, .d I64 x4]
theorem F_slices_Index_string_string_eq (n : Nat) (a0 : (List (List Int))) (a1 : (List Int)) : F_slices_Index_string_string n a0 a1 =
    L_slices_Index_string_string_0_2 n a0 a1 (a0.length : Int) 0 := by kernel_rfl
theorem L_slices_Index_string_string_0_2_eq (n : Nat) (x1 : (List (List Int))) (x2 : (List Int)) (x3 : Int) (x4 : Int) : L_slices_Index_string_string_0_2 (n + 1) x1 x2 x3 x4 =
    bif decide (x4 < x3) then
      bif inB x4 x1.length then
        bif decide (x2 = rd x1 x4 (Ty.dflt .str)) then
          some x4
        else
          L_slices_Index_string_string_0_2 n x1 x2 x3 (IntKind.wrap .i64 (x4 + 1))
      else none
    else
      some (-1) := by kernel_rfl
theorem S_slices_Index_string_string_0_2 {x1 : (List (List Int))} {x2 : (List Int)} (hl : x1.length ≤ maxLen) : ∀ (rest : List (List Int)) (k : Nat) (r : Int), rest = x1.drop k → P_slices_Index_string_string_0_2 x2 rest k = some r → Ev (fun n => L_slices_Index_string_string_0_2 n x1 x2 (x1.length : Int) (k : Int)) r := by
  intro rest
  induction rest with
  | nil =>
    intro k r hr h
    have hk := drop_nil hr
    rw [P_slices_Index_string_string_0_2] at h
    refine Ev.step ?_ (fun n => L_slices_Index_string_string_0_2_eq n x1 x2 (x1.length : Int) (k : Int))
    rw [show decide ((k : Int) < (x1.length : Int)) = false from decide_eq_false (by omega)]
    exact Ev.neg rfl (Ev.ofSome h)
  | cons e rest ih =>
    intro k r hr h
    obtain ⟨hk, hx, hr2⟩ := drop_cons (d := (Ty.dflt .str)) hr
    have hw := wrap_succ hl hk
    have ih2 : ∀ (r : Int), P_slices_Index_string_string_0_2 x2 rest (k + 1) = some r → Ev (fun n => L_slices_Index_string_string_0_2 n x1 x2 (x1.length : Int) (IntKind.wrap .i64 ((k : Int) + 1))) r := by
      intro r h; rw [hw]; exact ih (k + 1) r hr2 h
    rw [P_slices_Index_string_string_0_2] at h
    refine Ev.step ?_ (fun n => L_slices_Index_string_string_0_2_eq n x1 x2 (x1.length : Int) (k : Int))
    rw [show decide ((k : Int) < (x1.length : Int)) = true from decide_eq_true (by omega), inB_nat2 hk, hx]
    exact Ev.pos rfl (Ev.pos rfl (Ev.ofBif h (fun h => (Ev.ofSome h)) (fun h => (ih2  _ h))))
theorem S_slices_Index_string_string (a0 : (List (List Int))) (a1 : (List Int)) {r : Int} (h : P_slices_Index_string_string a0 a1 = some r) : Ev (fun n => F_slices_Index_string_string n a0 a1) r := by
  rw [P_slices_Index_string_string] at h
  refine Ev.of_eq ?_ (fun n => F_slices_Index_string_string_eq n a0 a1)
  exact (Ev.ofLen h fun hl h => S_slices_Index_string_string_0_2 hl _ (0 : Nat) _ rfl h)
theorem hcs_slices_Index_string_string : ∀ x ∈ cs_slices_Index_string_string, CtrOk Tryd.prog x := conOf_nil
theorem ok_slices_Index_string_string : CtrOk Tryd.prog (c_slices_Index_string_string) := by
  refine ctr_of_run (c := c_slices_Index_string_string) (by kernel_rfl) (by kernel_rfl : Tryd.prog.funcs[105]? = some Tryd.f105) (code := Tryd.f105.body.getD .skip) (by kernel_rfl) (by kernel_rfl) (by kernel_rfl) (A := A_slices_Index_string_string) (I := In_slices_Index_string_string) (hcs_slices_Index_string_string) ?_
  rintro ⟨a0, a1, u⟩ y hy
  exact (S_slices_Index_string_string a0 a1 hy).get

/-! ## slices.Contains[[]string,string] (91) -/
noncomputable def P_slices_Contains_string_string (a0 : (List (List Int))) (a1 : (List Int)) : Option Bool :=
  Option.bind (P_slices_Index_string_string a0 a1) fun (y1 : Int) =>
  some (decide ((0 : Int) ≤ y1))
noncomputable def c_slices_Contains_string_string : Ctr := ⟨91, [(.list .str), .str], [.bool], fun x => P_slices_Contains_string_string x.1 x.2.1⟩
def A_slices_Contains_string_string : List (List Nat × Ann) := []
def In_slices_Contains_string_string : List (List Nat × Nat) := []
noncomputable def cs_slices_Contains_string_string : List Ctr := [c_slices_Index_string_string]
noncomputable def F_slices_Contains_string_string (n : Nat) (a0 : (List (List Int))) (a1 : (List Int)) : Option Bool := run Tryd.prog A_slices_Contains_string_string In_slices_Contains_string_string (conOf cs_slices_Contains_string_string) Tryd.f91 (Tryd.f91.body.getD .skip) (packT [.bool]) n (argsV [(.list .str), .str] (a0, a1, ()))
theorem F_slices_Contains_string_string_eq (n : Nat) (a0 : (List (List Int))) (a1 : (List Int)) : F_slices_Contains_string_string n a0 a1 =
    Option.bind (P_slices_Index_string_string a0 a1) fun (y1 : Int) =>
    some (decide ((0 : Int) ≤ y1)) := by kernel_rfl
theorem S_slices_Contains_string_string (a0 : (List (List Int))) (a1 : (List Int)) {r : Bool} (h : P_slices_Contains_string_string a0 a1 = some r) : Ev (fun n => F_slices_Contains_string_string n a0 a1) r := by
  rw [P_slices_Contains_string_string] at h
  refine Ev.of_eq ?_ (fun n => F_slices_Contains_string_string_eq n a0 a1)
  exact (Ev.ofBind h fun y1 h => (Ev.ofSome h))
theorem hcs_slices_Contains_string_string : ∀ x ∈ cs_slices_Contains_string_string, CtrOk Tryd.prog x := (conOf_cons ok_slices_Index_string_string conOf_nil)
theorem ok_slices_Contains_string_string : CtrOk Tryd.prog (c_slices_Contains_string_string) := by
  refine ctr_of_run (c := c_slices_Contains_string_string) (by kernel_rfl) (by kernel_rfl : Tryd.prog.funcs[91]? = some Tryd.f91) (code := Tryd.f91.body.getD .skip) (by kernel_rfl) (by kernel_rfl) (by kernel_rfl) (A := A_slices_Contains_string_string) (I := In_slices_Contains_string_string) (hcs_slices_Contains_string_string) ?_
  rintro ⟨a0, a1, u⟩ y hy
  exact (S_slices_Contains_string_string a0 a1 hy).get

/-! ## impl.ypattern (111) -/
noncomputable def P_impl_ypattern_0_3 (x1 : (List Int)) : Nat → (List Int) → Int → Option ((List Int) × Bool)
  | 0, _, _ => none
  | m + 1, x2, x3 =>
      bif decide (x3 < (x1.length : Int)) then
        bif inB x3 x1.length then
          bif decide (rd x1 x3 0 = 42) then
            bif decide (((x2.length : Int) + (([(-1)] : List Int).length : Int)) * 8 ≤ room) && decide ((x2.length : Int) + (([(-1)] : List Int).length : Int) ≤ room) then
              P_impl_ypattern_0_3 x1 m (x2 ++ ([(-1)] : List Int)) (IntKind.wrap .i64 (x3 + 1))
            else none
          else
            bif inB x3 x1.length then
              bif decide (rd x1 x3 0 = 92) then
                bif decide ((x1.length : Int) ≤ IntKind.wrap .i64 (x3 + 1)) then
                  some ([], false)
                else
                  bif inB (IntKind.wrap .i64 (x3 + 1)) x1.length then
                    bif !decide (rd x1 (IntKind.wrap .i64 (x3 + 1)) 0 = 42) then
                      bif inB (IntKind.wrap .i64 (x3 + 1)) x1.length then
                        bif !decide (rd x1 (IntKind.wrap .i64 (x3 + 1)) 0 = 92) then
                          some ([], false)
                        else
                          bif inB (IntKind.wrap .i64 (x3 + 1)) x1.length then
                            bif decide (((x2.length : Int) + (([IntKind.wrap .i64 (rd x1 (IntKind.wrap .i64 (x3 + 1)) 0)] : List Int).length : Int)) * 8 ≤ room) && decide ((x2.length : Int) + (([IntKind.wrap .i64 (rd x1 (IntKind.wrap .i64 (x3 + 1)) 0)] : List Int).length : Int) ≤ room) then
                              P_impl_ypattern_0_3 x1 m (x2 ++ ([IntKind.wrap .i64 (rd x1 (IntKind.wrap .i64 (x3 + 1)) 0)] : List Int)) (IntKind.wrap .i64 ((IntKind.wrap .i64 (x3 + 1)) + 1))
                            else none
                          else none
                      else none
                    else
                      bif inB (IntKind.wrap .i64 (x3 + 1)) x1.length then
                        bif decide (((x2.length : Int) + (([IntKind.wrap .i64 (rd x1 (IntKind.wrap .i64 (x3 + 1)) 0)] : List Int).length : Int)) * 8 ≤ room) && decide ((x2.length : Int) + (([IntKind.wrap .i64 (rd x1 (IntKind.wrap .i64 (x3 + 1)) 0)] : List Int).length : Int) ≤ room) then
                          P_impl_ypattern_0_3 x1 m (x2 ++ ([IntKind.wrap .i64 (rd x1 (IntKind.wrap .i64 (x3 + 1)) 0)] : List Int)) (IntKind.wrap .i64 ((IntKind.wrap .i64 (x3 + 1)) + 1))
                        else none
                      else none
                  else none
              else
                bif inB x3 x1.length then
                  bif decide (((x2.length : Int) + (([IntKind.wrap .i64 (rd x1 x3 0)] : List Int).length : Int)) * 8 ≤ room) && decide ((x2.length : Int) + (([IntKind.wrap .i64 (rd x1 x3 0)] : List Int).length : Int) ≤ room) then
                    P_impl_ypattern_0_3 x1 m (x2 ++ ([IntKind.wrap .i64 (rd x1 x3 0)] : List Int)) (IntKind.wrap .i64 (x3 + 1))
                  else none
                else none
            else none
        else none
      else
        some (x2, true)
noncomputable def P_impl_ypattern (m : Nat) (a0 : (List Int)) : Option ((List Int) × Bool) :=
  P_impl_ypattern_0_3 a0 m [] 0
noncomputable def E_impl_ypattern (a0 : (List Int)) : Option ((List Int) × Bool) := evOpt fun m => P_impl_ypattern m a0
noncomputable def c_impl_ypattern : Ctr := ⟨111, [.str], [(.list I64), .bool], fun x => E_impl_ypattern x.1⟩
def A_impl_ypattern : List (List Nat × Ann) := [([0, 3], [.keep 0 0, .own 0 4 I64, .keep 0 5])]
def In_impl_ypattern : List (List Nat × Nat) := []
noncomputable def cs_impl_ypattern : List Ctr := []
noncomputable def F_impl_ypattern (n : Nat) (a0 : (List Int)) : Option ((List Int) × Bool) := run Tryd.prog A_impl_ypattern In_impl_ypattern (conOf cs_impl_ypattern) Tryd.f111 (Tryd.f111.body.getD .skip) (packT [(.list I64), .bool]) n (argsV [.str] (a0, ()))
noncomputable abbrev L_impl_ypattern_0_3 (n : Nat) (x1 : (List Int)) (x2 : (List Int)) (x3 : Int) : Option ((List Int) × Bool) := lam Tryd.prog A_impl_ypattern In_impl_ypattern (conOf cs_impl_ypattern) Tryd.f111 (Tryd.f111.body.getD .skip) (packT [(.list I64), .bool]) n [0, 3] [.d .str x1, .own 0 I64 x2, .d I64 x3]
theorem F_impl_ypattern_eq (n : Nat) (a0 : (List Int)) : F_impl_ypattern n a0 =
    L_impl_ypattern_0_3 n a0 [] 0 := by kernel_rfl
theorem L_impl_ypattern_0_3_eq (n : Nat) (x1 : (List Int)) (x2 : (List Int)) (x3 : Int) : L_impl_ypattern_0_3 (n + 1) x1 x2 x3 =
    bif decide (x3 < (x1.length : Int)) then
      bif inB x3 x1.length then
        bif decide (rd x1 x3 0 = 42) then
          bif decide (((x2.length : Int) + (([(-1)] : List Int).length : Int)) * 8 ≤ room) && decide ((x2.length : Int) + (([(-1)] : List Int).length : Int) ≤ room) then
            L_impl_ypattern_0_3 n x1 (x2 ++ ([(-1)] : List Int)) (IntKind.wrap .i64 (x3 + 1))
          else none
        else
          bif inB x3 x1.length then
            bif decide (rd x1 x3 0 = 92) then
              bif decide ((x1.length : Int) ≤ IntKind.wrap .i64 (x3 + 1)) then
                some ([], false)
              else
                bif inB (IntKind.wrap .i64 (x3 + 1)) x1.length then
                  bif !decide (rd x1 (IntKind.wrap .i64 (x3 + 1)) 0 = 42) then
                    bif inB (IntKind.wrap .i64 (x3 + 1)) x1.length then
                      bif !decide (rd x1 (IntKind.wrap .i64 (x3 + 1)) 0 = 92) then
                        some ([], false)
                      else
                        bif inB (IntKind.wrap .i64 (x3 + 1)) x1.length then
                          bif decide (((x2.length : Int) + (([IntKind.wrap .i64 (rd x1 (IntKind.wrap .i64 (x3 + 1)) 0)] : List Int).length : Int)) * 8 ≤ room) && decide ((x2.length : Int) + (([IntKind.wrap .i64 (rd x1 (IntKind.wrap .i64 (x3 + 1)) 0)] : List Int).length : Int) ≤ room) then
                            L_impl_ypattern_0_3 n x1 (x2 ++ ([IntKind.wrap .i64 (rd x1 (IntKind.wrap .i64 (x3 + 1)) 0)] : List Int)) (IntKind.wrap .i64 ((IntKind.wrap .i64 (x3 + 1)) + 1))
                          else none
                        else none
                    else none
                  else
                    bif inB (IntKind.wrap .i64 (x3 + 1)) x1.length then
                      bif decide (((x2.length : Int) + (([IntKind.wrap .i64 (rd x1 (IntKind.wrap .i64 (x3 + 1)) 0)] : List Int).length : Int)) * 8 ≤ room) && decide ((x2.length : Int) + (([IntKind.wrap .i64 (rd x1 (IntKind.wrap .i64 (x3 + 1)) 0)] : List Int).length : Int) ≤ room) then
                        L_impl_ypattern_0_3 n x1 (x2 ++ ([IntKind.wrap .i64 (rd x1 (IntKind.wrap .i64 (x3 + 1)) 0)] : List Int)) (IntKind.wrap .i64 ((IntKind.wrap .i64 (x3 + 1)) + 1))
                      else none
                    else none
                else none
            else
              bif inB x3 x1.length then
                bif decide (((x2.length : Int) + (([IntKind.wrap .i64 (rd x1 x3 0)] : List Int).length : Int)) * 8 ≤ room) && decide ((x2.length : Int) + (([IntKind.wrap .i64 (rd x1 x3 0)] : List Int).length : Int) ≤ room) then
                  L_impl_ypattern_0_3 n x1 (x2 ++ ([IntKind.wrap .i64 (rd x1 x3 0)] : List Int)) (IntKind.wrap .i64 (x3 + 1))
                else none
              else none
          else none
      else none
    else
      some (x2, true) := by kernel_rfl
theorem S_impl_ypattern_0_3 {x1 : (List Int)} : ∀ (m : Nat) (x2 : (List Int)) (x3 : Int) (r : ((List Int) × Bool)), P_impl_ypattern_0_3 x1 m x2 x3 = some r → Ev (fun n => L_impl_ypattern_0_3 n x1 x2 x3) r := by
  intro m
  induction m with
  | zero => intro x2 x3 r h; rw [P_impl_ypattern_0_3] at h; exact Ev.ofNone h
  | succ m ih2 =>
    intro x2 x3 r h
    rw [P_impl_ypattern_0_3] at h
    refine Ev.step ?_ (fun n => L_impl_ypattern_0_3_eq n x1 x2 x3)
    exact (Ev.ofBif h (fun h => (Ev.ofBif h (fun h => (Ev.ofBif h (fun h => (Ev.ofBif h (fun h => (ih2 _ _ _ h)) (fun h => (Ev.ofNone h)))) (fun h => (Ev.ofBif h (fun h => (Ev.ofBif h (fun h => (Ev.ofBif h (fun h => (Ev.ofSome h)) (fun h => (Ev.ofBif h (fun h => (Ev.ofBif h (fun h => (Ev.ofBif h (fun h => (Ev.ofBif h (fun h => (Ev.ofSome h)) (fun h => (Ev.ofBif h (fun h => (Ev.ofBif h (fun h => (ih2 _ _ _ h)) (fun h => (Ev.ofNone h)))) (fun h => (Ev.ofNone h)))))) (fun h => (Ev.ofNone h)))) (fun h => (Ev.ofBif h (fun h => (Ev.ofBif h (fun h => (ih2 _ _ _ h)) (fun h => (Ev.ofNone h)))) (fun h => (Ev.ofNone h)))))) (fun h => (Ev.ofNone h)))))) (fun h => (Ev.ofBif h (fun h => (Ev.ofBif h (fun h => (ih2 _ _ _ h)) (fun h => (Ev.ofNone h)))) (fun h => (Ev.ofNone h)))))) (fun h => (Ev.ofNone h)))))) (fun h => (Ev.ofNone h)))) (fun h => (Ev.ofSome h)))
theorem S_impl_ypattern {m : Nat} (a0 : (List Int)) {r : ((List Int) × Bool)} (h : P_impl_ypattern m a0 = some r) : Ev (fun n => F_impl_ypattern n a0) r := by
  rw [P_impl_ypattern] at h
  refine Ev.of_eq ?_ (fun n => F_impl_ypattern_eq n a0)
  exact (S_impl_ypattern_0_3 _ _ _ _ h)
theorem hcs_impl_ypattern : ∀ x ∈ cs_impl_ypattern, CtrOk Tryd.prog x := conOf_nil
theorem ok_impl_ypattern : CtrOk Tryd.prog (c_impl_ypattern) := by
  refine ctr_of_run (c := c_impl_ypattern) (by kernel_rfl) (by kernel_rfl : Tryd.prog.funcs[111]? = some Tryd.f111) (code := Tryd.f111.body.getD .skip) (by kernel_rfl) (by kernel_rfl) (by kernel_rfl) (A := A_impl_ypattern) (I := In_impl_ypattern) (hcs_impl_ypattern) ?_
  rintro ⟨a0, u⟩ y hy
  exact let ⟨_, h⟩ := (evOpt_get hy).get; (S_impl_ypattern a0 h).get

/-! ## impl.ygoodExprNode (100) -/
noncomputable def P_impl_ygoodExprNode_1_14 (g0 : (List (List Int))) (x1 : Int) (x2 : Bool) (x3 : DExpr) : Option Bool :=
  bif x2 then
    Option.bind (P_impl_GoodName x3.2.1) fun (y4 : Bool) =>
    some y4
  else
    bif decide (x1 = 20) then
      Option.bind (E_impl_ypattern x3.2.1) fun (y5 : ((List Int) × Bool)) =>
      bif y5.2 then
        Option.bind (P_impl_yprinted x3.2.1 0 200) fun (y6 : Bool) =>
        some y6
      else
        some false
    else
      some (decide (x3.2.1 = ([] : List Int)))
noncomputable def P_impl_ygoodExprNode_1_6 (g0 : (List (List Int))) (x1 : DExpr) : Option Bool :=
  bif decide (x1.1 = 1) then
    bif decide (x1.2.1 = ([] : List Int)) then
      Option.bind (P_impl_GoodAtom x1.2.2.1) fun (y2 : Bool) =>
      some y2
    else
      some false
  else
    bif decide (x1.1 = 3) then
      Option.bind (P_slices_Contains_string_string g0 x1.2.1) fun (y3 : Bool) =>
      some y3
    else
      bif decide (x1.1 = 4) then
        P_impl_ygoodExprNode_1_14 g0 x1.1 (decide (x1.1 = 4)) x1
      else
        bif decide (x1.1 = 5) then
          P_impl_ygoodExprNode_1_14 g0 x1.1 (decide (x1.1 = 5)) x1
        else
          P_impl_ygoodExprNode_1_14 g0 x1.1 (decide (x1.1 = 21)) x1
noncomputable def P_impl_ygoodExprNode_1_3 (g0 : (List (List Int))) (x1 : DExpr) : Option Bool :=
  Option.bind (P_impl_ykidsOf x1.1) fun (y1 : (Int × Int)) =>
  bif decide (x1.2.2.2 < y1.1) then
    some false
  else
    bif decide (y1.2 < x1.2.2.2) then
      some false
    else
      bif !decide (x1.1 = 1) then
        bif !(T_impl_yzeroAtom x1.2.2.1) then
          some false
        else
          P_impl_ygoodExprNode_1_6 g0 x1
      else
        P_impl_ygoodExprNode_1_6 g0 x1
noncomputable def P_impl_ygoodExprNode (g0 : (List (List Int))) (a0 : DExpr) : Option Bool :=
  bif decide (a0.1 < 1) then
    some false
  else
    bif decide ((21 : Int) < a0.1) then
      some false
    else
      P_impl_ygoodExprNode_1_3 g0 a0
noncomputable def c_impl_ygoodExprNode (g0 : (List (List Int))) : Ctr := ⟨100, [TyExpr], [.bool], fun x => P_impl_ygoodExprNode g0 x.1⟩
def A_impl_ygoodExprNode : List (List Nat × Ann) := [([1, 3], [.keep 0 1, .boxd 0 1 TyExpr]), ([1, 6], [.keep 0 1, .boxd 0 1 TyExpr]), ([1, 14], [.keep 0 1, .keep 0 43, .keep 0 60, .boxd 0 1 TyExpr])]
def In_impl_ygoodExprNode : List (List Nat × Nat) := []
noncomputable def cs_impl_ygoodExprNode (g0 : (List (List Int))) : List Ctr := [c_impl_ykidsOf, c_impl_yzeroAtom, c_impl_GoodAtom, c_slices_Contains_string_string, c_impl_GoodName, c_impl_ypattern, c_impl_yprinted]
noncomputable def F_impl_ygoodExprNode (g0 : (List (List Int))) (n : Nat) (a0 : DExpr) : Option Bool := runE Tryd.prog (glOf [(0, explode (.list .str) g0)]) A_impl_ygoodExprNode In_impl_ygoodExprNode (conOf (cs_impl_ygoodExprNode g0)) Tryd.f100 (Tryd.f100.body.getD .skip) (endD Tryd.prog Tryd.f100 (packT [.bool])) n (argsV [TyExpr] (a0, ()))
noncomputable abbrev L_impl_ygoodExprNode_1_3 (g0 : (List (List Int))) (n : Nat) (x1 : DExpr) : Option Bool := lamE Tryd.prog (glOf [(0, explode (.list .str) g0)]) A_impl_ygoodExprNode In_impl_ygoodExprNode (conOf (cs_impl_ygoodExprNode g0)) Tryd.f100 (Tryd.f100.body.getD .skip) (endD Tryd.prog Tryd.f100 (packT [.bool])) n [1, 3] [.ptr 0 1 0, .agg (explode TyExpr x1)]
noncomputable abbrev L_impl_ygoodExprNode_1_6 (g0 : (List (List Int))) (n : Nat) (x1 : DExpr) : Option Bool := lamE Tryd.prog (glOf [(0, explode (.list .str) g0)]) A_impl_ygoodExprNode In_impl_ygoodExprNode (conOf (cs_impl_ygoodExprNode g0)) Tryd.f100 (Tryd.f100.body.getD .skip) (endD Tryd.prog Tryd.f100 (packT [.bool])) n [1, 6] [.ptr 0 1 0, .agg (explode TyExpr x1)]
noncomputable abbrev L_impl_ygoodExprNode_1_14 (g0 : (List (List Int))) (n : Nat) (x1 : Int) (x2 : Bool) (x3 : DExpr) : Option Bool := lamE Tryd.prog (glOf [(0, explode (.list .str) g0)]) A_impl_ygoodExprNode In_impl_ygoodExprNode (conOf (cs_impl_ygoodExprNode g0)) Tryd.f100 (Tryd.f100.body.getD .skip) (endD Tryd.prog Tryd.f100 (packT [.bool])) n [1, 14] [.ptr 0 1 0, .d I64 x1, .d .bool x2, .agg (explode TyExpr x3)]
theorem F_impl_ygoodExprNode_eq (g0 : (List (List Int))) (n : Nat) (a0 : DExpr) : F_impl_ygoodExprNode g0 n a0 =
    bif decide (a0.1 < 1) then
      some false
    else
      bif decide ((21 : Int) < a0.1) then
        some false
      else
        L_impl_ygoodExprNode_1_3 g0 n a0 := by kernel_rfl
theorem L_impl_ygoodExprNode_1_3_eq (g0 : (List (List Int))) (n : Nat) (x1 : DExpr) : L_impl_ygoodExprNode_1_3 g0 (n + 1) x1 =
    Option.bind (P_impl_ykidsOf x1.1) fun (y1 : (Int × Int)) =>
    bif decide (x1.2.2.2 < y1.1) then
      some false
    else
      bif decide (y1.2 < x1.2.2.2) then
        some false
      else
        bif !decide (x1.1 = 1) then
          bif !(T_impl_yzeroAtom x1.2.2.1) then
            some false
          else
            L_impl_ygoodExprNode_1_6 g0 n x1
        else
          L_impl_ygoodExprNode_1_6 g0 n x1 := by kernel_rfl
theorem L_impl_ygoodExprNode_1_6_eq (g0 : (List (List Int))) (n : Nat) (x1 : DExpr) : L_impl_ygoodExprNode_1_6 g0 (n + 1) x1 =
    bif decide (x1.1 = 1) then
      bif decide (x1.2.1 = ([] : List Int)) then
        Option.bind (P_impl_GoodAtom x1.2.2.1) fun (y2 : Bool) =>
        some y2
      else
        some false
    else
      bif decide (x1.1 = 3) then
        Option.bind (P_slices_Contains_string_string g0 x1.2.1) fun (y3 : Bool) =>
        some y3
      else
        bif decide (x1.1 = 4) then
          L_impl_ygoodExprNode_1_14 g0 n x1.1 (decide (x1.1 = 4)) x1
        else
          bif decide (x1.1 = 5) then
            L_impl_ygoodExprNode_1_14 g0 n x1.1 (decide (x1.1 = 5)) x1
          else
            L_impl_ygoodExprNode_1_14 g0 n x1.1 (decide (x1.1 = 21)) x1 := by kernel_rfl
theorem L_impl_ygoodExprNode_1_14_eq (g0 : (List (List Int))) (n : Nat) (x1 : Int) (x2 : Bool) (x3 : DExpr) : L_impl_ygoodExprNode_1_14 g0 (n + 1) x1 x2 x3 =
    bif x2 then
      Option.bind (P_impl_GoodName x3.2.1) fun (y4 : Bool) =>
      some y4
    else
      bif decide (x1 = 20) then
        Option.bind (E_impl_ypattern x3.2.1) fun (y5 : ((List Int) × Bool)) =>
        bif y5.2 then
          Option.bind (P_impl_yprinted x3.2.1 0 200) fun (y6 : Bool) =>
          some y6
        else
          some false
      else
        some (decide (x3.2.1 = ([] : List Int))) := by kernel_rfl
theorem S_impl_ygoodExprNode_1_14 {g0 : (List (List Int))} {x1 : Int} {x2 : Bool} {x3 : DExpr} {r : Bool} (h : P_impl_ygoodExprNode_1_14 g0 x1 x2 x3 = some r) : Ev (fun n => L_impl_ygoodExprNode_1_14 g0 n x1 x2 x3) r := by
  rw [P_impl_ygoodExprNode_1_14] at h
  refine Ev.step ?_ (fun n => L_impl_ygoodExprNode_1_14_eq g0 n x1 x2 x3)
  exact (Ev.ofBif h (fun h => (Ev.ofBind h fun y4 h => (Ev.ofSome h))) (fun h => (Ev.ofBif h (fun h => (Ev.ofBind h fun y5 h => (Ev.ofBif h (fun h => (Ev.ofBind h fun y6 h => (Ev.ofSome h))) (fun h => (Ev.ofSome h))))) (fun h => (Ev.ofSome h)))))
theorem S_impl_ygoodExprNode_1_6 {g0 : (List (List Int))} {x1 : DExpr} {r : Bool} (h : P_impl_ygoodExprNode_1_6 g0 x1 = some r) : Ev (fun n => L_impl_ygoodExprNode_1_6 g0 n x1) r := by
  rw [P_impl_ygoodExprNode_1_6] at h
  refine Ev.step ?_ (fun n => L_impl_ygoodExprNode_1_6_eq g0 n x1)
  exact (Ev.ofBif h (fun h => (Ev.ofBif h (fun h => (Ev.ofBind h fun y2 h => (Ev.ofSome h))) (fun h => (Ev.ofSome h)))) (fun h => (Ev.ofBif h (fun h => (Ev.ofBind h fun y3 h => (Ev.ofSome h))) (fun h => (Ev.ofBif h (fun h => (S_impl_ygoodExprNode_1_14 h)) (fun h => (Ev.ofBif h (fun h => (S_impl_ygoodExprNode_1_14 h)) (fun h => (S_impl_ygoodExprNode_1_14 h)))))))))
theorem S_impl_ygoodExprNode_1_3 {g0 : (List (List Int))} {x1 : DExpr} {r : Bool} (h : P_impl_ygoodExprNode_1_3 g0 x1 = some r) : Ev (fun n => L_impl_ygoodExprNode_1_3 g0 n x1) r := by
  rw [P_impl_ygoodExprNode_1_3] at h
  refine Ev.step ?_ (fun n => L_impl_ygoodExprNode_1_3_eq g0 n x1)
  exact (Ev.ofBind h fun y1 h => (Ev.ofBif h (fun h => (Ev.ofSome h)) (fun h => (Ev.ofBif h (fun h => (Ev.ofSome h)) (fun h => (Ev.ofBif h (fun h => (Ev.ofBif h (fun h => (Ev.ofSome h)) (fun h => (S_impl_ygoodExprNode_1_6 h)))) (fun h => (S_impl_ygoodExprNode_1_6 h))))))))
theorem S_impl_ygoodExprNode {g0 : (List (List Int))} (a0 : DExpr) {r : Bool} (h : P_impl_ygoodExprNode g0 a0 = some r) : Ev (fun n => F_impl_ygoodExprNode g0 n a0) r := by
  rw [P_impl_ygoodExprNode] at h
  refine Ev.of_eq ?_ (fun n => F_impl_ygoodExprNode_eq g0 n a0)
  exact (Ev.ofBif h (fun h => (Ev.ofSome h)) (fun h => (Ev.ofBif h (fun h => (Ev.ofSome h)) (fun h => (S_impl_ygoodExprNode_1_3 h)))))
theorem hcs_impl_ygoodExprNode (g0 : (List (List Int))) : ∀ x ∈ cs_impl_ygoodExprNode g0, CtrOkG Tryd.prog (glOf [(0, explode (.list .str) g0)]) x := (conOf_cons ok_impl_ykidsOf.any (conOf_cons ok_impl_yzeroAtom.any (conOf_cons ok_impl_GoodAtom.any (conOf_cons ok_slices_Contains_string_string.any (conOf_cons ok_impl_GoodName.any (conOf_cons ok_impl_ypattern.any (conOf_cons ok_impl_yprinted.any conOf_nil)))))))
theorem ok_impl_ygoodExprNode (g0 : (List (List Int))) : CtrOkG Tryd.prog (glOf [(0, explode (.list .str) g0)]) (c_impl_ygoodExprNode g0) := by
  refine ctr_of_run (c := c_impl_ygoodExprNode g0) (by kernel_rfl) (by kernel_rfl : Tryd.prog.funcs[100]? = some Tryd.f100) (code := Tryd.f100.body.getD .skip) (by kernel_rfl) (by kernel_rfl) (by kernel_rfl) (A := A_impl_ygoodExprNode) (I := In_impl_ygoodExprNode) (hcs_impl_ygoodExprNode g0) ?_
  rintro ⟨a0, u⟩ y hy
  exact (S_impl_ygoodExprNode a0 hy).get

/-! ## impl.yexprEnd (101) -/
noncomputable def P_impl_yexprEnd_0_6 (Rc : (List DExpr) → Int → Int → Option Int) (x1 : (List DExpr)) (x3 : Int) (x4 : Int) (x6 : DExpr) : Nat → Int → Int → Option Int
  | 0, _, _ => none
  | m + 1, x2, x5 =>
      bif decide (x5 < x4) then
        bif decide (x6.1 = 2) then
          bif decide ((x1.length : Int) ≤ x2) then
            some (-1)
          else
            bif inB x2 x1.length then
              bif !decide ((rd x1 x2 (Ty.dflt TyExpr)).1 = 1) then
                some (-1)
              else
                Option.bind (Rc x1 x2 (IntKind.wrap .i64 (x3 + 1))) fun (y1 : Int) =>
                bif decide (y1 < 0) then
                  some (-1)
                else
                  P_impl_yexprEnd_0_6 Rc x1 x3 x4 x6 m y1 (IntKind.wrap .i64 (x5 + 1))
            else none
        else
          Option.bind (Rc x1 x2 (IntKind.wrap .i64 (x3 + 1))) fun (y2 : Int) =>
          bif decide (y2 < 0) then
            some (-1)
          else
            P_impl_yexprEnd_0_6 Rc x1 x3 x4 x6 m y2 (IntKind.wrap .i64 (x5 + 1))
      else
        some x2
noncomputable def P_impl_yexprEnd (Rc : (List DExpr) → Int → Int → Option Int) (m : Nat) (a0 : (List DExpr)) (a1 : Int) (a2 : Int) : Option Int :=
  bif decide ((a0.length : Int) ≤ a1) then
    some (-1)
  else
    bif decide ((12 : Int) < a2) then
      some (-1)
    else
      bif inB a1 a0.length then
        P_impl_yexprEnd_0_6 Rc a0 a2 ((((rd a0 a1 (Ty.dflt TyExpr)).2).2).2) (rd a0 a1 (Ty.dflt TyExpr)) m (IntKind.wrap .i64 (a1 + 1)) 0
      else none
noncomputable def R_impl_yexprEnd : Nat → (List DExpr) → Int → Int → Option Int
  | 0 => fun _ _ _ => none
  | d + 1 => fun a0 a1 a2 => evOpt fun m => P_impl_yexprEnd (R_impl_yexprEnd d) m a0 a1 a2
noncomputable def E_impl_yexprEnd (a0 : (List DExpr)) (a1 : Int) (a2 : Int) : Option Int := evOpt fun d => R_impl_yexprEnd d a0 a1 a2
noncomputable def c_impl_yexprEnd : Ctr := ⟨101, [(.list TyExpr), I64, I64], [I64], fun x => E_impl_yexprEnd x.1 x.2.1 x.2.2.1⟩
def A_impl_yexprEnd : List (List Nat × Ann) := [([0, 6], [.keep 0 0, .keep 0 1, .keep 0 2, .keep 0 7, .keep 0 23, .keep 0 24, .boxd 0 7 TyExpr])]
def In_impl_yexprEnd : List (List Nat × Nat) := []
noncomputable def cs_impl_yexprEnd (Rc : (List DExpr) → Int → Int → Option Int) : List Ctr := [⟨101, [(.list TyExpr), I64, I64], [I64], fun x => Rc x.1 x.2.1 x.2.2.1⟩]
noncomputable def F_impl_yexprEnd (Rc : (List DExpr) → Int → Int → Option Int) (n : Nat) (a0 : (List DExpr)) (a1 : Int) (a2 : Int) : Option Int := run Tryd.prog A_impl_yexprEnd In_impl_yexprEnd (conOf (cs_impl_yexprEnd Rc)) Tryd.f101 (Tryd.f101.body.getD .skip) (packT [I64]) n (argsV [(.list TyExpr), I64, I64] (a0, a1, a2, ()))
noncomputable abbrev L_impl_yexprEnd_0_6 (Rc : (List DExpr) → Int → Int → Option Int) (n : Nat) (x1 : (List DExpr)) (x2 : Int) (x3 : Int) (x4 : Int) (x5 : Int) (x6 : DExpr) : Option Int := lam Tryd.prog A_impl_yexprEnd In_impl_yexprEnd (conOf (cs_impl_yexprEnd Rc)) Tryd.f101 (Tryd.f101.body.getD .skip) (packT [I64]) n [0, 6] [.d (.list TyExpr) x1, .d I64 x2, .d I64 x3, .ptr 0 7 0, .d I64 x4, .d I64 x5, .agg (explode TyExpr x6)]
theorem F_impl_yexprEnd_eq (Rc : (List DExpr) → Int → Int → Option Int) (n : Nat) (a0 : (List DExpr)) (a1 : Int) (a2 : Int) : F_impl_yexprEnd Rc n a0 a1 a2 =
    bif decide ((a0.length : Int) ≤ a1) then
      some (-1)
    else
      bif decide ((12 : Int) < a2) then
        some (-1)
      else
        bif inB a1 a0.length then
          L_impl_yexprEnd_0_6 Rc n a0 (IntKind.wrap .i64 (a1 + 1)) a2 ((((rd a0 a1 (Ty.dflt TyExpr)).2).2).2) 0 (rd a0 a1 (Ty.dflt TyExpr))
        else none := by kernel_rfl
theorem L_impl_yexprEnd_0_6_eq (Rc : (List DExpr) → Int → Int → Option Int) (n : Nat) (x1 : (List DExpr)) (x2 : Int) (x3 : Int) (x4 : Int) (x5 : Int) (x6 : DExpr) : L_impl_yexprEnd_0_6 Rc (n + 1) x1 x2 x3 x4 x5 x6 =
    bif decide (x5 < x4) then
      bif decide (x6.1 = 2) then
        bif decide ((x1.length : Int) ≤ x2) then
          some (-1)
        else
          bif inB x2 x1.length then
            bif !decide ((rd x1 x2 (Ty.dflt TyExpr)).1 = 1) then
              some (-1)
            else
              Option.bind (Rc x1 x2 (IntKind.wrap .i64 (x3 + 1))) fun (y1 : Int) =>
              bif decide (y1 < 0) then
                some (-1)
              else
                L_impl_yexprEnd_0_6 Rc n x1 y1 x3 x4 (IntKind.wrap .i64 (x5 + 1)) x6
          else none
      else
        Option.bind (Rc x1 x2 (IntKind.wrap .i64 (x3 + 1))) fun (y2 : Int) =>
        bif decide (y2 < 0) then
          some (-1)
        else
          L_impl_yexprEnd_0_6 Rc n x1 y2 x3 x4 (IntKind.wrap .i64 (x5 + 1)) x6
    else
      some x2 := by kernel_rfl
theorem S_impl_yexprEnd_0_6 {Rc : (List DExpr) → Int → Int → Option Int} {x1 : (List DExpr)} {x3 : Int} {x4 : Int} {x6 : DExpr} : ∀ (m : Nat) (x2 : Int) (x5 : Int) (r : Int), P_impl_yexprEnd_0_6 Rc x1 x3 x4 x6 m x2 x5 = some r → Ev (fun n => L_impl_yexprEnd_0_6 Rc n x1 x2 x3 x4 x5 x6) r := by
  intro m
  induction m with
  | zero => intro x2 x5 r h; rw [P_impl_yexprEnd_0_6] at h; exact Ev.ofNone h
  | succ m ih2 =>
    intro x2 x5 r h
    rw [P_impl_yexprEnd_0_6] at h
    refine Ev.step ?_ (fun n => L_impl_yexprEnd_0_6_eq Rc n x1 x2 x3 x4 x5 x6)
    exact (Ev.ofBif h (fun h => (Ev.ofBif h (fun h => (Ev.ofBif h (fun h => (Ev.ofSome h)) (fun h => (Ev.ofBif h (fun h => (Ev.ofBif h (fun h => (Ev.ofSome h)) (fun h => (Ev.ofBind h fun y1 h => (Ev.ofBif h (fun h => (Ev.ofSome h)) (fun h => (ih2 _ _ _ h))))))) (fun h => (Ev.ofNone h)))))) (fun h => (Ev.ofBind h fun y2 h => (Ev.ofBif h (fun h => (Ev.ofSome h)) (fun h => (ih2 _ _ _ h))))))) (fun h => (Ev.ofSome h)))
theorem S_impl_yexprEnd {Rc : (List DExpr) → Int → Int → Option Int} {m : Nat} (a0 : (List DExpr)) (a1 : Int) (a2 : Int) {r : Int} (h : P_impl_yexprEnd Rc m a0 a1 a2 = some r) : Ev (fun n => F_impl_yexprEnd Rc n a0 a1 a2) r := by
  rw [P_impl_yexprEnd] at h
  refine Ev.of_eq ?_ (fun n => F_impl_yexprEnd_eq Rc n a0 a1 a2)
  exact (Ev.ofBif h (fun h => (Ev.ofSome h)) (fun h => (Ev.ofBif h (fun h => (Ev.ofSome h)) (fun h => (Ev.ofBif h (fun h => (S_impl_yexprEnd_0_6 _ _ _ _ h)) (fun h => (Ev.ofNone h)))))))
theorem okR_impl_yexprEnd : ∀ d, CtrOk Tryd.prog (⟨101, [(.list TyExpr), I64, I64], [I64], fun x => R_impl_yexprEnd d x.1 x.2.1 x.2.2.1⟩ : Ctr) := by
  intro d
  induction d with
  | zero => intro xs y hy; exact (nomatch (show (none : Option Int) = some y from hy))
  | succ d ih =>
    refine ctr_of_run (by kernel_rfl) (by kernel_rfl : Tryd.prog.funcs[101]? = some Tryd.f101) (code := Tryd.f101.body.getD .skip) (by kernel_rfl) (by kernel_rfl) (by kernel_rfl) (A := A_impl_yexprEnd) (I := In_impl_yexprEnd) (cs := cs_impl_yexprEnd (R_impl_yexprEnd d)) (conOf_cons ih conOf_nil) ?_
    rintro ⟨a0, a1, a2, u⟩ y hy
    exact let ⟨_, h⟩ := (evOpt_get hy).get; (S_impl_yexprEnd a0 a1 a2 h).get
theorem ok_impl_yexprEnd : CtrOk Tryd.prog (c_impl_yexprEnd) := by
  rintro ⟨a0, a1, a2, u⟩ y hy
  obtain ⟨d, hd⟩ := (evOpt_get hy).get
  exact okR_impl_yexprEnd d (a0, a1, a2, u) y hd

/-! ## impl.GoodExpr (79) -/
noncomputable def P_impl_GoodExpr_0_2_1002_1010 (g0 : (List (List Int))) (x1 : (List DExpr)) : List DExpr → Nat → Option Bool
  | [], k =>
      bif false then
        some false
      else
        Option.bind (E_impl_yexprEnd x1 0 1) fun (y3 : Int) =>
        some (decide (y3 = (x1.length : Int)))
  | e :: rest, k =>
      Option.bind (P_impl_ygoodExprNode g0 (e)) fun (y1 : Bool) =>
      bif !(y1) then
        bif false then
          some false
        else
          bif decide ((0 : Int) ≤ (k : Int)) then
            some false
          else
            Option.bind (E_impl_yexprEnd x1 0 1) fun (y2 : Int) =>
            some (decide (y2 = (x1.length : Int)))
      else
        P_impl_GoodExpr_0_2_1002_1010 g0 x1 rest (k + 1)
noncomputable def P_impl_GoodExpr (g0 : (List (List Int))) (a0 : (List DExpr)) : Option Bool :=
  bif decide ((a0.length : Int) = 0) then
    some false
  else
    bif decide ((60 : Int) < (a0.length : Int)) then
      some false
    else
      lenOk a0 (P_impl_GoodExpr_0_2_1002_1010 g0 a0 a0 0)
noncomputable def c_impl_GoodExpr (g0 : (List (List Int))) : Ctr := ⟨79, [(.list TyExpr)], [.bool], fun x => P_impl_GoodExpr g0 x.1⟩
def A_impl_GoodExpr : List (List Nat × Ann) := [([0, 2, 1002, 1010], [.keep 0 0, .keep 0 11, .keep 2 0, .keep 2 1, .keep 2 7, .keep 2 8])]
def In_impl_GoodExpr : List (List Nat × Nat) := [([1010], 98), ([1002, 1010], 109), ([4005, 1002, 1010], 99)]
noncomputable def cs_impl_GoodExpr (g0 : (List (List Int))) : List Ctr := [(c_impl_ygoodExprNode g0), c_impl_yexprEnd]
noncomputable def F_impl_GoodExpr (g0 : (List (List Int))) (n : Nat) (a0 : (List DExpr)) : Option Bool := runE Tryd.prog (glOf [(0, explode (.list .str) g0)]) A_impl_GoodExpr In_impl_GoodExpr (conOf (cs_impl_GoodExpr g0)) Tryd.f79 (Tryd.f79.body.getD .skip) (endD Tryd.prog Tryd.f79 (packT [.bool])) n (argsV [(.list TyExpr)] (a0, ()))
noncomputable abbrev L_impl_GoodExpr_0_2_1002_1010 (g0 : (List (List Int))) (n : Nat) (x1 : (List DExpr)) (x2 : Bool) (x3 : (List DExpr)) (x4 : Int) (x5 : Int) : Option Bool := lamE Tryd.prog (glOf [(0, explode (.list .str) g0)]) A_impl_GoodExpr In_impl_GoodExpr (conOf (cs_impl_GoodExpr g0)) Tryd.f79 (Tryd.f79.body.getD .skip) (endD Tryd.prog Tryd.f79 (packT [.bool])) n [0, 2, 1002, 1010] [.d (.list TyExpr) x1, .d .bool x2, .d (.list TyExpr) x3, .fn 99 [], .d I64 x4, .d I64 x5]
theorem F_impl_GoodExpr_eq (g0 : (List (List Int))) (n : Nat) (a0 : (List DExpr)) : F_impl_GoodExpr g0 n a0 =
    bif decide ((a0.length : Int) = 0) then
      some false
    else
      bif decide ((60 : Int) < (a0.length : Int)) then
        some false
      else
        L_impl_GoodExpr_0_2_1002_1010 g0 n a0 false a0 (a0.length : Int) 0 := by kernel_rfl
theorem L_impl_GoodExpr_0_2_1002_1010_eq (g0 : (List (List Int))) (n : Nat) (x1 : (List DExpr)) (x2 : Bool) (x3 : (List DExpr)) (x4 : Int) (x5 : Int) : L_impl_GoodExpr_0_2_1002_1010 g0 (n + 1) x1 x2 x3 x4 x5 =
    bif decide (x5 < x4) then
      bif inB x5 x3.length then
        Option.bind (P_impl_ygoodExprNode g0 (rd x3 x5 (Ty.dflt TyExpr))) fun (y1 : Bool) =>
        bif !(y1) then
          bif x2 then
            some false
          else
            bif decide ((0 : Int) ≤ x5) then
              some false
            else
              Option.bind (E_impl_yexprEnd x1 0 1) fun (y2 : Int) =>
              some (decide (y2 = (x1.length : Int)))
        else
          L_impl_GoodExpr_0_2_1002_1010 g0 n x1 x2 x3 x4 (IntKind.wrap .i64 (x5 + 1))
      else none
    else
      bif x2 then
        some false
      else
        Option.bind (E_impl_yexprEnd x1 0 1) fun (y3 : Int) =>
        some (decide (y3 = (x1.length : Int))) := by kernel_rfl
theorem S_impl_GoodExpr_0_2_1002_1010 {g0 : (List (List Int))} {x1 : (List DExpr)} (hl : x1.length ≤ maxLen) : ∀ (rest : List DExpr) (k : Nat) (r : Bool), rest = x1.drop k → P_impl_GoodExpr_0_2_1002_1010 g0 x1 rest k = some r → Ev (fun n => L_impl_GoodExpr_0_2_1002_1010 g0 n x1 false x1 (x1.length : Int) (k : Int)) r := by
  intro rest
  induction rest with
  | nil =>
    intro k r hr h
    have hk := drop_nil hr
    rw [P_impl_GoodExpr_0_2_1002_1010] at h
    refine Ev.step ?_ (fun n => L_impl_GoodExpr_0_2_1002_1010_eq g0 n x1 false x1 (x1.length : Int) (k : Int))
    rw [show decide ((k : Int) < (x1.length : Int)) = false from decide_eq_false (by omega)]
    exact Ev.neg rfl (Ev.ofBif h (fun h => (Ev.ofSome h)) (fun h => (Ev.ofBind h fun y3 h => (Ev.ofSome h))))
  | cons e rest ih =>
    intro k r hr h
    obtain ⟨hk, hx, hr2⟩ := drop_cons (d := (Ty.dflt TyExpr)) hr
    have hw := wrap_succ hl hk
    have ih2 : ∀ (r : Bool), P_impl_GoodExpr_0_2_1002_1010 g0 x1 rest (k + 1) = some r → Ev (fun n => L_impl_GoodExpr_0_2_1002_1010 g0 n x1 false x1 (x1.length : Int) (IntKind.wrap .i64 ((k : Int) + 1))) r := by
      intro r h; rw [hw]; exact ih (k + 1) r hr2 h
    rw [P_impl_GoodExpr_0_2_1002_1010] at h
    refine Ev.step ?_ (fun n => L_impl_GoodExpr_0_2_1002_1010_eq g0 n x1 false x1 (x1.length : Int) (k : Int))
    rw [show decide ((k : Int) < (x1.length : Int)) = true from decide_eq_true (by omega), inB_nat2 hk, hx]
    exact Ev.pos rfl (Ev.pos rfl (Ev.ofBind h fun y1 h => (Ev.ofBif h (fun h => (Ev.ofBif h (fun h => (Ev.ofSome h)) (fun h => (Ev.ofBif h (fun h => (Ev.ofSome h)) (fun h => (Ev.ofBind h fun y2 h => (Ev.ofSome h))))))) (fun h => (ih2  _ h)))))
theorem S_impl_GoodExpr {g0 : (List (List Int))} (a0 : (List DExpr)) {r : Bool} (h : P_impl_GoodExpr g0 a0 = some r) : Ev (fun n => F_impl_GoodExpr g0 n a0) r := by
  rw [P_impl_GoodExpr] at h
  refine Ev.of_eq ?_ (fun n => F_impl_GoodExpr_eq g0 n a0)
  exact (Ev.ofBif h (fun h => (Ev.ofSome h)) (fun h => (Ev.ofBif h (fun h => (Ev.ofSome h)) (fun h => (Ev.ofLen h fun hl h => S_impl_GoodExpr_0_2_1002_1010 hl _ (0 : Nat) _ rfl h)))))
theorem hcs_impl_GoodExpr (g0 : (List (List Int))) : ∀ x ∈ cs_impl_GoodExpr g0, CtrOkG Tryd.prog (glOf [(0, explode (.list .str) g0)]) x := (conOf_cons (ok_impl_ygoodExprNode g0) (conOf_cons ok_impl_yexprEnd.any conOf_nil))
theorem ok_impl_GoodExpr (g0 : (List (List Int))) : CtrOkG Tryd.prog (glOf [(0, explode (.list .str) g0)]) (c_impl_GoodExpr g0) := by
  refine ctr_of_run (c := c_impl_GoodExpr g0) (by kernel_rfl) (by kernel_rfl : Tryd.prog.funcs[79]? = some Tryd.f79) (code := Tryd.f79.body.getD .skip) (by kernel_rfl) (by kernel_rfl) (by kernel_rfl) (A := A_impl_GoodExpr) (I := In_impl_GoodExpr) (hcs_impl_GoodExpr g0) ?_
  rintro ⟨a0, u⟩ y hy
  exact (S_impl_GoodExpr a0 hy).get

/-! ## impl.GoodPolicy (33) -/
noncomputable def P_impl_GoodPolicy (g0 : (List (List Int))) (a0 : DPolicy) : Option Bool :=
  Option.bind (P_impl_ygoodId a0.1) fun (y1 : Bool) =>
  bif y1 then
    Option.bind (P_impl_ygoodHead a0.2.2.1 false) fun (y2 : Bool) =>
    bif y2 then
      Option.bind (P_impl_ygoodHead a0.2.2.2.1 true) fun (y3 : Bool) =>
      bif y3 then
        Option.bind (P_impl_ygoodHead a0.2.2.2.2.1 false) fun (y4 : Bool) =>
        bif y4 then
          bif decide ((a0.2.2.2.2.2.length : Int) = 0) then
            some true
          else
            Option.bind (P_impl_GoodExpr g0 a0.2.2.2.2.2) fun (y5 : Bool) =>
            some y5
        else
          some false
      else
        some false
    else
      some false
  else
    some false
noncomputable def c_impl_GoodPolicy (g0 : (List (List Int))) : Ctr := ⟨33, [TyPolicy], [.bool], fun x => P_impl_GoodPolicy g0 x.1⟩
def A_impl_GoodPolicy : List (List Nat × Ann) := []
def In_impl_GoodPolicy : List (List Nat × Nat) := []
noncomputable def cs_impl_GoodPolicy (g0 : (List (List Int))) : List Ctr := [c_impl_ygoodId, c_impl_ygoodHead, (c_impl_GoodExpr g0)]
noncomputable def F_impl_GoodPolicy (g0 : (List (List Int))) (n : Nat) (a0 : DPolicy) : Option Bool := runE Tryd.prog (glOf [(0, explode (.list .str) g0)]) A_impl_GoodPolicy In_impl_GoodPolicy (conOf (cs_impl_GoodPolicy g0)) Tryd.f33 (Tryd.f33.body.getD .skip) (endD Tryd.prog Tryd.f33 (packT [.bool])) n (argsV [TyPolicy] (a0, ()))
theorem F_impl_GoodPolicy_eq (g0 : (List (List Int))) (n : Nat) (a0 : DPolicy) : F_impl_GoodPolicy g0 n a0 =
    Option.bind (P_impl_ygoodId a0.1) fun (y1 : Bool) =>
    bif y1 then
      Option.bind (P_impl_ygoodHead a0.2.2.1 false) fun (y2 : Bool) =>
      bif y2 then
        Option.bind (P_impl_ygoodHead a0.2.2.2.1 true) fun (y3 : Bool) =>
        bif y3 then
          Option.bind (P_impl_ygoodHead a0.2.2.2.2.1 false) fun (y4 : Bool) =>
          bif y4 then
            bif decide ((a0.2.2.2.2.2.length : Int) = 0) then
              some true
            else
              Option.bind (P_impl_GoodExpr g0 a0.2.2.2.2.2) fun (y5 : Bool) =>
              some y5
          else
            some false
        else
          some false
      else
        some false
    else
      some false := by kernel_rfl
theorem S_impl_GoodPolicy {g0 : (List (List Int))} (a0 : DPolicy) {r : Bool} (h : P_impl_GoodPolicy g0 a0 = some r) : Ev (fun n => F_impl_GoodPolicy g0 n a0) r := by
  rw [P_impl_GoodPolicy] at h
  refine Ev.of_eq ?_ (fun n => F_impl_GoodPolicy_eq g0 n a0)
  exact (Ev.ofBind h fun y1 h => (Ev.ofBif h (fun h => (Ev.ofBind h fun y2 h => (Ev.ofBif h (fun h => (Ev.ofBind h fun y3 h => (Ev.ofBif h (fun h => (Ev.ofBind h fun y4 h => (Ev.ofBif h (fun h => (Ev.ofBif h (fun h => (Ev.ofSome h)) (fun h => (Ev.ofBind h fun y5 h => (Ev.ofSome h))))) (fun h => (Ev.ofSome h))))) (fun h => (Ev.ofSome h))))) (fun h => (Ev.ofSome h))))) (fun h => (Ev.ofSome h))))
theorem hcs_impl_GoodPolicy (g0 : (List (List Int))) : ∀ x ∈ cs_impl_GoodPolicy g0, CtrOkG Tryd.prog (glOf [(0, explode (.list .str) g0)]) x := (conOf_cons ok_impl_ygoodId.any (conOf_cons ok_impl_ygoodHead.any (conOf_cons (ok_impl_GoodExpr g0) conOf_nil)))
theorem ok_impl_GoodPolicy (g0 : (List (List Int))) : CtrOkG Tryd.prog (glOf [(0, explode (.list .str) g0)]) (c_impl_GoodPolicy g0) := by
  refine ctr_of_run (c := c_impl_GoodPolicy g0) (by kernel_rfl) (by kernel_rfl : Tryd.prog.funcs[33]? = some Tryd.f33) (code := Tryd.f33.body.getD .skip) (by kernel_rfl) (by kernel_rfl) (by kernel_rfl) (A := A_impl_GoodPolicy) (I := In_impl_GoodPolicy) (hcs_impl_GoodPolicy g0) ?_
  rintro ⟨a0, u⟩ y hy
  exact (S_impl_GoodPolicy a0 hy).get

/-! ## impl.LinkPolicy$2 (36) -/
noncomputable def T_impl_LinkPolicy_2 (a0 : DHead) (a1 : DAtom) : DHead :=
  bif decide (a0.1 = 5) then
    (2, a1, ([] : List Int))
  else
    bif decide (a0.1 = 6) then
      (3, a1, ([] : List Int))
    else
      a0
noncomputable def c_impl_LinkPolicy_2 : Ctr := ⟨36, [TyHead, TyAtom], [TyHead], fun x => some (T_impl_LinkPolicy_2 x.1 x.2.1)⟩
def A_impl_LinkPolicy_2 : List (List Nat × Ann) := []
def In_impl_LinkPolicy_2 : List (List Nat × Nat) := []
noncomputable def cs_impl_LinkPolicy_2 : List Ctr := []
noncomputable def F_impl_LinkPolicy_2 (n : Nat) (a0 : DHead) (a1 : DAtom) : Option DHead := run Tryd.prog A_impl_LinkPolicy_2 In_impl_LinkPolicy_2 (conOf cs_impl_LinkPolicy_2) Tryd.f36 (Tryd.f36.body.getD .skip) (packT [TyHead]) n (argsV [TyHead, TyAtom] (a0, a1, ()))
theorem F_impl_LinkPolicy_2_eq (n : Nat) (a0 : DHead) (a1 : DAtom) : F_impl_LinkPolicy_2 n a0 a1 =
    bif decide (a0.1 = 5) then
      some (2, a1, ([] : List Int))
    else
      bif decide (a0.1 = 6) then
        some (3, a1, ([] : List Int))
      else
        some a0 := by kernel_rfl
theorem S_impl_LinkPolicy_2 (n : Nat) (a0 : DHead) (a1 : DAtom) : F_impl_LinkPolicy_2 n a0 a1 = some (T_impl_LinkPolicy_2 a0 a1) := (F_impl_LinkPolicy_2_eq n a0 a1).trans (cond_some rfl (cond_some rfl rfl))
theorem hcs_impl_LinkPolicy_2 : ∀ x ∈ cs_impl_LinkPolicy_2, CtrOk Tryd.prog x := conOf_nil
theorem ok_impl_LinkPolicy_2 : CtrOk Tryd.prog (c_impl_LinkPolicy_2) := by
  refine ctr_of_run (c := c_impl_LinkPolicy_2) (by kernel_rfl) (by kernel_rfl : Tryd.prog.funcs[36]? = some Tryd.f36) (code := Tryd.f36.body.getD .skip) (by kernel_rfl) (by kernel_rfl) (by kernel_rfl) (A := A_impl_LinkPolicy_2) (I := In_impl_LinkPolicy_2) (hcs_impl_LinkPolicy_2) ?_
  rintro ⟨a0, a1, u⟩ y hy
  exact ⟨0, (S_impl_LinkPolicy_2 0 a0 a1).trans hy⟩

/-! ## impl.Expr] (37) -/
noncomputable def P_impl_Expr (a0 : (List DExpr)) : Option (List DExpr) :=
  bif decide (0 < a0.length) then
    bif decide (((([] : List DExpr).length : Int) + (a0.length : Int)) * 80 ≤ room) && decide ((([] : List DExpr).length : Int) + (a0.length : Int) ≤ room) then
      some (([] : List DExpr) ++ a0)
    else none
  else
    both
      (some ([]))
      (bif decide (((([] : List DExpr).length : Int) + (a0.length : Int)) * 80 ≤ room) && decide ((([] : List DExpr).length : Int) + (a0.length : Int) ≤ room) then
        some (([] : List DExpr) ++ a0)
      else none)
noncomputable def c_impl_Expr : Ctr := ⟨37, [(.list TyExpr)], [(.list TyExpr)], fun x => P_impl_Expr x.1⟩
def A_impl_Expr : List (List Nat × Ann) := []
def In_impl_Expr : List (List Nat × Nat) := []
noncomputable def cs_impl_Expr : List Ctr := []
noncomputable def F_impl_Expr (n : Nat) (a0 : (List DExpr)) : Option (List DExpr) := run Tryd.prog A_impl_Expr In_impl_Expr (conOf cs_impl_Expr) Tryd.f37 (Tryd.f37.body.getD .skip) (packT [(.list TyExpr)]) n (argsV [(.list TyExpr)] (a0, ()))
theorem F_impl_Expr_eq (n : Nat) (a0 : (List DExpr)) : F_impl_Expr n a0 =
    bif decide (0 < a0.length) then
      bif decide (((([] : List DExpr).length : Int) + (a0.length : Int)) * 80 ≤ room) && decide ((([] : List DExpr).length : Int) + (a0.length : Int) ≤ room) then
        some (([] : List DExpr) ++ a0)
      else none
    else
      both
        (some ([]))
        (bif decide (((([] : List DExpr).length : Int) + (a0.length : Int)) * 80 ≤ room) && decide ((([] : List DExpr).length : Int) + (a0.length : Int) ≤ room) then
          some (([] : List DExpr) ++ a0)
        else none) := by kernel_rfl
theorem S_impl_Expr (a0 : (List DExpr)) {r : (List DExpr)} (h : P_impl_Expr a0 = some r) : Ev (fun n => F_impl_Expr n a0) r := by
  rw [P_impl_Expr] at h
  refine Ev.of_eq ?_ (fun n => F_impl_Expr_eq n a0)
  exact (Ev.ofBif h (fun h => (Ev.ofBif h (fun h => (Ev.ofSome h)) (fun h => (Ev.ofNone h)))) (fun h => (Ev.ofBoth h (fun h => (Ev.ofSome h)) (fun h => (Ev.ofBif h (fun h => (Ev.ofSome h)) (fun h => (Ev.ofNone h)))))))
theorem hcs_impl_Expr : ∀ x ∈ cs_impl_Expr, CtrOk Tryd.prog x := conOf_nil
theorem ok_impl_Expr : CtrOk Tryd.prog (c_impl_Expr) := by
  refine ctr_of_run (c := c_impl_Expr) (by kernel_rfl) (by kernel_rfl : Tryd.prog.funcs[37]? = some Tryd.f37) (code := Tryd.f37.body.getD .skip) (by kernel_rfl) (by kernel_rfl) (by kernel_rfl) (A := A_impl_Expr) (I := In_impl_Expr) (hcs_impl_Expr) ?_
  rintro ⟨a0, u⟩ y hy
  exact (S_impl_Expr a0 hy).get

/-! ## impl.LinkPolicy (10) -/
noncomputable def P_impl_LinkPolicy_1_4 (g0 : (List (List Int))) (x1 : (List Int)) (x2 : DPolicy) (x3 : DAtom) (x4 : DAtom) : Option (DPolicy × Bool) :=
  Option.bind (P_impl_Expr x2.2.2.2.2.2) fun (y5 : (List DExpr)) =>
  some ((x1, x2.2.1, (T_impl_LinkPolicy_2 x2.2.2.1 x3), x2.2.2.2.1, (T_impl_LinkPolicy_2 x2.2.2.2.2.1 x4), y5), true)
noncomputable def P_impl_LinkPolicy (g0 : (List (List Int))) (a0 : DPolicy) (a1 : (List Int)) (a2 : DAtom) (a3 : DAtom) : Option (DPolicy × Bool) :=
  Option.bind (P_impl_GoodPolicy g0 a0) fun (y1 : Bool) =>
  bif !(y1) then
    some ((([] : List Int), false, (0, (0, 0, ([] : List Int), ([] : List Int)), ([] : List Int)), (0, (0, 0, ([] : List Int), ([] : List Int)), ([] : List Int)), (0, (0, 0, ([] : List Int), ([] : List Int)), ([] : List Int)), []), false)
  else
    bif decide (a0.2.2.1.1 = 5) then
      Option.bind (P_impl_ygoodId a1) fun (y2 : Bool) =>
      bif !(y2) then
        some ((([] : List Int), false, (0, (0, 0, ([] : List Int), ([] : List Int)), ([] : List Int)), (0, (0, 0, ([] : List Int), ([] : List Int)), ([] : List Int)), (0, (0, 0, ([] : List Int), ([] : List Int)), ([] : List Int)), []), false)
      else
        Option.bind (P_impl_ygoodRef a2) fun (y3 : Bool) =>
        bif !(y3) then
          some ((([] : List Int), false, (0, (0, 0, ([] : List Int), ([] : List Int)), ([] : List Int)), (0, (0, 0, ([] : List Int), ([] : List Int)), ([] : List Int)), (0, (0, 0, ([] : List Int), ([] : List Int)), ([] : List Int)), []), false)
        else
          Option.bind (P_impl_ygoodRef a3) fun (y4 : Bool) =>
          bif !(y4) then
            some ((([] : List Int), false, (0, (0, 0, ([] : List Int), ([] : List Int)), ([] : List Int)), (0, (0, 0, ([] : List Int), ([] : List Int)), ([] : List Int)), (0, (0, 0, ([] : List Int), ([] : List Int)), ([] : List Int)), []), false)
          else
            P_impl_LinkPolicy_1_4 g0 a1 a0 a2 a3
    else
      bif !decide (a0.2.2.1.1 = 6) then
        bif decide (a0.2.2.2.2.1.1 = 5) then
          Option.bind (P_impl_ygoodId a1) fun (y6 : Bool) =>
          bif !(y6) then
            some ((([] : List Int), false, (0, (0, 0, ([] : List Int), ([] : List Int)), ([] : List Int)), (0, (0, 0, ([] : List Int), ([] : List Int)), ([] : List Int)), (0, (0, 0, ([] : List Int), ([] : List Int)), ([] : List Int)), []), false)
          else
            Option.bind (P_impl_ygoodRef a2) fun (y7 : Bool) =>
            bif !(y7) then
              some ((([] : List Int), false, (0, (0, 0, ([] : List Int), ([] : List Int)), ([] : List Int)), (0, (0, 0, ([] : List Int), ([] : List Int)), ([] : List Int)), (0, (0, 0, ([] : List Int), ([] : List Int)), ([] : List Int)), []), false)
            else
              Option.bind (P_impl_ygoodRef a3) fun (y8 : Bool) =>
              bif !(y8) then
                some ((([] : List Int), false, (0, (0, 0, ([] : List Int), ([] : List Int)), ([] : List Int)), (0, (0, 0, ([] : List Int), ([] : List Int)), ([] : List Int)), (0, (0, 0, ([] : List Int), ([] : List Int)), ([] : List Int)), []), false)
              else
                P_impl_LinkPolicy_1_4 g0 a1 a0 a2 a3
        else
          bif !decide (a0.2.2.2.2.1.1 = 6) then
            some ((([] : List Int), false, (0, (0, 0, ([] : List Int), ([] : List Int)), ([] : List Int)), (0, (0, 0, ([] : List Int), ([] : List Int)), ([] : List Int)), (0, (0, 0, ([] : List Int), ([] : List Int)), ([] : List Int)), []), false)
          else
            Option.bind (P_impl_ygoodId a1) fun (y9 : Bool) =>
            bif !(y9) then
              some ((([] : List Int), false, (0, (0, 0, ([] : List Int), ([] : List Int)), ([] : List Int)), (0, (0, 0, ([] : List Int), ([] : List Int)), ([] : List Int)), (0, (0, 0, ([] : List Int), ([] : List Int)), ([] : List Int)), []), false)
            else
              Option.bind (P_impl_ygoodRef a2) fun (y10 : Bool) =>
              bif !(y10) then
                some ((([] : List Int), false, (0, (0, 0, ([] : List Int), ([] : List Int)), ([] : List Int)), (0, (0, 0, ([] : List Int), ([] : List Int)), ([] : List Int)), (0, (0, 0, ([] : List Int), ([] : List Int)), ([] : List Int)), []), false)
              else
                Option.bind (P_impl_ygoodRef a3) fun (y11 : Bool) =>
                bif !(y11) then
                  some ((([] : List Int), false, (0, (0, 0, ([] : List Int), ([] : List Int)), ([] : List Int)), (0, (0, 0, ([] : List Int), ([] : List Int)), ([] : List Int)), (0, (0, 0, ([] : List Int), ([] : List Int)), ([] : List Int)), []), false)
                else
                  P_impl_LinkPolicy_1_4 g0 a1 a0 a2 a3
      else
        Option.bind (P_impl_ygoodId a1) fun (y12 : Bool) =>
        bif !(y12) then
          some ((([] : List Int), false, (0, (0, 0, ([] : List Int), ([] : List Int)), ([] : List Int)), (0, (0, 0, ([] : List Int), ([] : List Int)), ([] : List Int)), (0, (0, 0, ([] : List Int), ([] : List Int)), ([] : List Int)), []), false)
        else
          Option.bind (P_impl_ygoodRef a2) fun (y13 : Bool) =>
          bif !(y13) then
            some ((([] : List Int), false, (0, (0, 0, ([] : List Int), ([] : List Int)), ([] : List Int)), (0, (0, 0, ([] : List Int), ([] : List Int)), ([] : List Int)), (0, (0, 0, ([] : List Int), ([] : List Int)), ([] : List Int)), []), false)
          else
            Option.bind (P_impl_ygoodRef a3) fun (y14 : Bool) =>
            bif !(y14) then
              some ((([] : List Int), false, (0, (0, 0, ([] : List Int), ([] : List Int)), ([] : List Int)), (0, (0, 0, ([] : List Int), ([] : List Int)), ([] : List Int)), (0, (0, 0, ([] : List Int), ([] : List Int)), ([] : List Int)), []), false)
            else
              P_impl_LinkPolicy_1_4 g0 a1 a0 a2 a3
noncomputable def c_impl_LinkPolicy (g0 : (List (List Int))) : Ctr := ⟨10, [TyPolicy, .str, TyAtom, TyAtom], [TyPolicy, .bool], fun x => P_impl_LinkPolicy g0 x.1 x.2.1 x.2.2.1 x.2.2.2.1⟩
def A_impl_LinkPolicy : List (List Nat × Ann) := [([1, 4], [.keep 0 1, .keep 0 4, .keep 0 6, .keep 0 7, .keep 0 8, .boxd 0 4 TyPolicy, .boxd 0 6 TyAtom, .boxd 0 7 TyAtom, .boxd 0 8 TyPolicy])]
def In_impl_LinkPolicy : List (List Nat × Nat) := [([2007], 32), ([2013], 32)]
noncomputable def cs_impl_LinkPolicy (g0 : (List (List Int))) : List Ctr := [(c_impl_GoodPolicy g0), c_impl_ygoodId, c_impl_ygoodRef, c_impl_LinkPolicy_2, c_impl_Expr]
noncomputable def F_impl_LinkPolicy (g0 : (List (List Int))) (n : Nat) (a0 : DPolicy) (a1 : (List Int)) (a2 : DAtom) (a3 : DAtom) : Option (DPolicy × Bool) := runE Tryd.prog (glOf [(0, explode (.list .str) g0)]) A_impl_LinkPolicy In_impl_LinkPolicy (conOf (cs_impl_LinkPolicy g0)) Tryd.f10 (Tryd.f10.body.getD .skip) (endD Tryd.prog Tryd.f10 (packT [TyPolicy, .bool])) n (argsV [TyPolicy, .str, TyAtom, TyAtom] (a0, a1, a2, a3, ()))
noncomputable abbrev L_impl_LinkPolicy_1_4 (g0 : (List (List Int))) (n : Nat) (x1 : (List Int)) (x2 : DPolicy) (x3 : DAtom) (x4 : DAtom) (x5 : DPolicy) : Option (DPolicy × Bool) := lamE Tryd.prog (glOf [(0, explode (.list .str) g0)]) A_impl_LinkPolicy In_impl_LinkPolicy (conOf (cs_impl_LinkPolicy g0)) Tryd.f10 (Tryd.f10.body.getD .skip) (endD Tryd.prog Tryd.f10 (packT [TyPolicy, .bool])) n [1, 4] [.d .str x1, .ptr 0 4 0, .ptr 0 6 0, .ptr 0 7 0, .ptr 0 8 0, .agg (explode TyPolicy x2), .agg (explode TyAtom x3), .agg (explode TyAtom x4), .agg (explode TyPolicy x5)]
theorem F_impl_LinkPolicy_eq (g0 : (List (List Int))) (n : Nat) (a0 : DPolicy) (a1 : (List Int)) (a2 : DAtom) (a3 : DAtom) : F_impl_LinkPolicy g0 n a0 a1 a2 a3 =
    Option.bind (P_impl_GoodPolicy g0 a0) fun (y1 : Bool) =>
    bif !(y1) then
      some ((([] : List Int), false, (0, (0, 0, ([] : List Int), ([] : List Int)), ([] : List Int)), (0, (0, 0, ([] : List Int), ([] : List Int)), ([] : List Int)), (0, (0, 0, ([] : List Int), ([] : List Int)), ([] : List Int)), []), false)
    else
      bif decide (a0.2.2.1.1 = 5) then
        Option.bind (P_impl_ygoodId a1) fun (y2 : Bool) =>
        bif !(y2) then
          some ((([] : List Int), false, (0, (0, 0, ([] : List Int), ([] : List Int)), ([] : List Int)), (0, (0, 0, ([] : List Int), ([] : List Int)), ([] : List Int)), (0, (0, 0, ([] : List Int), ([] : List Int)), ([] : List Int)), []), false)
        else
          Option.bind (P_impl_ygoodRef a2) fun (y3 : Bool) =>
          bif !(y3) then
            some ((([] : List Int), false, (0, (0, 0, ([] : List Int), ([] : List Int)), ([] : List Int)), (0, (0, 0, ([] : List Int), ([] : List Int)), ([] : List Int)), (0, (0, 0, ([] : List Int), ([] : List Int)), ([] : List Int)), []), false)
          else
            Option.bind (P_impl_ygoodRef a3) fun (y4 : Bool) =>
            bif !(y4) then
              some ((([] : List Int), false, (0, (0, 0, ([] : List Int), ([] : List Int)), ([] : List Int)), (0, (0, 0, ([] : List Int), ([] : List Int)), ([] : List Int)), (0, (0, 0, ([] : List Int), ([] : List Int)), ([] : List Int)), []), false)
            else
              L_impl_LinkPolicy_1_4 g0 n a1 a0 a2 a3 (([] : List Int), false, (0, (0, 0, ([] : List Int), ([] : List Int)), ([] : List Int)), (0, (0, 0, ([] : List Int), ([] : List Int)), ([] : List Int)), (0, (0, 0, ([] : List Int), ([] : List Int)), ([] : List Int)), [])
      else
        bif !decide (a0.2.2.1.1 = 6) then
          bif decide (a0.2.2.2.2.1.1 = 5) then
            Option.bind (P_impl_ygoodId a1) fun (y6 : Bool) =>
            bif !(y6) then
              some ((([] : List Int), false, (0, (0, 0, ([] : List Int), ([] : List Int)), ([] : List Int)), (0, (0, 0, ([] : List Int), ([] : List Int)), ([] : List Int)), (0, (0, 0, ([] : List Int), ([] : List Int)), ([] : List Int)), []), false)
            else
              Option.bind (P_impl_ygoodRef a2) fun (y7 : Bool) =>
              bif !(y7) then
                some ((([] : List Int), false, (0, (0, 0, ([] : List Int), ([] : List Int)), ([] : List Int)), (0, (0, 0, ([] : List Int), ([] : List Int)), ([] : List Int)), (0, (0, 0, ([] : List Int), ([] : List Int)), ([] : List Int)), []), false)
              else
                Option.bind (P_impl_ygoodRef a3) fun (y8 : Bool) =>
                bif !(y8) then
                  some ((([] : List Int), false, (0, (0, 0, ([] : List Int), ([] : List Int)), ([] : List Int)), (0, (0, 0, ([] : List Int), ([] : List Int)), ([] : List Int)), (0, (0, 0, ([] : List Int), ([] : List Int)), ([] : List Int)), []), false)
                else
                  L_impl_LinkPolicy_1_4 g0 n a1 a0 a2 a3 (([] : List Int), false, (0, (0, 0, ([] : List Int), ([] : List Int)), ([] : List Int)), (0, (0, 0, ([] : List Int), ([] : List Int)), ([] : List Int)), (0, (0, 0, ([] : List Int), ([] : List Int)), ([] : List Int)), [])
          else
            bif !decide (a0.2.2.2.2.1.1 = 6) then
              some ((([] : List Int), false, (0, (0, 0, ([] : List Int), ([] : List Int)), ([] : List Int)), (0, (0, 0, ([] : List Int), ([] : List Int)), ([] : List Int)), (0, (0, 0, ([] : List Int), ([] : List Int)), ([] : List Int)), []), false)
            else
              Option.bind (P_impl_ygoodId a1) fun (y9 : Bool) =>
              bif !(y9) then
                some ((([] : List Int), false, (0, (0, 0, ([] : List Int), ([] : List Int)), ([] : List Int)), (0, (0, 0, ([] : List Int), ([] : List Int)), ([] : List Int)), (0, (0, 0, ([] : List Int), ([] : List Int)), ([] : List Int)), []), false)
              else
                Option.bind (P_impl_ygoodRef a2) fun (y10 : Bool) =>
                bif !(y10) then
                  some ((([] : List Int), false, (0, (0, 0, ([] : List Int), ([] : List Int)), ([] : List Int)), (0, (0, 0, ([] : List Int), ([] : List Int)), ([] : List Int)), (0, (0, 0, ([] : List Int), ([] : List Int)), ([] : List Int)), []), false)
                else
                  Option.bind (P_impl_ygoodRef a3) fun (y11 : Bool) =>
                  bif !(y11) then
                    some ((([] : List Int), false, (0, (0, 0, ([] : List Int), ([] : List Int)), ([] : List Int)), (0, (0, 0, ([] : List Int), ([] : List Int)), ([] : List Int)), (0, (0, 0, ([] : List Int), ([] : List Int)), ([] : List Int)), []), false)
                  else
                    L_impl_LinkPolicy_1_4 g0 n a1 a0 a2 a3 (([] : List Int), false, (0, (0, 0, ([] : List Int), ([] : List Int)), ([] : List Int)), (0, (0, 0, ([] : List Int), ([] : List Int)), ([] : List Int)), (0, (0, 0, ([] : List Int), ([] : List Int)), ([] : List Int)), [])
        else
          Option.bind (P_impl_ygoodId a1) fun (y12 : Bool) =>
          bif !(y12) then
            some ((([] : List Int), false, (0, (0, 0, ([] : List Int), ([] : List Int)), ([] : List Int)), (0, (0, 0, ([] : List Int), ([] : List Int)), ([] : List Int)), (0, (0, 0, ([] : List Int), ([] : List Int)), ([] : List Int)), []), false)
          else
            Option.bind (P_impl_ygoodRef a2) fun (y13 : Bool) =>
            bif !(y13) then
              some ((([] : List Int), false, (0, (0, 0, ([] : List Int), ([] : List Int)), ([] : List Int)), (0, (0, 0, ([] : List Int), ([] : List Int)), ([] : List Int)), (0, (0, 0, ([] : List Int), ([] : List Int)), ([] : List Int)), []), false)
            else
              Option.bind (P_impl_ygoodRef a3) fun (y14 : Bool) =>
              bif !(y14) then
                some ((([] : List Int), false, (0, (0, 0, ([] : List Int), ([] : List Int)), ([] : List Int)), (0, (0, 0, ([] : List Int), ([] : List Int)), ([] : List Int)), (0, (0, 0, ([] : List Int), ([] : List Int)), ([] : List Int)), []), false)
              else
                L_impl_LinkPolicy_1_4 g0 n a1 a0 a2 a3 (([] : List Int), false, (0, (0, 0, ([] : List Int), ([] : List Int)), ([] : List Int)), (0, (0, 0, ([] : List Int), ([] : List Int)), ([] : List Int)), (0, (0, 0, ([] : List Int), ([] : List Int)), ([] : List Int)), []) := by kernel_rfl
theorem L_impl_LinkPolicy_1_4_eq (g0 : (List (List Int))) (n : Nat) (x1 : (List Int)) (x2 : DPolicy) (x3 : DAtom) (x4 : DAtom) (x5 : DPolicy) : L_impl_LinkPolicy_1_4 g0 (n + 1) x1 x2 x3 x4 x5 =
    Option.bind (P_impl_Expr x2.2.2.2.2.2) fun (y5 : (List DExpr)) =>
    some ((x1, x2.2.1, (T_impl_LinkPolicy_2 x2.2.2.1 x3), x2.2.2.2.1, (T_impl_LinkPolicy_2 x2.2.2.2.2.1 x4), y5), true) := by kernel_rfl
theorem S_impl_LinkPolicy_1_4 {g0 : (List (List Int))} {x1 : (List Int)} {x2 : DPolicy} {x3 : DAtom} {x4 : DAtom} {x5 : DPolicy} {r : (DPolicy × Bool)} (h : P_impl_LinkPolicy_1_4 g0 x1 x2 x3 x4 = some r) : Ev (fun n => L_impl_LinkPolicy_1_4 g0 n x1 x2 x3 x4 x5) r := by
  rw [P_impl_LinkPolicy_1_4] at h
  refine Ev.step ?_ (fun n => L_impl_LinkPolicy_1_4_eq g0 n x1 x2 x3 x4 x5)
  exact (Ev.ofBind h fun y5 h => (Ev.ofSome h))
theorem S_impl_LinkPolicy {g0 : (List (List Int))} (a0 : DPolicy) (a1 : (List Int)) (a2 : DAtom) (a3 : DAtom) {r : (DPolicy × Bool)} (h : P_impl_LinkPolicy g0 a0 a1 a2 a3 = some r) : Ev (fun n => F_impl_LinkPolicy g0 n a0 a1 a2 a3) r := by
  rw [P_impl_LinkPolicy] at h
  refine Ev.of_eq ?_ (fun n => F_impl_LinkPolicy_eq g0 n a0 a1 a2 a3)
  exact (Ev.ofBind h fun y1 h => (Ev.ofBif h (fun h => (Ev.ofSome h)) (fun h => (Ev.ofBif h (fun h => (Ev.ofBind h fun y2 h => (Ev.ofBif h (fun h => (Ev.ofSome h)) (fun h => (Ev.ofBind h fun y3 h => (Ev.ofBif h (fun h => (Ev.ofSome h)) (fun h => (Ev.ofBind h fun y4 h => (Ev.ofBif h (fun h => (Ev.ofSome h)) (fun h => (S_impl_LinkPolicy_1_4 h))))))))))) (fun h => (Ev.ofBif h (fun h => (Ev.ofBif h (fun h => (Ev.ofBind h fun y6 h => (Ev.ofBif h (fun h => (Ev.ofSome h)) (fun h => (Ev.ofBind h fun y7 h => (Ev.ofBif h (fun h => (Ev.ofSome h)) (fun h => (Ev.ofBind h fun y8 h => (Ev.ofBif h (fun h => (Ev.ofSome h)) (fun h => (S_impl_LinkPolicy_1_4 h))))))))))) (fun h => (Ev.ofBif h (fun h => (Ev.ofSome h)) (fun h => (Ev.ofBind h fun y9 h => (Ev.ofBif h (fun h => (Ev.ofSome h)) (fun h => (Ev.ofBind h fun y10 h => (Ev.ofBif h (fun h => (Ev.ofSome h)) (fun h => (Ev.ofBind h fun y11 h => (Ev.ofBif h (fun h => (Ev.ofSome h)) (fun h => (S_impl_LinkPolicy_1_4 h))))))))))))))) (fun h => (Ev.ofBind h fun y12 h => (Ev.ofBif h (fun h => (Ev.ofSome h)) (fun h => (Ev.ofBind h fun y13 h => (Ev.ofBif h (fun h => (Ev.ofSome h)) (fun h => (Ev.ofBind h fun y14 h => (Ev.ofBif h (fun h => (Ev.ofSome h)) (fun h => (S_impl_LinkPolicy_1_4 h)))))))))))))))))
theorem hcs_impl_LinkPolicy (g0 : (List (List Int))) : ∀ x ∈ cs_impl_LinkPolicy g0, CtrOkG Tryd.prog (glOf [(0, explode (.list .str) g0)]) x := (conOf_cons (ok_impl_GoodPolicy g0) (conOf_cons ok_impl_ygoodId.any (conOf_cons ok_impl_ygoodRef.any (conOf_cons ok_impl_LinkPolicy_2.any (conOf_cons ok_impl_Expr.any conOf_nil)))))
theorem ok_impl_LinkPolicy (g0 : (List (List Int))) : CtrOkG Tryd.prog (glOf [(0, explode (.list .str) g0)]) (c_impl_LinkPolicy g0) := by
  refine ctr_of_run (c := c_impl_LinkPolicy g0) (by kernel_rfl) (by kernel_rfl : Tryd.prog.funcs[10]? = some Tryd.f10) (code := Tryd.f10.body.getD .skip) (by kernel_rfl) (by kernel_rfl) (by kernel_rfl) (A := A_impl_LinkPolicy) (I := In_impl_LinkPolicy) (hcs_impl_LinkPolicy g0) ?_
  rintro ⟨a0, a1, a2, a3, u⟩ y hy
  exact (S_impl_LinkPolicy a0 a1 a2 a3 hy).get

/-! ## laws.toAtom (9) -/
noncomputable def c_laws_toAtom : Ctr := ⟨9, [TyAtom], [TyAtom], fun x => toC TyAtom x.1⟩
def A_laws_toAtom : List (List Nat × Ann) := []
def In_laws_toAtom : List (List Nat × Nat) := []
noncomputable def cs_laws_toAtom : List Ctr := []
noncomputable def F_laws_toAtom (n : Nat) (a0 : DAtom) : Option DAtom := run Tryd.prog A_laws_toAtom In_laws_toAtom (conOf cs_laws_toAtom) Tryd.f9 (Tryd.f9.body.getD .skip) (packT [TyAtom]) n (argsV [TyAtom] (a0, ()))
theorem F_laws_toAtom_eq (n : Nat) (a0 : DAtom) : F_laws_toAtom n a0 =
    some a0 := by kernel_rfl
theorem mk_laws_toAtom (hcs : ∀ x ∈ cs_laws_toAtom, CtrOk Tryd.prog x) (h : ∀ (a0 : DAtom) y, toC TyAtom a0 = some y → ∃ n, F_laws_toAtom n a0 = some y) : CtrOk Tryd.prog c_laws_toAtom := by
  refine ctr_of_run (c := c_laws_toAtom) (by kernel_rfl) (by kernel_rfl : Tryd.prog.funcs[9]? = some Tryd.f9) (code := Tryd.f9.body.getD .skip) (by kernel_rfl) (by kernel_rfl) (by kernel_rfl) (A := A_laws_toAtom) (I := In_laws_toAtom) hcs ?_
  rintro ⟨a0, u⟩ y hy
  exact h a0 y hy

theorem hcs_laws_toAtom : ∀ x ∈ cs_laws_toAtom, CtrOk Tryd.prog x := conOf_nil
theorem ok_laws_toAtom : CtrOk Tryd.prog c_laws_toAtom := mk_laws_toAtom hcs_laws_toAtom fun a0 y hy => by
  obtain ⟨hw, hs, rfl⟩ := toC_inv hy
  have hw2 : wfD I64 y.1 ∧ wfD I64 y.2.1 ∧ wfD .str y.2.2.1 ∧ wfD .str y.2.2.2 := hw
  have hs2 : Ty.size I64 y.1 + (Ty.size I64 y.2.1 + (Ty.size .str y.2.2.1 + (Ty.size .str y.2.2.2))) ≤ 1073741824 := hs
  refine ⟨0, ?_⟩
  rw [F_laws_toAtom_eq]
  try rfl
/-! ## laws.toHead (30) -/
noncomputable def c_laws_toHead : Ctr := ⟨30, [TyHead], [TyHead], fun x => toC TyHead x.1⟩
def A_laws_toHead : List (List Nat × Ann) := []
def In_laws_toHead : List (List Nat × Nat) := []
noncomputable def cs_laws_toHead : List Ctr := [c_laws_toAtom]
noncomputable def F_laws_toHead (n : Nat) (a0 : DHead) : Option DHead := run Tryd.prog A_laws_toHead In_laws_toHead (conOf cs_laws_toHead) Tryd.f30 (Tryd.f30.body.getD .skip) (packT [TyHead]) n (argsV [TyHead] (a0, ()))
theorem F_laws_toHead_eq (n : Nat) (a0 : DHead) : F_laws_toHead n a0 =
    Option.bind (toC TyAtom a0.2.1) fun (y1 : DAtom) =>
    some (a0.1, y1, a0.2.2) := by kernel_rfl
theorem mk_laws_toHead (hcs : ∀ x ∈ cs_laws_toHead, CtrOk Tryd.prog x) (h : ∀ (a0 : DHead) y, toC TyHead a0 = some y → ∃ n, F_laws_toHead n a0 = some y) : CtrOk Tryd.prog c_laws_toHead := by
  refine ctr_of_run (c := c_laws_toHead) (by kernel_rfl) (by kernel_rfl : Tryd.prog.funcs[30]? = some Tryd.f30) (code := Tryd.f30.body.getD .skip) (by kernel_rfl) (by kernel_rfl) (by kernel_rfl) (A := A_laws_toHead) (I := In_laws_toHead) hcs ?_
  rintro ⟨a0, u⟩ y hy
  exact h a0 y hy

theorem hcs_laws_toHead : ∀ x ∈ cs_laws_toHead, CtrOk Tryd.prog x := (conOf_cons ok_laws_toAtom conOf_nil)
theorem ok_laws_toHead : CtrOk Tryd.prog c_laws_toHead := mk_laws_toHead hcs_laws_toHead fun a0 y hy => by
  obtain ⟨hw, hs, rfl⟩ := toC_inv hy
  have hw2 : wfD I64 y.1 ∧ wfD TyAtom y.2.1 ∧ wfD .str y.2.2 := hw
  have hs2 : Ty.size I64 y.1 + (Ty.size TyAtom y.2.1 + (Ty.size .str y.2.2)) ≤ 1073741824 := hs
  refine ⟨0, ?_⟩
  rw [F_laws_toHead_eq]
  try (rw [toC_some hw2.2.1 (by omega)]; simp only [Option.bind_some])
  try rfl
/-! ## laws.toExpr (77) -/
noncomputable def c_laws_toExpr : Ctr := ⟨77, [TyExpr], [TyExpr], fun x => toC TyExpr x.1⟩
def A_laws_toExpr : List (List Nat × Ann) := []
def In_laws_toExpr : List (List Nat × Nat) := []
noncomputable def cs_laws_toExpr : List Ctr := [c_laws_toAtom]
noncomputable def F_laws_toExpr (n : Nat) (a0 : DExpr) : Option DExpr := run Tryd.prog A_laws_toExpr In_laws_toExpr (conOf cs_laws_toExpr) Tryd.f77 (Tryd.f77.body.getD .skip) (packT [TyExpr]) n (argsV [TyExpr] (a0, ()))
theorem F_laws_toExpr_eq (n : Nat) (a0 : DExpr) : F_laws_toExpr n a0 =
    Option.bind (toC TyAtom a0.2.2.1) fun (y1 : DAtom) =>
    some (a0.1, a0.2.1, y1, a0.2.2.2) := by kernel_rfl
theorem mk_laws_toExpr (hcs : ∀ x ∈ cs_laws_toExpr, CtrOk Tryd.prog x) (h : ∀ (a0 : DExpr) y, toC TyExpr a0 = some y → ∃ n, F_laws_toExpr n a0 = some y) : CtrOk Tryd.prog c_laws_toExpr := by
  refine ctr_of_run (c := c_laws_toExpr) (by kernel_rfl) (by kernel_rfl : Tryd.prog.funcs[77]? = some Tryd.f77) (code := Tryd.f77.body.getD .skip) (by kernel_rfl) (by kernel_rfl) (by kernel_rfl) (A := A_laws_toExpr) (I := In_laws_toExpr) hcs ?_
  rintro ⟨a0, u⟩ y hy
  exact h a0 y hy

theorem hcs_laws_toExpr : ∀ x ∈ cs_laws_toExpr, CtrOk Tryd.prog x := (conOf_cons ok_laws_toAtom conOf_nil)
theorem ok_laws_toExpr : CtrOk Tryd.prog c_laws_toExpr := mk_laws_toExpr hcs_laws_toExpr fun a0 y hy => by
  obtain ⟨hw, hs, rfl⟩ := toC_inv hy
  have hw2 : wfD I64 y.1 ∧ wfD .str y.2.1 ∧ wfD TyAtom y.2.2.1 ∧ wfD I64 y.2.2.2 := hw
  have hs2 : Ty.size I64 y.1 + (Ty.size .str y.2.1 + (Ty.size TyAtom y.2.2.1 + (Ty.size I64 y.2.2.2))) ≤ 1073741824 := hs
  refine ⟨0, ?_⟩
  rw [F_laws_toExpr_eq]
  try (rw [toC_some hw2.2.2.1 (by omega)]; simp only [Option.bind_some])
  try rfl
/-! ## laws.toExprS (31) -/
noncomputable def c_laws_toExprS : Ctr := ⟨31, [(.list TyExpr)], [(.list TyExpr)], fun x => toC (.list TyExpr) x.1⟩
def A_laws_toExprS : List (List Nat × Ann) := [([0, 3], [.keep 0 0, .keep 0 3, .keep 0 4, .rows 0 7 TyExpr])]
def In_laws_toExprS : List (List Nat × Nat) := []
noncomputable def cs_laws_toExprS : List Ctr := [c_laws_toExpr]
noncomputable def F_laws_toExprS (n : Nat) (a0 : (List DExpr)) : Option (List DExpr) := run Tryd.prog A_laws_toExprS In_laws_toExprS (conOf cs_laws_toExprS) Tryd.f31 (Tryd.f31.body.getD .skip) (packT [(.list TyExpr)]) n (argsV [(.list TyExpr)] (a0, ()))
noncomputable abbrev L_laws_toExprS_0_3 (n : Nat) (x1 : (List DExpr)) (x2 : Int) (x3 : (List DExpr)) : Option (List DExpr) := lam Tryd.prog A_laws_toExprS In_laws_toExprS (conOf cs_laws_toExprS) Tryd.f31 (Tryd.f31.body.getD .skip) (packT [(.list TyExpr)]) n [0, 3] [.d (.list TyExpr) x1, .msl 0 7, .d I64 x2, .d (.list TyExpr) x3]
theorem F_laws_toExprS_eq (n : Nat) (a0 : (List DExpr)) : F_laws_toExprS n a0 =
    bif decide ((a0.length : Int) = (a0.length : Int)) && decide ((0 : Int) ≤ (a0.length : Int)) && decide ((a0.length : Int) * 80 ≤ room) && true then
      L_laws_toExprS_0_3 n a0 0 (List.replicate (Int.toNat (a0.length : Int)) (0, ([] : List Int), (0, 0, ([] : List Int), ([] : List Int)), 0))
    else none := by kernel_rfl
theorem L_laws_toExprS_0_3_eq (n : Nat) (x1 : (List DExpr)) (x2 : Int) (x3 : (List DExpr)) : L_laws_toExprS_0_3 (n + 1) x1 x2 x3 =
    bif decide (x2 < (x1.length : Int)) then
      bif inB x2 x1.length then
        Option.bind (toC TyExpr (rd x1 x2 (Ty.dflt TyExpr))) fun (y1 : DExpr) =>
        bif inB x2 x3.length then
          bif inB x2 x3.length && true && true && true && true then
            L_laws_toExprS_0_3 n x1 (IntKind.wrap .i64 (x2 + 1)) (x3.set (Int.toNat x2) y1)
          else none
        else none
      else none
    else
      some x3 := by kernel_rfl
theorem mk_laws_toExprS (hcs : ∀ x ∈ cs_laws_toExprS, CtrOk Tryd.prog x) (h : ∀ (a0 : (List DExpr)) y, toC (.list TyExpr) a0 = some y → ∃ n, F_laws_toExprS n a0 = some y) : CtrOk Tryd.prog c_laws_toExprS := by
  refine ctr_of_run (c := c_laws_toExprS) (by kernel_rfl) (by kernel_rfl : Tryd.prog.funcs[31]? = some Tryd.f31) (code := Tryd.f31.body.getD .skip) (by kernel_rfl) (by kernel_rfl) (by kernel_rfl) (A := A_laws_toExprS) (I := In_laws_toExprS) hcs ?_
  rintro ⟨a0, u⟩ y hy
  exact h a0 y hy

theorem hcs_laws_toExprS : ∀ x ∈ cs_laws_toExprS, CtrOk Tryd.prog x := (conOf_cons ok_laws_toExpr conOf_nil)
theorem ok_laws_toExprS : CtrOk Tryd.prog c_laws_toExprS := mk_laws_toExprS hcs_laws_toExprS fun a0 y hy => by
  obtain ⟨n, hn⟩ := toS_ok (t := TyExpr) (f := toC TyExpr) (fun x h h2 => toC_some h h2) (by_ := 80) (by omega) (fun n xs i out => L_laws_toExprS_0_3_eq n xs i out) hy
  exact ⟨n, (F_laws_toExprS_eq n a0).trans hn⟩
/-! ## laws.toPolicy (8) -/
noncomputable def c_laws_toPolicy : Ctr := ⟨8, [TyPolicy], [TyPolicy], fun x => toC TyPolicy x.1⟩
def A_laws_toPolicy : List (List Nat × Ann) := []
def In_laws_toPolicy : List (List Nat × Nat) := []
noncomputable def cs_laws_toPolicy : List Ctr := [c_laws_toHead, c_laws_toExprS]
noncomputable def F_laws_toPolicy (n : Nat) (a0 : DPolicy) : Option DPolicy := run Tryd.prog A_laws_toPolicy In_laws_toPolicy (conOf cs_laws_toPolicy) Tryd.f8 (Tryd.f8.body.getD .skip) (packT [TyPolicy]) n (argsV [TyPolicy] (a0, ()))
theorem F_laws_toPolicy_eq (n : Nat) (a0 : DPolicy) : F_laws_toPolicy n a0 =
    Option.bind (toC TyHead a0.2.2.1) fun (y1 : DHead) =>
    Option.bind (toC TyHead a0.2.2.2.1) fun (y2 : DHead) =>
    Option.bind (toC TyHead a0.2.2.2.2.1) fun (y3 : DHead) =>
    Option.bind (toC (.list TyExpr) a0.2.2.2.2.2) fun (y4 : (List DExpr)) =>
    some (a0.1, a0.2.1, y1, y2, y3, y4) := by kernel_rfl
theorem mk_laws_toPolicy (hcs : ∀ x ∈ cs_laws_toPolicy, CtrOk Tryd.prog x) (h : ∀ (a0 : DPolicy) y, toC TyPolicy a0 = some y → ∃ n, F_laws_toPolicy n a0 = some y) : CtrOk Tryd.prog c_laws_toPolicy := by
  refine ctr_of_run (c := c_laws_toPolicy) (by kernel_rfl) (by kernel_rfl : Tryd.prog.funcs[8]? = some Tryd.f8) (code := Tryd.f8.body.getD .skip) (by kernel_rfl) (by kernel_rfl) (by kernel_rfl) (A := A_laws_toPolicy) (I := In_laws_toPolicy) hcs ?_
  rintro ⟨a0, u⟩ y hy
  exact h a0 y hy

theorem hcs_laws_toPolicy : ∀ x ∈ cs_laws_toPolicy, CtrOk Tryd.prog x := (conOf_cons ok_laws_toHead (conOf_cons ok_laws_toExprS conOf_nil))
theorem ok_laws_toPolicy : CtrOk Tryd.prog c_laws_toPolicy := mk_laws_toPolicy hcs_laws_toPolicy fun a0 y hy => by
  obtain ⟨hw, hs, rfl⟩ := toC_inv hy
  have hw2 : wfD .str y.1 ∧ wfD .bool y.2.1 ∧ wfD TyHead y.2.2.1 ∧ wfD TyHead y.2.2.2.1 ∧ wfD TyHead y.2.2.2.2.1 ∧ wfD (.list TyExpr) y.2.2.2.2.2 := hw
  have hs2 : Ty.size .str y.1 + (Ty.size .bool y.2.1 + (Ty.size TyHead y.2.2.1 + (Ty.size TyHead y.2.2.2.1 + (Ty.size TyHead y.2.2.2.2.1 + (Ty.size (.list TyExpr) y.2.2.2.2.2))))) ≤ 1073741824 := hs
  refine ⟨0, ?_⟩
  rw [F_laws_toPolicy_eq]
  try (rw [toC_some hw2.2.2.1 (by omega)]; simp only [Option.bind_some])
  try (rw [toC_some hw2.2.2.2.1 (by omega)]; simp only [Option.bind_some])
  try (rw [toC_some hw2.2.2.2.2.1 (by omega)]; simp only [Option.bind_some])
  try (rw [toC_some hw2.2.2.2.2.2 (by omega)]; simp only [Option.bind_some])
  try rfl
/-! ## laws.toExprS (31) -/
noncomputable def cd_laws_toExprS : Ctr := deepOf 31 [(.list TyExpr)] [(.list TyExpr)] fun x => toC (.list TyExpr) x.1
def Ap_laws_toExprS : List (List Nat × Ann) := [([0, 3], [.keep 0 0, .drb 0 3 TyExpr, .keep 0 4])]
def Inp_laws_toExprS : List (List Nat × Nat) := [([1002], 0)]
noncomputable def csp_laws_toExprS : List Ctr := [c_laws_toExpr]
noncomputable def Fp_laws_toExprS (n : Nat) (a0 : (List DExpr)) : Option (List DExpr) := runE Tryd.prog noG Ap_laws_toExprS Inp_laws_toExprS (conOf csp_laws_toExprS) Tryd.f31 (Tryd.f31.body.getD .skip) (endP Tryd.prog Tryd.f31 [(.list TyExpr)]) n (argsV [(.list TyExpr)] (a0, ()))
noncomputable abbrev Lp_laws_toExprS_0_3 (n : Nat) (x1 : (List DExpr)) (x2 : (List DExpr)) (x3 : Int) : Option (List DExpr) := lamE Tryd.prog noG Ap_laws_toExprS Inp_laws_toExprS (conOf csp_laws_toExprS) Tryd.f31 (Tryd.f31.body.getD .skip) (endP Tryd.prog Tryd.f31 [(.list TyExpr)]) n [0, 3] [.d (.list TyExpr) x1, .d (.list TyExpr) x2, .d I64 x3]
theorem Fp_laws_toExprS_eq (n : Nat) (a0 : (List DExpr)) : Fp_laws_toExprS n a0 =
    bif decide ((a0.length : Int) = (a0.length : Int)) && decide ((0 : Int) ≤ (a0.length : Int)) && decide ((a0.length : Int) * 80 ≤ room) && true && true && true then
      Lp_laws_toExprS_0_3 n a0 (List.replicate (Int.toNat (a0.length : Int)) (0, ([] : List Int), (0, 0, ([] : List Int), ([] : List Int)), 0)) 0
    else none := by kernel_rfl
theorem Lp_laws_toExprS_0_3_eq (n : Nat) (x1 : (List DExpr)) (x2 : (List DExpr)) (x3 : Int) : Lp_laws_toExprS_0_3 (n + 1) x1 x2 x3 =
    bif decide (x3 < (x1.length : Int)) then
      bif inB x3 x1.length then
        Option.bind (toC TyExpr (rd x1 x3 (Ty.dflt TyExpr))) fun (y1 : DExpr) =>
        bif inB x3 x2.length then
          bif inB x3 x2.length && true && true && true && true && true && true then
            Lp_laws_toExprS_0_3 n x1 (x2.set (Int.toNat x3) y1) (IntKind.wrap .i64 (x3 + 1))
          else none
        else none
      else none
    else
      some x2 := by kernel_rfl
theorem hcsp_laws_toExprS : ∀ x ∈ csp_laws_toExprS, CtrOk Tryd.prog x := (conOf_cons ok_laws_toExpr conOf_nil)
theorem okd_laws_toExprS : CtrOk Tryd.prog cd_laws_toExprS := by
  refine ctr_of_deep (by kernel_rfl) (by kernel_rfl : Tryd.prog.funcs[31]? = some Tryd.f31) (code := Tryd.f31.body.getD .skip) (by kernel_rfl) (by kernel_rfl) (A := Ap_laws_toExprS) (I := Inp_laws_toExprS) hcsp_laws_toExprS ?_
  rintro ⟨a0, u⟩ y hy
  obtain ⟨n, hn⟩ := toD_ok (t := TyExpr) (f := toC TyExpr) (fun x h h2 => toC_some h h2) (L := fun n xs i out => Lp_laws_toExprS_0_3 n xs out i) (by_ := 80) (by omega) (fun n xs i out => Lp_laws_toExprS_0_3_eq n xs out i) hy
  exact ⟨n, (Fp_laws_toExprS_eq n a0).trans hn⟩

/-! ## laws.toPolicy (8) -/
noncomputable def cd_laws_toPolicy : Ctr := deepOf 8 [TyPolicy] [TyPolicy] fun x => toC TyPolicy x.1
def Ap_laws_toPolicy : List (List Nat × Ann) := []
def Inp_laws_toPolicy : List (List Nat × Nat) := [([7002], 2000031)]
noncomputable def csp_laws_toPolicy : List Ctr := [c_laws_toHead, cd_laws_toExprS]
noncomputable def Fp_laws_toPolicy (n : Nat) (a0 : DPolicy) : Option DPolicy := runE Tryd.prog noG Ap_laws_toPolicy Inp_laws_toPolicy (conOf csp_laws_toPolicy) Tryd.f8 (Tryd.f8.body.getD .skip) (endP Tryd.prog Tryd.f8 [TyPolicy]) n (argsV [TyPolicy] (a0, ()))
theorem Fp_laws_toPolicy_eq (n : Nat) (a0 : DPolicy) : Fp_laws_toPolicy n a0 =
    Option.bind (toC TyHead a0.2.2.1) fun (y1 : DHead) =>
    Option.bind (toC TyHead a0.2.2.2.1) fun (y2 : DHead) =>
    Option.bind (toC TyHead a0.2.2.2.2.1) fun (y3 : DHead) =>
    Option.bind (toC (.list TyExpr) a0.2.2.2.2.2) fun (y4 : (List DExpr)) =>
    some (a0.1, a0.2.1, y1, y2, y3, y4) := by kernel_rfl
theorem hcsp_laws_toPolicy : ∀ x ∈ csp_laws_toPolicy, CtrOk Tryd.prog x := (conOf_cons ok_laws_toHead (conOf_cons okd_laws_toExprS conOf_nil))
theorem okd_laws_toPolicy : CtrOk Tryd.prog cd_laws_toPolicy := by
  refine ctr_of_deep (by kernel_rfl) (by kernel_rfl : Tryd.prog.funcs[8]? = some Tryd.f8) (code := Tryd.f8.body.getD .skip) (by kernel_rfl) (by kernel_rfl) (A := Ap_laws_toPolicy) (I := Inp_laws_toPolicy) hcsp_laws_toPolicy ?_
  rintro ⟨a0, u⟩ y hy
  obtain ⟨hw, hs, rfl⟩ := toC_inv hy
  have hw2 : wfD .str y.1 ∧ wfD .bool y.2.1 ∧ wfD TyHead y.2.2.1 ∧ wfD TyHead y.2.2.2.1 ∧ wfD TyHead y.2.2.2.2.1 ∧ wfD (.list TyExpr) y.2.2.2.2.2 := hw
  have hs2 : Ty.size .str y.1 + (Ty.size .bool y.2.1 + (Ty.size TyHead y.2.2.1 + (Ty.size TyHead y.2.2.2.1 + (Ty.size TyHead y.2.2.2.2.1 + (Ty.size (.list TyExpr) y.2.2.2.2.2))))) ≤ 1073741824 := hs
  refine ⟨0, ?_⟩
  show Fp_laws_toPolicy 0 y = some y
  rw [Fp_laws_toPolicy_eq]
  try (rw [toC_some hw2.2.2.1 (by omega)]; simp only [Option.bind_some])
  try (rw [toC_some hw2.2.2.2.1 (by omega)]; simp only [Option.bind_some])
  try (rw [toC_some hw2.2.2.2.2.1 (by omega)]; simp only [Option.bind_some])
  try (rw [toC_some hw2.2.2.2.2.2 (by omega)]; simp only [Option.bind_some])
  try rfl

/-! ## impl.Expr] (37) -/
noncomputable def co_impl_Expr : Ctr := ownOf 37 [(.list TyExpr)] TyExpr fun x => P_impl_Expr x.1
def Ao_impl_Expr : List (List Nat × Ann) := []
def Ino_impl_Expr : List (List Nat × Nat) := []
noncomputable def cso_impl_Expr : List Ctr := []
noncomputable def Fo_impl_Expr (n : Nat) (a0 : (List DExpr)) : Option (List DExpr) := runE Tryd.prog noG Ao_impl_Expr Ino_impl_Expr (conOf cso_impl_Expr) Tryd.f37 (Tryd.f37.body.getD .skip) (endO Tryd.prog Tryd.f37 TyExpr) n (argsV [(.list TyExpr)] (a0, ()))
theorem Fo_impl_Expr_eq (n : Nat) (a0 : (List DExpr)) : Fo_impl_Expr n a0 =
    bif decide (0 < a0.length) then
      bif decide (((([] : List DExpr).length : Int) + (a0.length : Int)) * 80 ≤ room) && decide ((([] : List DExpr).length : Int) + (a0.length : Int) ≤ room) then
        some (([] : List DExpr) ++ a0)
      else none
    else
      both
        (some ([]))
        (bif decide (((([] : List DExpr).length : Int) + (a0.length : Int)) * 80 ≤ room) && decide ((([] : List DExpr).length : Int) + (a0.length : Int) ≤ room) then
          some (([] : List DExpr) ++ a0)
        else none) := by kernel_rfl
theorem So_impl_Expr (a0 : (List DExpr)) {r : (List DExpr)} (h : P_impl_Expr a0 = some r) : Ev (fun n => Fo_impl_Expr n a0) r := by
  rw [P_impl_Expr] at h
  refine Ev.of_eq ?_ (fun n => Fo_impl_Expr_eq n a0)
  exact (Ev.ofBif h (fun h => (Ev.ofBif h (fun h => (Ev.ofSome h)) (fun h => (Ev.ofNone h)))) (fun h => (Ev.ofBoth h (fun h => (Ev.ofSome h)) (fun h => (Ev.ofBif h (fun h => (Ev.ofSome h)) (fun h => (Ev.ofNone h)))))))
theorem hcso_impl_Expr : ∀ x ∈ cso_impl_Expr, CtrOk Tryd.prog x := conOf_nil
theorem oko_impl_Expr : CtrOk Tryd.prog (co_impl_Expr) := by
  refine ctr_of_own (by kernel_rfl) (by kernel_rfl : Tryd.prog.funcs[37]? = some Tryd.f37) (code := Tryd.f37.body.getD .skip) (by kernel_rfl) (by kernel_rfl) (A := Ao_impl_Expr) (I := Ino_impl_Expr) (hcso_impl_Expr) ?_
  rintro ⟨a0, u⟩ y hy
  exact (So_impl_Expr a0 hy).get

noncomputable def cd_impl_Expr : Ctr := deepOf 37 [(.list TyExpr)] [(.list TyExpr)] fun x => P_impl_Expr x.1
theorem okd_impl_Expr : CtrOk Tryd.prog (cd_impl_Expr) := deep_of_own (by kernel_rfl) (by kernel_rfl) oko_impl_Expr

/-! ## impl.LinkPolicy (10) -/
noncomputable def cd_impl_LinkPolicy (g0 : (List (List Int))) : Ctr := deepOf 10 [TyPolicy, .str, TyAtom, TyAtom] [TyPolicy, .bool] fun x => P_impl_LinkPolicy g0 x.1 x.2.1 x.2.2.1 x.2.2.2.1
def Ap_impl_LinkPolicy : List (List Nat × Ann) := [([1, 4], [.keep 0 1, .keep 0 4, .keep 0 6, .keep 0 7, .keep 0 8, .boxd 0 4 TyPolicy, .boxd 0 6 TyAtom, .boxd 0 7 TyAtom, .boxd 0 8 TyPolicy])]
def Inp_impl_LinkPolicy : List (List Nat × Nat) := [([2007], 32), ([5013], 2000037), ([2013], 32)]
noncomputable def csp_impl_LinkPolicy (g0 : (List (List Int))) : List Ctr := [(c_impl_GoodPolicy g0), c_impl_ygoodId, c_impl_ygoodRef, c_impl_LinkPolicy_2, cd_impl_Expr]
noncomputable def Fp_impl_LinkPolicy (g0 : (List (List Int))) (n : Nat) (a0 : DPolicy) (a1 : (List Int)) (a2 : DAtom) (a3 : DAtom) : Option (DPolicy × Bool) := runE Tryd.prog (glOf [(0, explode (.list .str) g0)]) Ap_impl_LinkPolicy Inp_impl_LinkPolicy (conOf (csp_impl_LinkPolicy g0)) Tryd.f10 (Tryd.f10.body.getD .skip) (endP Tryd.prog Tryd.f10 [TyPolicy, .bool]) n (argsV [TyPolicy, .str, TyAtom, TyAtom] (a0, a1, a2, a3, ()))
noncomputable abbrev Lp_impl_LinkPolicy_1_4 (g0 : (List (List Int))) (n : Nat) (x1 : (List Int)) (x2 : DPolicy) (x3 : DAtom) (x4 : DAtom) (x5 : DPolicy) : Option (DPolicy × Bool) := lamE Tryd.prog (glOf [(0, explode (.list .str) g0)]) Ap_impl_LinkPolicy Inp_impl_LinkPolicy (conOf (csp_impl_LinkPolicy g0)) Tryd.f10 (Tryd.f10.body.getD .skip) (endP Tryd.prog Tryd.f10 [TyPolicy, .bool]) n [1, 4] [.d .str x1, .ptr 0 4 0, .ptr 0 6 0, .ptr 0 7 0, .ptr 0 8 0, .agg (explode TyPolicy x2), .agg (explode TyAtom x3), .agg (explode TyAtom x4), .agg (explode TyPolicy x5)]
theorem Fp_impl_LinkPolicy_eq (g0 : (List (List Int))) (n : Nat) (a0 : DPolicy) (a1 : (List Int)) (a2 : DAtom) (a3 : DAtom) : Fp_impl_LinkPolicy g0 n a0 a1 a2 a3 =
    Option.bind (P_impl_GoodPolicy g0 a0) fun (y1 : Bool) =>
    bif !(y1) then
      some ((([] : List Int), false, (0, (0, 0, ([] : List Int), ([] : List Int)), ([] : List Int)), (0, (0, 0, ([] : List Int), ([] : List Int)), ([] : List Int)), (0, (0, 0, ([] : List Int), ([] : List Int)), ([] : List Int)), []), false)
    else
      bif decide (a0.2.2.1.1 = 5) then
        Option.bind (P_impl_ygoodId a1) fun (y2 : Bool) =>
        bif !(y2) then
          some ((([] : List Int), false, (0, (0, 0, ([] : List Int), ([] : List Int)), ([] : List Int)), (0, (0, 0, ([] : List Int), ([] : List Int)), ([] : List Int)), (0, (0, 0, ([] : List Int), ([] : List Int)), ([] : List Int)), []), false)
        else
          Option.bind (P_impl_ygoodRef a2) fun (y3 : Bool) =>
          bif !(y3) then
            some ((([] : List Int), false, (0, (0, 0, ([] : List Int), ([] : List Int)), ([] : List Int)), (0, (0, 0, ([] : List Int), ([] : List Int)), ([] : List Int)), (0, (0, 0, ([] : List Int), ([] : List Int)), ([] : List Int)), []), false)
          else
            Option.bind (P_impl_ygoodRef a3) fun (y4 : Bool) =>
            bif !(y4) then
              some ((([] : List Int), false, (0, (0, 0, ([] : List Int), ([] : List Int)), ([] : List Int)), (0, (0, 0, ([] : List Int), ([] : List Int)), ([] : List Int)), (0, (0, 0, ([] : List Int), ([] : List Int)), ([] : List Int)), []), false)
            else
              Lp_impl_LinkPolicy_1_4 g0 n a1 a0 a2 a3 (([] : List Int), false, (0, (0, 0, ([] : List Int), ([] : List Int)), ([] : List Int)), (0, (0, 0, ([] : List Int), ([] : List Int)), ([] : List Int)), (0, (0, 0, ([] : List Int), ([] : List Int)), ([] : List Int)), [])
      else
        bif !decide (a0.2.2.1.1 = 6) then
          bif decide (a0.2.2.2.2.1.1 = 5) then
            Option.bind (P_impl_ygoodId a1) fun (y6 : Bool) =>
            bif !(y6) then
              some ((([] : List Int), false, (0, (0, 0, ([] : List Int), ([] : List Int)), ([] : List Int)), (0, (0, 0, ([] : List Int), ([] : List Int)), ([] : List Int)), (0, (0, 0, ([] : List Int), ([] : List Int)), ([] : List Int)), []), false)
            else
              Option.bind (P_impl_ygoodRef a2) fun (y7 : Bool) =>
              bif !(y7) then
                some ((([] : List Int), false, (0, (0, 0, ([] : List Int), ([] : List Int)), ([] : List Int)), (0, (0, 0, ([] : List Int), ([] : List Int)), ([] : List Int)), (0, (0, 0, ([] : List Int), ([] : List Int)), ([] : List Int)), []), false)
              else
                Option.bind (P_impl_ygoodRef a3) fun (y8 : Bool) =>
                bif !(y8) then
                  some ((([] : List Int), false, (0, (0, 0, ([] : List Int), ([] : List Int)), ([] : List Int)), (0, (0, 0, ([] : List Int), ([] : List Int)), ([] : List Int)), (0, (0, 0, ([] : List Int), ([] : List Int)), ([] : List Int)), []), false)
                else
                  Lp_impl_LinkPolicy_1_4 g0 n a1 a0 a2 a3 (([] : List Int), false, (0, (0, 0, ([] : List Int), ([] : List Int)), ([] : List Int)), (0, (0, 0, ([] : List Int), ([] : List Int)), ([] : List Int)), (0, (0, 0, ([] : List Int), ([] : List Int)), ([] : List Int)), [])
          else
            bif !decide (a0.2.2.2.2.1.1 = 6) then
              some ((([] : List Int), false, (0, (0, 0, ([] : List Int), ([] : List Int)), ([] : List Int)), (0, (0, 0, ([] : List Int), ([] : List Int)), ([] : List Int)), (0, (0, 0, ([] : List Int), ([] : List Int)), ([] : List Int)), []), false)
            else
              Option.bind (P_impl_ygoodId a1) fun (y9 : Bool) =>
              bif !(y9) then
                some ((([] : List Int), false, (0, (0, 0, ([] : List Int), ([] : List Int)), ([] : List Int)), (0, (0, 0, ([] : List Int), ([] : List Int)), ([] : List Int)), (0, (0, 0, ([] : List Int), ([] : List Int)), ([] : List Int)), []), false)
              else
                Option.bind (P_impl_ygoodRef a2) fun (y10 : Bool) =>
                bif !(y10) then
                  some ((([] : List Int), false, (0, (0, 0, ([] : List Int), ([] : List Int)), ([] : List Int)), (0, (0, 0, ([] : List Int), ([] : List Int)), ([] : List Int)), (0, (0, 0, ([] : List Int), ([] : List Int)), ([] : List Int)), []), false)
                else
                  Option.bind (P_impl_ygoodRef a3) fun (y11 : Bool) =>
                  bif !(y11) then
                    some ((([] : List Int), false, (0, (0, 0, ([] : List Int), ([] : List Int)), ([] : List Int)), (0, (0, 0, ([] : List Int), ([] : List Int)), ([] : List Int)), (0, (0, 0, ([] : List Int), ([] : List Int)), ([] : List Int)), []), false)
                  else
                    Lp_impl_LinkPolicy_1_4 g0 n a1 a0 a2 a3 (([] : List Int), false, (0, (0, 0, ([] : List Int), ([] : List Int)), ([] : List Int)), (0, (0, 0, ([] : List Int), ([] : List Int)), ([] : List Int)), (0, (0, 0, ([] : List Int), ([] : List Int)), ([] : List Int)), [])
        else
          Option.bind (P_impl_ygoodId a1) fun (y12 : Bool) =>
          bif !(y12) then
            some ((([] : List Int), false, (0, (0, 0, ([] : List Int), ([] : List Int)), ([] : List Int)), (0, (0, 0, ([] : List Int), ([] : List Int)), ([] : List Int)), (0, (0, 0, ([] : List Int), ([] : List Int)), ([] : List Int)), []), false)
          else
            Option.bind (P_impl_ygoodRef a2) fun (y13 : Bool) =>
            bif !(y13) then
              some ((([] : List Int), false, (0, (0, 0, ([] : List Int), ([] : List Int)), ([] : List Int)), (0, (0, 0, ([] : List Int), ([] : List Int)), ([] : List Int)), (0, (0, 0, ([] : List Int), ([] : List Int)), ([] : List Int)), []), false)
            else
              Option.bind (P_impl_ygoodRef a3) fun (y14 : Bool) =>
              bif !(y14) then
                some ((([] : List Int), false, (0, (0, 0, ([] : List Int), ([] : List Int)), ([] : List Int)), (0, (0, 0, ([] : List Int), ([] : List Int)), ([] : List Int)), (0, (0, 0, ([] : List Int), ([] : List Int)), ([] : List Int)), []), false)
              else
                Lp_impl_LinkPolicy_1_4 g0 n a1 a0 a2 a3 (([] : List Int), false, (0, (0, 0, ([] : List Int), ([] : List Int)), ([] : List Int)), (0, (0, 0, ([] : List Int), ([] : List Int)), ([] : List Int)), (0, (0, 0, ([] : List Int), ([] : List Int)), ([] : List Int)), []) := by kernel_rfl
theorem Lp_impl_LinkPolicy_1_4_eq (g0 : (List (List Int))) (n : Nat) (x1 : (List Int)) (x2 : DPolicy) (x3 : DAtom) (x4 : DAtom) (x5 : DPolicy) : Lp_impl_LinkPolicy_1_4 g0 (n + 1) x1 x2 x3 x4 x5 =
    Option.bind (P_impl_Expr x2.2.2.2.2.2) fun (y5 : (List DExpr)) =>
    some ((x1, x2.2.1, (T_impl_LinkPolicy_2 x2.2.2.1 x3), x2.2.2.2.1, (T_impl_LinkPolicy_2 x2.2.2.2.2.1 x4), y5), true) := by kernel_rfl
theorem Sp_impl_LinkPolicy_1_4 {g0 : (List (List Int))} {x1 : (List Int)} {x2 : DPolicy} {x3 : DAtom} {x4 : DAtom} {x5 : DPolicy} {r : (DPolicy × Bool)} (h : P_impl_LinkPolicy_1_4 g0 x1 x2 x3 x4 = some r) : Ev (fun n => Lp_impl_LinkPolicy_1_4 g0 n x1 x2 x3 x4 x5) r := by
  rw [P_impl_LinkPolicy_1_4] at h
  refine Ev.step ?_ (fun n => Lp_impl_LinkPolicy_1_4_eq g0 n x1 x2 x3 x4 x5)
  exact (Ev.ofBind h fun y5 h => (Ev.ofSome h))
theorem Sp_impl_LinkPolicy {g0 : (List (List Int))} (a0 : DPolicy) (a1 : (List Int)) (a2 : DAtom) (a3 : DAtom) {r : (DPolicy × Bool)} (h : P_impl_LinkPolicy g0 a0 a1 a2 a3 = some r) : Ev (fun n => Fp_impl_LinkPolicy g0 n a0 a1 a2 a3) r := by
  rw [P_impl_LinkPolicy] at h
  refine Ev.of_eq ?_ (fun n => Fp_impl_LinkPolicy_eq g0 n a0 a1 a2 a3)
  exact (Ev.ofBind h fun y1 h => (Ev.ofBif h (fun h => (Ev.ofSome h)) (fun h => (Ev.ofBif h (fun h => (Ev.ofBind h fun y2 h => (Ev.ofBif h (fun h => (Ev.ofSome h)) (fun h => (Ev.ofBind h fun y3 h => (Ev.ofBif h (fun h => (Ev.ofSome h)) (fun h => (Ev.ofBind h fun y4 h => (Ev.ofBif h (fun h => (Ev.ofSome h)) (fun h => (Sp_impl_LinkPolicy_1_4 h))))))))))) (fun h => (Ev.ofBif h (fun h => (Ev.ofBif h (fun h => (Ev.ofBind h fun y6 h => (Ev.ofBif h (fun h => (Ev.ofSome h)) (fun h => (Ev.ofBind h fun y7 h => (Ev.ofBif h (fun h => (Ev.ofSome h)) (fun h => (Ev.ofBind h fun y8 h => (Ev.ofBif h (fun h => (Ev.ofSome h)) (fun h => (Sp_impl_LinkPolicy_1_4 h))))))))))) (fun h => (Ev.ofBif h (fun h => (Ev.ofSome h)) (fun h => (Ev.ofBind h fun y9 h => (Ev.ofBif h (fun h => (Ev.ofSome h)) (fun h => (Ev.ofBind h fun y10 h => (Ev.ofBif h (fun h => (Ev.ofSome h)) (fun h => (Ev.ofBind h fun y11 h => (Ev.ofBif h (fun h => (Ev.ofSome h)) (fun h => (Sp_impl_LinkPolicy_1_4 h))))))))))))))) (fun h => (Ev.ofBind h fun y12 h => (Ev.ofBif h (fun h => (Ev.ofSome h)) (fun h => (Ev.ofBind h fun y13 h => (Ev.ofBif h (fun h => (Ev.ofSome h)) (fun h => (Ev.ofBind h fun y14 h => (Ev.ofBif h (fun h => (Ev.ofSome h)) (fun h => (Sp_impl_LinkPolicy_1_4 h)))))))))))))))))
theorem hcsp_impl_LinkPolicy (g0 : (List (List Int))) : ∀ x ∈ csp_impl_LinkPolicy g0, CtrOkG Tryd.prog (glOf [(0, explode (.list .str) g0)]) x := (conOf_cons (ok_impl_GoodPolicy g0) (conOf_cons ok_impl_ygoodId.any (conOf_cons ok_impl_ygoodRef.any (conOf_cons ok_impl_LinkPolicy_2.any (conOf_cons okd_impl_Expr.any conOf_nil)))))
theorem okd_impl_LinkPolicy (g0 : (List (List Int))) : CtrOkG Tryd.prog (glOf [(0, explode (.list .str) g0)]) (cd_impl_LinkPolicy g0) := by
  refine ctr_of_deep (by kernel_rfl) (by kernel_rfl : Tryd.prog.funcs[10]? = some Tryd.f10) (code := Tryd.f10.body.getD .skip) (by kernel_rfl) (by kernel_rfl) (A := Ap_impl_LinkPolicy) (I := Inp_impl_LinkPolicy) (hcsp_impl_LinkPolicy g0) ?_
  rintro ⟨a0, a1, a2, a3, u⟩ y hy
  exact (Sp_impl_LinkPolicy a0 a1 a2 a3 hy).get

/-! ## laws.markText (66) -/
noncomputable def P_laws_markText_0_4 : Nat → Int → (List Int) → Option (List Int)
  | 0, _, _ => none
  | m + 1, x1, x2 =>
      bif decide ((0 : Int) < x1) then
        bif decide ((([IntKind.wrap .u8 (IntKind.wrap .i64 (48 + (Int.tmod x1 10)))] : List Int).length : Int) ≤ room) then
          bif decide ((([IntKind.wrap .u8 (IntKind.wrap .i64 (48 + (Int.tmod x1 10)))] : List Int).length : Int) + (x2.length : Int) ≤ room) then
            P_laws_markText_0_4 m (IntKind.wrap .i64 (Int.tdiv x1 10)) (([IntKind.wrap .u8 (IntKind.wrap .i64 (48 + (Int.tmod x1 10)))] : List Int) ++ x2)
          else none
        else none
      else
        bif decide ((([109] : List Int).length : Int) + (x2.length : Int) ≤ room) then
          some (([109] : List Int) ++ x2)
        else none
noncomputable def P_laws_markText (m : Nat) (a0 : Int) : Option (List Int) :=
  bif decide (a0 ≤ 0) then
    some ([109, 48] : List Int)
  else
    P_laws_markText_0_4 m a0 ([] : List Int)
noncomputable def E_laws_markText (a0 : Int) : Option (List Int) := evOpt fun m => P_laws_markText m a0
noncomputable def c_laws_markText : Ctr := ⟨66, [I64], [.str], fun x => E_laws_markText x.1⟩
def A_laws_markText : List (List Nat × Ann) := [([0, 4], [.keep 0 0, .keep 0 3])]
def In_laws_markText : List (List Nat × Nat) := []
noncomputable def cs_laws_markText : List Ctr := []
noncomputable def F_laws_markText (n : Nat) (a0 : Int) : Option (List Int) := run Tryd.prog A_laws_markText In_laws_markText (conOf cs_laws_markText) Tryd.f66 (Tryd.f66.body.getD .skip) (packT [.str]) n (argsV [I64] (a0, ()))
noncomputable abbrev L_laws_markText_0_4 (n : Nat) (x1 : Int) (x2 : (List Int)) : Option (List Int) := lam Tryd.prog A_laws_markText In_laws_markText (conOf cs_laws_markText) Tryd.f66 (Tryd.f66.body.getD .skip) (packT [.str]) n [0, 4] [.d I64 x1, .d .str x2]
theorem F_laws_markText_eq (n : Nat) (a0 : Int) : F_laws_markText n a0 =
    bif decide (a0 ≤ 0) then
      some ([109, 48] : List Int)
    else
      L_laws_markText_0_4 n a0 ([] : List Int) := by kernel_rfl
theorem L_laws_markText_0_4_eq (n : Nat) (x1 : Int) (x2 : (List Int)) : L_laws_markText_0_4 (n + 1) x1 x2 =
    bif decide ((0 : Int) < x1) then
      bif decide ((([IntKind.wrap .u8 (IntKind.wrap .i64 (48 + (Int.tmod x1 10)))] : List Int).length : Int) ≤ room) then
        bif decide ((([IntKind.wrap .u8 (IntKind.wrap .i64 (48 + (Int.tmod x1 10)))] : List Int).length : Int) + (x2.length : Int) ≤ room) then
          L_laws_markText_0_4 n (IntKind.wrap .i64 (Int.tdiv x1 10)) (([IntKind.wrap .u8 (IntKind.wrap .i64 (48 + (Int.tmod x1 10)))] : List Int) ++ x2)
        else none
      else none
    else
      bif decide ((([109] : List Int).length : Int) + (x2.length : Int) ≤ room) then
        some (([109] : List Int) ++ x2)
      else none := by kernel_rfl
theorem S_laws_markText_0_4 : ∀ (m : Nat) (x1 : Int) (x2 : (List Int)) (r : (List Int)), P_laws_markText_0_4 m x1 x2 = some r → Ev (fun n => L_laws_markText_0_4 n x1 x2) r := by
  intro m
  induction m with
  | zero => intro x1 x2 r h; rw [P_laws_markText_0_4] at h; exact Ev.ofNone h
  | succ m ih2 =>
    intro x1 x2 r h
    rw [P_laws_markText_0_4] at h
    refine Ev.step ?_ (fun n => L_laws_markText_0_4_eq n x1 x2)
    exact (Ev.ofBif h (fun h => (Ev.ofBif h (fun h => (Ev.ofBif h (fun h => (ih2 _ _ _ h)) (fun h => (Ev.ofNone h)))) (fun h => (Ev.ofNone h)))) (fun h => (Ev.ofBif h (fun h => (Ev.ofSome h)) (fun h => (Ev.ofNone h)))))
theorem S_laws_markText {m : Nat} (a0 : Int) {r : (List Int)} (h : P_laws_markText m a0 = some r) : Ev (fun n => F_laws_markText n a0) r := by
  rw [P_laws_markText] at h
  refine Ev.of_eq ?_ (fun n => F_laws_markText_eq n a0)
  exact (Ev.ofBif h (fun h => (Ev.ofSome h)) (fun h => (S_laws_markText_0_4 _ _ _ _ h)))
theorem hcs_laws_markText : ∀ x ∈ cs_laws_markText, CtrOk Tryd.prog x := conOf_nil
theorem ok_laws_markText : CtrOk Tryd.prog (c_laws_markText) := by
  refine ctr_of_run (c := c_laws_markText) (by kernel_rfl) (by kernel_rfl : Tryd.prog.funcs[66]? = some Tryd.f66) (code := Tryd.f66.body.getD .skip) (by kernel_rfl) (by kernel_rfl) (by kernel_rfl) (A := A_laws_markText) (I := In_laws_markText) (hcs_laws_markText) ?_
  rintro ⟨a0, u⟩ y hy
  exact let ⟨_, h⟩ := (evOpt_get hy).get; (S_laws_markText a0 h).get
theorem markText_l : ∀ (m n : Nat) (acc : List Int), n < m → acc.length + n ≤ 2000000000000 → P_laws_markText_0_4 m (n : Int) acc = some (109 :: (mdig m n ++ acc))
  | 0, n, acc, h, _ => by omega
  | m + 1, n, acc, h, hb => by
    rw [P_laws_markText_0_4]
    by_cases h0 : n = 0
    · subst h0
      rw [decide_eq_false (by omega)]
      simp only [cond_false]
      rw [decide_eq_true (by rw [room_eq]; simp only [List.length_singleton]; omega)]
      simp [mdig]
    · have e1 : Int.tmod (n : Int) 10 = ((n % 10 : Nat) : Int) := by rw [Int.tmod_eq_emod_of_nonneg (by omega)]; omega
      have e2 : Int.tdiv (n : Int) 10 = ((n / 10 : Nat) : Int) := by rw [Int.tdiv_eq_ediv_of_nonneg (by omega)]; omega
      have hd : n % 10 < 10 := Nat.mod_lt _ (by omega)
      rw [decide_eq_true (by omega), e1, e2, wrap64 (x := 48 + ((n % 10 : Nat) : Int)) (by omega), wrap64 (x := ((n / 10 : Nat) : Int)) (by omega), wrap_inK (show inK .u8 (48 + ((n % 10 : Nat) : Int)) = true by rw [inK_iff, min_u8, max_u8]; omega)]
      simp only [cond_true, List.length_singleton]
      rw [decide_eq_true (by rw [room_eq]; omega), decide_eq_true (by rw [room_eq]; omega)]
      simp only [cond_true]
      rw [markText_l m (n / 10) _ (by omega) (by simp; omega)]
      simp [mdig, h0]
theorem mdig_same : ∀ (m m' n : Nat), n < m → n < m' → mdig m n = mdig m' n
  | 0, _, _, h, _ => by omega
  | _, 0, _, _, h => by omega
  | m + 1, m' + 1, n, h, h' => by
    simp only [mdig]
    by_cases h0 : n = 0
    · simp [h0]
    · rw [if_neg h0, if_neg h0, mdig_same m m' (n / 10) (by omega) (by omega)]
theorem p_markText (k : Int) (h0 : 0 ≤ k) (h1 : k ≤ markTop) : E_laws_markText k = some (mtext k) := by
  refine evOpt_of ⟨k.toNat + 1, fun m hm => ?_⟩
  show P_laws_markText m k = some (mtext k)
  rw [P_laws_markText]
  unfold mtext
  by_cases h : k ≤ 0
  · rw [decide_eq_true h, if_pos h]; rfl
  · rw [decide_eq_false h, if_neg h]
    simp only [cond_false]
    have := markText_l m k.toNat [] (by omega) (by unfold markTop at h1; simp; omega)
    rw [Int.toNat_of_nonneg h0] at this
    rw [this, List.append_nil, mdig_same m (k.toNat + 1) k.toNat (by omega) (by omega)]
theorem text_laws_markText : TextOk Tryd.prog 66 := text_ok (by kernel_rfl) ok_laws_markText fun k h0 h1 => p_markText k h0 h1

/-! ## laws.markExprS (40) -/
theorem hot_laws_markExprS : HotOk Tryd.prog 40 (.list TyExpr) := hot_list (tl := 34) (by kernel_rfl : Tryd.prog.funcs[40]? = some Tryd.f40) (c := Tryd.f40.body.getD .skip) (by kernel_rfl) (by kernel_rfl) (gt := (some 66)) (hs := []) (text_some text_laws_markText) hots_nil (by kernel_rfl)
noncomputable def ch_laws_markExprS : Ctr := hotOf 40 (.list TyExpr) fun x => markC (.list TyExpr) x.1 x.2.1
theorem okh_laws_markExprS : CtrOk Tryd.prog ch_laws_markExprS := hot_ctr (by kernel_rfl) (by kernel_rfl) hot_laws_markExprS

/-! ## laws.markPolicy (12) -/
theorem hot_laws_markPolicy : HotOk Tryd.prog 12 TyPolicy := hot_struct (by kernel_rfl : Tryd.prog.funcs[12]? = some Tryd.f12) (c := Tryd.f12.body.getD .skip) (by kernel_rfl) (by kernel_rfl) (gt := none) (hs := [(40, (.list TyExpr))]) text_none (hots_cons hot_laws_markExprS hots_nil) (by kernel_rfl)
noncomputable def ch_laws_markPolicy : Ctr := hotOf 12 TyPolicy fun x => markC TyPolicy x.1 x.2.1
theorem okh_laws_markPolicy : CtrOk Tryd.prog ch_laws_markPolicy := hot_ctr (by kernel_rfl) (by kernel_rfl) hot_laws_markPolicy

/-! ## laws.heldExprS (41) -/
noncomputable def P_laws_heldExprS_0_2 : List DExpr → Int → Option Int
  | [], x2 =>
      some x2
  | e :: rest, x2 =>
      bif !decide ((e).1 = x2) then
        some (-1)
      else
        Option.bind (E_laws_markText (IntKind.wrap .i64 (x2 + 1))) fun (y1 : (List Int)) =>
        bif !decide (((e).2).1 = y1) then
          some (-1)
        else
          bif !decide (((((e).2).2).1).1 = IntKind.wrap .i64 ((IntKind.wrap .i64 (x2 + 1)) + 1)) then
            some (-1)
          else
            bif !decide ((((((e).2).2).1).2).1 = IntKind.wrap .i64 ((IntKind.wrap .i64 ((IntKind.wrap .i64 (x2 + 1)) + 1)) + 1)) then
              some (-1)
            else
              Option.bind (E_laws_markText (IntKind.wrap .i64 ((IntKind.wrap .i64 ((IntKind.wrap .i64 ((IntKind.wrap .i64 (x2 + 1)) + 1)) + 1)) + 1))) fun (y2 : (List Int)) =>
              bif !decide (((((((e).2).2).1).2).2).1 = y2) then
                some (-1)
              else
                Option.bind (E_laws_markText (IntKind.wrap .i64 ((IntKind.wrap .i64 ((IntKind.wrap .i64 ((IntKind.wrap .i64 ((IntKind.wrap .i64 (x2 + 1)) + 1)) + 1)) + 1)) + 1))) fun (y3 : (List Int)) =>
                bif !decide (((((((e).2).2).1).2).2).2 = y3) then
                  some (-1)
                else
                  bif !decide ((((e).2).2).2 = IntKind.wrap .i64 ((IntKind.wrap .i64 ((IntKind.wrap .i64 ((IntKind.wrap .i64 ((IntKind.wrap .i64 ((IntKind.wrap .i64 (x2 + 1)) + 1)) + 1)) + 1)) + 1)) + 1)) then
                    some (-1)
                  else
                    P_laws_heldExprS_0_2 rest (IntKind.wrap .i64 ((IntKind.wrap .i64 ((IntKind.wrap .i64 ((IntKind.wrap .i64 ((IntKind.wrap .i64 ((IntKind.wrap .i64 ((IntKind.wrap .i64 (x2 + 1)) + 1)) + 1)) + 1)) + 1)) + 1)) + 1))
noncomputable def P_laws_heldExprS (a0 : (List DExpr)) (a1 : Int) : Option Int :=
  lenOk a0 (P_laws_heldExprS_0_2 a0 a1)
noncomputable def c_laws_heldExprS : Ctr := ⟨41, [(.list TyExpr), I64], [I64], fun x => P_laws_heldExprS x.1 x.2.1⟩
def A_laws_heldExprS : List (List Nat × Ann) := [([0, 2], [.keep 0 0, .keep 0 1, .keep 0 5])]
def In_laws_heldExprS : List (List Nat × Nat) := []
noncomputable def cs_laws_heldExprS : List Ctr := [c_laws_markText]
noncomputable def F_laws_heldExprS (n : Nat) (a0 : (List DExpr)) (a1 : Int) : Option Int := run Tryd.prog A_laws_heldExprS In_laws_heldExprS (conOf cs_laws_heldExprS) Tryd.f41 (Tryd.f41.body.getD .skip) (packT [I64]) n (argsV [(.list TyExpr), I64] (a0, a1, ()))
noncomputable abbrev L_laws_heldExprS_0_2 (n : Nat) (x1 : (List DExpr)) (x2 : Int) (x3 : Int) : Option Int := lam Tryd.prog A_laws_heldExprS In_laws_heldExprS (conOf cs_laws_heldExprS) Tryd.f41 (Tryd.f41.body.getD .skip) (packT [I64]) n [0, 2] [.d (.list TyExpr) x1, .d I64 x2, .d I64 x3]
theorem F_laws_heldExprS_eq (n : Nat) (a0 : (List DExpr)) (a1 : Int) : F_laws_heldExprS n a0 a1 =
    L_laws_heldExprS_0_2 n a0 a1 0 := by kernel_rfl
theorem L_laws_heldExprS_0_2_eq (n : Nat) (x1 : (List DExpr)) (x2 : Int) (x3 : Int) : L_laws_heldExprS_0_2 (n + 1) x1 x2 x3 =
    bif decide (x3 < (x1.length : Int)) then
      bif inB x3 x1.length then
        bif !decide ((rd x1 x3 (Ty.dflt TyExpr)).1 = x2) then
          some (-1)
        else
          bif inB x3 x1.length then
            Option.bind (E_laws_markText (IntKind.wrap .i64 (x2 + 1))) fun (y1 : (List Int)) =>
            bif !decide (((rd x1 x3 (Ty.dflt TyExpr)).2).1 = y1) then
              some (-1)
            else
              bif inB x3 x1.length then
                bif !decide (((((rd x1 x3 (Ty.dflt TyExpr)).2).2).1).1 = IntKind.wrap .i64 ((IntKind.wrap .i64 (x2 + 1)) + 1)) then
                  some (-1)
                else
                  bif inB x3 x1.length then
                    bif !decide ((((((rd x1 x3 (Ty.dflt TyExpr)).2).2).1).2).1 = IntKind.wrap .i64 ((IntKind.wrap .i64 ((IntKind.wrap .i64 (x2 + 1)) + 1)) + 1)) then
                      some (-1)
                    else
                      bif inB x3 x1.length then
                        Option.bind (E_laws_markText (IntKind.wrap .i64 ((IntKind.wrap .i64 ((IntKind.wrap .i64 ((IntKind.wrap .i64 (x2 + 1)) + 1)) + 1)) + 1))) fun (y2 : (List Int)) =>
                        bif !decide (((((((rd x1 x3 (Ty.dflt TyExpr)).2).2).1).2).2).1 = y2) then
                          some (-1)
                        else
                          bif inB x3 x1.length then
                            Option.bind (E_laws_markText (IntKind.wrap .i64 ((IntKind.wrap .i64 ((IntKind.wrap .i64 ((IntKind.wrap .i64 ((IntKind.wrap .i64 (x2 + 1)) + 1)) + 1)) + 1)) + 1))) fun (y3 : (List Int)) =>
                            bif !decide (((((((rd x1 x3 (Ty.dflt TyExpr)).2).2).1).2).2).2 = y3) then
                              some (-1)
                            else
                              bif inB x3 x1.length then
                                bif !decide ((((rd x1 x3 (Ty.dflt TyExpr)).2).2).2 = IntKind.wrap .i64 ((IntKind.wrap .i64 ((IntKind.wrap .i64 ((IntKind.wrap .i64 ((IntKind.wrap .i64 ((IntKind.wrap .i64 (x2 + 1)) + 1)) + 1)) + 1)) + 1)) + 1)) then
                                  some (-1)
                                else
                                  L_laws_heldExprS_0_2 n x1 (IntKind.wrap .i64 ((IntKind.wrap .i64 ((IntKind.wrap .i64 ((IntKind.wrap .i64 ((IntKind.wrap .i64 ((IntKind.wrap .i64 ((IntKind.wrap .i64 (x2 + 1)) + 1)) + 1)) + 1)) + 1)) + 1)) + 1)) (IntKind.wrap .i64 (x3 + 1))
                              else none
                          else none
                      else none
                  else none
              else none
          else none
      else none
    else
      some x2 := by kernel_rfl
theorem S_laws_heldExprS_0_2 {x1 : (List DExpr)} (hl : x1.length ≤ maxLen) : ∀ (rest : List DExpr) (k : Nat) (x2 : Int) (r : Int), rest = x1.drop k → P_laws_heldExprS_0_2 rest x2 = some r → Ev (fun n => L_laws_heldExprS_0_2 n x1 x2 (k : Int)) r := by
  intro rest
  induction rest with
  | nil =>
    intro k x2 r hr h
    have hk := drop_nil hr
    rw [P_laws_heldExprS_0_2] at h
    refine Ev.step ?_ (fun n => L_laws_heldExprS_0_2_eq n x1 x2 (k : Int))
    rw [show decide ((k : Int) < (x1.length : Int)) = false from decide_eq_false (by omega)]
    exact Ev.neg rfl (Ev.ofSome h)
  | cons e rest ih =>
    intro k x2 r hr h
    obtain ⟨hk, hx, hr2⟩ := drop_cons (d := (Ty.dflt TyExpr)) hr
    have hw := wrap_succ hl hk
    have ih2 : ∀ (z2 : Int) (r : Int), P_laws_heldExprS_0_2 rest z2 = some r → Ev (fun n => L_laws_heldExprS_0_2 n x1 z2 (IntKind.wrap .i64 ((k : Int) + 1))) r := by
      intro z2 r h; rw [hw]; exact ih (k + 1) z2 r hr2 h
    rw [P_laws_heldExprS_0_2] at h
    refine Ev.step ?_ (fun n => L_laws_heldExprS_0_2_eq n x1 x2 (k : Int))
    rw [show decide ((k : Int) < (x1.length : Int)) = true from decide_eq_true (by omega), inB_nat2 hk, hx]
    exact Ev.pos rfl (Ev.pos rfl (Ev.ofBif h (fun h => (Ev.ofSome h)) (fun h => (Ev.pos rfl (Ev.ofBind h fun y1 h => (Ev.ofBif h (fun h => (Ev.ofSome h)) (fun h => (Ev.pos rfl (Ev.ofBif h (fun h => (Ev.ofSome h)) (fun h => (Ev.pos rfl (Ev.ofBif h (fun h => (Ev.ofSome h)) (fun h => (Ev.pos rfl (Ev.ofBind h fun y2 h => (Ev.ofBif h (fun h => (Ev.ofSome h)) (fun h => (Ev.pos rfl (Ev.ofBind h fun y3 h => (Ev.ofBif h (fun h => (Ev.ofSome h)) (fun h => (Ev.pos rfl (Ev.ofBif h (fun h => (Ev.ofSome h)) (fun h => (ih2 _ _ h)))))))))))))))))))))))))
theorem S_laws_heldExprS (a0 : (List DExpr)) (a1 : Int) {r : Int} (h : P_laws_heldExprS a0 a1 = some r) : Ev (fun n => F_laws_heldExprS n a0 a1) r := by
  rw [P_laws_heldExprS] at h
  refine Ev.of_eq ?_ (fun n => F_laws_heldExprS_eq n a0 a1)
  exact (Ev.ofLen h fun hl h => S_laws_heldExprS_0_2 hl _ (0 : Nat) _ _ rfl h)
theorem hcs_laws_heldExprS : ∀ x ∈ cs_laws_heldExprS, CtrOk Tryd.prog x := (conOf_cons ok_laws_markText conOf_nil)
theorem ok_laws_heldExprS : CtrOk Tryd.prog (c_laws_heldExprS) := by
  refine ctr_of_run (c := c_laws_heldExprS) (by kernel_rfl) (by kernel_rfl : Tryd.prog.funcs[41]? = some Tryd.f41) (code := Tryd.f41.body.getD .skip) (by kernel_rfl) (by kernel_rfl) (by kernel_rfl) (A := A_laws_heldExprS) (I := In_laws_heldExprS) (hcs_laws_heldExprS) ?_
  rintro ⟨a0, a1, u⟩ y hy
  exact (S_laws_heldExprS a0 a1 hy).get

/-! ## laws.heldPolicy (13) -/
noncomputable def P_laws_heldPolicy (a0 : DPolicy) (a1 : Int) : Option Int :=
  Option.bind (P_laws_heldExprS a0.2.2.2.2.2 a1) fun (y1 : Int) =>
  bif decide (y1 < 0) then
    some (-1)
  else
    some y1
noncomputable def c_laws_heldPolicy : Ctr := ⟨13, [TyPolicy, I64], [I64], fun x => P_laws_heldPolicy x.1 x.2.1⟩
def A_laws_heldPolicy : List (List Nat × Ann) := []
def In_laws_heldPolicy : List (List Nat × Nat) := []
noncomputable def cs_laws_heldPolicy : List Ctr := [c_laws_heldExprS]
noncomputable def F_laws_heldPolicy (n : Nat) (a0 : DPolicy) (a1 : Int) : Option Int := run Tryd.prog A_laws_heldPolicy In_laws_heldPolicy (conOf cs_laws_heldPolicy) Tryd.f13 (Tryd.f13.body.getD .skip) (packT [I64]) n (argsV [TyPolicy, I64] (a0, a1, ()))
theorem F_laws_heldPolicy_eq (n : Nat) (a0 : DPolicy) (a1 : Int) : F_laws_heldPolicy n a0 a1 =
    Option.bind (P_laws_heldExprS a0.2.2.2.2.2 a1) fun (y1 : Int) =>
    bif decide (y1 < 0) then
      some (-1)
    else
      some y1 := by kernel_rfl
theorem S_laws_heldPolicy (a0 : DPolicy) (a1 : Int) {r : Int} (h : P_laws_heldPolicy a0 a1 = some r) : Ev (fun n => F_laws_heldPolicy n a0 a1) r := by
  rw [P_laws_heldPolicy] at h
  refine Ev.of_eq ?_ (fun n => F_laws_heldPolicy_eq n a0 a1)
  exact (Ev.ofBind h fun y1 h => (Ev.ofBif h (fun h => (Ev.ofSome h)) (fun h => (Ev.ofSome h))))
theorem hcs_laws_heldPolicy : ∀ x ∈ cs_laws_heldPolicy, CtrOk Tryd.prog x := (conOf_cons ok_laws_heldExprS conOf_nil)
theorem ok_laws_heldPolicy : CtrOk Tryd.prog (c_laws_heldPolicy) := by
  refine ctr_of_run (c := c_laws_heldPolicy) (by kernel_rfl) (by kernel_rfl : Tryd.prog.funcs[13]? = some Tryd.f13) (code := Tryd.f13.body.getD .skip) (by kernel_rfl) (by kernel_rfl) (by kernel_rfl) (A := A_laws_heldPolicy) (I := In_laws_heldPolicy) (hcs_laws_heldPolicy) ?_
  rintro ⟨a0, a1, u⟩ y hy
  exact (S_laws_heldPolicy a0 a1 hy).get

/-! ## laws.szAtom (6) -/
noncomputable def c_laws_szAtom : Ctr := ⟨6, [TyAtom, I64], [I64], fun x => szC TyAtom x.1 x.2.1⟩
def A_laws_szAtom : List (List Nat × Ann) := []
def In_laws_szAtom : List (List Nat × Nat) := []
noncomputable def cs_laws_szAtom : List Ctr := []
noncomputable def F_laws_szAtom (n : Nat) (a0 : DAtom) (a1 : Int) : Option Int := run Tryd.prog A_laws_szAtom In_laws_szAtom (conOf cs_laws_szAtom) Tryd.f6 (Tryd.f6.body.getD .skip) (packT [I64]) n (argsV [TyAtom, I64] (a0, a1, ()))
theorem F_laws_szAtom_eq (n : Nat) (a0 : DAtom) (a1 : Int) : F_laws_szAtom n a0 a1 =
    bif decide (IntKind.wrap .i64 (a1 - (a0.2.2.1.length : Int)) < 0) then
      some (-1)
    else
      bif decide (IntKind.wrap .i64 ((IntKind.wrap .i64 (a1 - (a0.2.2.1.length : Int))) - (a0.2.2.2.length : Int)) < 0) then
        some (-1)
      else
        some (IntKind.wrap .i64 ((IntKind.wrap .i64 (a1 - (a0.2.2.1.length : Int))) - (a0.2.2.2.length : Int))) := by kernel_rfl
theorem mk_laws_szAtom (hcs : ∀ x ∈ cs_laws_szAtom, CtrOk Tryd.prog x) (h : ∀ (a0 : DAtom) (a1 : Int) y, szC TyAtom a0 a1 = some y → ∃ n, F_laws_szAtom n a0 a1 = some y) : CtrOk Tryd.prog c_laws_szAtom := by
  refine ctr_of_run (c := c_laws_szAtom) (by kernel_rfl) (by kernel_rfl : Tryd.prog.funcs[6]? = some Tryd.f6) (code := Tryd.f6.body.getD .skip) (by kernel_rfl) (by kernel_rfl) (by kernel_rfl) (A := A_laws_szAtom) (I := In_laws_szAtom) hcs ?_
  rintro ⟨a0, a1, u⟩ y hy
  exact h a0 a1 y hy

theorem hcs_laws_szAtom : ∀ x ∈ cs_laws_szAtom, CtrOk Tryd.prog x := conOf_nil
theorem ok_laws_szAtom : CtrOk Tryd.prog c_laws_szAtom := mk_laws_szAtom hcs_laws_szAtom fun a0 a1 y hy => by
  obtain ⟨hw, h0, h1, rfl⟩ := szC_inv hy
  have hw2 : wfD I64 a0.1 ∧ wfD I64 a0.2.1 ∧ wfD .str a0.2.2.1 ∧ wfD .str a0.2.2.2 := hw
  have hsz : Ty.size TyAtom a0 = Ty.size I64 a0.1 + (Ty.size I64 a0.2.1 + (Ty.size .str a0.2.2.1 + (Ty.size .str a0.2.2.2))) := rfl
  have z0 : Ty.size I64 a0.1 = 0 := rfl
  have z1 : Ty.size I64 a0.2.1 = 0 := rfl
  have z2 : Ty.size .str a0.2.2.1 = a0.2.2.1.length := rfl
  have z3 : Ty.size .str a0.2.2.2 = a0.2.2.2.length := rfl
  refine ⟨0, ?_⟩
  rw [F_laws_szAtom_eq, hsz]
  have hn2 : a0.2.2.1.length ≤ maxLen := by have := (hw2.2.2.1).1; unfold maxLen; omega
  rw [lessZ_wrap (left := a1) (n := a0.2.2.1.length) (by omega) (by omega) hn2]
  rcases Int.lt_or_le (a1) (a0.2.2.1.length : Int) with h | h
  · rw [decide_eq_true (show (a1 - (a0.2.2.1.length : Int)) < 0 by omega)]; simp only [cond_true]; unfold lessZ; rw [if_neg (by omega)]
  rw [decide_eq_false (show ¬ (a1 - (a0.2.2.1.length : Int)) < 0 by omega)]; simp only [cond_false]
  have h_2 := h; clear h
  have hn3 : a0.2.2.2.length ≤ maxLen := by have := (hw2.2.2.2).1; unfold maxLen; omega
  rw [lessZ_wrap (left := (a1 - (a0.2.2.1.length : Int))) (n := a0.2.2.2.length) (by omega) (by omega) hn3]
  rcases Int.lt_or_le ((a1 - (a0.2.2.1.length : Int))) (a0.2.2.2.length : Int) with h | h
  · rw [decide_eq_true (show ((a1 - (a0.2.2.1.length : Int)) - (a0.2.2.2.length : Int)) < 0 by omega)]; simp only [cond_true]; unfold lessZ; rw [if_neg (by omega)]
  rw [decide_eq_false (show ¬ ((a1 - (a0.2.2.1.length : Int)) - (a0.2.2.2.length : Int)) < 0 by omega)]; simp only [cond_false]
  have h_3 := h; clear h
  unfold lessZ; rw [if_pos (by omega)]; congr 1 <;> omega
/-! ## laws.szHead (23) -/
noncomputable def c_laws_szHead : Ctr := ⟨23, [TyHead, I64], [I64], fun x => szC TyHead x.1 x.2.1⟩
def A_laws_szHead : List (List Nat × Ann) := []
def In_laws_szHead : List (List Nat × Nat) := []
noncomputable def cs_laws_szHead : List Ctr := [c_laws_szAtom]
noncomputable def F_laws_szHead (n : Nat) (a0 : DHead) (a1 : Int) : Option Int := run Tryd.prog A_laws_szHead In_laws_szHead (conOf cs_laws_szHead) Tryd.f23 (Tryd.f23.body.getD .skip) (packT [I64]) n (argsV [TyHead, I64] (a0, a1, ()))
theorem F_laws_szHead_eq (n : Nat) (a0 : DHead) (a1 : Int) : F_laws_szHead n a0 a1 =
    Option.bind (szC TyAtom a0.2.1 a1) fun (y1 : Int) =>
    bif decide (y1 < 0) then
      some (-1)
    else
      bif decide (IntKind.wrap .i64 (y1 - (a0.2.2.length : Int)) < 0) then
        some (-1)
      else
        some (IntKind.wrap .i64 (y1 - (a0.2.2.length : Int))) := by kernel_rfl
theorem mk_laws_szHead (hcs : ∀ x ∈ cs_laws_szHead, CtrOk Tryd.prog x) (h : ∀ (a0 : DHead) (a1 : Int) y, szC TyHead a0 a1 = some y → ∃ n, F_laws_szHead n a0 a1 = some y) : CtrOk Tryd.prog c_laws_szHead := by
  refine ctr_of_run (c := c_laws_szHead) (by kernel_rfl) (by kernel_rfl : Tryd.prog.funcs[23]? = some Tryd.f23) (code := Tryd.f23.body.getD .skip) (by kernel_rfl) (by kernel_rfl) (by kernel_rfl) (A := A_laws_szHead) (I := In_laws_szHead) hcs ?_
  rintro ⟨a0, a1, u⟩ y hy
  exact h a0 a1 y hy

theorem hcs_laws_szHead : ∀ x ∈ cs_laws_szHead, CtrOk Tryd.prog x := (conOf_cons ok_laws_szAtom conOf_nil)
theorem ok_laws_szHead : CtrOk Tryd.prog c_laws_szHead := mk_laws_szHead hcs_laws_szHead fun a0 a1 y hy => by
  obtain ⟨hw, h0, h1, rfl⟩ := szC_inv hy
  have hw2 : wfD I64 a0.1 ∧ wfD TyAtom a0.2.1 ∧ wfD .str a0.2.2 := hw
  have hsz : Ty.size TyHead a0 = Ty.size I64 a0.1 + (Ty.size TyAtom a0.2.1 + (Ty.size .str a0.2.2)) := rfl
  have z0 : Ty.size I64 a0.1 = 0 := rfl
  have z2 : Ty.size .str a0.2.2 = a0.2.2.length := rfl
  refine ⟨0, ?_⟩
  rw [F_laws_szHead_eq, hsz]
  rw [szC_some hw2.2.1 (show 0 ≤ a1 by omega) (by omega)]
  simp only [Option.bind_some]
  rcases Int.lt_or_le (a1) ((Ty.size TyAtom a0.2.1 : Nat) : Int) with h | h
  · rw [show lessZ (a1) (Ty.size TyAtom a0.2.1) = -1 by unfold lessZ; rw [if_neg (by omega)]]; rw [decide_eq_true (show (-1 : Int) < 0 by omega)]; simp only [cond_true]; unfold lessZ; rw [if_neg (by omega)]
  rw [show lessZ (a1) (Ty.size TyAtom a0.2.1) = (a1 - ((Ty.size TyAtom a0.2.1 : Nat) : Int)) by unfold lessZ; rw [if_pos h]]; rw [decide_eq_false (show ¬ (a1 - ((Ty.size TyAtom a0.2.1 : Nat) : Int)) < 0 by omega)]; simp only [cond_false]
  have h_1 := h; clear h
  have hn2 : a0.2.2.length ≤ maxLen := by have := (hw2.2.2).1; unfold maxLen; omega
  rw [lessZ_wrap (left := (a1 - ((Ty.size TyAtom a0.2.1 : Nat) : Int))) (n := a0.2.2.length) (by omega) (by omega) hn2]
  rcases Int.lt_or_le ((a1 - ((Ty.size TyAtom a0.2.1 : Nat) : Int))) (a0.2.2.length : Int) with h | h
  · rw [decide_eq_true (show ((a1 - ((Ty.size TyAtom a0.2.1 : Nat) : Int)) - (a0.2.2.length : Int)) < 0 by omega)]; simp only [cond_true]; unfold lessZ; rw [if_neg (by omega)]
  rw [decide_eq_false (show ¬ ((a1 - ((Ty.size TyAtom a0.2.1 : Nat) : Int)) - (a0.2.2.length : Int)) < 0 by omega)]; simp only [cond_false]
  have h_2 := h; clear h
  unfold lessZ; rw [if_pos (by omega)]; congr 1 <;> omega
end Go.Ab
